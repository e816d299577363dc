/- The laws' head: a few numbers tried. -/
import Derived.Test.YtckahcgolfnobaaGreatDoorTabh
namespace Go.Proofs.YtckahcgolfnobaaGreatDoor
open Go Go.RowKit

set_option maxHeartbeats 20000000 in
set_option maxRecDepth 100000 in
theorem head_any (w : World) : Calls Tryz.prog 11 #[] w fun e w' => e = .returned (.bool true) ∧ Fol w w' := by
  have Hinv37 := h_inv 3 7 5 (by omega) (by omega) (by omega) (by decide) (by omega)
  have Hinv1 := h_inv 12 1 0 (by omega) (by omega) (by omega) (by decide) (by omega)
  have Hinv24 := h_invno 2 4 (by omega) (by omega) (by decide)
  have Hinv10 := h_invno 1 0 (by omega) (by omega) (by decide)
  have Hpow24 := h_pow 2 10 1000 24 (by omega) (by omega) (by omega) (by omega) (by decide)
  have Hpow01 := h_pow 0 0 5 1 (by omega) (by omega) (by omega) (by omega) (by decide)
  have Hquots3 := h_quots 12 18 [0, 1, 2] (by omega) (by omega) (by simp [quots])
  have Hquots0 := h_quots 12 0 [] (by omega) (by omega) (by simp [quots])
  have Hgcd6 := h_gcd 12 18 6 (by omega) (by omega) (by decide)
  have Hgcd0 := h_gcd 0 0 0 (by omega) (by omega) (by decide)
  have Hleh6 := h_leh 18 12 6 (by omega) (by omega) (by decide)
  have Hhalf6 := h_half 12 18 6 (by omega) (by omega) (by decide)
  have Hhalf18 := h_half 0 18 18 (by omega) (by omega) (by decide)
  have Hofn := h_of (-1) (by omega) (by omega)
  have Hof1 := h_of 1 (by omega) (by omega)
  have Hof0 := h_of 0 (by omega) (by omega)
  go_enter Tryz.func11, Tryz.ntmps11
  go_wp2_with fail
  obtain ⟨u0, hu0⟩ : ∃ u, u = w := ⟨_, rfl⟩
  have hF : Fol w u0 := by rw [hu0]; exact Fol.refl _
  rw [← hu0]
  clear hu0
  have nn := natV_nil u0
  obtain ⟨n1, n2, n3, hk⟩ := lit3 12 18 1 u0 (by omega) (by omega) (by omega) (by omega) (by omega) (by omega)
  replace nn := nn.fol hk
  replace hF := Fol.trans hF hk
  clear hk
  generalize (Value.slice (some ⟨u0.heap.size + 1 + 1, 0, none⟩) 1 1) = v3 at *
  generalize (Value.slice (some ⟨u0.heap.size + 1, 0, none⟩) 1 1) = v2 at *
  generalize (Value.slice (some ⟨u0.heap.size, 0, none⟩) 1 1) = v1 at *
  generalize (((u0.alloc (.cells #[.int .u32 12] 43)).alloc (.cells #[.int .u32 18] 43)).alloc (.cells #[.int .u32 1] 43)) = u1 at *
  refine (h_ext.out _ _ _ n1 n2).mono ?_
  rintro e u2 ⟨vg4, ba1, bb1, oa1, na1, ca1, ob1, nb1, cb1, rfl, n4, i5, i6, hk⟩
  replace nn := nn.fol hk
  replace n1 := n1.fol hk
  replace n2 := n2.fol hk
  replace n3 := n3.fol hk
  replace hF := Fol.trans hF hk
  clear hk
  go_wp2_with fail
  have C5 := (Cell2.new u2 (.bool ba1) (.slice oa1 na1 ca1)).fol (Fol.new _ (.cells #[.bool bb1, .slice ob1 nb1 cb1] 27))
  have C6 := Cell2.new1 u2 (.cells #[.bool ba1, .slice oa1 na1 ca1] 27) (.bool bb1) (.slice ob1 nb1 cb1)
  have hk := fol2 u2 (.cells #[.bool ba1, .slice oa1 na1 ca1] 27) (.cells #[.bool bb1, .slice ob1 nb1 cb1] 27)
  replace nn := nn.fol hk
  replace n1 := n1.fol hk
  replace n2 := n2.fol hk
  replace n3 := n3.fol hk
  replace n4 := n4.fol hk
  replace i5 := i5.fol hk
  replace i6 := i6.fol hk
  replace hF := Fol.trans hF hk
  clear hk
  generalize u2.heap.size + 1 = b6 at *
  generalize u2.heap.size = b5 at *
  generalize (u2.alloc (.cells #[.bool ba1, .slice oa1 na1 ca1] 27)).alloc (.cells #[.bool bb1, .slice ob1 nb1 cb1] 27) = u3 at *
  refine (h_ext0.out _ _ _ n1 nn).mono ?_
  rintro e u4 ⟨vg7, ba2, bb2, oa2, na2, ca2, ob2, nb2, cb2, rfl, n7, i8, i9, hk⟩
  replace nn := nn.fol hk
  replace n1 := n1.fol hk
  replace n2 := n2.fol hk
  replace n3 := n3.fol hk
  replace n4 := n4.fol hk
  replace i5 := i5.fol hk
  replace i6 := i6.fol hk
  replace C5 := C5.fol hk
  replace C6 := C6.fol hk
  replace hF := Fol.trans hF hk
  clear hk
  go_wp2_with fail
  have C8 := (Cell2.new u4 (.bool ba2) (.slice oa2 na2 ca2)).fol (Fol.new _ (.cells #[.bool bb2, .slice ob2 nb2 cb2] 27))
  have C9 := Cell2.new1 u4 (.cells #[.bool ba2, .slice oa2 na2 ca2] 27) (.bool bb2) (.slice ob2 nb2 cb2)
  have hk := fol2 u4 (.cells #[.bool ba2, .slice oa2 na2 ca2] 27) (.cells #[.bool bb2, .slice ob2 nb2 cb2] 27)
  replace nn := nn.fol hk
  replace n1 := n1.fol hk
  replace n2 := n2.fol hk
  replace n3 := n3.fol hk
  replace n4 := n4.fol hk
  replace i5 := i5.fol hk
  replace i6 := i6.fol hk
  replace C5 := C5.fol hk
  replace C6 := C6.fol hk
  replace n7 := n7.fol hk
  replace i8 := i8.fol hk
  replace i9 := i9.fol hk
  replace hF := Fol.trans hF hk
  clear hk
  generalize u4.heap.size + 1 = b9 at *
  generalize u4.heap.size = b8 at *
  generalize (u4.alloc (.cells #[.bool ba2, .slice oa2 na2 ca2] 27)).alloc (.cells #[.bool bb2, .slice ob2 nb2 cb2] 27) = u5 at *
  refine (Hquots3.out _ _ _ n1 n2).mono ?_
  rintro e u6 ⟨vq, rfl, hq, hk⟩
  replace nn := nn.fol hk
  replace n1 := n1.fol hk
  replace n2 := n2.fol hk
  replace n3 := n3.fol hk
  replace n4 := n4.fol hk
  replace i5 := i5.fol hk
  replace i6 := i6.fol hk
  replace C5 := C5.fol hk
  replace C6 := C6.fol hk
  replace n7 := n7.fol hk
  replace i8 := i8.fol hk
  replace i9 := i9.fol hk
  replace C8 := C8.fol hk
  replace C9 := C9.fol hk
  replace hF := Fol.trans hF hk
  clear hk
  obtain ⟨qb, qo, qc, q0, q1, q2, rfl, hqc, Q0, Q1, Q2⟩ := hq.three
  clear hq
  have hz := Q0.2.2.zero
  obtain ⟨zo, zc, rfl⟩ := hz
  go_wp2_with fail
  obtain ⟨na, nb, hk⟩ := lit2 3 7 u6 (by omega) (by omega) (by omega) (by omega)
  replace nn := nn.fol hk
  replace n1 := n1.fol hk
  replace n2 := n2.fol hk
  replace n3 := n3.fol hk
  replace n4 := n4.fol hk
  replace i5 := i5.fol hk
  replace i6 := i6.fol hk
  replace C5 := C5.fol hk
  replace C6 := C6.fol hk
  replace n7 := n7.fol hk
  replace i8 := i8.fol hk
  replace i9 := i9.fol hk
  replace C8 := C8.fol hk
  replace C9 := C9.fol hk
  replace Q0 := Q0.fol hk
  replace Q1 := Q1.fol hk
  replace Q2 := Q2.fol hk
  replace hF := Fol.trans hF hk
  clear hk
  generalize (Value.slice (some ⟨u6.heap.size + 1, 0, none⟩) 1 1) = vb at *
  generalize (Value.slice (some ⟨u6.heap.size, 0, none⟩) 1 1) = va at *
  generalize ((u6.alloc (.cells #[.int .u32 3] 43)).alloc (.cells #[.int .u32 7] 43)) = u7 at *
  refine (Hinv37.out _ _ _ na nb).mono ?_
  rintro e u8 ⟨v11, rfl, n11, hk⟩
  replace nn := nn.fol hk
  replace n1 := n1.fol hk
  replace n2 := n2.fol hk
  replace n3 := n3.fol hk
  replace n4 := n4.fol hk
  replace i5 := i5.fol hk
  replace i6 := i6.fol hk
  replace C5 := C5.fol hk
  replace C6 := C6.fol hk
  replace n7 := n7.fol hk
  replace i8 := i8.fol hk
  replace i9 := i9.fol hk
  replace C8 := C8.fol hk
  replace C9 := C9.fol hk
  replace Q0 := Q0.fol hk
  replace Q1 := Q1.fol hk
  replace Q2 := Q2.fol hk
  replace na := na.fol hk
  replace nb := nb.fol hk
  replace hF := Fol.trans hF hk
  clear hk
  go_wp2_with fail
  obtain ⟨nc, nd, hk⟩ := lit2 2 4 u8 (by omega) (by omega) (by omega) (by omega)
  replace nn := nn.fol hk
  replace n1 := n1.fol hk
  replace n2 := n2.fol hk
  replace n3 := n3.fol hk
  replace n4 := n4.fol hk
  replace i5 := i5.fol hk
  replace i6 := i6.fol hk
  replace C5 := C5.fol hk
  replace C6 := C6.fol hk
  replace n7 := n7.fol hk
  replace i8 := i8.fol hk
  replace i9 := i9.fol hk
  replace C8 := C8.fol hk
  replace C9 := C9.fol hk
  replace Q0 := Q0.fol hk
  replace Q1 := Q1.fol hk
  replace Q2 := Q2.fol hk
  replace na := na.fol hk
  replace nb := nb.fol hk
  replace n11 := n11.fol hk
  replace hF := Fol.trans hF hk
  clear hk
  generalize (Value.slice (some ⟨u8.heap.size + 1, 0, none⟩) 1 1) = vd at *
  generalize (Value.slice (some ⟨u8.heap.size, 0, none⟩) 1 1) = vc at *
  generalize ((u8.alloc (.cells #[.int .u32 2] 43)).alloc (.cells #[.int .u32 4] 43)) = u9 at *
  refine (Hinv24.out _ _ _ nc nd).mono ?_
  rintro e u10 ⟨rfl, hk⟩
  replace nn := nn.fol hk
  replace n1 := n1.fol hk
  replace n2 := n2.fol hk
  replace n3 := n3.fol hk
  replace n4 := n4.fol hk
  replace i5 := i5.fol hk
  replace i6 := i6.fol hk
  replace C5 := C5.fol hk
  replace C6 := C6.fol hk
  replace n7 := n7.fol hk
  replace i8 := i8.fol hk
  replace i9 := i9.fol hk
  replace C8 := C8.fol hk
  replace C9 := C9.fol hk
  replace Q0 := Q0.fol hk
  replace Q1 := Q1.fol hk
  replace Q2 := Q2.fol hk
  replace na := na.fol hk
  replace nb := nb.fol hk
  replace n11 := n11.fol hk
  replace nc := nc.fol hk
  replace nd := nd.fol hk
  replace hF := Fol.trans hF hk
  clear hk
  go_wp2_with fail
  refine (Hinv10.out _ _ _ n3 nn).mono ?_
  rintro e u11 ⟨rfl, hk⟩
  replace nn := nn.fol hk
  replace n1 := n1.fol hk
  replace n2 := n2.fol hk
  replace n3 := n3.fol hk
  replace n4 := n4.fol hk
  replace i5 := i5.fol hk
  replace i6 := i6.fol hk
  replace C5 := C5.fol hk
  replace C6 := C6.fol hk
  replace n7 := n7.fol hk
  replace i8 := i8.fol hk
  replace i9 := i9.fol hk
  replace C8 := C8.fol hk
  replace C9 := C9.fol hk
  replace Q0 := Q0.fol hk
  replace Q1 := Q1.fol hk
  replace Q2 := Q2.fol hk
  replace na := na.fol hk
  replace nb := nb.fol hk
  replace n11 := n11.fol hk
  replace nc := nc.fol hk
  replace nd := nd.fol hk
  replace hF := Fol.trans hF hk
  clear hk
  go_wp2_with fail
  refine (Hinv1.out _ _ _ n1 n3).mono ?_
  rintro e u12 ⟨v17, rfl, n17, hk⟩
  replace nn := nn.fol hk
  replace n1 := n1.fol hk
  replace n2 := n2.fol hk
  replace n3 := n3.fol hk
  replace n4 := n4.fol hk
  replace i5 := i5.fol hk
  replace i6 := i6.fol hk
  replace C5 := C5.fol hk
  replace C6 := C6.fol hk
  replace n7 := n7.fol hk
  replace i8 := i8.fol hk
  replace i9 := i9.fol hk
  replace C8 := C8.fol hk
  replace C9 := C9.fol hk
  replace Q0 := Q0.fol hk
  replace Q1 := Q1.fol hk
  replace Q2 := Q2.fol hk
  replace na := na.fol hk
  replace nb := nb.fol hk
  replace n11 := n11.fol hk
  replace nc := nc.fol hk
  replace nd := nd.fol hk
  replace hF := Fol.trans hF hk
  clear hk
  obtain ⟨zo17, zc17, rfl⟩ := n17.zero
  go_wp2_with fail
  obtain ⟨ne, nf, ng, hk⟩ := lit3 2 10 1000 u12 (by omega) (by omega) (by omega) (by omega) (by omega) (by omega)
  replace nn := nn.fol hk
  replace n1 := n1.fol hk
  replace n2 := n2.fol hk
  replace n3 := n3.fol hk
  replace n4 := n4.fol hk
  replace i5 := i5.fol hk
  replace i6 := i6.fol hk
  replace C5 := C5.fol hk
  replace C6 := C6.fol hk
  replace n7 := n7.fol hk
  replace i8 := i8.fol hk
  replace i9 := i9.fol hk
  replace C8 := C8.fol hk
  replace C9 := C9.fol hk
  replace Q0 := Q0.fol hk
  replace Q1 := Q1.fol hk
  replace Q2 := Q2.fol hk
  replace na := na.fol hk
  replace nb := nb.fol hk
  replace n11 := n11.fol hk
  replace nc := nc.fol hk
  replace nd := nd.fol hk
  replace n17 := n17.fol hk
  replace hF := Fol.trans hF hk
  clear hk
  generalize (Value.slice (some ⟨u12.heap.size + 1 + 1, 0, none⟩) 1 1) = vg at *
  generalize (Value.slice (some ⟨u12.heap.size + 1, 0, none⟩) 1 1) = vf at *
  generalize (Value.slice (some ⟨u12.heap.size, 0, none⟩) 1 1) = ve at *
  generalize (((u12.alloc (.cells #[.int .u32 2] 43)).alloc (.cells #[.int .u32 10] 43)).alloc (.cells #[.int .u32 1000] 43)) = u13 at *
  refine (Hpow24.out _ _ _ _ ne nf ng).mono ?_
  rintro e u14 ⟨v19, rfl, n19, hk⟩
  replace nn := nn.fol hk
  replace n1 := n1.fol hk
  replace n2 := n2.fol hk
  replace n3 := n3.fol hk
  replace n4 := n4.fol hk
  replace i5 := i5.fol hk
  replace i6 := i6.fol hk
  replace C5 := C5.fol hk
  replace C6 := C6.fol hk
  replace n7 := n7.fol hk
  replace i8 := i8.fol hk
  replace i9 := i9.fol hk
  replace C8 := C8.fol hk
  replace C9 := C9.fol hk
  replace Q0 := Q0.fol hk
  replace Q1 := Q1.fol hk
  replace Q2 := Q2.fol hk
  replace na := na.fol hk
  replace nb := nb.fol hk
  replace n11 := n11.fol hk
  replace nc := nc.fol hk
  replace nd := nd.fol hk
  replace n17 := n17.fol hk
  replace ne := ne.fol hk
  replace nf := nf.fol hk
  replace ng := ng.fol hk
  replace hF := Fol.trans hF hk
  clear hk
  go_wp2_with fail
  have nh := lit_new 5 u14 (by omega) (by omega)
  have hk := Fol.new u14 (.cells #[.int .u32 5] 43)
  replace nn := nn.fol hk
  replace n1 := n1.fol hk
  replace n2 := n2.fol hk
  replace n3 := n3.fol hk
  replace n4 := n4.fol hk
  replace i5 := i5.fol hk
  replace i6 := i6.fol hk
  replace C5 := C5.fol hk
  replace C6 := C6.fol hk
  replace n7 := n7.fol hk
  replace i8 := i8.fol hk
  replace i9 := i9.fol hk
  replace C8 := C8.fol hk
  replace C9 := C9.fol hk
  replace Q0 := Q0.fol hk
  replace Q1 := Q1.fol hk
  replace Q2 := Q2.fol hk
  replace na := na.fol hk
  replace nb := nb.fol hk
  replace n11 := n11.fol hk
  replace nc := nc.fol hk
  replace nd := nd.fol hk
  replace n17 := n17.fol hk
  replace ne := ne.fol hk
  replace nf := nf.fol hk
  replace ng := ng.fol hk
  replace n19 := n19.fol hk
  replace hF := Fol.trans hF hk
  clear hk
  generalize (Value.slice (some ⟨u14.heap.size, 0, none⟩) 1 1) = vh at *
  generalize (u14.alloc (.cells #[.int .u32 5] 43)) = u15 at *
  refine (Hpow01.out _ _ _ _ nn nn nh).mono ?_
  rintro e u16 ⟨v21, rfl, n21, hk⟩
  replace nn := nn.fol hk
  replace n1 := n1.fol hk
  replace n2 := n2.fol hk
  replace n3 := n3.fol hk
  replace n4 := n4.fol hk
  replace i5 := i5.fol hk
  replace i6 := i6.fol hk
  replace C5 := C5.fol hk
  replace C6 := C6.fol hk
  replace n7 := n7.fol hk
  replace i8 := i8.fol hk
  replace i9 := i9.fol hk
  replace C8 := C8.fol hk
  replace C9 := C9.fol hk
  replace Q0 := Q0.fol hk
  replace Q1 := Q1.fol hk
  replace Q2 := Q2.fol hk
  replace na := na.fol hk
  replace nb := nb.fol hk
  replace n11 := n11.fol hk
  replace nc := nc.fol hk
  replace nd := nd.fol hk
  replace n17 := n17.fol hk
  replace ne := ne.fol hk
  replace nf := nf.fol hk
  replace ng := ng.fol hk
  replace n19 := n19.fol hk
  replace nh := nh.fol hk
  replace hF := Fol.trans hF hk
  clear hk
  go_wp2_with fail
  refine (h_powno.out _ _ _ _ nn).mono ?_
  rintro e u17 ⟨rfl, hk⟩
  replace nn := nn.fol hk
  replace n1 := n1.fol hk
  replace n2 := n2.fol hk
  replace n3 := n3.fol hk
  replace n4 := n4.fol hk
  replace i5 := i5.fol hk
  replace i6 := i6.fol hk
  replace C5 := C5.fol hk
  replace C6 := C6.fol hk
  replace n7 := n7.fol hk
  replace i8 := i8.fol hk
  replace i9 := i9.fol hk
  replace C8 := C8.fol hk
  replace C9 := C9.fol hk
  replace Q0 := Q0.fol hk
  replace Q1 := Q1.fol hk
  replace Q2 := Q2.fol hk
  replace na := na.fol hk
  replace nb := nb.fol hk
  replace n11 := n11.fol hk
  replace nc := nc.fol hk
  replace nd := nd.fol hk
  replace n17 := n17.fol hk
  replace ne := ne.fol hk
  replace nf := nf.fol hk
  replace ng := ng.fol hk
  replace n19 := n19.fol hk
  replace nh := nh.fol hk
  replace n21 := n21.fol hk
  replace hF := Fol.trans hF hk
  clear hk
  go_wp2_with fail
  have hk := Fol.draw u17
  replace nn := nn.fol hk
  replace n1 := n1.fol hk
  replace n2 := n2.fol hk
  replace n3 := n3.fol hk
  replace n4 := n4.fol hk
  replace i5 := i5.fol hk
  replace i6 := i6.fol hk
  replace C5 := C5.fol hk
  replace C6 := C6.fol hk
  replace n7 := n7.fol hk
  replace i8 := i8.fol hk
  replace i9 := i9.fol hk
  replace C8 := C8.fol hk
  replace C9 := C9.fol hk
  replace Q0 := Q0.fol hk
  replace Q1 := Q1.fol hk
  replace Q2 := Q2.fol hk
  replace na := na.fol hk
  replace nb := nb.fol hk
  replace n11 := n11.fol hk
  replace nc := nc.fol hk
  replace nd := nd.fol hk
  replace n17 := n17.fol hk
  replace ne := ne.fol hk
  replace nf := nf.fol hk
  replace ng := ng.fol hk
  replace n19 := n19.fol hk
  replace nh := nh.fol hk
  replace n21 := n21.fol hk
  replace hF := Fol.trans hF hk
  clear hk
  refine wp_region_noPanic ?_
  refine wp_region_held_drew (S := fun W => W.cell? ⟨b5, 0, none⟩ = some (.bool ba1) ∧ W.cell? ⟨b5, 1, none⟩ = some (.slice oa1 na1 ca1) ∧ W.cell? ⟨b6, 0, none⟩ = some (.bool bb1) ∧ W.cell? ⟨b6, 1, none⟩ = some (.slice ob1 nb1 cb1) ∧ W.cell? ⟨b8, 0, none⟩ = some (.bool ba2) ∧ W.cell? ⟨b8, 1, none⟩ = some (.slice oa2 na2 ca2) ∧ W.cell? ⟨b9, 0, none⟩ = some (.bool bb2) ∧ W.cell? ⟨b9, 1, none⟩ = some (.slice ob2 nb2 cb2) ∧ W.cell? ⟨qb, qo, none⟩ = some (.slice zo 0 zc) ∧ W.cell? ⟨qb, qo + 1, none⟩ = some q1 ∧ W.cell? ⟨qb, qo + 2, none⟩ = some q2) (by kernel_rfl) ⟨C5.c0, C5.c1, C6.c0, C6.c1, C8.c0, C8.c1, C9.c0, C9.c1, Q0.2.1, Q1.2.1, Q2.2.1⟩ (fun hS => ?_)
  refine with_tab [([], some 88, [1]), ([], some 89, [2]), ([0, 1], some 90, [88, 89]), ([], some 91, []), ([2, 3, 2], some 92, [90, 91]), ([4, 4], some 93, [92]), ([5], some 94, [2, 93]), ([5], some 95, [1, 93]), ([6, 7, 5, 5], some 96, [94, 95, 93]), ([5], some 97, [93]), ([8, 9, 8, 5], some 98, [96, 97, 93]), ([5, 10], some 99, [93, 98]), ([11, 10], some 100, [99]), ([12], some 101, [1, 100]), ([12], some 102, [2, 100]), ([13, 14, 12, 12], some 103, [101, 102, 100]), ([12], some 104, [100]), ([15, 16, 15, 12], some 105, [103, 104, 100]), ([12, 17], some 106, [100, 105]), ([18, 17], some 107, [106]), ([19, 19], some 108, [107]), ([20, 19], some 109, [108, 107]), ([21, 19], some 110, [109, 107]), ([19, 22], some 111, [107, 110]), ([23, 20], some 112, [111]), ([24], some 113, [2, 112]), ([25, 24, 24], some 114, [113, 112]), ([24], some 115, [2, 112]), ([26, 27, 26, 24], some 116, [114, 115, 112]), ([24, 28], some 117, [112, 116]), ([29, 28], some 118, [117]), ([30], some 119, [4, 118]), ([30], some 120, [118]), ([31, 32, 30, 30], some 121, [119, 120, 118]), ([30, 33], some 122, [118, 121]), ([34, 33], some 123, [122]), ([35], some 124, [5, 123]), ([35, 35], some 125, [123]), ([36, 37, 37, 35], some 126, [124, 125, 123]), ([35, 38], some 127, [123, 126]), ([39, 38], some 128, [127]), ([40], some 129, [6, 128]), ([40, 40], some 130, [128]), ([41, 42, 42, 40], some 131, [129, 130, 128]), ([40, 43], some 132, [128, 131]), ([44, 43], some 133, [132]), ([45], some 134, [7, 133]), ([45], some 135, [1, 133]), ([46, 47, 45, 45], some 136, [134, 135, 133]), ([45, 48], some 137, [133, 136]), ([49, 48], some 138, [137]), ([50], some 139, [8, 138]), ([50, 50], some 140, [138]), ([51, 52, 52, 50], some 141, [139, 140, 138]), ([50, 53], some 142, [138, 141]), ([54, 53], some 143, [142]), ([55], some 144, [9, 143]), ([55, 55], some 145, [143]), ([56, 57, 57, 55], some 146, [144, 145, 143]), ([55, 58], some 147, [143, 146]), ([59, 58], some 148, [147]), ([60], some 149, [10, 148]), ([61, 60], some 150, [149, 148]), ([62, 60], some 151, [150, 148]), ([63, 60], some 152, [151, 148]), ([64, 60], some 153, [152, 148]), ([60, 65], some 154, [148, 153]), ([66, 60], some 155, [154]), ([67], some 156, [10, 155]), ([68, 67], some 157, [156, 155]), ([69, 67], some 158, [157, 155]), ([67], some 159, [3, 155]), ([70, 71, 67, 67], some 160, [158, 159, 155]), ([67, 72], some 161, [155, 160]), ([73, 72], some 162, [161]), ([74], some 163, [10, 162]), ([75, 74], some 164, [163, 162]), ([76, 74], some 165, [164, 162]), ([74], some 166, [162]), ([77, 78, 74, 74], some 167, [165, 166, 162]), ([74, 79], some 168, [162, 167]), ([80, 79], some 169, [168]), ([81], some 170, [1, 169]), ([82, 81, 81], some 171, [170, 169]), ([83, 81], some 172, [171, 169]), ([84, 81], some 173, [172, 169]), ([81, 85], some 174, [169, 173]), ([86, 83], some 175, [174]), ([87], some 176, [11, 175]), ([87], some 177, [175]), ([88, 89, 87, 87], some 178, [176, 177, 175]), ([87, 90], some 179, [175, 178]), ([91, 90], some 180, [179]), ([92], some 181, [12, 180]), ([93, 92], some 182, [181, 180]), ([92, 94], some 183, [180, 182]), ([95, 92], some 184, [183]), ([96], some 185, [14, 184]), ([97, 96], some 186, [185, 184]), ([96, 98], some 187, [184, 186]), ([99, 96], some 188, [187]), ([100], some 189, [16, 188]), ([101, 100], some 190, [189, 188]), ([100, 102], some 191, [188, 190]), ([103, 100], some 192, [191]), ([104], some 193, [17, 192]), ([105, 104], some 194, [193, 192]), ([106, 104], some 195, [194, 192]), ([104, 107], some 196, [192, 195]), ([108, 104], some 197, [196]), ([109], some 198, [18, 197]), ([110, 109], some 199, [198, 197]), ([109, 111], some 200, [197, 199]), ([112, 109], some 201, [200]), ([113], some 202, [19, 201]), ([113], some 203, [201]), ([114, 115, 113, 113], some 204, [202, 203, 201]), ([113, 116], some 205, [201, 204]), ([117, 116], some 206, [205]), ([118], some 207, [20, 206]), ([119, 118], some 208, [207, 206]), ([118, 120], some 209, [206, 208]), ([121, 118], some 210, [209]), ([122], some 211, [21, 210]), ([122], some 212, [3, 210]), ([123, 124, 122, 122], some 213, [211, 212, 210]), ([122, 125], some 214, [210, 213]), ([126, 125], some 215, [214]), ([127], some 216, [22, 215]), ([128, 127], some 217, [216, 215]), ([127, 129], some 218, [215, 217]), ([130, 127], some 219, [218]), ([131], some 220, [24, 219]), ([132, 131], some 221, [220, 219]), ([131, 133], some 222, [219, 221]), ([134, 131, 0, 1, 2, 3, 4, 5, 6, 7, 8, 9, 10, 11, 12, 13, 14, 15, 16, 17, 18, 19, 20, 21, 22, 23, 24, 25, 26, 27, 28, 29, 30, 31, 32, 33, 34, 35, 36, 37, 38, 39, 40, 41, 42, 43, 44, 45, 46, 47, 48, 49, 50, 51, 52, 53, 54, 55, 56, 57, 58, 59, 60, 61, 62, 63, 64, 65, 66, 67, 68, 69, 70, 71, 72, 73, 74, 75, 76, 77, 78, 79, 80, 81, 82, 83, 84, 85, 86, 87, 88, 89, 90, 91, 92, 93, 94, 95, 96, 97, 98, 99, 100, 101, 102, 103, 104, 105, 106, 107, 108, 109, 110, 111, 112, 113, 114, 115, 116, 117, 118, 119, 120, 121, 122, 123, 124, 125, 126, 127, 128, 129, 130, 131, 132, 133, 134], some 0, [222])] (by kernel_rfl) (by kernel_rfl) (fun hT hs => ?_)
  generalize u17.drew = u18 at *
  (refine wpAnyH_takeT (i := 0) (oi := ?oi2) (v := ?v2) hT hs ?hi2 (by kernel_rfl) (fun _ _ _ h => h) ?hg2 (by assumption) ?rest2; (case hi2 => (simp only [List.getElem?_toArray]; rfl)); (case hg2 => (refine Or.inl ⟨by rfl, ?_⟩; intro w hSw; (try dsimp only at hSw); go_simp; (try with_reducible rfl))); (try simp only [Act.put, List.setIfInBounds_toArray, List.set_cons_zero, List.set_cons_succ]))
  (refine wpAnyH_takeT (i := 1) (oi := ?oi3) (v := ?v3) hT hs ?hi3 (by kernel_rfl) (fun _ _ _ h => h) ?hg3 (by assumption) ?rest3; (case hi3 => (simp only [List.getElem?_toArray]; rfl)); (case hg3 => (refine Or.inl ⟨by rfl, ?_⟩; intro w hSw; (try dsimp only at hSw); go_simp; (try with_reducible rfl))); (try simp only [Act.put, List.setIfInBounds_toArray, List.set_cons_zero, List.set_cons_succ]))
  revert hS; revert hF; revert nn; revert n1; revert n2; revert n3; revert n4; revert i5; revert i6; revert C5; revert C6; revert n7; revert i8; revert i9; revert C8; revert C9; revert Q0; revert Q1; revert Q2; revert na; revert nb; revert n11; revert nc; revert nd; revert n17; revert ne; revert nf; revert ng; revert n19; revert nh; revert n21
  refine (fun (key : ?GK1) => ?mainK1) ?keyK1
  case mainK1 =>
    intro n21 nh n19 ng nf ne n17 nd nc n11 nb na Q2 Q1 Q0 C9 C8 i9 i8 n7 C6 C5 i6 i5 n4 n3 n2 n1 nn hF hS
    refine wpAnyH_readyT (rs := [2, 3]) hT (by kernel_rfl) (by simp) ?_
    refine AllReadyH.cons (o := ?go2) ?gh2 (fun K hK => ?gs2) (AllReadyH.cons (o := ?go3) ?gh3 (fun K hK => ?gs3) AllReadyH.nil)
    case gh2 => (simp only [List.getElem?_toArray]; rfl)
    case gh3 => (simp only [List.getElem?_toArray]; rfl)
    case gs2 =>
      go_simp
      refine (Hgcd6.out _ _ _ n1 n2).mono ?_
      rintro e u19 ⟨v90, rfl, n90, hk⟩
      replace nn := nn.fol hk
      replace n1 := n1.fol hk
      replace n2 := n2.fol hk
      replace n3 := n3.fol hk
      replace n4 := n4.fol hk
      replace i5 := i5.fol hk
      replace i6 := i6.fol hk
      replace C5 := C5.fol hk
      replace C6 := C6.fol hk
      replace n7 := n7.fol hk
      replace i8 := i8.fol hk
      replace i9 := i9.fol hk
      replace C8 := C8.fol hk
      replace C9 := C9.fol hk
      replace Q0 := Q0.fol hk
      replace Q1 := Q1.fol hk
      replace Q2 := Q2.fol hk
      replace na := na.fol hk
      replace nb := nb.fol hk
      replace n11 := n11.fol hk
      replace nc := nc.fol hk
      replace nd := nd.fol hk
      replace n17 := n17.fol hk
      replace ne := ne.fol hk
      replace nf := nf.fol hk
      replace ng := ng.fol hk
      replace n19 := n19.fol hk
      replace nh := nh.fol hk
      replace n21 := n21.fol hk
      replace hF := Fol.trans hF hk
      clear hk
      clear hS
      refine hK.out _ _ ⟨C5.c0, C5.c1, C6.c0, C6.c1, C8.c0, C8.c1, C9.c0, C9.c1, Q0.2.1, Q1.2.1, Q2.2.1⟩ (fun hS => ?_)
      clear hK K
      (try simp only [Act.put, List.setIfInBounds_toArray, List.set_cons_zero, List.set_cons_succ])
      refine wpAnyH_readyT (rs := [3]) hT (by kernel_rfl) (by simp) ?_
      refine AllReadyH.cons (o := ?go4) ?gh4 (fun K hK => ?gs4) AllReadyH.nil
      case gh4 => (simp only [List.getElem?_toArray]; rfl)
      go_simp
      have n91 := lit_new 6 u19 (by decide) (by decide)
      have hk := Fol.new u19 (.cells #[.int .u32 6] 43)
      replace nn := nn.fol hk
      replace n1 := n1.fol hk
      replace n2 := n2.fol hk
      replace n3 := n3.fol hk
      replace n4 := n4.fol hk
      replace i5 := i5.fol hk
      replace i6 := i6.fol hk
      replace C5 := C5.fol hk
      replace C6 := C6.fol hk
      replace n7 := n7.fol hk
      replace i8 := i8.fol hk
      replace i9 := i9.fol hk
      replace C8 := C8.fol hk
      replace C9 := C9.fol hk
      replace Q0 := Q0.fol hk
      replace Q1 := Q1.fol hk
      replace Q2 := Q2.fol hk
      replace na := na.fol hk
      replace nb := nb.fol hk
      replace n11 := n11.fol hk
      replace nc := nc.fol hk
      replace nd := nd.fol hk
      replace n17 := n17.fol hk
      replace ne := ne.fol hk
      replace nf := nf.fol hk
      replace ng := ng.fol hk
      replace n19 := n19.fol hk
      replace nh := nh.fol hk
      replace n21 := n21.fol hk
      replace n90 := n90.fol hk
      replace hF := Fol.trans hF hk
      clear hk
      clear hS
      refine hK.out _ _ ⟨C5.c0, C5.c1, C6.c0, C6.c1, C8.c0, C8.c1, C9.c0, C9.c1, Q0.2.1, Q1.2.1, Q2.2.1⟩ (fun hS => ?_)
      clear hK K
      (try simp only [Act.put, List.setIfInBounds_toArray, List.set_cons_zero, List.set_cons_succ])
      generalize (Value.slice (some ⟨u19.heap.size, 0, none⟩) 1 1) = v91 at *
      generalize u19.alloc (.cells #[.int .u32 6] 43) = u20 at *
      revert hS; revert hF; revert nn; revert n1; revert n2; revert n3; revert n4; revert i5; revert i6; revert C5; revert C6; revert n7; revert i8; revert i9; revert C8; revert C9; revert Q0; revert Q1; revert Q2; revert na; revert nb; revert n11; revert nc; revert nd; revert n17; revert ne; revert nf; revert ng; revert n19; revert nh; revert n21; revert n90; revert n91
      revert v90; revert v91; revert u20
      exact key
    case gs3 =>
      go_simp
      have n91 := lit_new 6 u18 (by decide) (by decide)
      have hk := Fol.new u18 (.cells #[.int .u32 6] 43)
      replace nn := nn.fol hk
      replace n1 := n1.fol hk
      replace n2 := n2.fol hk
      replace n3 := n3.fol hk
      replace n4 := n4.fol hk
      replace i5 := i5.fol hk
      replace i6 := i6.fol hk
      replace C5 := C5.fol hk
      replace C6 := C6.fol hk
      replace n7 := n7.fol hk
      replace i8 := i8.fol hk
      replace i9 := i9.fol hk
      replace C8 := C8.fol hk
      replace C9 := C9.fol hk
      replace Q0 := Q0.fol hk
      replace Q1 := Q1.fol hk
      replace Q2 := Q2.fol hk
      replace na := na.fol hk
      replace nb := nb.fol hk
      replace n11 := n11.fol hk
      replace nc := nc.fol hk
      replace nd := nd.fol hk
      replace n17 := n17.fol hk
      replace ne := ne.fol hk
      replace nf := nf.fol hk
      replace ng := ng.fol hk
      replace n19 := n19.fol hk
      replace nh := nh.fol hk
      replace n21 := n21.fol hk
      replace hF := Fol.trans hF hk
      clear hk
      clear hS
      refine hK.out _ _ ⟨C5.c0, C5.c1, C6.c0, C6.c1, C8.c0, C8.c1, C9.c0, C9.c1, Q0.2.1, Q1.2.1, Q2.2.1⟩ (fun hS => ?_)
      clear hK K
      (try simp only [Act.put, List.setIfInBounds_toArray, List.set_cons_zero, List.set_cons_succ])
      generalize (Value.slice (some ⟨u18.heap.size, 0, none⟩) 1 1) = v91 at *
      generalize u18.alloc (.cells #[.int .u32 6] 43) = u19 at *
      refine wpAnyH_readyT (rs := [2]) hT (by kernel_rfl) (by simp) ?_
      refine AllReadyH.cons (o := ?go5) ?gh5 (fun K hK => ?gs5) AllReadyH.nil
      case gh5 => (simp only [List.getElem?_toArray]; rfl)
      go_simp
      refine (Hgcd6.out _ _ _ n1 n2).mono ?_
      rintro e u20 ⟨v90, rfl, n90, hk⟩
      replace nn := nn.fol hk
      replace n1 := n1.fol hk
      replace n2 := n2.fol hk
      replace n3 := n3.fol hk
      replace n4 := n4.fol hk
      replace i5 := i5.fol hk
      replace i6 := i6.fol hk
      replace C5 := C5.fol hk
      replace C6 := C6.fol hk
      replace n7 := n7.fol hk
      replace i8 := i8.fol hk
      replace i9 := i9.fol hk
      replace C8 := C8.fol hk
      replace C9 := C9.fol hk
      replace Q0 := Q0.fol hk
      replace Q1 := Q1.fol hk
      replace Q2 := Q2.fol hk
      replace na := na.fol hk
      replace nb := nb.fol hk
      replace n11 := n11.fol hk
      replace nc := nc.fol hk
      replace nd := nd.fol hk
      replace n17 := n17.fol hk
      replace ne := ne.fol hk
      replace nf := nf.fol hk
      replace ng := ng.fol hk
      replace n19 := n19.fol hk
      replace nh := nh.fol hk
      replace n21 := n21.fol hk
      replace n91 := n91.fol hk
      replace hF := Fol.trans hF hk
      clear hk
      clear hS
      refine hK.out _ _ ⟨C5.c0, C5.c1, C6.c0, C6.c1, C8.c0, C8.c1, C9.c0, C9.c1, Q0.2.1, Q1.2.1, Q2.2.1⟩ (fun hS => ?_)
      clear hK K
      (try simp only [Act.put, List.setIfInBounds_toArray, List.set_cons_zero, List.set_cons_succ])
      revert hS; revert hF; revert nn; revert n1; revert n2; revert n3; revert n4; revert i5; revert i6; revert C5; revert C6; revert n7; revert i8; revert i9; revert C8; revert C9; revert Q0; revert Q1; revert Q2; revert na; revert nb; revert n11; revert nc; revert nd; revert n17; revert ne; revert nf; revert ng; revert n19; revert nh; revert n21; revert n90; revert n91
      revert v90; revert v91; revert u20
      exact key
  intro u20 v91 v90 n91 n90 n21 nh n19 ng nf ne n17 nd nc n11 nb na Q2 Q1 Q0 C9 C8 i9 i8 n7 C6 C5 i6 i5 n4 n3 n2 n1 nn hF hS
  refine wpAnyH_readyT (rs := [4]) hT (by kernel_rfl) (by simp) ?_
  refine AllReadyH.cons (o := ?go6) ?gh6 (fun K hK => ?gs6) AllReadyH.nil
  case gh6 => (simp only [List.getElem?_toArray]; rfl)
  go_simp
  refine ((h_same 6 (by decide)).out _ _ _ n90 n91).mono ?_
  rintro e u21 ⟨rfl, hk⟩
  replace nn := nn.fol hk
  replace n1 := n1.fol hk
  replace n2 := n2.fol hk
  replace n3 := n3.fol hk
  replace n4 := n4.fol hk
  replace i5 := i5.fol hk
  replace i6 := i6.fol hk
  replace C5 := C5.fol hk
  replace C6 := C6.fol hk
  replace n7 := n7.fol hk
  replace i8 := i8.fol hk
  replace i9 := i9.fol hk
  replace C8 := C8.fol hk
  replace C9 := C9.fol hk
  replace Q0 := Q0.fol hk
  replace Q1 := Q1.fol hk
  replace Q2 := Q2.fol hk
  replace na := na.fol hk
  replace nb := nb.fol hk
  replace n11 := n11.fol hk
  replace nc := nc.fol hk
  replace nd := nd.fol hk
  replace n17 := n17.fol hk
  replace ne := ne.fol hk
  replace nf := nf.fol hk
  replace ng := ng.fol hk
  replace n19 := n19.fol hk
  replace nh := nh.fol hk
  replace n21 := n21.fol hk
  replace n90 := n90.fol hk
  replace n91 := n91.fol hk
  replace hF := Fol.trans hF hk
  clear hk
  clear hS
  refine hK.out _ _ ⟨C5.c0, C5.c1, C6.c0, C6.c1, C8.c0, C8.c1, C9.c0, C9.c1, Q0.2.1, Q1.2.1, Q2.2.1⟩ (fun hS => ?_)
  clear hK K
  (try simp only [Act.put, List.setIfInBounds_toArray, List.set_cons_zero, List.set_cons_succ])
  (refine wpAnyH_takeT (i := 5) (oi := ?oi4) (v := ?v4) hT hs ?hi4 (by kernel_rfl) (fun _ _ _ h => h) ?hg4 (by assumption) ?rest4; (case hi4 => (simp only [List.getElem?_toArray]; rfl)); (case hg4 => (refine Or.inl ⟨by rfl, ?_⟩; intro w hSw; (try dsimp only at hSw); go_simp; (try with_reducible rfl))); (try simp only [Act.put, List.setIfInBounds_toArray, List.set_cons_zero, List.set_cons_succ]))
  (refine wpAnyH_takeT (i := 6) (oi := ?oi5) (v := ?v5) hT hs ?hi5 (by kernel_rfl) (fun _ _ _ h => h) ?hg5 (by assumption) ?rest5; (case hi5 => (simp only [List.getElem?_toArray]; rfl)); (case hg5 => (refine Or.inl ⟨by rfl, ?_⟩; intro w hSw; (try dsimp only at hSw); go_simp; (try with_reducible rfl))); (try simp only [Act.put, List.setIfInBounds_toArray, List.set_cons_zero, List.set_cons_succ]))
  (refine wpAnyH_takeT (i := 7) (oi := ?oi6) (v := ?v6) hT hs ?hi6 (by kernel_rfl) (fun _ _ _ h => h) ?hg6 (by assumption) ?rest6; (case hi6 => (simp only [List.getElem?_toArray]; rfl)); (case hg6 => (refine Or.inl ⟨by rfl, ?_⟩; intro w hSw; (try dsimp only at hSw); go_simp; (try with_reducible rfl))); (try simp only [Act.put, List.setIfInBounds_toArray, List.set_cons_zero, List.set_cons_succ]))
  revert hS; revert hF; revert nn; revert n1; revert n2; revert n3; revert n4; revert i5; revert i6; revert C5; revert C6; revert n7; revert i8; revert i9; revert C8; revert C9; revert Q0; revert Q1; revert Q2; revert na; revert nb; revert n11; revert nc; revert nd; revert n17; revert ne; revert nf; revert ng; revert n19; revert nh; revert n21; revert n90; revert n91
  refine (fun (key : ?GK7) => ?mainK7) ?keyK7
  case mainK7 =>
    intro n91 n90 n21 nh n19 ng nf ne n17 nd nc n11 nb na Q2 Q1 Q0 C9 C8 i9 i8 n7 C6 C5 i6 i5 n4 n3 n2 n1 nn hF hS
    refine wpAnyH_readyT (rs := [8, 9]) hT (by kernel_rfl) (by simp) ?_
    refine AllReadyH.cons (o := ?go8) ?gh8 (fun K hK => ?gs8) (AllReadyH.cons (o := ?go9) ?gh9 (fun K hK => ?gs9) AllReadyH.nil)
    case gh8 => (simp only [List.getElem?_toArray]; rfl)
    case gh9 => (simp only [List.getElem?_toArray]; rfl)
    case gs8 =>
      go_simp
      refine (Hleh6.out _ _ _ n2 n1).mono ?_
      rintro e u22 ⟨v96, rfl, n96, hk⟩
      replace nn := nn.fol hk
      replace n1 := n1.fol hk
      replace n2 := n2.fol hk
      replace n3 := n3.fol hk
      replace n4 := n4.fol hk
      replace i5 := i5.fol hk
      replace i6 := i6.fol hk
      replace C5 := C5.fol hk
      replace C6 := C6.fol hk
      replace n7 := n7.fol hk
      replace i8 := i8.fol hk
      replace i9 := i9.fol hk
      replace C8 := C8.fol hk
      replace C9 := C9.fol hk
      replace Q0 := Q0.fol hk
      replace Q1 := Q1.fol hk
      replace Q2 := Q2.fol hk
      replace na := na.fol hk
      replace nb := nb.fol hk
      replace n11 := n11.fol hk
      replace nc := nc.fol hk
      replace nd := nd.fol hk
      replace n17 := n17.fol hk
      replace ne := ne.fol hk
      replace nf := nf.fol hk
      replace ng := ng.fol hk
      replace n19 := n19.fol hk
      replace nh := nh.fol hk
      replace n21 := n21.fol hk
      replace n90 := n90.fol hk
      replace n91 := n91.fol hk
      replace hF := Fol.trans hF hk
      clear hk
      clear hS
      refine hK.out _ _ ⟨C5.c0, C5.c1, C6.c0, C6.c1, C8.c0, C8.c1, C9.c0, C9.c1, Q0.2.1, Q1.2.1, Q2.2.1⟩ (fun hS => ?_)
      clear hK K
      (try simp only [Act.put, List.setIfInBounds_toArray, List.set_cons_zero, List.set_cons_succ])
      refine wpAnyH_readyT (rs := [9]) hT (by kernel_rfl) (by simp) ?_
      refine AllReadyH.cons (o := ?go10) ?gh10 (fun K hK => ?gs10) AllReadyH.nil
      case gh10 => (simp only [List.getElem?_toArray]; rfl)
      go_simp
      have n97 := lit_new 6 u22 (by decide) (by decide)
      have hk := Fol.new u22 (.cells #[.int .u32 6] 43)
      replace nn := nn.fol hk
      replace n1 := n1.fol hk
      replace n2 := n2.fol hk
      replace n3 := n3.fol hk
      replace n4 := n4.fol hk
      replace i5 := i5.fol hk
      replace i6 := i6.fol hk
      replace C5 := C5.fol hk
      replace C6 := C6.fol hk
      replace n7 := n7.fol hk
      replace i8 := i8.fol hk
      replace i9 := i9.fol hk
      replace C8 := C8.fol hk
      replace C9 := C9.fol hk
      replace Q0 := Q0.fol hk
      replace Q1 := Q1.fol hk
      replace Q2 := Q2.fol hk
      replace na := na.fol hk
      replace nb := nb.fol hk
      replace n11 := n11.fol hk
      replace nc := nc.fol hk
      replace nd := nd.fol hk
      replace n17 := n17.fol hk
      replace ne := ne.fol hk
      replace nf := nf.fol hk
      replace ng := ng.fol hk
      replace n19 := n19.fol hk
      replace nh := nh.fol hk
      replace n21 := n21.fol hk
      replace n90 := n90.fol hk
      replace n91 := n91.fol hk
      replace n96 := n96.fol hk
      replace hF := Fol.trans hF hk
      clear hk
      clear hS
      refine hK.out _ _ ⟨C5.c0, C5.c1, C6.c0, C6.c1, C8.c0, C8.c1, C9.c0, C9.c1, Q0.2.1, Q1.2.1, Q2.2.1⟩ (fun hS => ?_)
      clear hK K
      (try simp only [Act.put, List.setIfInBounds_toArray, List.set_cons_zero, List.set_cons_succ])
      generalize (Value.slice (some ⟨u22.heap.size, 0, none⟩) 1 1) = v97 at *
      generalize u22.alloc (.cells #[.int .u32 6] 43) = u23 at *
      revert hS; revert hF; revert nn; revert n1; revert n2; revert n3; revert n4; revert i5; revert i6; revert C5; revert C6; revert n7; revert i8; revert i9; revert C8; revert C9; revert Q0; revert Q1; revert Q2; revert na; revert nb; revert n11; revert nc; revert nd; revert n17; revert ne; revert nf; revert ng; revert n19; revert nh; revert n21; revert n90; revert n91; revert n96; revert n97
      revert v96; revert v97; revert u23
      exact key
    case gs9 =>
      go_simp
      have n97 := lit_new 6 u21 (by decide) (by decide)
      have hk := Fol.new u21 (.cells #[.int .u32 6] 43)
      replace nn := nn.fol hk
      replace n1 := n1.fol hk
      replace n2 := n2.fol hk
      replace n3 := n3.fol hk
      replace n4 := n4.fol hk
      replace i5 := i5.fol hk
      replace i6 := i6.fol hk
      replace C5 := C5.fol hk
      replace C6 := C6.fol hk
      replace n7 := n7.fol hk
      replace i8 := i8.fol hk
      replace i9 := i9.fol hk
      replace C8 := C8.fol hk
      replace C9 := C9.fol hk
      replace Q0 := Q0.fol hk
      replace Q1 := Q1.fol hk
      replace Q2 := Q2.fol hk
      replace na := na.fol hk
      replace nb := nb.fol hk
      replace n11 := n11.fol hk
      replace nc := nc.fol hk
      replace nd := nd.fol hk
      replace n17 := n17.fol hk
      replace ne := ne.fol hk
      replace nf := nf.fol hk
      replace ng := ng.fol hk
      replace n19 := n19.fol hk
      replace nh := nh.fol hk
      replace n21 := n21.fol hk
      replace n90 := n90.fol hk
      replace n91 := n91.fol hk
      replace hF := Fol.trans hF hk
      clear hk
      clear hS
      refine hK.out _ _ ⟨C5.c0, C5.c1, C6.c0, C6.c1, C8.c0, C8.c1, C9.c0, C9.c1, Q0.2.1, Q1.2.1, Q2.2.1⟩ (fun hS => ?_)
      clear hK K
      (try simp only [Act.put, List.setIfInBounds_toArray, List.set_cons_zero, List.set_cons_succ])
      generalize (Value.slice (some ⟨u21.heap.size, 0, none⟩) 1 1) = v97 at *
      generalize u21.alloc (.cells #[.int .u32 6] 43) = u22 at *
      refine wpAnyH_readyT (rs := [8]) hT (by kernel_rfl) (by simp) ?_
      refine AllReadyH.cons (o := ?go11) ?gh11 (fun K hK => ?gs11) AllReadyH.nil
      case gh11 => (simp only [List.getElem?_toArray]; rfl)
      go_simp
      refine (Hleh6.out _ _ _ n2 n1).mono ?_
      rintro e u23 ⟨v96, rfl, n96, hk⟩
      replace nn := nn.fol hk
      replace n1 := n1.fol hk
      replace n2 := n2.fol hk
      replace n3 := n3.fol hk
      replace n4 := n4.fol hk
      replace i5 := i5.fol hk
      replace i6 := i6.fol hk
      replace C5 := C5.fol hk
      replace C6 := C6.fol hk
      replace n7 := n7.fol hk
      replace i8 := i8.fol hk
      replace i9 := i9.fol hk
      replace C8 := C8.fol hk
      replace C9 := C9.fol hk
      replace Q0 := Q0.fol hk
      replace Q1 := Q1.fol hk
      replace Q2 := Q2.fol hk
      replace na := na.fol hk
      replace nb := nb.fol hk
      replace n11 := n11.fol hk
      replace nc := nc.fol hk
      replace nd := nd.fol hk
      replace n17 := n17.fol hk
      replace ne := ne.fol hk
      replace nf := nf.fol hk
      replace ng := ng.fol hk
      replace n19 := n19.fol hk
      replace nh := nh.fol hk
      replace n21 := n21.fol hk
      replace n90 := n90.fol hk
      replace n91 := n91.fol hk
      replace n97 := n97.fol hk
      replace hF := Fol.trans hF hk
      clear hk
      clear hS
      refine hK.out _ _ ⟨C5.c0, C5.c1, C6.c0, C6.c1, C8.c0, C8.c1, C9.c0, C9.c1, Q0.2.1, Q1.2.1, Q2.2.1⟩ (fun hS => ?_)
      clear hK K
      (try simp only [Act.put, List.setIfInBounds_toArray, List.set_cons_zero, List.set_cons_succ])
      revert hS; revert hF; revert nn; revert n1; revert n2; revert n3; revert n4; revert i5; revert i6; revert C5; revert C6; revert n7; revert i8; revert i9; revert C8; revert C9; revert Q0; revert Q1; revert Q2; revert na; revert nb; revert n11; revert nc; revert nd; revert n17; revert ne; revert nf; revert ng; revert n19; revert nh; revert n21; revert n90; revert n91; revert n96; revert n97
      revert v96; revert v97; revert u23
      exact key
  intro u23 v97 v96 n97 n96 n91 n90 n21 nh n19 ng nf ne n17 nd nc n11 nb na Q2 Q1 Q0 C9 C8 i9 i8 n7 C6 C5 i6 i5 n4 n3 n2 n1 nn hF hS
  refine wpAnyH_readyT (rs := [10]) hT (by kernel_rfl) (by simp) ?_
  refine AllReadyH.cons (o := ?go12) ?gh12 (fun K hK => ?gs12) AllReadyH.nil
  case gh12 => (simp only [List.getElem?_toArray]; rfl)
  go_simp
  refine ((h_same 6 (by decide)).out _ _ _ n96 n97).mono ?_
  rintro e u24 ⟨rfl, hk⟩
  replace nn := nn.fol hk
  replace n1 := n1.fol hk
  replace n2 := n2.fol hk
  replace n3 := n3.fol hk
  replace n4 := n4.fol hk
  replace i5 := i5.fol hk
  replace i6 := i6.fol hk
  replace C5 := C5.fol hk
  replace C6 := C6.fol hk
  replace n7 := n7.fol hk
  replace i8 := i8.fol hk
  replace i9 := i9.fol hk
  replace C8 := C8.fol hk
  replace C9 := C9.fol hk
  replace Q0 := Q0.fol hk
  replace Q1 := Q1.fol hk
  replace Q2 := Q2.fol hk
  replace na := na.fol hk
  replace nb := nb.fol hk
  replace n11 := n11.fol hk
  replace nc := nc.fol hk
  replace nd := nd.fol hk
  replace n17 := n17.fol hk
  replace ne := ne.fol hk
  replace nf := nf.fol hk
  replace ng := ng.fol hk
  replace n19 := n19.fol hk
  replace nh := nh.fol hk
  replace n21 := n21.fol hk
  replace n90 := n90.fol hk
  replace n91 := n91.fol hk
  replace n96 := n96.fol hk
  replace n97 := n97.fol hk
  replace hF := Fol.trans hF hk
  clear hk
  clear hS
  refine hK.out _ _ ⟨C5.c0, C5.c1, C6.c0, C6.c1, C8.c0, C8.c1, C9.c0, C9.c1, Q0.2.1, Q1.2.1, Q2.2.1⟩ (fun hS => ?_)
  clear hK K
  (try simp only [Act.put, List.setIfInBounds_toArray, List.set_cons_zero, List.set_cons_succ])
  (refine wpAnyH_takeT (i := 11) (oi := ?oi7) (v := ?v7) hT hs ?hi7 (by kernel_rfl) (fun _ _ _ h => h) ?hg7 (by assumption) ?rest7; (case hi7 => (simp only [List.getElem?_toArray]; rfl)); (case hg7 => (refine Or.inl ⟨by rfl, ?_⟩; intro w hSw; (try dsimp only at hSw); go_simp; (try with_reducible rfl))); (try simp only [Act.put, List.setIfInBounds_toArray, List.set_cons_zero, List.set_cons_succ]))
  (refine wpAnyH_takeT (i := 12) (oi := ?oi8) (v := ?v8) hT hs ?hi8 (by kernel_rfl) (fun _ _ _ h => h) ?hg8 (by assumption) ?rest8; (case hi8 => (simp only [List.getElem?_toArray]; rfl)); (case hg8 => (refine Or.inl ⟨by rfl, ?_⟩; intro w hSw; (try dsimp only at hSw); go_simp; (try with_reducible rfl))); (try simp only [Act.put, List.setIfInBounds_toArray, List.set_cons_zero, List.set_cons_succ]))
  (refine wpAnyH_takeT (i := 13) (oi := ?oi9) (v := ?v9) hT hs ?hi9 (by kernel_rfl) (fun _ _ _ h => h) ?hg9 (by assumption) ?rest9; (case hi9 => (simp only [List.getElem?_toArray]; rfl)); (case hg9 => (refine Or.inl ⟨by rfl, ?_⟩; intro w hSw; (try dsimp only at hSw); go_simp; (try with_reducible rfl))); (try simp only [Act.put, List.setIfInBounds_toArray, List.set_cons_zero, List.set_cons_succ]))
  (refine wpAnyH_takeT (i := 14) (oi := ?oi10) (v := ?v10) hT hs ?hi10 (by kernel_rfl) (fun _ _ _ h => h) ?hg10 (by assumption) ?rest10; (case hi10 => (simp only [List.getElem?_toArray]; rfl)); (case hg10 => (refine Or.inl ⟨by rfl, ?_⟩; intro w hSw; (try dsimp only at hSw); go_simp; (try with_reducible rfl))); (try simp only [Act.put, List.setIfInBounds_toArray, List.set_cons_zero, List.set_cons_succ]))
  revert hS; revert hF; revert nn; revert n1; revert n2; revert n3; revert n4; revert i5; revert i6; revert C5; revert C6; revert n7; revert i8; revert i9; revert C8; revert C9; revert Q0; revert Q1; revert Q2; revert na; revert nb; revert n11; revert nc; revert nd; revert n17; revert ne; revert nf; revert ng; revert n19; revert nh; revert n21; revert n90; revert n91; revert n96; revert n97
  refine (fun (key : ?GK13) => ?mainK13) ?keyK13
  case mainK13 =>
    intro n97 n96 n91 n90 n21 nh n19 ng nf ne n17 nd nc n11 nb na Q2 Q1 Q0 C9 C8 i9 i8 n7 C6 C5 i6 i5 n4 n3 n2 n1 nn hF hS
    refine wpAnyH_readyT (rs := [15, 16]) hT (by kernel_rfl) (by simp) ?_
    refine AllReadyH.cons (o := ?go14) ?gh14 (fun K hK => ?gs14) (AllReadyH.cons (o := ?go15) ?gh15 (fun K hK => ?gs15) AllReadyH.nil)
    case gh14 => (simp only [List.getElem?_toArray]; rfl)
    case gh15 => (simp only [List.getElem?_toArray]; rfl)
    case gs14 =>
      go_simp
      refine (Hhalf6.out _ _ _ n1 n2).mono ?_
      rintro e u25 ⟨v103, rfl, n103, hk⟩
      replace nn := nn.fol hk
      replace n1 := n1.fol hk
      replace n2 := n2.fol hk
      replace n3 := n3.fol hk
      replace n4 := n4.fol hk
      replace i5 := i5.fol hk
      replace i6 := i6.fol hk
      replace C5 := C5.fol hk
      replace C6 := C6.fol hk
      replace n7 := n7.fol hk
      replace i8 := i8.fol hk
      replace i9 := i9.fol hk
      replace C8 := C8.fol hk
      replace C9 := C9.fol hk
      replace Q0 := Q0.fol hk
      replace Q1 := Q1.fol hk
      replace Q2 := Q2.fol hk
      replace na := na.fol hk
      replace nb := nb.fol hk
      replace n11 := n11.fol hk
      replace nc := nc.fol hk
      replace nd := nd.fol hk
      replace n17 := n17.fol hk
      replace ne := ne.fol hk
      replace nf := nf.fol hk
      replace ng := ng.fol hk
      replace n19 := n19.fol hk
      replace nh := nh.fol hk
      replace n21 := n21.fol hk
      replace n90 := n90.fol hk
      replace n91 := n91.fol hk
      replace n96 := n96.fol hk
      replace n97 := n97.fol hk
      replace hF := Fol.trans hF hk
      clear hk
      clear hS
      refine hK.out _ _ ⟨C5.c0, C5.c1, C6.c0, C6.c1, C8.c0, C8.c1, C9.c0, C9.c1, Q0.2.1, Q1.2.1, Q2.2.1⟩ (fun hS => ?_)
      clear hK K
      (try simp only [Act.put, List.setIfInBounds_toArray, List.set_cons_zero, List.set_cons_succ])
      refine wpAnyH_readyT (rs := [16]) hT (by kernel_rfl) (by simp) ?_
      refine AllReadyH.cons (o := ?go16) ?gh16 (fun K hK => ?gs16) AllReadyH.nil
      case gh16 => (simp only [List.getElem?_toArray]; rfl)
      go_simp
      have n104 := lit_new 6 u25 (by decide) (by decide)
      have hk := Fol.new u25 (.cells #[.int .u32 6] 43)
      replace nn := nn.fol hk
      replace n1 := n1.fol hk
      replace n2 := n2.fol hk
      replace n3 := n3.fol hk
      replace n4 := n4.fol hk
      replace i5 := i5.fol hk
      replace i6 := i6.fol hk
      replace C5 := C5.fol hk
      replace C6 := C6.fol hk
      replace n7 := n7.fol hk
      replace i8 := i8.fol hk
      replace i9 := i9.fol hk
      replace C8 := C8.fol hk
      replace C9 := C9.fol hk
      replace Q0 := Q0.fol hk
      replace Q1 := Q1.fol hk
      replace Q2 := Q2.fol hk
      replace na := na.fol hk
      replace nb := nb.fol hk
      replace n11 := n11.fol hk
      replace nc := nc.fol hk
      replace nd := nd.fol hk
      replace n17 := n17.fol hk
      replace ne := ne.fol hk
      replace nf := nf.fol hk
      replace ng := ng.fol hk
      replace n19 := n19.fol hk
      replace nh := nh.fol hk
      replace n21 := n21.fol hk
      replace n90 := n90.fol hk
      replace n91 := n91.fol hk
      replace n96 := n96.fol hk
      replace n97 := n97.fol hk
      replace n103 := n103.fol hk
      replace hF := Fol.trans hF hk
      clear hk
      clear hS
      refine hK.out _ _ ⟨C5.c0, C5.c1, C6.c0, C6.c1, C8.c0, C8.c1, C9.c0, C9.c1, Q0.2.1, Q1.2.1, Q2.2.1⟩ (fun hS => ?_)
      clear hK K
      (try simp only [Act.put, List.setIfInBounds_toArray, List.set_cons_zero, List.set_cons_succ])
      generalize (Value.slice (some ⟨u25.heap.size, 0, none⟩) 1 1) = v104 at *
      generalize u25.alloc (.cells #[.int .u32 6] 43) = u26 at *
      revert hS; revert hF; revert nn; revert n1; revert n2; revert n3; revert n4; revert i5; revert i6; revert C5; revert C6; revert n7; revert i8; revert i9; revert C8; revert C9; revert Q0; revert Q1; revert Q2; revert na; revert nb; revert n11; revert nc; revert nd; revert n17; revert ne; revert nf; revert ng; revert n19; revert nh; revert n21; revert n90; revert n91; revert n96; revert n97; revert n103; revert n104
      revert v103; revert v104; revert u26
      exact key
    case gs15 =>
      go_simp
      have n104 := lit_new 6 u24 (by decide) (by decide)
      have hk := Fol.new u24 (.cells #[.int .u32 6] 43)
      replace nn := nn.fol hk
      replace n1 := n1.fol hk
      replace n2 := n2.fol hk
      replace n3 := n3.fol hk
      replace n4 := n4.fol hk
      replace i5 := i5.fol hk
      replace i6 := i6.fol hk
      replace C5 := C5.fol hk
      replace C6 := C6.fol hk
      replace n7 := n7.fol hk
      replace i8 := i8.fol hk
      replace i9 := i9.fol hk
      replace C8 := C8.fol hk
      replace C9 := C9.fol hk
      replace Q0 := Q0.fol hk
      replace Q1 := Q1.fol hk
      replace Q2 := Q2.fol hk
      replace na := na.fol hk
      replace nb := nb.fol hk
      replace n11 := n11.fol hk
      replace nc := nc.fol hk
      replace nd := nd.fol hk
      replace n17 := n17.fol hk
      replace ne := ne.fol hk
      replace nf := nf.fol hk
      replace ng := ng.fol hk
      replace n19 := n19.fol hk
      replace nh := nh.fol hk
      replace n21 := n21.fol hk
      replace n90 := n90.fol hk
      replace n91 := n91.fol hk
      replace n96 := n96.fol hk
      replace n97 := n97.fol hk
      replace hF := Fol.trans hF hk
      clear hk
      clear hS
      refine hK.out _ _ ⟨C5.c0, C5.c1, C6.c0, C6.c1, C8.c0, C8.c1, C9.c0, C9.c1, Q0.2.1, Q1.2.1, Q2.2.1⟩ (fun hS => ?_)
      clear hK K
      (try simp only [Act.put, List.setIfInBounds_toArray, List.set_cons_zero, List.set_cons_succ])
      generalize (Value.slice (some ⟨u24.heap.size, 0, none⟩) 1 1) = v104 at *
      generalize u24.alloc (.cells #[.int .u32 6] 43) = u25 at *
      refine wpAnyH_readyT (rs := [15]) hT (by kernel_rfl) (by simp) ?_
      refine AllReadyH.cons (o := ?go17) ?gh17 (fun K hK => ?gs17) AllReadyH.nil
      case gh17 => (simp only [List.getElem?_toArray]; rfl)
      go_simp
      refine (Hhalf6.out _ _ _ n1 n2).mono ?_
      rintro e u26 ⟨v103, rfl, n103, hk⟩
      replace nn := nn.fol hk
      replace n1 := n1.fol hk
      replace n2 := n2.fol hk
      replace n3 := n3.fol hk
      replace n4 := n4.fol hk
      replace i5 := i5.fol hk
      replace i6 := i6.fol hk
      replace C5 := C5.fol hk
      replace C6 := C6.fol hk
      replace n7 := n7.fol hk
      replace i8 := i8.fol hk
      replace i9 := i9.fol hk
      replace C8 := C8.fol hk
      replace C9 := C9.fol hk
      replace Q0 := Q0.fol hk
      replace Q1 := Q1.fol hk
      replace Q2 := Q2.fol hk
      replace na := na.fol hk
      replace nb := nb.fol hk
      replace n11 := n11.fol hk
      replace nc := nc.fol hk
      replace nd := nd.fol hk
      replace n17 := n17.fol hk
      replace ne := ne.fol hk
      replace nf := nf.fol hk
      replace ng := ng.fol hk
      replace n19 := n19.fol hk
      replace nh := nh.fol hk
      replace n21 := n21.fol hk
      replace n90 := n90.fol hk
      replace n91 := n91.fol hk
      replace n96 := n96.fol hk
      replace n97 := n97.fol hk
      replace n104 := n104.fol hk
      replace hF := Fol.trans hF hk
      clear hk
      clear hS
      refine hK.out _ _ ⟨C5.c0, C5.c1, C6.c0, C6.c1, C8.c0, C8.c1, C9.c0, C9.c1, Q0.2.1, Q1.2.1, Q2.2.1⟩ (fun hS => ?_)
      clear hK K
      (try simp only [Act.put, List.setIfInBounds_toArray, List.set_cons_zero, List.set_cons_succ])
      revert hS; revert hF; revert nn; revert n1; revert n2; revert n3; revert n4; revert i5; revert i6; revert C5; revert C6; revert n7; revert i8; revert i9; revert C8; revert C9; revert Q0; revert Q1; revert Q2; revert na; revert nb; revert n11; revert nc; revert nd; revert n17; revert ne; revert nf; revert ng; revert n19; revert nh; revert n21; revert n90; revert n91; revert n96; revert n97; revert n103; revert n104
      revert v103; revert v104; revert u26
      exact key
  intro u26 v104 v103 n104 n103 n97 n96 n91 n90 n21 nh n19 ng nf ne n17 nd nc n11 nb na Q2 Q1 Q0 C9 C8 i9 i8 n7 C6 C5 i6 i5 n4 n3 n2 n1 nn hF hS
  refine wpAnyH_readyT (rs := [17]) hT (by kernel_rfl) (by simp) ?_
  refine AllReadyH.cons (o := ?go18) ?gh18 (fun K hK => ?gs18) AllReadyH.nil
  case gh18 => (simp only [List.getElem?_toArray]; rfl)
  go_simp
  refine ((h_same 6 (by decide)).out _ _ _ n103 n104).mono ?_
  rintro e u27 ⟨rfl, hk⟩
  replace nn := nn.fol hk
  replace n1 := n1.fol hk
  replace n2 := n2.fol hk
  replace n3 := n3.fol hk
  replace n4 := n4.fol hk
  replace i5 := i5.fol hk
  replace i6 := i6.fol hk
  replace C5 := C5.fol hk
  replace C6 := C6.fol hk
  replace n7 := n7.fol hk
  replace i8 := i8.fol hk
  replace i9 := i9.fol hk
  replace C8 := C8.fol hk
  replace C9 := C9.fol hk
  replace Q0 := Q0.fol hk
  replace Q1 := Q1.fol hk
  replace Q2 := Q2.fol hk
  replace na := na.fol hk
  replace nb := nb.fol hk
  replace n11 := n11.fol hk
  replace nc := nc.fol hk
  replace nd := nd.fol hk
  replace n17 := n17.fol hk
  replace ne := ne.fol hk
  replace nf := nf.fol hk
  replace ng := ng.fol hk
  replace n19 := n19.fol hk
  replace nh := nh.fol hk
  replace n21 := n21.fol hk
  replace n90 := n90.fol hk
  replace n91 := n91.fol hk
  replace n96 := n96.fol hk
  replace n97 := n97.fol hk
  replace n103 := n103.fol hk
  replace n104 := n104.fol hk
  replace hF := Fol.trans hF hk
  clear hk
  clear hS
  refine hK.out _ _ ⟨C5.c0, C5.c1, C6.c0, C6.c1, C8.c0, C8.c1, C9.c0, C9.c1, Q0.2.1, Q1.2.1, Q2.2.1⟩ (fun hS => ?_)
  clear hK K
  (try simp only [Act.put, List.setIfInBounds_toArray, List.set_cons_zero, List.set_cons_succ])
  (refine wpAnyH_takeT (i := 18) (oi := ?oi11) (v := ?v11) hT hs ?hi11 (by kernel_rfl) (fun _ _ _ h => h) ?hg11 (by assumption) ?rest11; (case hi11 => (simp only [List.getElem?_toArray]; rfl)); (case hg11 => (refine Or.inl ⟨by rfl, ?_⟩; intro w hSw; (try dsimp only at hSw); go_simp; (try with_reducible rfl))); (try simp only [Act.put, List.setIfInBounds_toArray, List.set_cons_zero, List.set_cons_succ]))
  (refine wpAnyH_takeT (i := 19) (oi := ?oi12) (v := ?v12) hT hs ?hi12 (by kernel_rfl) (fun _ _ _ h => h) ?hg12 (by assumption) ?rest12; (case hi12 => (simp only [List.getElem?_toArray]; rfl)); (case hg12 => (refine Or.inl ⟨by rfl, ?_⟩; intro w hSw; (try dsimp only at hSw); go_simp; (try with_reducible rfl))); (try simp only [Act.put, List.setIfInBounds_toArray, List.set_cons_zero, List.set_cons_succ]))
  refine wpAnyH_readyT (rs := [20]) hT (by kernel_rfl) (by simp) ?_
  refine AllReadyH.cons (o := ?go19) ?gh19 (fun K hK => ?gs19) AllReadyH.nil
  case gh19 => (simp only [List.getElem?_toArray]; rfl)
  go_simp
  refine (Hgcd0.out _ _ _ nn nn).mono ?_
  rintro e u28 ⟨v108, rfl, n108, hk⟩
  obtain ⟨oz108, cz108, rfl⟩ := n108.zero
  replace nn := nn.fol hk
  replace n1 := n1.fol hk
  replace n2 := n2.fol hk
  replace n3 := n3.fol hk
  replace n4 := n4.fol hk
  replace i5 := i5.fol hk
  replace i6 := i6.fol hk
  replace C5 := C5.fol hk
  replace C6 := C6.fol hk
  replace n7 := n7.fol hk
  replace i8 := i8.fol hk
  replace i9 := i9.fol hk
  replace C8 := C8.fol hk
  replace C9 := C9.fol hk
  replace Q0 := Q0.fol hk
  replace Q1 := Q1.fol hk
  replace Q2 := Q2.fol hk
  replace na := na.fol hk
  replace nb := nb.fol hk
  replace n11 := n11.fol hk
  replace nc := nc.fol hk
  replace nd := nd.fol hk
  replace n17 := n17.fol hk
  replace ne := ne.fol hk
  replace nf := nf.fol hk
  replace ng := ng.fol hk
  replace n19 := n19.fol hk
  replace nh := nh.fol hk
  replace n21 := n21.fol hk
  replace n90 := n90.fol hk
  replace n91 := n91.fol hk
  replace n96 := n96.fol hk
  replace n97 := n97.fol hk
  replace n103 := n103.fol hk
  replace n104 := n104.fol hk
  replace hF := Fol.trans hF hk
  clear hk
  clear hS
  refine hK.out _ _ ⟨C5.c0, C5.c1, C6.c0, C6.c1, C8.c0, C8.c1, C9.c0, C9.c1, Q0.2.1, Q1.2.1, Q2.2.1⟩ (fun hS => ?_)
  clear hK K
  (try simp only [Act.put, List.setIfInBounds_toArray, List.set_cons_zero, List.set_cons_succ])
  (refine wpAnyH_takeT (i := 21) (oi := ?oi13) (v := ?v13) hT hs ?hi13 (by kernel_rfl) (fun _ _ _ h => h) ?hg13 (by assumption) ?rest13; (case hi13 => (simp only [List.getElem?_toArray]; rfl)); (case hg13 => (refine Or.inl ⟨by rfl, ?_⟩; intro w hSw; (try dsimp only at hSw); go_simp; (try with_reducible rfl))); (try simp only [Act.put, List.setIfInBounds_toArray, List.set_cons_zero, List.set_cons_succ]))
  (refine wpAnyH_takeT (i := 22) (oi := ?oi14) (v := ?v14) hT hs ?hi14 (by kernel_rfl) (fun _ _ _ h => h) ?hg14 (by assumption) ?rest14; (case hi14 => (simp only [List.getElem?_toArray]; rfl)); (case hg14 => (refine Or.inl ⟨by rfl, ?_⟩; intro w hSw; (try dsimp only at hSw); go_simp; (try with_reducible rfl))); (try simp only [Act.put, List.setIfInBounds_toArray, List.set_cons_zero, List.set_cons_succ]))
  (refine wpAnyH_takeT (i := 23) (oi := ?oi15) (v := ?v15) hT hs ?hi15 (by kernel_rfl) (fun _ _ _ h => h) ?hg15 (by assumption) ?rest15; (case hi15 => (simp only [List.getElem?_toArray]; rfl)); (case hg15 => (refine Or.inl ⟨by rfl, ?_⟩; intro w hSw; (try dsimp only at hSw); go_simp; (try with_reducible rfl))); (try simp only [Act.put, List.setIfInBounds_toArray, List.set_cons_zero, List.set_cons_succ]))
  (refine wpAnyH_takeT (i := 24) (oi := ?oi16) (v := ?v16) hT hs ?hi16 (by kernel_rfl) (fun _ _ _ h => h) ?hg16 (by assumption) ?rest16; (case hi16 => (simp only [List.getElem?_toArray]; rfl)); (case hg16 => (refine Or.inl ⟨by rfl, ?_⟩; intro w hSw; (try dsimp only at hSw); go_simp; (try with_reducible rfl))); (try simp only [Act.put, List.setIfInBounds_toArray, List.set_cons_zero, List.set_cons_succ]))
  (refine wpAnyH_takeT (i := 25) (oi := ?oi17) (v := ?v17) hT hs ?hi17 (by kernel_rfl) (fun _ _ _ h => h) ?hg17 (by assumption) ?rest17; (case hi17 => (simp only [List.getElem?_toArray]; rfl)); (case hg17 => (refine Or.inl ⟨by rfl, ?_⟩; intro w hSw; (try dsimp only at hSw); go_simp; (try with_reducible rfl))); (try simp only [Act.put, List.setIfInBounds_toArray, List.set_cons_zero, List.set_cons_succ]))
  (refine wpAnyH_takeT (i := 27) (oi := ?oi18) (v := ?v18) hT hs ?hi18 (by kernel_rfl) (fun _ _ _ h => h) ?hg18 (by assumption) ?rest18; (case hi18 => (simp only [List.getElem?_toArray]; rfl)); (case hg18 => (refine Or.inl ⟨by rfl, ?_⟩; intro w hSw; (try dsimp only at hSw); go_simp; (try with_reducible rfl))); (try simp only [Act.put, List.setIfInBounds_toArray, List.set_cons_zero, List.set_cons_succ]))
  refine wpAnyH_readyT (rs := [26]) hT (by kernel_rfl) (by simp) ?_
  refine AllReadyH.cons (o := ?go20) ?gh20 (fun K hK => ?gs20) AllReadyH.nil
  case gh20 => (simp only [List.getElem?_toArray]; rfl)
  go_simp
  refine (Hhalf18.out _ _ _ nn n2).mono ?_
  rintro e u29 ⟨v114, rfl, n114, hk⟩
  replace nn := nn.fol hk
  replace n1 := n1.fol hk
  replace n2 := n2.fol hk
  replace n3 := n3.fol hk
  replace n4 := n4.fol hk
  replace i5 := i5.fol hk
  replace i6 := i6.fol hk
  replace C5 := C5.fol hk
  replace C6 := C6.fol hk
  replace n7 := n7.fol hk
  replace i8 := i8.fol hk
  replace i9 := i9.fol hk
  replace C8 := C8.fol hk
  replace C9 := C9.fol hk
  replace Q0 := Q0.fol hk
  replace Q1 := Q1.fol hk
  replace Q2 := Q2.fol hk
  replace na := na.fol hk
  replace nb := nb.fol hk
  replace n11 := n11.fol hk
  replace nc := nc.fol hk
  replace nd := nd.fol hk
  replace n17 := n17.fol hk
  replace ne := ne.fol hk
  replace nf := nf.fol hk
  replace ng := ng.fol hk
  replace n19 := n19.fol hk
  replace nh := nh.fol hk
  replace n21 := n21.fol hk
  replace n90 := n90.fol hk
  replace n91 := n91.fol hk
  replace n96 := n96.fol hk
  replace n97 := n97.fol hk
  replace n103 := n103.fol hk
  replace n104 := n104.fol hk
  replace n108 := n108.fol hk
  replace hF := Fol.trans hF hk
  clear hk
  clear hS
  refine hK.out _ _ ⟨C5.c0, C5.c1, C6.c0, C6.c1, C8.c0, C8.c1, C9.c0, C9.c1, Q0.2.1, Q1.2.1, Q2.2.1⟩ (fun hS => ?_)
  clear hK K
  (try simp only [Act.put, List.setIfInBounds_toArray, List.set_cons_zero, List.set_cons_succ])
  refine wpAnyH_readyT (rs := [28]) hT (by kernel_rfl) (by simp) ?_
  refine AllReadyH.cons (o := ?go21) ?gh21 (fun K hK => ?gs21) AllReadyH.nil
  case gh21 => (simp only [List.getElem?_toArray]; rfl)
  go_simp
  refine ((h_same 18 (by decide)).out _ _ _ n114 n2).mono ?_
  rintro e u30 ⟨rfl, hk⟩
  replace nn := nn.fol hk
  replace n1 := n1.fol hk
  replace n2 := n2.fol hk
  replace n3 := n3.fol hk
  replace n4 := n4.fol hk
  replace i5 := i5.fol hk
  replace i6 := i6.fol hk
  replace C5 := C5.fol hk
  replace C6 := C6.fol hk
  replace n7 := n7.fol hk
  replace i8 := i8.fol hk
  replace i9 := i9.fol hk
  replace C8 := C8.fol hk
  replace C9 := C9.fol hk
  replace Q0 := Q0.fol hk
  replace Q1 := Q1.fol hk
  replace Q2 := Q2.fol hk
  replace na := na.fol hk
  replace nb := nb.fol hk
  replace n11 := n11.fol hk
  replace nc := nc.fol hk
  replace nd := nd.fol hk
  replace n17 := n17.fol hk
  replace ne := ne.fol hk
  replace nf := nf.fol hk
  replace ng := ng.fol hk
  replace n19 := n19.fol hk
  replace nh := nh.fol hk
  replace n21 := n21.fol hk
  replace n90 := n90.fol hk
  replace n91 := n91.fol hk
  replace n96 := n96.fol hk
  replace n97 := n97.fol hk
  replace n103 := n103.fol hk
  replace n104 := n104.fol hk
  replace n108 := n108.fol hk
  replace n114 := n114.fol hk
  replace hF := Fol.trans hF hk
  clear hk
  clear hS
  refine hK.out _ _ ⟨C5.c0, C5.c1, C6.c0, C6.c1, C8.c0, C8.c1, C9.c0, C9.c1, Q0.2.1, Q1.2.1, Q2.2.1⟩ (fun hS => ?_)
  clear hK K
  (try simp only [Act.put, List.setIfInBounds_toArray, List.set_cons_zero, List.set_cons_succ])
  (refine wpAnyH_takeT (i := 29) (oi := ?oi19) (v := ?v19) hT hs ?hi19 (by kernel_rfl) (fun _ _ _ h => h) ?hg19 (by assumption) ?rest19; (case hi19 => (simp only [List.getElem?_toArray]; rfl)); (case hg19 => (refine Or.inl ⟨by rfl, ?_⟩; intro w hSw; (try dsimp only at hSw); go_simp; (try with_reducible rfl))); (try simp only [Act.put, List.setIfInBounds_toArray, List.set_cons_zero, List.set_cons_succ]))
  (refine wpAnyH_takeT (i := 30) (oi := ?oi20) (v := ?v20) hT hs ?hi20 (by kernel_rfl) (fun _ _ _ h => h) ?hg20 (by assumption) ?rest20; (case hi20 => (simp only [List.getElem?_toArray]; rfl)); (case hg20 => (refine Or.inl ⟨by rfl, ?_⟩; intro w hSw; (try dsimp only at hSw); go_simp; (try with_reducible rfl))); (try simp only [Act.put, List.setIfInBounds_toArray, List.set_cons_zero, List.set_cons_succ]))
  (refine wpAnyH_takeT (i := 31) (oi := ?oi21) (v := ?v21) hT hs ?hi21 (by kernel_rfl) (fun _ _ _ h => h) ?hg21 (by assumption) ?rest21; (case hi21 => (simp only [List.getElem?_toArray]; rfl)); (case hg21 => (refine Or.inl ⟨by rfl, ?_⟩; intro w hSw; (try dsimp only at hSw); go_simp; (try with_reducible rfl))); (try simp only [Act.put, List.setIfInBounds_toArray, List.set_cons_zero, List.set_cons_succ]))
  refine wpAnyH_readyT (rs := [32]) hT (by kernel_rfl) (by simp) ?_
  refine AllReadyH.cons (o := ?go22) ?gh22 (fun K hK => ?gs22) AllReadyH.nil
  case gh22 => (simp only [List.getElem?_toArray]; rfl)
  go_simp
  have n120 := lit_new 6 u30 (by decide) (by decide)
  have hk := Fol.new u30 (.cells #[.int .u32 6] 43)
  replace nn := nn.fol hk
  replace n1 := n1.fol hk
  replace n2 := n2.fol hk
  replace n3 := n3.fol hk
  replace n4 := n4.fol hk
  replace i5 := i5.fol hk
  replace i6 := i6.fol hk
  replace C5 := C5.fol hk
  replace C6 := C6.fol hk
  replace n7 := n7.fol hk
  replace i8 := i8.fol hk
  replace i9 := i9.fol hk
  replace C8 := C8.fol hk
  replace C9 := C9.fol hk
  replace Q0 := Q0.fol hk
  replace Q1 := Q1.fol hk
  replace Q2 := Q2.fol hk
  replace na := na.fol hk
  replace nb := nb.fol hk
  replace n11 := n11.fol hk
  replace nc := nc.fol hk
  replace nd := nd.fol hk
  replace n17 := n17.fol hk
  replace ne := ne.fol hk
  replace nf := nf.fol hk
  replace ng := ng.fol hk
  replace n19 := n19.fol hk
  replace nh := nh.fol hk
  replace n21 := n21.fol hk
  replace n90 := n90.fol hk
  replace n91 := n91.fol hk
  replace n96 := n96.fol hk
  replace n97 := n97.fol hk
  replace n103 := n103.fol hk
  replace n104 := n104.fol hk
  replace n108 := n108.fol hk
  replace n114 := n114.fol hk
  replace hF := Fol.trans hF hk
  clear hk
  clear hS
  refine hK.out _ _ ⟨C5.c0, C5.c1, C6.c0, C6.c1, C8.c0, C8.c1, C9.c0, C9.c1, Q0.2.1, Q1.2.1, Q2.2.1⟩ (fun hS => ?_)
  clear hK K
  (try simp only [Act.put, List.setIfInBounds_toArray, List.set_cons_zero, List.set_cons_succ])
  generalize (Value.slice (some ⟨u30.heap.size, 0, none⟩) 1 1) = v120 at *
  generalize u30.alloc (.cells #[.int .u32 6] 43) = u31 at *
  refine wpAnyH_readyT (rs := [33]) hT (by kernel_rfl) (by simp) ?_
  refine AllReadyH.cons (o := ?go23) ?gh23 (fun K hK => ?gs23) AllReadyH.nil
  case gh23 => (simp only [List.getElem?_toArray]; rfl)
  go_simp
  refine ((h_same 6 (by decide)).out _ _ _ n4 n120).mono ?_
  rintro e u32 ⟨rfl, hk⟩
  replace nn := nn.fol hk
  replace n1 := n1.fol hk
  replace n2 := n2.fol hk
  replace n3 := n3.fol hk
  replace n4 := n4.fol hk
  replace i5 := i5.fol hk
  replace i6 := i6.fol hk
  replace C5 := C5.fol hk
  replace C6 := C6.fol hk
  replace n7 := n7.fol hk
  replace i8 := i8.fol hk
  replace i9 := i9.fol hk
  replace C8 := C8.fol hk
  replace C9 := C9.fol hk
  replace Q0 := Q0.fol hk
  replace Q1 := Q1.fol hk
  replace Q2 := Q2.fol hk
  replace na := na.fol hk
  replace nb := nb.fol hk
  replace n11 := n11.fol hk
  replace nc := nc.fol hk
  replace nd := nd.fol hk
  replace n17 := n17.fol hk
  replace ne := ne.fol hk
  replace nf := nf.fol hk
  replace ng := ng.fol hk
  replace n19 := n19.fol hk
  replace nh := nh.fol hk
  replace n21 := n21.fol hk
  replace n90 := n90.fol hk
  replace n91 := n91.fol hk
  replace n96 := n96.fol hk
  replace n97 := n97.fol hk
  replace n103 := n103.fol hk
  replace n104 := n104.fol hk
  replace n108 := n108.fol hk
  replace n114 := n114.fol hk
  replace n120 := n120.fol hk
  replace hF := Fol.trans hF hk
  clear hk
  clear hS
  refine hK.out _ _ ⟨C5.c0, C5.c1, C6.c0, C6.c1, C8.c0, C8.c1, C9.c0, C9.c1, Q0.2.1, Q1.2.1, Q2.2.1⟩ (fun hS => ?_)
  clear hK K
  (try simp only [Act.put, List.setIfInBounds_toArray, List.set_cons_zero, List.set_cons_succ])
  (refine wpAnyH_takeT (i := 34) (oi := ?oi22) (v := ?v22) hT hs ?hi22 (by kernel_rfl) (fun _ _ _ h => h) ?hg22 (by assumption) ?rest22; (case hi22 => (simp only [List.getElem?_toArray]; rfl)); (case hg22 => (refine Or.inl ⟨by rfl, ?_⟩; intro w hSw; (try dsimp only at hSw); go_simp; (try with_reducible rfl))); (try simp only [Act.put, List.setIfInBounds_toArray, List.set_cons_zero, List.set_cons_succ]))
  (refine wpAnyH_takeT (i := 35) (oi := ?oi23) (v := ?v23) hT hs ?hi23 (by kernel_rfl) (fun _ _ _ h => h) ?hg23 (by assumption) ?rest23; (case hi23 => (simp only [List.getElem?_toArray]; rfl)); (case hg23 => (refine Or.inl ⟨by rfl, ?_⟩; intro w hSw; (try dsimp only at hSw); go_simp; (try with_reducible rfl))); (try simp only [Act.put, List.setIfInBounds_toArray, List.set_cons_zero, List.set_cons_succ]))
  (refine wpAnyH_takeT (i := 36) (oi := ?oi24) (v := ?v24) hT hs ?hi24 (by kernel_rfl) (fun _ _ _ h => h) ?hg24 (by assumption) ?rest24; (case hi24 => (simp only [List.getElem?_toArray]; rfl)); (case hg24 => (refine Or.inl ⟨by rfl, ?_⟩; intro w hSw; (try dsimp only at hSw); go_simp; (try with_reducible rfl))); (try simp only [Act.put, List.setIfInBounds_toArray, List.set_cons_zero, List.set_cons_succ]))
  refine wpAnyH_readyT (rs := [37]) hT (by kernel_rfl) (by simp) ?_
  refine AllReadyH.cons (o := ?go24) ?gh24 (fun K hK => ?gs24) AllReadyH.nil
  case gh24 => (simp only [List.getElem?_toArray]; rfl)
  go_simp
  refine (Hofn.out _).mono ?_
  rintro e u33 ⟨v125, rfl, n125, hk⟩
  replace nn := nn.fol hk
  replace n1 := n1.fol hk
  replace n2 := n2.fol hk
  replace n3 := n3.fol hk
  replace n4 := n4.fol hk
  replace i5 := i5.fol hk
  replace i6 := i6.fol hk
  replace C5 := C5.fol hk
  replace C6 := C6.fol hk
  replace n7 := n7.fol hk
  replace i8 := i8.fol hk
  replace i9 := i9.fol hk
  replace C8 := C8.fol hk
  replace C9 := C9.fol hk
  replace Q0 := Q0.fol hk
  replace Q1 := Q1.fol hk
  replace Q2 := Q2.fol hk
  replace na := na.fol hk
  replace nb := nb.fol hk
  replace n11 := n11.fol hk
  replace nc := nc.fol hk
  replace nd := nd.fol hk
  replace n17 := n17.fol hk
  replace ne := ne.fol hk
  replace nf := nf.fol hk
  replace ng := ng.fol hk
  replace n19 := n19.fol hk
  replace nh := nh.fol hk
  replace n21 := n21.fol hk
  replace n90 := n90.fol hk
  replace n91 := n91.fol hk
  replace n96 := n96.fol hk
  replace n97 := n97.fol hk
  replace n103 := n103.fol hk
  replace n104 := n104.fol hk
  replace n108 := n108.fol hk
  replace n114 := n114.fol hk
  replace n120 := n120.fol hk
  replace hF := Fol.trans hF hk
  clear hk
  clear hS
  refine hK.out _ _ ⟨C5.c0, C5.c1, C6.c0, C6.c1, C8.c0, C8.c1, C9.c0, C9.c1, Q0.2.1, Q1.2.1, Q2.2.1⟩ (fun hS => ?_)
  clear hK K
  (try simp only [Act.put, List.setIfInBounds_toArray, List.set_cons_zero, List.set_cons_succ])
  refine wpAnyH_readyT (rs := [38]) hT (by kernel_rfl) (by simp) ?_
  refine AllReadyH.cons (o := ?go25) ?gh25 (fun K hK => ?gs25) AllReadyH.nil
  case gh25 => (simp only [List.getElem?_toArray]; rfl)
  go_simp
  refine ((h_sames (-1) (by decide)).out _ _ _ i5 n125).mono ?_
  rintro e u34 ⟨rfl, hk⟩
  replace nn := nn.fol hk
  replace n1 := n1.fol hk
  replace n2 := n2.fol hk
  replace n3 := n3.fol hk
  replace n4 := n4.fol hk
  replace i5 := i5.fol hk
  replace i6 := i6.fol hk
  replace C5 := C5.fol hk
  replace C6 := C6.fol hk
  replace n7 := n7.fol hk
  replace i8 := i8.fol hk
  replace i9 := i9.fol hk
  replace C8 := C8.fol hk
  replace C9 := C9.fol hk
  replace Q0 := Q0.fol hk
  replace Q1 := Q1.fol hk
  replace Q2 := Q2.fol hk
  replace na := na.fol hk
  replace nb := nb.fol hk
  replace n11 := n11.fol hk
  replace nc := nc.fol hk
  replace nd := nd.fol hk
  replace n17 := n17.fol hk
  replace ne := ne.fol hk
  replace nf := nf.fol hk
  replace ng := ng.fol hk
  replace n19 := n19.fol hk
  replace nh := nh.fol hk
  replace n21 := n21.fol hk
  replace n90 := n90.fol hk
  replace n91 := n91.fol hk
  replace n96 := n96.fol hk
  replace n97 := n97.fol hk
  replace n103 := n103.fol hk
  replace n104 := n104.fol hk
  replace n108 := n108.fol hk
  replace n114 := n114.fol hk
  replace n120 := n120.fol hk
  replace n125 := n125.fol hk
  replace hF := Fol.trans hF hk
  clear hk
  clear hS
  refine hK.out _ _ ⟨C5.c0, C5.c1, C6.c0, C6.c1, C8.c0, C8.c1, C9.c0, C9.c1, Q0.2.1, Q1.2.1, Q2.2.1⟩ (fun hS => ?_)
  clear hK K
  (try simp only [Act.put, List.setIfInBounds_toArray, List.set_cons_zero, List.set_cons_succ])
  (refine wpAnyH_takeT (i := 39) (oi := ?oi25) (v := ?v25) hT hs ?hi25 (by kernel_rfl) (fun _ _ _ h => h) ?hg25 (by assumption) ?rest25; (case hi25 => (simp only [List.getElem?_toArray]; rfl)); (case hg25 => (refine Or.inl ⟨by rfl, ?_⟩; intro w hSw; (try dsimp only at hSw); go_simp; (try with_reducible rfl))); (try simp only [Act.put, List.setIfInBounds_toArray, List.set_cons_zero, List.set_cons_succ]))
  (refine wpAnyH_takeT (i := 40) (oi := ?oi26) (v := ?v26) hT hs ?hi26 (by kernel_rfl) (fun _ _ _ h => h) ?hg26 (by assumption) ?rest26; (case hi26 => (simp only [List.getElem?_toArray]; rfl)); (case hg26 => (refine Or.inl ⟨by rfl, ?_⟩; intro w hSw; (try dsimp only at hSw); go_simp; (try with_reducible rfl))); (try simp only [Act.put, List.setIfInBounds_toArray, List.set_cons_zero, List.set_cons_succ]))
  (refine wpAnyH_takeT (i := 41) (oi := ?oi27) (v := ?v27) hT hs ?hi27 (by kernel_rfl) (fun _ _ _ h => h) ?hg27 (by assumption) ?rest27; (case hi27 => (simp only [List.getElem?_toArray]; rfl)); (case hg27 => (refine Or.inl ⟨by rfl, ?_⟩; intro w hSw; (try dsimp only at hSw); go_simp; (try with_reducible rfl))); (try simp only [Act.put, List.setIfInBounds_toArray, List.set_cons_zero, List.set_cons_succ]))
  refine wpAnyH_readyT (rs := [42]) hT (by kernel_rfl) (by simp) ?_
  refine AllReadyH.cons (o := ?go26) ?gh26 (fun K hK => ?gs26) AllReadyH.nil
  case gh26 => (simp only [List.getElem?_toArray]; rfl)
  go_simp
  refine (Hof1.out _).mono ?_
  rintro e u35 ⟨v130, rfl, n130, hk⟩
  replace nn := nn.fol hk
  replace n1 := n1.fol hk
  replace n2 := n2.fol hk
  replace n3 := n3.fol hk
  replace n4 := n4.fol hk
  replace i5 := i5.fol hk
  replace i6 := i6.fol hk
  replace C5 := C5.fol hk
  replace C6 := C6.fol hk
  replace n7 := n7.fol hk
  replace i8 := i8.fol hk
  replace i9 := i9.fol hk
  replace C8 := C8.fol hk
  replace C9 := C9.fol hk
  replace Q0 := Q0.fol hk
  replace Q1 := Q1.fol hk
  replace Q2 := Q2.fol hk
  replace na := na.fol hk
  replace nb := nb.fol hk
  replace n11 := n11.fol hk
  replace nc := nc.fol hk
  replace nd := nd.fol hk
  replace n17 := n17.fol hk
  replace ne := ne.fol hk
  replace nf := nf.fol hk
  replace ng := ng.fol hk
  replace n19 := n19.fol hk
  replace nh := nh.fol hk
  replace n21 := n21.fol hk
  replace n90 := n90.fol hk
  replace n91 := n91.fol hk
  replace n96 := n96.fol hk
  replace n97 := n97.fol hk
  replace n103 := n103.fol hk
  replace n104 := n104.fol hk
  replace n108 := n108.fol hk
  replace n114 := n114.fol hk
  replace n120 := n120.fol hk
  replace n125 := n125.fol hk
  replace hF := Fol.trans hF hk
  clear hk
  clear hS
  refine hK.out _ _ ⟨C5.c0, C5.c1, C6.c0, C6.c1, C8.c0, C8.c1, C9.c0, C9.c1, Q0.2.1, Q1.2.1, Q2.2.1⟩ (fun hS => ?_)
  clear hK K
  (try simp only [Act.put, List.setIfInBounds_toArray, List.set_cons_zero, List.set_cons_succ])
  refine wpAnyH_readyT (rs := [43]) hT (by kernel_rfl) (by simp) ?_
  refine AllReadyH.cons (o := ?go27) ?gh27 (fun K hK => ?gs27) AllReadyH.nil
  case gh27 => (simp only [List.getElem?_toArray]; rfl)
  go_simp
  refine ((h_sames (1) (by decide)).out _ _ _ i6 n130).mono ?_
  rintro e u36 ⟨rfl, hk⟩
  replace nn := nn.fol hk
  replace n1 := n1.fol hk
  replace n2 := n2.fol hk
  replace n3 := n3.fol hk
  replace n4 := n4.fol hk
  replace i5 := i5.fol hk
  replace i6 := i6.fol hk
  replace C5 := C5.fol hk
  replace C6 := C6.fol hk
  replace n7 := n7.fol hk
  replace i8 := i8.fol hk
  replace i9 := i9.fol hk
  replace C8 := C8.fol hk
  replace C9 := C9.fol hk
  replace Q0 := Q0.fol hk
  replace Q1 := Q1.fol hk
  replace Q2 := Q2.fol hk
  replace na := na.fol hk
  replace nb := nb.fol hk
  replace n11 := n11.fol hk
  replace nc := nc.fol hk
  replace nd := nd.fol hk
  replace n17 := n17.fol hk
  replace ne := ne.fol hk
  replace nf := nf.fol hk
  replace ng := ng.fol hk
  replace n19 := n19.fol hk
  replace nh := nh.fol hk
  replace n21 := n21.fol hk
  replace n90 := n90.fol hk
  replace n91 := n91.fol hk
  replace n96 := n96.fol hk
  replace n97 := n97.fol hk
  replace n103 := n103.fol hk
  replace n104 := n104.fol hk
  replace n108 := n108.fol hk
  replace n114 := n114.fol hk
  replace n120 := n120.fol hk
  replace n125 := n125.fol hk
  replace n130 := n130.fol hk
  replace hF := Fol.trans hF hk
  clear hk
  clear hS
  refine hK.out _ _ ⟨C5.c0, C5.c1, C6.c0, C6.c1, C8.c0, C8.c1, C9.c0, C9.c1, Q0.2.1, Q1.2.1, Q2.2.1⟩ (fun hS => ?_)
  clear hK K
  (try simp only [Act.put, List.setIfInBounds_toArray, List.set_cons_zero, List.set_cons_succ])
  (refine wpAnyH_takeT (i := 44) (oi := ?oi28) (v := ?v28) hT hs ?hi28 (by kernel_rfl) (fun _ _ _ h => h) ?hg28 (by assumption) ?rest28; (case hi28 => (simp only [List.getElem?_toArray]; rfl)); (case hg28 => (refine Or.inl ⟨by rfl, ?_⟩; intro w hSw; (try dsimp only at hSw); go_simp; (try with_reducible rfl))); (try simp only [Act.put, List.setIfInBounds_toArray, List.set_cons_zero, List.set_cons_succ]))
  (refine wpAnyH_takeT (i := 45) (oi := ?oi29) (v := ?v29) hT hs ?hi29 (by kernel_rfl) (fun _ _ _ h => h) ?hg29 (by assumption) ?rest29; (case hi29 => (simp only [List.getElem?_toArray]; rfl)); (case hg29 => (refine Or.inl ⟨by rfl, ?_⟩; intro w hSw; (try dsimp only at hSw); go_simp; (try with_reducible rfl))); (try simp only [Act.put, List.setIfInBounds_toArray, List.set_cons_zero, List.set_cons_succ]))
  (refine wpAnyH_takeT (i := 46) (oi := ?oi30) (v := ?v30) hT hs ?hi30 (by kernel_rfl) (fun _ _ _ h => h) ?hg30 (by assumption) ?rest30; (case hi30 => (simp only [List.getElem?_toArray]; rfl)); (case hg30 => (refine Or.inl ⟨by rfl, ?_⟩; intro w hSw; (try dsimp only at hSw); go_simp; (try with_reducible rfl))); (try simp only [Act.put, List.setIfInBounds_toArray, List.set_cons_zero, List.set_cons_succ]))
  (refine wpAnyH_takeT (i := 47) (oi := ?oi31) (v := ?v31) hT hs ?hi31 (by kernel_rfl) (fun _ _ _ h => h) ?hg31 (by assumption) ?rest31; (case hi31 => (simp only [List.getElem?_toArray]; rfl)); (case hg31 => (refine Or.inl ⟨by rfl, ?_⟩; intro w hSw; (try dsimp only at hSw); go_simp; (try with_reducible rfl))); (try simp only [Act.put, List.setIfInBounds_toArray, List.set_cons_zero, List.set_cons_succ]))
  refine wpAnyH_readyT (rs := [48]) hT (by kernel_rfl) (by simp) ?_
  refine AllReadyH.cons (o := ?go28) ?gh28 (fun K hK => ?gs28) AllReadyH.nil
  case gh28 => (simp only [List.getElem?_toArray]; rfl)
  go_simp
  refine ((h_same 12 (by decide)).out _ _ _ n7 n1).mono ?_
  rintro e u37 ⟨rfl, hk⟩
  replace nn := nn.fol hk
  replace n1 := n1.fol hk
  replace n2 := n2.fol hk
  replace n3 := n3.fol hk
  replace n4 := n4.fol hk
  replace i5 := i5.fol hk
  replace i6 := i6.fol hk
  replace C5 := C5.fol hk
  replace C6 := C6.fol hk
  replace n7 := n7.fol hk
  replace i8 := i8.fol hk
  replace i9 := i9.fol hk
  replace C8 := C8.fol hk
  replace C9 := C9.fol hk
  replace Q0 := Q0.fol hk
  replace Q1 := Q1.fol hk
  replace Q2 := Q2.fol hk
  replace na := na.fol hk
  replace nb := nb.fol hk
  replace n11 := n11.fol hk
  replace nc := nc.fol hk
  replace nd := nd.fol hk
  replace n17 := n17.fol hk
  replace ne := ne.fol hk
  replace nf := nf.fol hk
  replace ng := ng.fol hk
  replace n19 := n19.fol hk
  replace nh := nh.fol hk
  replace n21 := n21.fol hk
  replace n90 := n90.fol hk
  replace n91 := n91.fol hk
  replace n96 := n96.fol hk
  replace n97 := n97.fol hk
  replace n103 := n103.fol hk
  replace n104 := n104.fol hk
  replace n108 := n108.fol hk
  replace n114 := n114.fol hk
  replace n120 := n120.fol hk
  replace n125 := n125.fol hk
  replace n130 := n130.fol hk
  replace hF := Fol.trans hF hk
  clear hk
  clear hS
  refine hK.out _ _ ⟨C5.c0, C5.c1, C6.c0, C6.c1, C8.c0, C8.c1, C9.c0, C9.c1, Q0.2.1, Q1.2.1, Q2.2.1⟩ (fun hS => ?_)
  clear hK K
  (try simp only [Act.put, List.setIfInBounds_toArray, List.set_cons_zero, List.set_cons_succ])
  (refine wpAnyH_takeT (i := 49) (oi := ?oi32) (v := ?v32) hT hs ?hi32 (by kernel_rfl) (fun _ _ _ h => h) ?hg32 (by assumption) ?rest32; (case hi32 => (simp only [List.getElem?_toArray]; rfl)); (case hg32 => (refine Or.inl ⟨by rfl, ?_⟩; intro w hSw; (try dsimp only at hSw); go_simp; (try with_reducible rfl))); (try simp only [Act.put, List.setIfInBounds_toArray, List.set_cons_zero, List.set_cons_succ]))
  (refine wpAnyH_takeT (i := 50) (oi := ?oi33) (v := ?v33) hT hs ?hi33 (by kernel_rfl) (fun _ _ _ h => h) ?hg33 (by assumption) ?rest33; (case hi33 => (simp only [List.getElem?_toArray]; rfl)); (case hg33 => (refine Or.inl ⟨by rfl, ?_⟩; intro w hSw; (try dsimp only at hSw); go_simp; (try with_reducible rfl))); (try simp only [Act.put, List.setIfInBounds_toArray, List.set_cons_zero, List.set_cons_succ]))
  (refine wpAnyH_takeT (i := 51) (oi := ?oi34) (v := ?v34) hT hs ?hi34 (by kernel_rfl) (fun _ _ _ h => h) ?hg34 (by assumption) ?rest34; (case hi34 => (simp only [List.getElem?_toArray]; rfl)); (case hg34 => (refine Or.inl ⟨by rfl, ?_⟩; intro w hSw; (try dsimp only at hSw); go_simp; (try with_reducible rfl))); (try simp only [Act.put, List.setIfInBounds_toArray, List.set_cons_zero, List.set_cons_succ]))
  refine wpAnyH_readyT (rs := [52]) hT (by kernel_rfl) (by simp) ?_
  refine AllReadyH.cons (o := ?go29) ?gh29 (fun K hK => ?gs29) AllReadyH.nil
  case gh29 => (simp only [List.getElem?_toArray]; rfl)
  go_simp
  refine (Hof1.out _).mono ?_
  rintro e u38 ⟨v140, rfl, n140, hk⟩
  replace nn := nn.fol hk
  replace n1 := n1.fol hk
  replace n2 := n2.fol hk
  replace n3 := n3.fol hk
  replace n4 := n4.fol hk
  replace i5 := i5.fol hk
  replace i6 := i6.fol hk
  replace C5 := C5.fol hk
  replace C6 := C6.fol hk
  replace n7 := n7.fol hk
  replace i8 := i8.fol hk
  replace i9 := i9.fol hk
  replace C8 := C8.fol hk
  replace C9 := C9.fol hk
  replace Q0 := Q0.fol hk
  replace Q1 := Q1.fol hk
  replace Q2 := Q2.fol hk
  replace na := na.fol hk
  replace nb := nb.fol hk
  replace n11 := n11.fol hk
  replace nc := nc.fol hk
  replace nd := nd.fol hk
  replace n17 := n17.fol hk
  replace ne := ne.fol hk
  replace nf := nf.fol hk
  replace ng := ng.fol hk
  replace n19 := n19.fol hk
  replace nh := nh.fol hk
  replace n21 := n21.fol hk
  replace n90 := n90.fol hk
  replace n91 := n91.fol hk
  replace n96 := n96.fol hk
  replace n97 := n97.fol hk
  replace n103 := n103.fol hk
  replace n104 := n104.fol hk
  replace n108 := n108.fol hk
  replace n114 := n114.fol hk
  replace n120 := n120.fol hk
  replace n125 := n125.fol hk
  replace n130 := n130.fol hk
  replace hF := Fol.trans hF hk
  clear hk
  clear hS
  refine hK.out _ _ ⟨C5.c0, C5.c1, C6.c0, C6.c1, C8.c0, C8.c1, C9.c0, C9.c1, Q0.2.1, Q1.2.1, Q2.2.1⟩ (fun hS => ?_)
  clear hK K
  (try simp only [Act.put, List.setIfInBounds_toArray, List.set_cons_zero, List.set_cons_succ])
  refine wpAnyH_readyT (rs := [53]) hT (by kernel_rfl) (by simp) ?_
  refine AllReadyH.cons (o := ?go30) ?gh30 (fun K hK => ?gs30) AllReadyH.nil
  case gh30 => (simp only [List.getElem?_toArray]; rfl)
  go_simp
  refine ((h_sames (1) (by decide)).out _ _ _ i8 n140).mono ?_
  rintro e u39 ⟨rfl, hk⟩
  replace nn := nn.fol hk
  replace n1 := n1.fol hk
  replace n2 := n2.fol hk
  replace n3 := n3.fol hk
  replace n4 := n4.fol hk
  replace i5 := i5.fol hk
  replace i6 := i6.fol hk
  replace C5 := C5.fol hk
  replace C6 := C6.fol hk
  replace n7 := n7.fol hk
  replace i8 := i8.fol hk
  replace i9 := i9.fol hk
  replace C8 := C8.fol hk
  replace C9 := C9.fol hk
  replace Q0 := Q0.fol hk
  replace Q1 := Q1.fol hk
  replace Q2 := Q2.fol hk
  replace na := na.fol hk
  replace nb := nb.fol hk
  replace n11 := n11.fol hk
  replace nc := nc.fol hk
  replace nd := nd.fol hk
  replace n17 := n17.fol hk
  replace ne := ne.fol hk
  replace nf := nf.fol hk
  replace ng := ng.fol hk
  replace n19 := n19.fol hk
  replace nh := nh.fol hk
  replace n21 := n21.fol hk
  replace n90 := n90.fol hk
  replace n91 := n91.fol hk
  replace n96 := n96.fol hk
  replace n97 := n97.fol hk
  replace n103 := n103.fol hk
  replace n104 := n104.fol hk
  replace n108 := n108.fol hk
  replace n114 := n114.fol hk
  replace n120 := n120.fol hk
  replace n125 := n125.fol hk
  replace n130 := n130.fol hk
  replace n140 := n140.fol hk
  replace hF := Fol.trans hF hk
  clear hk
  clear hS
  refine hK.out _ _ ⟨C5.c0, C5.c1, C6.c0, C6.c1, C8.c0, C8.c1, C9.c0, C9.c1, Q0.2.1, Q1.2.1, Q2.2.1⟩ (fun hS => ?_)
  clear hK K
  (try simp only [Act.put, List.setIfInBounds_toArray, List.set_cons_zero, List.set_cons_succ])
  (refine wpAnyH_takeT (i := 54) (oi := ?oi35) (v := ?v35) hT hs ?hi35 (by kernel_rfl) (fun _ _ _ h => h) ?hg35 (by assumption) ?rest35; (case hi35 => (simp only [List.getElem?_toArray]; rfl)); (case hg35 => (refine Or.inl ⟨by rfl, ?_⟩; intro w hSw; (try dsimp only at hSw); go_simp; (try with_reducible rfl))); (try simp only [Act.put, List.setIfInBounds_toArray, List.set_cons_zero, List.set_cons_succ]))
  (refine wpAnyH_takeT (i := 55) (oi := ?oi36) (v := ?v36) hT hs ?hi36 (by kernel_rfl) (fun _ _ _ h => h) ?hg36 (by assumption) ?rest36; (case hi36 => (simp only [List.getElem?_toArray]; rfl)); (case hg36 => (refine Or.inl ⟨by rfl, ?_⟩; intro w hSw; (try dsimp only at hSw); go_simp; (try with_reducible rfl))); (try simp only [Act.put, List.setIfInBounds_toArray, List.set_cons_zero, List.set_cons_succ]))
  (refine wpAnyH_takeT (i := 56) (oi := ?oi37) (v := ?v37) hT hs ?hi37 (by kernel_rfl) (fun _ _ _ h => h) ?hg37 (by assumption) ?rest37; (case hi37 => (simp only [List.getElem?_toArray]; rfl)); (case hg37 => (refine Or.inl ⟨by rfl, ?_⟩; intro w hSw; (try dsimp only at hSw); go_simp; (try with_reducible rfl))); (try simp only [Act.put, List.setIfInBounds_toArray, List.set_cons_zero, List.set_cons_succ]))
  refine wpAnyH_readyT (rs := [57]) hT (by kernel_rfl) (by simp) ?_
  refine AllReadyH.cons (o := ?go31) ?gh31 (fun K hK => ?gs31) AllReadyH.nil
  case gh31 => (simp only [List.getElem?_toArray]; rfl)
  go_simp
  refine (Hof0.out _).mono ?_
  rintro e u40 ⟨v145, rfl, n145, hk⟩
  replace nn := nn.fol hk
  replace n1 := n1.fol hk
  replace n2 := n2.fol hk
  replace n3 := n3.fol hk
  replace n4 := n4.fol hk
  replace i5 := i5.fol hk
  replace i6 := i6.fol hk
  replace C5 := C5.fol hk
  replace C6 := C6.fol hk
  replace n7 := n7.fol hk
  replace i8 := i8.fol hk
  replace i9 := i9.fol hk
  replace C8 := C8.fol hk
  replace C9 := C9.fol hk
  replace Q0 := Q0.fol hk
  replace Q1 := Q1.fol hk
  replace Q2 := Q2.fol hk
  replace na := na.fol hk
  replace nb := nb.fol hk
  replace n11 := n11.fol hk
  replace nc := nc.fol hk
  replace nd := nd.fol hk
  replace n17 := n17.fol hk
  replace ne := ne.fol hk
  replace nf := nf.fol hk
  replace ng := ng.fol hk
  replace n19 := n19.fol hk
  replace nh := nh.fol hk
  replace n21 := n21.fol hk
  replace n90 := n90.fol hk
  replace n91 := n91.fol hk
  replace n96 := n96.fol hk
  replace n97 := n97.fol hk
  replace n103 := n103.fol hk
  replace n104 := n104.fol hk
  replace n108 := n108.fol hk
  replace n114 := n114.fol hk
  replace n120 := n120.fol hk
  replace n125 := n125.fol hk
  replace n130 := n130.fol hk
  replace n140 := n140.fol hk
  replace hF := Fol.trans hF hk
  clear hk
  clear hS
  refine hK.out _ _ ⟨C5.c0, C5.c1, C6.c0, C6.c1, C8.c0, C8.c1, C9.c0, C9.c1, Q0.2.1, Q1.2.1, Q2.2.1⟩ (fun hS => ?_)
  clear hK K
  (try simp only [Act.put, List.setIfInBounds_toArray, List.set_cons_zero, List.set_cons_succ])
  refine wpAnyH_readyT (rs := [58]) hT (by kernel_rfl) (by simp) ?_
  refine AllReadyH.cons (o := ?go32) ?gh32 (fun K hK => ?gs32) AllReadyH.nil
  case gh32 => (simp only [List.getElem?_toArray]; rfl)
  go_simp
  refine ((h_sames (0) (by decide)).out _ _ _ i9 n145).mono ?_
  rintro e u41 ⟨rfl, hk⟩
  replace nn := nn.fol hk
  replace n1 := n1.fol hk
  replace n2 := n2.fol hk
  replace n3 := n3.fol hk
  replace n4 := n4.fol hk
  replace i5 := i5.fol hk
  replace i6 := i6.fol hk
  replace C5 := C5.fol hk
  replace C6 := C6.fol hk
  replace n7 := n7.fol hk
  replace i8 := i8.fol hk
  replace i9 := i9.fol hk
  replace C8 := C8.fol hk
  replace C9 := C9.fol hk
  replace Q0 := Q0.fol hk
  replace Q1 := Q1.fol hk
  replace Q2 := Q2.fol hk
  replace na := na.fol hk
  replace nb := nb.fol hk
  replace n11 := n11.fol hk
  replace nc := nc.fol hk
  replace nd := nd.fol hk
  replace n17 := n17.fol hk
  replace ne := ne.fol hk
  replace nf := nf.fol hk
  replace ng := ng.fol hk
  replace n19 := n19.fol hk
  replace nh := nh.fol hk
  replace n21 := n21.fol hk
  replace n90 := n90.fol hk
  replace n91 := n91.fol hk
  replace n96 := n96.fol hk
  replace n97 := n97.fol hk
  replace n103 := n103.fol hk
  replace n104 := n104.fol hk
  replace n108 := n108.fol hk
  replace n114 := n114.fol hk
  replace n120 := n120.fol hk
  replace n125 := n125.fol hk
  replace n130 := n130.fol hk
  replace n140 := n140.fol hk
  replace n145 := n145.fol hk
  replace hF := Fol.trans hF hk
  clear hk
  clear hS
  refine hK.out _ _ ⟨C5.c0, C5.c1, C6.c0, C6.c1, C8.c0, C8.c1, C9.c0, C9.c1, Q0.2.1, Q1.2.1, Q2.2.1⟩ (fun hS => ?_)
  clear hK K
  (try simp only [Act.put, List.setIfInBounds_toArray, List.set_cons_zero, List.set_cons_succ])
  (refine wpAnyH_takeT (i := 59) (oi := ?oi38) (v := ?v38) hT hs ?hi38 (by kernel_rfl) (fun _ _ _ h => h) ?hg38 (by assumption) ?rest38; (case hi38 => (simp only [List.getElem?_toArray]; rfl)); (case hg38 => (refine Or.inl ⟨by rfl, ?_⟩; intro w hSw; (try dsimp only at hSw); go_simp; (try with_reducible rfl))); (try simp only [Act.put, List.setIfInBounds_toArray, List.set_cons_zero, List.set_cons_succ]))
  (refine wpAnyH_takeT (i := 60) (oi := ?oi39) (v := ?v39) hT hs ?hi39 (by kernel_rfl) (fun _ _ _ h => h) ?hg39 (by assumption) ?rest39; (case hi39 => (simp only [List.getElem?_toArray]; rfl)); (case hg39 => (refine Or.inl ⟨by rfl, ?_⟩; intro w hSw; (try dsimp only at hSw); go_simp; (try with_reducible rfl))); (try simp only [Act.put, List.setIfInBounds_toArray, List.set_cons_zero, List.set_cons_succ]))
  (refine wpAnyH_takeT (i := 61) (oi := ?oi40) (v := ?v40) hT hs ?hi40 (by kernel_rfl) (fun _ _ _ h => h) ?hg40 (by assumption) ?rest40; (case hi40 => (simp only [List.getElem?_toArray]; rfl)); (case hg40 => (refine Or.inl ⟨by rfl, ?_⟩; intro w hSw; (try dsimp only at hSw); go_simp; (try with_reducible rfl))); (try simp only [Act.put, List.setIfInBounds_toArray, List.set_cons_zero, List.set_cons_succ]))
  (refine wpAnyH_takeT (i := 62) (oi := ?oi41) (v := ?v41) hT hs ?hi41 (by kernel_rfl) (fun _ _ _ h => h) ?hg41 (by assumption) ?rest41; (case hi41 => (simp only [List.getElem?_toArray]; rfl)); (case hg41 => (refine Or.inl ⟨by rfl, ?_⟩; intro w hSw; (try dsimp only at hSw); go_simp; (try with_reducible rfl))); (try simp only [Act.put, List.setIfInBounds_toArray, List.set_cons_zero, List.set_cons_succ]))
  (refine wpAnyH_takeT (i := 63) (oi := ?oi42) (v := ?v42) hT hs ?hi42 (by kernel_rfl) (fun _ _ _ h => h) ?hg42 (by assumption) ?rest42; (case hi42 => (simp only [List.getElem?_toArray]; rfl)); (case hg42 => (refine Or.inl ⟨by rfl, ?_⟩; intro w hSw; (try dsimp only at hSw); go_simp; (try with_reducible rfl))); (try simp only [Act.put, List.setIfInBounds_toArray, List.set_cons_zero, List.set_cons_succ]))
  (refine wpAnyH_takeT (i := 64) (oi := ?oi43) (v := ?v43) hT hs ?hi43 (by kernel_rfl) (fun _ _ _ h => h) ?hg43 (by assumption) ?rest43; (case hi43 => (simp only [List.getElem?_toArray]; rfl)); (case hg43 => (refine Or.inl ⟨by rfl, ?_⟩; intro w hSw; (try dsimp only at hSw); go_simp; (try with_reducible rfl))); (try simp only [Act.put, List.setIfInBounds_toArray, List.set_cons_zero, List.set_cons_succ]))
  (refine wpAnyH_takeT (i := 65) (oi := ?oi44) (v := ?v44) hT hs ?hi44 (by kernel_rfl) (fun _ _ _ h => h) ?hg44 (by assumption) ?rest44; (case hi44 => (simp only [List.getElem?_toArray]; rfl)); (case hg44 => (refine Or.inl ⟨by rfl, ?_⟩; intro w hSw; (try dsimp only at hSw); go_simp; (try with_reducible rfl))); (try simp only [Act.put, List.setIfInBounds_toArray, List.set_cons_zero, List.set_cons_succ]))
  (refine wpAnyH_takeT (i := 66) (oi := ?oi45) (v := ?v45) hT hs ?hi45 (by kernel_rfl) (fun _ _ _ h => h) ?hg45 (by assumption) ?rest45; (case hi45 => (simp only [List.getElem?_toArray]; rfl)); (case hg45 => (refine Or.inl ⟨by rfl, ?_⟩; intro w hSw; (try dsimp only at hSw); go_simp; (try with_reducible rfl))); (try simp only [Act.put, List.setIfInBounds_toArray, List.set_cons_zero, List.set_cons_succ]))
  (refine wpAnyH_takeT (i := 67) (oi := ?oi46) (v := ?v46) hT hs ?hi46 (by kernel_rfl) (fun _ _ _ h => h) ?hg46 (by assumption) ?rest46; (case hi46 => (simp only [List.getElem?_toArray]; rfl)); (case hg46 => (refine Or.inl ⟨by rfl, ?_⟩; intro w hSw; (try dsimp only at hSw); go_simp; (try with_reducible rfl))); (try simp only [Act.put, List.setIfInBounds_toArray, List.set_cons_zero, List.set_cons_succ]))
  (refine wpAnyH_takeT (i := 68) (oi := ?oi47) (v := ?v47) hT hs ?hi47 (by kernel_rfl) (fun _ _ _ h => h) ?hg47 (by assumption) ?rest47; (case hi47 => (simp only [List.getElem?_toArray]; rfl)); (case hg47 => (refine Or.inl ⟨by rfl, ?_⟩; intro w hSw; (try dsimp only at hSw); go_simp; (try with_reducible rfl))); (try simp only [Act.put, List.setIfInBounds_toArray, List.set_cons_zero, List.set_cons_succ]))
  (refine wpAnyH_takeT (i := 69) (oi := ?oi48) (v := ?v48) hT hs ?hi48 (by kernel_rfl) (fun _ _ _ h => h) ?hg48 (by assumption) ?rest48; (case hi48 => (simp only [List.getElem?_toArray]; rfl)); (case hg48 => (refine Or.inl ⟨by rfl, ?_⟩; intro w hSw; (try dsimp only at hSw); go_simp; (try with_reducible rfl))); (try simp only [Act.put, List.setIfInBounds_toArray, List.set_cons_zero, List.set_cons_succ]))
  (refine wpAnyH_takeT (i := 70) (oi := ?oi49) (v := ?v49) hT hs ?hi49 (by kernel_rfl) (fun _ _ _ h => h) ?hg49 (by assumption) ?rest49; (case hi49 => (simp only [List.getElem?_toArray]; rfl)); (case hg49 => (refine Or.inl ⟨by rfl, ?_⟩; intro w hSw; (try dsimp only at hSw); go_simp; (try with_reducible rfl))); (try simp only [Act.put, List.setIfInBounds_toArray, List.set_cons_zero, List.set_cons_succ]))
  (refine wpAnyH_takeT (i := 71) (oi := ?oi50) (v := ?v50) hT hs ?hi50 (by kernel_rfl) (fun _ _ _ h => h) ?hg50 (by assumption) ?rest50; (case hi50 => (simp only [List.getElem?_toArray]; rfl)); (case hg50 => (refine Or.inl ⟨by rfl, ?_⟩; intro w hSw; (try dsimp only at hSw); go_simp; (try with_reducible rfl))); (try simp only [Act.put, List.setIfInBounds_toArray, List.set_cons_zero, List.set_cons_succ]))
  refine wpAnyH_readyT (rs := [72]) hT (by kernel_rfl) (by simp) ?_
  refine AllReadyH.cons (o := ?go33) ?gh33 (fun K hK => ?gs33) AllReadyH.nil
  case gh33 => (simp only [List.getElem?_toArray]; rfl)
  go_simp
  refine ((h_same 1 (by decide)).out _ _ _ Q1.2.2 n3).mono ?_
  rintro e u42 ⟨rfl, hk⟩
  replace nn := nn.fol hk
  replace n1 := n1.fol hk
  replace n2 := n2.fol hk
  replace n3 := n3.fol hk
  replace n4 := n4.fol hk
  replace i5 := i5.fol hk
  replace i6 := i6.fol hk
  replace C5 := C5.fol hk
  replace C6 := C6.fol hk
  replace n7 := n7.fol hk
  replace i8 := i8.fol hk
  replace i9 := i9.fol hk
  replace C8 := C8.fol hk
  replace C9 := C9.fol hk
  replace Q0 := Q0.fol hk
  replace Q1 := Q1.fol hk
  replace Q2 := Q2.fol hk
  replace na := na.fol hk
  replace nb := nb.fol hk
  replace n11 := n11.fol hk
  replace nc := nc.fol hk
  replace nd := nd.fol hk
  replace n17 := n17.fol hk
  replace ne := ne.fol hk
  replace nf := nf.fol hk
  replace ng := ng.fol hk
  replace n19 := n19.fol hk
  replace nh := nh.fol hk
  replace n21 := n21.fol hk
  replace n90 := n90.fol hk
  replace n91 := n91.fol hk
  replace n96 := n96.fol hk
  replace n97 := n97.fol hk
  replace n103 := n103.fol hk
  replace n104 := n104.fol hk
  replace n108 := n108.fol hk
  replace n114 := n114.fol hk
  replace n120 := n120.fol hk
  replace n125 := n125.fol hk
  replace n130 := n130.fol hk
  replace n140 := n140.fol hk
  replace n145 := n145.fol hk
  replace hF := Fol.trans hF hk
  clear hk
  clear hS
  refine hK.out _ _ ⟨C5.c0, C5.c1, C6.c0, C6.c1, C8.c0, C8.c1, C9.c0, C9.c1, Q0.2.1, Q1.2.1, Q2.2.1⟩ (fun hS => ?_)
  clear hK K
  (try simp only [Act.put, List.setIfInBounds_toArray, List.set_cons_zero, List.set_cons_succ])
  (refine wpAnyH_takeT (i := 73) (oi := ?oi51) (v := ?v51) hT hs ?hi51 (by kernel_rfl) (fun _ _ _ h => h) ?hg51 (by assumption) ?rest51; (case hi51 => (simp only [List.getElem?_toArray]; rfl)); (case hg51 => (refine Or.inl ⟨by rfl, ?_⟩; intro w hSw; (try dsimp only at hSw); go_simp; (try with_reducible rfl))); (try simp only [Act.put, List.setIfInBounds_toArray, List.set_cons_zero, List.set_cons_succ]))
  (refine wpAnyH_takeT (i := 74) (oi := ?oi52) (v := ?v52) hT hs ?hi52 (by kernel_rfl) (fun _ _ _ h => h) ?hg52 (by assumption) ?rest52; (case hi52 => (simp only [List.getElem?_toArray]; rfl)); (case hg52 => (refine Or.inl ⟨by rfl, ?_⟩; intro w hSw; (try dsimp only at hSw); go_simp; (try with_reducible rfl))); (try simp only [Act.put, List.setIfInBounds_toArray, List.set_cons_zero, List.set_cons_succ]))
  (refine wpAnyH_takeT (i := 75) (oi := ?oi53) (v := ?v53) hT hs ?hi53 (by kernel_rfl) (fun _ _ _ h => h) ?hg53 (by assumption) ?rest53; (case hi53 => (simp only [List.getElem?_toArray]; rfl)); (case hg53 => (refine Or.inl ⟨by rfl, ?_⟩; intro w hSw; (try dsimp only at hSw); go_simp; (try with_reducible rfl))); (try simp only [Act.put, List.setIfInBounds_toArray, List.set_cons_zero, List.set_cons_succ]))
  (refine wpAnyH_takeT (i := 76) (oi := ?oi54) (v := ?v54) hT hs ?hi54 (by kernel_rfl) (fun _ _ _ h => h) ?hg54 (by assumption) ?rest54; (case hi54 => (simp only [List.getElem?_toArray]; rfl)); (case hg54 => (refine Or.inl ⟨by rfl, ?_⟩; intro w hSw; (try dsimp only at hSw); go_simp; (try with_reducible rfl))); (try simp only [Act.put, List.setIfInBounds_toArray, List.set_cons_zero, List.set_cons_succ]))
  (refine wpAnyH_takeT (i := 77) (oi := ?oi55) (v := ?v55) hT hs ?hi55 (by kernel_rfl) (fun _ _ _ h => h) ?hg55 (by assumption) ?rest55; (case hi55 => (simp only [List.getElem?_toArray]; rfl)); (case hg55 => (refine Or.inl ⟨by rfl, ?_⟩; intro w hSw; (try dsimp only at hSw); go_simp; (try with_reducible rfl))); (try simp only [Act.put, List.setIfInBounds_toArray, List.set_cons_zero, List.set_cons_succ]))
  refine wpAnyH_readyT (rs := [78]) hT (by kernel_rfl) (by simp) ?_
  refine AllReadyH.cons (o := ?go34) ?gh34 (fun K hK => ?gs34) AllReadyH.nil
  case gh34 => (simp only [List.getElem?_toArray]; rfl)
  go_simp
  have n166 := lit_new 2 u42 (by decide) (by decide)
  have hk := Fol.new u42 (.cells #[.int .u32 2] 43)
  replace nn := nn.fol hk
  replace n1 := n1.fol hk
  replace n2 := n2.fol hk
  replace n3 := n3.fol hk
  replace n4 := n4.fol hk
  replace i5 := i5.fol hk
  replace i6 := i6.fol hk
  replace C5 := C5.fol hk
  replace C6 := C6.fol hk
  replace n7 := n7.fol hk
  replace i8 := i8.fol hk
  replace i9 := i9.fol hk
  replace C8 := C8.fol hk
  replace C9 := C9.fol hk
  replace Q0 := Q0.fol hk
  replace Q1 := Q1.fol hk
  replace Q2 := Q2.fol hk
  replace na := na.fol hk
  replace nb := nb.fol hk
  replace n11 := n11.fol hk
  replace nc := nc.fol hk
  replace nd := nd.fol hk
  replace n17 := n17.fol hk
  replace ne := ne.fol hk
  replace nf := nf.fol hk
  replace ng := ng.fol hk
  replace n19 := n19.fol hk
  replace nh := nh.fol hk
  replace n21 := n21.fol hk
  replace n90 := n90.fol hk
  replace n91 := n91.fol hk
  replace n96 := n96.fol hk
  replace n97 := n97.fol hk
  replace n103 := n103.fol hk
  replace n104 := n104.fol hk
  replace n108 := n108.fol hk
  replace n114 := n114.fol hk
  replace n120 := n120.fol hk
  replace n125 := n125.fol hk
  replace n130 := n130.fol hk
  replace n140 := n140.fol hk
  replace n145 := n145.fol hk
  replace hF := Fol.trans hF hk
  clear hk
  clear hS
  refine hK.out _ _ ⟨C5.c0, C5.c1, C6.c0, C6.c1, C8.c0, C8.c1, C9.c0, C9.c1, Q0.2.1, Q1.2.1, Q2.2.1⟩ (fun hS => ?_)
  clear hK K
  (try simp only [Act.put, List.setIfInBounds_toArray, List.set_cons_zero, List.set_cons_succ])
  generalize (Value.slice (some ⟨u42.heap.size, 0, none⟩) 1 1) = v166 at *
  generalize u42.alloc (.cells #[.int .u32 2] 43) = u43 at *
  refine wpAnyH_readyT (rs := [79]) hT (by kernel_rfl) (by simp) ?_
  refine AllReadyH.cons (o := ?go35) ?gh35 (fun K hK => ?gs35) AllReadyH.nil
  case gh35 => (simp only [List.getElem?_toArray]; rfl)
  go_simp
  refine ((h_same 2 (by decide)).out _ _ _ Q2.2.2 n166).mono ?_
  rintro e u44 ⟨rfl, hk⟩
  replace nn := nn.fol hk
  replace n1 := n1.fol hk
  replace n2 := n2.fol hk
  replace n3 := n3.fol hk
  replace n4 := n4.fol hk
  replace i5 := i5.fol hk
  replace i6 := i6.fol hk
  replace C5 := C5.fol hk
  replace C6 := C6.fol hk
  replace n7 := n7.fol hk
  replace i8 := i8.fol hk
  replace i9 := i9.fol hk
  replace C8 := C8.fol hk
  replace C9 := C9.fol hk
  replace Q0 := Q0.fol hk
  replace Q1 := Q1.fol hk
  replace Q2 := Q2.fol hk
  replace na := na.fol hk
  replace nb := nb.fol hk
  replace n11 := n11.fol hk
  replace nc := nc.fol hk
  replace nd := nd.fol hk
  replace n17 := n17.fol hk
  replace ne := ne.fol hk
  replace nf := nf.fol hk
  replace ng := ng.fol hk
  replace n19 := n19.fol hk
  replace nh := nh.fol hk
  replace n21 := n21.fol hk
  replace n90 := n90.fol hk
  replace n91 := n91.fol hk
  replace n96 := n96.fol hk
  replace n97 := n97.fol hk
  replace n103 := n103.fol hk
  replace n104 := n104.fol hk
  replace n108 := n108.fol hk
  replace n114 := n114.fol hk
  replace n120 := n120.fol hk
  replace n125 := n125.fol hk
  replace n130 := n130.fol hk
  replace n140 := n140.fol hk
  replace n145 := n145.fol hk
  replace n166 := n166.fol hk
  replace hF := Fol.trans hF hk
  clear hk
  clear hS
  refine hK.out _ _ ⟨C5.c0, C5.c1, C6.c0, C6.c1, C8.c0, C8.c1, C9.c0, C9.c1, Q0.2.1, Q1.2.1, Q2.2.1⟩ (fun hS => ?_)
  clear hK K
  (try simp only [Act.put, List.setIfInBounds_toArray, List.set_cons_zero, List.set_cons_succ])
  (refine wpAnyH_takeT (i := 80) (oi := ?oi56) (v := ?v56) hT hs ?hi56 (by kernel_rfl) (fun _ _ _ h => h) ?hg56 (by assumption) ?rest56; (case hi56 => (simp only [List.getElem?_toArray]; rfl)); (case hg56 => (refine Or.inl ⟨by rfl, ?_⟩; intro w hSw; (try dsimp only at hSw); go_simp; (try with_reducible rfl))); (try simp only [Act.put, List.setIfInBounds_toArray, List.set_cons_zero, List.set_cons_succ]))
  (refine wpAnyH_takeT (i := 81) (oi := ?oi57) (v := ?v57) hT hs ?hi57 (by kernel_rfl) (fun _ _ _ h => h) ?hg57 (by assumption) ?rest57; (case hi57 => (simp only [List.getElem?_toArray]; rfl)); (case hg57 => (refine Or.inl ⟨by rfl, ?_⟩; intro w hSw; (try dsimp only at hSw); go_simp; (try with_reducible rfl))); (try simp only [Act.put, List.setIfInBounds_toArray, List.set_cons_zero, List.set_cons_succ]))
  (refine wpAnyH_takeT (i := 82) (oi := ?oi58) (v := ?v58) hT hs ?hi58 (by kernel_rfl) (fun _ _ _ h => h) ?hg58 (by assumption) ?rest58; (case hi58 => (simp only [List.getElem?_toArray]; rfl)); (case hg58 => (refine Or.inl ⟨by rfl, ?_⟩; intro w hSw; (try dsimp only at hSw); go_simp; (try with_reducible rfl))); (try simp only [Act.put, List.setIfInBounds_toArray, List.set_cons_zero, List.set_cons_succ]))
  refine wpAnyH_readyT (rs := [83]) hT (by kernel_rfl) (by simp) ?_
  refine AllReadyH.cons (o := ?go36) ?gh36 (fun K hK => ?gs36) AllReadyH.nil
  case gh36 => (simp only [List.getElem?_toArray]; rfl)
  go_simp
  refine (Hquots0.out _ _ _ n1 nn).mono ?_
  rintro e u45 ⟨v171, rfl, hq, hk⟩
  obtain ⟨oq171, cq171, rfl⟩ := hq.nil
  clear hq
  replace nn := nn.fol hk
  replace n1 := n1.fol hk
  replace n2 := n2.fol hk
  replace n3 := n3.fol hk
  replace n4 := n4.fol hk
  replace i5 := i5.fol hk
  replace i6 := i6.fol hk
  replace C5 := C5.fol hk
  replace C6 := C6.fol hk
  replace n7 := n7.fol hk
  replace i8 := i8.fol hk
  replace i9 := i9.fol hk
  replace C8 := C8.fol hk
  replace C9 := C9.fol hk
  replace Q0 := Q0.fol hk
  replace Q1 := Q1.fol hk
  replace Q2 := Q2.fol hk
  replace na := na.fol hk
  replace nb := nb.fol hk
  replace n11 := n11.fol hk
  replace nc := nc.fol hk
  replace nd := nd.fol hk
  replace n17 := n17.fol hk
  replace ne := ne.fol hk
  replace nf := nf.fol hk
  replace ng := ng.fol hk
  replace n19 := n19.fol hk
  replace nh := nh.fol hk
  replace n21 := n21.fol hk
  replace n90 := n90.fol hk
  replace n91 := n91.fol hk
  replace n96 := n96.fol hk
  replace n97 := n97.fol hk
  replace n103 := n103.fol hk
  replace n104 := n104.fol hk
  replace n108 := n108.fol hk
  replace n114 := n114.fol hk
  replace n120 := n120.fol hk
  replace n125 := n125.fol hk
  replace n130 := n130.fol hk
  replace n140 := n140.fol hk
  replace n145 := n145.fol hk
  replace n166 := n166.fol hk
  replace hF := Fol.trans hF hk
  clear hk
  clear hS
  refine hK.out _ _ ⟨C5.c0, C5.c1, C6.c0, C6.c1, C8.c0, C8.c1, C9.c0, C9.c1, Q0.2.1, Q1.2.1, Q2.2.1⟩ (fun hS => ?_)
  clear hK K
  (try simp only [Act.put, List.setIfInBounds_toArray, List.set_cons_zero, List.set_cons_succ])
  (refine wpAnyH_takeT (i := 84) (oi := ?oi59) (v := ?v59) hT hs ?hi59 (by kernel_rfl) (fun _ _ _ h => h) ?hg59 (by assumption) ?rest59; (case hi59 => (simp only [List.getElem?_toArray]; rfl)); (case hg59 => (refine Or.inl ⟨by rfl, ?_⟩; intro w hSw; (try dsimp only at hSw); go_simp; (try with_reducible rfl))); (try simp only [Act.put, List.setIfInBounds_toArray, List.set_cons_zero, List.set_cons_succ]))
  (refine wpAnyH_takeT (i := 85) (oi := ?oi60) (v := ?v60) hT hs ?hi60 (by kernel_rfl) (fun _ _ _ h => h) ?hg60 (by assumption) ?rest60; (case hi60 => (simp only [List.getElem?_toArray]; rfl)); (case hg60 => (refine Or.inl ⟨by rfl, ?_⟩; intro w hSw; (try dsimp only at hSw); go_simp; (try with_reducible rfl))); (try simp only [Act.put, List.setIfInBounds_toArray, List.set_cons_zero, List.set_cons_succ]))
  (refine wpAnyH_takeT (i := 86) (oi := ?oi61) (v := ?v61) hT hs ?hi61 (by kernel_rfl) (fun _ _ _ h => h) ?hg61 (by assumption) ?rest61; (case hi61 => (simp only [List.getElem?_toArray]; rfl)); (case hg61 => (refine Or.inl ⟨by rfl, ?_⟩; intro w hSw; (try dsimp only at hSw); go_simp; (try with_reducible rfl))); (try simp only [Act.put, List.setIfInBounds_toArray, List.set_cons_zero, List.set_cons_succ]))
  (refine wpAnyH_takeT (i := 87) (oi := ?oi62) (v := ?v62) hT hs ?hi62 (by kernel_rfl) (fun _ _ _ h => h) ?hg62 (by assumption) ?rest62; (case hi62 => (simp only [List.getElem?_toArray]; rfl)); (case hg62 => (refine Or.inl ⟨by rfl, ?_⟩; intro w hSw; (try dsimp only at hSw); go_simp; (try with_reducible rfl))); (try simp only [Act.put, List.setIfInBounds_toArray, List.set_cons_zero, List.set_cons_succ]))
  (refine wpAnyH_takeT (i := 88) (oi := ?oi63) (v := ?v63) hT hs ?hi63 (by kernel_rfl) (fun _ _ _ h => h) ?hg63 (by assumption) ?rest63; (case hi63 => (simp only [List.getElem?_toArray]; rfl)); (case hg63 => (refine Or.inl ⟨by rfl, ?_⟩; intro w hSw; (try dsimp only at hSw); go_simp; (try with_reducible rfl))); (try simp only [Act.put, List.setIfInBounds_toArray, List.set_cons_zero, List.set_cons_succ]))
  refine wpAnyH_readyT (rs := [89]) hT (by kernel_rfl) (by simp) ?_
  refine AllReadyH.cons (o := ?go37) ?gh37 (fun K hK => ?gs37) AllReadyH.nil
  case gh37 => (simp only [List.getElem?_toArray]; rfl)
  go_simp
  have n177 := lit_new 5 u45 (by decide) (by decide)
  have hk := Fol.new u45 (.cells #[.int .u32 5] 43)
  replace nn := nn.fol hk
  replace n1 := n1.fol hk
  replace n2 := n2.fol hk
  replace n3 := n3.fol hk
  replace n4 := n4.fol hk
  replace i5 := i5.fol hk
  replace i6 := i6.fol hk
  replace C5 := C5.fol hk
  replace C6 := C6.fol hk
  replace n7 := n7.fol hk
  replace i8 := i8.fol hk
  replace i9 := i9.fol hk
  replace C8 := C8.fol hk
  replace C9 := C9.fol hk
  replace Q0 := Q0.fol hk
  replace Q1 := Q1.fol hk
  replace Q2 := Q2.fol hk
  replace na := na.fol hk
  replace nb := nb.fol hk
  replace n11 := n11.fol hk
  replace nc := nc.fol hk
  replace nd := nd.fol hk
  replace n17 := n17.fol hk
  replace ne := ne.fol hk
  replace nf := nf.fol hk
  replace ng := ng.fol hk
  replace n19 := n19.fol hk
  replace nh := nh.fol hk
  replace n21 := n21.fol hk
  replace n90 := n90.fol hk
  replace n91 := n91.fol hk
  replace n96 := n96.fol hk
  replace n97 := n97.fol hk
  replace n103 := n103.fol hk
  replace n104 := n104.fol hk
  replace n108 := n108.fol hk
  replace n114 := n114.fol hk
  replace n120 := n120.fol hk
  replace n125 := n125.fol hk
  replace n130 := n130.fol hk
  replace n140 := n140.fol hk
  replace n145 := n145.fol hk
  replace n166 := n166.fol hk
  replace hF := Fol.trans hF hk
  clear hk
  clear hS
  refine hK.out _ _ ⟨C5.c0, C5.c1, C6.c0, C6.c1, C8.c0, C8.c1, C9.c0, C9.c1, Q0.2.1, Q1.2.1, Q2.2.1⟩ (fun hS => ?_)
  clear hK K
  (try simp only [Act.put, List.setIfInBounds_toArray, List.set_cons_zero, List.set_cons_succ])
  generalize (Value.slice (some ⟨u45.heap.size, 0, none⟩) 1 1) = v177 at *
  generalize u45.alloc (.cells #[.int .u32 5] 43) = u46 at *
  refine wpAnyH_readyT (rs := [90]) hT (by kernel_rfl) (by simp) ?_
  refine AllReadyH.cons (o := ?go38) ?gh38 (fun K hK => ?gs38) AllReadyH.nil
  case gh38 => (simp only [List.getElem?_toArray]; rfl)
  go_simp
  refine ((h_same 5 (by decide)).out _ _ _ n11 n177).mono ?_
  rintro e u47 ⟨rfl, hk⟩
  replace nn := nn.fol hk
  replace n1 := n1.fol hk
  replace n2 := n2.fol hk
  replace n3 := n3.fol hk
  replace n4 := n4.fol hk
  replace i5 := i5.fol hk
  replace i6 := i6.fol hk
  replace C5 := C5.fol hk
  replace C6 := C6.fol hk
  replace n7 := n7.fol hk
  replace i8 := i8.fol hk
  replace i9 := i9.fol hk
  replace C8 := C8.fol hk
  replace C9 := C9.fol hk
  replace Q0 := Q0.fol hk
  replace Q1 := Q1.fol hk
  replace Q2 := Q2.fol hk
  replace na := na.fol hk
  replace nb := nb.fol hk
  replace n11 := n11.fol hk
  replace nc := nc.fol hk
  replace nd := nd.fol hk
  replace n17 := n17.fol hk
  replace ne := ne.fol hk
  replace nf := nf.fol hk
  replace ng := ng.fol hk
  replace n19 := n19.fol hk
  replace nh := nh.fol hk
  replace n21 := n21.fol hk
  replace n90 := n90.fol hk
  replace n91 := n91.fol hk
  replace n96 := n96.fol hk
  replace n97 := n97.fol hk
  replace n103 := n103.fol hk
  replace n104 := n104.fol hk
  replace n108 := n108.fol hk
  replace n114 := n114.fol hk
  replace n120 := n120.fol hk
  replace n125 := n125.fol hk
  replace n130 := n130.fol hk
  replace n140 := n140.fol hk
  replace n145 := n145.fol hk
  replace n166 := n166.fol hk
  replace n177 := n177.fol hk
  replace hF := Fol.trans hF hk
  clear hk
  clear hS
  refine hK.out _ _ ⟨C5.c0, C5.c1, C6.c0, C6.c1, C8.c0, C8.c1, C9.c0, C9.c1, Q0.2.1, Q1.2.1, Q2.2.1⟩ (fun hS => ?_)
  clear hK K
  (try simp only [Act.put, List.setIfInBounds_toArray, List.set_cons_zero, List.set_cons_succ])
  (refine wpAnyH_takeT (i := 91) (oi := ?oi64) (v := ?v64) hT hs ?hi64 (by kernel_rfl) (fun _ _ _ h => h) ?hg64 (by assumption) ?rest64; (case hi64 => (simp only [List.getElem?_toArray]; rfl)); (case hg64 => (refine Or.inl ⟨by rfl, ?_⟩; intro w hSw; (try dsimp only at hSw); go_simp; (try with_reducible rfl))); (try simp only [Act.put, List.setIfInBounds_toArray, List.set_cons_zero, List.set_cons_succ]))
  (refine wpAnyH_takeT (i := 92) (oi := ?oi65) (v := ?v65) hT hs ?hi65 (by kernel_rfl) (fun _ _ _ h => h) ?hg65 (by assumption) ?rest65; (case hi65 => (simp only [List.getElem?_toArray]; rfl)); (case hg65 => (refine Or.inl ⟨by rfl, ?_⟩; intro w hSw; (try dsimp only at hSw); go_simp; (try with_reducible rfl))); (try simp only [Act.put, List.setIfInBounds_toArray, List.set_cons_zero, List.set_cons_succ]))
  (refine wpAnyH_takeT (i := 93) (oi := ?oi66) (v := ?v66) hT hs ?hi66 (by kernel_rfl) (fun _ _ _ h => h) ?hg66 (by assumption) ?rest66; (case hi66 => (simp only [List.getElem?_toArray]; rfl)); (case hg66 => (refine Or.inl ⟨by rfl, ?_⟩; intro w hSw; (try dsimp only at hSw); go_simp; (try with_reducible rfl))); (try simp only [Act.put, List.setIfInBounds_toArray, List.set_cons_zero, List.set_cons_succ]))
  (refine wpAnyH_takeT (i := 94) (oi := ?oi67) (v := ?v67) hT hs ?hi67 (by kernel_rfl) (fun _ _ _ h => h) ?hg67 (by assumption) ?rest67; (case hi67 => (simp only [List.getElem?_toArray]; rfl)); (case hg67 => (refine Or.inl ⟨by rfl, ?_⟩; intro w hSw; (try dsimp only at hSw); go_simp; (try with_reducible rfl))); (try simp only [Act.put, List.setIfInBounds_toArray, List.set_cons_zero, List.set_cons_succ]))
  (refine wpAnyH_takeT (i := 95) (oi := ?oi68) (v := ?v68) hT hs ?hi68 (by kernel_rfl) (fun _ _ _ h => h) ?hg68 (by assumption) ?rest68; (case hi68 => (simp only [List.getElem?_toArray]; rfl)); (case hg68 => (refine Or.inl ⟨by rfl, ?_⟩; intro w hSw; (try dsimp only at hSw); go_simp; (try with_reducible rfl))); (try simp only [Act.put, List.setIfInBounds_toArray, List.set_cons_zero, List.set_cons_succ]))
  (refine wpAnyH_takeT (i := 96) (oi := ?oi69) (v := ?v69) hT hs ?hi69 (by kernel_rfl) (fun _ _ _ h => h) ?hg69 (by assumption) ?rest69; (case hi69 => (simp only [List.getElem?_toArray]; rfl)); (case hg69 => (refine Or.inl ⟨by rfl, ?_⟩; intro w hSw; (try dsimp only at hSw); go_simp; (try with_reducible rfl))); (try simp only [Act.put, List.setIfInBounds_toArray, List.set_cons_zero, List.set_cons_succ]))
  (refine wpAnyH_takeT (i := 97) (oi := ?oi70) (v := ?v70) hT hs ?hi70 (by kernel_rfl) (fun _ _ _ h => h) ?hg70 (by assumption) ?rest70; (case hi70 => (simp only [List.getElem?_toArray]; rfl)); (case hg70 => (refine Or.inl ⟨by rfl, ?_⟩; intro w hSw; (try dsimp only at hSw); go_simp; (try with_reducible rfl))); (try simp only [Act.put, List.setIfInBounds_toArray, List.set_cons_zero, List.set_cons_succ]))
  (refine wpAnyH_takeT (i := 98) (oi := ?oi71) (v := ?v71) hT hs ?hi71 (by kernel_rfl) (fun _ _ _ h => h) ?hg71 (by assumption) ?rest71; (case hi71 => (simp only [List.getElem?_toArray]; rfl)); (case hg71 => (refine Or.inl ⟨by rfl, ?_⟩; intro w hSw; (try dsimp only at hSw); go_simp; (try with_reducible rfl))); (try simp only [Act.put, List.setIfInBounds_toArray, List.set_cons_zero, List.set_cons_succ]))
  (refine wpAnyH_takeT (i := 99) (oi := ?oi72) (v := ?v72) hT hs ?hi72 (by kernel_rfl) (fun _ _ _ h => h) ?hg72 (by assumption) ?rest72; (case hi72 => (simp only [List.getElem?_toArray]; rfl)); (case hg72 => (refine Or.inl ⟨by rfl, ?_⟩; intro w hSw; (try dsimp only at hSw); go_simp; (try with_reducible rfl))); (try simp only [Act.put, List.setIfInBounds_toArray, List.set_cons_zero, List.set_cons_succ]))
  (refine wpAnyH_takeT (i := 100) (oi := ?oi73) (v := ?v73) hT hs ?hi73 (by kernel_rfl) (fun _ _ _ h => h) ?hg73 (by assumption) ?rest73; (case hi73 => (simp only [List.getElem?_toArray]; rfl)); (case hg73 => (refine Or.inl ⟨by rfl, ?_⟩; intro w hSw; (try dsimp only at hSw); go_simp; (try with_reducible rfl))); (try simp only [Act.put, List.setIfInBounds_toArray, List.set_cons_zero, List.set_cons_succ]))
  (refine wpAnyH_takeT (i := 101) (oi := ?oi74) (v := ?v74) hT hs ?hi74 (by kernel_rfl) (fun _ _ _ h => h) ?hg74 (by assumption) ?rest74; (case hi74 => (simp only [List.getElem?_toArray]; rfl)); (case hg74 => (refine Or.inl ⟨by rfl, ?_⟩; intro w hSw; (try dsimp only at hSw); go_simp; (try with_reducible rfl))); (try simp only [Act.put, List.setIfInBounds_toArray, List.set_cons_zero, List.set_cons_succ]))
  (refine wpAnyH_takeT (i := 102) (oi := ?oi75) (v := ?v75) hT hs ?hi75 (by kernel_rfl) (fun _ _ _ h => h) ?hg75 (by assumption) ?rest75; (case hi75 => (simp only [List.getElem?_toArray]; rfl)); (case hg75 => (refine Or.inl ⟨by rfl, ?_⟩; intro w hSw; (try dsimp only at hSw); go_simp; (try with_reducible rfl))); (try simp only [Act.put, List.setIfInBounds_toArray, List.set_cons_zero, List.set_cons_succ]))
  (refine wpAnyH_takeT (i := 103) (oi := ?oi76) (v := ?v76) hT hs ?hi76 (by kernel_rfl) (fun _ _ _ h => h) ?hg76 (by assumption) ?rest76; (case hi76 => (simp only [List.getElem?_toArray]; rfl)); (case hg76 => (refine Or.inl ⟨by rfl, ?_⟩; intro w hSw; (try dsimp only at hSw); go_simp; (try with_reducible rfl))); (try simp only [Act.put, List.setIfInBounds_toArray, List.set_cons_zero, List.set_cons_succ]))
  (refine wpAnyH_takeT (i := 104) (oi := ?oi77) (v := ?v77) hT hs ?hi77 (by kernel_rfl) (fun _ _ _ h => h) ?hg77 (by assumption) ?rest77; (case hi77 => (simp only [List.getElem?_toArray]; rfl)); (case hg77 => (refine Or.inl ⟨by rfl, ?_⟩; intro w hSw; (try dsimp only at hSw); go_simp; (try with_reducible rfl))); (try simp only [Act.put, List.setIfInBounds_toArray, List.set_cons_zero, List.set_cons_succ]))
  (refine wpAnyH_takeT (i := 105) (oi := ?oi78) (v := ?v78) hT hs ?hi78 (by kernel_rfl) (fun _ _ _ h => h) ?hg78 (by assumption) ?rest78; (case hi78 => (simp only [List.getElem?_toArray]; rfl)); (case hg78 => (refine Or.inl ⟨by rfl, ?_⟩; intro w hSw; (try dsimp only at hSw); go_simp; (try with_reducible rfl))); (try simp only [Act.put, List.setIfInBounds_toArray, List.set_cons_zero, List.set_cons_succ]))
  (refine wpAnyH_takeT (i := 106) (oi := ?oi79) (v := ?v79) hT hs ?hi79 (by kernel_rfl) (fun _ _ _ h => h) ?hg79 (by assumption) ?rest79; (case hi79 => (simp only [List.getElem?_toArray]; rfl)); (case hg79 => (refine Or.inl ⟨by rfl, ?_⟩; intro w hSw; (try dsimp only at hSw); go_simp; (try with_reducible rfl))); (try simp only [Act.put, List.setIfInBounds_toArray, List.set_cons_zero, List.set_cons_succ]))
  (refine wpAnyH_takeT (i := 107) (oi := ?oi80) (v := ?v80) hT hs ?hi80 (by kernel_rfl) (fun _ _ _ h => h) ?hg80 (by assumption) ?rest80; (case hi80 => (simp only [List.getElem?_toArray]; rfl)); (case hg80 => (refine Or.inl ⟨by rfl, ?_⟩; intro w hSw; (try dsimp only at hSw); go_simp; (try with_reducible rfl))); (try simp only [Act.put, List.setIfInBounds_toArray, List.set_cons_zero, List.set_cons_succ]))
  (refine wpAnyH_takeT (i := 108) (oi := ?oi81) (v := ?v81) hT hs ?hi81 (by kernel_rfl) (fun _ _ _ h => h) ?hg81 (by assumption) ?rest81; (case hi81 => (simp only [List.getElem?_toArray]; rfl)); (case hg81 => (refine Or.inl ⟨by rfl, ?_⟩; intro w hSw; (try dsimp only at hSw); go_simp; (try with_reducible rfl))); (try simp only [Act.put, List.setIfInBounds_toArray, List.set_cons_zero, List.set_cons_succ]))
  (refine wpAnyH_takeT (i := 109) (oi := ?oi82) (v := ?v82) hT hs ?hi82 (by kernel_rfl) (fun _ _ _ h => h) ?hg82 (by assumption) ?rest82; (case hi82 => (simp only [List.getElem?_toArray]; rfl)); (case hg82 => (refine Or.inl ⟨by rfl, ?_⟩; intro w hSw; (try dsimp only at hSw); go_simp; (try with_reducible rfl))); (try simp only [Act.put, List.setIfInBounds_toArray, List.set_cons_zero, List.set_cons_succ]))
  (refine wpAnyH_takeT (i := 110) (oi := ?oi83) (v := ?v83) hT hs ?hi83 (by kernel_rfl) (fun _ _ _ h => h) ?hg83 (by assumption) ?rest83; (case hi83 => (simp only [List.getElem?_toArray]; rfl)); (case hg83 => (refine Or.inl ⟨by rfl, ?_⟩; intro w hSw; (try dsimp only at hSw); go_simp; (try with_reducible rfl))); (try simp only [Act.put, List.setIfInBounds_toArray, List.set_cons_zero, List.set_cons_succ]))
  (refine wpAnyH_takeT (i := 111) (oi := ?oi84) (v := ?v84) hT hs ?hi84 (by kernel_rfl) (fun _ _ _ h => h) ?hg84 (by assumption) ?rest84; (case hi84 => (simp only [List.getElem?_toArray]; rfl)); (case hg84 => (refine Or.inl ⟨by rfl, ?_⟩; intro w hSw; (try dsimp only at hSw); go_simp; (try with_reducible rfl))); (try simp only [Act.put, List.setIfInBounds_toArray, List.set_cons_zero, List.set_cons_succ]))
  (refine wpAnyH_takeT (i := 112) (oi := ?oi85) (v := ?v85) hT hs ?hi85 (by kernel_rfl) (fun _ _ _ h => h) ?hg85 (by assumption) ?rest85; (case hi85 => (simp only [List.getElem?_toArray]; rfl)); (case hg85 => (refine Or.inl ⟨by rfl, ?_⟩; intro w hSw; (try dsimp only at hSw); go_simp; (try with_reducible rfl))); (try simp only [Act.put, List.setIfInBounds_toArray, List.set_cons_zero, List.set_cons_succ]))
  (refine wpAnyH_takeT (i := 113) (oi := ?oi86) (v := ?v86) hT hs ?hi86 (by kernel_rfl) (fun _ _ _ h => h) ?hg86 (by assumption) ?rest86; (case hi86 => (simp only [List.getElem?_toArray]; rfl)); (case hg86 => (refine Or.inl ⟨by rfl, ?_⟩; intro w hSw; (try dsimp only at hSw); go_simp; (try with_reducible rfl))); (try simp only [Act.put, List.setIfInBounds_toArray, List.set_cons_zero, List.set_cons_succ]))
  (refine wpAnyH_takeT (i := 114) (oi := ?oi87) (v := ?v87) hT hs ?hi87 (by kernel_rfl) (fun _ _ _ h => h) ?hg87 (by assumption) ?rest87; (case hi87 => (simp only [List.getElem?_toArray]; rfl)); (case hg87 => (refine Or.inl ⟨by rfl, ?_⟩; intro w hSw; (try dsimp only at hSw); go_simp; (try with_reducible rfl))); (try simp only [Act.put, List.setIfInBounds_toArray, List.set_cons_zero, List.set_cons_succ]))
  refine wpAnyH_readyT (rs := [115]) hT (by kernel_rfl) (by simp) ?_
  refine AllReadyH.cons (o := ?go39) ?gh39 (fun K hK => ?gs39) AllReadyH.nil
  case gh39 => (simp only [List.getElem?_toArray]; rfl)
  go_simp
  have n203 := lit_new 24 u47 (by decide) (by decide)
  have hk := Fol.new u47 (.cells #[.int .u32 24] 43)
  replace nn := nn.fol hk
  replace n1 := n1.fol hk
  replace n2 := n2.fol hk
  replace n3 := n3.fol hk
  replace n4 := n4.fol hk
  replace i5 := i5.fol hk
  replace i6 := i6.fol hk
  replace C5 := C5.fol hk
  replace C6 := C6.fol hk
  replace n7 := n7.fol hk
  replace i8 := i8.fol hk
  replace i9 := i9.fol hk
  replace C8 := C8.fol hk
  replace C9 := C9.fol hk
  replace Q0 := Q0.fol hk
  replace Q1 := Q1.fol hk
  replace Q2 := Q2.fol hk
  replace na := na.fol hk
  replace nb := nb.fol hk
  replace n11 := n11.fol hk
  replace nc := nc.fol hk
  replace nd := nd.fol hk
  replace n17 := n17.fol hk
  replace ne := ne.fol hk
  replace nf := nf.fol hk
  replace ng := ng.fol hk
  replace n19 := n19.fol hk
  replace nh := nh.fol hk
  replace n21 := n21.fol hk
  replace n90 := n90.fol hk
  replace n91 := n91.fol hk
  replace n96 := n96.fol hk
  replace n97 := n97.fol hk
  replace n103 := n103.fol hk
  replace n104 := n104.fol hk
  replace n108 := n108.fol hk
  replace n114 := n114.fol hk
  replace n120 := n120.fol hk
  replace n125 := n125.fol hk
  replace n130 := n130.fol hk
  replace n140 := n140.fol hk
  replace n145 := n145.fol hk
  replace n166 := n166.fol hk
  replace n177 := n177.fol hk
  replace hF := Fol.trans hF hk
  clear hk
  clear hS
  refine hK.out _ _ ⟨C5.c0, C5.c1, C6.c0, C6.c1, C8.c0, C8.c1, C9.c0, C9.c1, Q0.2.1, Q1.2.1, Q2.2.1⟩ (fun hS => ?_)
  clear hK K
  (try simp only [Act.put, List.setIfInBounds_toArray, List.set_cons_zero, List.set_cons_succ])
  generalize (Value.slice (some ⟨u47.heap.size, 0, none⟩) 1 1) = v203 at *
  generalize u47.alloc (.cells #[.int .u32 24] 43) = u48 at *
  refine wpAnyH_readyT (rs := [116]) hT (by kernel_rfl) (by simp) ?_
  refine AllReadyH.cons (o := ?go40) ?gh40 (fun K hK => ?gs40) AllReadyH.nil
  case gh40 => (simp only [List.getElem?_toArray]; rfl)
  go_simp
  refine ((h_same 24 (by decide)).out _ _ _ n19 n203).mono ?_
  rintro e u49 ⟨rfl, hk⟩
  replace nn := nn.fol hk
  replace n1 := n1.fol hk
  replace n2 := n2.fol hk
  replace n3 := n3.fol hk
  replace n4 := n4.fol hk
  replace i5 := i5.fol hk
  replace i6 := i6.fol hk
  replace C5 := C5.fol hk
  replace C6 := C6.fol hk
  replace n7 := n7.fol hk
  replace i8 := i8.fol hk
  replace i9 := i9.fol hk
  replace C8 := C8.fol hk
  replace C9 := C9.fol hk
  replace Q0 := Q0.fol hk
  replace Q1 := Q1.fol hk
  replace Q2 := Q2.fol hk
  replace na := na.fol hk
  replace nb := nb.fol hk
  replace n11 := n11.fol hk
  replace nc := nc.fol hk
  replace nd := nd.fol hk
  replace n17 := n17.fol hk
  replace ne := ne.fol hk
  replace nf := nf.fol hk
  replace ng := ng.fol hk
  replace n19 := n19.fol hk
  replace nh := nh.fol hk
  replace n21 := n21.fol hk
  replace n90 := n90.fol hk
  replace n91 := n91.fol hk
  replace n96 := n96.fol hk
  replace n97 := n97.fol hk
  replace n103 := n103.fol hk
  replace n104 := n104.fol hk
  replace n108 := n108.fol hk
  replace n114 := n114.fol hk
  replace n120 := n120.fol hk
  replace n125 := n125.fol hk
  replace n130 := n130.fol hk
  replace n140 := n140.fol hk
  replace n145 := n145.fol hk
  replace n166 := n166.fol hk
  replace n177 := n177.fol hk
  replace n203 := n203.fol hk
  replace hF := Fol.trans hF hk
  clear hk
  clear hS
  refine hK.out _ _ ⟨C5.c0, C5.c1, C6.c0, C6.c1, C8.c0, C8.c1, C9.c0, C9.c1, Q0.2.1, Q1.2.1, Q2.2.1⟩ (fun hS => ?_)
  clear hK K
  (try simp only [Act.put, List.setIfInBounds_toArray, List.set_cons_zero, List.set_cons_succ])
  (refine wpAnyH_takeT (i := 117) (oi := ?oi88) (v := ?v88) hT hs ?hi88 (by kernel_rfl) (fun _ _ _ h => h) ?hg88 (by assumption) ?rest88; (case hi88 => (simp only [List.getElem?_toArray]; rfl)); (case hg88 => (refine Or.inl ⟨by rfl, ?_⟩; intro w hSw; (try dsimp only at hSw); go_simp; (try with_reducible rfl))); (try simp only [Act.put, List.setIfInBounds_toArray, List.set_cons_zero, List.set_cons_succ]))
  (refine wpAnyH_takeT (i := 118) (oi := ?oi89) (v := ?v89) hT hs ?hi89 (by kernel_rfl) (fun _ _ _ h => h) ?hg89 (by assumption) ?rest89; (case hi89 => (simp only [List.getElem?_toArray]; rfl)); (case hg89 => (refine Or.inl ⟨by rfl, ?_⟩; intro w hSw; (try dsimp only at hSw); go_simp; (try with_reducible rfl))); (try simp only [Act.put, List.setIfInBounds_toArray, List.set_cons_zero, List.set_cons_succ]))
  (refine wpAnyH_takeT (i := 119) (oi := ?oi90) (v := ?v90) hT hs ?hi90 (by kernel_rfl) (fun _ _ _ h => h) ?hg90 (by assumption) ?rest90; (case hi90 => (simp only [List.getElem?_toArray]; rfl)); (case hg90 => (refine Or.inl ⟨by rfl, ?_⟩; intro w hSw; (try dsimp only at hSw); go_simp; (try with_reducible rfl))); (try simp only [Act.put, List.setIfInBounds_toArray, List.set_cons_zero, List.set_cons_succ]))
  (refine wpAnyH_takeT (i := 120) (oi := ?oi91) (v := ?v91) hT hs ?hi91 (by kernel_rfl) (fun _ _ _ h => h) ?hg91 (by assumption) ?rest91; (case hi91 => (simp only [List.getElem?_toArray]; rfl)); (case hg91 => (refine Or.inl ⟨by rfl, ?_⟩; intro w hSw; (try dsimp only at hSw); go_simp; (try with_reducible rfl))); (try simp only [Act.put, List.setIfInBounds_toArray, List.set_cons_zero, List.set_cons_succ]))
  (refine wpAnyH_takeT (i := 121) (oi := ?oi92) (v := ?v92) hT hs ?hi92 (by kernel_rfl) (fun _ _ _ h => h) ?hg92 (by assumption) ?rest92; (case hi92 => (simp only [List.getElem?_toArray]; rfl)); (case hg92 => (refine Or.inl ⟨by rfl, ?_⟩; intro w hSw; (try dsimp only at hSw); go_simp; (try with_reducible rfl))); (try simp only [Act.put, List.setIfInBounds_toArray, List.set_cons_zero, List.set_cons_succ]))
  (refine wpAnyH_takeT (i := 122) (oi := ?oi93) (v := ?v93) hT hs ?hi93 (by kernel_rfl) (fun _ _ _ h => h) ?hg93 (by assumption) ?rest93; (case hi93 => (simp only [List.getElem?_toArray]; rfl)); (case hg93 => (refine Or.inl ⟨by rfl, ?_⟩; intro w hSw; (try dsimp only at hSw); go_simp; (try with_reducible rfl))); (try simp only [Act.put, List.setIfInBounds_toArray, List.set_cons_zero, List.set_cons_succ]))
  (refine wpAnyH_takeT (i := 123) (oi := ?oi94) (v := ?v94) hT hs ?hi94 (by kernel_rfl) (fun _ _ _ h => h) ?hg94 (by assumption) ?rest94; (case hi94 => (simp only [List.getElem?_toArray]; rfl)); (case hg94 => (refine Or.inl ⟨by rfl, ?_⟩; intro w hSw; (try dsimp only at hSw); go_simp; (try with_reducible rfl))); (try simp only [Act.put, List.setIfInBounds_toArray, List.set_cons_zero, List.set_cons_succ]))
  (refine wpAnyH_takeT (i := 124) (oi := ?oi95) (v := ?v95) hT hs ?hi95 (by kernel_rfl) (fun _ _ _ h => h) ?hg95 (by assumption) ?rest95; (case hi95 => (simp only [List.getElem?_toArray]; rfl)); (case hg95 => (refine Or.inl ⟨by rfl, ?_⟩; intro w hSw; (try dsimp only at hSw); go_simp; (try with_reducible rfl))); (try simp only [Act.put, List.setIfInBounds_toArray, List.set_cons_zero, List.set_cons_succ]))
  refine wpAnyH_readyT (rs := [125]) hT (by kernel_rfl) (by simp) ?_
  refine AllReadyH.cons (o := ?go41) ?gh41 (fun K hK => ?gs41) AllReadyH.nil
  case gh41 => (simp only [List.getElem?_toArray]; rfl)
  go_simp
  refine ((h_same 1 (by decide)).out _ _ _ n21 n3).mono ?_
  rintro e u50 ⟨rfl, hk⟩
  replace nn := nn.fol hk
  replace n1 := n1.fol hk
  replace n2 := n2.fol hk
  replace n3 := n3.fol hk
  replace n4 := n4.fol hk
  replace i5 := i5.fol hk
  replace i6 := i6.fol hk
  replace C5 := C5.fol hk
  replace C6 := C6.fol hk
  replace n7 := n7.fol hk
  replace i8 := i8.fol hk
  replace i9 := i9.fol hk
  replace C8 := C8.fol hk
  replace C9 := C9.fol hk
  replace Q0 := Q0.fol hk
  replace Q1 := Q1.fol hk
  replace Q2 := Q2.fol hk
  replace na := na.fol hk
  replace nb := nb.fol hk
  replace n11 := n11.fol hk
  replace nc := nc.fol hk
  replace nd := nd.fol hk
  replace n17 := n17.fol hk
  replace ne := ne.fol hk
  replace nf := nf.fol hk
  replace ng := ng.fol hk
  replace n19 := n19.fol hk
  replace nh := nh.fol hk
  replace n21 := n21.fol hk
  replace n90 := n90.fol hk
  replace n91 := n91.fol hk
  replace n96 := n96.fol hk
  replace n97 := n97.fol hk
  replace n103 := n103.fol hk
  replace n104 := n104.fol hk
  replace n108 := n108.fol hk
  replace n114 := n114.fol hk
  replace n120 := n120.fol hk
  replace n125 := n125.fol hk
  replace n130 := n130.fol hk
  replace n140 := n140.fol hk
  replace n145 := n145.fol hk
  replace n166 := n166.fol hk
  replace n177 := n177.fol hk
  replace n203 := n203.fol hk
  replace hF := Fol.trans hF hk
  clear hk
  clear hS
  refine hK.out _ _ ⟨C5.c0, C5.c1, C6.c0, C6.c1, C8.c0, C8.c1, C9.c0, C9.c1, Q0.2.1, Q1.2.1, Q2.2.1⟩ (fun hS => ?_)
  clear hK K
  (try simp only [Act.put, List.setIfInBounds_toArray, List.set_cons_zero, List.set_cons_succ])
  (refine wpAnyH_takeT (i := 126) (oi := ?oi96) (v := ?v96) hT hs ?hi96 (by kernel_rfl) (fun _ _ _ h => h) ?hg96 (by assumption) ?rest96; (case hi96 => (simp only [List.getElem?_toArray]; rfl)); (case hg96 => (refine Or.inl ⟨by rfl, ?_⟩; intro w hSw; (try dsimp only at hSw); go_simp; (try with_reducible rfl))); (try simp only [Act.put, List.setIfInBounds_toArray, List.set_cons_zero, List.set_cons_succ]))
  (refine wpAnyH_takeT (i := 127) (oi := ?oi97) (v := ?v97) hT hs ?hi97 (by kernel_rfl) (fun _ _ _ h => h) ?hg97 (by assumption) ?rest97; (case hi97 => (simp only [List.getElem?_toArray]; rfl)); (case hg97 => (refine Or.inl ⟨by rfl, ?_⟩; intro w hSw; (try dsimp only at hSw); go_simp; (try with_reducible rfl))); (try simp only [Act.put, List.setIfInBounds_toArray, List.set_cons_zero, List.set_cons_succ]))
  (refine wpAnyH_takeT (i := 128) (oi := ?oi98) (v := ?v98) hT hs ?hi98 (by kernel_rfl) (fun _ _ _ h => h) ?hg98 (by assumption) ?rest98; (case hi98 => (simp only [List.getElem?_toArray]; rfl)); (case hg98 => (refine Or.inl ⟨by rfl, ?_⟩; intro w hSw; (try dsimp only at hSw); go_simp; (try with_reducible rfl))); (try simp only [Act.put, List.setIfInBounds_toArray, List.set_cons_zero, List.set_cons_succ]))
  (refine wpAnyH_takeT (i := 129) (oi := ?oi99) (v := ?v99) hT hs ?hi99 (by kernel_rfl) (fun _ _ _ h => h) ?hg99 (by assumption) ?rest99; (case hi99 => (simp only [List.getElem?_toArray]; rfl)); (case hg99 => (refine Or.inl ⟨by rfl, ?_⟩; intro w hSw; (try dsimp only at hSw); go_simp; (try with_reducible rfl))); (try simp only [Act.put, List.setIfInBounds_toArray, List.set_cons_zero, List.set_cons_succ]))
  (refine wpAnyH_takeT (i := 130) (oi := ?oi100) (v := ?v100) hT hs ?hi100 (by kernel_rfl) (fun _ _ _ h => h) ?hg100 (by assumption) ?rest100; (case hi100 => (simp only [List.getElem?_toArray]; rfl)); (case hg100 => (refine Or.inl ⟨by rfl, ?_⟩; intro w hSw; (try dsimp only at hSw); go_simp; (try with_reducible rfl))); (try simp only [Act.put, List.setIfInBounds_toArray, List.set_cons_zero, List.set_cons_succ]))
  (refine wpAnyH_takeT (i := 131) (oi := ?oi101) (v := ?v101) hT hs ?hi101 (by kernel_rfl) (fun _ _ _ h => h) ?hg101 (by assumption) ?rest101; (case hi101 => (simp only [List.getElem?_toArray]; rfl)); (case hg101 => (refine Or.inl ⟨by rfl, ?_⟩; intro w hSw; (try dsimp only at hSw); go_simp; (try with_reducible rfl))); (try simp only [Act.put, List.setIfInBounds_toArray, List.set_cons_zero, List.set_cons_succ]))
  (refine wpAnyH_takeT (i := 132) (oi := ?oi102) (v := ?v102) hT hs ?hi102 (by kernel_rfl) (fun _ _ _ h => h) ?hg102 (by assumption) ?rest102; (case hi102 => (simp only [List.getElem?_toArray]; rfl)); (case hg102 => (refine Or.inl ⟨by rfl, ?_⟩; intro w hSw; (try dsimp only at hSw); go_simp; (try with_reducible rfl))); (try simp only [Act.put, List.setIfInBounds_toArray, List.set_cons_zero, List.set_cons_succ]))
  (refine wpAnyH_takeT (i := 133) (oi := ?oi103) (v := ?v103) hT hs ?hi103 (by kernel_rfl) (fun _ _ _ h => h) ?hg103 (by assumption) ?rest103; (case hi103 => (simp only [List.getElem?_toArray]; rfl)); (case hg103 => (refine Or.inl ⟨by rfl, ?_⟩; intro w hSw; (try dsimp only at hSw); go_simp; (try with_reducible rfl))); (try simp only [Act.put, List.setIfInBounds_toArray, List.set_cons_zero, List.set_cons_succ]))
  (refine wpAnyH_takeT (i := 134) (oi := ?oi104) (v := ?v104) hT hs ?hi104 (by kernel_rfl) (fun _ _ _ h => h) ?hg104 (by assumption) ?rest104; (case hi104 => (simp only [List.getElem?_toArray]; rfl)); (case hg104 => (refine Or.inl ⟨by rfl, ?_⟩; intro w hSw; (try dsimp only at hSw); go_simp; (try with_reducible rfl))); (try simp only [Act.put, List.setIfInBounds_toArray, List.set_cons_zero, List.set_cons_succ]))
  (refine wpAnyH_takeT (i := 135) (oi := ?oi1) (v := ?v1) hT hs ?hi1 (by kernel_rfl) (fun _ _ _ h => h) ?hg1 (by assumption) ?rest1; (case hi1 => (simp only [List.getElem?_toArray]; rfl)); (case hg1 => (refine Or.inl ⟨by rfl, ?_⟩; intro w hSw; (try dsimp only at hSw); go_simp; (try with_reducible rfl))); (try simp only [Act.put, List.setIfInBounds_toArray, List.set_cons_zero]))
  refine wpAnyH_doneT hT (by kernel_rfl) ?_ _
  refine NoPanic.normal ?_
  have HF := Lib.hid hF
  clear hS hF nn n1 n2 n3 n4 i5 i6 C5 C6 n7 i8 i9 C8 C9 Q0 Q1 Q2 na nb n11 nc nd n17 ne nf ng n19 nh n21 n90 n91 n96 n97 n103 n104 n108 n114 n120 n125 n130 n140 n145 n166 n177 n203
  go_wp2
  go_ret
  exact ⟨rfl, HF.out⟩
end Go.Proofs.YtckahcgolfnobaaGreatDoor
