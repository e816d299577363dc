/- integer.Of; gcd's matrices. -/
import Derived.Test.YtckahcgolfnobaaGreatDoorGcd
import Derived.Laws.Rows
import Derived.Deep.MidRow
namespace Go.Proofs.YtckahcgolfnobaaGreatDoor
open Go Go.RowKit

theorem sgn_of_neg {z : Int} (h : z < 0) : sgn true z.natAbs = z := by unfold sgn; simp; omega
theorem sgn_of_pos {z : Int} (h : 0 ≤ z) : sgn false z.natAbs = z := by unfold sgn; simp; omega

theorem small_big {n : Nat} (h : n < 18446744073709551616) : Big n := by
  have : (dig n).length ≤ 2 := dig_length_le (by omega)
  unfold Big; omega

set_option maxHeartbeats 400000 in
set_option maxRecDepth 100000 in
theorem iof_any (z : Int) (w : World) (h1 : -9223372036854775808 ≤ z) (h2 : z < 9223372036854775808) : Calls Tryz.prog 66 #[.int .i64 z] w (RInt w z) := by
  by_cases hz : z < 0
  · have HM := Lib.hid (fun v w' (hw : NatV w' v z.natAbs) => imake_any true v z.natAbs w' hw (small_big (by omega)))
    rw [sgn_of_neg hz] at HM
    have HO : Hid (∀ w', Calls Tryz.prog 57 #[.int .u64 (z.natAbs : Nat)] w' (RNat w' z.natAbs)) := Lib.hid fun w' => of_any z.natAbs w' (by omega)
    obtain ⟨n, hn⟩ : ∃ n : Nat, z.natAbs = n := ⟨_, rfl⟩
    have hzn : z = -(n : Int) := by omega
    rw [hn] at HM HO
    have hn0 : 0 < n := by omega
    have hn1 : n ≤ 9223372036854775808 := by omega
    have e1 : IntKind.i64.wrap (z + 1) = z + 1 := by rw [IntKind.wrap_i64]; omega
    have e2 : IntKind.i64.wrap (-(z + 1)) = -(z + 1) := by rw [IntKind.wrap_i64]; omega
    have e3 : IntKind.u64.wrap (-(z + 1)) = -(z + 1) := by rw [IntKind.wrap_u64]; omega
    have e4 : IntKind.u64.wrap (-(z + 1) + 1) = (n : Int) := by rw [IntKind.wrap_u64]; omega
    have HZ := Lib.hid hzn
    clear hzn hn
    have hz1 : decide (z < 0) = true := by simp; omega
    go_enter Tryz.func66, Tryz.ntmps66
    go_wp2_with fail
    refine (HO.out _).mono ?_
    rintro e w1 ⟨v1, rfl, hv1, k1⟩
    go_wp2_with ((go_at_call 86; (with_reducible refine (HM.out _ _ hv1).mono ?_)); rintro e w2 ⟨v2, rfl, h2, k2'⟩; have k2 := Fol.trans k1 k2'; have hc := (Cell2.new w (.bool false) (.slice none 0 0)).fol k2; obtain ⟨bb1, o1, n1, c1, rfl⟩ := h2.parts2; have q0 := hc.c0; have q1 := hc.c1; have q2 := hc.f0; have q3 := hc.f1; have HC := Lib.hid hc; clear hc)
    exact int_end rfl rfl HC.out (Nat.le_refl _) (Fol.trans (Fol.new _ _) k2) h2
  · have HM := Lib.hid (fun v w' (hw : NatV w' v z.natAbs) => imake_any false v z.natAbs w' hw (small_big (by omega)))
    rw [sgn_of_pos (by omega)] at HM
    have HO : Hid (∀ w', Calls Tryz.prog 57 #[.int .u64 (z.natAbs : Nat)] w' (RNat w' z.natAbs)) := Lib.hid fun w' => of_any z.natAbs w' (by omega)
    obtain ⟨n, rfl⟩ := Int.eq_ofNat_of_zero_le (show 0 ≤ z by omega)
    rw [show ((n : Int)).natAbs = n from rfl] at HM HO
    have e3 : IntKind.u64.wrap (n : Int) = (n : Int) := by rw [IntKind.wrap_u64]; omega
    have hz1 : decide ((n : Int) < 0) = false := by simp
    clear hz
    go_enter Tryz.func66, Tryz.ntmps66
    go_wp2_with fail
    refine (HO.out _).mono ?_
    rintro e w1 ⟨v1, rfl, hv1, k1⟩
    go_wp2_with ((go_at_call 86; (with_reducible refine (HM.out _ _ hv1).mono ?_)); rintro e w2 ⟨v2, rfl, h2, k2'⟩; have k2 := Fol.trans k1 k2'; have hc := (Cell2.new w (.bool false) (.slice none 0 0)).fol k2; obtain ⟨bb1, o1, n1, c1, rfl⟩ := h2.parts2; have q0 := hc.c0; have q1 := hc.c1; have q2 := hc.f0; have q3 := hc.f1; have HC := Lib.hid hc; clear hc)
    exact int_end rfl rfl HC.out (Nat.le_refl _) (Fol.trans (Fol.new _ _) k2) h2

/-! ### Four whole numbers in a block -/
theorem infoM : (Tryz.prog.info? 56).map (·.size) = some 8 := by kernel_rfl
/-- A block of eight cells: a matrix's. -/
def MatB (w : World) (b : Nat) (a0 a1 a2 a3 a4 a5 a6 a7 : Value) : Prop := w.heap[b]? = some (.cells #[a0, a1, a2, a3, a4, a5, a6, a7] 56 (0, 0))
section
variable {w w' : World} {b : Nat} {a0 a1 a2 a3 a4 a5 a6 a7 : Value}
theorem MatB.lt (h : MatB w b a0 a1 a2 a3 a4 a5 a6 a7) : b < w.heap.size := (Array.getElem?_eq_some_iff.1 h).1
theorem MatB.fol (h : MatB w b a0 a1 a2 a3 a4 a5 a6 a7) (k : Fol w w') : MatB w' b a0 a1 a2 a3 a4 a5 a6 a7 := (k.block b h.lt).trans h
theorem MatB.cell (h : MatB w b a0 a1 a2 a3 a4 a5 a6 a7) (i : Nat) : w.cell? ⟨b, i, none⟩ = #[a0, a1, a2, a3, a4, a5, a6, a7][i]? := by simp [World.cell?, show w.heap[b]? = _ from h]
theorem MatB.frozen (h : MatB w b a0 a1 a2 a3 a4 a5 a6 a7) (i : Nat) : w.frozen? ⟨b, i, none⟩ = false := by simp [World.frozen?, show w.heap[b]? = _ from h]
theorem MatB.cells (h : MatB w b a0 a1 a2 a3 a4 a5 a6 a7) : w.cell? ⟨b, 0, none⟩ = some a0 ∧ w.cell? ⟨b, 1, none⟩ = some a1 ∧ w.cell? ⟨b, 2, none⟩ = some a2 ∧ w.cell? ⟨b, 3, none⟩ = some a3 ∧ w.cell? ⟨b, 4, none⟩ = some a4 ∧ w.cell? ⟨b, 5, none⟩ = some a5 ∧ w.cell? ⟨b, 6, none⟩ = some a6 ∧ w.cell? ⟨b, 7, none⟩ = some a7 :=
  ⟨h.cell 0, h.cell 1, h.cell 2, h.cell 3, h.cell 4, h.cell 5, h.cell 6, h.cell 7⟩
theorem MatB.new (w : World) (a0 a1 a2 a3 a4 a5 a6 a7 : Value) : MatB (w.alloc (.cells #[a0, a1, a2, a3, a4, a5, a6, a7] 56)) w.heap.size a0 a1 a2 a3 a4 a5 a6 a7 := Array.getElem?_push_size
theorem MatB.keep1 (h : MatB w b a0 a1 a2 a3 a4 a5 a6 a7) (i : Nat) (u : Value) : Keep w (w.setCell ⟨b, i, none⟩ u) :=
  Keep.setCell (p := ⟨b, i, none⟩) (o := .cells #[a0, a1, a2, a3, a4, a5, a6, a7] 56) h (fun cs fz he => absurd (Obj.cells.inj he).2.1 (by decide)) u
theorem MatB.set0 (h : MatB w b a0 a1 a2 a3 a4 a5 a6 a7) (u : Value) : MatB (w.setCell ⟨b, 0, none⟩ u) b u a1 a2 a3 a4 a5 a6 a7 := heap_setCell_same w b 0 #[a0, a1, a2, a3, a4, a5, a6, a7] _ u h
theorem MatB.set1 (h : MatB w b a0 a1 a2 a3 a4 a5 a6 a7) (u : Value) : MatB (w.setCell ⟨b, 1, none⟩ u) b a0 u a2 a3 a4 a5 a6 a7 := heap_setCell_same w b 1 #[a0, a1, a2, a3, a4, a5, a6, a7] _ u h
theorem MatB.set2 (h : MatB w b a0 a1 a2 a3 a4 a5 a6 a7) (u : Value) : MatB (w.setCell ⟨b, 2, none⟩ u) b a0 a1 u a3 a4 a5 a6 a7 := heap_setCell_same w b 2 #[a0, a1, a2, a3, a4, a5, a6, a7] _ u h
theorem MatB.set3 (h : MatB w b a0 a1 a2 a3 a4 a5 a6 a7) (u : Value) : MatB (w.setCell ⟨b, 3, none⟩ u) b a0 a1 a2 u a4 a5 a6 a7 := heap_setCell_same w b 3 #[a0, a1, a2, a3, a4, a5, a6, a7] _ u h
theorem MatB.set4 (h : MatB w b a0 a1 a2 a3 a4 a5 a6 a7) (u : Value) : MatB (w.setCell ⟨b, 4, none⟩ u) b a0 a1 a2 a3 u a5 a6 a7 := heap_setCell_same w b 4 #[a0, a1, a2, a3, a4, a5, a6, a7] _ u h
theorem MatB.set5 (h : MatB w b a0 a1 a2 a3 a4 a5 a6 a7) (u : Value) : MatB (w.setCell ⟨b, 5, none⟩ u) b a0 a1 a2 a3 a4 u a6 a7 := heap_setCell_same w b 5 #[a0, a1, a2, a3, a4, a5, a6, a7] _ u h
theorem MatB.set6 (h : MatB w b a0 a1 a2 a3 a4 a5 a6 a7) (u : Value) : MatB (w.setCell ⟨b, 6, none⟩ u) b a0 a1 a2 a3 a4 a5 u a7 := heap_setCell_same w b 6 #[a0, a1, a2, a3, a4, a5, a6, a7] _ u h
theorem MatB.set7 (h : MatB w b a0 a1 a2 a3 a4 a5 a6 a7) (u : Value) : MatB (w.setCell ⟨b, 7, none⟩ u) b a0 a1 a2 a3 a4 a5 a6 u := heap_setCell_same w b 7 #[a0, a1, a2, a3, a4, a5, a6, a7] _ u h
/-- The world with a matrix laid into a block. -/
def matW (w : World) (b : Nat) (x0 y0 x1 y1 x2 y2 x3 y3 : Value) : World := ((((((((w.setCell ⟨b, 0, none⟩ x0).setCell ⟨b, 1, none⟩ y0).setCell ⟨b, 2, none⟩ x1).setCell ⟨b, 3, none⟩ y1).setCell ⟨b, 4, none⟩ x2).setCell ⟨b, 5, none⟩ y2).setCell ⟨b, 6, none⟩ x3).setCell ⟨b, 7, none⟩ y3)
theorem MatB.far (h : MatB w b a0 a1 a2 a3 a4 a5 a6 a7) {c i : Nat} (hne : b ≠ c) (u : Value) : MatB (w.setCell ⟨c, i, none⟩ u) b a0 a1 a2 a3 a4 a5 a6 a7 := (Below.heap_setCell w ⟨c, i, none⟩ u b hne).trans h
theorem matW_other (x0 y0 x1 y1 x2 y2 x3 y3 : Value) (k : Nat) (hk : k ≠ b) : (matW w b x0 y0 x1 y1 x2 y2 x3 y3).heap[k]? = w.heap[k]? := by
  unfold matW
  rw [Below.heap_setCell _ _ _ _ hk, Below.heap_setCell _ _ _ _ hk, Below.heap_setCell _ _ _ _ hk, Below.heap_setCell _ _ _ _ hk, Below.heap_setCell _ _ _ _ hk, Below.heap_setCell _ _ _ _ hk, Below.heap_setCell _ _ _ _ hk, Below.heap_setCell _ _ _ _ hk]
/-- A matrix is laid into a block. -/
theorem MatB.put (h : MatB w b a0 a1 a2 a3 a4 a5 a6 a7) (x0 y0 x1 y1 x2 y2 x3 y3 : Value) :
    MatB (matW w b x0 y0 x1 y1 x2 y2 x3 y3) b x0 y0 x1 y1 x2 y2 x3 y3 ∧ Keep w (matW w b x0 y0 x1 y1 x2 y2 x3 y3) ∧ (∀ B, B ≤ b → Below B w (matW w b x0 y0 x1 y1 x2 y2 x3 y3)) := by
  unfold matW
  have h0 := h.set0 x0
  have h1 := h0.set1 y0
  have h2 := h1.set2 x1
  have h3 := h2.set3 y1
  have h4 := h3.set4 x2
  have h5 := h4.set5 y2
  have h6 := h5.set6 x3
  exact ⟨h6.set7 y3, (((((((h.keep1 0 x0).trans (h0.keep1 1 y0)).trans (h1.keep1 2 x1)).trans (h2.keep1 3 y1)).trans (h3.keep1 4 x2)).trans (h4.keep1 5 y2)).trans (h5.keep1 6 x3)).trans (h6.keep1 7 y3),
    fun B hB => ((((((((Below.refl B w).setCell hB x0).setCell hB y0).setCell hB x1).setCell hB y1).setCell hB x2).setCell hB y2).setCell hB x3).setCell hB y3⟩
end

structure M4 where
  a : Int
  b : Int
  c : Int
  d : Int
/-- A value that reads as four whole numbers. -/
def MatV (w : World) (v : Value) (m : M4) : Prop := ∃ x0 o0 n0 c0 x1 o1 n1 c1 x2 o2 n2 c2 x3 o3 n3 c3, v = .agg #[.bool x0, .slice o0 n0 c0, .bool x1, .slice o1 n1 c1, .bool x2, .slice o2 n2 c2, .bool x3, .slice o3 n3 c3] ∧
  IntV w (.agg #[.bool x0, .slice o0 n0 c0]) m.a ∧ IntV w (.agg #[.bool x1, .slice o1 n1 c1]) m.b ∧ IntV w (.agg #[.bool x2, .slice o2 n2 c2]) m.c ∧ IntV w (.agg #[.bool x3, .slice o3 n3 c3]) m.d
theorem MatV.keep {w w' : World} {v : Value} {m : M4} (h : MatV w v m) (k : Keep w w') : MatV w' v m := by
  obtain ⟨x0, o0, n0, c0, x1, o1, n1, c1, x2, o2, n2, c2, x3, o3, n3, c3, hv, h0, h1, h2, h3⟩ := h
  exact ⟨x0, o0, n0, c0, x1, o1, n1, c1, x2, o2, n2, c2, x3, o3, n3, c3, hv, h0.keep k, h1.keep k, h2.keep k, h3.keep k⟩
theorem MatV.fol {w w' : World} {v : Value} {m : M4} (h : MatV w v m) (k : Fol w w') : MatV w' v m := h.keep k.keep
theorem matV_of {w : World} {x0 x1 x2 x3 : Bool} {o0 o1 o2 o3 : Option Addr} {n0 c0 n1 c1 n2 c2 n3 c3 : Nat} {a b c d : Int} (h0 : IntV w (.agg #[.bool x0, .slice o0 n0 c0]) a) (h1 : IntV w (.agg #[.bool x1, .slice o1 n1 c1]) b) (h2 : IntV w (.agg #[.bool x2, .slice o2 n2 c2]) c) (h3 : IntV w (.agg #[.bool x3, .slice o3 n3 c3]) d) :
    MatV w (.agg #[.bool x0, .slice o0 n0 c0, .bool x1, .slice o1 n1 c1, .bool x2, .slice o2 n2 c2, .bool x3, .slice o3 n3 c3]) ⟨a, b, c, d⟩ := ⟨x0, o0, n0, c0, x1, o1, n1, c1, x2, o2, n2, c2, x3, o3, n3, c3, rfl, h0, h1, h2, h3⟩
def RMat (w : World) (m : M4) (e : Ending) (w' : World) : Prop := ∃ v, e = .returned v ∧ MatV w' v m ∧ Fol w w'

/-- The end of a function that lays a matrix into its result's block. -/
theorem mat_end {fn : Func} {p : Tmp} {tmps : Array Value} {w w1 : World} {b : Nat} {a0 a1 a2 a3 a4 a5 a6 a7 : Value} {m : M4} {x0 y0 x1 y1 x2 y2 x3 y3 : Value} (hfn : fn.results = #[.cell p 56]) (hp : tmps.getD p undef = .pointer (some ⟨b, 0, none⟩))
    (hc : MatB w1 b a0 a1 a2 a3 a4 a5 a6 a7) (hb : w.heap.size ≤ b) (hf : Fol w w1) (hm : MatV w1 (.agg #[x0, y0, x1, y1, x2, y2, x3, y3]) m) :
    bodyPost Tryz.prog fn (RMat w m) .ret { tmps := tmps, defers := [] } (matW w1 b x0 y0 x1 y1 x2 y2 x3 y3) := by
  obtain ⟨p1, p2, p4⟩ := hc.put x0 y0 x1 y1 x2 y2 x3 y3
  exact bodyPost_ret (v := .agg #[x0, y0, x1, y1, x2, y2, x3, y3]) (results_cell_row hfn tmps _ b _ _ _ _ hp p1 Tryz.underlying56 rfl infoM) rfl ⟨_, rfl, hm.keep p2, Below.trans hf (p4 _ hb)⟩

set_option maxHeartbeats 400000 in
set_option maxRecDepth 100000 in
theorem unit_any (w : World) : Calls Tryz.prog 40 #[] w (RMat w ⟨1, 0, 0, 1⟩) := by
  have HO := Lib.hid (fun z w' (h1 : -9223372036854775808 ≤ z) (h2 : z < 9223372036854775808) => iof_any z w' h1 h2)
  have HC := Lib.hid (MatB.new w (.bool false) (.slice none 0 0) (.bool false) (.slice none 0 0) (.bool false) (.slice none 0 0) (.bool false) (.slice none 0 0))
  go_enter Tryz.func40, Tryz.ntmps40
  go_wp2_with fail
  refine (HO.out 1 _ (by omega) (by omega)).mono ?_
  rintro e w1 ⟨v1, rfl, h1, k1⟩
  obtain ⟨x1, o1, n1, c1, rfl⟩ := h1.parts2
  go_wp2_with fail
  refine (HO.out 0 _ (by omega) (by omega)).mono ?_
  rintro e w2 ⟨v2, rfl, h2, k2⟩
  obtain ⟨x2, o2, n2, c2, rfl⟩ := h2.parts2
  go_wp2_with fail
  refine (HO.out 0 _ (by omega) (by omega)).mono ?_
  rintro e w3 ⟨v3, rfl, h3, k3⟩
  obtain ⟨x3, o3, n3, c3, rfl⟩ := h3.parts2
  go_wp2_with fail
  refine (HO.out 1 _ (by omega) (by omega)).mono ?_
  rintro e w4 ⟨v4, rfl, h4, k4⟩
  obtain ⟨x4, o4, n4, c4, rfl⟩ := h4.parts2
  have hc := HC.out.fol (Fol.trans k1 (Fol.trans k2 (Fol.trans k3 k4)))
  have hM := matV_of (h1.fol (Fol.trans k2 (Fol.trans k3 k4))) (h2.fol (Fol.trans k3 k4)) (h3.fol k4) h4
  obtain ⟨q0, q1, q2, q3, q4, q5, q6, q7⟩ := hc.cells
  have r0 := hc.frozen 0
  have r1 := hc.frozen 1
  have r2 := hc.frozen 2
  have r3 := hc.frozen 3
  have r4 := hc.frozen 4
  have r5 := hc.frozen 5
  have r6 := hc.frozen 6
  have r7 := hc.frozen 7
  have HC2 := Lib.hid hc
  have HM := Lib.hid hM
  clear hc hM
  go_wp2
  exact mat_end rfl rfl HC2.out (Nat.le_refl _) (Fol.trans (Fol.new _ _) (Fol.trans k1 (Fol.trans k2 (Fol.trans k3 k4)))) HM.out
end Go.Proofs.YtckahcgolfnobaaGreatDoor
