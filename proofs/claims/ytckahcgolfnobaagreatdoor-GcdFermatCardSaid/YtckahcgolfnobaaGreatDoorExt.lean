/- gcd.Ext. -/
import Derived.Test.YtckahcgolfnobaaGreatDoorEuc
namespace Go.Proofs.YtckahcgolfnobaaGreatDoor
open Go Go.RowKit
attribute [local go_sem] Oper.semAt_some

/-- A value and two whole numbers that lie in blocks. -/
theorem results_tcc {fn : Func} {t p q : Tmp} {ty : TypeId} (h : fn.results = #[.tmp t, .cell p ty, .cell q ty]) (tmps : Array Value) (P : Program) (w : World) :
    (results fn tmps).run P w = ((asAddr (tmps.getD p undef)).run P w).andThen fun a w₁ => ((loadVar ty a).run P w₁).andThen fun x w₂ => ((asAddr (tmps.getD q undef)).run P w₂).andThen fun b w₃ => ((loadVar ty b).run P w₃).andThen fun y w₄ => .ok (.tuple #[tmps.getD t undef, x, y]) w₄ := by
  simp only [results, h]
  simp [Sem.run_bind, Result.andThen]

theorem results_tcc_at {fn : Func} {t p q : Tmp} (h : fn.results = #[.tmp t, .cell p 27, .cell q 27]) {tmps : Array Value} {w : World} {b c : Nat} {x y x' y' : Value} (hp : tmps.getD p undef = .pointer (some ⟨b, 0, none⟩)) (hq : tmps.getD q undef = .pointer (some ⟨c, 0, none⟩))
    (h1 : Cell2 w b x y) (h2 : Cell2 w c x' y') : (results fn tmps).run Tryz.prog w = .ok (.tuple #[tmps.getD t undef, .agg #[x, y], .agg #[x', y']]) w := by
  rw [results_tcc h, hp, hq]
  have q0 := h1.c0
  have q1 := h1.c1
  have q2 := h2.c0
  have q3 := h2.c1
  go_simp

/-- What of a world lies in a loop's owner's blocks is told anew. -/
theorem RI.own_put {σ : Type} {F : σ → Nat × Nat} {X Y : σ → World → Prop} {w : World} {H : Nat} {rec : Loop} {s : σ} {va vb : Value} {W W' : World} (h : RI F X w H rec s va vb W) (hb : Below w.heap.size W W') (hk : Keep W W') (hh : ∀ k, H ≤ k → k < W.heap.size → W'.heap[k]? = W.heap[k]?) (hY : Y s W') : RI F Y w H rec s va vb W' := by
  have hs := h.size
  exact ⟨h.below.trans hb, h.hH, (hh _ (by omega) (by omega)).trans h.a, (hh _ (by omega) (by omega)).trans h.b, (hh _ (by omega) (by omega)).trans h.dfr, (hh _ (by omega) (by omega)).trans h.lrec, h.na.keep hk, h.nb.keep hk, hY⟩

/-- The blocks of gcd.Ext: two results, the matrix, the divisor. -/
structure EX (R M a b : Nat) (s : ES) (W : World) : Prop where
  r0 : ∃ x y, Cell2 W R x y
  r1 : ∃ x y, Cell2 W (R + 1) x y
  mat : ∃ a0 a1 a2 a3 a4 a5 a6 a7, MatB W M a0 a1 a2 a3 a4 a5 a6 a7 ∧ MatV W (.agg #[a0, a1, a2, a3, a4, a5, a6, a7]) s.m
  out : ∃ v, Boxed W (M + 1) 22 v
  inv : EInv a b s
structure EY (R M a b : Nat) (s : ES) (W : World) : Prop where
  r0 : ∃ x y, Cell2 W R x y
  r1 : ∃ x y, Cell2 W (R + 1) x y
  mat : ∃ a0 a1 a2 a3 a4 a5 a6 a7, MatB W M a0 a1 a2 a3 a4 a5 a6 a7 ∧ MatV W (.agg #[a0, a1, a2, a3, a4, a5, a6, a7]) (if 0 < s.y then s.next.m else s.m)
  out : ∃ v, Boxed W (M + 1) 22 v ∧ NatV W v s.x
  inv : EInv a b s
theorem EX.steady {w : World} {R M H a b : Nat} (hR : w.heap.size ≤ R) (hM : R + 2 ≤ M) (hH : H = M + 2) : Steady w H (EX R M a b) := fun s W W' h k => by
  obtain ⟨⟨x, y, h0⟩, ⟨x', y', h1⟩, ⟨a0, a1, a2, a3, a4, a5, a6, a7, hm, hv⟩, ⟨v, ho⟩, hi⟩ := h
  exact ⟨⟨x, y, (k.same _ hR (by omega)).trans h0⟩, ⟨x', y', (k.same _ (by omega) (by omega)).trans h1⟩, ⟨a0, a1, a2, a3, a4, a5, a6, a7, (k.same _ (by omega) (by omega)).trans hm, hv.keep k.keep⟩, ⟨v, (k.same _ (by omega) (by omega)).trans ho⟩, hi⟩
theorem EY.steady {w : World} {R M H a b : Nat} (hR : w.heap.size ≤ R) (hM : R + 2 ≤ M) (hH : H = M + 2) : Steady w H (EY R M a b) := fun s W W' h k => by
  obtain ⟨⟨x, y, h0⟩, ⟨x', y', h1⟩, ⟨a0, a1, a2, a3, a4, a5, a6, a7, hm, hv⟩, ⟨v, ho, hn⟩, hi⟩ := h
  exact ⟨⟨x, y, (k.same _ hR (by omega)).trans h0⟩, ⟨x', y', (k.same _ (by omega) (by omega)).trans h1⟩, ⟨a0, a1, a2, a3, a4, a5, a6, a7, (k.same _ (by omega) (by omega)).trans hm, hv.keep k.keep⟩, ⟨v, (k.same _ (by omega) (by omega)).trans ho, hn.keep k.keep⟩, hi⟩
theorem EY.next {R M a b : Nat} {s : ES} {W : World} (h : EY R M a b s W) (hy : 0 < s.y) : EX R M a b s.next W := by
  obtain ⟨h0, h1, ⟨a0, a1, a2, a3, a4, a5, a6, a7, hm, hv⟩, ⟨v, ho, hn⟩, hi⟩ := h
  rw [if_pos hy] at hv
  exact ⟨h0, h1, ⟨a0, a1, a2, a3, a4, a5, a6, a7, hm, hv⟩, ⟨v, ho⟩, hi.next hy⟩

/-- Behind the first store of a round. -/
structure EZ (R M a b : Nat) (s : ES) (W : World) : Prop where
  r0 : ∃ x y, Cell2 W R x y
  r1 : ∃ x y, Cell2 W (R + 1) x y
  mat : ∃ a0 a1 a2 a3 a4 a5 a6 a7, MatB W M a0 a1 a2 a3 a4 a5 a6 a7 ∧ MatV W (.agg #[a0, a1, a2, a3, a4, a5, a6, a7]) s.m
  out : ∃ v, Boxed W (M + 1) 22 v ∧ NatV W v s.x
  inv : EInv a b s
theorem EZ.steady {w : World} {R M H a b : Nat} (hR : w.heap.size ≤ R) (hM : R + 2 ≤ M) (hH : H = M + 2) : Steady w H (EZ R M a b) := fun s W W' h k => by
  obtain ⟨⟨x, y, h0⟩, ⟨x', y', h1⟩, ⟨a0, a1, a2, a3, a4, a5, a6, a7, hm, hv⟩, ⟨v, ho, hn⟩, hi⟩ := h
  exact ⟨⟨x, y, (k.same _ hR (by omega)).trans h0⟩, ⟨x', y', (k.same _ (by omega) (by omega)).trans h1⟩, ⟨a0, a1, a2, a3, a4, a5, a6, a7, (k.same _ (by omega) (by omega)).trans hm, hv.keep k.keep⟩, ⟨v, (k.same _ (by omega) (by omega)).trans ho, hn.keep k.keep⟩, hi⟩
theorem EX.set {R M a b : Nat} {s : ES} {W : World} (h : EX R M a b s W) (hM : R + 2 ≤ M) (u : Value) (hu : NatV W u s.x) (hk : Keep W (W.setCell ⟨M + 1, 0, none⟩ u)) : EZ R M a b s (W.setCell ⟨M + 1, 0, none⟩ u) := by
  obtain ⟨⟨x, y, h0⟩, ⟨x', y', h1⟩, ⟨a0, a1, a2, a3, a4, a5, a6, a7, hm, hv⟩, ⟨v, ho⟩, hi⟩ := h
  exact ⟨⟨x, y, h0.far (by omega) u⟩, ⟨x', y', h1.far (by omega) u⟩, ⟨a0, a1, a2, a3, a4, a5, a6, a7, hm.far (by omega) u, hv.keep hk⟩, ⟨u, Boxed.set u ho, hu.keep hk⟩, hi⟩
theorem EZ.stay {R M a b : Nat} {s : ES} {W : World} (h : EZ R M a b s W) (hy : ¬ 0 < s.y) : EY R M a b s W := by
  obtain ⟨h0, h1, hm, ho, hi⟩ := h
  exact ⟨h0, h1, by rw [if_neg hy]; exact hm, ho, hi⟩
theorem EZ.put {R M a b : Nat} {s : ES} {W : World} {b0 b1 b2 b3 b4 b5 b6 b7 x0 y0 x1 y1 x2 y2 x3 y3 : Value} (h : EZ R M a b s W) (hM : R + 2 ≤ M) (hy : 0 < s.y) (hm : MatB W M b0 b1 b2 b3 b4 b5 b6 b7) (hv : MatV W (.agg #[x0, y0, x1, y1, x2, y2, x3, y3]) s.next.m) :
    EY R M a b s (matW W M x0 y0 x1 y1 x2 y2 x3 y3) := by
  obtain ⟨⟨x, y, h0⟩, ⟨x', y', h1⟩, _, ⟨v, ho, hn⟩, hi⟩ := h
  obtain ⟨p1, p2, _⟩ := hm.put x0 y0 x1 y1 x2 y2 x3 y3
  exact ⟨⟨x, y, (matW_other _ _ _ _ _ _ _ _ _ (by omega)).trans h0⟩, ⟨x', y', (matW_other _ _ _ _ _ _ _ _ _ (by omega)).trans h1⟩, ⟨_, _, _, _, _, _, _, _, p1, by rw [if_pos hy]; exact hv.keep p2⟩, ⟨v, (matW_other _ _ _ _ _ _ _ _ _ (by omega)).trans ho, hn.keep p2⟩, hi⟩

/-- The cofactors that Euclid's algorithm ends at. -/
def REx (w : World) (a b : Nat) (e : Ending) (w' : World) : Prop := ∃ s vg bu bv ou nu cu ov nv cv, e = .returned (.tuple #[vg, .agg #[.bool bu, .slice ou nu cu], .agg #[.bool bv, .slice ov nv cv]]) ∧ NatV w' vg s.x ∧ IntV w' (.agg #[.bool bu, .slice ou nu cu]) s.m.a ∧ IntV w' (.agg #[.bool bv, .slice ov nv cv]) s.m.b ∧ EInv a b s ∧ s.y = 0 ∧ Fol w w'

set_option maxHeartbeats 2000000 in
set_option maxRecDepth 100000 in
theorem ext_in (n N : Nat) (va vb : Value) (a b : Nat) (w : World) (ha : NatV w va a) (hb : NatV w vb b) (hla : (dig a).length ≤ N) (hlb : (dig b).length ≤ N) (hN : N ≤ 26) :
    CallsIn Wd n Tryz.prog 14 #[va, vb] w (REx w a b) := by
  have hfn : ∀ k, Wd.fn k := fun _ => trivial
  have hdp : Wd.depth.isSome = false := rfl
  have hmf : ∀ (fn : Fn) (first cap : Array Value) (w : World), (Instr.makeFunc fn first cap).run Tryz.prog w = .ok (.func fn first cap) w := fun _ _ _ _ => rfl
  have HA := Lib.hid ha
  have HB := Lib.hid hb
  have HLA := Lib.hid hla
  have HLB := Lib.hid hlb
  obtain ⟨oa, na, ca, rfl⟩ : ∃ oa na ca, va = .slice oa na ca := by obtain ⟨o, c, h, _⟩ := HA.out.slice; exact ⟨_, _, _, h⟩
  obtain ⟨ob, nb, cb, rfl⟩ : ∃ oa na ca, vb = .slice oa na ca := by obtain ⟨o, c, h, _⟩ := HB.out.slice; exact ⟨_, _, _, h⟩
  clear ha hb hla hlb
  refine callsIn_of_wp_marks Tryz.func14 rfl trivial ?_ rfl
  simp only [Tryz.ntmps14, List.size_toArray, List.length_cons, List.length_nil, Nat.reduceAdd, Nat.reduceSub, Array.replicate_succ, Array.replicate_zero, List.push_toArray, List.append_toArray, List.nil_append, List.cons_append]
  gi_wp2
  refine (callsIn_wide_of (unit_any _)).mono ?_
  rintro e w1 ⟨vu, rfl, hu, k1⟩
  obtain ⟨x0, o0, n0, c0, x1, o1, n1, c1, x2, o2, n2, c2, x3, o3, n3, c3, rfl, h0, h1, h2, h3⟩ := hu
  gi_wp2
  refine (callsIn_wide_of (rests_any _ _ _ _ _ _ _)).mono ?_
  rintro e w2 ⟨rfl, rfl⟩
  obtain ⟨M, hM⟩ : ∃ M, M = w1.heap.size := ⟨_, rfl⟩
  have hsz : w.heap.size + 2 ≤ M := by have := k1.size; rw [World.size_alloc, World.size_alloc] at this; omega
  have z0 : Cell2 w1 w.heap.size (.bool false) (.slice none 0 0) := ((Cell2.new w _ _).fol (Fol.new _ _)).fol k1
  have z1 : Cell2 w1 (w.heap.size + 1) (.bool false) (.slice none 0 0) := by
    have := (Cell2.new (w.alloc (.cells #[.bool false, .slice none 0 0] 27)) (.bool false) (.slice none 0 0)).fol k1
    rwa [World.size_alloc] at this
  have z2 := MatB.new w1 (.bool x0) (.slice o0 n0 c0) (.bool x1) (.slice o1 n1 c1) (.bool x2) (.slice o2 n2 c2) (.bool x3) (.slice o3 n3 c3)
  have e1 : (w1.alloc (.cells #[.bool x0, .slice o0 n0 c0, .bool x1, .slice o1 n1 c1, .bool x2, .slice o2 n2 c2, .bool x3, .slice o3 n3 c3] 56)).heap.size = M + 1 := by rw [World.size_alloc, hM]
  have z3 := Boxed.new (w1.alloc (.cells #[.bool x0, .slice o0 n0 c0, .bool x1, .slice o1 n1 c1, .bool x2, .slice o2 n2 c2, .bool x3, .slice o3 n3 c3] 56)) 22 (.slice oa na ca)
  have hf1 : Fol w w1 := Fol.trans (fol2 _ _ _) k1
  have hf2 : Fol w1 ((w1.alloc (.cells #[.bool x0, .slice o0 n0 c0, .bool x1, .slice o1 n1 c1, .bool x2, .slice o2 n2 c2, .bool x3, .slice o3 n3 c3] 56)).alloc (.cells #[.slice oa na ca] 22)) := fol2 _ _ _
  have e2 : ((w1.alloc (.cells #[.bool x0, .slice o0 n0 c0, .bool x1, .slice o1 n1 c1, .bool x2, .slice o2 n2 c2, .bool x3, .slice o3 n3 c3] 56)).alloc (.cells #[.slice oa na ca] 22)).heap.size = M + 2 := by rw [World.size_alloc, e1]
  rw [e1] at z3
  rw [← hM] at z2
  have z2 := z2.fol (Fol.new _ (.cells #[.slice oa na ca] 22))
  have hm0 := matV_of (h0.fol hf2) (h1.fol hf2) (h2.fol hf2) (h3.fol hf2)
  have hf3 := Fol.trans hf1 hf2
  have z0 := z0.fol hf2
  have z1 := z1.fol hf2
  obtain ⟨y1, y2, yz⟩ := two_new ((w1.alloc (.cells #[.bool x0, .slice o0 n0 c0, .bool x1, .slice o1 n1 c1, .bool x2, .slice o2 n2 c2, .bool x3, .slice o3 n3 c3] 56)).alloc (.cells #[.slice oa na ca] 22)) (.slice oa na ca) (.slice ob nb cb) 22 22
  have hf4 := fol2 ((w1.alloc (.cells #[.bool x0, .slice o0 n0 c0, .bool x1, .slice o1 n1 c1, .bool x2, .slice o2 n2 c2, .bool x3, .slice o3 n3 c3] 56)).alloc (.cells #[.slice oa na ca] 22)) (.cells #[.slice oa na ca] 22) (.cells #[.slice ob nb cb] 22)
  rw [e2] at y1 y2 yz
  rw [e2]
  rw [← hM]
  clear hf1 hf2 e1 e2 h0 h1 h2 h3 k1 hM
  generalize ((w1.alloc (.cells #[.bool x0, .slice o0 n0 c0, .bool x1, .slice o1 n1 c1, .bool x2, .slice o2 n2 c2, .bool x3, .slice o3 n3 c3] 56)).alloc (.cells #[.slice oa na ca] 22)) = Wp at *
  have hf := Fol.trans hf3 hf4
  have hx : EX w.heap.size M a b (ES.first a b) ((Wp.alloc (.cells #[.slice oa na ca] 22)).alloc (.cells #[.slice ob nb cb] 22)) :=
    ⟨⟨_, _, z0.fol hf4⟩, ⟨_, _, z1.fol hf4⟩, ⟨_, _, _, _, _, _, _, _, z2.fol hf4, hm0.fol hf4⟩, ⟨_, (hf4.block _ z3.lt).trans z3⟩, EInv.first a b⟩
  have HX := Lib.hid hx
  have Y1 := Lib.hid y1
  have Y2 := Lib.hid y2
  have YZ := Lib.hid yz
  have HF := Lib.hid hf
  clear z0 z1 z2 z3 hm0 hf3 hf4 y1 y2 yz hf hx
  generalize (Wp.alloc (.cells #[.slice oa na ca] 22)).alloc (.cells #[.slice ob nb cb] 22) = W0 at *
  have HSZ := Lib.hid hsz
  clear hsz
  gi_wp2
  refine over_rests ES.pair ES.next (EX w.heap.size M a b) (EY w.heap.size M a b) w (M + 2) (EX.steady (Nat.le_refl _) HSZ.out rfl) (EY.steady (Nat.le_refl _) HSZ.out rfl) (fun _ => rfl) (fun _ => rfl) (fun _ _ h hy => h.next hy)
    (fun s _ h => ⟨Nat.lt_of_le_of_lt (h.inv.lens HLA.out HLB.out).1 (by omega), Nat.lt_of_le_of_lt (h.inv.lens HLA.out HLB.out).2.1 (by omega)⟩) YZ.out rfl rfl (ES.first a b) _ _ HF.out (by have := HSZ.out; omega) Y1.out Y2.out (HA.out.fol HF.out) (HB.out.fol HF.out) HX.out ?_ ?_
  · clear HX Y1 Y2 YZ HF HA HB
    intro B s va vb W hI
    obtain ⟨va, na', ca', rfl⟩ : ∃ o n c, va = .slice o n c := by obtain ⟨o, c, h, _⟩ := hI.na.slice; exact ⟨_, _, _, h⟩
    obtain ⟨ob', cb', rfl, _, _⟩ := hI.nb.slice
    obtain ⟨v, hv⟩ := hI.own.out
    have c1 := hv.cell
    have c2 := hv.frozen
    obtain ⟨lb, hlb⟩ : ∃ lb, (dig (ES.pair s).2).length = lb := ⟨_, rfl⟩
    have hpos : 0 < lb ↔ 0 < s.y := by rw [← hlb]; have := @dig_length_pos s.y; exact ⟨fun h => Nat.pos_of_ne_zero (this.1 h), fun h => this.2 (by omega)⟩
    rw [hlb] at hI ⊢
    have hI1 := RI.own_set (Y := EZ w.heap.size M a b) (.slice va na' ca') hI hv (by decide) (by have := HSZ.out; omega) (by omega) (fun hk => hI.own.set HSZ.out _ hI.na hk)
    have HI1 := Lib.hid hI1
    clear hI hv hlb hI1
    have HP := Lib.hid hpos
    clear hpos
    by_cases hp : 0 < lb
    · have hy := HP.out.1 hp
      gi_wp2
      refine ⟨trivial, ?_⟩
      have HD := Lib.hid (div_any _ _ s.x s.y _ HI1.out.na HI1.out.nb (Nat.lt_of_le_of_lt (HI1.out.own.inv.lens HLA.out HLB.out).1 (by omega)) (Nat.lt_of_le_of_lt (HI1.out.own.inv.lens HLA.out HLB.out).2.1 (by omega)) hy)
      gi_wp2_with fail
      refine (CallsIn.inRound _ (callsIn_wide_of HD.out)).mono ?_
      rintro e W2 ⟨vq, vr, rfl, hq, hr, hf⟩
      have hI2 := HI1.out.fol (EZ.steady (Nat.le_refl _) HSZ.out rfl) hf
      obtain ⟨a0, a1, a2, a3, a4, a5, a6, a7, hm, hmv⟩ := hI2.own.mat
      obtain ⟨q0, q1, q2, q3, q4, q5, q6, q7⟩ := hm.cells
      have HT := Lib.hid (then_any _ vq s.m (s.x / s.y) W2 hmv hq (thenOk_of hI2.own.inv hy HLA.out HLB.out hN))
      have HM := Lib.hid hm
      have HI2 := Lib.hid hI2
      clear hm hmv hI2 hq hr hf HD HI1 c1 c2
      gi_wp2_with fail
      refine (CallsIn.inRound _ (callsIn_wide_of HT.out)).mono ?_
      rintro e W3 ⟨v3, rfl, hm3, hf3⟩
      obtain ⟨x0', o0', n0', c0', x1', o1', n1', c1', x2', o2', n2', c2', x3', o3', n3', c3', rfl, j0, j1, j2, j3⟩ := hm3
      have HM3 := Lib.hid (HM.out.fol hf3)
      have HV3 := Lib.hid (matV_of j0 j1 j2 j3)
      have HI3 := Lib.hid (HI2.out.fol (EZ.steady (Nat.le_refl _) HSZ.out rfl) hf3)
      clear j0 j1 j2 j3 hf3 q0 q1 q2 q3 q4 q5 q6 q7 HI2 HT
      obtain ⟨q0, q1, q2, q3, q4, q5, q6, q7⟩ := HM3.out.cells
      have s0 := HM3.out.frozen 0
      have s1 := HM3.out.frozen 1
      have s2 := HM3.out.frozen 2
      have s3 := HM3.out.frozen 3
      have s4 := HM3.out.frozen 4
      have s5 := HM3.out.frozen 5
      have s6 := HM3.out.frozen 6
      have s7 := HM3.out.frozen 7
      gi_wp2
      have hp := HM3.out.put (.bool x0') (.slice o0' n0' c0') (.bool x1') (.slice o1' n1' c1') (.bool x2') (.slice o2' n2' c2') (.bool x3') (.slice o3' n3' c3')
      exact RI.own_put HI3.out (hp.2.2 _ (by have := HSZ.out; omega)) hp.2.1 (fun k hk _ => matW_other _ _ _ _ _ _ _ _ _ (by omega)) (HI3.out.own.put HSZ.out hy HM3.out HV3.out)
    · gi_wp2
      refine ⟨trivial, ?_⟩
      gi_wp2
      have hny : ¬ 0 < s.y := fun h => hp (HP.out.2 h)
      exact HI1.out.own_put (Below.refl _ _) (Keep.refl _) (fun _ _ _ => rfl) (HI1.out.own.stay hny)
  · intro B s va vb W hI hz
    have hinv := hI.own.inv
    have hzy : s.y = 0 := hz
    obtain ⟨⟨x, y, z0⟩, ⟨x', y', z1⟩, ⟨a0, a1, a2, a3, a4, a5, a6, a7, hm, hmv⟩, ⟨v, ho, hn⟩, _⟩ := hI.own
    rw [if_neg (by omega)] at hmv
    have HDF := Lib.hid hI.dfr
    have HBL := Lib.hid hI.below
    have hsize := hI.size
    obtain ⟨vo, vn, vc, rfl⟩ : ∃ o n c, v = .slice o n c := by obtain ⟨o, c, h, _⟩ := hn.slice; exact ⟨_, _, _, h⟩
    obtain ⟨x0', o0', n0', c0', x1', o1', n1', c1', x2', o2', n2', c2', x3', o3', n3', c3', he, i0, i1, _, _⟩ := hmv
    cases he
    obtain ⟨q0, q1, q2, q3, q4, q5, q6, q7⟩ := hm.cells
    have HM := Lib.hid hm
    have HO := Lib.hid ho
    have HZ0 := Lib.hid z0
    have HZ1 := Lib.hid z1
    have HZY := Lib.hid hzy
    have HN := Lib.hid hn
    have HINV := Lib.hid hinv
    have I0 := Lib.hid i0
    have I1 := Lib.hid i1
    clear hI hz hzy hn hinv i0 i1 hm
    have w1 := HSZ.out
    have hn1 : ¬ w.heap.size = M := by omega
    have hn2 : ¬ w.heap.size = M + 1 := by omega
    have hn3 : ¬ w.heap.size + 1 = M := by omega
    have hn4 : ¬ w.heap.size + 1 = M + 1 := by omega
    have hn5 : ¬ M = w.heap.size := by omega
    have hn6 : ¬ M + 1 = w.heap.size := by omega
    have hn7 : ¬ M = w.heap.size + 1 := by omega
    have hn8 : ¬ M + 1 = w.heap.size + 1 := by omega
    have g0 := HZ0.out.c0
    have g1 := HZ0.out.c1
    have g2 := HZ0.out.f0
    have g3 := HZ0.out.f1
    have g4 := HZ1.out.c0
    have g5 := HZ1.out.c1
    have g6 := HZ1.out.f0
    have g7 := HZ1.out.f1
    have g8 := HO.out.cell
    clear w1 z0 z1 ho
    gi_wp2
    refine wpIn_wide.2 ?_
    go_region_held3 (fun W' => W'.cell? ⟨M, 0, none⟩ = some (.bool x0') ∧ W'.cell? ⟨M, 1, none⟩ = some (.slice o0' n0' c0') ∧ W'.cell? ⟨M, 2, none⟩ = some (.bool x1') ∧ W'.cell? ⟨M, 3, none⟩ = some (.slice o1' n1' c1') ∧ W'.cell? ⟨M + 1, 0, none⟩ = some (.slice vo vn vc)) (go_keep) (fail)
    all_goals
      gi_wp2
      have P1 := HZ0.out.put (w := w) (Nat.le_refl _) HBL.out (.bool x0') (.slice o0' n0' c0')
      have P2 := ((HZ1.out.far (i := 0) (b' := w.heap.size) (by omega) (.bool x0')).far (i := 1) (b' := w.heap.size) (by omega) (.slice o0' n0' c0')).put (w := w) (by omega) P1.2.1 (.bool x1') (.slice o1' n1' c1')
      have P3 := (P1.1.far (i := 0) (b' := w.heap.size + 1) (by omega) (.bool x1')).far (i := 1) (b' := w.heap.size + 1) (by omega) (.slice o1' n1' c1')
      have hk := P1.2.2.trans P2.2.2
      have hfin := P2.2.1
      have P2 := P2.1
      have hd : ((((W.setCell ⟨w.heap.size, 0, none⟩ (.bool x0')).setCell ⟨w.heap.size, 1, none⟩ (.slice o0' n0' c0')).setCell ⟨w.heap.size + 1, 0, none⟩ (.bool x1')).setCell ⟨w.heap.size + 1, 1, none⟩ (.slice o1' n1' c1')).heap[M + 2 + 2]? = some (.deferred (some [])) := by
        have := HSZ.out
        rw [Below.heap_setCell _ _ _ _ (by simp; omega), Below.heap_setCell _ _ _ _ (by simp; omega), Below.heap_setCell _ _ _ _ (by simp; omega), Below.heap_setCell _ _ _ _ (by simp; omega)]
        exact HDF.out
      generalize (((W.setCell ⟨w.heap.size, 0, none⟩ (.bool x0')).setCell ⟨w.heap.size, 1, none⟩ (.slice o0' n0' c0')).setCell ⟨w.heap.size + 1, 0, none⟩ (.bool x1')).setCell ⟨w.heap.size + 1, 1, none⟩ (.slice o1' n1' c1') = W5 at *
      have hd5 : W5.drew.heap[M + 2 + 2]? = some (.deferred (some [])) := hd
      have hkp : ∀ o, Keep W5.drew (W5.drew.putObj (M + 2 + 2) o) := fun o => keep_put (by rw [hd5]; intro cs fz h; cases h)
      have hsz5 := HSZ.out
      have R0 : ∀ o, Cell2 (W5.drew.putObj (M + 2 + 2) o) w.heap.size (.bool x0') (.slice o0' n0' c0') := fun o => (World.putObj_heap_other (by omega)).trans P3
      have R1 : ∀ o, Cell2 (W5.drew.putObj (M + 2 + 2) o) (w.heap.size + 1) (.bool x1') (.slice o1' n1' c1') := fun o => (World.putObj_heap_other (by omega)).trans P2
      refine ⟨by simp, .inl ⟨_, _, rfl, run_takeDeferred hd5, ?_⟩⟩
      refine ⟨.tuple #[.slice vo vn vc, .agg #[.bool x0', .slice o0' n0' c0'], .agg #[.bool x1', .slice o1' n1' c1']], ?_, s, _, _, _, _, _, _, _, _, _, rfl, ?_, ?_, ?_, HINV.out, HZY.out, ?_⟩
      · exact Eq.trans (results_tcc_at (t := 4) (p := 5) (q := 6) rfl rfl rfl (R0 _) (R1 _)) rfl
      · exact ((HN.out.keep hk).keep (Keep.drew _)).keep (hkp _)
      · exact ((I0.out.keep hk).keep (Keep.drew _)).keep (hkp _)
      · exact ((I1.out.keep hk).keep (Keep.drew _)).keep (hkp _)
      · exact (Below.drew hfin).trans (below_put (by omega))
theorem ext_any (N : Nat) (va vb : Value) (a b : Nat) (w : World) (ha : NatV w va a) (hb : NatV w vb b) (hla : (dig a).length ≤ N) (hlb : (dig b).length ≤ N) (hN : N ≤ 26) :
    Calls Tryz.prog 14 #[va, vb] w (REx w a b) := callsIn_wide.1 (ext_in 10 N va vb a b w ha hb hla hlb hN)
end Go.Proofs.YtckahcgolfnobaaGreatDoor
