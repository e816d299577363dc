/- integer.Neg, gcd.whole, integer.Of. -/
import Derived.Test.YtckahcgolfnobaaGreatDoorInt
import Derived.Test.YtckahcgolfnobaaGreatDoorLift
namespace Go.Proofs.YtckahcgolfnobaaGreatDoor
open Go Go.RowKit

/-- A whole number's parts. -/
theorem IntV.parts {w : World} {v : Value} {z : Int} (h : IntV w v z) : ∃ o n c, v = .agg #[.bool (decide (z < 0)), .slice o n c] ∧ NatV w (.slice o n c) z.natAbs := by
  obtain ⟨m, rfl, hm⟩ := h.form
  obtain ⟨o, c, rfl, _, _⟩ := Sl.slice hm
  exact ⟨o, _, c, rfl, hm⟩

theorem IntV.parts2 {w : World} {v : Value} {z : Int} (h : IntV w v z) : ∃ bb o n c, v = .agg #[.bool bb, .slice o n c] := by
  obtain ⟨o, n, c, rfl, _⟩ := h.parts
  exact ⟨_, o, n, c, rfl⟩

theorem sgn_opp (z : Int) : sgn (!decide (z < 0)) z.natAbs = -z := by
  unfold sgn
  by_cases h : z < 0
  · simp [h]; omega
  · simp [h]; omega

/-- The end of a function that lays a whole number into its result's block. -/
theorem int_end {fn : Func} {p : Tmp} {tmps : Array Value} {w w1 : World} {b : Nat} {x y u v : Value} {z : Int} (hfn : fn.results = #[.cell p 27]) (hp : tmps.getD p undef = .pointer (some ⟨b, 0, none⟩))
    (hc : Cell2 w1 b x y) (hb : w.heap.size ≤ b) (hf : Fol w w1) (hz : IntV w1 (.agg #[u, v]) z) :
    bodyPost Tryz.prog fn (RInt w z) .ret { tmps := tmps, defers := [] } ((w1.setCell ⟨b, 0, none⟩ u).setCell ⟨b, 1, none⟩ v) := by
  obtain ⟨p1, p2, p3⟩ := hc.put hb hf u v
  refine bodyPost_ret (v := .agg #[u, v]) ?_ rfl ⟨_, rfl, hz.keep p3, p2⟩
  rw [results_cell1 hfn, hp]
  have r0 := p1.c0
  have r1 := p1.c1
  go_simp

set_option maxHeartbeats 400000 in
set_option maxRecDepth 100000 in
theorem whole_any (v : Value) (m : Nat) (w : World) (h : NatV w v m) (hm : Big m) : Calls Tryz.prog 54 #[v] w (RInt w m) := by
  have HM := Lib.hid (imake_any false v m _ (NatV.fol h (Fol.new w (.cells #[.bool false, .slice none 0 0] 27))) hm)
  go_enter Tryz.func54, Tryz.ntmps54
  go_wp2_with ((go_at_call 86; (with_reducible refine (HM.out).mono ?_)); rintro e w1 ⟨v1, rfl, h1, b1⟩; have hc := (Cell2.new w (.bool false) (.slice none 0 0)).fol b1; obtain ⟨bb1, o1, n1, k1, rfl⟩ := h1.parts2; have q0 := hc.c0; have q1 := hc.c1; have q2 := hc.f0; have q3 := hc.f1; have HC := Lib.hid hc; clear hc)
  exact int_end rfl rfl HC.out (Nat.le_refl _) (Fol.trans (Fol.new _ _) b1) h1

theorem fol2 (w : World) (a b : Obj) : Fol w ((w.alloc a).alloc b) := Fol.trans (Fol.new _ _) (Fol.new _ _)

set_option maxHeartbeats 400000 in
set_option maxRecDepth 100000 in
theorem neg_any (v : Value) (z : Int) (w : World) (h : IntV w v z) (hm : Big z.natAbs) : Calls Tryz.prog 97 #[v] w (RInt w (-z)) := by
  obtain ⟨o, n, c, rfl, hv⟩ := h.parts
  have HM := Lib.hid (imake_any (!decide (z < 0)) (.slice o n c) z.natAbs _ (NatV.fol hv (fol2 w (.cells #[.bool (decide (z < 0)), .slice o n c] 27) (.cells #[.bool false, .slice none 0 0] 27))) hm)
  rw [sgn_opp] at HM
  generalize decide (z < 0) = bz at *
  clear h hv
  go_enter Tryz.func97, Tryz.ntmps97
  go_wp2_with ((go_at_call 86; (with_reducible refine (HM.out).mono ?_)); rintro e w1 ⟨v1, rfl, h1, b1⟩; have hc := (Cell2.new (w.alloc (.cells #[.bool bz, .slice o n c] 27)) (.bool false) (.slice none 0 0)).fol b1; rw [World.size_alloc] at hc; obtain ⟨bb1, o1, n1, k1, rfl⟩ := h1.parts2; have q0 := hc.c0; have q1 := hc.c1; have q2 := hc.f0; have q3 := hc.f1; have HC := Lib.hid hc; clear hc)
  exact int_end rfl rfl HC.out (Nat.le_succ _) (Fol.trans (fol2 _ _ _) b1) h1

theorem sgn_mul (x y : Int) : sgn (decide (x < 0) != decide (y < 0)) (x.natAbs * y.natAbs) = x * y := by
  unfold sgn
  rcases Int.natAbs_eq x with hx | hx <;> rcases Int.natAbs_eq y with hy | hy <;>
    generalize x.natAbs = a at * <;> generalize y.natAbs = b at * <;> subst hx <;> subst hy
  all_goals
    by_cases ha : a = 0
    · subst ha; simp
    · by_cases hb : b = 0
      · subst hb; simp
      · have h1 : (0 : Int) < a := by omega
        have h2 : (0 : Int) < b := by omega
        simp [show ¬ ((a : Int) < 0) by omega, show ¬ ((b : Int) < 0) by omega, Int.neg_mul, Int.mul_neg, Nat.pos_of_ne_zero ha, Nat.pos_of_ne_zero hb]

set_option maxHeartbeats 400000 in
set_option maxRecDepth 100000 in
theorem intmul_any (v v' : Value) (x y : Int) (w : World) (h : IntV w v x) (h' : IntV w v' y) (hM : C2 58 x.natAbs y.natAbs (x.natAbs * y.natAbs)) (hm : Big (x.natAbs * y.natAbs)) :
    Calls Tryz.prog 77 #[v, v'] w (RInt w (x * y)) := by
  obtain ⟨o, n, c, rfl, hv⟩ := h.parts
  obtain ⟨o', n', c', rfl, hv'⟩ := h'.parts
  have hsg : sgn (!(decide (x < 0) == decide (y < 0))) (x.natAbs * y.natAbs) = x * y := sgn_mul x y
  have HI := Lib.hid (fun v w' hw => imake_any (!(decide (x < 0) == decide (y < 0))) v (x.natAbs * y.natAbs) w' hw hm)
  rw [hsg] at HI
  clear hsg
  generalize decide (x < 0) = bx at *
  generalize decide (y < 0) = bz at *
  clear h h'
  go_enter Tryz.func77, Tryz.ntmps77
  go_wp2
  have HC : Hid (Cell2 (((w.alloc (.cells #[.bool bx, .slice o n c] 27)).alloc (.cells #[.bool bz, .slice o' n' c'] 27)).alloc (.cells #[.bool false, .slice none 0 0] 27)).drew (w.heap.size + 1 + 1) (.bool false) (.slice none 0 0)) := Lib.hid (by
    have := Cell2.new ((w.alloc (.cells #[.bool bx, .slice o n c] 27)).alloc (.cells #[.bool bz, .slice o' n' c'] 27)) (.bool false) (.slice none 0 0)
    rw [World.size_alloc, World.size_alloc] at this
    exact this)
  have hA : Hid (Cell2 (((w.alloc (.cells #[.bool bx, .slice o n c] 27)).alloc (.cells #[.bool bz, .slice o' n' c'] 27)).alloc (.cells #[.bool false, .slice none 0 0] 27)).drew w.heap.size (.bool bx) (.slice o n c)) := Lib.hid ((Cell2.new w _ _).fol (Fol.trans (fol2 _ _ _) (Fol.draw _)))
  have hB : Hid (Cell2 (((w.alloc (.cells #[.bool bx, .slice o n c] 27)).alloc (.cells #[.bool bz, .slice o' n' c'] 27)).alloc (.cells #[.bool false, .slice none 0 0] 27)).drew (w.heap.size + 1) (.bool bz) (.slice o' n' c')) := Lib.hid (by
    have := (Cell2.new (w.alloc (.cells #[.bool bx, .slice o n c] 27)) (.bool bz) (.slice o' n' c')).fol (Fol.trans (Fol.new _ (.cells #[.bool false, .slice none 0 0] 27)) (Fol.draw _))
    rwa [World.size_alloc] at this)
  have hf : Fol w (((w.alloc (.cells #[.bool bx, .slice o n c] 27)).alloc (.cells #[.bool bz, .slice o' n' c'] 27)).alloc (.cells #[.bool false, .slice none 0 0] 27)).drew := Fol.trans (fol2 _ _ _) (Fol.trans (Fol.new _ _) (Fol.draw _))
  have hv := NatV.fol hv hf
  have hv' := NatV.fol hv' hf
  generalize hW : ((w.alloc (.cells #[.bool bx, .slice o n c] 27)).alloc (.cells #[.bool bz, .slice o' n' c'] 27)).alloc (.cells #[.bool false, .slice none 0 0] 27) = W at *
  clear hW
  have a0 := hA.out.c0
  have a1 := hA.out.c1
  have b0 := hB.out.c0
  have b1 := hB.out.c1
  have hn1 : ¬ w.heap.size + 1 + 1 = w.heap.size := by omega
  have hn2 : ¬ w.heap.size = w.heap.size + 1 + 1 := by omega
  go_region_held3 (fun W' => W'.cell? ⟨w.heap.size, 0, none⟩ = some (.bool bx) ∧ W'.cell? ⟨w.heap.size, 1, none⟩ = some (.slice o n c) ∧ W'.cell? ⟨w.heap.size + 1, 0, none⟩ = some (.bool bz) ∧ W'.cell? ⟨w.heap.size + 1, 1, none⟩ = some (.slice o' n' c')) (first | exact ⟨a0, a1, b0, b1⟩ | exact ⟨(hA.out.fol k1).c0, (hA.out.fol k1).c1, (hB.out.fol k1).c0, (hB.out.fol k1).c1⟩ | exact ⟨(hA.out.fol k2).c0, (hA.out.fol k2).c1, (hB.out.fol k2).c0, (hB.out.fol k2).c1⟩ | go_keep) (first
    | ((go_at_call 58; (with_reducible refine (hM.out _ _ _ hv hv').mono ?_)); rintro e w1 ⟨v1, rfl, h1, k1⟩)
    | ((go_at_call 86; (with_reducible refine (HI.out _ _ h1).mono ?_)); rintro e w2 ⟨v2, rfl, h2, k2'⟩; have k2 := Fol.trans k1 k2'; obtain ⟨bb2, o2, n2, c2, rfl⟩ := h2.parts2; have q0 := (HC.out.fol k2).c0; have q1 := (HC.out.fol k2).c1; have q2 := (HC.out.fol k2).f0; have q3 := (HC.out.fol k2).f1))
  go_wp2
  exact int_end rfl rfl (HC.out.fol k2) (by omega) (Fol.trans hf k2) h2
end Go.Proofs.YtckahcgolfnobaaGreatDoor
