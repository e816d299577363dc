/- integer.Make and its likes. -/
import Derived.Test.YtckahcgolfnobaaGreatDoorArm
import Derived.BigGuard
namespace Go.Proofs.YtckahcgolfnobaaGreatDoor
open Go Go.RowKit

/-- A natural with a sign. -/
def sgn (neg : Bool) (m : Nat) : Int := if neg then -(m : Int) else m
theorem sgn_abs (neg : Bool) (m : Nat) : (sgn neg m).natAbs = m := by unfold sgn; split <;> simp
theorem sgn_neg (neg : Bool) (m : Nat) : decide (sgn neg m < 0) = (neg && decide (0 < m)) := by
  unfold sgn
  cases neg <;> simp
theorem dig_pos2 (m : Nat) : decide (0 < (dig m).length) = (true && decide (0 < m)) := by
  rw [Bool.true_and]
  by_cases h : 0 < m
  · have : 0 < (dig m).length := by
      apply Nat.pos_of_ne_zero
      intro h0
      have := val_dig m
      rw [List.eq_nil_of_length_eq_zero h0] at this
      simp [val] at this
      omega
    simp [h, this]
  · have : m = 0 := by omega
    subst this
    simp [dig_zero]
theorem intV_of {w : World} {v : Value} {neg : Bool} {m : Nat} (h : NatV w v m) : IntV w (.agg #[.bool (neg && decide (0 < m)), v]) (sgn neg m) :=
  ⟨v, by rw [sgn_neg], by rw [sgn_abs]; exact h⟩

theorem results_cell1 {fn : Func} {p : Tmp} {ty : TypeId} (h : fn.results = #[.cell p ty]) (tmps : Array Value) (P : Program) (w : World) :
    (results fn tmps).run P w = ((asAddr (tmps.getD p undef)).run P w).andThen fun a w₁ => (loadVar ty a).run P w₁ := by
  simp only [results, h]
  simp [Sem.run_bind, Result.andThen]

/-- A block of two cells: a whole number's. -/
def Cell2 (w : World) (b : Nat) (x y : Value) : Prop := w.heap[b]? = some (.cells #[x, y] 27)
theorem Cell2.c0 {w : World} {b : Nat} {x y : Value} (h : Cell2 w b x y) : w.cell? ⟨b, 0, none⟩ = some x := by simp [World.cell?, show w.heap[b]? = _ from h]
theorem Cell2.c1 {w : World} {b : Nat} {x y : Value} (h : Cell2 w b x y) : w.cell? ⟨b, 1, none⟩ = some y := by simp [World.cell?, show w.heap[b]? = _ from h]
theorem Cell2.f0 {w : World} {b : Nat} {x y : Value} (h : Cell2 w b x y) : w.frozen? ⟨b, 0, none⟩ = false := by simp [World.frozen?, show w.heap[b]? = _ from h]
theorem Cell2.f1 {w : World} {b : Nat} {x y : Value} (h : Cell2 w b x y) : w.frozen? ⟨b, 1, none⟩ = false := by simp [World.frozen?, show w.heap[b]? = _ from h]
theorem Cell2.lt {w : World} {b : Nat} {x y : Value} (h : Cell2 w b x y) : b < w.heap.size := (Array.getElem?_eq_some_iff.1 h).1
theorem Cell2.new (w : World) (x y : Value) : Cell2 (w.alloc (.cells #[x, y] 27)) w.heap.size x y := Array.getElem?_push_size
theorem Cell2.fol {w w' : World} {b : Nat} {x y : Value} (h : Cell2 w b x y) (k : Fol w w') : Cell2 w' b x y := (k.block b h.lt).trans h
theorem Cell2.set0 {w : World} {b : Nat} {x y : Value} (h : Cell2 w b x y) (u : Value) : Cell2 (w.setCell ⟨b, 0, none⟩ u) b u y := heap_setCell_same w b 0 #[x, y] _ u h
theorem Cell2.set1 {w : World} {b : Nat} {x y : Value} (h : Cell2 w b x y) (u : Value) : Cell2 (w.setCell ⟨b, 1, none⟩ u) b x u := heap_setCell_same w b 1 #[x, y] _ u h
theorem Cell2.keep {w : World} {b : Nat} {x y : Value} (h : Cell2 w b x y) (i : Nat) (u : Value) : Keep w (w.setCell ⟨b, i, none⟩ u) :=
  Keep.setCell (p := ⟨b, i, none⟩) (o := .cells #[x, y] 27) h (fun cs fz he => absurd (Obj.cells.inj he).2.1 (by decide)) u
/-- A whole number, laid into the block of a call's own that it is handed back from. -/
theorem Cell2.put {w w1 : World} {b : Nat} {x y : Value} (h : Cell2 w1 b x y) (hb : w.heap.size ≤ b) (hf : Fol w w1) (u v : Value) :
    Cell2 ((w1.setCell ⟨b, 0, none⟩ u).setCell ⟨b, 1, none⟩ v) b u v ∧ Fol w ((w1.setCell ⟨b, 0, none⟩ u).setCell ⟨b, 1, none⟩ v) ∧ Keep w1 ((w1.setCell ⟨b, 0, none⟩ u).setCell ⟨b, 1, none⟩ v) :=
  ⟨(h.set0 u).set1 v, (hf.setCell hb u).setCell hb v, (h.keep 0 u).trans ((h.set0 u).keep 1 v)⟩

set_option maxHeartbeats 400000 in
set_option maxRecDepth 100000 in
theorem imake_any (neg : Bool) (v : Value) (m : Nat) (w : World) (h : NatV w v m) (hm : Big m) :
    Calls Tryz.prog 86 #[.bool neg, v] w (RInt w (sgn neg m)) := by
  have hfol := Fol.refl w
  have HM : Hid (∀ v w', NatV w' v m → Calls Tryz.prog 69 #[v] w' (RNat w' m)) := Lib.hid (fun v w' h => by
    have := make_any v (dig m) w' h (small_dig m) (by unfold Big at hm; omega)
    rwa [val_dig] at this)
  cases neg with
  | false =>
    go_enter Tryz.func86, Tryz.ntmps86
    go_wp2_with ((go_at_call 69; (with_reducible refine (HM.out _ _ (NatV.fol h (Fol.new _ _))).mono ?_)); rintro e w1 ⟨v1, rfl, h1, b1⟩; have hc := (Cell2.new w (.bool false) (.slice none 0 0)).fol b1; obtain ⟨o1, n1, k1, rfl⟩ : ∃ o n k, v1 = .slice o n k := (by obtain ⟨o, c, hv, _⟩ := Sl.slice h1; exact ⟨_, _, _, hv⟩); have q0 := hc.c0; have q1 := hc.c1; have q2 := hc.f0; have q3 := hc.f1; have HC := Lib.hid hc; clear hc)
    obtain ⟨p1, p2, p3⟩ := HC.out.put (Nat.le_refl _) (Fol.trans (Fol.new _ _) b1) (.bool false) (.slice o1 n1 k1)
    refine bodyPost_ret (v := .agg #[.bool false, .slice o1 n1 k1]) ?_ rfl ⟨_, rfl, ?_, p2⟩
    · rw [results_cell1 rfl]
      have r0 := p1.c0
      have r1 := p1.c1
      go_simp
    · exact intV_of (neg := false) (Sl.keep h1 p3)
  | true =>
    go_enter Tryz.func86, Tryz.ntmps86
    go_wp2_with ((go_at_call 69; (with_reducible refine (HM.out _ _ (NatV.fol h (Fol.new _ _))).mono ?_)); rintro e w1 ⟨v1, rfl, h1, b1⟩; have hc := (Cell2.new w (.bool false) (.slice none 0 0)).fol b1; obtain ⟨o1, k1, hv1, _⟩ := Sl.slice h1; subst hv1; have q0 := hc.c0; have q1 := hc.c1; have q2 := hc.f0; have q3 := hc.f1; have HC := Lib.hid hc; clear hc)
    have e : decide (0 < (dig m).length) = (true && decide (0 < m)) := dig_pos2 m
    rw [e]
    obtain ⟨p1, p2, p3⟩ := HC.out.put (Nat.le_refl _) (Fol.trans (Fol.new _ _) b1) (.bool (true && decide (0 < m))) (.slice o1 (dig m).length k1)
    refine bodyPost_ret (v := .agg #[.bool (true && decide (0 < m)), .slice o1 (dig m).length k1]) ?_ rfl ⟨_, rfl, ?_, p2⟩
    · rw [results_cell1 rfl]
      have r0 := p1.c0
      have r1 := p1.c1
      generalize (true && decide (0 < m)) = bb at *
      go_simp
    · exact intV_of (neg := true) (Sl.keep h1 p3)
end Go.Proofs.YtckahcgolfnobaaGreatDoor
