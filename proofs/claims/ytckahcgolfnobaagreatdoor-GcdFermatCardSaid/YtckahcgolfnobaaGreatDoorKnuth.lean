/- Division, limb by limb: the law. -/
import Derived.Test.YtckahcgolfnobaaGreatDoorBack
namespace Go.Proofs.YtckahcgolfnobaaGreatDoor
open Go Go.RowKit

theorem lim_val {l : List Nat} (hs : Small l) (j : Nat) : lim l j = val l / 4294967296 ^ j % 4294967296 := by
  induction l generalizing j with
  | nil => simp [lim, val]
  | cons a l ih =>
    have ha : a < 4294967296 := hs a (by simp)
    cases j with
    | zero => simp [lim, val]; omega
    | succ j =>
      have e : lim (a :: l) (j + 1) = lim l j := by simp [lim]
      rw [e, ih (fun x hx => hs x (by simp [hx])) j, val, Nat.pow_succ, Nat.mul_comm (4294967296 ^ j), ← Nat.div_div_eq_div_mul]
      congr 2
      omega

theorem val_lt_top {l : List Nat} (hs : Small l) {k : Nat} (h : ∀ j, k ≤ j → lim l j = 0) : val l < 4294967296 ^ k := by
  induction l generalizing k with
  | nil => simp [val]; exact Nat.pow_pos (by omega)
  | cons a l ih =>
    have ha : a < 4294967296 := hs a (by simp)
    have hs' : Small l := fun x hx => hs x (by simp [hx])
    cases k with
    | zero =>
      have h0 : a = 0 := h 0 (by omega)
      have := ih hs' (k := 0) (fun j _ => by have := h (j + 1) (by omega); simpa [lim] using this)
      simp [val, h0] at this ⊢
      omega
    | succ k =>
      have := ih hs' (k := k) (fun j hj => by have := h (j + 1) (by omega); simpa [lim] using this)
      rw [val, Nat.pow_succ]
      omega

theorem lim_top {l : List Nat} (hs : Small l) {k : Nat} (h : val l < 4294967296 ^ k) (j : Nat) (hj : k ≤ j) : lim l j = 0 := by
  rw [lim_val hs, Nat.div_eq_of_lt (Nat.lt_of_lt_of_le h (Nat.pow_le_pow_right (by omega) hj))]

theorem guess_ok {V Y L i : Nat} (hL : 2 ≤ L) (hV : V < Y * 4294967296 ^ (i + 1)) (hy : 2147483648 ≤ Y / 4294967296 ^ (L - 1)) :
    V / (Y * 4294967296 ^ i) ≤ qhat (V / 4294967296 ^ (i + L - 2)) (Y / 4294967296 ^ (L - 2)) ∧ qhat (V / 4294967296 ^ (i + L - 2)) (Y / 4294967296 ^ (L - 2)) ≤ V / (Y * 4294967296 ^ i) + 1 ∧ qhat (V / 4294967296 ^ (i + L - 2)) (Y / 4294967296 ^ (L - 2)) < 4294967296 := by
  obtain ⟨d, rfl⟩ : ∃ d, L = d + 2 := ⟨L - 2, by omega⟩
  rw [show i + (d + 2) - 2 = d + i by omega, show d + 2 - 2 = d by omega]
  rw [show d + 2 - 1 = d + 1 by omega, Nat.pow_succ, ← Nat.div_div_eq_div_mul] at hy
  rw [Nat.pow_succ, ← Nat.mul_assoc] at hV
  rw [Nat.pow_add]
  have hD : 0 < 4294967296 ^ d := Nat.pow_pos (by omega)
  have hE : 0 < 4294967296 ^ i := Nat.pow_pos (by omega)
  generalize 4294967296 ^ d = D at *
  generalize 4294967296 ^ i = E at *
  have hY2 : 9223372036854775808 ≤ Y / D := by
    have := (Nat.le_div_iff_mul_le (show 0 < 4294967296 by omega)).1 hy
    omega
  have hY1 : Y / D * D ≤ Y := Nat.div_mul_le_self _ _
  have hY3 : Y < (Y / D + 1) * D := by
    have h1 := Nat.mod_lt Y hD
    have h2 := Nat.div_add_mod Y D
    rw [Nat.add_mul, Nat.mul_comm (Y / D)]
    omega
  have hX1 : V / (D * E) * (D * E) ≤ V := Nat.div_mul_le_self _ _
  have hYp : 0 < Y := by
    apply Nat.pos_of_ne_zero; rintro rfl; simp at hY2
  have hYE : 0 < Y * E := Nat.mul_pos hYp hE
  unfold qhat
  generalize Y / D = Z at *
  have hq1 : V / (Y * E) ≤ 4294967295 := by
    rw [← Nat.lt_succ_iff, Nat.div_lt_iff_lt_mul hYE, Nat.mul_comm]
    exact hV
  have hq2 : V / (Y * E) ≤ V / (D * E) / Z := by
    rw [Nat.le_div_iff_mul_le (by omega), Nat.le_div_iff_mul_le (Nat.mul_pos hD hE)]
    refine Nat.le_trans ?_ (Nat.div_mul_le_self V (Y * E))
    generalize V / (Y * E) = q
    have : q * Z * (D * E) = q * ((Z * D) * E) := by grind
    rw [this]
    exact Nat.mul_le_mul_left _ (Nat.mul_le_mul_right _ hY1)
  refine ⟨Nat.le_min.2 ⟨hq1, hq2⟩, ?_, Nat.lt_of_le_of_lt (Nat.min_le_left _ _) (by omega)⟩
  have hg1 : min 4294967295 (V / (D * E) / Z) ≤ 4294967295 := Nat.min_le_left _ _
  have hg2 : min 4294967295 (V / (D * E) / Z) * Z ≤ V / (D * E) := Nat.le_trans (Nat.mul_le_mul_right _ (Nat.min_le_right _ _)) (Nat.div_mul_le_self _ _)
  generalize min 4294967295 (V / (D * E) / Z) = g at *
  generalize V / (D * E) = X3 at *
  cases g with
  | zero => exact Nat.zero_le _
  | succ g =>
    apply Nat.succ_le_succ
    rw [Nat.le_div_iff_mul_le hYE]
    refine Nat.le_trans ?_ hX1
    have h1 : g * Y ≤ g * ((Z + 1) * D) := Nat.mul_le_mul_left _ (Nat.le_of_lt hY3)
    have h2 : g * ((Z + 1) * D) = (g * Z + g) * D := by grind
    have h3 : g * Z + g ≤ X3 := by
      rw [Nat.succ_mul] at hg2
      omega
    have h4 : (g * Z + g) * D ≤ X3 * D := Nat.mul_le_mul_right _ h3
    have h5 : g * (Y * E) = g * Y * E := by grind
    have h6 : X3 * (D * E) = X3 * D * E := by grind
    rw [h5, h6]
    exact Nat.mul_le_mul_right _ (by omega)

/-- j limbs of the quotient are still to come. -/
structure KnI (X Y j nx nq : Nat) (xl ql : List Nat) : Prop where
  lenx : xl.length = nx
  lenq : ql.length = nq
  smallx : Small xl
  smallq : Small ql
  eq : val xl + Y * val ql = X
  lt : val xl < Y * 4294967296 ^ j
  zero : ∀ i, i < j → lim ql i = 0


theorem KnI.digit {X Y i nx nq g : Nat} {xl ql l : List Nat} (h : KnI X Y (i + 1) nx nq xl ql) (hi : i < nq) (hg : g < 4294967296) (h1 : l.length = nx) (h2 : Small l) (h3 : val l + 4294967296 ^ i * (g * Y) = val xl) (h4 : val l < Y * 4294967296 ^ i) :
    KnI X Y i nx nq l (ql.set i g) := by
  refine ⟨h1, by simp [h.lenq], h2, small_set h.smallq _ _ hg, ?_, h4, fun j hj => ?_⟩
  · have h5 := val_set ql i g (by rw [h.lenq]; exact hi)
    rw [h.zero i (by omega)] at h5
    have h6 := h.eq
    generalize 4294967296 ^ i = E at *
    generalize val (ql.set i g) = Q at *
    have h7 : Q = val ql + E * g := by omega
    rw [h7]
    grind
  · rw [lim_set, if_neg (by omega)]
    exact h.zero j (by omega)

/-- The guess was right. -/
theorem knuth_right {V Y E g v : Nat} (hE : 0 < E) (hY : 0 < Y) (h : v + E * (g * Y) = V) (hg : V / (Y * E) ≤ g) : v < Y * E := by
  have h1 : V < (g + 1) * (Y * E) := by
    have := Nat.lt_succ_of_le hg
    exact (Nat.div_lt_iff_lt_mul (Nat.mul_pos hY hE)).1 this
  have h2 : E * (g * Y) = g * (Y * E) := by grind
  rw [Nat.add_mul] at h1
  omega

/-- The guess was too much by one; y is given back. -/
theorem knuth_back {V Y E P g v v' ov : Nat} (hE : 0 < E) (hYP : Y * E ≤ P) (hY : 0 < Y) (h : v + E * (g * Y) = V + P) (h' : v' + P * ov = v + E * Y) (hg : g ≤ V / (Y * E) + 1) (hv' : v' < P) (hg0 : V / (Y * E) ≤ g) (hv : v < P) :
    0 < g ∧ v' + E * ((g - 1) * Y) = V ∧ v' < Y * E := by
  have h1 : g * (Y * E) = E * (g * Y) := by grind
  have hp : 0 < g := by
    apply Nat.pos_of_ne_zero
    rintro rfl
    simp at h
    omega
  obtain ⟨k, rfl⟩ : ∃ k, g = k + 1 := ⟨g - 1, by omega⟩
  have h2 : k * (Y * E) ≤ V := Nat.le_trans (Nat.mul_le_mul_right _ (by omega)) (Nat.div_mul_le_self V (Y * E))
  have h3 : E * ((k + 1) * Y) = k * (Y * E) + Y * E := by grind
  have h4 : E * (k * Y) = k * (Y * E) := by grind
  have h5 : E * Y = Y * E := Nat.mul_comm _ _
  rw [Nat.add_sub_cancel, h4]
  rw [h3] at h
  rw [h5] at h'
  have hov : ov = 1 := by
    rcases ov with _ | _ | ov
    · simp at h'; omega
    · rfl
    · rw [Nat.mul_add, Nat.mul_add] at h'
      omega
  subst hov
  rw [Nat.mul_one] at h'
  have h6 : V < (k + 1 + 1) * (Y * E) ∧ V / (Y * E) ≤ k + 1 := ⟨(Nat.div_lt_iff_lt_mul (Nat.mul_pos hY hE)).1 (Nat.lt_succ_of_le hg0), hg0⟩
  have h7 : v' + k * (Y * E) = V := by omega
  refine ⟨hp, h7, ?_⟩
  -- what is left is below y
  have h8 : v < P := hv
  omega

theorem KnI.last {X Y nx nq : Nat} {xl ql : List Nat} (h : KnI X Y 0 nx nq xl ql) : val ql = X / Y ∧ val xl = X % Y := by
  have h1 := h.eq
  have h2 := h.lt
  rw [Nat.pow_zero, Nat.mul_one] at h2
  rw [← h1, Nat.add_mul_div_left _ _ (by omega), Nat.div_eq_of_lt h2, Nat.zero_add, Nat.add_mul_mod_self_left, Nat.mod_eq_of_lt h2]
  exact ⟨rfl, rfl⟩
end Go.Proofs.YtckahcgolfnobaaGreatDoor
