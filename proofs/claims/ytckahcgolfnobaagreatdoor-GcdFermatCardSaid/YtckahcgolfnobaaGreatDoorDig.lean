/- Plain arithmetic of rows of limbs: what a row is worth, the row of a number. No program in sight. -/
namespace Go.Proofs.YtckahcgolfnobaaGreatDoor

/-- What a row of limbs is worth. -/
def val : List Nat → Nat
  | [] => 0
  | x :: l => x + 4294967296 * val l

def Small (l : List Nat) : Prop := ∀ x ∈ l, x < 4294967296

/-- The limbs of a number, the lowest first, without noughts at the end. -/
def dig (n : Nat) : List Nat :=
  if h : n = 0 then [] else n % 4294967296 :: dig (n / 4294967296)
termination_by n
decreasing_by omega

theorem dig_zero : dig 0 = [] := by unfold dig; rfl
theorem dig_pos {n : Nat} (h : n ≠ 0) : dig n = n % 4294967296 :: dig (n / 4294967296) := by
  rw [dig]; simp [h]

theorem val_dig (n : Nat) : val (dig n) = n := by
  induction n using Nat.strongRecOn with
  | _ n ih =>
    by_cases h : n = 0
    · subst h; rw [dig_zero]; rfl
    · rw [dig_pos h, val, ih _ (by omega)]; omega

theorem small_dig (n : Nat) : Small (dig n) := by
  induction n using Nat.strongRecOn with
  | _ n ih =>
    by_cases h : n = 0
    · subst h; rw [dig_zero]; intro x hx; cases hx
    · rw [dig_pos h]
      intro x hx
      rcases List.mem_cons.1 hx with rfl | hx
      · omega
      · exact ih _ (by omega) x hx

theorem small_nil : Small [] := fun _ h => by cases h
theorem small_cons {x : Nat} {l : List Nat} : Small (x :: l) ↔ x < 4294967296 ∧ Small l := by
  simp [Small]
theorem small_append {l m : List Nat} : Small (l ++ m) ↔ Small l ∧ Small m := by
  simp only [Small, List.mem_append]
  exact ⟨fun h => ⟨fun x hx => h x (.inl hx), fun x hx => h x (.inr hx)⟩, fun ⟨h1, h2⟩ x hx => hx.elim (h1 x) (h2 x)⟩
theorem small_take {l : List Nat} (h : Small l) (n : Nat) : Small (l.take n) := fun x hx => h x (List.mem_of_mem_take hx)
theorem small_drop {l : List Nat} (h : Small l) (n : Nat) : Small (l.drop n) := fun x hx => h x (List.mem_of_mem_drop hx)
theorem small_getD {l : List Nat} (h : Small l) (i : Nat) : l.getD i 0 < 4294967296 := by
  by_cases hi : i < l.length
  · have : l.getD i 0 = l[i] := by simp [List.getD, hi]
    rw [this]; exact h _ (List.getElem_mem hi)
  · have : l.getD i 0 = 0 := by simp [List.getD, List.getElem?_eq_none (Nat.le_of_not_lt hi)]
    rw [this]; omega

theorem val_append (l m : List Nat) : val (l ++ m) = val l + 4294967296 ^ l.length * val m := by
  induction l with
  | nil => simp [val]
  | cons x l ih =>
    simp only [List.cons_append, val, ih, List.length_cons, Nat.pow_succ]
    grind

theorem val_lt {l : List Nat} (h : Small l) : val l < 4294967296 ^ l.length := by
  induction l with
  | nil => simp [val]
  | cons x l ih =>
    have ⟨h1, h2⟩ := small_cons.1 h
    have := ih h2
    simp only [val, List.length_cons, Nat.pow_succ]
    omega

/-- Right: no nought at the end. -/
def Norm (l : List Nat) : Prop := l.getLast? ≠ some 0

theorem norm_dig (n : Nat) : Norm (dig n) := by
  induction n using Nat.strongRecOn with
  | _ n ih =>
    by_cases h : n = 0
    · subst h; rw [dig_zero]; simp [Norm]
    · rw [dig_pos h]
      have := ih (n / 4294967296) (by omega)
      by_cases h2 : n / 4294967296 = 0
      · rw [h2, dig_zero]; simp [Norm]; omega
      · rw [dig_pos h2] at this ⊢
        simp only [Norm] at this ⊢
        rw [List.getLast?_cons_cons]; exact this

theorem dig_val {l : List Nat} (h : Small l) (hn : Norm l) : dig (val l) = l := by
  induction l with
  | nil => exact dig_zero
  | cons x l ih =>
    have ⟨h1, h2⟩ := small_cons.1 h
    have hn2 : Norm l := by
      cases l with
      | nil => simp [Norm]
      | cons y l => simp only [Norm, List.getLast?_cons_cons] at hn ⊢; exact hn
    have hne : val (x :: l) ≠ 0 := by
      cases l with
      | nil => simp [Norm] at hn; simp [val]; exact hn
      | cons y l =>
        intro h0
        have e := ih h2 hn2
        have : val (y :: l) = 0 := by simp only [val] at h0 ⊢; omega
        rw [this, dig_zero] at e; cases e
    rw [dig_pos hne]
    have a : val (x :: l) % 4294967296 = x := by simp only [val]; omega
    have b : val (x :: l) / 4294967296 = val l := by simp only [val]; omega
    rw [a, b, ih h2 hn2]

theorem dig_length_le {n k : Nat} (h : n < 4294967296 ^ k) : (dig n).length ≤ k := by
  induction k generalizing n with
  | zero => simp at h; subst h; rw [dig_zero]; simp
  | succ k ih =>
    by_cases h0 : n = 0
    · subst h0; rw [dig_zero]; simp
    · rw [dig_pos h0]
      have : n / 4294967296 < 4294967296 ^ k := by
        rw [Nat.pow_succ] at h
        exact Nat.div_lt_of_lt_mul (by rw [Nat.mul_comm]; exact h)
      simpa using ih this

theorem lt_dig_length (n : Nat) : n < 4294967296 ^ (dig n).length := by
  have := val_lt (small_dig n)
  rwa [val_dig] at this

theorem pow_dig_length_le {n : Nat} (h : n ≠ 0) : 4294967296 ^ ((dig n).length - 1) ≤ n := by
  apply Nat.le_of_not_lt
  intro hlt
  have h1 := dig_length_le hlt
  have : (dig n).length ≠ 0 := by rw [dig_pos h]; simp
  omega

theorem dig_length_mono {a b : Nat} (h : a ≤ b) : (dig a).length ≤ (dig b).length :=
  dig_length_le (Nat.lt_of_le_of_lt h (lt_dig_length b))

theorem dig_length_pos {n : Nat} : 0 < (dig n).length ↔ n ≠ 0 := by
  constructor
  · intro h h0; subst h0; rw [dig_zero] at h; cases h
  · intro h; rw [dig_pos h]; simp

theorem dig_length_zero {n : Nat} : (dig n).length = 0 ↔ n = 0 := by
  have := @dig_length_pos n; omega

theorem dig_inj {a b : Nat} (h : dig a = dig b) : a = b := by
  have := congrArg val h; rwa [val_dig, val_dig] at this

theorem dig_length_le_iff {n k : Nat} : (dig n).length ≤ k ↔ n < 4294967296 ^ k :=
  ⟨fun h => Nat.lt_of_lt_of_le (lt_dig_length n) (Nat.pow_le_pow_right (by omega) h), dig_length_le⟩

/-- The limbs as noughts at the end are taken away. -/
def strip (l : List Nat) : List Nat := dig (val l)

theorem getD_dig (n i : Nat) : (dig n).getD i 0 = n / 4294967296 ^ i % 4294967296 := by
  induction i generalizing n with
  | zero =>
    by_cases h : n = 0
    · subst h; rw [dig_zero]; rfl
    · rw [dig_pos h]; simp
  | succ i ih =>
    by_cases h : n = 0
    · subst h; rw [dig_zero]; simp
    · rw [dig_pos h]
      have := ih (n / 4294967296)
      simp only [List.getD_cons_succ]
      rw [this, Nat.div_div_eq_div_mul, Nat.pow_succ, Nat.mul_comm]

end Go.Proofs.YtckahcgolfnobaaGreatDoor
