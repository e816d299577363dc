/- nat.Add, nat.Sub. -/
import Derived.Test.YtckahcgolfnobaaGreatDoorAllw
namespace Go.Proofs.YtckahcgolfnobaaGreatDoor
open Go Go.RowKit

/-- What the first k limbs are worth. -/
def valTo (l : List Nat) : Nat → Nat
  | 0 => 0
  | k + 1 => valTo l k + 4294967296 ^ k * lim l k

theorem valTo_dig (n k : Nat) : valTo (dig n) k = n % 4294967296 ^ k := by
  induction k with
  | zero => simp [valTo, Nat.mod_one]
  | succ k ih =>
    have h : lim (dig n) k = n / 4294967296 ^ k % 4294967296 := getD_dig n k
    rw [valTo, ih, h, Nat.pow_succ, Nat.mod_mul]

theorem valTo_big {n k : Nat} (h : (dig n).length ≤ k) : valTo (dig n) k = n := by
  rw [valTo_dig]; exact Nat.mod_eq_of_lt (dig_length_le_iff.1 h)

theorem rowAt_val_succ (s t : Nat → Nat → Nat → Nat) (la lb : List Nat) (k : Nat) : val (rowAt s t la lb (k + 1)) = val (rowAt s t la lb k) + 4294967296 ^ k * s (lim la k) (lim lb k) (carryAt s t la lb k) := by
  rw [rowAt, val_append, rowAt_length]; simp [val]

/-! ### Sums -/
def sAdd (x y c : Nat) : Nat := (x + y + c) % 4294967296
def tAdd (x y c : Nat) : Nat := (x + y + c) / 4294967296
theorem addLaw : StepLaw 96 sAdd tAdd :=
  ⟨fun x y c w hx hy hc => add32_any x y c w hx hy hc, enters_of Tryz.func96 (by kernel_rfl) rfl, fun x y c hx hy hc => ⟨Nat.mod_lt _ (by omega), by unfold tAdd; omega⟩⟩
theorem addRow_val (la lb : List Nat) (k : Nat) : val (rowAt sAdd tAdd la lb k) + 4294967296 ^ k * carryAt sAdd tAdd la lb k = valTo la k + valTo lb k := by
  induction k with
  | zero => simp [rowAt, carryAt, valTo, val]
  | succ k ih =>
    rw [rowAt_val_succ]
    simp only [carryAt, valTo]
    have h : sAdd (lim la k) (lim lb k) (carryAt sAdd tAdd la lb k) + 4294967296 * tAdd (lim la k) (lim lb k) (carryAt sAdd tAdd la lb k) = lim la k + lim lb k + carryAt sAdd tAdd la lb k := Nat.mod_add_div _ _
    generalize sAdd (lim la k) (lim lb k) (carryAt sAdd tAdd la lb k) = s at *
    generalize tAdd (lim la k) (lim lb k) (carryAt sAdd tAdd la lb k) = t at *
    have h2 : 4294967296 ^ k * (s + 4294967296 * t) = 4294967296 ^ k * (lim la k + lim lb k + carryAt sAdd tAdd la lb k) := by rw [h]
    rw [Nat.pow_succ]
    grind

/-! ### Differences -/
def sSub (x y c : Nat) : Nat := (4294967296 + x - y - c) % 4294967296
def tSub (x y c : Nat) : Nat := if x < y + c then 1 else 0
theorem subLaw : StepLaw 95 sSub tSub :=
  ⟨fun x y c w hx hy hc => sub32_any x y c w hx hy hc, enters_of Tryz.func95 (by kernel_rfl) rfl, fun x y c hx hy hc => ⟨Nat.mod_lt _ (by omega), by unfold tSub; split <;> omega⟩⟩
theorem subRow_val {la lb : List Nat} (ha : Small la) (hb : Small lb) (k : Nat) : val (rowAt sSub tSub la lb k) + valTo lb k = valTo la k + 4294967296 ^ k * carryAt sSub tSub la lb k := by
  induction k with
  | zero => simp [rowAt, carryAt, valTo, val]
  | succ k ih =>
    rw [rowAt_val_succ]
    simp only [carryAt, valTo]
    have hc := carryAt_le subLaw ha hb k
    have hx := lim_lt ha k
    have hy := lim_lt hb k
    have h : sSub (lim la k) (lim lb k) (carryAt sSub tSub la lb k) + lim lb k + carryAt sSub tSub la lb k = lim la k + 4294967296 * tSub (lim la k) (lim lb k) (carryAt sSub tSub la lb k) := by
      generalize carryAt sSub tSub la lb k = c at *
      unfold sSub tSub; split <;> omega
    generalize sSub (lim la k) (lim lb k) (carryAt sSub tSub la lb k) = s at *
    generalize tSub (lim la k) (lim lb k) (carryAt sSub tSub la lb k) = t at *
    have h2 : 4294967296 ^ k * (s + lim lb k + carryAt sSub tSub la lb k) = 4294967296 ^ k * (lim la k + 4294967296 * t) := by rw [h]
    rw [Nat.pow_succ]
    grind

/-- A bound that all numbers of a walk keep. -/
def Big (n : Nat) : Prop := (dig n).length < 1073741824

theorem dig_length_add (m n : Nat) : (dig (m + n)).length ≤ max (dig m).length (dig n).length + 1 := by
  apply dig_length_le
  have h1 : m < 4294967296 ^ max (dig m).length (dig n).length := Nat.lt_of_lt_of_le (lt_dig_length m) (Nat.pow_le_pow_right (by omega) (by omega))
  have h2 : n < 4294967296 ^ max (dig m).length (dig n).length := Nat.lt_of_lt_of_le (lt_dig_length n) (Nat.pow_le_pow_right (by omega) (by omega))
  rw [Nat.pow_succ]; omega

theorem sum_no_carry {P v c z : Nat} (h : v + P * c = z) (hlt : z < P) : v = z := by
  have hc : c = 0 := by
    apply Nat.eq_zero_of_not_pos
    intro hp
    have := Nat.le_mul_of_pos_right P hp
    omega
  subst hc; simpa using h

theorem addRow_all (m n k : Nat) (hk : k = max (dig m).length (dig n).length + 1) : val (rowAt sAdd tAdd (dig m) (dig n) k) = m + n := by
  have h1 := addRow_val (dig m) (dig n) k
  rw [valTo_big (show (dig m).length ≤ k by omega), valTo_big (show (dig n).length ≤ k by omega)] at h1
  exact sum_no_carry h1 (dig_length_le_iff.1 (by rw [hk]; exact dig_length_add m n))

theorem subRow_all (m n : Nat) (h : n ≤ m) : val (rowAt sSub tSub (dig m) (dig n) (dig m).length) = m - n := by
  have h1 := subRow_val (small_dig m) (small_dig n) (dig m).length
  have hl := dig_length_mono h
  rw [valTo_big (Nat.le_refl _), valTo_big hl] at h1
  have hlt := Nat.lt_of_lt_of_le (val_lt (rowAt_small subLaw (small_dig m) (small_dig n) (dig m).length)) (Nat.pow_le_pow_right (by omega) (Nat.le_of_eq (rowAt_length _ _ _ _ _)))
  generalize 4294967296 ^ (dig m).length = P at *
  have hc : carryAt sSub tSub (dig m) (dig n) (dig m).length = 0 := by
    apply Nat.eq_zero_of_not_pos
    intro hp
    have := Nat.le_mul_of_pos_right P hp
    omega
  rw [hc] at h1
  omega

set_option maxHeartbeats 400000 in
set_option maxRecDepth 100000 in
theorem add_any (v v' : Value) (m n : Nat) (w : World) (h : NatV w v m) (h' : NatV w v' n) (hm : Big m) (hn : Big n) :
    Calls Tryz.prog 83 #[v, v'] w (RNat w (m + n)) := by
  unfold Big at hm hn
  have HC : Hid (Calls Tryz.prog 100 #[v, v', .int .i64 ((max (dig m).length (dig n).length + 1 : Nat) : Int), .func (.func 96) #[] #[]] w (RNat w (m + n))) := by
    have := callsIn_wide.1 (all_any _ _ _ addLaw v v' (dig m) (dig n) (max (dig m).length (dig n).length + 1) w h h' (small_dig m) (small_dig n) (by omega) (by omega) (by omega))
    rw [addRow_all m n _ rfl] at this
    exact this
  obtain ⟨o, cap, rfl, _, _⟩ := h.slice
  obtain ⟨o', cap', rfl, _, _⟩ := h'.slice
  clear h h'
  generalize (dig m).length = lm at *
  generalize (dig n).length = ln at *
  go_enter Tryz.func83, Tryz.ntmps83
  go_wp2_with fail
  rw [show (max (lm : Int) ln + 1) = ((max lm ln + 1 : Nat) : Int) from by omega]
  refine HC.out.mono ?_
  rintro e w1 ⟨v1, rfl, hv1, hb1⟩
  have HV := Lib.hid hv1
  have HB := Lib.hid hb1
  clear hv1 hb1
  go_wp2
  go_ret
  exact ⟨_, rfl, HV.out, HB.out⟩

/-- A row and a bool. -/
def RNatB (w : World) (n : Nat) (b : Bool) (e : Ending) (w' : World) : Prop := ∃ v, e = .returned (.tuple #[v, .bool b]) ∧ NatV w' v n ∧ Below w.heap.size w w'

theorem natV_drawn {w w' : World} {v : Value} {n : Nat} (h : NatV w v n) (d : Drawn w w') : NatV w' v n := h.below (d.below _)

set_option maxHeartbeats 400000 in
set_option maxRecDepth 100000 in
theorem sub_any (v v' : Value) (m n : Nat) (w : World) (h : NatV w v m) (h' : NatV w v' n) (hm : Big m) (hn : Big n) :
    Calls Tryz.prog 85 #[v, v'] w (RNatB w (m - n) (decide (n ≤ m))) := by
  unfold Big at hm hn
  have HC := Lib.hid (cmp_any v v' m n w h h' (by omega) (by omega))
  have HA : ∀ w', Drawn w w' → n ≤ m → Hid (Calls Tryz.prog 100 #[v, v', .int .i64 ((dig m).length : Nat), .func (.func 95) #[] #[]] w' (RNat w' (m - n))) := fun w' d hle => by
    have := callsIn_wide.1 (all_any _ _ _ subLaw v v' (dig m) (dig n) (dig m).length w' (natV_drawn h d) (natV_drawn h' d) (small_dig m) (small_dig n) (by omega) (by omega) (by omega))
    rw [subRow_all m n hle] at this
    exact this
  obtain ⟨o, cap, rfl, _, _⟩ := h.slice
  obtain ⟨o', cap', rfl, _, _⟩ := h'.slice
  clear h h'
  have HA' := Lib.hid HA
  clear HA
  have HL := Lib.hid (@dig_length_mono n m)
  by_cases hlt : m < n
  · have hc : ncmp m n = -1 := by unfold ncmp; rw [if_pos hlt]
    have hd : decide (n ≤ m) = false := by simp; omega
    have hz : m - n = 0 := by omega
    rw [hd, hz]
    rw [hc] at HC
    clear hc hd hz
    generalize (dig m).length = lm at *
    generalize (dig n).length = ln at *
    go_enter Tryz.func85, Tryz.ntmps85
    go_wp2_with fail
    refine HC.out.mono ?_
    rintro e w1 ⟨rfl, d⟩
    have HD := Lib.hid d
    clear d
    go_wp2
    go_ret2
    exact ⟨_, rfl, natV_nil _, HD.out.below _⟩
  · have hd : decide (n ≤ m) = true := by simp; omega
    have hle : Hid (n ≤ m) := Lib.hid (by omega)
    have hc : 0 ≤ ncmp m n := by unfold ncmp; rw [if_neg hlt]; split <;> omega
    rw [hd]
    clear hd hlt
    generalize ncmp m n = c at *
    generalize (dig m).length = lm at *
    generalize (dig n).length = ln at *
    go_enter Tryz.func85, Tryz.ntmps85
    go_wp2_with fail
    refine HC.out.mono ?_
    rintro e w1 ⟨rfl, d⟩
    have HD := Lib.hid d
    clear d
    go_wp2_with fail
    refine (HA'.out _ HD.out hle.out).out.mono ?_
    rintro e w2 ⟨v2, rfl, hv2, hb2⟩
    have HV := Lib.hid hv2
    have HB := Lib.hid hb2
    clear hv2 hb2
    go_wp2
    go_ret2
    exact ⟨_, rfl, HV.out, (HD.out.below _).trans (HB.out.mono (by obtain ⟨k, rfl⟩ := HD.out; exact Nat.le_refl _))⟩
end Go.Proofs.YtckahcgolfnobaaGreatDoor
