/- Additions, subtractions, divisions of limbs; a limb of a row; which of two rows is less. -/
import Derived.Test.YtckahcgolfnobaaGreatDoorMake
namespace Go.Proofs.YtckahcgolfnobaaGreatDoor
open Go Go.RowKit

theorem ret_u2 {a b c d : Int} (h1 : a = c) (h2 : b = d) : Ending.returned (.tuple #[.int .u32 a, .int .u32 b]) = .returned (.tuple #[.int .u32 c, .int .u32 d]) := by rw [h1, h2]
theorem ret_i {k : IntKind} {a b : Int} (h : a = b) : Ending.returned (.int k a) = .returned (.int k b) := by rw [h]

set_option maxHeartbeats 400000 in
set_option maxRecDepth 100000 in
theorem add32_any (x y c : Nat) (w : World) (hx : x < 4294967296) (hy : y < 4294967296) (hc : c ≤ 1) :
    Calls Tryz.prog 96 #[.int .u32 x, .int .u32 y, .int .u32 c] w fun e w' => e = .returned (.tuple #[.int .u32 (((x + y + c) % 4294967296 : Nat) : Int), .int .u32 (((x + y + c) / 4294967296 : Nat) : Int)]) ∧ w = w' := by
  go_enter Tryz.func96, Tryz.ntmps96
  go_wp2
  go_ret2
  exact ⟨ret_u2 (by omega) (by omega), rfl⟩

theorem top_bit (v : Nat) (h : v < 4294967296) : v / 2147483648 = if v.testBit 31 then 1 else 0 := by
  rw [Nat.testBit_eq_decide_div_mod_eq]
  have : v / 2 ^ 31 = v / 2147483648 := rfl
  rw [this]
  by_cases hv : v / 2147483648 % 2 = 1
  · simp [hv]; omega
  · simp [hv]; omega

theorem test31 (v : Nat) (h : v < 4294967296) : v.testBit 31 = decide (2147483648 ≤ v) := by
  rw [Nat.testBit_eq_decide_div_mod_eq]
  have : v / 2 ^ 31 = v / 2147483648 := rfl
  rw [this]
  by_cases hv : 2147483648 ≤ v
  · simp [hv]; omega
  · simp [hv]; omega

theorem xor_lt32 {a b : Nat} (ha : a < 4294967296) (hb : b < 4294967296) : a ^^^ b < 4294967296 := Nat.xor_lt_two_pow (n := 32) ha hb
theorem and_lt32 {a b : Nat} (ha : a < 4294967296) : a &&& b < 4294967296 := Nat.lt_of_le_of_lt Nat.and_le_left ha
theorem or_lt32 {a b : Nat} (ha : a < 4294967296) (hb : b < 4294967296) : a ||| b < 4294967296 := Nat.or_lt_two_pow (n := 32) ha hb

theorem borrow_law (x y c d : Nat) (hx : x < 4294967296) (hy : y < 4294967296) (hc : c ≤ 1) (hd : d = (4294967296 + x - y - c) % 4294967296) :
    (((4294967295 ^^^ x) &&& y) ||| ((4294967295 ^^^ (x ^^^ y)) &&& d)) / 2147483648 = if x < y + c then 1 else 0 := by
  have hd2 : d < 4294967296 := by omega
  have h1 : 4294967295 ^^^ x < 4294967296 := xor_lt32 (by omega) hx
  have h2 : 4294967295 ^^^ (x ^^^ y) < 4294967296 := xor_lt32 (by omega) (xor_lt32 hx hy)
  rw [top_bit _ (or_lt32 (and_lt32 h1) (and_lt32 h2))]
  simp only [Nat.testBit_or, Nat.testBit_and, Nat.testBit_xor, test31 x hx, test31 y hy, test31 d hd2, test31 4294967295 (by omega)]
  by_cases a : 2147483648 ≤ x <;> by_cases b : 2147483648 ≤ y <;> by_cases e : 2147483648 ≤ d <;> simp [a, b, e] <;> omega

set_option maxHeartbeats 400000 in
set_option maxRecDepth 100000 in
theorem sub32_any (x y c : Nat) (w : World) (hx : x < 4294967296) (hy : y < 4294967296) (hc : c ≤ 1) :
    Calls Tryz.prog 95 #[.int .u32 x, .int .u32 y, .int .u32 c] w fun e w' => e = .returned (.tuple #[.int .u32 (((4294967296 + x - y - c) % 4294967296 : Nat) : Int), .int .u32 ((if x < y + c then 1 else 0 : Nat) : Int)]) ∧ w = w' := by
  have hlaw := Lib.hid (borrow_law x y c _ hx hy hc rfl)
  obtain ⟨br, hbr⟩ : ∃ br : Nat, br = if x < y + c then 1 else 0 := ⟨_, rfl⟩
  rw [← hbr]
  have HB := Lib.hid hbr
  clear hbr
  go_enter Tryz.func95, Tryz.ntmps95
  go_wp2
  go_ret2
  refine ⟨ret_u2 (by omega) ?_, rfl⟩
  have hd : ((x : Int) - y - c) % 4294967296 = (((4294967296 + x - y - c) % 4294967296 : Nat) : Int) := by omega
  rw [hd]
  have hm : IntKind.u32.max = ((4294967295 : Nat) : Int) := by decide
  rw [hm]
  have hd2 : (4294967296 + x - y - c) % 4294967296 < 4294967296 := by omega
  have h1 : 4294967295 ^^^ x < 4294967296 := xor_lt32 (by omega) hx
  have h2 : 4294967295 ^^^ (x ^^^ y) < 4294967296 := xor_lt32 (by omega) (xor_lt32 hx hy)
  rw [u32_xor_nat x y hx hy, u32_xor_nat 4294967295 x (by omega) hx, u32_xor_nat 4294967295 _ (by omega) (xor_lt32 hx hy), u32_and_nat _ _ h1 hy, u32_and_nat _ _ h2 hd2, u32_or_nat _ _ (and_lt32 h1) (and_lt32 h2)]
  have := hlaw.out
  rw [← HB.out] at this
  omega

set_option maxHeartbeats 400000 in
set_option maxRecDepth 100000 in
theorem div32_any (hi lo m : Nat) (w : World) (hm : m < 4294967296) (hlo : lo < 4294967296) (hhi : hi < m) :
    Calls Tryz.prog 93 #[.int .u32 hi, .int .u32 lo, .int .u32 m] w fun e w' => e = .returned (.tuple #[.int .u32 (((hi * 4294967296 + lo) / m : Nat) : Int), .int .u32 (((hi * 4294967296 + lo) % m : Nat) : Int)]) ∧ ∃ k, w' = w.drewN k := by
  have h0 : ((m : Int) != 0) = true := by simp; omega
  have h1 : decide (m ≤ hi) = false := by simp; omega
  have h2 : bits .or .u64 ((hi : Int) * 4294967296) (lo : Int) = ((hi * 4294967296 + lo : Nat) : Int) := by
    rw [show ((hi : Int) * 4294967296) = ((hi * 4294967296 : Nat) : Int) from by omega, u64_or_nat _ _ (by omega) (by omega), nat_join 32 _ _ (by omega) (by omega)]
  go_enter Tryz.func93, Tryz.ntmps93
  go_wp2
  have h3 : 1 ≤ m := by omega
  go_quiet (fail)
  go_wp2
  go_ret2
  have hq : (hi * 4294967296 + lo) / m < 4294967296 := by
    rw [Nat.div_lt_iff_lt_mul h3]
    have : (hi + 1) * 4294967296 ≤ m * 4294967296 := Nat.mul_le_mul_right _ hhi
    omega
  have hr : (hi * 4294967296 + lo) % m < m := Nat.mod_lt _ h3
  have e1 : ((hi : Int) * 4294967296 + lo) / m = (((hi * 4294967296 + lo) / m : Nat) : Int) := by rw [Int.natCast_ediv]; simp
  have e2 : ((hi : Int) * 4294967296 + lo) % m = (((hi * 4294967296 + lo) % m : Nat) : Int) := by rw [Int.natCast_emod]; simp
  refine ⟨ret_u2 ?_ ?_, _, rfl⟩
  · rw [e1]
    generalize (hi * 4294967296 + lo) / m = q at hq
    clear e1 e2
    omega
  · rw [e2]
    generalize (hi * 4294967296 + lo) % m = q at hr
    clear e1 e2
    omega
end Go.Proofs.YtckahcgolfnobaaGreatDoor
