/- div.guess. -/
import Derived.Test.YtckahcgolfnobaaGreatDoorMul
import Derived.BigGuard
namespace Go.Proofs.YtckahcgolfnobaaGreatDoor
open Go Go.RowKit

/-- The guess: the greatest limb that fits. -/
def qhat (X Y : Nat) : Nat := min 4294967295 (X / Y)

structure GuI (X T Y y1 q r : Nat) : Prop where
  eq : q * y1 + r = T
  top : q ≤ 4294967297
  fits : ∀ p, p < 4294967296 → p * Y ≤ X → p ≤ q

theorem GuI.first {x2 x1 x0 y1 y0 : Nat} (h1 : x1 < 4294967296) (h0 : x0 < 4294967296) (hy : 2147483648 ≤ y1) (hy' : y1 < 4294967296) (hx : x2 ≤ y1) :
    GuI ((x2 * 4294967296 + x1) * 4294967296 + x0) (x2 * 4294967296 + x1) (y1 * 4294967296 + y0) y1 ((x2 * 4294967296 + x1) / y1) ((x2 * 4294967296 + x1) % y1) := by
  refine ⟨by rw [Nat.mul_comm]; exact Nat.div_add_mod _ _, ?_, fun p hp hle => ?_⟩
  · rw [← Nat.lt_succ_iff, Nat.div_lt_iff_lt_mul (by omega)]
    have : x2 * 4294967296 ≤ y1 * 4294967296 := Nat.mul_le_mul_right _ hx
    omega
  · rw [Nat.le_div_iff_mul_le (by omega)]
    apply Nat.le_of_not_lt
    intro hlt
    have : (x2 * 4294967296 + x1 + 1) * 4294967296 ≤ p * y1 * 4294967296 := Nat.mul_le_mul_right _ hlt
    rw [Nat.mul_add, ← Nat.mul_assoc] at hle
    omega

theorem GuI.less {X T Y x0 y1 y0 q r : Nat} (h : GuI X T Y y1 q r) (hX : X = T * 4294967296 + x0) (hY : Y = y1 * 4294967296 + y0) (hc : 4294967296 ≤ q ∨ r * 4294967296 + x0 < q * y0) :
    0 < q ∧ GuI X T Y y1 (q - 1) (r + y1) := by
  have hq : 0 < q := by
    rcases hc with h | h
    · omega
    · apply Nat.pos_of_ne_zero
      rintro rfl
      simp at h
  refine ⟨hq, ?_, by have := h.top; omega, fun p hp hle => ?_⟩
  · have := h.eq
    obtain ⟨k, rfl⟩ : ∃ k, q = k + 1 := ⟨q - 1, by omega⟩
    rw [Nat.add_sub_cancel]; rw [Nat.add_mul] at this; omega
  · have h1 := h.fits p hp hle
    apply Nat.le_sub_one_of_lt
    apply Nat.lt_of_le_of_ne h1
    rintro rfl
    rcases hc with hc | hc
    · omega
    · have := h.eq
      rw [hX, hY, Nat.mul_add, ← Nat.mul_assoc, ← this, Nat.add_mul] at hle
      omega

theorem GuI.last {X T Y x0 y1 y0 q r : Nat} (h : GuI X T Y y1 q r) (hX : X = T * 4294967296 + x0) (hY : Y = y1 * 4294967296 + y0) (h1 : q < 4294967296) (h2 : q * y0 ≤ r * 4294967296 + x0) (hY0 : 0 < Y) : q = qhat X Y := by
  have h3 := h.eq
  have h4 : q * Y ≤ X := by
    rw [hX, hY, Nat.mul_add, ← Nat.mul_assoc, ← h3, Nat.add_mul]
    omega
  unfold qhat
  apply Nat.le_antisymm
  · apply Nat.le_min.2
    exact ⟨by omega, (Nat.le_div_iff_mul_le hY0).2 h4⟩
  · apply h.fits
    · omega
    · have : min 4294967295 (X / Y) ≤ X / Y := Nat.min_le_right _ _
      exact Nat.le_trans (Nat.mul_le_mul_right _ this) (Nat.div_mul_le_self _ _)

/-- Where the loop is broken off: q and r behind it. -/
theorem GuI.broken {x2 x1 x0 y1 y0 q r : Nat} (h : GuI ((x2 * 4294967296 + x1) * 4294967296 + x0) (x2 * 4294967296 + x1) (y1 * 4294967296 + y0) y1 q r) (hx : x2 ≤ y1) (h1 : x1 < 4294967296) (hy0 : y0 < 4294967296) (hr : 4294967296 ≤ r) (hy : 2147483648 ≤ y1) :
    q = qhat ((x2 * 4294967296 + x1) * 4294967296 + x0) (y1 * 4294967296 + y0) := by
  have hq : q < 4294967296 := by
    apply Nat.lt_of_not_le
    intro hle
    have h3 := h.eq
    have h4 : 4294967296 * y1 ≤ q * y1 := Nat.mul_le_mul_right _ hle
    have h5 : x2 * 4294967296 ≤ y1 * 4294967296 := Nat.mul_le_mul_right _ hx
    omega
  refine h.last rfl rfl hq ?_ (by omega)
  have h6 : q * y0 ≤ 4294967295 * 4294967295 := Nat.mul_le_mul (by omega) (by omega)
  have h7 : 4294967296 * 4294967296 ≤ r * 4294967296 := Nat.mul_le_mul_right _ hr
  omega

theorem u64_mul {a b : Nat} (h : a * b < 18446744073709551616) : IntKind.u64.wrap ((a : Int) * b) = ((a * b : Nat) : Int) := by
  rw [IntKind.wrap_u64, ← Int.natCast_mul]; omega

set_option maxHeartbeats 400000 in
set_option maxRecDepth 100000 in
theorem guess_any (x2 x1 x0 y1 y0 : Nat) (w : World) (h1 : x1 < 4294967296) (h0 : x0 < 4294967296) (hy : 2147483648 ≤ y1) (hy' : y1 < 4294967296) (hy0 : y0 < 4294967296) (hx : x2 ≤ y1) :
    Calls Tryz.prog 72 #[.int .u32 x2, .int .u32 x1, .int .u32 x0, .int .u32 y1, .int .u32 y0] w fun e w' => e = .returned (.int .u64 (qhat ((x2 * 4294967296 + x1) * 4294967296 + x0) (y1 * 4294967296 + y0) : Nat)) ∧ Drawn w w' := by
  have hI := Lib.hid (GuI.first (y0 := y0) h1 h0 hy hy' hx)
  have e1 := u64_join (r := x2) (x := x1) (by omega) h1
  obtain ⟨T, hT⟩ : ∃ T, T = x2 * 4294967296 + x1 := ⟨_, rfl⟩
  rw [← hT] at e1 hI ⊢
  have hTT : T < 18446744073709551616 := by omega
  have HT := Lib.hid hT
  clear hT
  go_enter Tryz.func72, Tryz.ntmps72
  go_wp2
  go_step3
  go_wp2
  go_quiet (fail)
  go_wp2
  go_step3
  go_wp2
  have hq0 : IntKind.u64.wrap ((T : Int) / y1) = ((T / y1 : Nat) : Int) := by
    have := Nat.div_le_self T y1
    rw [show ((T : Int) / y1) = ((T / y1 : Nat) : Int) from rfl, IntKind.wrap_u64]
    generalize T / y1 = z at *
    omega
  simp only [hq0]
  go_loopw [12, 13] (fun qv rv wr => ∃ q r : Nat, qv = .int .u64 q ∧ rv = .int .u64 r ∧ r < 4294967296 ∧ Hid (Drawn w wr) ∧ Hid (GuI (T * 4294967296 + x0) T (y1 * 4294967296 + y0) y1 q r)) (fun qv _ _ => (intOf qv).toNat)
  case atStart => exact ⟨T / y1, T % y1, rfl, rfl, Nat.lt_trans (Nat.mod_lt _ (by omega)) hy', Lib.hid ⟨_, rfl⟩, hI⟩
  case round =>
    clear hI hq0
    obtain ⟨q, r, rfl, rfl, hr, hD, hG⟩ := hrel
    have ht := hG.out.top
    have ej := u64_join hr h0
    by_cases hq : 4294967296 ≤ q
    · have hL := Lib.hid (hG.out.less rfl rfl (.inl hq))
      have hqd : decide ((4294967296 : Int) ≤ (q : Int)) = true := by simp; omega
      have hq1 : 0 < q := by omega
      have HQ := Lib.hid hq
      clear hq
      by_cases hb : 4294967296 ≤ r + y1
      · have hB := Lib.hid (GuI.broken (by rw [← HT.out]; exact hL.out.2) hx h1 hy0 hb hy)
        rw [← HT.out] at hB
        have hbd : decide ((4294967296 : Int) ≤ (r : Int) + y1) = true := by simp; omega
        have HBB := Lib.hid hb
        clear hb
        go_wp2
        simp only [Exit.noGoto_ret]
        go_ret
        exact ⟨by rw [← hB.out]; exact ret_i (by have := HQ.out; omega), hD.out⟩
      · have hbd : decide ((4294967296 : Int) ≤ (r : Int) + y1) = false := by simp; omega
        have HBB := Lib.hid hb
        clear hb
        go_wp2
        go_roundw
        case rel => exact ⟨q - 1, r + y1, by go_num, by go_num, by have := HBB.out; omega, hD, Lib.hid hL.out.2⟩
        case measure => simp [intOf]; omega
    · have hqy : q * y0 ≤ 4294967295 * 4294967295 := Nat.mul_le_mul (by omega) (by omega)
      have em := u64_mul (a := q) (b := y0) (by omega)
      have hqd : decide ((4294967296 : Int) ≤ (q : Int)) = false := by simp; omega
      have HQ := Lib.hid hq
      by_cases hc : r * 4294967296 + x0 < q * y0
      · have hL := Lib.hid (hG.out.less rfl rfl (.inr hc))
        have hcd : decide (r * 4294967296 + x0 < q * y0) = true := by simp only [decide_eq_true_eq]; exact hc
        have hq1 := hL.out.1
        clear hqy hc hq
        obtain ⟨Z, hZ⟩ : ∃ Z, Z = q * y0 := ⟨_, rfl⟩
        obtain ⟨R, hR⟩ : ∃ R, R = r * 4294967296 + x0 := ⟨_, rfl⟩
        rw [← hZ] at em hcd
        rw [← hR] at ej hcd
        clear hZ hR
        by_cases hb : 4294967296 ≤ r + y1
        · have hB := Lib.hid (GuI.broken (by rw [← HT.out]; exact hL.out.2) hx h1 hy0 hb hy)
          rw [← HT.out] at hB
          have hbd : decide ((4294967296 : Int) ≤ (r : Int) + y1) = true := by simp; omega
          have HBB := Lib.hid hb
          clear hb
          go_wp2
          simp only [Exit.noGoto_ret]
          go_ret
          exact ⟨by rw [← hB.out]; exact ret_i (by omega), hD.out⟩
        · have hbd : decide ((4294967296 : Int) ≤ (r : Int) + y1) = false := by simp; omega
          have HBB := Lib.hid hb
          clear hb
          go_wp2
          go_roundw
          case rel => exact ⟨q - 1, r + y1, by go_num, by go_num, by have := HBB.out; omega, hD, Lib.hid hL.out.2⟩
          case measure => simp [intOf]; omega
      · have hL := Lib.hid (hG.out.last rfl rfl (by omega) (by omega) (by omega))
        have hcd : decide (r * 4294967296 + x0 < q * y0) = false := by simp only [decide_eq_false_iff_not]; exact hc
        clear hqy hc hq
        obtain ⟨Z, hZ⟩ : ∃ Z, Z = q * y0 := ⟨_, rfl⟩
        obtain ⟨R, hR⟩ : ∃ R, R = r * 4294967296 + x0 := ⟨_, rfl⟩
        rw [← hZ] at em hcd
        rw [← hR] at ej hcd
        clear hZ hR
        go_wp2
        simp only [Exit.noGoto_ret]
        go_ret
        exact ⟨by rw [← hL.out]; exact ret_i rfl, hD.out⟩
end Go.Proofs.YtckahcgolfnobaaGreatDoor
