/- mul.Karatsuba. -/
import Derived.Test.YtckahcgolfnobaaGreatDoorArm
namespace Go.Proofs.YtckahcgolfnobaaGreatDoor
open Go Go.RowKit

theorem kara_law (m n k : Nat) : m % 4294967296 ^ k * (n % 4294967296 ^ k) + (((m % 4294967296 ^ k + m / 4294967296 ^ k) * (n % 4294967296 ^ k + n / 4294967296 ^ k) - (m % 4294967296 ^ k * (n % 4294967296 ^ k) + m / 4294967296 ^ k * (n / 4294967296 ^ k))) * 2 ^ (32 * k) + m / 4294967296 ^ k * (n / 4294967296 ^ k) * 2 ^ (64 * k)) = m * n := by
  have hm := Nat.mod_add_div m (4294967296 ^ k)
  have hn := Nat.mod_add_div n (4294967296 ^ k)
  have e1 : 2 ^ (32 * k) = 4294967296 ^ k := by rw [Nat.pow_mul]
  have e2 : 2 ^ (64 * k) = 4294967296 ^ k * 4294967296 ^ k := by rw [show 64 * k = 32 * k + 32 * k by omega, Nat.pow_add, e1]
  rw [e1, e2]
  generalize 4294967296 ^ k = P at *
  generalize m % P = a0 at *
  generalize m / P = a1 at *
  generalize n % P = b0 at *
  generalize n / P = b1 at *
  have e3 : (a0 + a1) * (b0 + b1) - (a0 * b0 + a1 * b1) = a0 * b1 + a1 * b0 := by
    have : (a0 + a1) * (b0 + b1) = (a0 * b1 + a1 * b0) + (a0 * b0 + a1 * b1) := by grind
    rw [this, Nat.add_sub_cancel]
  rw [e3, ← hm, ← hn]
  grind

theorem len_lt {m k : Nat} (h : m < 4294967296 ^ k) : (dig m).length ≤ k := dig_length_le h
theorem lt_pow_len {m k : Nat} (h : (dig m).length ≤ k) : m < 4294967296 ^ k := dig_length_le_iff.1 h
theorem len_mod (m k : Nat) : (dig (m % 4294967296 ^ k)).length ≤ k := len_lt (Nat.mod_lt _ (Nat.pow_pos (by omega)))
theorem len_div {m k N : Nat} (h : (dig m).length ≤ N) (hk : k ≤ N) : (dig (m / 4294967296 ^ k)).length ≤ N - k := by
  apply len_lt
  rw [Nat.div_lt_iff_lt_mul (Nat.pow_pos (by omega)), ← Nat.pow_add, Nat.sub_add_cancel hk]
  exact lt_pow_len h
theorem len_add {m n k : Nat} (h : (dig m).length ≤ k) (h' : (dig n).length ≤ k) : (dig (m + n)).length ≤ k + 1 := by
  have := dig_length_add m n
  omega
theorem len_mul {m n k j : Nat} (h : (dig m).length ≤ k) (h' : (dig n).length ≤ j) : (dig (m * n)).length ≤ k + j := by
  apply len_lt
  rw [Nat.pow_add]
  exact Nat.mul_lt_mul'' (lt_pow_len h) (lt_pow_len h')
theorem len_le {m n k : Nat} (h : m ≤ n) (h' : (dig n).length ≤ k) : (dig m).length ≤ k := Nat.le_trans (dig_length_mono h) h'
theorem len_shl {m k j : Nat} (h : (dig m).length ≤ k) : (dig (m * 2 ^ (32 * j))).length ≤ k + j := by
  rw [Nat.pow_mul]
  apply len_lt
  rw [Nat.pow_add]
  exact Nat.mul_lt_mul_of_pos_right (lt_pow_len h) (Nat.pow_pos (by omega))

theorem part0 (m k : Nat) : m / 4294967296 ^ 0 % 4294967296 ^ (k - 0) = m % 4294967296 ^ k := by simp
theorem part1 {m k N : Nat} (h : (dig m).length ≤ N) (hk : k ≤ N) : m / 4294967296 ^ k % 4294967296 ^ (N - k) = m / 4294967296 ^ k :=
  Nat.mod_eq_of_lt (lt_pow_len (len_div h hk))

set_option maxHeartbeats 400000 in
set_option maxRecDepth 100000 in
theorem kara_few (oa ob : Option Addr) (la lb ca cb m n : Nat) (w : World) (h : NatV w (.slice oa la ca) m) (h' : NatV w (.slice ob lb cb) n) (hla : (dig m).length = la) (hlb : (dig n).length = lb) (hmn : la + lb ≤ 1073741824) (hmin : min la lb < 4) :
    Calls Tryz.prog 89 #[.slice oa la ca, .slice ob lb cb] w (RNat w (m * n)) := by
  have HS := Lib.hid (school_any _ _ m n w h h' (by omega))
  have e1 : max (la : Int) lb = (max la lb : Nat) := by omega
  have e2 : min (la : Int) lb = (min la lb : Nat) := by omega
  have e3 : decide (((min la lb : Nat) : Int) < 4) = true := by simp; omega
  have e4 : decide ((min la lb : Nat) < 4) = true := by simp; omega
  clear h h' hla hlb
  generalize min la lb = mn at *
  generalize max la lb = mx at *
  go_enter Tryz.func89, Tryz.ntmps89
  go_wp2_with ((go_at_call 90; (with_reducible refine (HS.out).mono ?_)); rintro e w1 ⟨v1, rfl, hv1, hb1⟩)
  go_ret
  exact ⟨_, rfl, hv1, hb1⟩

set_option maxHeartbeats 400000 in
set_option maxRecDepth 100000 in
theorem kara_walk (oa ob : Option Addr) (la lb ca cb m n k N a0 a1 b0 b1 mid : Nat) (w : World) (h : NatV w (.slice oa la ca) m) (h' : NatV w (.slice ob lb cb) n)
    (hN : max la lb = N) (hk : (N + 1) / 2 = k) (hb : N ≤ 1048576) (hmin : 4 ≤ min la lb)
    (P1 : C1ii 101 m 0 k a0) (P2 : C1ii 101 m k N a1)
    (P3 : C1ii 101 n 0 k b0) (P4 : C1ii 101 n k N b1)
    (R1 : C2 89 a0 b0 (a0 * b0)) (R2 : C2 89 a1 b1 (a1 * b1)) (R3 : C2 89 (a0 + a1) (b0 + b1) ((a0 + a1) * (b0 + b1)))
    (A1 : C2 83 a0 a1 (a0 + a1)) (A2 : C2 83 b0 b1 (b0 + b1)) (A3 : C2 83 (a0 * b0) (a1 * b1) (a0 * b0 + a1 * b1))
    (L1 : C2 106 ((a0 + a1) * (b0 + b1)) (a0 * b0 + a1 * b1) mid)
    (S1 : C1i 71 mid (32 * k : Int) (mid * 2 ^ (32 * k))) (S2 : C1i 71 (a1 * b1) (64 * k : Int) (a1 * b1 * 2 ^ (64 * k)))
    (A4 : C2 83 (mid * 2 ^ (32 * k)) (a1 * b1 * 2 ^ (64 * k)) (mid * 2 ^ (32 * k) + a1 * b1 * 2 ^ (64 * k)))
    (A5 : C2 83 (a0 * b0) (mid * 2 ^ (32 * k) + a1 * b1 * 2 ^ (64 * k)) (m * n)) :
    Calls Tryz.prog 89 #[.slice oa la ca, .slice ob lb cb] w (RNat w (m * n)) := by
  have e1 : max (la : Int) lb = N := by omega
  have e2 : min (la : Int) lb = (min la lb : Nat) := by omega
  have e3 : decide (((min la lb : Nat) : Int) < 4) = false := by simp; omega
  have e4 : decide ((min la lb : Nat) < 4) = false := by simp; omega
  have e5 : ((N : Int) + 1) / 2 = k := by omega
  have hk2 : k ≤ 1048576 := by omega
  clear hN hk hmin
  generalize min la lb = mn at *
  go_enter Tryz.func89, Tryz.ntmps89
  go_wp2_with first
    | ((go_at_call 101; (with_reducible refine ((P1).out _ _ (by (with_reducible (repeat ((fail_if_success assumption); first | refine NatV.fol ?_ (by assumption) | refine IntV.fol ?_ (by assumption) | refine Sl.fol ?_ (by assumption) | refine NatV.fol ?_ (Fol.new _ _) | refine IntV.fol ?_ (Fol.new _ _) | refine Sl.fol ?_ (Fol.new _ _) | refine NatV.fol ?_ (Fol.draw _) | refine IntV.fol ?_ (Fol.draw _) | refine Sl.fol ?_ (Fol.draw _))); assumption))).mono ?_)); rintro e wN ⟨vN, rfl, hN, bN⟩) | ((go_at_call 101; (with_reducible refine ((P2).out _ _ (by (with_reducible (repeat ((fail_if_success assumption); first | refine NatV.fol ?_ (by assumption) | refine IntV.fol ?_ (by assumption) | refine Sl.fol ?_ (by assumption) | refine NatV.fol ?_ (Fol.new _ _) | refine IntV.fol ?_ (Fol.new _ _) | refine Sl.fol ?_ (Fol.new _ _) | refine NatV.fol ?_ (Fol.draw _) | refine IntV.fol ?_ (Fol.draw _) | refine Sl.fol ?_ (Fol.draw _))); assumption))).mono ?_)); rintro e wN ⟨vN, rfl, hN, bN⟩) | ((go_at_call 101; (with_reducible refine ((P3).out _ _ (by (with_reducible (repeat ((fail_if_success assumption); first | refine NatV.fol ?_ (by assumption) | refine IntV.fol ?_ (by assumption) | refine Sl.fol ?_ (by assumption) | refine NatV.fol ?_ (Fol.new _ _) | refine IntV.fol ?_ (Fol.new _ _) | refine Sl.fol ?_ (Fol.new _ _) | refine NatV.fol ?_ (Fol.draw _) | refine IntV.fol ?_ (Fol.draw _) | refine Sl.fol ?_ (Fol.draw _))); assumption))).mono ?_)); rintro e wN ⟨vN, rfl, hN, bN⟩) | ((go_at_call 101; (with_reducible refine ((P4).out _ _ (by (with_reducible (repeat ((fail_if_success assumption); first | refine NatV.fol ?_ (by assumption) | refine IntV.fol ?_ (by assumption) | refine Sl.fol ?_ (by assumption) | refine NatV.fol ?_ (Fol.new _ _) | refine IntV.fol ?_ (Fol.new _ _) | refine Sl.fol ?_ (Fol.new _ _) | refine NatV.fol ?_ (Fol.draw _) | refine IntV.fol ?_ (Fol.draw _) | refine Sl.fol ?_ (Fol.draw _))); assumption))).mono ?_)); rintro e wN ⟨vN, rfl, hN, bN⟩)
    | ((go_at_call 89; (with_reducible refine ((R1).out _ _ _ (by (with_reducible (repeat ((fail_if_success assumption); first | refine NatV.fol ?_ (by assumption) | refine IntV.fol ?_ (by assumption) | refine Sl.fol ?_ (by assumption) | refine NatV.fol ?_ (Fol.new _ _) | refine IntV.fol ?_ (Fol.new _ _) | refine Sl.fol ?_ (Fol.new _ _) | refine NatV.fol ?_ (Fol.draw _) | refine IntV.fol ?_ (Fol.draw _) | refine Sl.fol ?_ (Fol.draw _))); assumption)) (by (with_reducible (repeat ((fail_if_success assumption); first | refine NatV.fol ?_ (by assumption) | refine IntV.fol ?_ (by assumption) | refine Sl.fol ?_ (by assumption) | refine NatV.fol ?_ (Fol.new _ _) | refine IntV.fol ?_ (Fol.new _ _) | refine Sl.fol ?_ (Fol.new _ _) | refine NatV.fol ?_ (Fol.draw _) | refine IntV.fol ?_ (Fol.draw _) | refine Sl.fol ?_ (Fol.draw _))); assumption))).mono ?_)); rintro e wN ⟨vN, rfl, hN, bN⟩) | ((go_at_call 89; (with_reducible refine ((R2).out _ _ _ (by (with_reducible (repeat ((fail_if_success assumption); first | refine NatV.fol ?_ (by assumption) | refine IntV.fol ?_ (by assumption) | refine Sl.fol ?_ (by assumption) | refine NatV.fol ?_ (Fol.new _ _) | refine IntV.fol ?_ (Fol.new _ _) | refine Sl.fol ?_ (Fol.new _ _) | refine NatV.fol ?_ (Fol.draw _) | refine IntV.fol ?_ (Fol.draw _) | refine Sl.fol ?_ (Fol.draw _))); assumption)) (by (with_reducible (repeat ((fail_if_success assumption); first | refine NatV.fol ?_ (by assumption) | refine IntV.fol ?_ (by assumption) | refine Sl.fol ?_ (by assumption) | refine NatV.fol ?_ (Fol.new _ _) | refine IntV.fol ?_ (Fol.new _ _) | refine Sl.fol ?_ (Fol.new _ _) | refine NatV.fol ?_ (Fol.draw _) | refine IntV.fol ?_ (Fol.draw _) | refine Sl.fol ?_ (Fol.draw _))); assumption))).mono ?_)); rintro e wN ⟨vN, rfl, hN, bN⟩) | ((go_at_call 89; (with_reducible refine ((R3).out _ _ _ (by (with_reducible (repeat ((fail_if_success assumption); first | refine NatV.fol ?_ (by assumption) | refine IntV.fol ?_ (by assumption) | refine Sl.fol ?_ (by assumption) | refine NatV.fol ?_ (Fol.new _ _) | refine IntV.fol ?_ (Fol.new _ _) | refine Sl.fol ?_ (Fol.new _ _) | refine NatV.fol ?_ (Fol.draw _) | refine IntV.fol ?_ (Fol.draw _) | refine Sl.fol ?_ (Fol.draw _))); assumption)) (by (with_reducible (repeat ((fail_if_success assumption); first | refine NatV.fol ?_ (by assumption) | refine IntV.fol ?_ (by assumption) | refine Sl.fol ?_ (by assumption) | refine NatV.fol ?_ (Fol.new _ _) | refine IntV.fol ?_ (Fol.new _ _) | refine Sl.fol ?_ (Fol.new _ _) | refine NatV.fol ?_ (Fol.draw _) | refine IntV.fol ?_ (Fol.draw _) | refine Sl.fol ?_ (Fol.draw _))); assumption))).mono ?_)); rintro e wN ⟨vN, rfl, hN, bN⟩)
    | ((go_at_call 83; (with_reducible refine ((A1).out _ _ _ (by (with_reducible (repeat ((fail_if_success assumption); first | refine NatV.fol ?_ (by assumption) | refine IntV.fol ?_ (by assumption) | refine Sl.fol ?_ (by assumption) | refine NatV.fol ?_ (Fol.new _ _) | refine IntV.fol ?_ (Fol.new _ _) | refine Sl.fol ?_ (Fol.new _ _) | refine NatV.fol ?_ (Fol.draw _) | refine IntV.fol ?_ (Fol.draw _) | refine Sl.fol ?_ (Fol.draw _))); assumption)) (by (with_reducible (repeat ((fail_if_success assumption); first | refine NatV.fol ?_ (by assumption) | refine IntV.fol ?_ (by assumption) | refine Sl.fol ?_ (by assumption) | refine NatV.fol ?_ (Fol.new _ _) | refine IntV.fol ?_ (Fol.new _ _) | refine Sl.fol ?_ (Fol.new _ _) | refine NatV.fol ?_ (Fol.draw _) | refine IntV.fol ?_ (Fol.draw _) | refine Sl.fol ?_ (Fol.draw _))); assumption))).mono ?_)); rintro e wN ⟨vN, rfl, hN, bN⟩) | ((go_at_call 83; (with_reducible refine ((A2).out _ _ _ (by (with_reducible (repeat ((fail_if_success assumption); first | refine NatV.fol ?_ (by assumption) | refine IntV.fol ?_ (by assumption) | refine Sl.fol ?_ (by assumption) | refine NatV.fol ?_ (Fol.new _ _) | refine IntV.fol ?_ (Fol.new _ _) | refine Sl.fol ?_ (Fol.new _ _) | refine NatV.fol ?_ (Fol.draw _) | refine IntV.fol ?_ (Fol.draw _) | refine Sl.fol ?_ (Fol.draw _))); assumption)) (by (with_reducible (repeat ((fail_if_success assumption); first | refine NatV.fol ?_ (by assumption) | refine IntV.fol ?_ (by assumption) | refine Sl.fol ?_ (by assumption) | refine NatV.fol ?_ (Fol.new _ _) | refine IntV.fol ?_ (Fol.new _ _) | refine Sl.fol ?_ (Fol.new _ _) | refine NatV.fol ?_ (Fol.draw _) | refine IntV.fol ?_ (Fol.draw _) | refine Sl.fol ?_ (Fol.draw _))); assumption))).mono ?_)); rintro e wN ⟨vN, rfl, hN, bN⟩) | ((go_at_call 83; (with_reducible refine ((A3).out _ _ _ (by (with_reducible (repeat ((fail_if_success assumption); first | refine NatV.fol ?_ (by assumption) | refine IntV.fol ?_ (by assumption) | refine Sl.fol ?_ (by assumption) | refine NatV.fol ?_ (Fol.new _ _) | refine IntV.fol ?_ (Fol.new _ _) | refine Sl.fol ?_ (Fol.new _ _) | refine NatV.fol ?_ (Fol.draw _) | refine IntV.fol ?_ (Fol.draw _) | refine Sl.fol ?_ (Fol.draw _))); assumption)) (by (with_reducible (repeat ((fail_if_success assumption); first | refine NatV.fol ?_ (by assumption) | refine IntV.fol ?_ (by assumption) | refine Sl.fol ?_ (by assumption) | refine NatV.fol ?_ (Fol.new _ _) | refine IntV.fol ?_ (Fol.new _ _) | refine Sl.fol ?_ (Fol.new _ _) | refine NatV.fol ?_ (Fol.draw _) | refine IntV.fol ?_ (Fol.draw _) | refine Sl.fol ?_ (Fol.draw _))); assumption))).mono ?_)); rintro e wN ⟨vN, rfl, hN, bN⟩) | ((go_at_call 83; (with_reducible refine ((A4).out _ _ _ (by (with_reducible (repeat ((fail_if_success assumption); first | refine NatV.fol ?_ (by assumption) | refine IntV.fol ?_ (by assumption) | refine Sl.fol ?_ (by assumption) | refine NatV.fol ?_ (Fol.new _ _) | refine IntV.fol ?_ (Fol.new _ _) | refine Sl.fol ?_ (Fol.new _ _) | refine NatV.fol ?_ (Fol.draw _) | refine IntV.fol ?_ (Fol.draw _) | refine Sl.fol ?_ (Fol.draw _))); assumption)) (by (with_reducible (repeat ((fail_if_success assumption); first | refine NatV.fol ?_ (by assumption) | refine IntV.fol ?_ (by assumption) | refine Sl.fol ?_ (by assumption) | refine NatV.fol ?_ (Fol.new _ _) | refine IntV.fol ?_ (Fol.new _ _) | refine Sl.fol ?_ (Fol.new _ _) | refine NatV.fol ?_ (Fol.draw _) | refine IntV.fol ?_ (Fol.draw _) | refine Sl.fol ?_ (Fol.draw _))); assumption))).mono ?_)); rintro e wN ⟨vN, rfl, hN, bN⟩) | ((go_at_call 83; (with_reducible refine ((A5).out _ _ _ (by (with_reducible (repeat ((fail_if_success assumption); first | refine NatV.fol ?_ (by assumption) | refine IntV.fol ?_ (by assumption) | refine Sl.fol ?_ (by assumption) | refine NatV.fol ?_ (Fol.new _ _) | refine IntV.fol ?_ (Fol.new _ _) | refine Sl.fol ?_ (Fol.new _ _) | refine NatV.fol ?_ (Fol.draw _) | refine IntV.fol ?_ (Fol.draw _) | refine Sl.fol ?_ (Fol.draw _))); assumption)) (by (with_reducible (repeat ((fail_if_success assumption); first | refine NatV.fol ?_ (by assumption) | refine IntV.fol ?_ (by assumption) | refine Sl.fol ?_ (by assumption) | refine NatV.fol ?_ (Fol.new _ _) | refine IntV.fol ?_ (Fol.new _ _) | refine Sl.fol ?_ (Fol.new _ _) | refine NatV.fol ?_ (Fol.draw _) | refine IntV.fol ?_ (Fol.draw _) | refine Sl.fol ?_ (Fol.draw _))); assumption))).mono ?_)); rintro e wN ⟨vN, rfl, hN, bN⟩)
    | ((go_at_call 106; (with_reducible refine ((L1).out _ _ _ (by (with_reducible (repeat ((fail_if_success assumption); first | refine NatV.fol ?_ (by assumption) | refine IntV.fol ?_ (by assumption) | refine Sl.fol ?_ (by assumption) | refine NatV.fol ?_ (Fol.new _ _) | refine IntV.fol ?_ (Fol.new _ _) | refine Sl.fol ?_ (Fol.new _ _) | refine NatV.fol ?_ (Fol.draw _) | refine IntV.fol ?_ (Fol.draw _) | refine Sl.fol ?_ (Fol.draw _))); assumption)) (by (with_reducible (repeat ((fail_if_success assumption); first | refine NatV.fol ?_ (by assumption) | refine IntV.fol ?_ (by assumption) | refine Sl.fol ?_ (by assumption) | refine NatV.fol ?_ (Fol.new _ _) | refine IntV.fol ?_ (Fol.new _ _) | refine Sl.fol ?_ (Fol.new _ _) | refine NatV.fol ?_ (Fol.draw _) | refine IntV.fol ?_ (Fol.draw _) | refine Sl.fol ?_ (Fol.draw _))); assumption))).mono ?_)); rintro e wN ⟨vN, rfl, hN, bN⟩)
    | ((go_at_call 71; (with_reducible refine ((S1).out _ _ (by (with_reducible (repeat ((fail_if_success assumption); first | refine NatV.fol ?_ (by assumption) | refine IntV.fol ?_ (by assumption) | refine Sl.fol ?_ (by assumption) | refine NatV.fol ?_ (Fol.new _ _) | refine IntV.fol ?_ (Fol.new _ _) | refine Sl.fol ?_ (Fol.new _ _) | refine NatV.fol ?_ (Fol.draw _) | refine IntV.fol ?_ (Fol.draw _) | refine Sl.fol ?_ (Fol.draw _))); assumption))).mono ?_)); rintro e wN ⟨vN, rfl, hN, bN⟩) | ((go_at_call 71; (with_reducible refine ((S2).out _ _ (by (with_reducible (repeat ((fail_if_success assumption); first | refine NatV.fol ?_ (by assumption) | refine IntV.fol ?_ (by assumption) | refine Sl.fol ?_ (by assumption) | refine NatV.fol ?_ (Fol.new _ _) | refine IntV.fol ?_ (Fol.new _ _) | refine Sl.fol ?_ (Fol.new _ _) | refine NatV.fol ?_ (Fol.draw _) | refine IntV.fol ?_ (Fol.draw _) | refine Sl.fol ?_ (Fol.draw _))); assumption))).mono ?_)); rintro e wN ⟨vN, rfl, hN, bN⟩)
  go_ret
  exact ⟨_, rfl, by first | assumption | (with_reducible (repeat ((fail_if_success assumption); first | refine NatV.fol ?_ (by assumption) | refine IntV.fol ?_ (by assumption) | refine Sl.fol ?_ (by assumption) | refine NatV.fol ?_ (Fol.new _ _) | refine IntV.fol ?_ (Fol.new _ _) | refine Sl.fol ?_ (Fol.new _ _) | refine NatV.fol ?_ (Fol.draw _) | refine IntV.fol ?_ (Fol.draw _) | refine Sl.fol ?_ (Fol.draw _))); assumption), by (with_reducible first | exact Fol.refl _ | ((repeat ((fail_if_success assumption); first | refine Fol.trans ?_ (by assumption) | refine Fol.trans ?_ (Fol.new _ _) | refine Fol.trans ?_ (Fol.draw _))); (first | assumption | exact Fol.refl _)))⟩

theorem add_c (m n : Nat) (hm : Big m) (hn : Big n) : C2 83 m n (m + n) := Lib.hid fun v v' w h h' => add_any v v' m n w h h' hm hn
theorem less_c (m n : Nat) (hm : Big m) (hn : Big n) : C2 106 m n (m - n) := Lib.hid fun v v' w h h' => less_any v v' m n w h h' hm hn
theorem shl_c (m n : Nat) (i : Int) (hi : i = n) (hm : Big m) (hn : n < 34359738368) : C1i 71 m i (m * 2 ^ n) := Lib.hid fun v w h => by rw [hi]; exact shl_any v m n w h hm hn
theorem shr_c (m n : Nat) (i : Int) (hi : i = n) (hm : Big m) (hn : n < 9223372036854775808) : C1i 75 m i (m / 2 ^ n) := Lib.hid fun v w h => by rw [hi]; exact shr_any v m n w h hm hn
theorem third_c (m : Nat) (hm : Big m) : C1 107 m (m / 3) := Lib.hid fun v w h => third_any v m w h hm
theorem part0_c (m k : Nat) (hm : Big m) (hk : k < 4611686018427387904) : C1ii 101 m 0 k (m % 4294967296 ^ k) := Lib.hid fun v w h => by
  have := part_any v m 0 k w h hm (Nat.zero_le _) hk
  rw [part0] at this; exact this
theorem part_c (m k t : Nat) (i j : Int) (hi : i = k) (hj : j = t) (hm : Big m) (hkt : k ≤ t) (hk : t < 4611686018427387904) : C1ii 101 m i j (m / 4294967296 ^ k % 4294967296 ^ (t - k)) := Lib.hid fun v w h => by
  rw [hi, hj]; exact part_any v m k t w h hm hkt hk
theorem part1_c (m k N : Nat) (hm : (dig m).length ≤ N) (hk : k ≤ N) (hN : N < 1073741824) : C1ii 101 m k N (m / 4294967296 ^ k) := Lib.hid fun v w h => by
  have := part_any v m k N w h (by unfold Big; omega) hk (by omega)
  rw [part1 hm hk] at this; exact this

theorem big_of {m k : Nat} (h : (dig m).length ≤ k) (hk : k < 1073741824) : Big m := Nat.lt_of_le_of_lt h hk

theorem kara_all (L : Nat) : L ≤ 1048576 → ∀ m n, (dig m).length ≤ L → (dig n).length ≤ L → C2 89 m n (m * n) := by
  induction L using Nat.strongRecOn with
  | ind L ih =>
    intro hL m n hm hn
    refine Lib.hid fun v v' w h h' => ?_
    obtain ⟨oa, ca, rfl, _, _⟩ := Sl.gen h
    obtain ⟨ob, cb, rfl, _, _⟩ := Sl.gen h'
    by_cases hmin : min (dig m).length (dig n).length < 4
    · exact kara_few oa ob _ _ ca cb m n w h h' rfl rfl (by omega) hmin
    · obtain ⟨N, hN⟩ : ∃ N, max (dig m).length (dig n).length = N := ⟨_, rfl⟩
      obtain ⟨k, hk⟩ : ∃ k, (N + 1) / 2 = k := ⟨_, rfl⟩
      have hmN : (dig m).length ≤ N := by omega
      have hnN : (dig n).length ≤ N := by omega
      have a0 := len_mod m k
      have a1 := len_div hmN (show k ≤ N by omega)
      have b0 := len_mod n k
      have b1 := len_div hnN (show k ≤ N by omega)
      have sa := len_add a0 (Nat.le_trans a1 (show N - k ≤ k by omega))
      have sb := len_add b0 (Nat.le_trans b1 (show N - k ≤ k by omega))
      have p0 := len_mul a0 b0
      have p1 := len_mul a1 b1
      have p2 := len_mul sa sb
      have p3 := len_add (k := 2 * k) (Nat.le_trans p0 (by omega)) (Nat.le_trans p1 (by omega))
      have lw := kara_law m n k
      have hsub := Nat.sub_le ((m % 4294967296 ^ k + m / 4294967296 ^ k) * (n % 4294967296 ^ k + n / 4294967296 ^ k)) (m % 4294967296 ^ k * (n % 4294967296 ^ k) + m / 4294967296 ^ k * (n / 4294967296 ^ k))
      have p4 := len_le hsub p2
      have p5 := len_shl (j := k) p4
      have p6 := len_shl (j := 2 * k) p1
      rw [show 32 * (2 * k) = 64 * k by omega] at p6
      have p7 := len_add (k := 4 * k + 2) (Nat.le_trans p5 (by omega)) (Nat.le_trans p6 (by omega))
      refine kara_walk oa ob _ _ ca cb m n k N _ _ _ _ _ w h h' hN hk (by omega) (by omega)
        (part0_c m k (big_of hmN (by omega)) (by omega)) (part1_c m k N hmN (by omega) (by omega)) (part0_c n k (big_of hnN (by omega)) (by omega)) (part1_c n k N hnN (by omega) (by omega))
        (ih k (by omega) (by omega) _ _ a0 b0) (ih k (by omega) (by omega) _ _ (Nat.le_trans a1 (by omega)) (Nat.le_trans b1 (by omega))) (ih (k + 1) (by omega) (by omega) _ _ sa sb)
        (add_c _ _ (big_of a0 (by omega)) (big_of a1 (by omega))) (add_c _ _ (big_of b0 (by omega)) (big_of b1 (by omega))) (add_c _ _ (big_of p0 (by omega)) (big_of p1 (by omega)))
        (less_c _ _ (big_of p2 (by omega)) (big_of p3 (by omega)))
        (shl_c _ (32 * k) _ (by omega) (big_of p4 (by omega)) (by omega)) (shl_c _ (64 * k) _ (by omega) (big_of p1 (by omega)) (by omega))
        (add_c _ _ (big_of p5 (by omega)) (big_of p6 (by omega))) ?_
      have := add_c _ _ (big_of p0 (show k + k < 1073741824 by omega)) (big_of p7 (by omega))
      rwa [lw] at this
end Go.Proofs.YtckahcgolfnobaaGreatDoor
