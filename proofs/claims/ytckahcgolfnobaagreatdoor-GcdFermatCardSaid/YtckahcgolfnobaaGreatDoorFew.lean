/- gcd.Lehmer and gcd.Half where the lesser number is short. -/
import Derived.Test.YtckahcgolfnobaaGreatDoorGcd
namespace Go.Proofs.YtckahcgolfnobaaGreatDoor
open Go Go.RowKit

set_option maxHeartbeats 400000 in
set_option maxRecDepth 100000 in
theorem lehmer_few (va vb : Value) (a b : Nat) (w : World) (ha : NatV w va a) (hb : NatV w vb b) (hla : (dig a).length < 1000000000) (hlb : (dig b).length < 1000000000) (hmin : (dig (min a b)).length ≤ 2) :
    Calls Tryz.prog 20 #[va, vb] w (RNat w (Nat.gcd a b)) := by
  have HC := Lib.hid (cmp_any va vb a b w ha hb (by omega) (by omega))
  obtain ⟨oa, ca, rfl, _, _⟩ := ha.slice
  obtain ⟨ob, cb, rfl, _, _⟩ := hb.slice
  by_cases hlt : a < b
  · rw [Nat.min_eq_left (by omega)] at hmin
    have hnc : decide (ncmp a b < 0) = true := by unfold ncmp; rw [if_pos hlt]; rfl
    have HG := Lib.hid (fun w' (h : Fol w w') => gcd_any _ _ b a w' (hb.fol h) (ha.fol h) hlb hla)
    rw [Nat.gcd_comm] at HG
    clear ha hb
    generalize (dig a).length = la at *
    generalize (dig b).length = lb at *
    generalize ncmp a b = nc at *
    have h2 : decide (2 < la) = false := by simp; omega
    have h3 : decide ((2 : Int) < la) = false := by simp; omega
    go_enter Tryz.func20, Tryz.ntmps20
    go_wp2_with fail
    refine HC.out.mono ?_
    rintro e w1 ⟨rfl, hd⟩
    have k1 := Lib.hid (Fol.drawn hd)
    clear hd
    go_wp2
    refine wp_loop_rounds 1 ?_
    rw [rounds_succ]
    go_wp2_with fail
    refine (HG.out _ k1.out).mono ?_
    rintro e w2 ⟨v, rfl, hv, k2⟩
    go_wp2
    go_ret
    exact ⟨_, rfl, hv, Fol.trans k1.out k2⟩
  · rw [Nat.min_eq_right (by omega)] at hmin
    have hnc : decide (ncmp a b < 0) = false := by unfold ncmp; rw [if_neg hlt]; simp; split <;> omega
    have HG := Lib.hid (fun w' (h : Fol w w') => gcd_any _ _ a b w' (ha.fol h) (hb.fol h) hla hlb)
    clear ha hb
    generalize (dig a).length = la at *
    generalize (dig b).length = lb at *
    generalize ncmp a b = nc at *
    have h2 : decide (2 < lb) = false := by simp; omega
    have h3 : decide ((2 : Int) < lb) = false := by simp; omega
    go_enter Tryz.func20, Tryz.ntmps20
    go_wp2_with fail
    refine HC.out.mono ?_
    rintro e w1 ⟨rfl, hd⟩
    have k1 := Lib.hid (Fol.drawn hd)
    clear hd
    go_wp2
    refine wp_loop_rounds 1 ?_
    rw [rounds_succ]
    go_wp2_with fail
    refine (HG.out _ k1.out).mono ?_
    rintro e w2 ⟨v, rfl, hv, k2⟩
    go_wp2
    go_ret
    exact ⟨_, rfl, hv, Fol.trans k1.out k2⟩
set_option maxHeartbeats 400000 in
set_option maxRecDepth 100000 in
theorem half_few (va vb : Value) (a b : Nat) (w : World) (ha : NatV w va a) (hb : NatV w vb b) (hla : (dig a).length < 1000000000) (hlb : (dig b).length < 1000000000) (hmin : (dig (min a b)).length ≤ 7) :
    Calls Tryz.prog 21 #[va, vb] w (RNat w (Nat.gcd a b)) := by
  have HC := Lib.hid (cmp_any va vb a b w ha hb (by omega) (by omega))
  obtain ⟨oa, ca, rfl, _, _⟩ := ha.slice
  obtain ⟨ob, cb, rfl, _, _⟩ := hb.slice
  by_cases hlt : a < b
  · rw [Nat.min_eq_left (by omega)] at hmin
    have hnc : decide (ncmp a b < 0) = true := by unfold ncmp; rw [if_pos hlt]; rfl
    have HG := Lib.hid (fun w' (h : Fol w w') => gcd_any _ _ b a w' (hb.fol h) (ha.fol h) hlb hla)
    rw [Nat.gcd_comm] at HG
    clear ha hb
    generalize (dig a).length = la at *
    generalize (dig b).length = lb at *
    generalize ncmp a b = nc at *
    have h2 : decide (8 ≤ la) = false := by simp; omega
    have h3 : decide ((8 : Int) ≤ la) = false := by simp; omega
    go_enter Tryz.func21, Tryz.ntmps21
    go_wp2_with fail
    refine HC.out.mono ?_
    rintro e w1 ⟨rfl, hd⟩
    have k1 := Lib.hid (Fol.drawn hd)
    clear hd
    go_wp2
    refine wp_loop_rounds 1 ?_
    rw [rounds_succ]
    go_wp2_with fail
    refine (HG.out _ k1.out).mono ?_
    rintro e w2 ⟨v, rfl, hv, k2⟩
    go_wp2
    go_ret
    exact ⟨_, rfl, hv, Fol.trans k1.out k2⟩
  · rw [Nat.min_eq_right (by omega)] at hmin
    have hnc : decide (ncmp a b < 0) = false := by unfold ncmp; rw [if_neg hlt]; simp; split <;> omega
    have HG := Lib.hid (fun w' (h : Fol w w') => gcd_any _ _ a b w' (ha.fol h) (hb.fol h) hla hlb)
    clear ha hb
    generalize (dig a).length = la at *
    generalize (dig b).length = lb at *
    generalize ncmp a b = nc at *
    have h2 : decide (8 ≤ lb) = false := by simp; omega
    have h3 : decide ((8 : Int) ≤ lb) = false := by simp; omega
    go_enter Tryz.func21, Tryz.ntmps21
    go_wp2_with fail
    refine HC.out.mono ?_
    rintro e w1 ⟨rfl, hd⟩
    have k1 := Lib.hid (Fol.drawn hd)
    clear hd
    go_wp2
    refine wp_loop_rounds 1 ?_
    rw [rounds_succ]
    go_wp2_with fail
    refine (HG.out _ k1.out).mono ?_
    rintro e w2 ⟨v, rfl, hv, k2⟩
    go_wp2
    go_ret
    exact ⟨_, rfl, hv, Fol.trans k1.out k2⟩
end Go.Proofs.YtckahcgolfnobaaGreatDoor
