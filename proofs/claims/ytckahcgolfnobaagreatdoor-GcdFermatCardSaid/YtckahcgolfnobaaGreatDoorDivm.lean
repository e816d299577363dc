/- div.DivMod. -/
import Derived.Test.YtckahcgolfnobaaGreatDoorSmall
import Derived.Test.YtckahcgolfnobaaGreatDoorInt
namespace Go.Proofs.YtckahcgolfnobaaGreatDoor
open Go Go.RowKit

set_option maxHeartbeats 400000 in
set_option maxRecDepth 100000 in
theorem div_less (oa ob : Option Addr) (la lb ca cb m n : Nat) (w : World) (h : NatV w (.slice oa la ca) m) (h' : NatV w (.slice ob lb cb) n) (hla : (dig m).length = la) (hlb : (dig n).length = lb) (hba : la < 1000000000) (hbb : lb < 1000000000) (hlt : m < n) :
    Calls Tryz.prog 42 #[.slice oa la ca, .slice ob lb cb] w (RDiv w m n) := by
  have HCmp := Lib.hid (cmp_any _ _ m n w h h' (by omega) (by omega))
  have hnc : decide (ncmp m n < 0) = true := by unfold ncmp; rw [if_pos hlt]; rfl
  have hpos : 0 < lb := by
    rw [← hlb]
    apply Nat.pos_of_ne_zero
    intro h0
    have := val_dig n
    rw [List.eq_nil_of_length_eq_zero h0] at this
    simp [val] at this
    omega
  have hz : ((lb : Int) == 0) = false := by rw [beq_eq_false_iff_ne]; omega
  have hq : m / n = 0 := Nat.div_eq_of_lt hlt
  have hr : m % n = m := Nat.mod_eq_of_lt hlt
  have HQ := Lib.hid hq
  have HR := Lib.hid hr
  clear hlt hq hr
  generalize ncmp m n = nc at *
  go_enter Tryz.func42, Tryz.ntmps42
  go_wp2_with ((go_at_call 45; (with_reducible refine (HCmp.out).mono ?_)); rintro e w0 ⟨rfl, hd⟩; have b0 := Fol.drawn hd)
  go_ret3
  exact ⟨_, _, rfl, by rw [HQ.out]; exact natV_nil _, by rw [HR.out]; ((repeat ((fail_if_success assumption); first | with_reducible refine NatV.fol ?_ (by assumption) | with_reducible refine IntV.fol ?_ (by assumption) | with_reducible refine Sl.fol ?_ (by assumption) | with_reducible refine NatV.fol ?_ (Fol.new _ _) | with_reducible refine IntV.fol ?_ (Fol.new _ _) | with_reducible refine Sl.fol ?_ (Fol.new _ _) | with_reducible refine NatV.fol ?_ (Fol.draw _) | with_reducible refine IntV.fol ?_ (Fol.draw _) | with_reducible refine Sl.fol ?_ (Fol.draw _))); assumption), by (with_reducible first | exact Fol.refl _ | ((repeat ((fail_if_success assumption); first | refine Fol.trans ?_ (by assumption) | refine Fol.trans ?_ (Fol.new _ _) | refine Fol.trans ?_ (Fol.draw _))); (first | assumption | exact Fol.refl _)))⟩

set_option maxHeartbeats 400000 in
set_option maxRecDepth 100000 in
theorem div_one (oa : Option Addr) (pb ob la ca cb m n : Nat) (w : World) (h : NatV w (.slice oa la ca) m) (h' : NatV w (.slice (some ⟨pb, ob, none⟩) 1 cb) n) (hla : (dig m).length = la) (hlb : (dig n).length = 1) (hba : la < 1000000000) (hle : n ≤ m) (hn : 0 < n) (hnB : n < 4294967296)
    (hcell : ∀ w', Drawn w w' → w'.cell? ⟨pb, ob, none⟩ = some (.int .u32 (n : Int))) :
    Calls Tryz.prog 42 #[.slice oa la ca, .slice (some ⟨pb, ob, none⟩) 1 cb] w (RDiv w m n) := by
  have HCmp := Lib.hid (cmp_any _ _ m n w h h' (by omega) (by omega))
  have HC := Lib.hid hcell
  have hnc : decide (ncmp m n < 0) = false := by unfold ncmp; rw [if_neg (by omega)]; simp; split <;> omega
  have HS : Hid (∀ w', NatV w' (.slice oa la ca) m → Calls Tryz.prog 68 #[.slice oa la ca, .int .u32 n] w' (RSmall w' m n)) := Lib.hid (fun w' hv => by
    subst hla
    have := callsIn_wide.1 (small_any oa ca (dig m) n w' hv (small_dig m) hn hnB (by omega))
    rwa [val_dig] at this)
  have HM : Hid (∀ (w' : World), Calls Tryz.prog 69 #[.slice (some ⟨w'.heap.size, 0, none⟩) 1 1] (w'.alloc (.cells #[.int .u32 ((m : Int) % n)] 43)) (RNat (w'.alloc (.cells #[.int .u32 ((m : Int) % n)] 43)) (m % n))) := Lib.hid (fun w' => by
    have e : ((m : Int) % n) = ((m % n : Nat) : Int) := rfl
    rw [e]
    have h1 : m % n < 4294967296 := Nat.lt_trans (Nat.mod_lt _ hn) hnB
    have := make_any _ _ _ (sl_new w' [m % n] #[.int .u32 (m % n : Nat)] rfl 1 1 rfl (by omega)) (fun x hx => by simp at hx; omega) (by simp)
    simpa [val] using this)
  have hnew : ∀ w' o, Fol w' (World.alloc w' o) := Fol.new
  have HNEW := Lib.hid hnew
  clear hnew hcell
  generalize ncmp m n = nc at *
  go_enter Tryz.func42, Tryz.ntmps42
  go_wp2_with first
    | ((go_at_call 45; (with_reducible refine (HCmp.out).mono ?_)); rintro e w0 ⟨rfl, hd⟩; have hcell := HC.out _ hd; have b0 := Fol.drawn hd; clear hd)
    | ((go_at_call 68; (with_reducible refine (HS.out _ (by (with_reducible (repeat ((fail_if_success assumption); first | refine NatV.fol ?_ (by assumption) | refine IntV.fol ?_ (by assumption) | refine Sl.fol ?_ (by assumption) | refine NatV.fol ?_ (Fol.new _ _) | refine IntV.fol ?_ (Fol.new _ _) | refine Sl.fol ?_ (Fol.new _ _) | refine NatV.fol ?_ (Fol.draw _) | refine IntV.fol ?_ (Fol.draw _) | refine Sl.fol ?_ (Fol.draw _))); assumption))).mono ?_)); rintro e w1 ⟨v1, rfl, h1, b1⟩)
    | ((go_at_call 69; (with_reducible refine (HM.out _).mono ?_)); rintro e w2 ⟨v2, rfl, h2, b2⟩)
  go_ret3
  have k1 := HNEW.out w1 (.cells #[.int .u32 ((m : Int) % n)] 43)
  have k2 := Fol.trans k1 b2
  exact ⟨_, _, rfl, NatV.fol h1 k2, h2, Fol.trans (Fol.trans b0 b1) k2⟩

theorem dig_pos' {n : Nat} (hn : 0 < n) : 0 < (dig n).length := by
  have := dig_pos2 n
  rw [decide_eq_true hn] at this
  simpa using this

/-- A quotient and a rest by what is not 0. -/
theorem div_any (v v' : Value) (m n : Nat) (w : World) (h : NatV w v m) (h' : NatV w v' n) (hm : (dig m).length < 1000000000) (hn' : (dig n).length < 1000000000) (hn : 0 < n) :
    Calls Tryz.prog 42 #[v, v'] w (RDiv w m n) := by
  obtain ⟨oa, ca, rfl, _, _⟩ := Sl.gen h
  by_cases hlt : m < n
  · obtain ⟨ob, cb, rfl, _, _⟩ := Sl.gen h'
    exact div_less oa ob _ _ ca cb m n w h h' rfl rfl hm hn' hlt
  · have hle : n ≤ m := by omega
    have hlen := dig_length_mono hle
    have hpos := dig_pos' hn
    rcases Sl.open h' with ⟨o, cap, rfl, hl, _⟩ | ⟨pb, ob, cb, rfl, hne, hc, hb, hx⟩
    · rw [hl] at hpos; simp at hpos
    · by_cases h1 : (dig n).length = 1
      · rw [h1] at h' ⊢
        have hn1 : dig n = [n] := by
          have hv := val_dig n
          match hd : dig n, h1 with
          | [x], _ => rw [hd] at hv; simp [val] at hv; rw [hv]
        have hnB : n < 4294967296 := small_dig n n (by rw [hn1]; simp)
        refine div_one oa pb ob _ ca cb m n w h h' rfl h1 hm hle hn hnB (fun w' hd => ?_)
        exact ((Fol.drawn hd).cell hb).trans (hx 0 n (by rw [hn1]; rfl))
      · obtain ⟨L, hL⟩ : ∃ L, (dig n).length = L + 2 := ⟨(dig n).length - 2, by omega⟩
        obtain ⟨NQ, hNQ⟩ : ∃ NQ, (dig m).length = NQ + (L + 1) := ⟨(dig m).length - (L + 1), by omega⟩
        have ht0 : blen (lim (dig n) (L + 1)) ≤ 32 := blen_le.2 (lim_lt (small_dig n) _)
        have htop : lim (dig n) (L + 1) = n / 4294967296 ^ (L + 1) := by
          have : lim (dig n) (L + 1) = n / 4294967296 ^ (L + 1) % 4294967296 := getD_dig n _
          rw [this]
          refine Nat.mod_eq_of_lt ?_
          rw [Nat.div_lt_iff_lt_mul (Nat.pow_pos (by omega)), Nat.mul_comm, ← Nat.pow_succ]
          have := lt_dig_length n
          rwa [hL] at this
        have ht1 : 0 < blen (lim (dig n) (L + 1)) := by
          rw [lt_blen, Nat.pow_zero, htop]
          have := pow_dig_length_le (show n ≠ 0 by omega)
          rw [hL] at this
          exact Nat.div_pos this (Nat.pow_pos (by omega))
        rw [hNQ] at h ⊢
        rw [hL] at h' ⊢
        exact divk_walk oa pb ob NQ L ca cb m n (32 - blen (lim (dig n) (L + 1))) w hNQ hL (by omega) (by omega) hle h h' (by omega) (by omega) (fun w' hd => ((Fol.drawn hd).cell (p := ⟨pb, ob + (L + 1), none⟩) hb).trans (hx (L + 1) _ (getD_eq (by omega))))
end Go.Proofs.YtckahcgolfnobaaGreatDoor
