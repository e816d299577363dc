/- mul.less, mul.part, mul.apart, mul.third. -/
import Derived.Test.YtckahcgolfnobaaGreatDoorSchool
namespace Go.Proofs.YtckahcgolfnobaaGreatDoor
open Go Go.RowKit

set_option maxHeartbeats 400000 in
set_option maxRecDepth 100000 in
theorem less_any (v v' : Value) (m n : Nat) (w : World) (h : NatV w v m) (h' : NatV w v' n) (hm : Big m) (hn : Big n) :
    Calls Tryz.prog 106 #[v, v'] w (RNat w (m - n)) := by
  have HS := Lib.hid (sub_any v v' m n w h h' hm hn)
  clear h h'
  go_enter Tryz.func106, Tryz.ntmps106
  go_wp2_with (go_at_call 85; (with_reducible refine HS.out.mono ?_); rintro e w' ⟨v, rfl, hv, hbl⟩)
  go_ret
  exact ⟨_, rfl, hv, hbl⟩

/-- How far two naturals are from each other. -/
def apartN (m n : Nat) : Nat := (m - n) + (n - m)

set_option maxHeartbeats 400000 in
set_option maxRecDepth 100000 in
theorem apart_any (v v' : Value) (m n : Nat) (w : World) (h : NatV w v m) (h' : NatV w v' n) (hm : Big m) (hn : Big n) :
    Calls Tryz.prog 118 #[v, v'] w (RNatB w (apartN m n) (decide (m < n))) := by
  have HS := Lib.hid (sub_any v v' m n w h h' hm hn)
  have HL := Lib.hid (fun w' (hk : Fol w w') => less_any v' v n m w' (NatV.fol h' hk) (NatV.fol h hk) hn hm)
  clear h h'
  by_cases hlt : m < n
  · have e : Hid (apartN m n = n - m) := Lib.hid (by unfold apartN; omega)
    have hd : decide (n ≤ m) = false := by simp; omega
    have hd2 : decide (m < n) = true := by simp; omega
    rw [hd] at HS
    rw [hd2]
    clear hd hd2 hlt
    go_enter Tryz.func118, Tryz.ntmps118
    go_wp2_with first
      | ((go_at_call 85; (with_reducible refine HS.out.mono ?_)); rintro e w1 ⟨v1, rfl, hv1, hb1⟩)
      | ((go_at_call 106; (with_reducible refine (HL.out _ hb1).mono ?_)); rintro e w2 ⟨v2, rfl, hv2, hb2⟩)
    go_ret2
    exact ⟨_, rfl, by rw [e.out]; exact hv2, Fol.trans hb1 hb2⟩
  · have e : Hid (apartN m n = m - n) := Lib.hid (by unfold apartN; omega)
    have hd : decide (n ≤ m) = true := by simp; omega
    have hd2 : decide (m < n) = false := by simp; omega
    rw [hd] at HS
    rw [hd2]
    clear hd hd2 hlt
    go_enter Tryz.func118, Tryz.ntmps118
    go_wp2_with first
      | ((go_at_call 85; (with_reducible refine HS.out.mono ?_)); rintro e w1 ⟨v1, rfl, hv1, hb1⟩)
    go_ret2
    exact ⟨_, rfl, by rw [e.out]; exact hv1, hb1⟩

theorem part_val (m f t : Nat) : val (((dig m).drop f).take (t - f)) = m / 4294967296 ^ f % 4294967296 ^ (t - f) := by
  have h1 := lt_dig_length m
  by_cases hf : f ≤ (dig m).length
  · have h2 := val_split (dig m) f hf
    rw [val_dig] at h2
    have h3 : val ((dig m).take f) < 4294967296 ^ f := by
      have := val_lt (small_take (small_dig m) f)
      rwa [List.length_take, Nat.min_eq_left hf] at this
    have h4 : m / 4294967296 ^ f = val ((dig m).drop f) := by
      refine Eq.trans (congrArg (· / 4294967296 ^ f) h2) ?_
      show (_ + _) / _ = _
      rw [Nat.add_mul_div_left _ _ (Nat.pow_pos (by omega)), Nat.div_eq_of_lt h3, Nat.zero_add]
    rw [h4]
    have hs : Small ((dig m).drop f) := fun x hx => small_dig m x (List.mem_of_mem_drop hx)
    generalize (dig m).drop f = l at *
    by_cases ht : t - f ≤ l.length
    · rw [val_split l (t - f) ht, Nat.add_mul_mod_self_left, Nat.mod_eq_of_lt]
      have := val_lt (small_take hs (t - f))
      rwa [List.length_take, Nat.min_eq_left ht] at this
    · rw [List.take_of_length_le (by omega), Nat.mod_eq_of_lt]
      exact Nat.lt_of_lt_of_le (val_lt hs) (Nat.pow_le_pow_right (by omega) (by omega))
  · have h4 : m / 4294967296 ^ f = 0 := Nat.div_eq_of_lt (Nat.lt_of_lt_of_le h1 (Nat.pow_le_pow_right (by omega) (by omega)))
    rw [h4, List.drop_eq_nil_of_le (by omega)]
    simp [val]

theorem part_clip (m f t N : Nat) (hN : (dig m).length = N) (hft : f ≤ t) : val (((dig m).drop (min f N)).take (min t N - min f N)) = m / 4294967296 ^ f % 4294967296 ^ (t - f) := by
  rw [← part_val m f t, ← hN]
  by_cases hf : f ≤ (dig m).length
  · rw [Nat.min_eq_left hf]
    by_cases ht : t ≤ (dig m).length
    · rw [Nat.min_eq_left ht]
    · rw [Nat.min_eq_right (by omega), List.take_of_length_le (by simp), List.take_of_length_le (by simp; omega)]
  · rw [Nat.min_eq_right (by omega), Nat.min_eq_right (by omega), List.drop_eq_nil_of_le (show (dig m).length ≤ f by omega), Nat.sub_self]
    simp

theorem sl_part {w : World} {o : Option Addr} {n cap : Nat} {l : List Nat} (h : Sl w (.slice o n cap) l) (i j : Nat) (hij : i ≤ j) (hj : j ≤ l.length) :
    Sl w (.slice (Option.map (fun x => x.add i) o) (j - i) (j - i)) ((l.drop i).take (j - i)) := by
  by_cases h0 : j - i = 0
  · rw [h0]; exact sl_nil w _ 0 (fun _ => rfl)
  · have hl : l ≠ [] := by rintro rfl; simp at hj; omega
    obtain ⟨b, off, rfl, _, _, _⟩ := h.cells hl
    rw [Option.map_some, addr_add]
    exact h.sub rfl i (j - i) (by omega) _ (Nat.le_refl _)

set_option maxHeartbeats 400000 in
set_option maxRecDepth 100000 in
theorem part_walk (o : Option Addr) (N cap f t : Nat) (m : Nat) (w : World) (hN : (dig m).length = N) (hl : N < 1073741824) (hcap : N ≤ cap) (hft : f ≤ t) (ht : t < 4611686018427387904)
    (h : NatV w (.slice o N cap) m) :
    Calls Tryz.prog 101 #[.slice o N cap, .int .i64 f, .int .i64 t] w (RNat w (m / 4294967296 ^ f % 4294967296 ^ (t - f))) := by
  have hcl := part_clip m f t N hN hft
  have hsm : ∀ k j, Small (((dig m).drop k).take j) := fun k j x hx => small_dig m x (List.mem_of_mem_drop (List.mem_of_mem_take hx))
  have e1 : min (f : Int) N = (min f N : Nat) := by omega
  have e2 : min (t : Int) N = (min t N : Nat) := by omega
  have b1 : min f N ≤ min t N := by omega
  have b2 : min t N ≤ N := by omega
  have H1 := Lib.hid (make_any _ _ w (sl_part h (min f N) (min t N) b1 (by omega)) (hsm _ _) (by simp; omega))
  have H2 := Lib.hid (fun (heq : min f N = min t N) => make_any _ [] w (sl_nil w o 0 (fun _ => rfl)) small_nil (by simp))
  rw [hcl] at H1
  have H2 : Hid (min f N = min t N → Calls Tryz.prog 69 #[.slice o 0 0] w (RNat w (m / 4294967296 ^ f % 4294967296 ^ (t - f)))) := Lib.hid (fun heq => by
    have := H2.out heq
    rw [heq, Nat.sub_self, List.take_zero] at hcl
    rwa [hcl] at this)
  clear h hN hcl hsm
  generalize m / 4294967296 ^ f % 4294967296 ^ (t - f) = R at *
  go_enter Tryz.func101, Tryz.ntmps101
  go_wp2_with first
    | ((go_at_call 69; (with_reducible refine (H1.out).mono ?_)); rintro e w1 ⟨v1, rfl, hv1, hb1⟩)
    | ((go_at_call 69; (with_reducible refine (H2.out (by omega)).mono ?_)); rintro e w1 ⟨v1, rfl, hv1, hb1⟩)
  all_goals
    go_ret
    exact ⟨_, rfl, hv1, hb1⟩

theorem part_any (v : Value) (m f t : Nat) (w : World) (h : NatV w v m) (hm : Big m) (hft : f ≤ t) (ht : t < 4611686018427387904) :
    Calls Tryz.prog 101 #[v, .int .i64 f, .int .i64 t] w (RNat w (m / 4294967296 ^ f % 4294967296 ^ (t - f))) := by
  obtain ⟨o, cap, rfl, hc, _⟩ := Sl.gen h
  exact part_walk o _ cap f t m w rfl hm hc hft ht h
end Go.Proofs.YtckahcgolfnobaaGreatDoor
