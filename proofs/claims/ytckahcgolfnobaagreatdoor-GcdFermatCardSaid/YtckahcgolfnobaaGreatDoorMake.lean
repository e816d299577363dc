/- nat.Make: limbs without noughts at their end. -/
import Derived.Test.YtckahcgolfnobaaGreatDoorLeaf
namespace Go.Proofs.YtckahcgolfnobaaGreatDoor
open Go Go.RowKit

theorem val_take_succ (l : List Nat) (k : Nat) (h : k < l.length) : val (l.take (k + 1)) = val (l.take k) + 4294967296 ^ k * l[k] := by
  rw [List.take_succ_eq_append_getElem h, val_append]
  simp [val, Nat.min_eq_left (Nat.le_of_lt h)]

theorem norm_take {l : List Nat} {k : Nat} (hk : k ≤ l.length) (h : k = 0 ∨ l.getD (k - 1) 0 ≠ 0) : Norm (l.take k) := by
  unfold Norm
  rcases h with rfl | h
  · simp
  · by_cases h0 : k = 0
    · subst h0; simp
    · rw [List.getLast?_eq_getElem?, List.getElem?_take]
      have : (l.take k).length = k := by simp; omega
      rw [this, if_pos (by omega)]
      intro he
      simp [List.getD, he] at h

theorem own_take {w : World} {b : Nat} {v : Value} {l : List Nat} {k : Nat} (h : w.ownsRow b 43 1 v (l.take k).length (lv (l.take k))) (hs : Small l) (hk : k ≤ l.length) (hv : val (l.take k) = val l) (hn : k = 0 ∨ l.getD (k - 1) 0 ≠ 0) : w.ownsRow b 43 1 v (dig (val l)).length (lv (dig (val l))) := by
  rw [← hv, dig_val (small_take hs k) (norm_take hk hn)]
  exact h

theorem natV_take {w : World} {v : Value} {l : List Nat} {k : Nat} (h : Sl w v (l.take k)) (hs : Small l) (hk : k ≤ l.length) (hv : val (l.take k) = val l) (hn : k = 0 ∨ l.getD (k - 1) 0 ≠ 0) : NatV w v (val l) := by
  unfold NatV
  rw [← hv, dig_val (small_take hs k) (norm_take hk hn)]
  exact h

theorem sl_take {w : World} {b off cap : Nat} {l : List Nat} (h : Sl w (.slice (some ⟨b, off, none⟩) l.length cap) l) {k : Nat} (hk : k ≤ l.length) : Sl w (.slice (some ⟨b, off, none⟩) k cap) (l.take k) := by
  obtain ⟨o, cap', hv, hc, _⟩ := h.slice
  cases hv
  simpa using h.sub rfl 0 k (by omega) cap (by omega)

set_option maxHeartbeats 400000 in
set_option maxRecDepth 100000 in
theorem make_some (b off cap : Nat) (l : List Nat) (w : World) (h : Sl w (.slice (some ⟨b, off, none⟩) l.length cap) l) (hs : Small l) (hl : l.length ≤ 1099511627776) (hcap : l.length ≤ cap)
    (hc : ∀ (i x : Nat), l[i]? = some x → w.cell? ⟨b, off + i, none⟩ = some (.int .u32 (x : Int))) :
    Calls Tryz.prog 69 #[.slice (some ⟨b, off, none⟩) l.length cap] w (RNatO w (val l)) := by
  have HC := Lib.hid hc
  clear hc
  have H := Lib.hid h
  clear h
  go_enter Tryz.func69, Tryz.ntmps69
  go_wp2
  go_loop [3] (fun n => ∃ k : Nat, k ≤ l.length ∧ n = .int .i64 k ∧ val (l.take k) = val l) (fun n => (intOf n).toNat)
  case atStart => exact ⟨l.length, Nat.le_refl _, rfl, by simp⟩
  case round =>
    obtain ⟨k, hk, rfl, hv⟩ := hrel
    have HV := Lib.hid hv
    clear hv
    by_cases h0 : 0 < k
    · obtain ⟨j, rfl⟩ : ∃ j, k = j + 1 := ⟨k - 1, by omega⟩
      have hj : j < l.length := by omega
      have hcell : w.cell? ⟨b, off + j, none⟩ = some (.int .u32 (l[j] : Int)) := HC.out j _ (by simp [hj])
      by_cases hx : l[j] = 0
      · rw [hx] at hcell
        go_wp2
        go_round
        case rel =>
          refine ⟨j, by omega, by go_num, ?_⟩
          have := HV.out
          rw [val_take_succ _ _ hj, hx] at this
          simpa using this
        case measure => simp [intOf]
      · have hx' : ((l[j] : Int) == 0) = false := by simp; exact hx
        go_wp2_with fail
        refine (clone_any _ (l.take (j + 1)) _ (sl_take H.out (by omega)) (by simp; omega)).mono ?_
        rintro e w1 ⟨v1, rfl, hv1, hb1⟩
        go_wp2
        go_ret
        exact ⟨_, rfl, own_take hv1 hs (by omega) HV.out (.inr (by simpa [List.getD, hj] using hx)), hb1⟩
    · obtain rfl : k = 0 := by omega
      clear h0
      go_wp2_with fail
      refine (clone_any _ (l.take 0) _ (sl_take H.out (by omega)) (by simp)).mono ?_
      rintro e w1 ⟨v1, rfl, hv1, hb1⟩
      go_wp2
      go_ret
      exact ⟨_, rfl, own_take hv1 hs (by omega) HV.out (.inl rfl), hb1⟩

set_option maxHeartbeats 400000 in
set_option maxRecDepth 100000 in
theorem make_none (o : Option Addr) (cap : Nat) (w : World) (hn : o = none → cap = 0) :
    Calls Tryz.prog 69 #[.slice o 0 cap] w (RNatO w 0) := by
  go_enter Tryz.func69, Tryz.ntmps69
  go_wp2
  refine wp_loop_rounds 1 ?_
  rw [rounds_succ]
  go_wp2_with fail
  refine (clone_any _ [] _ (sl_nil _ _ _ hn) (by simp)).mono ?_
  rintro e w1 ⟨v1, rfl, hv1, hb1⟩
  go_wp2
  go_ret
  exact ⟨_, rfl, by rw [dig_zero]; exact hv1, hb1⟩

theorem make_own (v : Value) (l : List Nat) (w : World) (h : Sl w v l) (hs : Small l) (hl : l.length ≤ 1099511627776) : Calls Tryz.prog 69 #[v] w (RNatO w (val l)) := by
  rcases h.open with ⟨o, cap, rfl, rfl, hn⟩ | ⟨b, off, cap, rfl, _, hc, _, hx⟩
  · exact make_none o cap w hn
  · exact make_some b off cap l w h hs hl hc hx

theorem make_any (v : Value) (l : List Nat) (w : World) (h : Sl w v l) (hs : Small l) (hl : l.length ≤ 1099511627776) : Calls Tryz.prog 69 #[v] w (RNat w (val l)) :=
  (make_own v l w h hs hl).mono fun _ _ h => h.nat
end Go.Proofs.YtckahcgolfnobaaGreatDoor
