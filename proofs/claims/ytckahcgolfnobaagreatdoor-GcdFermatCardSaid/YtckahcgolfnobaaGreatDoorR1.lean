/- The document's naturals: Make, Made, limb, Same. -/
import Derived.Test.YtckahcgolfnobaaGreatDoorArm
import Derived.BigGuard
namespace Go.Proofs.YtckahcgolfnobaaGreatDoor
open Go Go.RowKit

/-- v reads in w as the row of limbs l, wherever it lies. -/
structure Raw (w : World) (v : Value) (l : List Nat) : Prop where
  form : ∃ o cap, v = .slice o l.length cap ∧ l.length ≤ cap ∧ (o = none → cap = 0) ∧ ∀ a, o = some a → Cells w a l

theorem Sl.raw {w : World} {v : Value} {l : List Nat} (h : Sl w v l) : Raw w v l := by
  rcases h.open with ⟨o, cap, rfl, rfl, hn⟩ | ⟨b, off, cap, rfl, hne, hc, hb, hx⟩
  · exact ⟨o, cap, rfl, Nat.zero_le _, hn, fun a _ j u hu => by simp [lv] at hu⟩
  · exact ⟨_, cap, rfl, hc, (fun h => by cases h), fun a ha => by cases ha; exact h.toCells⟩

theorem cells_at {w : World} {a : Addr} {l : List Nat} (h : Cells w a l) {j : Nat} (hj : j < l.length) : w.cell? (a.add j) = some (.int .u32 (l[j] : Int)) := h j _ (by rw [lv_get]; simp [hj])
theorem cells_take {w : World} {a : Addr} {l : List Nat} (h : Cells w a l) (k : Nat) : Cells w a (l.take k) := fun j u hu => h j u (by
  rw [lv_get, List.getElem?_take] at hu
  rw [lv_get]
  split at hu
  · exact hu
  · cases hu)

set_option maxHeartbeats 800000 in
set_option maxRecDepth 100000 in
theorem r1make_some (a : Addr) (cap : Nat) (l : List Nat) (w : World) (hs : Small l) (hl : l.length ≤ 1099511627776) (hcap : l.length ≤ cap) (hc : Cells w a l) :
    Calls Tryz.prog 36 #[.slice (some a) l.length cap] w (RNatO w (val l)) := by
  have HC := Lib.hid hc
  obtain ⟨i0, hi, hz0, hz1, hz2⟩ := info_parts' infoU
  have hown : (w.alloc (.cells #[] 43)).ownsRow w.heap.size 43 1 (.slice (some ⟨w.heap.size, 0, none⟩) 0 0) 0 [] := World.ownsRow_made w #[] 0 (Nat.le_refl _) (Nat.zero_le _) (by simp)
  clear hc
  have HN : ∀ k, k ≤ l.length → Hid (∀ (j : Nat) (u : Value), (lv (l.take k))[j]? = some u → (w.alloc (.cells #[] 43)).cell? (a.add j) = some u) := fun k hk => Lib.hid (fun (j : Nat) (u : Value) hu => by
    have h1 := cells_take HC.out k j u hu
    exact (((Below.refl w.heap.size w).alloc (Nat.le_refl _) _).cell (World.block_lt_of_cell? _ _ h1)).trans h1)
  have HN2 := Lib.hid HN
  clear HN
  have HS := Lib.hid hs
  clear hs
  go_enter Tryz.func36, Tryz.ntmps36
  go_wp2
  go_loop [3] (fun n => ∃ k : Nat, k ≤ l.length ∧ n = .int .i64 k ∧ Hid (val (l.take k) = val l)) (fun n => (intOf n).toNat)
  case atStart => exact ⟨l.length, Nat.le_refl _, rfl, Lib.hid (by simp)⟩
  case round =>
    obtain ⟨k, hk, rfl, HV⟩ := hrel
    by_cases h0 : 0 < k
    · obtain ⟨j, rfl⟩ : ∃ j, k = j + 1 := ⟨k - 1, by omega⟩
      have hj : j < l.length := by omega
      have hcell : w.cell? (a.add j) = some (.int .u32 (l[j] : Int)) := cells_at HC.out hj
      by_cases hx : l[j] = 0
      · rw [hx] at hcell
        go_wp2
        go_round
        case rel =>
          refine ⟨j, by omega, by go_num, Lib.hid ?_⟩
          have := HV.out
          rw [val_take_succ _ _ hj, hx] at this
          simpa using this
        case measure => simp [intOf]
      · have hx' : ((l[j] : Int) == 0) = false := by simp; exact hx
        have HX := Lib.hid hx
        clear hx
        have C1 : Hid (0 + (j + 1) ≤ maxLen) := Lib.hid (by unfold maxLen; omega)
        have C2 : Hid ((0 + (j + 1)) * 4 ≤ 140737488355328) := Lib.hid (by omega)
        have C3 : Hid ((lv (l.take (j + 1))).length = (j + 1) * 1) := Lib.hid (by simp [lv_length]; omega)
        go_wp2_with (at_builtin; refine wpList_append_own _ rfl _ _ 22 rfl w.heap.size 43 i0 (.int .u32 0) 1 4 Tryz.underlying22 hi hz0 hz1 hz2 rfl (by decide) _ _ _ rfl hown a (j + 1) cap (lv (l.take (j + 1))) rfl C3.out (HN2.out (j + 1) (by omega)).out (lv_oneCell _) C1.out C2.out (by simp) ?_; intro v' w1 hown' hgrow _)
        simp only [Nat.zero_add, List.nil_append] at hown'
        have hg2 : (w.alloc (.cells #[] 43)).grownBy w1 (some w.heap.size) := hgrow
        go_ret
        have e : (l.take (j + 1)).length = j + 1 := by simp; omega
        exact ⟨_, rfl, own_take (by rw [e]; exact hown') HS.out (by omega) HV.out (.inr (by simpa [List.getD, hj] using HX.out)), ((Below.refl _ _).alloc (Nat.le_refl _) _).grown hg2 (by simp) (by simp)⟩
    · obtain rfl : k = 0 := by omega
      clear h0
      have C1 : Hid (0 + 0 ≤ maxLen) := Lib.hid (by unfold maxLen; omega)
      have C2 : Hid ((0 + 0) * 4 ≤ 140737488355328) := Lib.hid (by omega)
      go_wp2_with (at_builtin; refine wpList_append_own _ rfl _ _ 22 rfl w.heap.size 43 i0 (.int .u32 0) 1 4 Tryz.underlying22 hi hz0 hz1 hz2 rfl (by decide) _ _ _ rfl hown a 0 cap (lv (l.take 0)) rfl rfl (HN2.out 0 (by omega)).out (lv_oneCell _) C1.out C2.out (by simp) ?_; intro v' w1 hown' hgrow _)
      have hg2 : (w.alloc (.cells #[] 43)).grownBy w1 (some w.heap.size) := hgrow
      go_ret
      exact ⟨_, rfl, own_take (k := 0) hown' HS.out (by omega) HV.out (.inl rfl), ((Below.refl _ _).alloc (Nat.le_refl _) _).grown hg2 (by simp) (by simp)⟩

theorem OwnX_first (w : World) : (w.alloc (.cells #[] 43)).ownsRow w.heap.size 43 1 (.slice (some ⟨w.heap.size, 0, none⟩) 0 0) 0 [] := World.ownsRow_made w #[] 0 (Nat.le_refl _) (Nat.zero_le _) (by simp)

set_option maxHeartbeats 400000 in
set_option maxRecDepth 100000 in
theorem r1make_nil (w : World) : Calls Tryz.prog 36 #[.slice none 0 0] w (RNatO w 0) := by
  go_enter Tryz.func36, Tryz.ntmps36
  go_wp2
  refine wp_loop_rounds 1 ?_
  rw [rounds_succ]
  go_wp2
  go_ret
  exact ⟨_, rfl, by rw [dig_zero]; exact (OwnX_first w), Fol.new _ _⟩

theorem r1make_own (v : Value) (l : List Nat) (w : World) (h : Raw w v l) (hs : Small l) (hl : l.length ≤ 1099511627776) : Calls Tryz.prog 36 #[v] w (RNatO w (val l)) := by
  obtain ⟨o, cap, rfl, hc, hn, hx⟩ := h.form
  cases o with
  | none =>
    have h0 : l.length = 0 := by have := hn rfl; omega
    have : l = [] := List.eq_nil_of_length_eq_zero h0
    subst this
    rw [hn rfl]
    exact r1make_nil w
  | some a => exact r1make_some a cap l w hs hl hc (hx a rfl)

theorem r1make_any (v : Value) (l : List Nat) (w : World) (h : Raw w v l) (hs : Small l) (hl : l.length ≤ 1099511627776) : Calls Tryz.prog 36 #[v] w (RNat w (val l)) :=
  (r1make_own v l w h hs hl).mono fun _ _ h => h.nat

theorem raw_min (most len : Nat) : min (len : Int) most = ((min len most : Nat) : Int) := by omega

set_option maxHeartbeats 400000 in
set_option maxRecDepth 100000 in
theorem made_any (v : Value) (l : List Nat) (most : Nat) (w : World) (h : Raw w v l) (hs : Small l) (hm : most ≤ 1000000) :
    Calls Tryz.prog 12 #[v, .int .i64 most] w (RNat w (val (l.take most))) := by
  obtain ⟨o, cap, rfl, hc, hn, hx⟩ := h.form
  cases o with
  | none =>
    have h0 : l.length = 0 := by have := hn rfl; omega
    have : l = [] := List.eq_nil_of_length_eq_zero h0
    subst this
    rw [hn rfl]
    have HM := Lib.hid (fun w' => (r1make_nil w').mono fun _ _ h => h.nat)
    have e1 : min (0 : Int) most = 0 := by omega
    simp only [List.length_nil]
    rw [List.take_nil]
    clear h hx hs hn
    go_enter Tryz.func12, Tryz.ntmps12
    go_wp2_with ((go_at_call 36; (with_reducible refine (HM.out _).mono ?_)); rintro e w1 ⟨v1, rfl, hv, k⟩)
    go_ret
    exact ⟨_, rfl, hv, k⟩
  | some a =>
    have hk : (l.take most).length = min l.length most := by rw [List.length_take, Nat.min_comm]
    have HM := Lib.hid (r1make_any (.slice (some a) (l.take most).length cap) (l.take most) w ⟨_, cap, rfl, by omega, (fun h => by cases h), fun a' ha => by cases ha; exact cells_take (hx a rfl) most⟩ (small_take hs _) (by omega))
    rw [hk] at HM
    have e1 := raw_min most l.length
    have e2 : min l.length most ≤ cap := by omega
    clear h hx hs hn hk
    generalize min l.length most = k at *
    go_enter Tryz.func12, Tryz.ntmps12
    go_wp2_with ((go_at_call 36; (with_reducible refine (HM.out).mono ?_)); rintro e w1 ⟨v1, rfl, hv, k⟩)
    go_ret
    exact ⟨_, rfl, hv, k⟩

set_option maxHeartbeats 400000 in
set_option maxRecDepth 100000 in
theorem limb_any (v : Value) (l : List Nat) (i : Nat) (w : World) (h : Sl w v l) (hs : Small l) (hl : l.length < 4611686018427387904) :
    Calls Tryz.prog 63 #[v, .int .i64 i] w fun e w' => e = .returned (.int .u64 (lim l i : Nat)) ∧ w = w' := by
  have hlim := lim_lt hs i
  unfold lim at hlim ⊢
  by_cases hlt : i < l.length
  · rcases h.open with ⟨o, cap, rfl, rfl, hn⟩ | ⟨b, off, cap, rfl, hne, hc, _, hx⟩
    · simp at hlt
    · have hcell := hx i _ (getD_eq hlt)
      clear hx h hs
      generalize l.getD i 0 = x at hcell hlim ⊢
      have h1 : decide ((l.length : Int) ≤ i) = false := by simp; omega
      have h2 : decide (l.length ≤ i) = false := by simp; omega
      have h3 : IntKind.u64.wrap (x : Int) = x := by rw [IntKind.wrap_u64]; omega
      go_enter Tryz.func63, Tryz.ntmps63
      go_wp2
      go_ret
      exact ⟨rfl, rfl⟩
  · rw [getD_out (by omega)]
    obtain ⟨o, cap, rfl, hc, hn⟩ := h.slice
    clear h hs hlim
    have h1 : decide ((l.length : Int) ≤ i) = true := by simp; omega
    have h2 : decide (l.length ≤ i) = true := by simp; omega
    go_enter Tryz.func63, Tryz.ntmps63
    go_wp2
    go_ret
    exact ⟨rfl, rfl⟩
theorem limb_nat (v : Value) (m i : Nat) (z : Int) (hz : z = i) (w : World) (h : NatV w v m) (hm : Big m) :
    Calls Tryz.prog 63 #[v, .int .i64 z] w fun e w' => e = .returned (.int .u64 (lim (dig m) i : Nat)) ∧ w = w' := by
  rw [hz]; exact limb_any v (dig m) i w h (small_dig m) (by unfold Big at hm; omega)
end Go.Proofs.YtckahcgolfnobaaGreatDoor
