/- A limb of a row; which of two naturals is less. -/
import Derived.Test.YtckahcgolfnobaaGreatDoorBitf
namespace Go.Proofs.YtckahcgolfnobaaGreatDoor
open Go Go.RowKit

theorem getD_eq {l : List Nat} {i : Nat} (h : i < l.length) : l[i]? = some (l.getD i 0) := by simp [List.getD, h]
theorem getD_out {l : List Nat} {i : Nat} (h : l.length ≤ i) : l.getD i 0 = 0 := by simp [List.getD, List.getElem?_eq_none h]

/-- Limb i; 0 beyond. -/
def lim (l : List Nat) (i : Nat) : Nat := l.getD i 0
theorem lim_lt {l : List Nat} (h : Small l) (i : Nat) : lim l i < 4294967296 := small_getD h i

set_option maxHeartbeats 400000 in
set_option maxRecDepth 100000 in
theorem at_any (v : Value) (l : List Nat) (i : Nat) (w : World) (h : Sl w v l) (hl : l.length < 4611686018427387904) :
    Calls Tryz.prog 91 #[v, .int .i64 i] w fun e w' => e = .returned (.int .u32 (lim l i : Nat)) ∧ w = w' := by
  unfold lim
  by_cases hlt : i < l.length
  · rcases h.open with ⟨o, cap, rfl, rfl, hn⟩ | ⟨b, off, cap, rfl, hne, hc, _, hx⟩
    · simp at hlt
    · have hcell := hx i _ (getD_eq hlt)
      clear hx h
      generalize l.getD i 0 = x at hcell ⊢
      have h1 : decide ((l.length : Int) ≤ i) = false := by simp; omega
      have h2 : decide (l.length ≤ i) = false := by simp; omega
      go_enter Tryz.func91, Tryz.ntmps91
      go_wp2
      go_ret
      exact ⟨rfl, rfl⟩
  · rw [getD_out (by omega)]
    obtain ⟨o, cap, rfl, hc, hn⟩ := h.slice
    clear h
    have h1 : decide ((l.length : Int) ≤ i) = true := by simp; omega
    have h2 : decide (l.length ≤ i) = true := by simp; omega
    go_enter Tryz.func91, Tryz.ntmps91
    go_wp2
    go_ret
    exact ⟨rfl, rfl⟩

def ncmp (m n : Nat) : Int := if m < n then -1 else if n < m then 1 else 0

theorem val_split (l : List Nat) (j : Nat) (h : j ≤ l.length) : val l = val (l.take j) + 4294967296 ^ j * val (l.drop j) := by
  have := val_append (l.take j) (l.drop j)
  rw [List.take_append_drop] at this
  rw [this]; simp [Nat.min_eq_left h]

theorem val_lt_of {l m : List Nat} (hs : Small l) (hlen : l.length = m.length) {j : Nat} (hj : j < l.length) (hd : l.drop (j + 1) = m.drop (j + 1)) (hlt : l.getD j 0 < m.getD j 0) : val l < val m := by
  rw [val_split l (j + 1) (by omega), val_split m (j + 1) (by omega), hd]
  have h1 := val_take_succ l j hj
  have h2 := val_take_succ m j (by omega)
  have e1 : l.getD j 0 = l[j] := by simp [List.getD, hj]
  have e2 : m.getD j 0 = m[j]'(by omega) := by simp [List.getD, show j < m.length by omega]
  have h3 := val_lt (small_take hs j)
  rw [show (l.take j).length = j by simp; omega] at h3
  have h4 : 4294967296 ^ j * (l[j] + 1) ≤ 4294967296 ^ j * m[j]'(by omega) := Nat.mul_le_mul_left _ (by omega)
  rw [Nat.mul_add] at h4
  omega

theorem dig_lt_of_length {m n : Nat} (h : (dig m).length < (dig n).length) : m < n := by
  apply Nat.lt_of_not_le
  intro hle
  have := dig_length_mono hle
  omega

theorem drop_step {l m : List Nat} (hlen : l.length = m.length) {j : Nat} (hj : j < l.length) (hd : l.drop (j + 1) = m.drop (j + 1)) (he : l.getD j 0 = m.getD j 0) : l.drop j = m.drop j := by
  have e1 : l.getD j 0 = l[j] := by simp [List.getD, hj]
  have e2 : m.getD j 0 = m[j]'(by omega) := by simp [List.getD, show j < m.length by omega]
  rw [List.drop_eq_getElem_cons hj, List.drop_eq_getElem_cons (show j < m.length by omega), hd]
  congr 1
  omega

set_option maxHeartbeats 400000 in
set_option maxRecDepth 100000 in
theorem cmp_same (b off cap b' off' cap' : Nat) (l m : List Nat) (w : World) (hs : Small l) (hs' : Small m) (hlen : l.length = m.length) (hbd : l.length < 4611686018427387904)
    (hc : ∀ (i x : Nat), l[i]? = some x → w.cell? ⟨b, off + i, none⟩ = some (.int .u32 (x : Int))) (hc' : ∀ (i x : Nat), m[i]? = some x → w.cell? ⟨b', off' + i, none⟩ = some (.int .u32 (x : Int))) :
    Calls Tryz.prog 45 #[.slice (some ⟨b, off, none⟩) l.length cap, .slice (some ⟨b', off', none⟩) l.length cap'] w fun e w' => e = .returned (.int .i64 (ncmp (val l) (val m))) ∧ Drawn w w' := by
  have HC := Lib.hid hc
  have HC' := Lib.hid hc'
  have HL := Lib.hid hlen
  have HS := Lib.hid hs
  have HS' := Lib.hid hs'
  clear hc hc' hlen hs hs'
  generalize hN : l.length = N at *
  have HN := Lib.hid hN
  clear hN
  go_enter Tryz.func45, Tryz.ntmps45
  go_wp2
  go_loopw [5] (fun n wr => ∃ t : Int, -1 ≤ t ∧ t < N ∧ n = .int .i64 t ∧ Hid (l.drop (t + 1).toNat = m.drop (t + 1).toNat) ∧ Drawn w wr) (fun n _ => (intOf n + 1).toNat)
  case atStart =>
    refine ⟨(N : Int) - 1, by omega, by omega, rfl, Lib.hid ?_, Drawn.refl _⟩
    rw [show ((N : Int) - 1 + 1).toNat = N by omega]
    rw [List.drop_of_length_le (by rw [HN.out]; exact Nat.le_refl _), List.drop_of_length_le (by rw [← HL.out]; exact Nat.le_refl _)]
  case round =>
    obtain ⟨t, ht1, ht2, rfl, hd, hdr'⟩ := hrel
    have hdr := Lib.hid hdr'
    have hcw : ∀ a, wr.cell? a = w.cell? a := fun a => by obtain ⟨d, rfl⟩ := hdr'; rfl
    clear hdr'
    by_cases h0 : 0 ≤ t
    · obtain ⟨j, rfl⟩ := Int.eq_ofNat_of_zero_le h0
      have hj : j < N := by omega
      have hjl : j < l.length := by rw [HN.out]; exact hj
      have hjm : j < m.length := by rw [← HL.out]; exact hj
      have hx := small_getD HS.out j
      have hy := small_getD HS'.out j
      have c1 : wr.cell? ⟨b, off + j, none⟩ = some (.int .u32 (l.getD j 0 : Nat)) := (hcw _).trans (HC.out j _ (getD_eq hjl))
      have c2 : wr.cell? ⟨b', off' + j, none⟩ = some (.int .u32 (m.getD j 0 : Nat)) := (hcw _).trans (HC'.out j _ (getD_eq hjm))
      clear hcw
      have HX : Hid (l.getD j 0 < m.getD j 0 → val l < val m) := Lib.hid (val_lt_of HS.out (by rw [HN.out, HL.out]) hjl hd.out)
      have HY : Hid (m.getD j 0 < l.getD j 0 → val m < val l) := Lib.hid (val_lt_of HS'.out (by rw [HN.out, HL.out]) hjm hd.out.symm)
      have HE : Hid (l.getD j 0 = m.getD j 0 → l.drop j = m.drop j) := Lib.hid (drop_step (by rw [HN.out, HL.out]) hjl hd.out)
      generalize l.getD j 0 = x at *
      generalize m.getD j 0 = y at *
      by_cases hlt : x < y
      · go_wp2
        go_quiet (fail)
        go_wp2
        go_ret
        exact ⟨ret_i (by have := HX.out hlt; unfold ncmp; rw [if_pos this]), hdr.out.more _⟩
      · by_cases hgt : y < x
        · go_wp2
          go_quiet (fail)
          go_wp2
          go_quiet (fail)
          go_wp2
          go_ret
          exact ⟨ret_i (by have := HY.out hgt; unfold ncmp; rw [if_neg (by omega), if_pos this]), (hdr.out.more _).more _⟩
        · have hxy : x = y := by omega
          have HE2 : Hid (l.drop j = m.drop j) := Lib.hid (HE.out hxy)
          clear HE
          subst hxy
          go_wp2
          go_quiet (fail)
          go_wp2
          go_quiet (fail)
          go_wp2
          go_roundw
          case rel => exact ⟨(j : Int) - 1, by omega, by omega, by go_num, Lib.hid (by simpa using HE2.out), hdr.out.more _⟩
          case measure => simp [intOf]
    · obtain rfl : t = -1 := by omega
      clear hcw
      go_wp2
      go_ret
      have he : l = m := by simpa using hd.out
      exact ⟨ret_i (by rw [he]; unfold ncmp; simp), hdr.out⟩

set_option maxHeartbeats 400000 in
set_option maxRecDepth 100000 in
theorem cmp_apart (o o' : Option Addr) (n cap n' cap' : Nat) (w : World) (h : n ≠ n') (hn : n < 4611686018427387904) (hn' : n' < 4611686018427387904) :
    Calls Tryz.prog 45 #[.slice o n cap, .slice o' n' cap'] w fun e w' => e = .returned (.int .i64 (if n < n' then -1 else 1)) ∧ w = w' := by
  rcases Nat.lt_or_ge n n' with hlt | hge
  · rw [if_pos hlt]
    have h1 : ((n : Int) != n') = true := by simp; omega
    go_enter Tryz.func45, Tryz.ntmps45
    go_wp2
    all_goals (go_ret; exact ⟨ret_i (by omega), rfl⟩)
  · rw [if_neg (by omega)]
    have h1 : ((n : Int) != n') = true := by simp; omega
    have h2 : n' < n := by omega
    go_enter Tryz.func45, Tryz.ntmps45
    go_wp2
    all_goals (go_ret; exact ⟨ret_i (by omega), rfl⟩)

theorem cmp_any (v v' : Value) (m n : Nat) (w : World) (h : NatV w v m) (h' : NatV w v' n) (hm : (dig m).length < 4611686018427387904) (hn : (dig n).length < 4611686018427387904) :
    Calls Tryz.prog 45 #[v, v'] w fun e w' => e = .returned (.int .i64 (ncmp m n)) ∧ Drawn w w' := by
  by_cases hlen : (dig m).length = (dig n).length
  · rcases Sl.open h with ⟨o, cap, rfl, hl, hn0⟩ | ⟨b, off, cap, rfl, hne, hc, _, hx⟩
    · have h2 : dig n = [] := List.eq_nil_of_length_eq_zero (by rw [← hlen, hl]; rfl)
      have e1 : m = 0 := by have := val_dig m; rw [hl] at this; exact this.symm
      have e2 : n = 0 := by have := val_dig n; rw [h2] at this; exact this.symm
      subst e1; subst e2
      obtain ⟨o', cap', rfl, _, _⟩ := NatV.slice h'
      rw [dig_zero]
      go_enter Tryz.func45, Tryz.ntmps45
      go_wp2
      refine wp_loop_rounds 1 ?_
      rw [rounds_succ]
      go_wp2
      go_ret
      exact ⟨rfl, Drawn.refl _⟩
    · rcases Sl.open h' with ⟨o', cap', rfl, hl', hn0'⟩ | ⟨b', off', cap', rfl, hne', hc', _, hx'⟩
      · exact absurd (List.eq_nil_of_length_eq_zero (by rw [hlen, hl']; rfl)) hne
      · have := cmp_same b off cap b' off' cap' (dig m) (dig n) w (small_dig m) (small_dig n) hlen hm hx hx'
        rw [val_dig, val_dig, hlen] at this
        rw [hlen]; exact this
  · obtain ⟨o, cap, rfl, _, _⟩ := NatV.slice h
    obtain ⟨o', cap', rfl, _, _⟩ := NatV.slice h'
    refine (cmp_apart o o' _ cap _ cap' w hlen hm hn).mono ?_
    rintro e w' ⟨rfl, rfl⟩
    refine ⟨ret_i ?_, Drawn.refl _⟩
    unfold ncmp
    by_cases hlt : (dig m).length < (dig n).length
    · rw [if_pos hlt, if_pos (dig_lt_of_length hlt)]
    · have := dig_lt_of_length (show (dig n).length < (dig m).length by omega)
      rw [if_neg hlt, if_neg (by omega), if_pos this]

end Go.Proofs.YtckahcgolfnobaaGreatDoor
