/- mul.third. -/
import Derived.Test.YtckahcgolfnobaaGreatDoorPart
namespace Go.Proofs.YtckahcgolfnobaaGreatDoor
open Go Go.RowKit

/-- j limbs of l are still to come, from the top; r is the rest. -/
structure DivR (l : List Nat) (d j r : Nat) (out : List Nat) : Prop where
  len : out.length = l.length
  small : Small out
  rest : r < d
  eq : d * val out + (4294967296 ^ j * r + val (l.take j)) = val l
  zero : ∀ i, i < j → lim out i = 0

theorem DivR.first (l : List Nat) (d : Nat) (hd : 0 < d) : DivR l d l.length 0 (List.replicate l.length 0) :=
  ⟨by simp, small_replicate _, hd, by have := replicate_val l.length []; simp only [List.append_nil, val, Nat.mul_zero] at this; simp [this], fun i _ => lim_replicate _ i⟩

theorem DivR.step {l : List Nat} {d j r : Nat} {out : List Nat} (h : DivR l d (j + 1) r out) (hj : j < l.length) (hl : lim l j < 4294967296) (hd : d ≤ 4294967296) :
    DivR l d j ((r * 4294967296 + lim l j) % d) (out.set j ((r * 4294967296 + lim l j) / d)) := by
  have hr := h.rest
  have hq : (r * 4294967296 + lim l j) / d < 4294967296 := by
    rw [Nat.div_lt_iff_lt_mul (by omega)]
    have : (r + 1) * 4294967296 ≤ d * 4294967296 := Nat.mul_le_mul_right _ hr
    omega
  refine ⟨by simp [h.len], small_set h.small _ _ hq, Nat.mod_lt _ (by omega), ?_, fun i hi => ?_⟩
  · have h1 := h.eq
    have h2 := val_set out j ((r * 4294967296 + lim l j) / d) (by rw [h.len]; exact hj)
    rw [h.zero j (by omega)] at h2
    have h3 : val (l.take (j + 1)) = val (l.take j) + 4294967296 ^ j * lim l j := by
      rw [val_take_succ l j hj]; simp [lim, List.getD, hj]
    have h4 := Nat.mod_add_div (r * 4294967296 + lim l j) d
    rw [h3, Nat.pow_succ] at h1
    generalize (r * 4294967296 + lim l j) % d = R at *
    generalize (r * 4294967296 + lim l j) / d = Q at *
    generalize 4294967296 ^ j = P at *
    have h6 : P * (R + d * Q) = P * (r * 4294967296 + lim l j) := by rw [h4]
    grind
  · rw [lim_set, if_neg (by omega)]
    exact h.zero i (by omega)

theorem DivR.last {l : List Nat} {d r : Nat} {out : List Nat} (h : DivR l d 0 r out) : val out = val l / d ∧ r = val l % d := by
  have h1 := h.eq
  simp only [Nat.pow_zero, Nat.one_mul, List.take_zero, val, Nat.add_zero] at h1
  have hr := h.rest
  rw [← h1, Nat.mul_add_div (by omega), Nat.div_eq_of_lt hr, Nat.mul_add_mod, Nat.mod_eq_of_lt hr]
  exact ⟨rfl, rfl⟩

theorem u64_join {r x : Nat} (hr : r < 4294967296) (hx : x < 4294967296) : bits .or .u64 ((r : Int) * 4294967296) (x : Int) = ((r * 4294967296 + x : Nat) : Int) := by
  rw [show ((r : Int) * 4294967296) = ((r * 4294967296 : Nat) : Int) from by omega, u64_or_nat _ _ (by omega) (by omega), nat_join 32 _ _ (by omega) (by omega)]

set_option maxHeartbeats 400000 in
set_option maxRecDepth 100000 in
theorem third_walk (o : Option Addr) (N cap : Nat) (l : List Nat) (w : World) (hs : Small l) (hN : l.length = N) (hn : N < 1073741824)
    (hc : ∀ (i : Nat), i < N → ∃ b off, o = some ⟨b, off, none⟩ ∧ b < w.heap.size ∧ w.cell? ⟨b, off + i, none⟩ = some (.int .u32 (lim l i : Nat))) :
    Calls Tryz.prog 107 #[.slice o N cap] w (RNat w (val l / 3)) := by
  have HC := Lib.hid hc
  have HN := Lib.hid hN
  have HS := Lib.hid hs
  have hF := Lib.hid (DivR.first l 3 (by omega))
  rw [hN] at hF
  have hmk := make_run N N (Nat.le_refl _) (by omega) w
  rw [zrow_rowW] at hmk
  clear hc hN hs
  go_enter Tryz.func107, Tryz.ntmps107
  go_wp2
  go_loopw [4, 5] (fun rv t wr => ∃ j r : Nat, j ≤ N ∧ t = .int .i64 ((j : Int) - 1) ∧ rv = .int .u64 r ∧ ∃ out, wr = rowW w out ∧ Hid (DivR l 3 j r out)) (fun _ t _ => (intOf t + 1).toNat)
  case atStart => exact ⟨N, 0, Nat.le_refl _, rfl, rfl, _, rfl, hF⟩
  case round =>
    clear hF
    obtain ⟨j, r, hj, rfl, rfl, out, rfl, hR⟩ := hrel
    cases j with
    | zero =>
      have hm := Lib.hid (rowW_make w out N N (val l / 3) (by rw [hR.out.len, HN.out]) (Nat.le_refl _) hR.out.small (by omega) hR.out.last.1)
      go_wp2_with (go_at_call 69; (with_reducible refine hm.out.mono ?_); rintro e w' ⟨v, rfl, hv, hbl⟩)
      go_ret
      exact ⟨_, rfl, hv, hbl⟩
    | succ j =>
      obtain ⟨b, off, rfl, hb, hcell⟩ := HC.out j (by omega)
      have hc1 := (rowW_old w out (a := ⟨b, off + j, none⟩) hb).trans hcell
      have hc3 := rowW_cell w out (i := j) (by rw [hR.out.len, HN.out]; omega)
      have hf3 := rowW_frozen w out j
      have hst := Lib.hid (hR.out.step (by rw [HN.out]; omega) (lim_lt HS.out j) (by omega))
      have hr := hR.out.rest
      have hx := lim_lt HS.out j
      generalize lim l j = x at *
      have e0 : ((j + 1 : Nat) : Int) - 1 = j := by omega
      have e1 := u64_join (r := r) (x := x) (by omega) hx
      rw [e0]
      go_wp2
      rw [show ((r : Int) * 4294967296 + x) / 3 = ((r * 4294967296 + x) / 3 : Nat) by omega, rowW_set]
      go_roundw
      case rel => exact ⟨j, (r * 4294967296 + x) % 3, by omega, rfl, by go_num, _, rfl, hst⟩
      case measure => simp [intOf]

theorem third_any (v : Value) (m : Nat) (w : World) (h : NatV w v m) (hm : Big m) : Calls Tryz.prog 107 #[v] w (RNat w (m / 3)) := by
  obtain ⟨o, cap, rfl, _, hg⟩ := Sl.gen h
  have := third_walk o _ cap (dig m) w (small_dig m) rfl hm hg
  rwa [val_dig] at this
end Go.Proofs.YtckahcgolfnobaaGreatDoor
