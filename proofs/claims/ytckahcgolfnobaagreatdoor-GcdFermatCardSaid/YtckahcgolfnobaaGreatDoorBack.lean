/- div.back. -/
import Derived.Test.YtckahcgolfnobaaGreatDoorTake
namespace Go.Proofs.YtckahcgolfnobaaGreatDoor
open Go Go.RowKit

structure BackI (y l0 : List Nat) (off k c : Nat) (l : List Nat) : Prop where
  len : l.length = l0.length
  small : Small l
  one : c ≤ 1
  eq : val l + 4294967296 ^ (off + k) * c = val l0 + 4294967296 ^ off * val (y.take k)
  top : ∀ j, off + k ≤ j → lim l j = lim l0 j

def adc (x y c : Nat) : Nat := (x + y + c) % 4294967296
def acy (x y c : Nat) : Nat := (x + y + c) / 4294967296

theorem BackI.step {y l0 : List Nat} {off k c : Nat} {l : List Nat} (h : BackI y l0 off k c l) (hj : off + k < l0.length) (hk : k < y.length) (hy : lim y k < 4294967296) :
    BackI y l0 off (k + 1) (acy (lim l (off + k)) (lim y k) c) (l.set (off + k) (adc (lim l (off + k)) (lim y k) c)) := by
  have hc := h.one
  have hx := lim_lt h.small (off + k)
  unfold acy adc
  refine ⟨by simp [h.len], small_set h.small _ _ (Nat.mod_lt _ (by omega)), by omega, ?_, fun j hj => ?_⟩
  · have h1 := val_set l (off + k) ((lim l (off + k) + lim y k + c) % 4294967296) (by rw [h.len]; exact hj)
    have h2 := h.eq
    have h3 : val (y.take (k + 1)) = val (y.take k) + 4294967296 ^ k * lim y k := by
      rw [val_take_succ y k hk]; simp [lim, List.getD, hk]
    have h4 := Nat.mod_add_div (lim l (off + k) + lim y k + c) 4294967296
    rw [h3, show off + (k + 1) = off + k + 1 by omega, Nat.pow_succ]
    have h5 : 4294967296 ^ (off + k) = 4294967296 ^ off * 4294967296 ^ k := Nat.pow_add _ _ _
    generalize (lim l (off + k) + lim y k + c) % 4294967296 = R at *
    generalize (lim l (off + k) + lim y k + c) / 4294967296 = Q at *
    generalize lim y k = yk at *
    generalize lim l (off + k) = x at *
    generalize 4294967296 ^ (off + k) = P at *
    generalize 4294967296 ^ off = A at *
    generalize 4294967296 ^ k = D at *
    have h6 : P * (R + 4294967296 * Q) = P * (x + yk + c) := by rw [h4]
    grind
  · rw [lim_set, if_neg (by omega)]
    exact h.top j (by omega)

/-- What back leaves behind it. -/
structure BackF (y l0 : List Nat) (off : Nat) (l : List Nat) : Prop where
  len : l.length = l0.length
  small : Small l
  eq : ∃ ov, val l + 4294967296 ^ (off + y.length + 1) * ov = val l0 + 4294967296 ^ off * val y
  top : ∀ j, off + y.length < j → lim l j = lim l0 j

theorem BackI.last {y l0 : List Nat} {off c : Nat} {l : List Nat} (h : BackI y l0 off y.length c l) (hj : off + y.length < l0.length) :
    BackF y l0 off (l.set (off + y.length) ((lim l (off + y.length) + c) % 4294967296)) := by
  refine ⟨by simp [h.len], small_set h.small _ _ (Nat.mod_lt _ (by omega)), ⟨(lim l (off + y.length) + c) / 4294967296, ?_⟩, fun j hj => ?_⟩
  · have h1 := val_set l (off + y.length) ((lim l (off + y.length) + c) % 4294967296) (by rw [h.len]; exact hj)
    have h2 := h.eq
    have h4 := Nat.mod_add_div (lim l (off + y.length) + c) 4294967296
    rw [List.take_length] at h2
    rw [Nat.pow_succ]
    generalize (lim l (off + y.length) + c) % 4294967296 = R at *
    generalize (lim l (off + y.length) + c) / 4294967296 = Q at *
    generalize lim l (off + y.length) = x at *
    generalize 4294967296 ^ (off + y.length) = P at *
    have h6 : P * (R + 4294967296 * Q) = P * (x + c) := by rw [h4]
    grind
  · rw [lim_set, if_neg (by omega)]
    exact h.top j (by omega)

theorem add32_adc (x y c : Nat) (w : World) (hx : x < 4294967296) (hy : y < 4294967296) (hc : c ≤ 1) :
    Calls Tryz.prog 96 #[.int .u32 x, .int .u32 y, .int .u32 c] w fun e w' => e = .returned (.tuple #[.int .u32 (adc x y c : Nat), .int .u32 (acy x y c : Nat)]) ∧ w = w' := add32_any x y c w hx hy hc

def BackR (y l0 : List Nat) (g off : Nat) (w w' : World) : Prop := ∃ l, BackF y l0 off l ∧ RowAt w' g l ∧ Oth g w w'

set_option maxHeartbeats 400000 in
set_option maxRecDepth 100000 in
theorem back_walk (g off n cap cy : Nat) (oy : Option Addr) (y l0 : List Nat) (w : World) (hn : y.length = n) (hsy : Small y) (hsl : Small l0) (hl : off + n < l0.length) (hbig : l0.length < 1073741824)
    (hr : RowAt w g l0) (hy : ∀ (i : Nat), i < n → ∃ p o, oy = some ⟨p, o, none⟩ ∧ p ≠ g ∧ w.cell? ⟨p, o + i, none⟩ = some (.int .u32 (lim y i : Nat))) :
    Calls Tryz.prog 74 #[.slice (some ⟨g, off, none⟩) (n + 1 : Nat) cap, .slice oy n cy] w fun e w' => (∃ v, e = .returned v) ∧ BackR y l0 g off w w' := by
  have HY := Lib.hid hy
  have HN := Lib.hid hn
  have HSY := Lib.hid hsy
  have HI : Hid (BackI y l0 off 0 0 l0) := Lib.hid ⟨rfl, hsl, by omega, by simp [val], fun _ _ => rfl⟩
  clear hy hn hsy hsl
  have HL := Lib.hid hl
  have hl2 : n < 1073741824 := by omega
  have hl3 : off < 1073741824 := by omega
  clear hl hbig
  go_enter Tryz.func74, Tryz.ntmps74
  go_wp2
  go_loopw [4, 5, 8] (fun cv _ t wr => ∃ k c : Nat, k ≤ n ∧ t = .int .i64 k ∧ cv = .int .u32 c ∧ ∃ l, Hid (BackI y l0 off k c l) ∧ Hid (RowAt wr g l) ∧ Hid (Oth g w wr)) (fun _ _ t _ => n - (intOf t).toNat)
  case atStart => exact ⟨0, 0, by omega, rfl, rfl, l0, HI, Lib.hid hr, Lib.hid (Oth.refl _ _)⟩
  case round =>
    obtain ⟨k, c, hk, rfl, rfl, l, hT, hR, hO⟩ := hrel
    clear HI hr
    have hlen := hT.out.len
    have hc3 : wr.drew.cell? ⟨g, off + k, none⟩ = some (.int .u32 (lim l (off + k) : Nat)) := hR.out.cell (by rw [hlen]; have := HL.out; omega)
    have hf3 : wr.drew.frozen? ⟨g, off + k, none⟩ = false := hR.out.frozen _
    have hx := lim_lt hT.out.small (off + k)
    have hb1 := hT.out.one
    clear hlen
    by_cases hkn : k < n
    · obtain ⟨p, o, rfl, hp, hc'⟩ := HY.out k hkn
      have hc4 : wr.drew.cell? ⟨p, o + k, none⟩ = some (.int .u32 (lim y k : Nat)) := (hO.out.cell (o := o + k) hp).trans hc'
      have hyk := lim_lt HSY.out k
      have HST := Lib.hid (hT.out.step (by have := HL.out; omega) (by rw [HN.out]; omega) hyk)
      have HSET := Lib.hid ((hR.out.mono (w' := wr.drew) rfl).set (off + k) (adc (lim l (off + k)) (lim y k) c))
      have HADD := Lib.hid (fun w => add32_adc (lim l (off + k)) (lim y k) c w hx hyk hb1)
      have hw1 : IntKind.i64.wrap ((off : Int) + k) = (off : Int) + k := by rw [IntKind.wrap_i64]; omega
      go_wp2
      go_region_with (go_at_call 96; (with_reducible refine (HADD.out _).mono ?_); rintro e w' ⟨rfl, rfl⟩)
      all_goals
        go_wp2
        go_roundw
        case rel => exact ⟨k + 1, _, by omega, by go_num, rfl, _, HST, HSET, Lib.hid ((hO.out.drew).set _ _)⟩
        case measure => simp [intOf]; omega
    · obtain rfl : k = n := by omega
      have HST := Lib.hid ((HN.out ▸ hT.out : BackI y l0 off y.length c l).last (by have := HL.out; have := HN.out; omega))
      rw [HN.out] at HST
      have hc5 : wr.cell? ⟨g, off + k, none⟩ = some (.int .u32 (lim l (off + k) : Nat)) := hc3
      have hf5 : wr.frozen? ⟨g, off + k, none⟩ = false := hf3
      have HSET := Lib.hid (hR.out.set (off + k) ((lim l (off + k) + c) % 4294967296))
      have e1 : IntKind.u32.wrap (((lim l (off + k) : Nat) : Int) + c) = ((lim l (off + k) + c) % 4294967296 : Nat) := by rw [IntKind.wrap_u32]; rfl
      go_wp2
      rw [show (((lim l (off + k) : Nat) : Int) + c) % 4294967296 = ((lim l (off + k) + c) % 4294967296 : Nat) by rw [← Int.natCast_add]; rfl]
      go_end0
      exact ⟨⟨_, rfl⟩, _, HST.out, HSET.out, hO.out.set _ _⟩
end Go.Proofs.YtckahcgolfnobaaGreatDoor
