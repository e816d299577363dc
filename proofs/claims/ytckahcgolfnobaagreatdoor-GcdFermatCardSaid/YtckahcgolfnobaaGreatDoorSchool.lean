/- mul.School. -/
import Derived.Test.YtckahcgolfnobaaGreatDoorRow
namespace Go.Proofs.YtckahcgolfnobaaGreatDoor
open Go Go.RowKit

/-- Where the inner loop stands: i limbs of a are done, k of b for the next one. -/
structure SchI (a b : List Nat) (i k c : Nat) (out : List Nat) : Prop where
  len : out.length = a.length + b.length
  small : Small out
  carry : c < 4294967296
  eq : val out + 4294967296 ^ (i + k) * c = val (a.take i) * val b + lim a i * (4294967296 ^ i * val (b.take k))
  zero : ∀ j, i + b.length ≤ j → lim out j = 0

theorem SchI.step {a b : List Nat} {i k c : Nat} {out : List Nat} (h : SchI a b i k c out) (hi : i < a.length) (hk : k < b.length) (hx : lim a i < 4294967296) (hy : lim b k < 4294967296) :
    SchI a b i (k + 1) ((c + (lim a i * lim b k + lim out (i + k))) / 4294967296) (out.set (i + k) ((c + (lim a i * lim b k + lim out (i + k))) % 4294967296)) := by
  have ho := lim_lt h.small (i + k)
  have hxy : lim a i * lim b k ≤ 4294967295 * 4294967295 := Nat.mul_le_mul (by omega) (by omega)
  have hc := h.carry
  refine ⟨by simp [h.len], small_set h.small _ _ (Nat.mod_lt _ (by omega)), by omega, ?_, fun j hj => ?_⟩
  · have h1 := h.eq
    have h2 := val_set out (i + k) ((c + (lim a i * lim b k + lim out (i + k))) % 4294967296) (by rw [h.len]; omega)
    have h3 : val (b.take (k + 1)) = val (b.take k) + 4294967296 ^ k * lim b k := by
      rw [val_take_succ b k hk]; simp [lim, List.getD, hk]
    have h4 := Nat.mod_add_div (c + (lim a i * lim b k + lim out (i + k))) 4294967296
    rw [h3, show i + (k + 1) = i + k + 1 by omega, Nat.pow_succ]
    have h5 : 4294967296 ^ (i + k) = 4294967296 ^ i * 4294967296 ^ k := Nat.pow_add _ _ _
    generalize (c + (lim a i * lim b k + lim out (i + k))) % 4294967296 = R at *
    generalize (c + (lim a i * lim b k + lim out (i + k))) / 4294967296 = Q at *
    generalize lim out (i + k) = o at *
    generalize 4294967296 ^ (i + k) = P at *
    generalize 4294967296 ^ i = A at *
    generalize 4294967296 ^ k = D at *
    have h6 : P * (R + 4294967296 * Q) = P * (c + (lim a i * lim b k + o)) := by rw [h4]
    grind
  · rw [lim_set]
    rw [if_neg (by omega)]
    exact h.zero j hj

theorem SchI.start {a b : List Nat} {i : Nat} {out : List Nat} (h1 : out.length = a.length + b.length) (h2 : Small out) (h3 : val out = val (a.take i) * val b) (h4 : ∀ j, i + b.length ≤ j → lim out j = 0) : SchI a b i 0 0 out :=
  ⟨h1, h2, by omega, by simp [h3, val], h4⟩

/-- The outer loop's rest: i limbs of a are done. -/
structure SchO (a b : List Nat) (i : Nat) (out : List Nat) : Prop where
  len : out.length = a.length + b.length
  small : Small out
  eq : val out = val (a.take i) * val b
  zero : ∀ j, i + b.length ≤ j → lim out j = 0

theorem SchO.first (a b : List Nat) : SchO a b 0 (List.replicate (a.length + b.length) 0) :=
  ⟨by simp, small_replicate _ , by simpa [val] using replicate_val (a.length + b.length) [], fun j _ => lim_replicate _ j⟩

theorem SchI.next {a b : List Nat} {i c : Nat} {out : List Nat} (h : SchI a b i b.length c out) (hi : i < a.length) : SchO a b (i + 1) (out.set (i + b.length) c) := by
  refine ⟨by simp [h.len], small_set h.small _ _ h.carry, ?_, fun j hj => ?_⟩
  · have h1 := h.eq
    have h2 := val_set out (i + b.length) c (by rw [h.len]; omega)
    rw [h.zero _ (Nat.le_refl _)] at h2
    have h3 : val (a.take (i + 1)) = val (a.take i) + 4294967296 ^ i * lim a i := by
      rw [val_take_succ a i hi]; simp [lim, List.getD, hi]
    rw [List.take_length] at h1
    rw [h3]
    grind
  · rw [lim_set, if_neg (by omega)]
    exact h.zero j (by omega)

theorem mul_step {c x y o : Nat} (hc : c < 4294967296) (hx : x < 4294967296) (hy : y < 4294967296) (ho : o < 4294967296) :
    IntKind.u64.wrap ((c : Int) + IntKind.u64.wrap (IntKind.u64.wrap ((x : Int) * IntKind.u64.wrap (y : Int)) + IntKind.u64.wrap (o : Int))) = ((c + (x * y + o) : Nat) : Int) := by
  have hxy : x * y ≤ 4294967295 * 4294967295 := Nat.mul_le_mul (by omega) (by omega)
  have e1 : IntKind.u64.wrap (y : Int) = y := by rw [IntKind.wrap_u64]; omega
  have e2 : IntKind.u64.wrap (o : Int) = o := by rw [IntKind.wrap_u64]; omega
  rw [e1, e2, ← Int.natCast_mul]
  generalize x * y = z at *
  simp only [IntKind.wrap_u64]
  omega

set_option maxHeartbeats 400000 in
set_option maxRecDepth 100000 in
theorem school_walk (oa ob : Option Addr) (la lb ca cb : Nat) (a b : List Nat) (w : World) (hsa : Small a) (hsb : Small b) (hla : a.length = la) (hlb : b.length = lb) (hab : la + lb ≤ 1073741824)
    (ha : ∀ (i : Nat), i < la → ∃ b off, oa = some ⟨b, off, none⟩ ∧ b < w.heap.size ∧ w.cell? ⟨b, off + i, none⟩ = some (.int .u32 (lim a i : Nat)))
    (hb : ∀ (i : Nat), i < lb → ∃ p off, ob = some ⟨p, off, none⟩ ∧ p < w.heap.size ∧ w.cell? ⟨p, off + i, none⟩ = some (.int .u32 (lim b i : Nat))) :
    Calls Tryz.prog 90 #[.slice oa la ca, .slice ob lb cb] w (RNat w (val a * val b)) := by
  have HA := Lib.hid ha
  have HB := Lib.hid hb
  have HLA := Lib.hid hla
  have HLB := Lib.hid hlb
  have HSA := Lib.hid hsa
  have HSB := Lib.hid hsb
  have hmk := make_run (la + lb) (la + lb) (Nat.le_refl _) (by omega) w
  rw [zrow_rowW, Int.natCast_add] at hmk
  have hF := Lib.hid (SchO.first a b)
  rw [hla, hlb] at hF
  clear ha hb hla hlb hsa hsb
  go_enter Tryz.func90, Tryz.ntmps90
  go_wp2
  go_loopw [6, 7, 8, 9, 10, 19] (fun _ _ _ _ _ t wr => ∃ i : Nat, i ≤ la ∧ t = .int .i64 i ∧ ∃ out : List Nat, wr = rowW w out ∧ Hid (SchO a b i out)) (fun _ _ _ _ _ t _ => la - (intOf t).toNat)
  case atStart => exact ⟨0, Nat.zero_le _, rfl, _, rfl, hF⟩
  case round =>
    obtain ⟨i, hi, rfl, out, rfl, hO⟩ := hrel
    by_cases hlt : i < la
    · obtain ⟨p, off, rfl, hp, hc⟩ := HA.out i hlt
      have hc1 := (rowW_old w out (a := ⟨p, off + i, none⟩) hp).trans hc
      have hx := lim_lt HSA.out i
      have hI := Lib.hid (SchI.start hO.out.len hO.out.small hO.out.eq hO.out.zero)
      generalize hX : lim a i = x at *
      have HX := Lib.hid hX
      clear hX
      go_wp2
      go_loopw [8, 9, 10, 26] (fun cv _ _ t wr => ∃ k c : Nat, k ≤ lb ∧ t = .int .i64 k ∧ cv = .int .u64 c ∧ ∃ out : List Nat, wr = rowW w out ∧ Hid (SchI a b i k c out)) (fun _ _ _ t _ => lb - (intOf t).toNat)
      case atStart => exact ⟨0, 0, Nat.zero_le _, rfl, rfl, _, rfl, hI⟩
      case round =>
        clear hI hc1 hO
        obtain ⟨k, c, hk, rfl, rfl, out, rfl, hI⟩ := hrel
        by_cases hlt' : k < lb
        · obtain ⟨p', off', rfl, hp', hc'⟩ := HB.out k hlt'
          have hc1 := (rowW_old w out (a := ⟨p, off + i, none⟩) hp).trans hc
          have hc2 := (rowW_old w out (a := ⟨p', off' + k, none⟩) hp').trans hc'
          have hc3 := rowW_cell w out (i := i + k) (by rw [hI.out.len, HLA.out, HLB.out]; omega)
          have hf3 := rowW_frozen w out (i + k)
          have hst := hI.out.step (by rw [HLA.out]; omega) (by rw [HLB.out]; omega) (by rw [HX.out]; exact hx) (lim_lt HSB.out k)
          rw [HX.out] at hst
          have hw := mul_step hI.out.carry hx (lim_lt HSB.out k) (lim_lt hI.out.small (i + k))
          have HS := Lib.hid hst
          clear hst
          go_wp2
          rw [show ((c : Int) + ((x : Int) * (lim b k : Nat) + (lim out (i + k) : Nat))) = ((c + (x * lim b k + lim out (i + k)) : Nat) : Int) by simp, show ((c + (x * lim b k + lim out (i + k)) : Nat) : Int) % 4294967296 = ((c + (x * lim b k + lim out (i + k))) % 4294967296 : Nat) from rfl, rowW_set]
          go_roundw
          case rel => exact ⟨k + 1, _, by omega, by go_num, rfl, _, rfl, HS⟩
          case measure => simp [intOf]; omega
        · obtain rfl : k = lb := by omega
          clear hlt'
          have hf4 := rowW_frozen w out (i + k)
          have hc4 := rowW_cell w out (i := i + k) (by rw [hI.out.len, HLA.out, HLB.out]; omega)
          have hw : ((c : Int) % 4294967296) = c := by have := hI.out.carry; omega
          have hN := Lib.hid ((HLB.out ▸ hI.out : SchI a b i b.length c out).next (by rw [HLA.out]; omega))
          rw [HLB.out] at hN
          go_wp2
          rw [rowW_set]
          go_roundw
          case rel => exact ⟨i + 1, by omega, by go_num, _, rfl, hN⟩
          case measure => simp [intOf]; omega
    · obtain rfl : i = la := by omega
      clear hlt
      have hm := rowW_make w out (i + lb) (i + lb) (val a * val b) (by rw [hO.out.len, HLA.out, HLB.out]) (Nat.le_refl _) hO.out.small (by omega) (by rw [hO.out.eq, ← HLA.out, List.take_length])
      have HM := Lib.hid hm
      clear hm
      go_wp2_with (go_at_call 69; (with_reducible refine HM.out.mono ?_); rintro e w' ⟨v, rfl, hv, hbl⟩)
      go_ret
      exact ⟨_, rfl, hv, hbl⟩

theorem school_any (v v' : Value) (m n : Nat) (w : World) (h : NatV w v m) (h' : NatV w v' n) (hmn : (dig m).length + (dig n).length ≤ 1073741824) :
    Calls Tryz.prog 90 #[v, v'] w (RNat w (m * n)) := by
  obtain ⟨o, cap, rfl, _, hg⟩ := Sl.gen h
  obtain ⟨o', cap', rfl, _, hg'⟩ := Sl.gen h'
  have := school_walk o o' _ _ cap cap' (dig m) (dig n) w (small_dig m) (small_dig n) rfl rfl hmn hg hg'
  rwa [val_dig, val_dig] at this
end Go.Proofs.YtckahcgolfnobaaGreatDoor
