/- nat.Of, nat.Low, nat.Bits, nat.Bit. -/
import Derived.Test.YtckahcgolfnobaaGreatDoorShr
import Derived.Test.YtckahcgolfnobaaGreatDoorShelf
namespace Go.Proofs.YtckahcgolfnobaaGreatDoor
open Go Go.RowKit

/-- A new row. -/
theorem sl_new (w : World) (l : List Nat) (cs : Array Value) (h : cs.toList = lv l) (n c : Nat) (hn : n = l.length) (hc : n ≤ c) : Sl (w.alloc (.cells cs 43)) (.slice (some ⟨w.heap.size, 0, none⟩) n c) l := by
  refine sl_of_block (fz := (0, 0)) (cs := cs) Array.getElem?_push_size 0 n c hn hc (fun i x hi => ?_)
  rw [Nat.zero_add, ← Array.getElem?_toList, h, lv_get, hi]; rfl

set_option maxHeartbeats 400000 in
set_option maxRecDepth 100000 in
theorem of_any (n : Nat) (w : World) (hn : n < 18446744073709551616) : Calls Tryz.prog 57 #[.int .u64 n] w (RNat w n) := by
  have e1 : IntKind.u32.wrap (n : Int) = ((n % 4294967296 : Nat) : Int) := by rw [IntKind.wrap_u32]; omega
  have e2 : (n : Int) / 4294967296 = ((n / 4294967296 : Nat) : Int) := by omega
  have e3 : IntKind.u32.wrap ((n / 4294967296 : Nat) : Int) = ((n / 4294967296 : Nat) : Int) := by rw [IntKind.wrap_u32]; omega
  have hsl := sl_new w [n % 4294967296, n / 4294967296] #[.int .u32 ((n % 4294967296 : Nat) : Int), .int .u32 ((n / 4294967296 : Nat) : Int)] rfl 2 2 rfl (by omega)
  have hmk := make_any _ _ _ hsl (by intro x hx; simp at hx; omega) (by simp)
  have hval : val [n % 4294967296, n / 4294967296] = n := by simp only [val]; omega
  rw [hval] at hmk
  have H := Lib.hid hmk
  clear hmk hsl hval
  generalize n % 4294967296 = x at *
  generalize n / 4294967296 = y at *
  go_enter Tryz.func57, Tryz.ntmps57
  go_wp2_with (go_at_call 69; (with_reducible refine H.out.mono ?_); rintro e w' ⟨v, rfl, hv, hbl⟩)
  go_ret
  exact ⟨_, rfl, hv, (Below.refl _ _).alloc (Nat.le_refl _) _ |>.trans (hbl.mono (by simp))⟩

def RU64B (w : World) (n : Nat) (b : Bool) (e : Ending) (w' : World) : Prop := e = .returned (.tuple #[.int .u64 (n : Int), .bool b]) ∧ w = w'

theorem u64_low (x y : Nat) (hx : x < 4294967296) (hy : y < 4294967296) : bits .or .u64 (x : Int) ((y : Int) * 4294967296) = ((x + 4294967296 * y : Nat) : Int) := by
  rw [show ((y : Int) * 4294967296) = ((y * 4294967296 : Nat) : Int) from by omega, u64_or_nat _ _ (by omega) (by omega), Nat.or_comm, nat_join 32 _ _ (by omega) (by omega)]
  omega

def lowAt (x y i : Nat) : Nat := if i = 0 then 0 else if i = 1 then x else x + 4294967296 * y

set_option maxHeartbeats 400000 in
set_option maxRecDepth 100000 in
theorem low_walk (b off cap : Nat) (x y N : Nat) (w : World) (h : N = 1 ∨ N = 2) (hx : x < 4294967296) (hy : y < 4294967296)
    (c0 : w.cell? ⟨b, off, none⟩ = some (.int .u32 (x : Int))) (c1 : N = 2 → w.cell? ⟨b, off + 1, none⟩ = some (.int .u32 (y : Int))) :
    Calls Tryz.prog 52 #[.slice (some ⟨b, off, none⟩) N cap] w (RU64B w (lowAt x y N) true) := by
  have hN : decide ((2 : Int) < N) = false := by simp; omega
  have hN' : decide (2 < N) = false := by simp; omega
  have h1 : IntKind.u64.wrap ((x : Nat) : Int) = x := by rw [IntKind.wrap_u64]; omega
  have h2 : IntKind.u64.wrap ((y : Nat) : Int) = y := by rw [IntKind.wrap_u64]; omega
  have h3 : IntKind.u64.wrap ((y : Int) * 4294967296) = (y : Int) * 4294967296 := by rw [IntKind.wrap_u64]; omega
  have h4 := u64_low x y hx hy
  have h5 : bits .or .u64 0 (x : Int) = (x : Int) := by
    have := u64_or_nat 0 x (by omega) (by omega)
    simpa using this
  have l0 : lowAt x y 0 = 0 := rfl
  have l1 : lowAt x y 1 = x := rfl
  have l2 : lowAt x y 2 = x + 4294967296 * y := rfl
  have hN1 : 1 ≤ N := by omega
  have hN2 : N ≤ 2 := by omega
  have HN := Lib.hid h
  have HC := Lib.hid c1
  clear h c1
  go_enter Tryz.func52, Tryz.ntmps52
  go_wp2
  go_loopw [4, 12] (fun acc t wr => ∃ i : Nat, i ≤ N ∧ t = .int .i64 i ∧ wr = w ∧ acc = .int .u64 (lowAt x y i : Nat)) (fun _ t _ => N - (intOf t).toNat)
  case atStart => exact ⟨0, Nat.zero_le _, rfl, rfl, rfl⟩
  case round =>
    obtain ⟨i, hi, rfl, rfl, rfl⟩ := hrel
    rcases (show i = N ∨ (i = 0 ∧ i < N) ∨ (i = 1 ∧ N = 2) by omega) with rfl | ⟨rfl, hlt⟩ | ⟨rfl, rfl⟩
    · go_wp2
      go_ret2
      exact ⟨rfl, rfl⟩
    · go_wp2
      go_roundw
      case rel => exact ⟨1, by omega, by go_num, by simp, rfl⟩
      case measure => simp [intOf]; omega
    · have := HC.out rfl
      go_wp2
      go_roundw
      case rel => exact ⟨2, by omega, by go_num, by simp, rfl⟩
      case measure => simp [intOf]

set_option maxHeartbeats 400000 in
set_option maxRecDepth 100000 in
theorem low_nil (o : Option Addr) (cap : Nat) (w : World) :
    Calls Tryz.prog 52 #[.slice o 0 cap] w (RU64B w 0 true) := by
  go_enter Tryz.func52, Tryz.ntmps52
  go_wp2
  go_loopw [4, 12] (fun acc t wr => acc = .int .u64 0 ∧ t = .int .i64 0 ∧ wr = w) (fun _ _ _ => 0)
  case atStart => exact ⟨rfl, rfl, rfl⟩
  case round =>
    obtain ⟨rfl, rfl, rfl⟩ := hrel
    go_wp2
    go_ret2
    exact ⟨rfl, rfl⟩

set_option maxHeartbeats 400000 in
set_option maxRecDepth 100000 in
theorem low_big (o : Option Addr) (N cap : Nat) (w : World) (hN : 2 < N) :
    Calls Tryz.prog 52 #[.slice o N cap] w (RU64B w 0 false) := by
  have h1 : decide ((2 : Int) < N) = true := by simp; omega
  have h2 : decide (2 < N) = true := by simp; omega
  go_enter Tryz.func52, Tryz.ntmps52
  go_wp2
  go_ret2
  exact ⟨rfl, rfl⟩

/-- What nat.Low tells. -/
def lowOf (m : Nat) : Nat := if m < 18446744073709551616 then m else 0
theorem low_any (v : Value) (m : Nat) (w : World) (h : NatV w v m) : Calls Tryz.prog 52 #[v] w (RU64B w (lowOf m) (decide (m < 18446744073709551616))) := by
  have hlen := @dig_length_le_iff m 2
  have hv := val_dig m
  have hs := small_dig m
  unfold lowOf
  rcases Sl.open h with ⟨o, cap, rfl, hl, _⟩ | ⟨b, off, cap, rfl, hne, hc, hb, hx⟩
  · rw [hl] at hv
    have : m = 0 := hv.symm
    subst this
    exact low_nil o cap w
  · by_cases hlt : m < 18446744073709551616
    · rw [if_pos hlt, decide_eq_true hlt]
      have h2 : (dig m).length ≤ 2 := hlen.2 (by omega)
      generalize dig m = l at *
      match l, hne, h2 with
      | [x], _, _ =>
        have hxs := hs x (by simp)
        have := low_walk b off cap x 0 1 w (.inl rfl) hxs (by omega) (hx 0 x rfl) (by omega)
        have e : lowAt x 0 1 = m := by rw [← hv]; simp [lowAt, val]
        rw [e] at this; exact this
      | [x, y], _, _ =>
        have hxs := hs x (by simp)
        have hys := hs y (by simp)
        have := low_walk b off cap x y 2 w (.inr rfl) hxs hys (hx 0 x rfl) (fun _ => hx 1 y rfl)
        have e : lowAt x y 2 = m := by rw [← hv]; simp [lowAt, val]
        rw [e] at this; exact this
    · rw [if_neg hlt, decide_eq_false hlt]
      exact low_big _ _ cap w (by
        apply Nat.lt_of_not_le
        intro hle
        have := hlen.1 hle
        omega)

/-- How many bits it has. -/
def blen (m : Nat) : Nat := if m = 0 then 0 else m.log2 + 1
theorem blen_aux : ∀ (f x : Nat), x < 2 ^ f → Lib.bitLenAux f x = blen x := by
  intro f
  induction f with
  | zero => intro x hx; have : x = 0 := by simpa using hx
            subst this; rfl
  | succ f ih =>
    intro x hx
    unfold Lib.bitLenAux
    by_cases h0 : x = 0
    · subst h0; rfl
    · rw [if_neg h0, ih (x / 2) (by rw [Nat.pow_succ] at hx; omega)]
      unfold blen
      rw [if_neg h0]
      by_cases h1 : x / 2 = 0
      · have : x = 1 := by omega
        subst this; rfl
      · rw [if_neg h1, Nat.log2_def x, if_pos (by omega)]; omega
theorem blen_eq {x : Nat} (h : x < 4294967296) : Lib.bitLen x = blen x := blen_aux 64 x (by omega)
theorem blen_le {m k : Nat} : blen m ≤ k ↔ m < 2 ^ k := by
  unfold blen
  split
  · subst_vars; simp [Nat.pow_pos]
  · rename_i h
    rw [Nat.add_one_le_iff, Nat.log2_lt h]
theorem lt_blen {m k : Nat} : k < blen m ↔ 2 ^ k ≤ m := by
  have := @blen_le m k
  omega
theorem blen_zero : blen 0 = 0 := rfl
theorem blen_top {m L : Nat} (hm : m ≠ 0) (hL : L + 1 = (dig m).length) : blen m = 32 * L + blen (lim (dig m) L) := by
  have h1 := lt_dig_length m
  have h2 := pow_dig_length_le hm
  rw [← hL] at h1 h2
  simp only [Nat.add_sub_cancel] at h2
  have h3 : lim (dig m) L = m / 4294967296 ^ L := by
    have : lim (dig m) L = m / 4294967296 ^ L % 4294967296 := getD_dig m L
    rw [this]
    refine Nat.mod_eq_of_lt ?_
    rw [Nat.div_lt_iff_lt_mul (Nat.pow_pos (by omega)), Nat.mul_comm, ← Nat.pow_succ]; exact h1
  have e : (4294967296 : Nat) ^ L = 2 ^ (32 * L) := by rw [Nat.pow_mul]
  rw [h3, e]
  rw [e] at h2
  apply Nat.le_antisymm
  · rw [blen_le, Nat.pow_add]
    have h4 := (@blen_le (m / 2 ^ (32 * L)) _).1 (Nat.le_refl _)
    rw [Nat.div_lt_iff_lt_mul (Nat.pow_pos (by omega)), Nat.mul_comm] at h4
    exact h4
  · have h5 : m / 2 ^ (32 * L) ≠ 0 := by
      exact Nat.ne_of_gt (Nat.div_pos h2 (Nat.pow_pos (by omega)))
    have h6 : 0 < blen (m / 2 ^ (32 * L)) := by rw [lt_blen, Nat.pow_zero]; exact Nat.pos_of_ne_zero h5
    have h7 := (@lt_blen (m / 2 ^ (32 * L)) (blen (m / 2 ^ (32 * L)) - 1)).1 (by omega)
    rw [Nat.le_div_iff_mul_le (Nat.pow_pos (by omega)), ← Nat.pow_add] at h7
    have := (@lt_blen m _).2 h7
    omega

set_option maxHeartbeats 400000 in
set_option maxRecDepth 100000 in
theorem bits_walk (b off cap N x : Nat) (w : World) (hN : N < 1073741824) (hx : x < 4294967296)
    (c : w.cell? ⟨b, off + N, none⟩ = some (.int .u32 (x : Int))) :
    Calls Tryz.prog 46 #[.slice (some ⟨b, off, none⟩) (N + 1 : Nat) cap] w fun e w' => e = .returned (.int .i64 ((32 * N + blen x : Nat) : Int)) ∧ w = w' := by
  have hb : blen x ≤ 32 := blen_le.2 (by omega)
  have hL := Tryz.bits_Len32 (x : Int) w (by omega) (by omega)
  rw [Int.toNat_natCast, blen_eq hx] at hL
  have HL := Lib.hid hL
  clear hL
  have e1 : ((N : Int) + 1 == 0) = false := by rw [beq_eq_false_iff_ne]; omega
  have e2 : (N + 1 == 0) = false := by simp
  have e3 : (N : Int) + 1 - 1 = N := by omega
  generalize blen x = B at *
  go_enter Tryz.func46, Tryz.ntmps46
  go_wp2_with (go_at_call 79; (with_reducible refine HL.out.mono ?_); rintro e w' ⟨rfl, rfl⟩)
  go_ret
  exact ⟨ret_i (by omega), rfl⟩

set_option maxHeartbeats 400000 in
set_option maxRecDepth 100000 in
theorem bits_nil (o : Option Addr) (cap : Nat) (w : World) :
    Calls Tryz.prog 46 #[.slice o 0 cap] w fun e w' => e = .returned (.int .i64 0) ∧ w = w' := by
  go_enter Tryz.func46, Tryz.ntmps46
  go_wp2
  go_ret
  exact ⟨rfl, rfl⟩

theorem bits_any (v : Value) (m : Nat) (w : World) (h : NatV w v m) (hm : Big m) :
    Calls Tryz.prog 46 #[v] w fun e w' => e = .returned (.int .i64 (blen m : Nat)) ∧ w = w' := by
  rcases Sl.open h with ⟨o, cap, rfl, hl, _⟩ | ⟨b, off, cap, rfl, hne, hc, hb, hx⟩
  · have hv := val_dig m
    rw [hl] at hv
    have : m = 0 := hv.symm
    subst this
    exact bits_nil o cap w
  · have hpos : 0 < (dig m).length := List.length_pos_iff.2 hne
    have hm0 : m ≠ 0 := by rintro rfl; simp [dig] at hne
    obtain ⟨N, hN⟩ : ∃ N, N + 1 = (dig m).length := ⟨(dig m).length - 1, by omega⟩
    rw [blen_top hm0 hN, ← hN]
    exact bits_walk b off cap N _ w (by have : (dig m).length < 1073741824 := hm; omega) (lim_lt (small_dig m) N) (hx N _ (getD_eq (by omega)))

theorem bit_at (m i : Nat) : lim (dig m) (i / 32) / 2 ^ (i % 32) % 2 = m / 2 ^ i % 2 := by
  have h1 : lim (dig m) (i / 32) = m / 4294967296 ^ (i / 32) % 4294967296 := getD_dig m _
  have h2 : m / 2 ^ i = m / 4294967296 ^ (i / 32) / 2 ^ (i % 32) := by
    rw [Nat.div_div_eq_div_mul, show (4294967296 : Nat) = 2 ^ 32 from rfl, ← Nat.pow_mul, ← Nat.pow_add, Nat.div_add_mod]
  rw [h1, h2]
  generalize m / 4294967296 ^ (i / 32) = M
  have hs : i % 32 < 32 := Nat.mod_lt _ (by omega)
  generalize i % 32 = s at *
  have h4 : 2 ^ s * (2 * 2 ^ (31 - s)) = 4294967296 := by
    rw [← Nat.pow_succ', ← Nat.pow_add, show s + (31 - s + 1) = 32 by omega]
  have hp : 0 < 2 ^ s := Nat.pow_pos (by omega)
  have h5 := Nat.mod_add_div M 4294967296
  generalize M % 4294967296 = R at *
  generalize M / 4294967296 = T at *
  rw [← h5, ← h4, show 2 ^ s * (2 * 2 ^ (31 - s)) * T = 2 ^ s * (2 * (2 ^ (31 - s) * T)) by grind, Nat.add_mul_div_left _ _ hp, Nat.add_mul_mod_self_left]

set_option maxHeartbeats 400000 in
set_option maxRecDepth 100000 in
theorem bit_any (v : Value) (m i : Nat) (w : World) (h : NatV w v m) (hm : Big m) (hi : i < 4611686018427387904) :
    Calls Tryz.prog 59 #[v, .int .i64 i] w fun e w' => e = .returned (.int .u32 (m / 2 ^ i % 2 : Nat)) ∧ w = w' := by
  have hlt := lim_lt (small_dig m) (i / 32)
  have hAt := Lib.hid (at_any v (dig m) (i / 32) w h (by unfold Big at hm; omega))
  have hB := Lib.hid (bit_at m i)
  have hq' : (i : Int) / 32 = (i / 32 : Nat) := rfl
  have hr' : (i : Int) % 32 = (i % 32 : Nat) := rfl
  have hs : i % 32 < 32 := Nat.mod_lt _ (by omega)
  clear h
  generalize lim (dig m) (i / 32) = x at *
  generalize i / 32 = q at *
  generalize i % 32 = s at *
  have hxs : x / 2 ^ (s) < 4294967296 := Nat.lt_of_le_of_lt (Nat.div_le_self _ _) hlt
  have e1 : (x : Int) / 2 ^ (s) = ((x / 2 ^ (s) : Nat) : Int) := by rw [Int.natCast_ediv, Int.natCast_pow]; rfl
  have e2 : bits .and .u32 ((x / 2 ^ (s) : Nat) : Int) 1 = (x / 2 ^ (s) % 2 : Nat) := by
    have := u32_and_nat (x / 2 ^ (s)) 1 hxs (by omega)
    rw [Nat.and_one_is_mod] at this
    exact this
  generalize x / 2 ^ s = X at *
  go_enter Tryz.func59, Tryz.ntmps59
  go_wp2_with (go_at_call 91; (with_reducible refine hAt.out.mono ?_); rintro e w' ⟨rfl, rfl⟩)
  go_ret
  refine ⟨ret_i ?_, rfl⟩
  rw [← hB.out]; rfl
end Go.Proofs.YtckahcgolfnobaaGreatDoor
