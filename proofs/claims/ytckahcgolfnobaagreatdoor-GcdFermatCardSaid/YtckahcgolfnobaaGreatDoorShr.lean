/- nat.Shr; an append that the walk meets closed. -/
import Derived.Test.YtckahcgolfnobaaGreatDoorShl
import Derived.Deep.RegionWith
namespace Go.Proofs.YtckahcgolfnobaaGreatDoor
open Go Go.RowKit
attribute [local go_sem ↓] append_hide
attribute [local go_sem] run_appSem

theorem app1 {X : World} {base : Nat} {v : Value} {n : Nat} {xs : List Value} {b c : Nat} {e : Int} (hown : X.ownsRow base 43 1 v n xs) (hb : Boxed X b 43 (.int .u32 e)) (hn : n ≤ 1099511627776) (hbase : base ≤ X.heap.size) :
    AppOk Tryz.prog 22 22 v (.slice (some ⟨b, 0, none⟩) 1 c) X ∧
    (appRes Tryz.prog 22 22 v (.slice (some ⟨b, 0, none⟩) 1 c) X).2.ownsRow base 43 1 (appRes Tryz.prog 22 22 v (.slice (some ⟨b, 0, none⟩) 1 c) X).1 (n + 1) (xs ++ [.int .u32 e]) ∧
    X.grownBy (appRes Tryz.prog 22 22 v (.slice (some ⟨b, 0, none⟩) 1 c) X).2 v.ownBlock := by
  obtain ⟨i0, hi, hz0, hz1, hz2⟩ := info_parts' infoU
  obtain ⟨v', w', hr, h1, h2, _⟩ := run_append_own (P := Tryz.prog) X base 22 22 43 i0 (.int .u32 0) 1 4 Tryz.underlying22 hi hz0 hz1 hz2 rfl (by decide) v n xs hown ⟨b, 0, none⟩ 1 c [.int .u32 e] rfl
    (fun j u hu => by
      rw [addr_add]
      have hj : j = 0 := by
        cases j with
        | zero => rfl
        | succ j => simp at hu
      subst hj
      simp at hu
      subst hu
      exact hb.cell) (by intro u hu; simp at hu; subst hu; rfl) (by unfold maxLen; omega) (by omega) hbase
  rw [appRes_eq hr]
  exact ⟨appOk_of hr, h1, h2⟩

theorem shr_limb {x y s : Nat} (hx : x < 4294967296) (_ : y < 4294967296) (hs : s < 32) :
    bits .or .u32 ((x : Int) / 2 ^ s) ((y : Int) * 4294967296 / 2 ^ s % 4294967296) = (((x + 4294967296 * y) / 2 ^ s % 4294967296 : Nat) : Int) := by
  have h2 := pow32_split hs
  have hp : 0 < 2 ^ s := Nat.pow_pos (by omega)
  have hq : 0 < 2 ^ (32 - s) := Nat.pow_pos (by omega)
  have e1 : (x : Int) / 2 ^ s = ((x / 2 ^ s : Nat) : Int) := by rw [Int.natCast_ediv, Int.natCast_pow]; rfl
  have hA : x / 2 ^ s < 2 ^ (32 - s) := by rw [Nat.div_lt_iff_lt_mul hp, Nat.mul_comm, h2]; exact hx
  have hB : y * 4294967296 / 2 ^ s = y * 2 ^ (32 - s) := by
    rw [← h2, show y * (2 ^ s * 2 ^ (32 - s)) = 2 ^ s * (y * 2 ^ (32 - s)) by grind, Nat.mul_div_cancel_left _ hp]
  have e2 : (y : Int) * 4294967296 / 2 ^ s % 4294967296 = ((y * 4294967296 / 2 ^ s % 4294967296 : Nat) : Int) := by
    rw [Int.natCast_emod, Int.natCast_ediv, Int.natCast_mul, Int.natCast_pow]; rfl
  have hC : (x + 4294967296 * y) / 2 ^ s = x / 2 ^ s + y * 2 ^ (32 - s) := by
    have : 4294967296 * y = 2 ^ s * (y * 2 ^ (32 - s)) := by rw [← h2]; grind
    rw [this, Nat.add_mul_div_left _ _ hp]
  have hD : y * 2 ^ (32 - s) % 4294967296 = 2 ^ (32 - s) * (y % 2 ^ s) := by
    rw [← h2, Nat.mul_comm (2 ^ s), Nat.mul_comm y, Nat.mul_mod_mul_left]
  have hE : 2 ^ (32 - s) * (y % 2 ^ s) + 2 ^ (32 - s) ≤ 4294967296 := by
    have h3 : y % 2 ^ s + 1 ≤ 2 ^ s := Nat.mod_lt _ hp
    have := Nat.mul_le_mul_left (2 ^ (32 - s)) h3
    rw [Nat.mul_comm _ (2 ^ s), h2, Nat.mul_add] at this; omega
  have hF : (x + 4294967296 * y) / 2 ^ s % 4294967296 = y * 2 ^ (32 - s) % 4294967296 + x / 2 ^ s := by
    rw [hC, Nat.add_mod, Nat.mod_eq_of_lt (show x / 2 ^ s < 4294967296 by omega), hD]
    rw [Nat.mod_eq_of_lt (by omega)]; omega
  rw [e1, e2, hB, hF, u32_or_nat _ _ (by omega) (Nat.mod_lt _ (by omega)), Nat.or_comm, nat_join (32 - s) _ _ (by rw [hD]; exact Nat.mul_mod_right _ _) hA]

/-- Two limbs of a number tell a limb of it over a power of 2. -/
theorem shr_at (m j s : Nat) (hs : s < 32) : (lim (dig m) j + 4294967296 * lim (dig m) (j + 1)) / 2 ^ s % 4294967296 = m / 4294967296 ^ j / 2 ^ s % 4294967296 := by
  have h1 : lim (dig m) j = m / 4294967296 ^ j % 4294967296 := getD_dig m j
  have h2 : lim (dig m) (j + 1) = m / 4294967296 ^ j / 4294967296 % 4294967296 := by
    have : lim (dig m) (j + 1) = m / 4294967296 ^ (j + 1) % 4294967296 := getD_dig m (j + 1)
    rw [this, Nat.pow_succ, Nat.div_div_eq_div_mul]
  rw [h1, h2]
  generalize m / 4294967296 ^ j = M
  have h3 : M % 4294967296 + 4294967296 * (M / 4294967296 % 4294967296) = M % (4294967296 * 4294967296) := (Nat.mod_mul ..).symm
  rw [h3]
  have hp : 0 < 2 ^ s := Nat.pow_pos (by omega)
  have h4 := pow32_split hs
  have h5 := Nat.mod_add_div M (4294967296 * 4294967296)
  generalize M % (4294967296 * 4294967296) = R at *
  generalize M / (4294967296 * 4294967296) = T at *
  rw [← h5]
  have h6 : 4294967296 * 4294967296 * T = 2 ^ s * (4294967296 * (2 ^ (32 - s) * T)) := by
    have : 4294967296 * 4294967296 * T = (2 ^ s * 2 ^ (32 - s)) * 4294967296 * T := by rw [h4]
    rw [this]; grind
  rw [h6, Nat.add_mul_div_left _ _ hp, Nat.add_mul_mod_self_left]

/-- The row after k limbs. -/
def ShrR (m n k : Nat) (row : List Nat) : Prop := row.length = k ∧ Small row ∧ val row = m / 2 ^ n % 4294967296 ^ k
theorem ShrR.next {m q s k : Nat} {row : List Nat} (h : ShrR m (32 * q + s) k row) (hs : s < 32) :
    ShrR m (32 * q + s) (k + 1) (row ++ [(lim (dig m) (q + k) + 4294967296 * lim (dig m) (q + k + 1)) / 2 ^ s % 4294967296]) := by
  obtain ⟨h1, h2, h3⟩ := h
  refine ⟨by simp [h1], small_append.2 ⟨h2, fun x hx => by simp at hx; omega⟩, ?_⟩
  rw [val_append, h1, h3, shr_at _ _ _ hs, Nat.pow_succ, Nat.mod_mul]
  simp only [val, Nat.mul_zero, Nat.add_zero]
  have : m / 2 ^ (32 * q + s) / 4294967296 ^ k = m / 4294967296 ^ (q + k) / 2 ^ s := by
    rw [Nat.div_div_eq_div_mul, Nat.div_div_eq_div_mul, Nat.pow_add, Nat.pow_mul, Nat.pow_add, show (2 : Nat) ^ 32 = 4294967296 from rfl]
    congr 1
    rw [Nat.mul_assoc, Nat.mul_comm (2 ^ s), Nat.mul_assoc]
  rw [this]

theorem at_int (v : Value) (l : List Nat) (z : Int) (i : Nat) (w : World) (hz : z = i) (h : Sl w v l) (hl : l.length < 4611686018427387904) :
    Calls Tryz.prog 91 #[v, .int .i64 z] w fun e w' => e = .returned (.int .u32 (lim l i : Nat)) ∧ w = w' := by
  rw [hz]; exact at_any v l i w h hl

set_option maxHeartbeats 400000 in
set_option maxRecDepth 100000 in
theorem shr_walk (b off cap : Nat) (m n q s : Nat) (w : World) (hs : s < 32) (hq : q < (dig m).length) (hl : (dig m).length < 1073741824) (hn : n = 32 * q + s)
    (hv : NatV w (.slice (some ⟨b, off, none⟩) (dig m).length cap) m) (hb : b < w.heap.size)
    (hc : ∀ (i x : Nat), (dig m)[i]? = some x → w.cell? ⟨b, off + i, none⟩ = some (.int .u32 (x : Int))) :
    Calls Tryz.prog 75 #[.slice (some ⟨b, off, none⟩) (dig m).length cap, .int .i64 n] w (RNat w (m / 2 ^ n)) := by
  have HC := Lib.hid hc
  have HV := Lib.hid hv
  have hq' : (n : Int) / 32 = q := by rw [hn]; omega
  have hr' : (n : Int) % 32 = s := by clear hq'; rw [hn]; omega
  have h0 : decide (((dig m).length : Int) ≤ q) = false := by simp; omega
  have h0' : decide ((dig m).length ≤ q) = false := by simp; omega
  have HN := Lib.hid hn
  clear hc hn hv
  generalize hN : (dig m).length = N at *
  have HL := Lib.hid hN
  clear hN
  go_enter Tryz.func75, Tryz.ntmps75
  go_wp2
  simp only [hr']
  go_loopw [7, 21] (fun v t wr => ∃ k : Nat, k ≤ N - q ∧ t = .int .i64 k ∧ ∃ row : List Nat, wr.ownsRow w.heap.size 43 1 v k (lv row) ∧ Below w.heap.size w wr ∧ w.heap.size ≤ wr.heap.size ∧ Hid (ShrR m n k row)) (fun _ t _ => N - q - (intOf t).toNat)
  case atStart => exact ⟨0, Nat.zero_le _, rfl, [], World.ownsRow_nil _ _ _ _, Below.refl _ _, Nat.le_refl _, Lib.hid ⟨rfl, small_nil, by simp [val, Nat.mod_one]⟩⟩
  case round =>
    obtain ⟨k, hk, rfl, row, hown, hbel, hsz, hrow⟩ := hrel
    clear hr' hq' h0 h0'
    by_cases hlt : k < N - q
    · have hkl : q + k < (dig m).length := by rw [HL.out]; omega
      have hcell : wr.cell? ⟨b, off + (q + k), none⟩ = some (.int .u32 (lim (dig m) (q + k) : Nat)) := by rw [hbel.cell hb]; exact HC.out (q + k) _ (getD_eq hkl)
      have hnv : Hid (Sl wr (.slice (some ⟨b, off, none⟩) N cap) (dig m)) := Lib.hid (Sl.keep HV.out (.of_below (hbel.mono (by exact Nat.le_refl _))))
      have hsl : Hid (Sl wr.drew (.slice (some ⟨b, off, none⟩) N cap) (dig m)) := Lib.hid (Sl.keep hnv.out (.drew _))
      have hlx : lim (dig m) (q + k) < 4294967296 := lim_lt (small_dig m) (q + k)
      have hly : lim (dig m) (q + k + 1) < 4294967296 := lim_lt (small_dig m) (q + k + 1)
      have he := shr_limb hlx hly hs
      have e1 : IntKind.u64.wrap ((lim (dig m) (q + k + 1) : Nat) : Int) = ((lim (dig m) (q + k + 1) : Nat) : Int) := by rw [IntKind.wrap_u64]; omega
      have e2 : IntKind.u64.wrap (((lim (dig m) (q + k + 1) : Nat) : Int) * 4294967296) = ((lim (dig m) (q + k + 1) : Nat) : Int) * 4294967296 := by rw [IntKind.wrap_u64]; omega
      have e3 : ∀ x, IntKind.u32.wrap x = x % 4294967296 := fun x => IntKind.wrap_u32 x
      generalize hE : (lim (dig m) (q + k) + 4294967296 * lim (dig m) (q + k + 1)) / 2 ^ s % 4294967296 = E at *
      have HE := Lib.hid hE
      clear hE
      have ⟨ha1, ha2, ha3⟩ := app1 (b := wr.heap.size) (c := 1) (e := (E : Int)) (show (wr.alloc (.cells #[.int .u32 (E : Int)] 43)).drew.ownsRow w.heap.size 43 1 u7 k (lv row) from hown.alloc _) (show (wr.alloc (.cells #[.int .u32 (E : Int)] 43)).heap[wr.heap.size]? = _ from Array.getElem?_push_size) (by omega) (show w.heap.size ≤ (wr.alloc (.cells #[.int .u32 (E : Int)] 43)).heap.size by rw [World.size_alloc]; omega)
      have hqk : q + k < N := by omega
      have hqi : (q : Int) + k < N := by omega
      have hw1 : IntKind.i64.wrap ((q : Int) + k) = (q : Int) + k := by rw [IntKind.wrap_i64]; omega
      have hw2 : IntKind.i64.wrap ((q : Int) + k + 1) = (q : Int) + k + 1 := by rw [IntKind.wrap_i64]; omega
      have HLS : Hid ((dig m).length < 4611686018427387904) := Lib.hid (by rw [HL.out]; omega)
      have HZ : Hid ((q : Int) + k + 1 = ((q + k + 1 : Nat) : Int)) := Lib.hid rfl
      go_wp2
      go_region_with (go_at_call 91; (with_reducible refine (at_int _ (dig m) _ (q + k + 1) _ HZ.out hsl.out HLS.out).mono ?_); rintro e w' ⟨rfl, rfl⟩)
      all_goals
        go_wp2
        go_roundw
        case rel =>
          refine ⟨k + 1, by omega, by go_num, row ++ [E], ?_, ?_, ?_, ?_⟩
          · rw [lv_append]; exact ha2
          · exact ((hbel.alloc hsz _).drew).grown ha3 (by simp; omega) (fun c hc => (hown.lt c hc).1)
          · have := ha3.size; simp at this; omega
          · exact Lib.hid (by rw [HN.out, ← HE.out] at *; exact hrow.out.next hs)
        case measure => simp [intOf]; omega
    · obtain rfl : k = N - q := by omega
      clear hlt
      have hm : Hid (Calls Tryz.prog 69 #[u7] wr (RNat wr (m / 2 ^ n))) := Lib.hid (by
        have h1 := make_any u7 row wr (sl_of_owns (by rw [hrow.out.1]; exact hown)) hrow.out.2.1 (by rw [hrow.out.1]; omega)
        have h2 : val row = m / 2 ^ n := by
          rw [hrow.out.2.2]
          have h3 := lt_dig_length m
          rw [HL.out] at h3
          refine Nat.mod_eq_of_lt ?_
          rw [HN.out, Nat.pow_add, Nat.pow_mul, show (2 : Nat) ^ 32 = 4294967296 from rfl, ← Nat.div_div_eq_div_mul]
          refine Nat.lt_of_le_of_lt (Nat.div_le_self _ _) ?_
          rw [Nat.div_lt_iff_lt_mul (Nat.pow_pos (by omega)), ← Nat.pow_add, show N - q + q = N by omega]
          exact h3
        rw [h2] at h1
        exact h1)
      go_wp2_with (go_at_call 69; (with_reducible refine (hm.out).mono ?_); rintro e w' ⟨v, rfl, hv, hbl⟩)
      go_ret
      exact ⟨_, rfl, hv, hbel.trans (hbl.mono hsz)⟩

set_option maxHeartbeats 400000 in
set_option maxRecDepth 100000 in
theorem shr_none (o : Option Addr) (cap len : Nat) (n : Nat) (w : World) (hl : len ≤ n / 32) (hn : n < 9223372036854775808) :
    Calls Tryz.prog 75 #[.slice o len cap, .int .i64 n] w (RNat w 0) := by
  have hq' : (n : Int) / 32 = (n / 32 : Nat) := rfl
  have hr' : (n : Int) % 32 = (n % 32 : Nat) := rfl
  have h0 : decide ((len : Int) ≤ (n / 32 : Nat)) = true := by simp; omega
  have h0' : decide (len ≤ n / 32) = true := by simp; omega
  generalize n / 32 = q at *
  generalize n % 32 = s at *
  go_enter Tryz.func75, Tryz.ntmps75
  go_wp2
  go_ret
  exact ⟨_, rfl, natV_nil _, Below.refl _ _⟩

theorem shr_any (v : Value) (m n : Nat) (w : World) (h : NatV w v m) (hm : Big m) (hn : n < 9223372036854775808) :
    Calls Tryz.prog 75 #[v, .int .i64 n] w (RNat w (m / 2 ^ n)) := by
  by_cases hq : n / 32 < (dig m).length
  · rcases Sl.open h with ⟨o, cap, rfl, hl, _⟩ | ⟨b, off, cap, rfl, hne, hc, hb, hx⟩
    · rw [hl] at hq; simp at hq
    · exact shr_walk b off cap m n (n / 32) (n % 32) w (Nat.mod_lt _ (by omega)) hq hm (by omega) h hb hx
  · obtain ⟨o, cap, rfl, _, _⟩ := Sl.slice h
    have e : m / 2 ^ n = 0 := by
      have h3 := lt_dig_length m
      have h4 : 4294967296 ^ (dig m).length ≤ 2 ^ n := by
        rw [show (4294967296 : Nat) = 2 ^ 32 from rfl, ← Nat.pow_mul]
        exact Nat.pow_le_pow_right (by omega) (by omega)
      exact Nat.div_eq_of_lt (Nat.lt_of_lt_of_le h3 h4)
    rw [e]
    exact shr_none o cap _ n w (by omega) hn
end Go.Proofs.YtckahcgolfnobaaGreatDoor
