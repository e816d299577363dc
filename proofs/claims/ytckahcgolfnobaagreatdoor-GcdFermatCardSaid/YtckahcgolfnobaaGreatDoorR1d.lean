/- The document's naturals: Shl, Bits, Bit, Of. -/
import Derived.Test.YtckahcgolfnobaaGreatDoorR1c
namespace Go.Proofs.YtckahcgolfnobaaGreatDoor
open Go Go.RowKit

theorem u2_div (t : Nat) (h : t < 4294967296) : IntKind.u32.wrap ((t : Int).tdiv 2) = ((t / 2 : Nat) : Int) := by
  rw [Int.tdiv_eq_ediv_of_nonneg (by omega), IntKind.wrap_u32]; omega

set_option maxHeartbeats 1000000 in
set_option maxRecDepth 100000 in
theorem r1bits_walk (b off cap N x : Nat) (w : World) (hN : N < 1073741824) (hx : x < 4294967296)
    (c : w.cell? ⟨b, off + N, none⟩ = some (.int .u32 (x : Int))) :
    Calls Tryz.prog 60 #[.slice (some ⟨b, off, none⟩) (N + 1 : Nat) cap] w fun e w' => e = .returned (.int .i64 ((32 * N + blen x : Nat) : Int)) ∧ Fol w w' := by
  have hb : blen x ≤ 32 := blen_le.2 (by omega)
  have HB := Lib.hid hb
  have HD := Lib.hid (fun j => @lt_blen x j)
  have e1 : ((N : Int) + 1 == 0) = false := by rw [beq_eq_false_iff_ne]; omega
  have e2 : (N + 1 == 0) = false := by simp
  have e3 : (N : Int) + 1 - 1 = N := by omega
  have e4 : IntKind.i64.wrap ((N : Int) + 1 - 1) = N := by rw [IntKind.wrap_i64]; omega
  go_enter Tryz.func60, Tryz.ntmps60
  go_wp2
  go_quiet (fail)
  clear e4
  go_wp2
  go_loop [3, 4] (fun n t => ∃ j : Nat, j ≤ blen x ∧ n = .int .i64 j ∧ t = .int .u32 ((x / 2 ^ j : Nat) : Int)) (fun n _ => 64 - (intOf n).toNat)
  case atStart => exact ⟨0, by omega, rfl, by simp⟩
  case round =>
    obtain ⟨j, hj, rfl, rfl⟩ := hrel
    have hp : 0 < 2 ^ j := Nat.pow_pos (by omega)
    have hiff : 0 < x / 2 ^ j ↔ j < blen x := by
      rw [HD.out j]
      constructor
      · intro h
        apply Nat.le_of_not_lt
        intro hlt
        rw [Nat.div_eq_of_lt hlt] at h
        omega
      · intro h; exact Nat.div_pos h hp
    have hsucc : x / 2 ^ (j + 1) = x / 2 ^ j / 2 := by rw [Nat.pow_succ, Nat.div_div_eq_div_mul]
    have hle : x / 2 ^ j ≤ x := Nat.div_le_self _ _
    have HS := Lib.hid hsucc
    have HI := Lib.hid hiff
    clear hsucc hiff hp
    by_cases hlt : j < blen x
    · have hpos := HI.out.2 hlt
      have hjb : j < 32 := by have := HB.out; omega
      generalize x / 2 ^ j = t at *
      have e5 := u2_div t (by omega)
      clear hlt hj
      go_wp2
      refine ⟨⟨j + 1, by have := HI.out.1 hpos; omega, by go_num, by rw [HS.out]; rfl⟩, by simp [intOf]; omega⟩
    · have hj2 : j = blen x := by omega
      have h0 : x / 2 ^ j = 0 := by
        apply Nat.eq_zero_of_not_pos
        intro h
        exact hlt (HI.out.1 h)
      have HJ := Lib.hid hj2
      have hjb : j ≤ 32 := by rw [hj2]; exact HB.out
      rw [h0]
      clear hlt hj hj2 h0 hle
      go_wp2
      go_ret
      exact ⟨ret_i (by rw [← HJ.out]), Fol.drawn ⟨_, rfl⟩⟩

set_option maxHeartbeats 400000 in
set_option maxRecDepth 100000 in
theorem r1bits_nil (o : Option Addr) (cap : Nat) (w : World) :
    Calls Tryz.prog 60 #[.slice o 0 cap] w fun e w' => e = .returned (.int .i64 0) ∧ Fol w w' := by
  go_enter Tryz.func60, Tryz.ntmps60
  go_wp2
  go_ret
  exact ⟨rfl, Fol.refl _⟩

theorem r1bits_any (v : Value) (m : Nat) (w : World) (h : NatV w v m) (hm : Big m) :
    Calls Tryz.prog 60 #[v] w fun e w' => e = .returned (.int .i64 (blen m : Nat)) ∧ Fol w w' := by
  rcases Sl.open h with ⟨o, cap, rfl, hl, _⟩ | ⟨b, off, cap, rfl, hne, hc, hb, hx⟩
  · have hv := val_dig m
    rw [hl] at hv
    have : m = 0 := hv.symm
    subst this
    exact r1bits_nil o cap w
  · have hpos : 0 < (dig m).length := List.length_pos_iff.2 hne
    have hm0 : m ≠ 0 := by rintro rfl; simp [dig] at hne
    obtain ⟨N, hN⟩ : ∃ N, N + 1 = (dig m).length := ⟨(dig m).length - 1, by omega⟩
    rw [blen_top hm0 hN, ← hN]
    exact r1bits_walk b off cap N _ w (by have : (dig m).length < 1073741824 := hm; omega) (lim_lt (small_dig m) N) (hx N _ (getD_eq (by omega)))

set_option maxHeartbeats 1000000 in
set_option maxRecDepth 100000 in
theorem r1bit_any (v : Value) (m i : Nat) (w : World) (h : NatV w v m) (hm : Big m) (hi : i < 32 * (dig m).length) :
    Calls Tryz.prog 61 #[v, .int .i64 i] w fun e w' => e = .returned (.int .u32 (m / 2 ^ i % 2 : Nat)) ∧ w = w' := by
  unfold Big at hm
  have hB := Lib.hid (bit_at m i)
  have hlt := lim_lt (small_dig m) (i / 32)
  have hq : i / 32 < (dig m).length := by omega
  rcases Sl.open h with ⟨o, cap, rfl, hl, _⟩ | ⟨b, off, cap, rfl, hne, hc, hb, hx⟩
  · rw [hl] at hq; simp at hq
  · have hcell : w.cell? ⟨b, off + i / 32, none⟩ = some (.int .u32 (lim (dig m) (i / 32) : Nat)) := hx (i / 32) _ (getD_eq hq)
    have hq' : (i : Int) / 32 = ((i / 32 : Nat) : Int) := rfl
    have hr' : (i : Int) % 32 = ((i % 32 : Nat) : Int) := rfl
    have hs : i % 32 < 32 := Nat.mod_lt _ (by omega)
    have hib : i < 34359738368 := by omega
    clear hx h hne hi
    generalize (dig m).length = L at *
    generalize lim (dig m) (i / 32) = x at *
    generalize i / 32 = q at *
    generalize i % 32 = s at *
    have d0 : decide ((i : Int) < 0) = false := by simp
    have d1 : decide ((L : Int) ≤ q) = false := by simp; omega
    have d2 : decide (L ≤ q) = false := by simp; omega
    go_enter Tryz.func61, Tryz.ntmps61
    go_wp2
    go_loop [5, 6] (fun t n => ∃ j : Nat, j ≤ s ∧ n = .int .i64 j ∧ t = .int .u32 ((x / 2 ^ j : Nat) : Int)) (fun _ n => 64 - (intOf n).toNat)
    case atStart => exact ⟨0, by omega, rfl, by simp⟩
    case round =>
      obtain ⟨j, hj, rfl, rfl⟩ := hrel
      have hsucc : x / 2 ^ (j + 1) = x / 2 ^ j / 2 := by rw [Nat.pow_succ, Nat.div_div_eq_div_mul]
      have hle : x / 2 ^ j ≤ x := Nat.div_le_self _ _
      have HS := Lib.hid hsucc
      clear hsucc
      by_cases hlt2 : j < s
      · generalize x / 2 ^ j = t at *
        have e5 := u2_div t (by omega)
        go_wp2
        refine ⟨⟨j + 1, by omega, by go_num, by rw [HS.out]; rfl⟩, by simp [intOf]; omega⟩
      · obtain rfl : j = s := by omega
        clear hlt2 HS
        have HT : Hid (x / 2 ^ j % 2 = m / 2 ^ i % 2) := hB
        generalize hX : x / 2 ^ j = X at *
        have e6 : (X : Int) % 2 = ((X % 2 : Nat) : Int) := rfl
        clear hX
        go_wp2
        go_ret
        refine ⟨ret_i ?_, rfl⟩
        rw [← HT.out]; rfl

set_option maxHeartbeats 400000 in
set_option maxRecDepth 100000 in
theorem r1of_any (n : Nat) (w : World) (hn : n < 18446744073709551616) : Calls Tryz.prog 65 #[.int .u64 n] w (RNat w n) := by
  have e1 : (n : Int) % 4294967296 = ((n % 4294967296 : Nat) : Int) := by omega
  have e2 : (n : Int) / 4294967296 = ((n / 4294967296 : Nat) : Int) := by omega
  have e3 : ((n / 4294967296 : Nat) : Int) % 4294967296 = ((n / 4294967296 : Nat) : Int) := by omega
  have hsl := sl_new w [n % 4294967296, n / 4294967296] #[.int .u32 ((n % 4294967296 : Nat) : Int), .int .u32 ((n / 4294967296 : Nat) : Int)] rfl 2 2 rfl (by omega)
  have hmk := r1make_any _ _ _ hsl.raw (by intro x hx; simp at hx; omega) (by simp)
  have hval : val [n % 4294967296, n / 4294967296] = n := by simp only [val]; omega
  rw [hval] at hmk
  have H := Lib.hid hmk
  clear hmk hsl hval
  generalize n % 4294967296 = x at *
  generalize n / 4294967296 = y at *
  go_enter Tryz.func65, Tryz.ntmps65
  go_wp2_with (go_at_call 36; (with_reducible refine H.out.mono ?_); rintro e w' ⟨v, rfl, hv, hbl⟩)
  go_ret
  exact ⟨_, rfl, hv, Fol.trans (Fol.new _ _) hbl⟩

/-! ### Shl -/
def sMul (by_ x _y c : Nat) : Nat := (x * by_ + c) % 4294967296
def tMul (by_ x _y c : Nat) : Nat := (x * by_ + c) / 4294967296
theorem mulCarry_lt {b : Nat} (hb : 0 < b) {la lb : List Nat} (ha : Small la) (k : Nat) : carryAt (sMul b) (tMul b) la lb k < b := by
  induction k with
  | zero => simpa [carryAt] using hb
  | succ k ih =>
    have hx := lim_lt ha k
    show (lim la k * b + carryAt (sMul b) (tMul b) la lb k) / 4294967296 < b
    rw [Nat.div_lt_iff_lt_mul (by omega)]
    have h1 : lim la k * b + b ≤ 4294967296 * b := by
      have := Nat.mul_le_mul_right b (show lim la k + 1 ≤ 4294967296 by omega)
      rw [Nat.add_mul, Nat.one_mul] at this
      exact this
    rw [Nat.mul_comm b]
    omega
theorem mulRow_small (b : Nat) (la lb : List Nat) (k : Nat) : Small (rowAt (sMul b) (tMul b) la lb k) := by
  induction k with
  | zero => exact small_nil
  | succ k ih =>
    refine small_append.2 ⟨ih, fun x hx => ?_⟩
    simp at hx; subst hx
    exact Nat.mod_lt _ (by omega)
theorem mulRow_val (b : Nat) (la lb : List Nat) (k : Nat) : val (rowAt (sMul b) (tMul b) la lb k) + 4294967296 ^ k * carryAt (sMul b) (tMul b) la lb k = valTo la k * b := by
  induction k with
  | zero => simp [rowAt, carryAt, valTo, val]
  | succ k ih =>
    rw [rowAt_val_succ]
    simp only [carryAt, valTo]
    have h : sMul b (lim la k) (lim lb k) (carryAt (sMul b) (tMul b) la lb k) + 4294967296 * tMul b (lim la k) (lim lb k) (carryAt (sMul b) (tMul b) la lb k) = lim la k * b + carryAt (sMul b) (tMul b) la lb k := Nat.mod_add_div _ _
    generalize sMul b (lim la k) (lim lb k) (carryAt (sMul b) (tMul b) la lb k) = s at *
    generalize tMul b (lim la k) (lim lb k) (carryAt (sMul b) (tMul b) la lb k) = t at *
    have h2 : 4294967296 ^ k * (s + 4294967296 * t) = 4294967296 ^ k * (lim la k * b + carryAt (sMul b) (tMul b) la lb k) := by rw [h]
    rw [Nat.pow_succ]
    grind
theorem val_zeros (z : Nat) (l : List Nat) : val (List.replicate z 0 ++ l) = 4294967296 ^ z * val l := by
  rw [val_append]
  have : val (List.replicate z 0) = 0 := by
    induction z with
    | zero => rfl
    | succ z ih => rw [List.replicate_succ, val, ih]
  rw [this, List.length_replicate]; omega
theorem shl_all (m z s k : Nat) (hs : s < 32) (hk : k = (dig m).length + 1) (lb : List Nat) : val (List.replicate z 0 ++ rowAt (sMul (2 ^ s)) (tMul (2 ^ s)) (dig m) lb k) = m * 2 ^ (32 * z + s) := by
  rw [val_zeros]
  have h1 := mulRow_val (2 ^ s) (dig m) lb k
  rw [valTo_big (show (dig m).length ≤ k by omega)] at h1
  have h2 : m * 2 ^ s < 4294967296 ^ k := by
    have := lt_dig_length m
    rw [hk, Nat.pow_succ]
    have h3 : 2 ^ s ≤ 4294967296 := by
      have := Nat.pow_le_pow_right (show 0 < 2 by omega) (show s ≤ 32 by omega)
      omega
    exact Nat.mul_lt_mul_of_lt_of_le this h3 (by omega)
  rw [sum_no_carry h1 h2, Nat.pow_add, Nat.pow_mul]
  grind

set_option maxHeartbeats 2000000 in
set_option maxRecDepth 100000 in
theorem r1shl_any (v : Value) (m n : Nat) (w : World) (h : NatV w v m) (hm : Big m) (hn : n < 34359738368) :
    Calls Tryz.prog 38 #[v, .int .i64 n] w (RNat w (m * 2 ^ n)) := by
  unfold Big at hm
  obtain ⟨z, hz⟩ : ∃ z, z = n / 32 := ⟨_, rfl⟩
  obtain ⟨s, hs⟩ : ∃ s, s = n % 32 := ⟨_, rfl⟩
  have hs32 : s < 32 := by omega
  have hnz : 32 * z + s = n := by omega
  have HLa := Lib.hid (fun k w' (hf : Fol w w') => limb_any v (dig m) k w' (Sl.fol h hf) (small_dig m) (by omega))
  have HALL := Lib.hid (shl_all m z s _ hs32 rfl [])
  rw [hnz] at HALL
  have hbp : 0 < 2 ^ s := Nat.pow_pos (by omega)
  have hb31 : 2 ^ s ≤ 2147483648 := by
    have := Nat.pow_le_pow_right (show 0 < 2 by omega) (show s ≤ 31 by omega)
    omega
  have HSM := Lib.hid (fun k => mulRow_small (2 ^ s) (dig m) [] k)
  have HCA := Lib.hid (fun k => mulCarry_lt (lb := []) hbp (small_dig m) k)
  have HXA := Lib.hid (fun k => lim_lt (small_dig m) k)
  have q1 : (n : Int) / 32 = (z : Int) := by omega
  have q2 : (n : Int) % 32 = (s : Int) := by omega
  have hzb : z ≤ 1073741824 := by omega
  obtain ⟨o, cap, rfl, _, _⟩ := h.slice
  clear h hz hs hnz
  generalize (dig m).length = la at *
  generalize dig m = dm at *
  go_enter Tryz.func38, Tryz.ntmps38
  go_wp2
  go_loopw [5, 8] (fun r t wr => ∃ k : Nat, k ≤ z ∧ t = .int .i64 k ∧ Hid (OwnX w r (List.replicate k 0) wr)) (fun _ t _ => z - (intOf t).toNat)
  case atStart => exact ⟨0, by omega, rfl, Lib.hid (OwnX.first w)⟩
  case round =>
    obtain ⟨k, hk, rfl, HX⟩ := hrel
    obtain ⟨ro, rc, hr⟩ := HX.out.slice
    rw [List.length_replicate] at hr
    subst hr
    by_cases hlt : k < z
    · have HO := Lib.hid (HX.out.own.alloc)
      have hlr : Hid ((List.replicate k 0).length = k) := Lib.hid List.length_replicate
      have hsz := HX.out.fol.size
      have hrs : List.replicate (k + 1) 0 = List.replicate k 0 ++ [0] := List.replicate_succ'
      have HR := Lib.hid hrs
      have C1 : Hid (k ≤ 1099511627776) := Lib.hid (by omega)
      clear hrs
      rw [hlr.out] at HO
      generalize List.replicate k 0 = row at *
      go_wp2_with (at_builtin; refine wpList_app1 rfl _ _ rfl w.heap.size _ _ _ rfl (HO.out _) wr.heap.size 1 _ rfl (Boxed.new _ _ _) C1 (by rw [World.size_alloc]; omega) ?_; intro v' wz hown1 hgrow1)
      refine ⟨⟨k + 1, by omega, by go_num, Lib.hid ?_⟩, by simp [intOf]; omega⟩
      rw [HR.out]
      refine OwnX.step (v := .slice ro k rc) (o := .cells #[.int .u32 0] 43) HX.out hgrow1 ?_
      rw [hlr.out]
      exact hown1
    · obtain rfl : k = z := by omega
      clear hlt hk
      have HX0 := Lib.hid HX.out
      clear HX
      go_wp2
      go_loop [7, 9] (fun b t => ∃ j : Nat, j ≤ s ∧ t = .int .i64 j ∧ b = .int .u64 ((2 ^ j : Nat) : Int)) (fun _ t => s - (intOf t).toNat)
      case atStart => exact ⟨0, by omega, rfl, rfl⟩
      case round =>
        obtain ⟨j, hj, rfl, rfl⟩ := hrel
        by_cases hlt : j < s
        · have hjb : 2 ^ j ≤ 1073741824 := by
            have := Nat.pow_le_pow_right (show 0 < 2 by omega) (show j ≤ 30 by omega)
            omega
          have hsucc : 2 ^ (j + 1) = 2 * 2 ^ j := by rw [Nat.pow_succ, Nat.mul_comm]
          have HS := Lib.hid hsucc
          clear hsucc
          generalize 2 ^ j = B at *
          go_wp2
          refine ⟨⟨j + 1, by omega, by go_num, by rw [HS.out]; rfl⟩, by simp [intOf]; omega⟩
        · obtain rfl : j = s := by omega
          clear hlt hj
          generalize hB : 2 ^ j = B at *
          clear hB
          go_wp2
          go_loopw [5, 6, 10] (fun r c t wr => ∃ i : Nat, i ≤ la + 1 ∧ t = .int .i64 i ∧ c = .int .u64 (carryAt (sMul B) (tMul B) dm [] i : Nat) ∧ Hid (OwnX w r (List.replicate k 0 ++ rowAt (sMul B) (tMul B) dm [] i) wr)) (fun _ _ t _ => la + 1 - (intOf t).toNat)
          case atStart => exact ⟨0, by omega, rfl, rfl, Lib.hid (by rw [rowAt, List.append_nil]; exact HX0.out)⟩
          case round =>
            clear HX0
            obtain ⟨i, hi, rfl, rfl, HX⟩ := hrel
            obtain ⟨ro', rc', hr⟩ := HX.out.slice
            rw [List.length_append, List.length_replicate, len_rowAt] at hr
            subst hr
            by_cases hend : i = la + 1
            · subst hend
              have HM := Lib.hid (r1make_any _ _ _ HX.out.sl.raw (small_append.2 ⟨fun x hx => by rw [List.eq_of_mem_replicate hx]; omega, HSM.out _⟩) (by rw [List.length_append, List.length_replicate, len_rowAt]; omega))
              rw [HALL.out] at HM
              have HF := Lib.hid HX.out.fol
              have d1 : decide (la + 1 ≤ la) = false := by simp
              have d2 : decide (((la + 1 : Nat) : Int) ≤ la) = false := by simp; omega
              clear HX hi
              go_wp2_with ((go_at_call 36; (with_reducible refine HM.out.mono ?_)); rintro e w1 ⟨v1, rfl, hv1, k1⟩)
              go_ret
              exact ⟨_, rfl, hv1, Fol.trans HF.out k1⟩
            · have hxa := HXA.out i
              have hca := HCA.out i
              have hle : i ≤ la := by omega
              have hc' : carryAt (sMul B) (tMul B) dm [] (i + 1) = (lim dm i * B + carryAt (sMul B) (tMul B) dm [] i) / 4294967296 := rfl
              have hr' : List.replicate k 0 ++ rowAt (sMul B) (tMul B) dm [] (i + 1) = (List.replicate k 0 ++ rowAt (sMul B) (tMul B) dm [] i) ++ [(lim dm i * B + carryAt (sMul B) (tMul B) dm [] i) % 4294967296] := by
                rw [List.append_assoc]; rfl
              have HC' := Lib.hid hc'
              have HR' := Lib.hid hr'
              have HF := Lib.hid HX.out.fol
              have HO := Lib.hid (HX.out.own.alloc)
              have hlr : Hid ((List.replicate k 0 ++ rowAt (sMul B) (tMul B) dm [] i).length = k + i) := Lib.hid (by rw [List.length_append, List.length_replicate, len_rowAt])
              have LA := Lib.hid (HLa.out i _ HF.out)
              have hsz := HF.out.size
              clear hc' hr' HXA HCA HLa HALL HSM hend
              rw [hlr.out] at HO
              generalize List.replicate k 0 ++ rowAt (sMul B) (tMul B) dm [] i = row at *
              generalize lim dm i = x at *
              generalize carryAt (sMul B) (tMul B) dm [] i = c at *
              have C1 : Hid (k + i ≤ 1099511627776) := Lib.hid (by omega)
              have hxB : x * B ≤ 4294967295 * 2147483648 := Nat.mul_le_mul (by omega) hb31
              obtain ⟨y, hy⟩ : ∃ y, y = x * B := ⟨_, rfl⟩
              have hyc : ((x : Int) * (B : Int)) = (y : Int) := by rw [hy, Int.natCast_mul]
              rw [← hy] at HC' HR' hxB
              have hyb : y ≤ 9223372034707292160 := hxB
              have e1 : IntKind.u64.wrap ((x : Int) * (B : Int)) = (y : Int) := by rw [hyc, IntKind.wrap_u64]; omega
              have e2 : IntKind.u64.wrap ((y : Int) + c) = (y : Int) + c := by rw [IntKind.wrap_u64]; omega
              have e3 : ((y : Int) + c) % 4294967296 % 4294967296 = (((y + c) % 4294967296 : Nat) : Int) := by omega
              have e4 : ((y : Int) + c) / 4294967296 = (((y + c) / 4294967296 : Nat) : Int) := by omega
              clear hyc hxB hy
              go_wp2_with first
                | ((go_at_call 63; (with_reducible refine LA.out.mono ?_)); rintro e w' ⟨rfl, rfl⟩)
                | (at_builtin; refine wpList_app1 rfl _ _ rfl w.heap.size _ _ _ rfl (HO.out _) _ 1 _ rfl (Boxed.new _ _ _) C1 (by rw [World.size_alloc]; omega) ?_; intro v' wz hown1 hgrow1)
              refine ⟨⟨i + 1, by omega, by go_num, by rw [HC'.out, e4], Lib.hid ?_⟩, by simp [intOf]; omega⟩
              rw [HR'.out]
              refine OwnX.step (v := .slice ro' (k + i) rc') (o := .cells #[.int .u32 (((y + c) % 4294967296 : Nat) : Int)] 43) HX.out hgrow1 ?_
              rw [hlr.out]
              exact hown1
end Go.Proofs.YtckahcgolfnobaaGreatDoor
