/- nat.Shl, nat.Shr. -/
import Derived.Test.YtckahcgolfnobaaGreatDoorAdd
namespace Go.Proofs.YtckahcgolfnobaaGreatDoor
open Go Go.RowKit

/-- One limb more, appended to a row of the call's own. -/
theorem wpList_app1 {w : World} {ops : Array Oper} {rest : List Oper} {o : Oper} {a : Act} {Q : Exit → Act → World → Prop} (hgd : o.guard = none) (s x : Operand)
    (ho : o.op = .call { callee := .builtin .append, args := #[s, x], argTypes := #[22, 22] })
    (base : Nat) (v : Value) (n : Nat) (xs : List Value) (hs : a.eval s = v) (hown : w.ownsRow base 43 1 v n xs) (b c : Nat) (e : Int) (hx : a.eval x = .slice (some ⟨b, 0, none⟩) 1 c)
    (hb : Boxed w b 43 (.int .u32 e)) (hn : Hid (n ≤ 1099511627776)) (hbase : base ≤ w.heap.size)
    (h : ∀ v' w', w'.ownsRow base 43 1 v' (n + 1) (xs ++ [.int .u32 e]) → w.grownBy w' v.ownBlock → wpList Tryz.prog ops Q rest (a.put o.dst v') w') : wpList Tryz.prog ops Q (o :: rest) a w := by
  have hn' := hn.out
  obtain ⟨i0, hi, hz0, hz1, hz2⟩ := info_parts' infoU
  refine wpList_append_own w hgd s x 22 ho base 43 i0 (.int .u32 0) 1 4 Tryz.underlying22 hi hz0 hz1 hz2 rfl (by decide) v n xs hs hown ⟨b, 0, none⟩ 1 c [.int .u32 e] hx rfl
    (fun j u hu => ?_) (by intro u hu; simp at hu; subst hu; rfl) (by unfold maxLen; omega) (by omega) hbase (fun v' w' h1 h2 _ => h v' w' h1 h2)
  rw [addr_add]
  have hj : j = 0 := by
    cases j with
    | zero => rfl
    | succ j => simp at hu
  subst hj
  simp at hu
  subst hu
  exact hb.cell

theorem pow32_split {r : Nat} (hr : r < 32) : 2 ^ r * 2 ^ (32 - r) = 4294967296 := by
  rw [← Nat.pow_add, show r + (32 - r) = 32 by omega]

theorem shl_limb {x r low : Nat} (hx : x < 4294967296) (hr : r < 32) (hlow : low < 2 ^ r) :
    bits .or .u32 ((x : Int) * 2 ^ r % 4294967296) (low : Int) = ((x * 2 ^ r % 4294967296 + low : Nat) : Int) ∧ x * 2 ^ r % 4294967296 + low < 4294967296 ∧ x * 2 ^ r / 4294967296 < 2 ^ r ∧
    IntKind.u64.wrap ((x : Int) * 2 ^ r) / 4294967296 % 4294967296 = ((x * 2 ^ r / 4294967296 : Nat) : Int) := by
  have h2 := pow32_split hr
  have hp : 2 ^ r < 4294967296 := Nat.pow_lt_pow_right (m := r) (n := 32) (by omega) hr
  have hm : x * 2 ^ r % 4294967296 = 2 ^ r * (x % 2 ^ (32 - r)) := by
    rw [← h2, Nat.mul_comm x, Nat.mul_mod_mul_left]
  have hd : (x * 2 ^ r % 4294967296) % 2 ^ r = 0 := by rw [hm]; exact Nat.mul_mod_right _ _
  have hle : 2 ^ r * (x % 2 ^ (32 - r)) + 2 ^ r ≤ 4294967296 := by
    have h3 : x % 2 ^ (32 - r) + 1 ≤ 2 ^ (32 - r) := Nat.mod_lt _ (Nat.pow_pos (by omega))
    have := Nat.mul_le_mul_left (2 ^ r) h3
    rw [h2, Nat.mul_add] at this; omega
  have hb : x * 2 ^ r < 18446744073709551616 := by
    have := Nat.mul_lt_mul'' hx hp
    omega
  have hq : x * 2 ^ r / 4294967296 < 2 ^ r := by
    rw [Nat.div_lt_iff_lt_mul (by omega), Nat.mul_comm]
    exact Nat.mul_lt_mul_of_pos_left hx (Nat.pow_pos (by omega))
  have hi : (x : Int) * 2 ^ r = ((x * 2 ^ r : Nat) : Int) := by rw [Int.natCast_mul, Int.natCast_pow]; rfl
  refine ⟨?_, by omega, hq, ?_⟩
  · have e1 : (x : Int) * 2 ^ r % 4294967296 = ((x * 2 ^ r % 4294967296 : Nat) : Int) := by rw [hi]; rfl
    rw [e1, u32_or_nat _ _ (Nat.mod_lt _ (by omega)) (by omega), nat_join r _ _ hd hlow]
  · rw [hi, IntKind.wrap_u64]
    generalize x * 2 ^ r = y at *
    omega

theorem u32_eq {a b : Int} (h : a = b) : Value.int .u32 a = Value.int .u32 b := by rw [h]
theorem i64_eq {a b : Int} (h : a = b) : Value.int .i64 a = Value.int .i64 b := by rw [h]

theorem replicate_val (q : Nat) (row : List Nat) : val (List.replicate q 0 ++ row) = 4294967296 ^ q * val row := by
  rw [val_append]
  have : val (List.replicate q 0) = 0 := by
    induction q with
    | zero => rfl
    | succ q ih => simp [List.replicate_succ, val, ih]
  rw [this]; simp

theorem small_replicate (q : Nat) : Small (List.replicate q 0) := fun x hx => by
  rw [List.eq_of_mem_replicate hx]; omega

theorem valTo_all (l : List Nat) : valTo l l.length = val l := by
  have h : ∀ k, k ≤ l.length → valTo l k = val (l.take k) := by
    intro k
    induction k with
    | zero => intro _; simp [valTo, val]
    | succ k ih =>
      intro hk
      rw [valTo, ih (by omega), val_take_succ l k (by omega)]
      simp [lim, List.getD, show k < l.length by omega]
  rw [h _ (Nat.le_refl _)]; simp

/-- What holds of the row after k limbs. -/
def ShlR (l : List Nat) (r k low : Nat) (row : List Nat) : Prop := row.length = k ∧ Small row ∧ low < 2 ^ r ∧ val row + 4294967296 ^ k * low = 2 ^ r * valTo l k
theorem ShlR.next {l : List Nat} {r k low : Nat} {row : List Nat} (h : ShlR l r k low row) (hs : Small l) (hr : r < 32) :
    ShlR l r (k + 1) (lim l k * 2 ^ r / 4294967296) (row ++ [lim l k * 2 ^ r % 4294967296 + low]) := by
  obtain ⟨h1, h2, h3, h4⟩ := h
  obtain ⟨_, b, c, _⟩ := shl_limb (lim_lt hs k) hr h3
  refine ⟨by simp [h1], small_append.2 ⟨h2, fun x hx => by simp at hx; omega⟩, c, ?_⟩
  rw [val_append, h1, valTo, Nat.pow_succ]
  have e := Nat.mod_add_div (lim l k * 2 ^ r) 4294967296
  simp only [val]
  generalize lim l k * 2 ^ r % 4294967296 = y at *
  generalize lim l k * 2 ^ r / 4294967296 = z at *
  generalize 4294967296 ^ k = P at *
  generalize lim l k = x at *
  generalize 2 ^ r = R at *
  have e2 : P * (y + 4294967296 * z) = P * (x * R) := by rw [e]
  grind

theorem ShlR.done {l : List Nat} {r q low : Nat} {row : List Nat} (h : ShlR l r l.length low row) : val (List.replicate q 0 ++ (row ++ [low])) = val l * 2 ^ (32 * q + r) := by
  obtain ⟨h1, _, _, h4⟩ := h
  rw [replicate_val, val_append, h1]
  rw [valTo_all] at h4
  simp only [val, Nat.mul_zero, Nat.add_zero]
  rw [h4, Nat.pow_add, Nat.pow_mul, show (2 : Nat) ^ 32 = 4294967296 from rfl]
  grind

set_option maxHeartbeats 400000 in
set_option maxRecDepth 100000 in
theorem shl_walk (b off cap : Nat) (l : List Nat) (n q r : Nat) (w : World) (hr : r < 32) (hq : q < 1073741824) (hl : l.length < 1073741824) (hl0 : 0 < l.length) (hn : n = 32 * q + r) (hs : Small l)
    (hb : b < w.heap.size) (hc : ∀ (i x : Nat), l[i]? = some x → w.cell? ⟨b, off + i, none⟩ = some (.int .u32 (x : Int))) :
    Calls Tryz.prog 71 #[.slice (some ⟨b, off, none⟩) l.length cap, .int .i64 n] w (RNatO w (val l * 2 ^ n)) := by
  have HC := Lib.hid hc
  have HS := Lib.hid hs
  have hq' : (n : Int) / 32 = q := by rw [hn]; omega
  have hr' : (n : Int) % 32 = r := by clear hq'; rw [hn]; omega
  have hmk : ∀ w, (Instr.makeSlice 22 (.int .i64 (q : Int)) (.int .i64 ((q : Int) + l.length + 1))).run Tryz.prog w = .ok (.slice (some ⟨w.heap.size, 0, none⟩) q (q + l.length + 1)) (w.alloc (.cells (zrow (q + l.length + 1)) 43)) := fun w => by
    have := make_run q (q + l.length + 1) (by omega) (by clear hq' hr'; omega) w
    rw [show (((q + l.length + 1 : Nat) : Int)) = (q : Int) + l.length + 1 by omega] at this
    exact this
  have h0 : ((l.length : Int) == 0) = false := by clear hmk; simp; exact List.ne_nil_of_length_pos hl0
  have HN := Lib.hid hn
  clear hc hs hn
  generalize hN : l.length = N at *
  have HL := Lib.hid hN
  clear hN
  go_enter Tryz.func71, Tryz.ntmps71
  go_wp2
  simp only [hr']
  go_loopw [5, 7, 26] (fun v lo t wr => ∃ k low : Nat, k ≤ N ∧ t = .int .i64 k ∧ lo = .int .u32 low ∧ ∃ row : List Nat, wr.ownsRow w.heap.size 43 1 v (q + k) (lv (List.replicate q 0 ++ row)) ∧ Below w.heap.size w wr ∧ w.heap.size ≤ wr.heap.size ∧ Hid (ShlR l r k low row)) (fun _ _ t _ => N - (intOf t).toNat)
  case atStart =>
    refine ⟨0, 0, Nat.zero_le _, rfl, rfl, [], ?_, (Below.refl _ _).alloc (Nat.le_refl _) _, by simp, Lib.hid ⟨rfl, small_nil, Nat.pow_pos (by omega), by simp [val, valTo]⟩⟩
    refine ⟨by simp [lv_length], .inr ⟨w.heap.size, q + N + 1, zrow (q + N + 1), rfl, Nat.le_refl _, heap_alloc_new w _, by omega, by unfold maxLen; omega, by simp [zrow_size], ?_⟩⟩
    rw [zrow_list, List.append_nil]
    simp [lv, List.take_replicate, List.map_replicate]
    omega
  case round =>
    obtain ⟨k, low, hk, rfl, rfl, row, hown, hbel, hsz, hrow⟩ := hrel
    clear hr' hq' hmk
    have HO := Lib.hid (hown.alloc)
    by_cases hlt : k < N
    · have hkl : k < l.length := by rw [HL.out]; exact hlt
      have hcell : wr.cell? ⟨b, off + k, none⟩ = some (.int .u32 (lim l k : Nat)) := by rw [hbel.cell hb]; exact HC.out k _ (getD_eq hkl)
      have HLB := Lib.hid (shl_limb (lim_lt HS.out k) hr hrow.out.2.2.1)
      have hlx := lim_lt HS.out k
      have HB2 := Lib.hid hbel
      have HNX := Lib.hid (ShlR.next hrow.out HS.out hr)
      have C1 : Hid (q + k ≤ 1099511627776) := Lib.hid (by omega)
      clear hown hbel hrow
      generalize lim l k = x at *
      go_wp2_with (at_builtin; refine wpList_app1 rfl _ _ rfl w.heap.size _ _ _ rfl (HO.out _) wr.heap.size 1 _ rfl (Boxed.new _ _ _) C1 (by simp; omega) ?_; intro v' w1 hown1 hgrow1)
      have hb1 : Below w.heap.size w w1 := ((HB2.out.alloc hsz _).grown hgrow1 (by simp; omega) (fun j hj => ((HO.out (.deferred none)).lt j hj).1))
      have HN1 := Lib.hid hown1
      have HB1 := Lib.hid hb1
      clear hown1 hgrow1 hb1
      go_roundw
      case rel =>
        refine ⟨k + 1, x * 2 ^ r / 4294967296, by omega, by go_num, u32_eq HLB.out.2.2.2, row ++ [x * 2 ^ r % 4294967296 + low], ?_, HB1.out, HB1.out.size, HNX⟩
        have := HN1.out
        rw [HLB.out.1] at this
        rw [← List.append_assoc, lv_append]
        exact this
      case measure => simp [intOf]; omega
    · obtain rfl : k = N := by omega
      have HB2 := Lib.hid hbel
      have C1 : Hid (q + k ≤ 1099511627776) := Lib.hid (by omega)
      clear hown hbel hlt
      go_wp2_with (at_builtin; refine wpList_app1 rfl _ _ rfl w.heap.size _ _ _ rfl (HO.out _) wr.heap.size 1 _ rfl (Boxed.new _ _ _) C1 (by simp; omega) ?_; intro v' w1 hown1 hgrow1)
      have hb1 : Below w.heap.size w w1 := ((HB2.out.alloc hsz _).grown hgrow1 (by simp; omega) (fun j hj => ((HO.out (.deferred none)).lt j hj).1))
      have hsl : Sl w1 v' (List.replicate q 0 ++ (row ++ [low])) := by
        refine sl_of_owns (base := w.heap.size) ?_
        have := hown1
        rw [← List.append_assoc, lv_append]
        simp only [List.length_append, List.length_replicate, hrow.out.1, List.length_singleton]
        exact this
      have hv : val (List.replicate q 0 ++ (row ++ [low])) = val l * 2 ^ n := by
        rw [HN.out]; exact ShlR.done (by rw [HL.out]; exact hrow.out)
      have hsm : Small (List.replicate q 0 ++ (row ++ [low])) := small_append.2 ⟨small_replicate q, small_append.2 ⟨hrow.out.2.1, fun x hx => by
        simp at hx
        have := hrow.out.2.2.1
        have hp : 2 ^ r < 4294967296 := Nat.pow_lt_pow_right (m := r) (n := 32) (by omega) hr
        omega⟩⟩
      have hM := make_own v' _ w1 hsl hsm (by simp [hrow.out.1]; omega)
      rw [hv] at hM
      refine hM.mono ?_
      rintro e w2 ⟨v2, rfl, hv2, hb2⟩
      have HV := Lib.hid (own_mono hv2 hb1.size)
      have HB3 := Lib.hid (hb1.trans (hb2.mono hb1.size))
      clear hv2 hb2 hM hsl hb1 hown1 hgrow1 hv hsm
      go_wp2
      go_ret
      exact ⟨_, rfl, HV.out, HB3.out⟩

set_option maxHeartbeats 400000 in
set_option maxRecDepth 100000 in
theorem shl_zero (o : Option Addr) (cap : Nat) (n : Int) (w : World) :
    Calls Tryz.prog 71 #[.slice o 0 cap, .int .i64 n] w (RNatO w 0) := by
  go_enter Tryz.func71, Tryz.ntmps71
  go_wp2
  go_ret
  exact ⟨_, rfl, by rw [dig_zero]; exact World.ownsRow_nil _ _ _ _, Below.refl _ _⟩

theorem shl_own (v : Value) (m n : Nat) (w : World) (h : NatV w v m) (hm : Big m) (hn : n < 34359738368) :
    Calls Tryz.prog 71 #[v, .int .i64 n] w (RNatO w (m * 2 ^ n)) := by
  rcases Sl.open h with ⟨o, cap, rfl, hl, _⟩ | ⟨b, off, cap, rfl, hne, hc, hb, hx⟩
  · have e1 : m = 0 := by have := val_dig m; rw [hl] at this; exact this.symm
    subst e1
    rw [Nat.zero_mul]
    exact shl_zero o cap n w
  · have := shl_walk b off cap (dig m) n (n / 32) (n % 32) w (Nat.mod_lt _ (by omega)) (by omega) hm (List.length_pos_iff.2 hne) (Nat.div_add_mod n 32).symm (small_dig m) hb hx
    rw [val_dig] at this
    exact this

theorem shl_any (v : Value) (m n : Nat) (w : World) (h : NatV w v m) (hm : Big m) (hn : n < 34359738368) :
    Calls Tryz.prog 71 #[v, .int .i64 n] w (RNat w (m * 2 ^ n)) := (shl_own v m n w h hm hn).mono fun _ _ h => h.nat
end Go.Proofs.YtckahcgolfnobaaGreatDoor
