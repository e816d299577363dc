/- The document's quotient and rest, bit by bit. -/
import Derived.Test.YtckahcgolfnobaaGreatDoorR3
import Derived.Test.YtckahcgolfnobaaGreatDoorDivm
namespace Go.Proofs.YtckahcgolfnobaaGreatDoor
open Go Go.RowKit

theorem RowX.lt {w wr : World} {g : Nat} {l : List Nat} (h : RowX w g l wr) : g < wr.heap.size := by
  obtain ⟨cur, hg, _⟩ := h.row
  exact (Array.getElem?_eq_some_iff.1 hg).1
theorem RowX.folw {w wr wz : World} {g : Nat} {l : List Nat} (h : RowX w g l wr) (k : Fol wr wz) : RowX w g l wz := by
  obtain ⟨cur, hg, _⟩ := h.row
  exact ⟨Fol.trans h.fol k, h.row.mono (k.block _ (Array.getElem?_eq_some_iff.1 hg).1), h.hg⟩

/-- Bits j and above are done: q tells their quotient. -/
structure BitI (m n j la : Nat) (q : List Nat) : Prop where
  len : q.length = la
  small : Small q
  eq : val q = 2 ^ j * (m / 2 ^ j / n)

theorem bit_prefix (m j : Nat) : m / 2 ^ j = 2 * (m / 2 ^ (j + 1)) + m / 2 ^ j % 2 := by
  rw [Nat.pow_succ, ← Nat.div_div_eq_div_mul]; omega
theorem mod_prefix (m n j : Nat) : (2 * (m / 2 ^ (j + 1) % n) + m / 2 ^ j % 2) % n = m / 2 ^ j % n := by
  conv => rhs; rw [bit_prefix m j]
  rw [Nat.add_mod, Nat.mul_mod, Nat.mod_mod, ← Nat.mul_mod, ← Nat.add_mod]
theorem div_prefix (m n j : Nat) (hn : 0 < n) : m / 2 ^ j / n = 2 * (m / 2 ^ (j + 1) / n) + (2 * (m / 2 ^ (j + 1) % n) + m / 2 ^ j % 2) / n := by
  conv => lhs; rw [bit_prefix m j]
  have h := Nat.div_add_mod (m / 2 ^ (j + 1)) n
  generalize m / 2 ^ (j + 1) = M at *
  generalize m / 2 ^ j % 2 = b at *
  have : 2 * M + b = n * (2 * (M / n)) + (2 * (M % n) + b) := by grind
  rw [this, Nat.mul_add_div hn]

theorem BitI.first (m n la : Nat) : BitI m n (blen m) la (List.replicate la 0) := by
  refine ⟨by simp, small_replicate _, ?_⟩
  rw [Nat.div_eq_of_lt (blen_le.1 (Nat.le_refl (blen m))), Nat.zero_div, Nat.mul_zero]
  simpa [val] using replicate_val la []

theorem BitI.skip {m n j la : Nat} {q : List Nat} (h : BitI m n (j + 1) la q) (hn : 0 < n) (hlt : 2 * (m / 2 ^ (j + 1) % n) + m / 2 ^ j % 2 < n) : BitI m n j la q := by
  refine ⟨h.len, h.small, ?_⟩
  rw [h.eq, div_prefix m n j hn, Nat.div_eq_of_lt hlt, Nat.pow_succ]
  generalize m / 2 ^ (j + 1) / n = K
  grind

theorem BitI.room {m n j la : Nat} {q : List Nat} (h : BitI m n (j + 1) la q) : lim q (j / 32) + 2 ^ (j % 32) < 4294967296 := by
  rw [lim_val h.small, h.eq]
  have hs : j % 32 < 32 := Nat.mod_lt _ (by omega)
  have e1 : 2 ^ (j + 1) = 4294967296 ^ (j / 32) * 2 ^ (j % 32 + 1) := by
    rw [show (4294967296 : Nat) = 2 ^ 32 from rfl, ← Nat.pow_mul, ← Nat.pow_add]
    congr 1
    omega
  generalize m / 2 ^ (j + 1) / n = K
  rw [e1, Nat.mul_assoc, Nat.mul_div_cancel_left _ (Nat.pow_pos (by omega))]
  generalize j % 32 = s at *
  have e2 : 4294967296 = 2 ^ (s + 1) * 2 ^ (31 - s) := by
    rw [← Nat.pow_add, show s + 1 + (31 - s) = 32 by omega]
  have hp : 0 < 2 ^ s := Nat.pow_pos (by omega)
  have e3 : 2 ^ (s + 1) = 2 * 2 ^ s := by rw [Nat.pow_succ, Nat.mul_comm]
  rw [e2, Nat.mul_mod_mul_left]
  have h1 : K % 2 ^ (31 - s) + 1 ≤ 2 ^ (31 - s) := Nat.mod_lt _ (Nat.pow_pos (by omega))
  have h2 := Nat.mul_le_mul_left (2 ^ (s + 1)) h1
  rw [Nat.mul_add, Nat.mul_one] at h2
  omega

theorem BitI.put {m n j la : Nat} {q : List Nat} (h : BitI m n (j + 1) la q) (hn : 0 < n) (hj : j / 32 < la) (hge : n ≤ 2 * (m / 2 ^ (j + 1) % n) + m / 2 ^ j % 2) : BitI m n j la (q.set (j / 32) (lim q (j / 32) + 2 ^ (j % 32))) := by
  refine ⟨by simp [h.len], small_set h.small _ _ h.room, ?_⟩
  have h1 := val_set q (j / 32) (lim q (j / 32) + 2 ^ (j % 32)) (by rw [h.len]; exact hj)
  have h2 := h.eq
  have hlt : 2 * (m / 2 ^ (j + 1) % n) + m / 2 ^ j % 2 < 2 * n := by
    have := Nat.mod_lt (m / 2 ^ (j + 1)) hn
    omega
  have hd : (2 * (m / 2 ^ (j + 1) % n) + m / 2 ^ j % 2) / n = 1 := Nat.div_eq_of_lt_le (by omega) (by omega)
  have e1 : 4294967296 ^ (j / 32) * 2 ^ (j % 32) = 2 ^ j := by
    rw [show (4294967296 : Nat) = 2 ^ 32 from rfl, ← Nat.pow_mul, ← Nat.pow_add, Nat.div_add_mod]
  rw [div_prefix m n j hn, hd]
  generalize m / 2 ^ (j + 1) / n = K at *
  rw [Nat.pow_succ] at h2
  clear hge hlt hd
  generalize lim q (j / 32) = L at *
  generalize 4294967296 ^ (j / 32) = P at *
  generalize 2 ^ (j % 32) = S at *
  generalize 2 ^ j = J at *
  generalize val (q.set (j / 32) (L + S)) = V at *
  have h3 : P * (L + S) = P * L + J := by rw [Nat.mul_add, e1]
  grind

theorem one_new (w : World) : NatV (w.alloc (.cells #[.int .u32 1] 43)) (.slice (some ⟨w.heap.size, 0, none⟩) 1 1) 1 := by
  have h1 : dig 1 = [1] := by rw [dig_pos (by decide)]; simp [dig_zero]
  unfold NatV
  rw [h1]
  exact sl_new w [1] #[.int .u32 1] rfl 1 1 rfl (by omega)

set_option maxHeartbeats 3000000 in
set_option maxRecDepth 100000 in
theorem r4div_any (v v' : Value) (m n : Nat) (w : World) (h : NatV w v m) (h' : NatV w v' n) (hm : (dig m).length ≤ 1000000) (hn : (dig n).length ≤ 1000000) (hpos : 0 < n) :
    Calls Tryz.prog 35 #[v, v'] w (RDiv w m n) := by
  have hbl : blen m ≤ 32 * (dig m).length := blen_le.2 (by
    have := lt_dig_length m
    rw [show (4294967296 : Nat) = 2 ^ 32 from rfl, ← Nat.pow_mul] at this
    exact this)
  obtain ⟨oa, ca, rfl, _, _⟩ := h.slice
  obtain ⟨ob, cb, rfl, _, _⟩ := h'.slice
  have hlb := dig_pos' hpos
  have hrl : ∀ y, (dig (y % n)).length ≤ 1000000 := fun y => len_le (Nat.le_of_lt (Nat.mod_lt _ hpos)) hn
  have H2 : ∀ j, 2 * (m / 2 ^ (j + 1) % n) + m / 2 ^ j % 2 < 2 * n := fun j => by
    have := Nat.mod_lt (m / 2 ^ (j + 1)) hpos
    omega
  have hL2 : ∀ x, x < 2 * n → (dig x).length ≤ 1000001 := fun x hx => len_le (show x ≤ n + n by omega) (len_add hn hn)
  have HBT := Lib.hid (fun j w' (hf : Fol w w') (hj : j < 32 * (dig m).length) => r1bit_any _ m j w' (h.fol hf) (big_of hm (by omega)) hj)
  have HBL := Lib.hid (fun w' (hf : Fol w w') => r1bits_any _ m w' (h.fol hf) (big_of hm (by omega)))
  have HSH := Lib.hid (fun v x w' (hv : NatV w' v x) (hx : (dig x).length ≤ 1000000) => (show Calls Tryz.prog 38 #[v, .int .i64 1] w' (RNat w' (x * 2 ^ 1)) from r1shl_any v x 1 w' hv (big_of hx (by omega)) (by omega)))
  have HAD := Lib.hid (fun v v' x w' (hv : NatV w' v x) (hv' : NatV w' v' 1) (hx : (dig x).length ≤ 1000001) => r1add_any v v' x 1 w' hv hv' (big_of hx (by omega)) (big_of (show (dig 1).length ≤ 1 from dig_length_le (by omega)) (by omega)))
  have HSY := Lib.hid (fun v x w' (hf : Fol w w') (hv : NatV w' v x) (hx : (dig x).length ≤ 1000001) (hle : n ≤ x) => r1sub_own v _ x n w' hv (h'.fol hf) (big_of hx (by omega)) (big_of hn (by omega)) hle)
  have HSN := Lib.hid (fun v x w' (hf : Fol w w') (hv : NatV w' v x) (hx : (dig x).length ≤ 1000001) (hlt : x < n) => r1sub_no v _ x n w' hv (h'.fol hf) (big_of hx (by omega)) (big_of hn (by omega)) hlt)
  have HMK := Lib.hid (fun v x w' (hv : NatV w' v x) (hx : (dig x).length ≤ 1000000) => (show Calls Tryz.prog 36 #[v] w' (RNat w' x) by
    have := r1make_any v (dig x) w' (Sl.raw hv) (small_dig x) (by omega)
    rwa [val_dig] at this))
  have HF0 := Lib.hid (BitI.first m n (dig m).length)
  have HRL := Lib.hid hrl
  have HL2 := Lib.hid hL2
  have HH2 := Lib.hid H2
  clear h h' hrl hL2 H2
  generalize (dig m).length = la at *
  generalize hlbg : (dig n).length = lb at *
  clear hlbg
  have hz : ((lb : Int) == 0) = false := by rw [beq_eq_false_iff_ne]; omega
  have hmk := make_run la la (Nat.le_refl _) (by omega) w
  rw [zrow_rowW] at hmk
  have hw0 := rowW_size w (List.replicate la 0)
  have HR0 := Lib.hid ((RowX.first w (List.replicate la 0)).folw (Fol.new _ (.cells #[] 43)))
  obtain ⟨g, hg⟩ : ∃ g, g = w.heap.size := ⟨_, rfl⟩
  rw [← hg] at hmk HR0 hw0
  generalize rowW w (List.replicate la 0) = w0 at *
  have HG := Lib.hid hg
  clear hg
  go_enter Tryz.func35, Tryz.ntmps35
  go_wp2_with ((go_at_call 60; (with_reducible refine (HBL.out _ HR0.out.fol).mono ?_)); rintro e w1 ⟨rfl, k1⟩)
  have HR1 := Lib.hid (HR0.out.folw k1)
  have hz1 : NatV w1 (.slice (some ⟨g + 1, 0, none⟩) 0 0) (m / 2 ^ blen m % n) := by
    rw [Nat.div_eq_of_lt (blen_le.1 (Nat.le_refl (blen m))), Nat.zero_mod]
    exact natV_zero _ _ _ (fun h => by cases h)
  have HZ1 := Lib.hid hz1
  clear k1 hz1 hmk HR0 HBL
  go_loopw [8, 9] (fun r t wr => ∃ j : Nat, j ≤ blen m ∧ t = .int .i64 ((j : Int) - 1) ∧ Hid (NatV wr r (m / 2 ^ j % n)) ∧ ∃ ql, Hid (RowX w g ql wr) ∧ Hid (BitI m n j la ql)) (fun _ t _ => (intOf t + 1).toNat)
  case atStart => exact ⟨blen m, Nat.le_refl _, rfl, HZ1, _, HR1, HF0⟩
  case round =>
    clear HZ1 HR1 HF0 hw0
    obtain ⟨j, hj, rfl, hN, ql, hR, hI⟩ := hrel
    obtain ⟨ro, rn, rc, rfl⟩ : ∃ o n c, u8 = .slice o n c := by obtain ⟨o, c, h, _⟩ := hN.out.slice; exact ⟨_, _, _, h⟩
    cases j with
    | zero =>
      have hq := hI.out.eq
      rw [Nat.pow_zero, Nat.div_one, Nat.one_mul] at hq
      have HM1 := Lib.hid (fun w' (hf : Fol wr w') => r1make_any (.slice (some ⟨g, 0, none⟩) la la) ql w' ((hR.out.folw hf).row.sl _ _ hI.out.len.symm (Nat.le_refl _)).raw hI.out.small (by rw [hI.out.len]; omega))
      rw [hq] at HM1
      have hN0 : NatV wr (.slice ro rn rc) (m % n) := by have := hN.out; rwa [Nat.pow_zero, Nat.div_one] at this
      have HN0 := Lib.hid hN0
      clear hq hN0 hN
      go_wp2_with first
        | ((go_at_call 36; (with_reducible refine (HM1.out _ (Fol.refl _)).mono ?_)); rintro e w2 ⟨v2, rfl, h2, k2⟩)
        | ((go_at_call 36; (with_reducible refine (HMK.out _ _ _ (HN0.out.fol k2) (HRL.out _)).mono ?_)); rintro e w3 ⟨v3, rfl, h3, k3⟩)
      go_ret3
      exact ⟨_, _, rfl, h2.fol k3, h3, Fol.trans hR.out.fol (Fol.trans k2 k3)⟩
    | succ j =>
      have ej : ((j + 1 : Nat) : Int) - 1 = j := by omega
      rw [ej]
      have hjl : j < 32 * la := by omega
      have hjq : j / 32 < la := by omega
      have HB := Lib.hid (fun w' (hf : Fol wr w') => HBT.out j w' (Fol.trans hR.out.fol hf) hjl)
      have h2n := HH2.out j
      have hmp := mod_prefix m n j
      have hroom := hI.out.room
      have HSK := Lib.hid (hI.out.skip hpos)
      have HPU := Lib.hid (hI.out.put hpos hjq)
      have hbit : m / 2 ^ j % 2 = 0 ∨ m / 2 ^ j % 2 = 1 := by omega
      have hrp := HRL.out (m / 2 ^ (j + 1))
      have HMP := Lib.hid hmp
      have hjb : j < 34359738368 := by omega
      have e32 : (j : Int) / 32 = ((j / 32 : Nat) : Int) := rfl
      have em32 : (j : Int) % 32 = ((j % 32 : Nat) : Int) := rfl
      have hs32 : j % 32 < 32 := Nat.mod_lt _ (by omega)
      have HLQ := Lib.hid hI.out.len
      clear HH2 HBT hmp ej hjl HRL hI
      generalize m / 2 ^ j % 2 = b at *
      generalize m / 2 ^ (j + 1) % n = r at *
      have hsh : (dig (r * 2 ^ 1)).length ≤ 1000001 := HL2.out _ (by omega)
      have HSHL := Lib.hid hsh
      have hr2 : r * 2 ^ 1 = 2 * r := by omega
      have HR2 := Lib.hid hr2
      clear hsh hr2
      rcases hbit with rfl | rfl
      · by_cases hlt : 2 * r + 0 < n
        · have HRR : Hid (2 * r = m / 2 ^ j % n) := Lib.hid (by rw [← HMP.out, Nat.mod_eq_of_lt hlt]; rfl)
          go_wp2_with first
            | ((go_at_call 38; (with_reducible refine (HSH.out _ _ _ hN.out hrp).mono ?_)); rintro e w2 ⟨v2, rfl, h2, k2⟩)
            | ((go_at_call 61; (with_reducible refine (HB.out _ k2).mono ?_)); rintro e w3 ⟨rfl, rfl⟩)
            | ((go_at_call 37; (with_reducible refine (HSN.out _ _ _ (Fol.trans hR.out.fol k2) h2 HSHL.out (by omega)).mono ?_)); rintro e w4 ⟨v4, rfl, h4, k4⟩)
          refine ⟨⟨j, by omega, by go_num, Lib.hid (by rw [← HRR.out, ← HR2.out]; exact h2.fol k4), _, Lib.hid ((hR.out.folw k2).folw k4), Lib.hid (HSK.out hlt)⟩, by simp [intOf]⟩
        · have HRR : Hid (2 * r - n = m / 2 ^ j % n) := Lib.hid (by
            rw [← HMP.out, Nat.mod_eq_sub_mod (by omega), Nat.mod_eq_of_lt (by omega)]; rfl)
          go_wp2_with first
            | ((go_at_call 38; (with_reducible refine (HSH.out _ _ _ hN.out hrp).mono ?_)); rintro e w2 ⟨v2, rfl, h2, k2⟩)
            | ((go_at_call 61; (with_reducible refine (HB.out _ k2).mono ?_)); rintro e w3 ⟨rfl, rfl⟩)
            | ((go_at_call 37; (with_reducible refine (HSY.out _ _ _ (Fol.trans hR.out.fol k2) h2 HSHL.out (by omega)).mono ?_)); rintro e w4 ⟨v4, rfl, h4, k4⟩)
          have HGL := Lib.hid (hR.out.folw k2).lt
          have hR4 := Lib.hid ((hR.out.folw k2).folw k4)
          have hc := hR4.out.row.cell (i := j / 32) (by rw [HLQ.out]; exact hjq)
          have hf := hR4.out.row.frozen (j / 32)
          generalize lim ql (j / 32) = x at *
          generalize hq : j / 32 = q at *
          generalize hs : j % 32 = s at *
          have t32 : IntKind.i64.wrap ((j : Int).tdiv 32) = (q : Int) := by rw [Int.tdiv_eq_ediv_of_nonneg (by omega), IntKind.wrap_i64]; omega
          have tm32 : IntKind.i64.wrap ((j : Int).tmod 32) = (s : Int) := by rw [Int.tmod_eq_emod_of_nonneg (by omega), IntKind.wrap_i64]; omega
          have tm33 : ((j : Int).tmod 32) = (s : Int) := by rw [Int.tmod_eq_emod_of_nonneg (by omega)]; omega
          have wq : IntKind.i64.wrap (q : Int) = (q : Int) := by rw [IntKind.wrap_i64]; omega
          have ws : IntKind.i64.wrap (s : Int) = (s : Int) := by rw [IntKind.wrap_i64]; omega
          have tq0 : (0 : Int) ≤ (q : Int) := by omega
          have ts0 : (0 : Int) ≤ (s : Int) := by omega
          have tq1 : (q : Int) < (la : Int) := by omega
          obtain ⟨S, hS⟩ : ∃ S : Nat, 2 ^ s = S := ⟨_, rfl⟩
          have hSz : ((2 : Int) ^ s) = (S : Int) := by rw [← hS]; simp
          rw [hS] at hroom HPU
          have ps : IntKind.u32.wrap ((2 : Int) ^ s) = (S : Int) := by rw [hSz, IntKind.wrap_u32]; omega
          clear hSz hS
          have pa : IntKind.u32.wrap ((x : Int) + (S : Int)) = ((x + S : Nat) : Int) := by rw [IntKind.wrap_u32]; omega
          clear hq hs
          go_region_with (fail)
          have HX := Lib.hid ((hR4.out.drawn (wr' := w4.drew) ⟨1, rfl⟩).set q (x + S))
          go_wp2
          have hv5 : NatV (w4.setCell ⟨g, q, none⟩ (.int .u32 ((x + S : Nat) : Int))).drew v4 (m / 2 ^ j % n) := by
            rw [← HRR.out, ← HR2.out]
            exact Sl.keep (sl_of_owns (ownsRow_setCell_below h4 (show g < _ from HGL.out) _)) (Keep.drew _)
          exact ⟨⟨j, by omega, by go_num, Lib.hid hv5, _, HX, Lib.hid (HPU.out (by omega))⟩, by simp [intOf]⟩
      · have hsh1 : (dig (r * 2 ^ 1 + 1)).length ≤ 1000001 := HL2.out _ (by omega)
        have HSHL1 := Lib.hid hsh1
        clear hsh1
        by_cases hlt : 2 * r + 1 < n
        · have HRR : Hid (2 * r + 1 = m / 2 ^ j % n) := Lib.hid (by rw [← HMP.out, Nat.mod_eq_of_lt hlt])
          go_wp2_with first
            | ((go_at_call 38; (with_reducible refine (HSH.out _ _ _ hN.out hrp).mono ?_)); rintro e w2 ⟨v2, rfl, h2, k2⟩)
            | ((go_at_call 61; (with_reducible refine (HB.out _ k2).mono ?_)); rintro e w3 ⟨rfl, rfl⟩)
            | ((go_at_call 29; (with_reducible refine (HAD.out _ _ _ _ (h2.fol (Fol.new _ _)) (one_new w2) HSHL.out).mono ?_)); rintro e w5 ⟨v5, rfl, h5, k5'⟩; have k5 := Fol.trans k2 (Fol.trans (Fol.new _ _) k5'))
            | ((go_at_call 37; (with_reducible refine (HSN.out _ _ _ (Fol.trans hR.out.fol k5) h5 HSHL1.out (by omega)).mono ?_)); rintro e w4 ⟨v4, rfl, h4, k4⟩)
          refine ⟨⟨j, by omega, by go_num, Lib.hid (by rw [← HRR.out, ← HR2.out]; exact h5.fol k4), _, Lib.hid ((hR.out.folw k5).folw k4), Lib.hid (HSK.out hlt)⟩, by simp [intOf]⟩
        · have HRR : Hid (2 * r + 1 - n = m / 2 ^ j % n) := Lib.hid (by
            rw [← HMP.out, Nat.mod_eq_sub_mod (by omega), Nat.mod_eq_of_lt (by omega)])
          go_wp2_with first
            | ((go_at_call 38; (with_reducible refine (HSH.out _ _ _ hN.out hrp).mono ?_)); rintro e w2 ⟨v2, rfl, h2, k2⟩)
            | ((go_at_call 61; (with_reducible refine (HB.out _ k2).mono ?_)); rintro e w3 ⟨rfl, rfl⟩)
            | ((go_at_call 29; (with_reducible refine (HAD.out _ _ _ _ (h2.fol (Fol.new _ _)) (one_new w2) HSHL.out).mono ?_)); rintro e w5 ⟨v5, rfl, h5, k5'⟩; have k5 := Fol.trans k2 (Fol.trans (Fol.new _ _) k5'))
            | ((go_at_call 37; (with_reducible refine (HSY.out _ _ _ (Fol.trans hR.out.fol k5) h5 HSHL1.out (by omega)).mono ?_)); rintro e w4 ⟨v4, rfl, h4, k4⟩)
          have HGL := Lib.hid (hR.out.folw k5).lt
          have hR4 := Lib.hid ((hR.out.folw k5).folw k4)
          have hc := hR4.out.row.cell (i := j / 32) (by rw [HLQ.out]; exact hjq)
          have hf := hR4.out.row.frozen (j / 32)
          generalize lim ql (j / 32) = x at *
          generalize hq : j / 32 = q at *
          generalize hs : j % 32 = s at *
          have t32 : IntKind.i64.wrap ((j : Int).tdiv 32) = (q : Int) := by rw [Int.tdiv_eq_ediv_of_nonneg (by omega), IntKind.wrap_i64]; omega
          have tm32 : IntKind.i64.wrap ((j : Int).tmod 32) = (s : Int) := by rw [Int.tmod_eq_emod_of_nonneg (by omega), IntKind.wrap_i64]; omega
          have tm33 : ((j : Int).tmod 32) = (s : Int) := by rw [Int.tmod_eq_emod_of_nonneg (by omega)]; omega
          have wq : IntKind.i64.wrap (q : Int) = (q : Int) := by rw [IntKind.wrap_i64]; omega
          have ws : IntKind.i64.wrap (s : Int) = (s : Int) := by rw [IntKind.wrap_i64]; omega
          have tq0 : (0 : Int) ≤ (q : Int) := by omega
          have ts0 : (0 : Int) ≤ (s : Int) := by omega
          have tq1 : (q : Int) < (la : Int) := by omega
          obtain ⟨S, hS⟩ : ∃ S : Nat, 2 ^ s = S := ⟨_, rfl⟩
          have hSz : ((2 : Int) ^ s) = (S : Int) := by rw [← hS]; simp
          rw [hS] at hroom HPU
          have ps : IntKind.u32.wrap ((2 : Int) ^ s) = (S : Int) := by rw [hSz, IntKind.wrap_u32]; omega
          clear hSz hS
          have pa : IntKind.u32.wrap ((x : Int) + (S : Int)) = ((x + S : Nat) : Int) := by rw [IntKind.wrap_u32]; omega
          clear hq hs
          go_region_with (fail)
          have HX := Lib.hid ((hR4.out.drawn (wr' := w4.drew) ⟨1, rfl⟩).set q (x + S))
          go_wp2
          have hv5 : NatV (w4.setCell ⟨g, q, none⟩ (.int .u32 ((x + S : Nat) : Int))).drew v4 (m / 2 ^ j % n) := by
            rw [← HRR.out, ← HR2.out]
            exact Sl.keep (sl_of_owns (ownsRow_setCell_below h4 (show g < _ from HGL.out) _)) (Keep.drew _)
          exact ⟨⟨j, by omega, by go_num, Lib.hid hv5, _, HX, Lib.hid (HPU.out (by omega))⟩, by simp [intOf]⟩
end Go.Proofs.YtckahcgolfnobaaGreatDoor
