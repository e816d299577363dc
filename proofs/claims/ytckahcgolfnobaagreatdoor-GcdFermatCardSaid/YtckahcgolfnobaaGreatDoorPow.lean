/- gcd.PowMod. -/
import Derived.Test.YtckahcgolfnobaaGreatDoorIdiv
namespace Go.Proofs.YtckahcgolfnobaaGreatDoor
open Go Go.RowKit

set_option maxHeartbeats 400000 in
set_option maxRecDepth 100000 in
theorem rest1_any (v vm : Value) (x m B : Nat) (w : World) (h : NatV w v x) (hm : NatV w vm m) (hb : Boxed w B 22 vm) (hx : (dig x).length < 1000000000) (hlm : (dig m).length < 1000000000) (hpos : 0 < m) :
    Calls Tryz.prog 56 #[v, .pointer (some ⟨B, 0, none⟩)] w (RNat w (x % m)) := by
  have HD := Lib.hid (div_any v vm x m w h hm hx hlm hpos)
  have hc := hb.cell
  obtain ⟨o, n, c, rfl⟩ : ∃ o n c, vm = .slice o n c := by obtain ⟨o, c, h, _⟩ := hm.slice; exact ⟨_, _, _, h⟩
  obtain ⟨o', n', c', rfl⟩ : ∃ o n c, v = .slice o n c := by obtain ⟨o, c, h, _⟩ := h.slice; exact ⟨_, _, _, h⟩
  clear h hm hb hx hlm hpos
  go_enter Tryz.func56, Tryz.ntmps56
  go_wp2_with ((go_at_call 42; (with_reducible refine HD.out.mono ?_)); rintro e w1 ⟨vq, vr, rfl, hq, hr, k1⟩)
  go_ret
  exact ⟨_, rfl, hr, k1⟩

theorem blen_len (x : Nat) : blen x ≤ 32 * (dig x).length := blen_le.2 (by
  have := lt_dig_length x
  rw [show (4294967296 : Nat) = 2 ^ 32 from rfl, ← Nat.pow_mul] at this
  exact this)
theorem blen_shift (e : Nat) : e / 2 ^ blen e = 0 := Nat.div_eq_of_lt (blen_le.1 (Nat.le_refl _))
theorem pow_bit (a e i m : Nat) (h : e / 2 ^ i % 2 = 1) : (a ^ (e / 2 ^ (i + 1)) % m * (a ^ (e / 2 ^ (i + 1)) % m) % m) * (a % m) % m = a ^ (e / 2 ^ i) % m := by
  have h1 : e / 2 ^ i = 2 * (e / 2 ^ (i + 1)) + 1 := by
    rw [Nat.pow_succ, ← Nat.div_div_eq_div_mul]; omega
  rw [h1]
  generalize e / 2 ^ (i + 1) = k
  have e1 : a ^ (2 * k + 1) = (a ^ k * a ^ k) * a := by rw [Nat.pow_succ, Nat.two_mul, Nat.pow_add]
  rw [e1, Nat.mul_mod (a ^ k * a ^ k) a m, Nat.mul_mod (a ^ k) (a ^ k) m]
theorem pow_bit0 (a e i m : Nat) (h : e / 2 ^ i % 2 = 0) : a ^ (e / 2 ^ (i + 1)) % m * (a ^ (e / 2 ^ (i + 1)) % m) % m = a ^ (e / 2 ^ i) % m := by
  have h1 : e / 2 ^ i = 2 * (e / 2 ^ (i + 1)) := by
    rw [Nat.pow_succ, ← Nat.div_div_eq_div_mul]; omega
  rw [h1]
  generalize e / 2 ^ (i + 1) = k
  rw [Nat.two_mul, Nat.pow_add, Nat.mul_mod (a ^ k) (a ^ k) m]

def RPow (w : World) (r : Nat) (e : Ending) (w' : World) : Prop := ∃ v, e = .returned (.tuple #[v, .int .i64 0]) ∧ NatV w' v r ∧ Fol w w'

set_option maxHeartbeats 1000000 in
set_option maxRecDepth 100000 in
theorem pow_zero (va ve vm : Value) (w : World) (hm : NatV w vm 0) :
    Calls Tryz.prog 25 #[va, ve, vm] w fun e w' => e = .returned (.tuple #[.slice none 0 0, .int .i64 3]) ∧ Fol w w' := by
  obtain ⟨o, c, rfl, _, _⟩ := hm.slice
  rw [dig_zero]
  clear hm
  go_enter Tryz.func25, Tryz.ntmps25
  go_wp2
  go_ret2
  exact ⟨rfl, Fol.new _ _⟩

set_option maxHeartbeats 1000000 in
set_option maxRecDepth 100000 in
theorem pow_any (va ve vm : Value) (a x m : Nat) (w : World) (ha : NatV w va a) (he : NatV w ve x) (hm : NatV w vm m) (hla : (dig a).length ≤ 1000000) (hle : (dig x).length ≤ 1000000) (hlm : (dig m).length ≤ 13) (hpos : 0 < m) :
    Calls Tryz.prog 25 #[va, ve, vm] w (RPow w (a ^ x % m)) := by
  have hmf : ∀ (fn : Fn) (first cap : Array Value) (w : World), (Instr.makeFunc fn first cap).run Tryz.prog w = .ok (.func fn first cap) w := fun _ _ _ _ => rfl
  obtain ⟨om, cm, rfl, _, _⟩ := hm.slice
  have hb := Boxed.new w 22 (.slice om (dig m).length cm)
  have hf := Fol.new w (.cells #[.slice om (dig m).length cm] 22)
  have HR := Lib.hid (fun v y w' (hf' : Fol (w.alloc (.cells #[.slice om (dig m).length cm] 22)) w') (h : NatV w' v y) (hy : (dig y).length ≤ 1000000) => rest1_any v _ y m w.heap.size w' h ((hm.fol hf).fol hf') ((hf'.block _ hb.lt).trans hb) (by omega) (by omega) hpos)
  have hc := hb.cell
  have hlen := dig_pos' hpos
  have hlr : ∀ y, (dig (y % m)).length ≤ 13 := fun y => len_le (Nat.le_of_lt (Nat.mod_lt _ hpos)) hlm
  have HLR := Lib.hid hlr
  have HM := Lib.hid (fun v v' y z w' (h : NatV w' v (y % m)) (h' : NatV w' v' (z % m)) => (mul_c (y % m) (z % m) (Nat.le_trans (hlr y) (by omega)) (Nat.le_trans (hlr z) (by omega)) (by have := hlr y; omega)).out v v' w' h h')
  have HO := Lib.hid (fun w' => of_any 1 w' (by omega))
  have HBL := Lib.hid (fun v w' (h : NatV w' v x) => bits_any v x w' h (big_of hle (by omega)))
  have HBT := Lib.hid (fun v i w' (h : NatV w' v x) (hi : i < 4611686018427387904) => bit_any v x i w' h (big_of hle (by omega)) hi)
  have h1 : (dig 1).length ≤ 1000000 := Nat.le_trans (dig_length_le (k := 1) (by omega)) (by omega)
  have H1 := Lib.hid h1
  have HLA := Lib.hid hla
  have hbl : blen x ≤ 32 * 1000000 := Nat.le_trans (blen_len x) (by omega)
  obtain ⟨oa, na, ca, rfl⟩ : ∃ o n c, va = .slice o n c := by obtain ⟨o, c, h, _⟩ := ha.slice; exact ⟨_, _, _, h⟩
  obtain ⟨oe, ne, ce, rfl⟩ : ∃ o n c, ve = .slice o n c := by obtain ⟨o, c, h, _⟩ := he.slice; exact ⟨_, _, _, h⟩
  have ha := ha.fol hf
  have he := he.fol hf
  have HBX := Lib.hid hb
  have HF := Lib.hid hf
  clear hm hlr h1 hla hle hlm hb hf
  generalize hL : (dig m).length = L at *
  have hz : ((L : Int) == 0) = false := by rw [beq_eq_false_iff_ne]; omega
  have HL := Lib.hid hL
  clear hL
  go_enter Tryz.func25, Tryz.ntmps25
  go_wp2_with fail
  refine (HO.out _).mono ?_
  rintro e w1 ⟨v1, rfl, h1, k1⟩
  go_wp2_with first
    | ((go_at_call 56; (with_reducible refine (HR.out _ _ _ k1 h1 H1.out).mono ?_)); rintro e w2 ⟨v2, rfl, h2, k2⟩; have k12 := Fol.trans k1 k2)
    | ((go_at_call 56; (with_reducible refine (HR.out _ _ _ k12 (ha.fol k12) HLA.out).mono ?_)); rintro e w3 ⟨v3, rfl, h3, k3⟩; have k13 := Fol.trans k12 k3)
    | ((go_at_call 46; (with_reducible refine (HBL.out _ _ (he.fol k13)).mono ?_)); rintro e w4 ⟨rfl, rfl⟩)
  have h30 : NatV w3 v2 (a ^ (x / 2 ^ blen x) % m) := by
    rw [blen_shift, Nat.pow_zero]; exact h2.fol k3
  have HA3 := Lib.hid h3
  have HE3 := Lib.hid (he.fol k13)
  have HK3 := Lib.hid k13
  have H30 := Lib.hid h30
  have HBL2 := Lib.hid hbl
  clear h1 h2 h3 h30 k1 k2 k3 k12 k13 ha he HO HBL hbl
  obtain ⟨o3, n3, c3, rfl⟩ : ∃ o n c, v3 = .slice o n c := by obtain ⟨o, c, h, _⟩ := HA3.out.slice; exact ⟨_, _, _, h⟩
  go_loopw [9, 10] (fun v t wr => ∃ i : Nat, i ≤ blen x ∧ t = .int .i64 ((i : Int) - 1) ∧ Hid (Fol w3 wr) ∧ Hid (NatV wr v (a ^ (x / 2 ^ i) % m))) (fun _ t _ => (intOf t + 1).toNat)
  case atStart => exact ⟨blen x, Nat.le_refl _, rfl, Lib.hid (Fol.refl _), H30⟩
  case round =>
    clear H30
    obtain ⟨i, hi, rfl, hK, hN⟩ := hrel
    obtain ⟨o9, n9, c9, rfl⟩ : ∃ o n c, u9 = .slice o n c := by obtain ⟨o, c, h, _⟩ := hN.out.slice; exact ⟨_, _, _, h⟩
    cases i with
    | zero =>
      go_wp2
      go_ret2
      exact ⟨_, rfl, by have := hN.out; rwa [Nat.pow_zero, Nat.div_one] at this, Fol.trans HF.out (Fol.trans HK3.out hK.out)⟩
    | succ j =>
      have hj : j < 4611686018427387904 := by have := HBL2.out; omega
      have ej : ((j + 1 : Nat) : Int) - 1 = j := by omega
      rw [ej]
      have KW := Lib.hid (Fol.trans HK3.out hK.out)
      have hsq : (dig (a ^ (x / 2 ^ (j + 1)) % m * (a ^ (x / 2 ^ (j + 1)) % m))).length ≤ 1000000 := Nat.le_trans (len_mul (HLR.out _) (HLR.out _)) (by omega)
      have hsq2 : ∀ y, (dig (y % m * (a % m))).length ≤ 1000000 := fun y => Nat.le_trans (len_mul (HLR.out _) (HLR.out _)) (by omega)
      have HSQ := Lib.hid hsq
      have HSQ2 := Lib.hid hsq2
      have HB2 := Lib.hid (fun w' (h : Fol wr w') => HBT.out (.slice oe ne ce) j w' ((HE3.out.fol hK.out).fol h) hj)
      have HA2 := Lib.hid (HA3.out.fol hK.out)
      have P1 := Lib.hid (pow_bit a x j m)
      have P0 := Lib.hid (pow_bit0 a x j m)
      have hbit : x / 2 ^ j % 2 = 1 ∨ x / 2 ^ j % 2 = 0 := by omega
      clear hsq hsq2 ej
      rcases hbit with hb1 | hb0
      · have HP := Lib.hid (P1.out hb1)
        rw [hb1] at HB2
        clear P0 P1 hb1
        generalize a ^ (x / 2 ^ (j + 1)) = P at *
        go_wp2_with first
          | ((go_at_call 58; (with_reducible refine (HM.out _ _ P P _ hN.out hN.out).mono ?_)); rintro e w5 ⟨v5, rfl, h5, k5⟩)
          | ((go_at_call 56; (with_reducible refine (HR.out _ _ _ (Fol.trans KW.out k5) h5 HSQ.out).mono ?_)); rintro e w6 ⟨v6, rfl, h6, k6⟩; have k56 := Fol.trans k5 k6)
          | ((go_at_call 59; (with_reducible refine (HB2.out _ k56).mono ?_)); rintro e w7 ⟨rfl, rfl⟩)
          | ((go_at_call 58; (with_reducible refine (HM.out _ _ _ a _ h6 (HA2.out.fol k56)).mono ?_)); rintro e w8 ⟨v8, rfl, h8, k8⟩)
          | ((go_at_call 56; (with_reducible refine (HR.out _ _ _ (Fol.trans KW.out (Fol.trans k56 k8)) h8 (HSQ2.out _)).mono ?_)); rintro e w9 ⟨v9, rfl, h9, k9⟩)
        go_roundw
        case rel => exact ⟨j, by omega, by go_num, Lib.hid (Fol.trans hK.out (Fol.trans k56 (Fol.trans k8 k9))), Lib.hid (by rw [← HP.out]; exact h9)⟩
        case measure => simp [intOf]
      · have HP := Lib.hid (P0.out hb0)
        rw [hb0] at HB2
        clear P0 P1 hb0
        generalize a ^ (x / 2 ^ (j + 1)) = P at *
        go_wp2_with first
          | ((go_at_call 58; (with_reducible refine (HM.out _ _ P P _ hN.out hN.out).mono ?_)); rintro e w5 ⟨v5, rfl, h5, k5⟩)
          | ((go_at_call 56; (with_reducible refine (HR.out _ _ _ (Fol.trans KW.out k5) h5 HSQ.out).mono ?_)); rintro e w6 ⟨v6, rfl, h6, k6⟩; have k56 := Fol.trans k5 k6)
          | ((go_at_call 59; (with_reducible refine (HB2.out _ k56).mono ?_)); rintro e w7 ⟨rfl, rfl⟩)
        go_roundw
        case rel => exact ⟨j, by omega, by go_num, Lib.hid (Fol.trans hK.out k56), Lib.hid (by rw [← HP.out]; exact h6)⟩
        case measure => simp [intOf]
end Go.Proofs.YtckahcgolfnobaaGreatDoor
