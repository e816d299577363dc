/- The document's naturals: which is less, differences, sameness. -/
import Derived.Test.YtckahcgolfnobaaGreatDoorR1b
namespace Go.Proofs.YtckahcgolfnobaaGreatDoor
open Go Go.RowKit

theorem div_limb (m i : Nat) : m / 4294967296 ^ i = 4294967296 * (m / 4294967296 ^ (i + 1)) + lim (dig m) i := by
  have h : lim (dig m) i = m / 4294967296 ^ i % 4294967296 := getD_dig m i
  rw [h, Nat.pow_succ, ← Nat.div_div_eq_div_mul]
  omega
theorem lt_of_div {m n P : Nat} (h : m / P < n / P) : m < n := by
  apply Nat.lt_of_not_le
  intro hle
  have := Nat.div_le_div_right (c := P) hle
  omega

set_option maxHeartbeats 1000000 in
set_option maxRecDepth 100000 in
theorem r1cmp_any (v v' : Value) (m n : Nat) (w : World) (h : NatV w v m) (h' : NatV w v' n) (hm : Big m) (hn : Big n) :
    Calls Tryz.prog 34 #[v, v'] w fun e w' => e = .returned (.int .i64 (ncmp m n)) ∧ w = w' := by
  unfold Big at hm hn
  have HLa := Lib.hid (fun k => limb_any v (dig m) k w h (small_dig m) (by omega))
  have HLb := Lib.hid (fun k => limb_any v' (dig n) k w h' (small_dig n) (by omega))
  have HXA := Lib.hid (fun k => lim_lt (small_dig m) k)
  have HXB := Lib.hid (fun k => lim_lt (small_dig n) k)
  have HDA := Lib.hid (fun i => div_limb m i)
  have HDB := Lib.hid (fun i => div_limb n i)
  have hstart : m / 4294967296 ^ (max (dig m).length (dig n).length) = n / 4294967296 ^ (max (dig m).length (dig n).length) := by
    rw [Nat.div_eq_of_lt (lt_pow_len (show (dig m).length ≤ max (dig m).length (dig n).length by omega)), Nat.div_eq_of_lt (lt_pow_len (show (dig n).length ≤ max (dig m).length (dig n).length by omega))]
  have HST := Lib.hid hstart
  obtain ⟨o, cap, rfl, _, _⟩ := h.slice
  obtain ⟨o', cap', rfl, _, _⟩ := h'.slice
  clear h h' hstart
  generalize (dig m).length = la at *
  generalize (dig n).length = lb at *
  generalize dig m = dm at *
  generalize dig n = dn at *
  have e0 : max (la : Int) lb - 1 = ((max la lb : Nat) : Int) - 1 := by omega
  go_enter Tryz.func34, Tryz.ntmps34
  go_wp2
  go_loop [5] (fun t => ∃ j : Nat, j ≤ max la lb ∧ t = .int .i64 ((j : Int) - 1) ∧ Hid (m / 4294967296 ^ j = n / 4294967296 ^ j)) (fun t => (intOf t + 1).toNat)
  case atStart => exact ⟨max la lb, Nat.le_refl _, by first | rfl | rw [e0], HST⟩
  case round =>
    obtain ⟨j, hj, rfl, HE⟩ := hrel
    cases j with
    | zero =>
      go_wp2
      go_ret
      exact ⟨ret_i (by
        have := HE.out
        rw [Nat.pow_zero, Nat.div_one, Nat.div_one] at this
        rw [this]; unfold ncmp; simp), rfl⟩
    | succ i =>
      have ei : ((i + 1 : Nat) : Int) - 1 = i := by omega
      rw [ei]
      have hx := HXA.out i
      have hy := HXB.out i
      have LA := Lib.hid (HLa.out i)
      have LB := Lib.hid (HLb.out i)
      have H1 : Hid (lim dm i < lim dn i → ncmp m n = -1) := Lib.hid (fun hlt => by
        have h1 := HDA.out i
        have h2 := HDB.out i
        rw [HE.out] at h1
        have : m < n := lt_of_div (P := 4294967296 ^ i) (by omega)
        unfold ncmp; rw [if_pos this])
      have H2 : Hid (lim dn i < lim dm i → ncmp m n = 1) := Lib.hid (fun hlt => by
        have h1 := HDA.out i
        have h2 := HDB.out i
        rw [HE.out] at h1
        have : n < m := lt_of_div (P := 4294967296 ^ i) (by omega)
        unfold ncmp; rw [if_neg (by omega), if_pos this])
      have H3 : Hid (lim dm i = lim dn i → m / 4294967296 ^ i = n / 4294967296 ^ i) := Lib.hid (fun heq => by
        rw [HDA.out i, HDB.out i, HE.out, heq])
      clear HLa HLb HXA HXB HDA HDB HST HE ei e0
      generalize lim dm i = x at *
      generalize lim dn i = y at *
      have hi : i < 4611686018427387904 := by omega
      by_cases hlt : x < y
      · go_wp2_with first
          | ((go_at_call 63; (with_reducible refine LA.out.mono ?_)); rintro e w' ⟨rfl, rfl⟩)
          | ((go_at_call 63; (with_reducible refine LB.out.mono ?_)); rintro e w' ⟨rfl, rfl⟩)
        go_ret
        exact ⟨ret_i (H1.out hlt).symm, rfl⟩
      · by_cases hgt : y < x
        · go_wp2_with first
            | ((go_at_call 63; (with_reducible refine LA.out.mono ?_)); rintro e w' ⟨rfl, rfl⟩)
            | ((go_at_call 63; (with_reducible refine LB.out.mono ?_)); rintro e w' ⟨rfl, rfl⟩)
          go_ret
          exact ⟨ret_i (H2.out hgt).symm, rfl⟩
        · have hxy : x = y := by omega
          have HE2 := Lib.hid (H3.out hxy)
          clear H1 H2 H3
          subst hxy
          go_wp2_with first
            | ((go_at_call 63; (with_reducible refine LA.out.mono ?_)); rintro e w' ⟨rfl, rfl⟩)
            | ((go_at_call 63; (with_reducible refine LB.out.mono ?_)); rintro e w' ⟨rfl, rfl⟩)
          refine ⟨⟨i, by omega, by go_num, HE2⟩, by simp [intOf]⟩

def RNatBO (w : World) (n : Nat) (b : Bool) (e : Ending) (w' : World) : Prop := ∃ v, e = .returned (.tuple #[v, .bool b]) ∧ w'.ownsRow w.heap.size 43 1 v (dig n).length (lv (dig n)) ∧ Below w.heap.size w w'

set_option maxHeartbeats 1000000 in
set_option maxRecDepth 100000 in
theorem r1sub_no (v v' : Value) (m n : Nat) (w : World) (h : NatV w v m) (h' : NatV w v' n) (hm : Big m) (hn : Big n) (hlt : m < n) :
    Calls Tryz.prog 37 #[v, v'] w (RNatB w 0 false) := by
  have HC := Lib.hid (r1cmp_any v v' m n w h h' hm hn)
  have hnc : decide (ncmp m n < 0) = true := by unfold ncmp; rw [if_pos hlt]; rfl
  generalize ncmp m n = nc at *
  clear h h'
  go_enter Tryz.func37, Tryz.ntmps37
  go_wp2_with ((go_at_call 34; (with_reducible refine HC.out.mono ?_)); rintro e w' ⟨rfl, rfl⟩)
  go_ret2
  exact ⟨_, rfl, natV_nil _, Fol.refl _⟩

set_option maxHeartbeats 1000000 in
set_option maxRecDepth 100000 in
theorem r1sub_own (v v' : Value) (m n : Nat) (w : World) (h : NatV w v m) (h' : NatV w v' n) (hm : Big m) (hn : Big n) (hle : n ≤ m) :
    Calls Tryz.prog 37 #[v, v'] w (RNatBO w (m - n) true) := by
  have HCM := Lib.hid (r1cmp_any v v' m n w h h' hm hn)
  have hnc : decide (ncmp m n < 0) = false := by unfold ncmp; rw [if_neg (by omega)]; simp; split <;> omega
  generalize ncmp m n = nc at *
  unfold Big at hm hn
  have HLa := Lib.hid (fun k w' (hf : Fol w w') => limb_any v (dig m) k w' (Sl.fol h hf) (small_dig m) (by omega))
  have HLb := Lib.hid (fun k w' (hf : Fol w w') => limb_any v' (dig n) k w' (Sl.fol h' hf) (small_dig n) (by omega))
  have HROW := Lib.hid (subRow_all m n hle)
  have HSM := Lib.hid (fun k => rowAt_small subLaw (small_dig m) (small_dig n) k)
  have HCA := Lib.hid (fun k => carryAt_le subLaw (small_dig m) (small_dig n) k)
  have HXA := Lib.hid (fun k => lim_lt (small_dig m) k)
  have HXB := Lib.hid (fun k => lim_lt (small_dig n) k)
  obtain ⟨o, cap, rfl, _, _⟩ := h.slice
  obtain ⟨o', cap', rfl, _, _⟩ := h'.slice
  clear h h' hle
  generalize hla : (dig m).length = la at *
  generalize (dig n).length = lb at *
  clear hla
  generalize dig m = dm at *
  generalize dig n = dn at *
  go_enter Tryz.func37, Tryz.ntmps37
  go_wp2_with ((go_at_call 34; (with_reducible refine HCM.out.mono ?_)); rintro e w' ⟨rfl, rfl⟩)
  go_loopw [6, 7, 8] (fun r c t wr => ∃ k : Nat, k ≤ la ∧ t = .int .i64 k ∧ c = .int .u64 (carryAt sSub tSub dm dn k : Nat) ∧ Hid (OwnX w r (rowAt sSub tSub dm dn k) wr)) (fun _ _ t _ => la - (intOf t).toNat)
  case atStart => exact ⟨0, by omega, rfl, rfl, Lib.hid (OwnX.first w)⟩
  case round =>
    obtain ⟨k, hk, rfl, rfl, HX⟩ := hrel
    obtain ⟨ro, rc, hr⟩ := HX.out.slice
    rw [len_rowAt] at hr
    subst hr
    by_cases hend : k = la
    · subst hend
      have HM := Lib.hid (r1make_own _ _ wr HX.out.sl.raw (HSM.out _) (by rw [len_rowAt]; omega))
      rw [HROW.out] at HM
      have HF := Lib.hid HX.out.fol
      clear HX hk
      go_wp2_with ((go_at_call 36; (with_reducible refine HM.out.mono ?_)); rintro e w1 ⟨v1, rfl, hv1, k1⟩)
      go_ret2
      exact ⟨_, rfl, own_mono hv1 HF.out.size, Fol.trans HF.out k1⟩
    · have hlt : k < la := by omega
      have hxa := HXA.out k
      have hxb := HXB.out k
      have hca := HCA.out k
      have hK : k ≤ 1099511627776 := by omega
      have hc' : carryAt sSub tSub dm dn (k + 1) = tSub (lim dm k) (lim dn k) (carryAt sSub tSub dm dn k) := rfl
      have hr' : rowAt sSub tSub dm dn (k + 1) = rowAt sSub tSub dm dn k ++ [(4294967296 + lim dm k - lim dn k - carryAt sSub tSub dm dn k) % 4294967296] := rfl
      have hq : tSub (lim dm k) (lim dn k) (carryAt sSub tSub dm dn k) = 1 - (4294967296 + lim dm k - lim dn k - carryAt sSub tSub dm dn k) / 4294967296 := by
        unfold tSub
        split <;> omega
      rw [hq] at hc'
      have HC' := Lib.hid hc'
      have HR' := Lib.hid hr'
      have HF := Lib.hid HX.out.fol
      have HO := Lib.hid (HX.out.own.alloc)
      have hlr := Lib.hid (len_rowAt sSub tSub dm dn k)
      have LA := Lib.hid (HLa.out k wr HF.out)
      have LB := Lib.hid (HLb.out k wr HF.out)
      have hsz := HF.out.size
      clear hc' hr' hq HXA HXB HCA HLa HLb HROW HSM HCM hend
      generalize hl : rowAt sSub tSub dm dn k = row at *
      clear hl
      rw [hlr.out] at HO
      generalize lim dm k = x at *
      generalize lim dn k = y at *
      generalize carryAt sSub tSub dm dn k = c at *
      have C1 : Hid (k ≤ 1099511627776) := Lib.hid hK
      obtain ⟨d, hd⟩ : ∃ d, d = 4294967296 + x - y - c := ⟨_, rfl⟩
      have hdl : d ≤ 8589934591 := by omega
      have e1 : IntKind.u64.wrap (4294967296 + (x : Int)) = 4294967296 + (x : Int) := by rw [IntKind.wrap_u64]; omega
      have e2 : IntKind.u64.wrap (4294967296 + (x : Int) - y) = 4294967296 + (x : Int) - y := by rw [IntKind.wrap_u64]; omega
      have e3 : IntKind.u64.wrap (4294967296 + (x : Int) - y - c) = (d : Int) := by rw [IntKind.wrap_u64]; omega
      have e4 : (d : Int) % 4294967296 % 4294967296 = ((d % 4294967296 : Nat) : Int) := by omega
      have e5 : IntKind.u64.wrap (1 - (d : Int) / 4294967296) = ((1 - d / 4294967296 : Nat) : Int) := by rw [IntKind.wrap_u64]; omega
      rw [← hd] at HC' HR'
      have HD := Lib.hid hd
      clear hd
      go_wp2_with first
        | ((go_at_call 63; (with_reducible refine LA.out.mono ?_)); rintro e w' ⟨rfl, rfl⟩)
        | ((go_at_call 63; (with_reducible refine LB.out.mono ?_)); rintro e w' ⟨rfl, rfl⟩)
        | (at_builtin; refine wpList_app1 rfl _ _ rfl w.heap.size _ _ _ rfl (HO.out _) wr.heap.size 1 _ rfl (Boxed.new _ _ _) C1 (by rw [World.size_alloc]; omega) ?_; intro v' wz hown1 hgrow1)
      refine ⟨⟨k + 1, by omega, by go_num, by rw [HC'.out], Lib.hid ?_⟩, by simp [intOf]; omega⟩
      rw [HR'.out]
      refine OwnX.step (v := .slice ro k rc) (o := .cells #[.int .u32 ((d % 4294967296 : Nat) : Int)] 43) HX.out hgrow1 ?_
      rw [hlr.out]
      exact hown1

theorem r1sub_yes (v v' : Value) (m n : Nat) (w : World) (h : NatV w v m) (h' : NatV w v' n) (hm : Big m) (hn : Big n) (hle : n ≤ m) :
    Calls Tryz.prog 37 #[v, v'] w (RNatB w (m - n) true) :=
  (r1sub_own v v' m n w h h' hm hn hle).mono fun _ _ ⟨v, h1, h2, h3⟩ => ⟨v, h1, sl_of_owns h2, h3⟩

set_option maxHeartbeats 1000000 in
set_option maxRecDepth 100000 in
theorem same_any (v v' : Value) (m n : Nat) (w : World) (h : NatV w v m) (h' : NatV w v' n) (hm : Big m) (hn : Big n) :
    Calls Tryz.prog 18 #[v, v'] w fun e w' => e = .returned (.bool (decide (m = n))) ∧ Fol w w' := by
  unfold Big at hm hn
  by_cases hlen : (dig m).length = (dig n).length
  · rcases Sl.open h with ⟨o, cap, rfl, hl, hn0⟩ | ⟨b, off, cap, rfl, hne, hc, _, hx⟩
    · have h2 : dig n = [] := List.eq_nil_of_length_eq_zero (by rw [← hlen, hl]; rfl)
      have e1 : m = 0 := by have := val_dig m; rw [hl] at this; exact this.symm
      have e2 : n = 0 := by have := val_dig n; rw [h2] at this; exact this.symm
      subst e1; subst e2
      obtain ⟨o', cap', rfl, _, _⟩ := NatV.slice h'
      rw [dig_zero]
      clear h h' hlen hl h2 hm hn
      go_enter Tryz.func18, Tryz.ntmps18
      go_wp2
      refine wp_loop_rounds 1 ?_
      rw [rounds_succ]
      go_wp2
      go_ret
      exact ⟨rfl, Fol.refl _⟩
    · rcases Sl.open h' with ⟨o', cap', rfl, hl', hn0'⟩ | ⟨b', off', cap', rfl, hne', hc', _, hx'⟩
      · exact absurd (List.eq_nil_of_length_eq_zero (by rw [hlen, hl']; rfl)) hne
      · have HC := Lib.hid hx
        have HC' := Lib.hid hx'
        have HINJ : Hid (dig m = dig n → m = n) := Lib.hid dig_inj
        have HL := Lib.hid hlen
        rw [← hlen]
        rw [← hlen] at hc'
        have hbd := hm
        clear hx hx' h h' hm hn hlen
        generalize hN : (dig m).length = N at *
        have HN := Lib.hid hN
        clear hN
        have HNE : Hid (m = n → dig m = dig n) := Lib.hid (fun h => by rw [h])
        generalize dig m = l at *
        generalize dig n = l' at *
        go_enter Tryz.func18, Tryz.ntmps18
        go_wp2
        go_loopw [5] (fun t wr => ∃ k : Nat, k ≤ N ∧ t = .int .i64 k ∧ Hid (l.take k = l'.take k) ∧ Drawn w wr) (fun t _ => N - (intOf t).toNat)
        case atStart => exact ⟨0, by omega, rfl, Lib.hid rfl, Drawn.refl _⟩
        case round =>
          obtain ⟨k, hk, rfl, HE, hdr'⟩ := hrel
          have hdr := Lib.hid hdr'
          have hcw : ∀ a, wr.cell? a = w.cell? a := fun a => by obtain ⟨d, rfl⟩ := hdr'; rfl
          clear hdr'
          by_cases hlt : k < N
          · have hkl : k < l.length := by rw [HN.out]; exact hlt
            have hkm : k < l'.length := by rw [← HL.out]; exact hlt
            have c1 : wr.cell? ⟨b, off + k, none⟩ = some (.int .u32 (l[k] : Int)) := (hcw _).trans (HC.out k _ (by simp [hkl]))
            have c2 : wr.cell? ⟨b', off' + k, none⟩ = some (.int .u32 (l'[k] : Int)) := (hcw _).trans (HC'.out k _ (by simp [hkm]))
            clear hcw
            have H3 : Hid (l[k] = l'[k] → l.take (k + 1) = l'.take (k + 1)) := Lib.hid (fun he => by
              rw [List.take_succ_eq_append_getElem hkl, List.take_succ_eq_append_getElem hkm, HE.out, he])
            have H4 : Hid (l[k] ≠ l'[k] → decide (m = n) = false) := Lib.hid (fun hne => by
              rw [decide_eq_false_iff_not]
              intro hmn
              have := HNE.out hmn
              subst this
              exact hne rfl)
            generalize l[k] = x at *
            generalize l'[k] = y at *
            by_cases hxy : x = y
            · have HE2 := Lib.hid (H3.out hxy)
              clear H3 H4
              subst hxy
              go_wp2
              go_quiet (fail)
              go_wp2
              go_roundw
              case rel => exact ⟨k + 1, by omega, by go_num, HE2, hdr.out.more _⟩
              case measure => simp [intOf]; omega
            · have H4F := Lib.hid (H4.out hxy)
              have hb : ((x : Int) != y) = true := by rw [bne_iff_ne]; omega
              have hxn : ¬ x = y := hxy
              clear H3 H4
              go_wp2
              go_quiet (fail)
              go_wp2
              go_ret
              exact ⟨congrArg (fun b => Ending.returned (Value.bool b)) H4F.out.symm, Fol.drawn (hdr.out.more _)⟩
          · obtain rfl : k = N := by omega
            clear hcw hlt
            go_wp2
            go_ret
            have he : decide (m = n) = true := by
              rw [decide_eq_true_iff]
              apply HINJ.out
              have := HE.out
              rw [List.take_of_length_le (by rw [HN.out]; exact Nat.le_refl _), List.take_of_length_le (by rw [← HL.out]; exact Nat.le_refl _)] at this
              exact this
            exact ⟨congrArg (fun b => Ending.returned (Value.bool b)) he.symm, Fol.drawn hdr.out⟩
  · obtain ⟨o, cap, rfl, _, _⟩ := h.slice
    obtain ⟨o', cap', rfl, _, _⟩ := h'.slice
    have hd : decide (m = n) = false := by rw [decide_eq_false_iff_not]; intro h; subst h; exact hlen rfl
    rw [hd]
    have h1 : (((dig m).length : Int) != (dig n).length) = true := by simp; omega
    clear h h'
    generalize (dig m).length = la at *
    generalize (dig n).length = lb at *
    go_enter Tryz.func18, Tryz.ntmps18
    go_wp2
    go_ret
    exact ⟨rfl, Fol.refl _⟩
end Go.Proofs.YtckahcgolfnobaaGreatDoor
