/- What is proved: the law GcdInverse returns true for every two slices of limbs, and leaves them as they were; no condition beyond the tied card's own. -/
import Derived.Test.YtckahcgolfnobaaGreatDoorHead
import Derived.Test.YtckahcgolfnobaaGreatDoorCards
import Derived.Test.YtckahcgolfnobaaGreatDoorTie
import Derived.ProofKit
import Derived.OpenShut
import Derived.Deep.DeepHandedRow
import Derived.Lib.LaidTab

/- What all the laws share: their arguments as they come, brought to length. -/
namespace Go.Proofs.YtckahcgolfnobaaGreatDoor
open Go Go.RowKit

theorem Raw.fol {w w' : World} {v : Value} {l : List Nat} (h : Raw w v l) (k : Fol w w') : Raw w' v l := by
  obtain ⟨o, cap, hv, hc, hn, hx⟩ := h.form
  refine ⟨⟨o, cap, hv, hc, hn, fun a ha j u hu => ?_⟩⟩
  have h1 := hx a ha j u hu
  rw [k.cell (World.block_lt_of_cell? _ _ h1)]
  exact h1
theorem made_len (most : Nat) (v : Value) (l : List Nat) (w : World) (h : Raw w v l) (hs : Small l) (hm : most ≤ 1000000) :
    Calls Tryz.prog 12 #[v, .int .i64 most] w fun e w' => ∃ v' n, e = .returned v' ∧ NatV w' v' n ∧ (dig n).length ≤ most ∧ Fol w w' := by
  refine (made_any v l most w h hs hm).mono ?_
  rintro e w' ⟨v', rfl, hv, k⟩
  refine ⟨v', _, rfl, hv, ?_, k⟩
  have h1 := val_lt (l := l.take most) (fun x hx => hs x (List.mem_of_mem_take hx))
  exact Nat.le_trans (dig_length_le h1) (List.length_take_le _ _)
end Go.Proofs.YtckahcgolfnobaaGreatDoor

/- The law GcdInverse: what its code does. -/
namespace Go.Proofs.YtckahcgolfnobaaGreatDoor
open Go Go.RowKit

/-- The inverse of an inverse. -/
theorem inv_inv {a b x y : Nat} (hb : 1 < b) (h1 : a * x % b = 1 % b) (h2 : x * y % b = 1 % b) (hy : y < b) : y = a % b := by
  have e1 : a * x * y % b = y := by
    rw [Nat.mul_mod, h1, Nat.mod_eq_of_lt hb, Nat.one_mul, Nat.mod_mod, Nat.mod_eq_of_lt hy]
  have e2 : a * (x * y) % b = a % b := by
    rw [Nat.mul_mod, h2, Nat.mod_eq_of_lt hb, Nat.mul_one, Nat.mod_mod]
  rw [← Nat.mul_assoc] at e2
  omega
theorem gcd_inv {a b x : Nat} (hb : 1 < b) (h1 : a * x % b = 1 % b) : Nat.gcd x b = 1 := by
  have hd1 : Nat.gcd x b ∣ a * x % b := (Nat.dvd_mod_iff (Nat.gcd_dvd_right x b)).2 (Nat.dvd_trans (Nat.gcd_dvd_left x b) (Nat.dvd_mul_left x a))
  rw [h1, Nat.mod_eq_of_lt hb] at hd1
  exact Nat.dvd_one.1 hd1

set_option maxHeartbeats 4000000 in
set_option maxRecDepth 100000 in
theorem gcdInverse_walk (va vb : Value) (la lb : List Nat) (w : World) (ha : Raw w va la) (hb : Raw w vb lb) (hsa : Small la) (hsb : Small lb) :
    Calls Tryz.prog 7 #[va, vb] w fun e w' => e = .returned (.bool true) ∧ Fol w w' := by
  have HH := Lib.hid (head_any w)
  have HA := Lib.hid (fun w' (k : Fol w w') => made_len 20 va la w' (ha.fol k) hsa (by omega))
  have HB := Lib.hid (fun w' (k : Fol w w') => made_len 20 vb lb w' (hb.fol k) hsb (by omega))
  clear ha hb hsa hsb
  go_enter Tryz.func7, Tryz.ntmps7
  go_wp2_with fail
  refine HH.out.mono ?_
  rintro e u1 ⟨rfl, hF⟩
  clear HH
  go_wp2_with fail
  refine (HA.out _ hF).mono ?_
  rintro e u2 ⟨ra, a, rfl, na, hla, hk⟩
  replace hF := Fol.trans hF hk
  clear hk HA
  go_wp2_with fail
  refine (HB.out _ hF).mono ?_
  rintro e u3 ⟨rb, b, rfl, nb, hlb, hk⟩
  replace hF := Fol.trans hF hk
  replace na := na.fol hk
  clear hk HB
  obtain ⟨ob, cb, rfl, _, _⟩ := nb.slice
  have HLA := Lib.hid hla
  have HLB := Lib.hid hlb
  have HSB : Hid (∀ v v' m n w', NatV w' v m → NatV w' v' n → (dig m).length ≤ 40 → (dig n).length ≤ 40 → Calls Tryz.prog 18 #[v, v'] w' fun e w'' => e = .returned (.bool (decide (m = n))) ∧ Fol w' w'') :=
    Lib.hid fun v v' m n w' h h' hm hn => same_any v v' m n w' h h' (big_of hm (by omega)) (big_of hn (by omega))
  by_cases hb0 : b = 0
  · subst hb0
    have HI := Lib.hid (inv_no 20 _ _ a 0 u3 na nb HLA.out HLB.out (by omega) (.inl rfl))
    rw [dig_zero]
    rw [dig_zero] at HI
    simp only [List.length_nil] at HI ⊢
    clear nb hla hlb HLA HLB
    go_wp2_with fail
    refine HI.out.mono ?_
    rintro e u4 ⟨rfl, hk⟩
    replace hF := Lib.hid (Fol.trans hF hk)
    clear hk na
    go_wp2
    go_ret
    exact ⟨rfl, hF.out⟩
  · have hbp : 0 < b := by omega
    have hblen := dig_pos' hbp
    have HG : Hid (∀ v v' w', NatV w' v a → NatV w' v' b → Calls Tryz.prog 19 #[v, v'] w' (RNat w' (Nat.gcd a b))) := Lib.hid fun v v' w' h h' => gcd_any v v' a b w' h h' (by have := HLA.out; omega) (by have := HLB.out; omega)
    by_cases hg : Nat.gcd a b = 1
    · have HI := Lib.hid (inv_yes 20 _ _ a b u3 na nb HLA.out HLB.out (by omega) hbp hg)
      have HBN := Lib.hid nb
      have HAN := Lib.hid na
      obtain ⟨lb', hlb'⟩ : ∃ l, (dig b).length = l := ⟨_, rfl⟩
      rw [hlb'] at HI HBN hblen ⊢
      clear hlb' na nb hla hlb
      have hlz : ((lb' : Int) == 0) = false := by rw [beq_eq_false_iff_ne]; omega
      go_wp2_with fail
      refine HI.out.mono ?_
      rintro e u4 ⟨vx, s, rfl, hi, hy, nx, hk⟩
      obtain ⟨hx1, hx2⟩ := inv_value hi hy hbp hg
      generalize (s.m.a % (b : Int)).natAbs = x at *
      clear hi hy
      replace hF := Lib.hid (Fol.trans hF hk)
      have HBN4 := Lib.hid (HBN.out.fol hk)
      have HAN4 := Lib.hid (HAN.out.fol hk)
      have HX := Lib.hid nx
      clear hk HI HBN HAN nx
      rw [hg] at HG
      have HLX : Hid ((dig x).length ≤ 20) := Lib.hid (len_le (Nat.le_of_lt hx2) HLB.out)
      have HX1 := Lib.hid hx1
      have HX2 := Lib.hid hx2
      clear hx1 hx2 hb0 hg
      go_wp2_with fail
      refine (HG.out _ _ _ HAN4.out HBN4.out).mono ?_
      rintro e u5 ⟨vg, rfl, hg5, hk5⟩
      have n1 := lit_new 1 u5 (by decide) (by decide)
      have hk6 := Fol.new u5 (.cells #[.int .u32 1] 43)
      go_wp2_with fail
      refine (HSB.out _ _ 1 1 _ (hg5.fol hk6) n1 (by have := @len_one 1 (by decide); omega) (by have := @len_one 1 (by decide); omega)).mono ?_
      rintro e u7 ⟨rfl, hk7⟩
      have hd1 : decide ((1:Nat) = 1) = true := rfl
      rw [hd1]
      have hk8 := Fol.trans hk5 (Fol.trans hk6 hk7)
      have HB5 := Lib.hid (HBN4.out.fol hk8)
      have HA5 := Lib.hid (HAN4.out.fol hk8)
      have HX5 := Lib.hid (HX.out.fol hk8)
      have HF5 := Lib.hid (Fol.trans hF.out hk8)
      clear hk5 hk6 hk7 hk8 HBN4 HAN4 HX hF hg5 n1 hd1
      go_wp2_with fail
      have n1 := lit_new 1 u7 (by decide) (by decide)
      have hk6 := Fol.new u7 (.cells #[.int .u32 1] 43)
      refine (HSB.out _ _ b 1 _ (HB5.out.fol hk6) n1 (by have := HLB.out; omega) (by have := @len_one 1 (by decide); omega)).mono ?_
      rintro e u8 ⟨rfl, hk7⟩
      have hk8 := Fol.trans hk6 hk7
      have HB6 := Lib.hid (HB5.out.fol hk8)
      have HA6 := Lib.hid (HA5.out.fol hk8)
      have HX6 := Lib.hid (HX5.out.fol hk8)
      have HF6 := Lib.hid (Fol.trans HF5.out hk8)
      clear hk6 hk7 hk8 HB5 HA5 HX5 HF5 n1
      by_cases hb1 : b = 1
      · have hx0 : x = 0 := by have := HX2.out; omega
        subst hx0
        obtain ⟨ox, cx, rfl⟩ := HX6.out.zero
        rw [decide_eq_true hb1]
        clear hb1 hbp
        go_wp2
        go_ret
        exact ⟨rfl, HF6.out⟩
      · have hb2 : 1 < b := by omega
        rw [decide_eq_false hb1]
        have HM := Lib.hid (r3mul_any _ _ a x u8 HA6.out HX6.out (by have := HLA.out; have := HLX.out; omega))
        have HLM : Hid ((dig (a * x)).length ≤ 60) := Lib.hid (by
          refine dig_length_le ?_
          have h1 := lt_pow_len HLA.out
          have h2 := lt_pow_len HLX.out
          calc a * x < 4294967296 ^ 20 * 4294967296 ^ 20 := Nat.mul_lt_mul'' h1 h2
            _ ≤ 4294967296 ^ 60 := by rw [← Nat.pow_add]; exact Nat.pow_le_pow_right (by omega) (by omega))
        have HB2 := Lib.hid hb2
        clear hb1 hbp hb2
        go_wp2_with fail
        refine HM.out.mono ?_
        rintro e u9 ⟨vm, rfl, nm, hk⟩
        have HD := Lib.hid (r4div_any _ _ (a * x) b u9 nm (HB6.out.fol hk) (by have := HLM.out; omega) (by have := HLB.out; omega) (by have := HB2.out; omega))
        clear nm HM
        go_wp2_with fail
        refine HD.out.mono ?_
        rintro e u10 ⟨vq, vr, rfl, _, nr, hk'⟩
        rw [HX1.out, Nat.mod_eq_of_lt HB2.out] at nr
        have hk8 := Fol.trans hk hk'
        have HB7 := Lib.hid (HB6.out.fol hk8)
        have HA7 := Lib.hid (HA6.out.fol hk8)
        have HX7 := Lib.hid (HX6.out.fol hk8)
        have HF7 := Lib.hid (Fol.trans HF6.out hk8)
        have HR7 := Lib.hid nr
        clear hk hk' hk8 nr HB6 HA6 HX6 HF6 HD
        have HD := Lib.hid (r4div_any _ _ a b u10 HA7.out HB7.out (by have := HLA.out; omega) (by have := HLB.out; omega) (by have := HB2.out; omega))
        go_wp2_with fail
        refine HD.out.mono ?_
        rintro e u11 ⟨vq2, vr2, rfl, _, nr2, hk⟩
        have HI := Lib.hid (inv_yes 20 _ _ x b u11 (HX7.out.fol hk) (HB7.out.fol hk) HLX.out HLB.out (by omega) (by have := HB2.out; omega) (gcd_inv HB2.out HX1.out))
        go_wp2_with fail
        refine HI.out.mono ?_
        rintro e u12 ⟨vy, s, rfl, hi, hy, ny, hk'⟩
        obtain ⟨hy1, hy2⟩ := inv_value hi hy (by have := HB2.out; omega) (gcd_inv HB2.out HX1.out)
        generalize (s.m.a % (b : Int)).natAbs = y at *
        have hya := inv_inv HB2.out HX1.out hy1 hy2
        subst hya
        have hk8 := Fol.trans hk hk'
        have HB8 := Lib.hid (HB7.out.fol hk8)
        have HX8 := Lib.hid (HX7.out.fol hk8)
        have HF8 := Lib.hid (Fol.trans HF7.out hk8)
        have HR8 := Lib.hid (HR7.out.fol hk8)
        have HQ8 := Lib.hid (nr2.fol hk')
        have HY8 := Lib.hid ny
        have HLY : Hid ((dig (a % b)).length ≤ 20) := Lib.hid (len_le (Nat.le_of_lt hy2) HLB.out)
        clear hk hk' hk8 nr2 ny hi hy hy1 hy2 HB7 HX7 HF7 HR7 HI HD HA7
        have HC := Lib.hid (r1cmp_any _ _ x b u12 HX8.out HB8.out (big_of HLX.out (by omega)) (big_of HLB.out (by omega)))
        have hn : decide (ncmp x b < 0) = true := by unfold ncmp; rw [if_pos HX2.out]; rfl
        go_wp2_with fail
        refine HC.out.mono ?_
        rintro e u13 ⟨rfl, rfl⟩
        generalize ncmp x b = nc at *
        go_wp2_with fail
        have n1 := lit_new 1 u12 (by decide) (by decide)
        have hk6 := Fol.new u12 (.cells #[.int .u32 1] 43)
        refine (HSB.out _ _ 1 1 _ (HR8.out.fol hk6) n1 (by have := @len_one 1 (by decide); omega) (by have := @len_one 1 (by decide); omega)).mono ?_
        rintro e u14 ⟨rfl, hk7⟩
        have hd1 : decide ((1:Nat) = 1) = true := rfl
        rw [hd1]
        have hk8 := Fol.trans hk6 hk7
        have HQ9 := Lib.hid (HQ8.out.fol hk8)
        have HY9 := Lib.hid (HY8.out.fol hk8)
        have HF9 := Lib.hid (Fol.trans HF8.out hk8)
        clear hk6 hk7 hk8 n1 hd1
        go_wp2_with fail
        refine (HSB.out _ _ (a % b) (a % b) _ HY9.out HQ9.out (by have := HLY.out; omega) (by have := HLY.out; omega)).mono ?_
        rintro e u15 ⟨rfl, hk7⟩
        rw [decide_eq_true rfl]
        have HF10 := Lib.hid (Fol.trans HF9.out hk7)
        clear hk7
        go_wp2
        go_ret
        exact ⟨rfl, HF10.out⟩
    · have HI := Lib.hid (inv_no 20 _ _ a b u3 na nb HLA.out HLB.out (by omega) (.inr hg))
      have HBN := Lib.hid nb
      have HAN := Lib.hid na
      have HLG : Hid ((dig (Nat.gcd a b)).length ≤ 20) := Lib.hid (len_le (Nat.gcd_le_right a hbp) HLB.out)
      obtain ⟨lb', hlb'⟩ : ∃ l, (dig b).length = l := ⟨_, rfl⟩
      rw [hlb'] at HI HBN hblen ⊢
      clear hlb' na nb hla hlb
      have hlz : ((lb' : Int) == 0) = false := by rw [beq_eq_false_iff_ne]; omega
      go_wp2_with fail
      refine HI.out.mono ?_
      rintro e u4 ⟨rfl, hk⟩
      replace hF := Lib.hid (Fol.trans hF hk)
      have HBN4 := Lib.hid (HBN.out.fol hk)
      have HAN4 := Lib.hid (HAN.out.fol hk)
      clear hk HI HBN HAN
      go_wp2_with fail
      refine (HG.out _ _ _ HAN4.out HBN4.out).mono ?_
      rintro e u5 ⟨vg, rfl, hg5, hk5⟩
      have n1 := lit_new 1 u5 (by decide) (by decide)
      have hk6 := Fol.new u5 (.cells #[.int .u32 1] 43)
      go_wp2_with fail
      refine (HSB.out _ _ (Nat.gcd a b) 1 _ (hg5.fol hk6) n1 (by have := HLG.out; omega) (by have := @len_one 1 (by decide); omega)).mono ?_
      rintro e u7 ⟨rfl, hk7⟩
      rw [decide_eq_false hg]
      have hk8 := Fol.trans hk5 (Fol.trans hk6 hk7)
      have HF5 := Lib.hid (Fol.trans hF.out hk8)
      clear hk5 hk6 hk7 hk8 HBN4 HAN4 hF hg5 n1 hg
      go_wp2
      go_ret
      exact ⟨rfl, HF5.out⟩
end Go.Proofs.YtckahcgolfnobaaGreatDoor

/- The laws' arguments as a caller's world holds them. -/
namespace Go.Proofs.YtckahcgolfnobaaGreatDoor
open Go Go.RowKit Go.ChangeShapes Go.WideShapes Go.ChangeAt

theorem law_own : ownKnob Tryz.prog.godebug = none := by kernel_rfl
theorem law_laidOut : laidOutB Tryz.prog = true := by kernel_rfl
theorem law_cells : Tryz.prog.cellsOf 43 = 1 := by kernel_rfl
theorem law_und : Tryz.prog.underlying 22 = some (.slice 43) := by kernel_rfl
theorem law_und32 : Tryz.prog.underlying 43 = some (.int .u32) := by kernel_rfl
theorem law_bool : Tryz.prog.underlying 4 = some .bool := by kernel_rfl

/-- A slice of limbs, as the caller holds it: its numbers, and that it reads so behind whatever leaves the old blocks alone. -/
theorem open_limbs {H : Type} {enc : TypeId × Value → H} {W : World} {v : Value} {d : DataW H} {ps : List MemPlace} {a0 : Option Addr} {len cap : Nat} (hv : v = .slice a0 len cap)
    (h : DataW.Trod enc Tryz.prog W 0 (fun _ => true) true 22 v d ps) : ∃ l, Raw W v l ∧ Small l := by
  subst hv
  obtain ⟨fuel, hf⟩ := h
  rcases open_ints law_und law_und32 law_cells hf with ⟨hcs, hx⟩ | ⟨a, len', cap', zs, hcs, _, hl, hm, hz, hx, hcell, hwz⟩
  · simp [Value.cells] at hcs
    obtain ⟨rfl, rfl, rfl⟩ := hcs
    exact ⟨[], ⟨none, 0, rfl, Nat.le_refl _, fun _ => rfl, fun a ha => by cases ha⟩, small_nil⟩
  · simp [Value.cells] at hcs
    obtain ⟨rfl, rfl, rfl⟩ := hcs
    simp only [if_true] at hz
    have hw : ∀ n ∈ zs, 0 ≤ n ∧ n < 4294967296 := fun n hn => by
      have := hwz n hn
      simp only [Lit.wf, Bool.and_eq_true, decide_eq_true_eq, show IntKind.u32.min = 0 from rfl, show IntKind.u32.max = 4294967295 from rfl] at this
      omega
    refine ⟨(zs.take len).map Int.toNat, ⟨some a, cap, by rw [List.length_map, List.length_take, Nat.min_eq_left (by omega)], by rw [List.length_map, List.length_take]; omega, (fun h => by cases h), fun a' ha => ?_⟩, ?_⟩
    · cases ha
      intro j u hu
      simp only [lv, List.map_map, List.getElem?_map, Option.map_eq_some_iff] at hu
      obtain ⟨z, hz1, hz2⟩ := hu
      rw [List.getElem?_take] at hz1
      split at hz1
      · next hj =>
        have hc := hcell j (by omega)
        have hg : zs.getD j 0 = z := by simp [List.getD, hz1]
        rw [hg] at hc
        have hz3 := hw z (List.mem_of_getElem? hz1)
        rw [hc, ← hz2]
        simp only [Function.comp]
        congr 2
        omega
      · cases hz1
    · intro x hx
      obtain ⟨z, hz1, rfl⟩ := List.mem_map.1 hx
      have := hw z (List.mem_of_mem_take hz1)
      omega
end Go.Proofs.YtckahcgolfnobaaGreatDoor

/- The law GcdInverse: its card. -/
namespace Go.Proofs.YtckahcgolfnobaaGreatDoor.gcdInverse
open Go.ChangeShapes Go.WideShapes Go.ChangeAt Go.RowKit

set_option maxRecDepth 100000 in
/-- For every argument and every world that holds them. -/
theorem contract (H : Type) (enc : TypeId × Value → H) (W : World) (base : Nat) (args : Array Value) (ds gs : List (DataW H)) (before : List MemPlace)
    (hval : ∀ (j : Nat) t v, Tryz.f7.params[j]? = some t → args[j]? = some v → Value.okWide Tryz.prog W .any base t v)
    (hW : DataW.Whole enc Tryz.prog Tryz.f7.params.toList Rows.gcdInverseSpec.vars false W args.toList ds gs before) :
    Calls Tryz.prog 7 args W fun e W' => ∃ v, e = .returned v ∧ Rows.gcdInverseSpec.post enc Tryz.prog Tryz.f7 false true false false W args v W' := by
  have hW' := hW
  obtain ⟨p, q, hA0, hV, rfl, hfz, hnd⟩ := hW
  have hA : DataW.TrodAll enc Tryz.prog W 0 (fun _ => true) true Tryz.f7.params.toList args.toList ds p := hA0
  rw [Tryz.params7] at hA hval
  obtain ⟨v0, v1, d0, d1, p0, p1, rfl, rfl, rfl, h0, h1⟩ := trodAll_two hA
  obtain ⟨rfl, rfl⟩ := trodVars_none hV
  obtain ⟨a0, len0, cap0, e0⟩ := okWide_slice law_und (hval 0 22 v0 rfl rfl)
  obtain ⟨a1, len1, cap1, e1⟩ := okWide_slice law_und (hval 1 22 v1 rfl rfl)
  clear hA0
  simp only [List.append_nil] at hW'
  have hlt : ∀ x ∈ p0 ++ p1, x.block < W.heap.size := fun x hx => by simpa using hW'.lt x hx
  have k0 : ∀ (W' : World), Below W.heap.size W W' → DataW.Trod enc Tryz.prog W' 0 (fun b => decide (b < W.heap.size)) true 22 v0 d0 p0 :=
    fun W' hn => Below.trod law_laidOut (by kernel_rfl) (of_decide_eq_true (by kernel_rfl)) h0 hn (fun x hx => hlt x (List.mem_append_left _ hx))
  have k1 : ∀ (W' : World), Below W.heap.size W W' → DataW.Trod enc Tryz.prog W' 0 (fun b => decide (b < W.heap.size)) true 22 v1 d1 p1 :=
    fun W' hn => Below.trod law_laidOut (by kernel_rfl) (of_decide_eq_true (by kernel_rfl)) h1 hn (fun x hx => hlt x (List.mem_append_right _ hx))
  obtain ⟨l0, r0, s0⟩ := open_limbs e0 h0
  obtain ⟨l1, r1, s1⟩ := open_limbs e1 h1
  refine (gcdInverse_walk v0 v1 l0 l1 W r0 r1 s0 s1).mono fun e W' ⟨he, hg⟩ => ?_
  subst he
  exact ⟨_, rfl, _, _, _, [], p0 ++ p1, [], hW', trodAll_mk1 (shut_bool law_bool _), trodAll_mk2 (k0 W' hg) (k1 W' hg), rfl, hg.frame _, fun h => by cases h⟩

/-- A world for the witness: the settled one, the laid variable holding what the program's text lays. -/
noncomputable def laidWorld (os : Os) : World :=
  { World.holding Tryz.prog os ⟨#[], #[], []⟩ with heap := (World.holding Tryz.prog os ⟨#[], #[], []⟩).heap.modify 1 fun
      | .cells _ t frozen => .cells #[.int .u64 998244353, .int .u64 469762049, .int .u64 167772161] t frozen
      | o => o }
theorem laid_met (os : Os) : laidMet Tryz.prog Rows.gcdInverseRow.laid ((laidWorld os).forCall (fun _ _ => 0) ⟨#[], #[.slice none 0 0, .slice none 0 0], []⟩).memory :=
  laidMet_of_run' 8 (by kernel_rfl) (by kernel_rfl)
theorem reads (os : Os) {H : Type} (enc : TypeId × Value → H) : ∃ places, DataW.whole enc Tryz.prog ((laidWorld os).forCall (fun _ _ => 0) ⟨#[], #[.slice none 0 0, .slice none 0 0], []⟩).memory Tryz.f7.params.toList Rows.gcdInverseSpec.vars false #[Value.slice none 0 0, Value.slice none 0 0].toList 8 = some ([.nil, .nil], [], places) :=
  ⟨[], by kernel_rfl⟩

set_option maxRecDepth 100000 in
theorem lifted (os : Os) (started : os.Started) (H : Type) (enc : TypeId × Value → H) (F : Stop.Interp) :
    ReturnsInHanded {} Tryz.checked os 7 .any ((OpenSpec.ofChange Rows.gcdInverseSpec).preRow enc Tryz.prog Tryz.f7 Rows.gcdInverseRow.domain false Rows.gcdInverseRow.laid) (((OpenSpec.ofChange Rows.gcdInverseSpec).at F).post enc Tryz.prog Tryz.f7 false true false false) := by
  obtain ⟨places, hx⟩ := reads os enc
  refine returnsInHanded_of_row (C := Tryz.checked) (s := OpenSpec.ofChange Rows.gcdInverseSpec) law_own started (by kernel_rfl) Tryz.func7
    (witness_row_at (enc := enc) (C := Tryz.checked) false (laidWorld os) #[.slice none 0 0, .slice none 0 0] rfl (by kernel_rfl) (by kernel_rfl) (by kernel_rfl)
      (OpenSpec.preRow_of_cond 8 hx (by kernel_rfl) (fun k hk => by cases hk) (by kernel_rfl) (laid_met os))) ?_
  intro W base args ds gs before hval hW _ _ _ _ _ _
  exact contract H enc W base args ds gs before hval hW

theorem said : Rows.GcdInverseSaid :=
  OpenClaim.holds_of_cond 7 Tryz.f7 rfl rfl rfl rfl rfl rfl rfl ⟨rfl, rfl, rfl, rfl, rfl⟩ rfl rfl rfl rfl rfl (by kernel_rfl) Tryz.func7 (by kernel_rfl)
    (of_decide_eq_true (by kernel_rfl)) (by unfold Func.isWrapper; first | (rw [if_pos (by decide +kernel)]; kernel_rfl) | (rw [if_neg (by decide +kernel)]; exact ⟨rfl, rfl⟩))
    (fun os started H enc _ F => by rw [OpenClaim.pre_eq_preRow]; exact lifted os started H enc F)

theorem plain (f : FuncId) (fn : Func) (hf : Tryz.pinned.checked.prog.funcNamed "ziggurat/zigguratlaw07.GcdInverse" = some f) (hfn : Tryz.pinned.checked.prog.funcs[f]? = some fn) :
    false = Tryz.pinned.checked.prog.looks [] ∧ ∀ (j : Nat) t, fn.params[j]? = some t → Tryz.pinned.checked.prog.wantsStandIn t = false := by
  obtain rfl : f = 7 := Option.some.inj ((show Tryz.prog.funcNamed "ziggurat/zigguratlaw07.GcdInverse" = some 7 by kernel_rfl).symm.trans hf) |>.symm
  obtain rfl : fn = Tryz.f7 := (Option.some.inj (Tryz.func7.symm.trans hfn)).symm
  refine ⟨by kernel_rfl, fun j t ht => ?_⟩
  rw [Tryz.params7] at ht
  obtain rfl : t = 22 := by simpa using Array.mem_of_getElem? ht
  exact (show Tryz.prog.wantsStandIn 22 = false by kernel_rfl)

/-- THE CARD. -/
theorem card : Rows.GcdInverseCardSaid :=
  Claim7.holds_tied_plain_at .later [] _ _ _ _ said (fun _ h => by cases h) (by kernel_rfl) (fun _ h => by cases h) gcdInverse_row_tie rfl ⟨rfl, rfl⟩ (by kernel_rfl) rfl plain (by kernel_rfl)
#print axioms card
end Go.Proofs.YtckahcgolfnobaaGreatDoor.gcdInverse
