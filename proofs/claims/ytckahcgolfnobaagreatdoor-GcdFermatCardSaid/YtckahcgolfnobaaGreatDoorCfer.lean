/- What is proved: the law GcdFermat returns true for every slice of limbs and every small number, and leaves them as they were; no condition beyond the tied card's own. -/
import Derived.Test.YtckahcgolfnobaaGreatDoorHead
import Derived.Test.YtckahcgolfnobaaGreatDoorCards
import Derived.Test.YtckahcgolfnobaaGreatDoorTie
import Derived.ProofKit
import Derived.OpenShut
import Derived.Deep.DeepHandedRow
import Derived.Lib.LaidTab
import Derived.KernelRfl

/- What all the laws share: their arguments as they come, brought to length. -/
namespace Go.Proofs.YtckahcgolfnobaaGreatDoor
open Go Go.RowKit

theorem Raw.fol {w w' : World} {v : Value} {l : List Nat} (h : Raw w v l) (k : Fol w w') : Raw w' v l := by
  obtain ⟨o, cap, hv, hc, hn, hx⟩ := h.form
  refine ⟨⟨o, cap, hv, hc, hn, fun a ha j u hu => ?_⟩⟩
  have h1 := hx a ha j u hu
  rw [k.cell (World.block_lt_of_cell? _ _ h1)]
  exact h1
theorem made_len (most : Nat) (v : Value) (l : List Nat) (w : World) (h : Raw w v l) (hs : Small l) (hm : most ≤ 1000000) :
    Calls Tryz.prog 12 #[v, .int .i64 most] w fun e w' => ∃ v' n, e = .returned v' ∧ NatV w' v' n ∧ (dig n).length ≤ most ∧ Fol w w' := by
  refine (made_any v l most w h hs hm).mono ?_
  rintro e w' ⟨v', rfl, hv, k⟩
  refine ⟨v', _, rfl, hv, ?_, k⟩
  have h1 := val_lt (l := l.take most) (fun x hx => hs x (List.mem_of_mem_take hx))
  exact Nat.le_trans (dig_length_le h1) (List.length_take_le _ _)
end Go.Proofs.YtckahcgolfnobaaGreatDoor

/- The law GcdInverse: what its code does. -/
namespace Go.Proofs.YtckahcgolfnobaaGreatDoor
open Go Go.RowKit

/-- The inverse of an inverse. -/
theorem inv_inv {a b x y : Nat} (hb : 1 < b) (h1 : a * x % b = 1 % b) (h2 : x * y % b = 1 % b) (hy : y < b) : y = a % b := by
  have e1 : a * x * y % b = y := by
    rw [Nat.mul_mod, h1, Nat.mod_eq_of_lt hb, Nat.one_mul, Nat.mod_mod, Nat.mod_eq_of_lt hy]
  have e2 : a * (x * y) % b = a % b := by
    rw [Nat.mul_mod, h2, Nat.mod_eq_of_lt hb, Nat.mul_one, Nat.mod_mod]
  rw [← Nat.mul_assoc] at e2
  omega
theorem gcd_inv {a b x : Nat} (hb : 1 < b) (h1 : a * x % b = 1 % b) : Nat.gcd x b = 1 := by
  have hd1 : Nat.gcd x b ∣ a * x % b := (Nat.dvd_mod_iff (Nat.gcd_dvd_right x b)).2 (Nat.dvd_trans (Nat.gcd_dvd_left x b) (Nat.dvd_mul_left x a))
  rw [h1, Nat.mod_eq_of_lt hb] at hd1
  exact Nat.dvd_one.1 hd1

set_option maxHeartbeats 4000000 in
set_option maxRecDepth 100000 in
theorem gcdInverse_walk (va vb : Value) (la lb : List Nat) (w : World) (ha : Raw w va la) (hb : Raw w vb lb) (hsa : Small la) (hsb : Small lb) :
    Calls Tryz.prog 7 #[va, vb] w fun e w' => e = .returned (.bool true) ∧ Fol w w' := by
  have HH := Lib.hid (head_any w)
  have HA := Lib.hid (fun w' (k : Fol w w') => made_len 20 va la w' (ha.fol k) hsa (by omega))
  have HB := Lib.hid (fun w' (k : Fol w w') => made_len 20 vb lb w' (hb.fol k) hsb (by omega))
  clear ha hb hsa hsb
  go_enter Tryz.func7, Tryz.ntmps7
  go_wp2_with fail
  refine HH.out.mono ?_
  rintro e u1 ⟨rfl, hF⟩
  clear HH
  go_wp2_with fail
  refine (HA.out _ hF).mono ?_
  rintro e u2 ⟨ra, a, rfl, na, hla, hk⟩
  replace hF := Fol.trans hF hk
  clear hk HA
  go_wp2_with fail
  refine (HB.out _ hF).mono ?_
  rintro e u3 ⟨rb, b, rfl, nb, hlb, hk⟩
  replace hF := Fol.trans hF hk
  replace na := na.fol hk
  clear hk HB
  obtain ⟨ob, cb, rfl, _, _⟩ := nb.slice
  have HLA := Lib.hid hla
  have HLB := Lib.hid hlb
  have HSB : Hid (∀ v v' m n w', NatV w' v m → NatV w' v' n → (dig m).length ≤ 40 → (dig n).length ≤ 40 → Calls Tryz.prog 18 #[v, v'] w' fun e w'' => e = .returned (.bool (decide (m = n))) ∧ Fol w' w'') :=
    Lib.hid fun v v' m n w' h h' hm hn => same_any v v' m n w' h h' (big_of hm (by omega)) (big_of hn (by omega))
  by_cases hb0 : b = 0
  · subst hb0
    have HI := Lib.hid (inv_no 20 _ _ a 0 u3 na nb HLA.out HLB.out (by omega) (.inl rfl))
    rw [dig_zero]
    rw [dig_zero] at HI
    simp only [List.length_nil] at HI ⊢
    clear nb hla hlb HLA HLB
    go_wp2_with fail
    refine HI.out.mono ?_
    rintro e u4 ⟨rfl, hk⟩
    replace hF := Lib.hid (Fol.trans hF hk)
    clear hk na
    go_wp2
    go_ret
    exact ⟨rfl, hF.out⟩
  · have hbp : 0 < b := by omega
    have hblen := dig_pos' hbp
    have HG : Hid (∀ v v' w', NatV w' v a → NatV w' v' b → Calls Tryz.prog 19 #[v, v'] w' (RNat w' (Nat.gcd a b))) := Lib.hid fun v v' w' h h' => gcd_any v v' a b w' h h' (by have := HLA.out; omega) (by have := HLB.out; omega)
    by_cases hg : Nat.gcd a b = 1
    · have HI := Lib.hid (inv_yes 20 _ _ a b u3 na nb HLA.out HLB.out (by omega) hbp hg)
      have HBN := Lib.hid nb
      have HAN := Lib.hid na
      obtain ⟨lb', hlb'⟩ : ∃ l, (dig b).length = l := ⟨_, rfl⟩
      rw [hlb'] at HI HBN hblen ⊢
      clear hlb' na nb hla hlb
      have hlz : ((lb' : Int) == 0) = false := by rw [beq_eq_false_iff_ne]; omega
      go_wp2_with fail
      refine HI.out.mono ?_
      rintro e u4 ⟨vx, s, rfl, hi, hy, nx, hk⟩
      obtain ⟨hx1, hx2⟩ := inv_value hi hy hbp hg
      generalize (s.m.a % (b : Int)).natAbs = x at *
      clear hi hy
      replace hF := Lib.hid (Fol.trans hF hk)
      have HBN4 := Lib.hid (HBN.out.fol hk)
      have HAN4 := Lib.hid (HAN.out.fol hk)
      have HX := Lib.hid nx
      clear hk HI HBN HAN nx
      rw [hg] at HG
      have HLX : Hid ((dig x).length ≤ 20) := Lib.hid (len_le (Nat.le_of_lt hx2) HLB.out)
      have HX1 := Lib.hid hx1
      have HX2 := Lib.hid hx2
      clear hx1 hx2 hb0 hg
      go_wp2_with fail
      refine (HG.out _ _ _ HAN4.out HBN4.out).mono ?_
      rintro e u5 ⟨vg, rfl, hg5, hk5⟩
      have n1 := lit_new 1 u5 (by decide) (by decide)
      have hk6 := Fol.new u5 (.cells #[.int .u32 1] 43)
      go_wp2_with fail
      refine (HSB.out _ _ 1 1 _ (hg5.fol hk6) n1 (by have := @len_one 1 (by decide); omega) (by have := @len_one 1 (by decide); omega)).mono ?_
      rintro e u7 ⟨rfl, hk7⟩
      have hd1 : decide ((1:Nat) = 1) = true := rfl
      rw [hd1]
      have hk8 := Fol.trans hk5 (Fol.trans hk6 hk7)
      have HB5 := Lib.hid (HBN4.out.fol hk8)
      have HA5 := Lib.hid (HAN4.out.fol hk8)
      have HX5 := Lib.hid (HX.out.fol hk8)
      have HF5 := Lib.hid (Fol.trans hF.out hk8)
      clear hk5 hk6 hk7 hk8 HBN4 HAN4 HX hF hg5 n1 hd1
      go_wp2_with fail
      have n1 := lit_new 1 u7 (by decide) (by decide)
      have hk6 := Fol.new u7 (.cells #[.int .u32 1] 43)
      refine (HSB.out _ _ b 1 _ (HB5.out.fol hk6) n1 (by have := HLB.out; omega) (by have := @len_one 1 (by decide); omega)).mono ?_
      rintro e u8 ⟨rfl, hk7⟩
      have hk8 := Fol.trans hk6 hk7
      have HB6 := Lib.hid (HB5.out.fol hk8)
      have HA6 := Lib.hid (HA5.out.fol hk8)
      have HX6 := Lib.hid (HX5.out.fol hk8)
      have HF6 := Lib.hid (Fol.trans HF5.out hk8)
      clear hk6 hk7 hk8 HB5 HA5 HX5 HF5 n1
      by_cases hb1 : b = 1
      · have hx0 : x = 0 := by have := HX2.out; omega
        subst hx0
        obtain ⟨ox, cx, rfl⟩ := HX6.out.zero
        rw [decide_eq_true hb1]
        clear hb1 hbp
        go_wp2
        go_ret
        exact ⟨rfl, HF6.out⟩
      · have hb2 : 1 < b := by omega
        rw [decide_eq_false hb1]
        have HM := Lib.hid (r3mul_any _ _ a x u8 HA6.out HX6.out (by have := HLA.out; have := HLX.out; omega))
        have HLM : Hid ((dig (a * x)).length ≤ 60) := Lib.hid (by
          refine dig_length_le ?_
          have h1 := lt_pow_len HLA.out
          have h2 := lt_pow_len HLX.out
          calc a * x < 4294967296 ^ 20 * 4294967296 ^ 20 := Nat.mul_lt_mul'' h1 h2
            _ ≤ 4294967296 ^ 60 := by rw [← Nat.pow_add]; exact Nat.pow_le_pow_right (by omega) (by omega))
        have HB2 := Lib.hid hb2
        clear hb1 hbp hb2
        go_wp2_with fail
        refine HM.out.mono ?_
        rintro e u9 ⟨vm, rfl, nm, hk⟩
        have HD := Lib.hid (r4div_any _ _ (a * x) b u9 nm (HB6.out.fol hk) (by have := HLM.out; omega) (by have := HLB.out; omega) (by have := HB2.out; omega))
        clear nm HM
        go_wp2_with fail
        refine HD.out.mono ?_
        rintro e u10 ⟨vq, vr, rfl, _, nr, hk'⟩
        rw [HX1.out, Nat.mod_eq_of_lt HB2.out] at nr
        have hk8 := Fol.trans hk hk'
        have HB7 := Lib.hid (HB6.out.fol hk8)
        have HA7 := Lib.hid (HA6.out.fol hk8)
        have HX7 := Lib.hid (HX6.out.fol hk8)
        have HF7 := Lib.hid (Fol.trans HF6.out hk8)
        have HR7 := Lib.hid nr
        clear hk hk' hk8 nr HB6 HA6 HX6 HF6 HD
        have HD := Lib.hid (r4div_any _ _ a b u10 HA7.out HB7.out (by have := HLA.out; omega) (by have := HLB.out; omega) (by have := HB2.out; omega))
        go_wp2_with fail
        refine HD.out.mono ?_
        rintro e u11 ⟨vq2, vr2, rfl, _, nr2, hk⟩
        have HI := Lib.hid (inv_yes 20 _ _ x b u11 (HX7.out.fol hk) (HB7.out.fol hk) HLX.out HLB.out (by omega) (by have := HB2.out; omega) (gcd_inv HB2.out HX1.out))
        go_wp2_with fail
        refine HI.out.mono ?_
        rintro e u12 ⟨vy, s, rfl, hi, hy, ny, hk'⟩
        obtain ⟨hy1, hy2⟩ := inv_value hi hy (by have := HB2.out; omega) (gcd_inv HB2.out HX1.out)
        generalize (s.m.a % (b : Int)).natAbs = y at *
        have hya := inv_inv HB2.out HX1.out hy1 hy2
        subst hya
        have hk8 := Fol.trans hk hk'
        have HB8 := Lib.hid (HB7.out.fol hk8)
        have HX8 := Lib.hid (HX7.out.fol hk8)
        have HF8 := Lib.hid (Fol.trans HF7.out hk8)
        have HR8 := Lib.hid (HR7.out.fol hk8)
        have HQ8 := Lib.hid (nr2.fol hk')
        have HY8 := Lib.hid ny
        have HLY : Hid ((dig (a % b)).length ≤ 20) := Lib.hid (len_le (Nat.le_of_lt hy2) HLB.out)
        clear hk hk' hk8 nr2 ny hi hy hy1 hy2 HB7 HX7 HF7 HR7 HI HD HA7
        have HC := Lib.hid (r1cmp_any _ _ x b u12 HX8.out HB8.out (big_of HLX.out (by omega)) (big_of HLB.out (by omega)))
        have hn : decide (ncmp x b < 0) = true := by unfold ncmp; rw [if_pos HX2.out]; rfl
        go_wp2_with fail
        refine HC.out.mono ?_
        rintro e u13 ⟨rfl, rfl⟩
        generalize ncmp x b = nc at *
        go_wp2_with fail
        have n1 := lit_new 1 u12 (by decide) (by decide)
        have hk6 := Fol.new u12 (.cells #[.int .u32 1] 43)
        refine (HSB.out _ _ 1 1 _ (HR8.out.fol hk6) n1 (by have := @len_one 1 (by decide); omega) (by have := @len_one 1 (by decide); omega)).mono ?_
        rintro e u14 ⟨rfl, hk7⟩
        have hd1 : decide ((1:Nat) = 1) = true := rfl
        rw [hd1]
        have hk8 := Fol.trans hk6 hk7
        have HQ9 := Lib.hid (HQ8.out.fol hk8)
        have HY9 := Lib.hid (HY8.out.fol hk8)
        have HF9 := Lib.hid (Fol.trans HF8.out hk8)
        clear hk6 hk7 hk8 n1 hd1
        go_wp2_with fail
        refine (HSB.out _ _ (a % b) (a % b) _ HY9.out HQ9.out (by have := HLY.out; omega) (by have := HLY.out; omega)).mono ?_
        rintro e u15 ⟨rfl, hk7⟩
        rw [decide_eq_true rfl]
        have HF10 := Lib.hid (Fol.trans HF9.out hk7)
        clear hk7
        go_wp2
        go_ret
        exact ⟨rfl, HF10.out⟩
    · have HI := Lib.hid (inv_no 20 _ _ a b u3 na nb HLA.out HLB.out (by omega) (.inr hg))
      have HBN := Lib.hid nb
      have HAN := Lib.hid na
      have HLG : Hid ((dig (Nat.gcd a b)).length ≤ 20) := Lib.hid (len_le (Nat.gcd_le_right a hbp) HLB.out)
      obtain ⟨lb', hlb'⟩ : ∃ l, (dig b).length = l := ⟨_, rfl⟩
      rw [hlb'] at HI HBN hblen ⊢
      clear hlb' na nb hla hlb
      have hlz : ((lb' : Int) == 0) = false := by rw [beq_eq_false_iff_ne]; omega
      go_wp2_with fail
      refine HI.out.mono ?_
      rintro e u4 ⟨rfl, hk⟩
      replace hF := Lib.hid (Fol.trans hF hk)
      have HBN4 := Lib.hid (HBN.out.fol hk)
      have HAN4 := Lib.hid (HAN.out.fol hk)
      clear hk HI HBN HAN
      go_wp2_with fail
      refine (HG.out _ _ _ HAN4.out HBN4.out).mono ?_
      rintro e u5 ⟨vg, rfl, hg5, hk5⟩
      have n1 := lit_new 1 u5 (by decide) (by decide)
      have hk6 := Fol.new u5 (.cells #[.int .u32 1] 43)
      go_wp2_with fail
      refine (HSB.out _ _ (Nat.gcd a b) 1 _ (hg5.fol hk6) n1 (by have := HLG.out; omega) (by have := @len_one 1 (by decide); omega)).mono ?_
      rintro e u7 ⟨rfl, hk7⟩
      rw [decide_eq_false hg]
      have hk8 := Fol.trans hk5 (Fol.trans hk6 hk7)
      have HF5 := Lib.hid (Fol.trans hF.out hk8)
      clear hk5 hk6 hk7 hk8 HBN4 HAN4 hF hg5 n1 hg
      go_wp2
      go_ret
      exact ⟨rfl, HF5.out⟩
end Go.Proofs.YtckahcgolfnobaaGreatDoor

/- The laws' arguments as a caller's world holds them. -/
namespace Go.Proofs.YtckahcgolfnobaaGreatDoor
open Go Go.RowKit Go.ChangeShapes Go.WideShapes Go.ChangeAt

theorem law_own : ownKnob Tryz.prog.godebug = none := by kernel_rfl
theorem law_laidOut : laidOutB Tryz.prog = true := by kernel_rfl
theorem law_cells : Tryz.prog.cellsOf 43 = 1 := by kernel_rfl
theorem law_und : Tryz.prog.underlying 22 = some (.slice 43) := by kernel_rfl
theorem law_und32 : Tryz.prog.underlying 43 = some (.int .u32) := by kernel_rfl
theorem law_bool : Tryz.prog.underlying 4 = some .bool := by kernel_rfl

/-- A slice of limbs, as the caller holds it: its numbers, and that it reads so behind whatever leaves the old blocks alone. -/
theorem open_limbs {H : Type} {enc : TypeId × Value → H} {W : World} {v : Value} {d : DataW H} {ps : List MemPlace} {a0 : Option Addr} {len cap : Nat} (hv : v = .slice a0 len cap)
    (h : DataW.Trod enc Tryz.prog W 0 (fun _ => true) true 22 v d ps) : ∃ l, Raw W v l ∧ Small l := by
  subst hv
  obtain ⟨fuel, hf⟩ := h
  rcases open_ints law_und law_und32 law_cells hf with ⟨hcs, hx⟩ | ⟨a, len', cap', zs, hcs, _, hl, hm, hz, hx, hcell, hwz⟩
  · simp [Value.cells] at hcs
    obtain ⟨rfl, rfl, rfl⟩ := hcs
    exact ⟨[], ⟨none, 0, rfl, Nat.le_refl _, fun _ => rfl, fun a ha => by cases ha⟩, small_nil⟩
  · simp [Value.cells] at hcs
    obtain ⟨rfl, rfl, rfl⟩ := hcs
    simp only [if_true] at hz
    have hw : ∀ n ∈ zs, 0 ≤ n ∧ n < 4294967296 := fun n hn => by
      have := hwz n hn
      simp only [Lit.wf, Bool.and_eq_true, decide_eq_true_eq, show IntKind.u32.min = 0 from rfl, show IntKind.u32.max = 4294967295 from rfl] at this
      omega
    refine ⟨(zs.take len).map Int.toNat, ⟨some a, cap, by rw [List.length_map, List.length_take, Nat.min_eq_left (by omega)], by rw [List.length_map, List.length_take]; omega, (fun h => by cases h), fun a' ha => ?_⟩, ?_⟩
    · cases ha
      intro j u hu
      simp only [lv, List.map_map, List.getElem?_map, Option.map_eq_some_iff] at hu
      obtain ⟨z, hz1, hz2⟩ := hu
      rw [List.getElem?_take] at hz1
      split at hz1
      · next hj =>
        have hc := hcell j (by omega)
        have hg : zs.getD j 0 = z := by simp [List.getD, hz1]
        rw [hg] at hc
        have hz3 := hw z (List.mem_of_getElem? hz1)
        rw [hc, ← hz2]
        simp only [Function.comp]
        congr 2
        omega
      · cases hz1
    · intro x hx
      obtain ⟨z, hz1, rfl⟩ := List.mem_map.1 hx
      have := hw z (List.mem_of_mem_take hz1)
      omega
end Go.Proofs.YtckahcgolfnobaaGreatDoor

/- Fermat's little theorem for six primes, by an element of full order. -/
namespace Go.Proofs.YtckahcgolfnobaaGreatDoor
open Go
def PrimeN (q : Nat) : Prop := 1 < q ∧ ∀ d, d ∣ q → d = 1 ∨ d = q
theorem exists_prime : ∀ (n v : Nat), v ≤ n → 1 < v → ∃ r, PrimeN r ∧ r ∣ v
  | 0, v, h1, h2 => by omega
  | n + 1, v, h1, h2 => by
    by_cases hp : PrimeN v
    · exact ⟨v, hp, Nat.dvd_refl v⟩
    · have : ∃ d, d ∣ v ∧ d ≠ 1 ∧ d ≠ v := by
        apply Classical.byContradiction
        intro hn
        apply hp
        refine ⟨h2, fun d hd => ?_⟩
        by_cases h3 : d = 1
        · exact .inl h3
        · by_cases h4 : d = v
          · exact .inr h4
          · exact absurd ⟨d, hd, h3, h4⟩ hn
      obtain ⟨d, hd, h3, h4⟩ := this
      have h5 := Nat.le_of_dvd (by omega) hd
      have h6 : d ≠ 0 := by
        intro h0
        subst h0
        have := Nat.eq_zero_of_zero_dvd hd
        omega
      obtain ⟨r, hr, hrd⟩ := exists_prime n d (by omega) (by omega)
      exact ⟨r, hr, Nat.dvd_trans hrd hd⟩
theorem prime_dvd_mul {r x y : Nat} (h : PrimeN r) (hd : r ∣ x * y) : r ∣ x ∨ r ∣ y := by
  rcases h.2 (Nat.gcd r x) (Nat.gcd_dvd_left r x) with h1 | h1
  · exact .inr (Nat.Coprime.dvd_of_dvd_mul_left h1 hd)
  · left
    rw [← h1]
    exact Nat.gcd_dvd_right r x
def prodN (l : List Nat) : Nat := l.foldr (fun x y => x * y) 1
theorem prime_dvd_prod {r : Nat} (h : PrimeN r) : ∀ l : List Nat, r ∣ prodN l → ∃ q ∈ l, r ∣ q
  | [], hd => by
    have := Nat.le_of_dvd (by decide) hd
    have h1 := h.1
    simp [prodN] at this
    omega
  | q :: l, hd => by
    rcases prime_dvd_mul h (show r ∣ q * prodN l from hd) with h1 | h1
    · exact ⟨q, List.mem_cons_self, h1⟩
    · obtain ⟨x, hx, hr⟩ := prime_dvd_prod h l h1
      exact ⟨x, List.mem_cons_of_mem _ hx, hr⟩
/-- No divisor among 2 ^ n numbers from a on. -/
def noDiv (q : Nat) : Nat → Nat → Bool
  | 0, a => q % a != 0
  | n + 1, a => noDiv q n a && noDiv q n (a + 2 ^ n)
theorem noDiv_spec {q : Nat} : ∀ (n a : Nat), noDiv q n a = true → ∀ d, a ≤ d → d < a + 2 ^ n → ¬ d ∣ q
  | 0, a, h, d, h1, h2 => by
    have : d = a := by simp at h2; omega
    subst this
    intro hd
    have := Nat.mod_eq_zero_of_dvd hd
    simp [noDiv, this] at h
  | n + 1, a, h, d, h1, h2 => by
    simp only [noDiv, Bool.and_eq_true] at h
    rw [Nat.pow_succ] at h2
    by_cases hd : d < a + 2 ^ n
    · exact noDiv_spec n a h.1 d h1 hd
    · exact noDiv_spec n (a + 2 ^ n) h.2 d (by omega) (by omega)
theorem prime_of {q n : Nat} (h1 : 1 < q) (h : noDiv q n 2 = true ∨ (q < 4)) (hb : q < (2 + 2 ^ n) * (2 + 2 ^ n)) : PrimeN q := by
  refine ⟨h1, fun d hd => ?_⟩
  obtain ⟨e, he⟩ := hd
  have hd0 : d ≠ 0 := by intro h0; rw [h0, Nat.zero_mul] at he; omega
  have he0 : e ≠ 0 := by intro h0; rw [h0, Nat.mul_zero] at he; omega
  rcases h with h | h
  · by_cases h2 : d = 1
    · exact .inl h2
    · by_cases h3 : e = 1
      · right; rw [he, h3, Nat.mul_one]
      · exfalso
        have hs := noDiv_spec n 2 h
        by_cases h4 : d < 2 + 2 ^ n
        · exact hs d (by omega) h4 ⟨e, he⟩
        · by_cases h5 : e < 2 + 2 ^ n
          · exact hs e (by omega) h5 ⟨d, by rw [Nat.mul_comm]; exact he⟩
          · have := Nat.mul_le_mul (show 2 + 2 ^ n ≤ d by omega) (show 2 + 2 ^ n ≤ e by omega)
            omega
  · have : d ≤ q := by rw [he]; exact Nat.le_mul_of_pos_right d (by omega)
    have h2 : q = 2 ∨ q = 3 := by omega
    rcases h2 with h2 | h2
    · subst h2; omega
    · subst h2
      have : d = 1 ∨ d = 2 ∨ d = 3 := by omega
      rcases this with h | h | h
      · exact .inl h
      · subst h; omega
      · exact .inr h

/-! ### The order of an element -/
theorem least {P : Nat → Prop} : ∀ (n : Nat), P n → ∃ k, P k ∧ ∀ j, j < k → ¬ P j := by
  intro n
  induction n using Nat.strongRecOn with
  | _ n ih =>
    intro hn
    by_cases h : ∃ j, j < n ∧ P j
    · obtain ⟨j, hj, hp⟩ := h
      exact ih j hj hp
    · exact ⟨n, hn, fun j hj hp => h ⟨j, hj, hp⟩⟩
theorem pow_one_mul {g p e q : Nat} (h : g ^ e % p = 1 % p) : g ^ (e * q) % p = 1 % p := by
  rw [Nat.pow_mul, Nat.pow_mod, h, ← Nat.pow_mod, Nat.one_pow]
theorem order_full {p g : Nat} {l : List Nat} (hprod : prodN l = p - 1) (hl : ∀ q ∈ l, PrimeN q) (h1 : g ^ (p - 1) % p = 1 % p) (hne : ∀ q ∈ l, g ^ ((p - 1) / q) % p ≠ 1 % p) :
    ∀ j, 0 < j → j < p - 1 → g ^ j % p ≠ 1 % p := by
  intro j hj0 hj hjp
  obtain ⟨e, ⟨he0, hep⟩, hmin⟩ := least (P := fun k => 0 < k ∧ g ^ k % p = 1 % p) j ⟨hj0, hjp⟩
  have hdiv : e ∣ p - 1 := by
    have hr := Nat.div_add_mod (p - 1) e
    have hlt := Nat.mod_lt (p - 1) he0
    apply Nat.dvd_of_mod_eq_zero
    apply Classical.byContradiction
    intro hn
    refine hmin ((p - 1) % e) hlt ⟨by omega, ?_⟩
    rw [← hr, Nat.pow_add, Nat.mul_mod, pow_one_mul hep, ← Nat.mul_mod, Nat.one_mul] at h1
    exact h1
  obtain ⟨v, hv⟩ := hdiv
  have hej : e ≤ j := by
    apply Nat.not_lt.1
    intro hlt
    exact hmin j hlt ⟨hj0, hjp⟩
  have hv1 : 1 < v := by
    apply Nat.not_le.1
    intro hle
    have := Nat.mul_le_mul_left e hle
    omega
  obtain ⟨r, hr, hrv⟩ := exists_prime v v (Nat.le_refl v) hv1
  obtain ⟨q, hq, hrq⟩ := prime_dvd_prod hr l (by rw [hprod, hv]; exact Nat.dvd_trans hrv (Nat.dvd_mul_left v e))
  have hrq2 : r = q := by
    rcases (hl q hq).2 r hrq with h | h
    · have := hr.1; omega
    · exact h
  subst hrq2
  obtain ⟨u, hu⟩ := hrv
  refine hne r hq ?_
  have : (p - 1) / r = e * u := by
    rw [hv, hu]
    rw [show e * (r * u) = r * (e * u) by rw [Nat.mul_left_comm]]
    exact Nat.mul_div_cancel_left _ (by have := hr.1; omega)
  rw [this]
  exact pow_one_mul hep
theorem surj_of_inj : ∀ (n : Nat) (f : Nat → Nat), (∀ i, i < n → f i < n) → (∀ i j, i < n → j < n → f i = f j → i = j) → ∀ y, y < n → ∃ i, i < n ∧ f i = y
  | 0, _, _, _, y, hy => by omega
  | n + 1, f, hf, hi, y, hy => by
    by_cases hn : ∃ i, i < n ∧ f i = n
    · obtain ⟨i0, hi0, hfi0⟩ := hn
      have hfn : f n < n := by
        have h1 := hf n (by omega)
        have h2 : f n ≠ n := fun h => by have := hi i0 n (by omega) (by omega) (by omega); omega
        omega
      by_cases hyn : y = n
      · exact ⟨i0, by omega, by omega⟩
      · obtain ⟨i, hin, hfi⟩ := surj_of_inj n (fun i => if f i = n then f n else f i) (fun i h => by
          have := hf i (by omega)
          show (if f i = n then f n else f i) < n
          split <;> omega) (fun i j h1 h2 h3 => by
          have a1 := hi i j (by omega) (by omega)
          have a2 := hi i n (by omega) (by omega)
          have a3 := hi n j (by omega) (by omega)
          split at h3 <;> split at h3
          · exact a1 (by omega)
          · have := a3 h3; omega
          · have := a2 h3; omega
          · exact a1 h3) y (by omega)
        split at hfi
        · exact ⟨n, by omega, hfi⟩
        · exact ⟨i, by omega, hfi⟩
    · have hno : ∀ i, i < n → f i < n := fun i h => by
        have h1 := hf i (by omega)
        have h2 : f i ≠ n := fun h' => hn ⟨i, h, h'⟩
        omega
      have ih := surj_of_inj n f hno (fun i j h1 h2 => hi i j (by omega) (by omega))
      by_cases hfn : f n = n
      · by_cases hyn : y = n
        · exact ⟨n, by omega, by omega⟩
        · obtain ⟨i, h1, h2⟩ := ih y (by omega)
          exact ⟨i, by omega, h2⟩
      · have h1 := hf n (by omega)
        obtain ⟨i, h2, h3⟩ := ih (f n) (by omega)
        have := hi i n (by omega) (by omega) h3
        omega

theorem all_powers {p g : Nat} (hp : 1 < p) (h1 : g ^ (p - 1) % p = 1 % p) (hord : ∀ j, 0 < j → j < p - 1 → g ^ j % p ≠ 1 % p) : ∀ a, a % p ≠ 0 → ∃ k, a % p = g ^ k % p := by
  have h1p : 1 % p = 1 := Nat.mod_eq_of_lt hp
  have hunit : ∀ i, i ≤ p - 1 → g ^ i * g ^ (p - 1 - i) % p = 1 := fun i hi => by
    rw [← Nat.pow_add, show i + (p - 1 - i) = p - 1 by omega, h1, h1p]
  have hnz : ∀ i, i ≤ p - 1 → g ^ i % p ≠ 0 := fun i hi h0 => by
    have := hunit i hi
    rw [Nat.mul_mod, h0, Nat.zero_mul, Nat.zero_mod] at this
    omega
  have hcan : ∀ i j, i ≤ j → j < p - 1 → g ^ i % p = g ^ j % p → i = j := fun i j hij hj he => by
    apply Classical.byContradiction
    intro hne
    refine hord (j - i) (by omega) (by omega) ?_
    have e1 : g ^ (j - i) * (g ^ i * g ^ (p - 1 - i)) % p = g ^ (j - i) % p := by rw [Nat.mul_mod, hunit i (by omega), Nat.mul_one, Nat.mod_mod]
    have e2 : g ^ (j - i) * (g ^ i * g ^ (p - 1 - i)) = g ^ j * g ^ (p - 1 - i) := by
      rw [← Nat.mul_assoc, ← Nat.pow_add, show j - i + i = j by omega]
    rw [← e1, e2, Nat.mul_mod, ← he, ← Nat.mul_mod, hunit i (by omega), h1p]
  intro a ha
  have hlt : a % p < p := Nat.mod_lt _ (by omega)
  obtain ⟨k, hk1, hk⟩ := surj_of_inj (p - 1) (fun i => g ^ i % p - 1) (fun i hi => by
    have := hnz i (by omega)
    have := Nat.mod_lt (g ^ i) (show 0 < p by omega)
    show g ^ i % p - 1 < p - 1
    omega) (fun i j hi hj h => by
    have a1 := hnz i (by omega)
    have a2 := hnz j (by omega)
    rcases Nat.le_total i j with hij | hij
    · exact hcan i j hij hj (by omega)
    · exact (hcan j i hij hi (by omega)).symm) (a % p - 1) (by omega)
  refine ⟨k, ?_⟩
  have := hnz k (by omega)
  omega
theorem fermat {p g : Nat} (hp : 1 < p) (h1 : g ^ (p - 1) % p = 1 % p) (hord : ∀ j, 0 < j → j < p - 1 → g ^ j % p ≠ 1 % p) (a : Nat) (ha : a % p ≠ 0) : a ^ (p - 1) % p = 1 := by
  obtain ⟨k, hk⟩ := all_powers hp h1 hord a ha
  rw [Nat.pow_mod, hk, ← Nat.pow_mod, ← Nat.pow_mul, Nat.mul_comm, pow_one_mul h1, Nat.mod_eq_of_lt hp]
/-- A number's power, brought to rest at each step. -/
def pm (p g : Nat) : Nat → Nat → Nat
  | 0, _ => 1 % p
  | f + 1, k => if k % 2 = 1 then (pm p g f (k / 2) * pm p g f (k / 2) % p) * g % p else pm p g f (k / 2) * pm p g f (k / 2) % p
theorem pm_eq {p g : Nat} : ∀ (f k : Nat), k < 2 ^ f → pm p g f k = g ^ k % p
  | 0, k, h => by
    have : k = 0 := by simp at h; omega
    subst this
    simp [pm]
  | f + 1, k, h => by
    rw [Nat.pow_succ] at h
    have ih := @pm_eq p g f (k / 2) (by omega)
    unfold pm
    rw [ih, ← Nat.mul_mod, ← Nat.pow_add]
    split
    · rw [Nat.mod_mul_mod, ← Nat.pow_succ]
      congr 2
      omega
    · congr 2
      omega

def certB (p g f : Nat) (l : List Nat) : Bool := (p - 1) < 2 ^ f && pm p g f (p - 1) == 1 % p && l.all fun q => (p - 1) / q < 2 ^ f && pm p g f ((p - 1) / q) != 1 % p
theorem order_cert {p g f : Nat} {l : List Nat} (hprod : prodN l = p - 1) (hl : ∀ q ∈ l, PrimeN q) (h : certB p g f l = true) : ∀ j, 0 < j → j < p - 1 → g ^ j % p ≠ 1 % p := by
  simp only [certB, Bool.and_eq_true, decide_eq_true_eq, beq_iff_eq, List.all_eq_true, bne_iff_ne] at h
  obtain ⟨⟨h0, h1⟩, h2⟩ := h
  refine order_full hprod hl (by rw [← pm_eq f _ h0]; exact h1) (fun q hq => ?_)
  rw [← pm_eq f _ (h2 q hq).1]
  exact (h2 q hq).2
theorem one_cert {p g f : Nat} {l : List Nat} (h : certB p g f l = true) : g ^ (p - 1) % p = 1 % p := by
  simp only [certB, Bool.and_eq_true, decide_eq_true_eq, beq_iff_eq] at h
  rw [← pm_eq f _ h.1.1]
  exact h.1.2
theorem prime_of_order {p g : Nat} (hp : 1 < p) (h1 : g ^ (p - 1) % p = 1 % p) (hord : ∀ j, 0 < j → j < p - 1 → g ^ j % p ≠ 1 % p) : PrimeN p := by
  refine ⟨hp, fun d hd => ?_⟩
  by_cases hdp : d = p
  · exact .inr hdp
  · left
    have hle := Nat.le_of_dvd (by omega) hd
    have hd0 : d ≠ 0 := by
      intro h0
      subst h0
      have := Nat.eq_zero_of_zero_dvd hd
      omega
    have hm : d % p = d := Nat.mod_eq_of_lt (by omega)
    have hf := fermat hp h1 hord d (by omega)
    by_cases h2 : p = 2
    · omega
    · have h3 : d ∣ d ^ (p - 1) % p := (Nat.dvd_mod_iff hd).2 (Nat.dvd_of_pow_dvd (Nat.le_refl 1) (by rw [Nat.pow_one]; exact ⟨d ^ (p - 2), by rw [← Nat.pow_succ']; congr 1; omega⟩))
      rw [hf] at h3
      exact Nat.dvd_one.1 h3
theorem prime_cert {p g f : Nat} {l : List Nat} (hp : 1 < p) (hprod : prodN l = p - 1) (hl : ∀ q ∈ l, PrimeN q) (h : certB p g f l = true) : PrimeN p :=
  prime_of_order hp (one_cert h) (order_cert hprod hl h)
theorem prime_2 : PrimeN 2 := prime_of (n := 0) (by decide) (.inr (by decide)) (by decide)
theorem prime_3 : PrimeN 3 := prime_of (n := 0) (by decide) (.inr (by decide)) (by decide)
theorem prime_5 : PrimeN 5 := prime_of (n := 0) (by decide) (.inl (by kernel_rfl)) (by decide)
theorem prime_7 : PrimeN 7 := prime_of (n := 0) (by decide) (.inl (by kernel_rfl)) (by decide)
theorem prime_11 : PrimeN 11 := prime_of (n := 1) (by decide) (.inl (by kernel_rfl)) (by decide)
theorem prime_13 : PrimeN 13 := prime_of (n := 1) (by decide) (.inl (by kernel_rfl)) (by decide)
theorem prime_17 : PrimeN 17 := prime_of (n := 2) (by decide) (.inl (by kernel_rfl)) (by decide)
theorem prime_19 : PrimeN 19 := prime_of (n := 2) (by decide) (.inl (by kernel_rfl)) (by decide)
theorem prime_23 : PrimeN 23 := prime_of (n := 2) (by decide) (.inl (by kernel_rfl)) (by decide)
theorem prime_31 : PrimeN 31 := prime_of (n := 2) (by decide) (.inl (by kernel_rfl)) (by decide)
theorem prime_41 : PrimeN 41 := prime_of (n := 3) (by decide) (.inl (by kernel_rfl)) (by decide)
theorem prime_43 : PrimeN 43 := prime_of (n := 3) (by decide) (.inl (by kernel_rfl)) (by decide)
theorem prime_61 : PrimeN 61 := prime_of (n := 3) (by decide) (.inl (by kernel_rfl)) (by decide)
theorem prime_73 : PrimeN 73 := prime_of (n := 3) (by decide) (.inl (by kernel_rfl)) (by decide)
theorem prime_89 : PrimeN 89 := prime_of (n := 3) (by decide) (.inl (by kernel_rfl)) (by decide)
theorem prime_127 : PrimeN 127 := prime_of (n := 4) (by decide) (.inl (by kernel_rfl)) (by decide)
theorem prime_151 : PrimeN 151 := prime_of (n := 4) (by decide) (.inl (by kernel_rfl)) (by decide)
theorem prime_331 : PrimeN 331 := prime_of (n := 5) (by decide) (.inl (by kernel_rfl)) (by decide)
theorem prime_337 : PrimeN 337 := prime_of (n := 5) (by decide) (.inl (by kernel_rfl)) (by decide)
theorem prime_353 : PrimeN 353 := prime_of (n := 5) (by decide) (.inl (by kernel_rfl)) (by decide)
theorem prime_397 : PrimeN 397 := prime_of (n := 5) (by decide) (.inl (by kernel_rfl)) (by decide)
theorem prime_683 : PrimeN 683 := prime_of (n := 5) (by decide) (.inl (by kernel_rfl)) (by decide)
theorem prime_1321 : PrimeN 1321 := prime_of (n := 6) (by decide) (.inl (by kernel_rfl)) (by decide)
theorem prime_2113 : PrimeN 2113 := prime_of (n := 6) (by decide) (.inl (by kernel_rfl)) (by decide)
theorem prime_5419 : PrimeN 5419 := prime_of (n := 7) (by decide) (.inl (by kernel_rfl)) (by decide)
theorem prime_92737 : PrimeN 92737 := prime_of (n := 9) (by decide) (.inl (by kernel_rfl)) (by decide)
theorem prime_1289 : PrimeN 1289 := prime_of (n := 6) (by decide) (.inl (by kernel_rfl)) (by decide)
theorem prime_649657 : PrimeN 649657 := by
  refine prime_cert (g := 5) (l := [2, 2, 2, 3, 3, 7, 1289]) (f := 21) (by decide) (by kernel_rfl) (fun q hq => ?_) (by kernel_rfl)
  simp only [List.mem_cons, List.not_mem_nil, or_false] at hq
  rcases hq with hq | hq | hq | hq | hq | hq | hq <;> subst hq
  · exact prime_2
  · exact prime_2
  · exact prime_2
  · exact prime_3
  · exact prime_3
  · exact prime_7
  · exact prime_1289
theorem prime_8707 : PrimeN 8707 := prime_of (n := 7) (by decide) (.inl (by kernel_rfl)) (by decide)
theorem prime_1913 : PrimeN 1913 := prime_of (n := 6) (by decide) (.inl (by kernel_rfl)) (by decide)
theorem prime_2931542417 : PrimeN 2931542417 := by
  refine prime_cert (g := 3) (l := [2, 2, 2, 2, 11, 1913, 8707]) (f := 33) (by decide) (by kernel_rfl) (fun q hq => ?_) (by kernel_rfl)
  simp only [List.mem_cons, List.not_mem_nil, or_false] at hq
  rcases hq with hq | hq | hq | hq | hq | hq | hq <;> subst hq
  · exact prime_2
  · exact prime_2
  · exact prime_2
  · exact prime_2
  · exact prime_11
  · exact prime_1913
  · exact prime_8707
theorem prime_174763 : PrimeN 174763 := by
  refine prime_cert (g := 17) (l := [2, 3, 3, 7, 19, 73]) (f := 19) (by decide) (by kernel_rfl) (fun q hq => ?_) (by kernel_rfl)
  simp only [List.mem_cons, List.not_mem_nil, or_false] at hq
  rcases hq with hq | hq | hq | hq | hq | hq <;> subst hq
  · exact prime_2
  · exact prime_3
  · exact prime_3
  · exact prime_7
  · exact prime_19
  · exact prime_73
theorem prime_699053 : PrimeN 699053 := by
  refine prime_cert (g := 2) (l := [2, 2, 174763]) (f := 21) (by decide) (by kernel_rfl) (fun q hq => ?_) (by kernel_rfl)
  simp only [List.mem_cons, List.not_mem_nil, or_false] at hq
  rcases hq with hq | hq | hq <;> subst hq
  · exact prime_2
  · exact prime_2
  · exact prime_174763
theorem prime_77158673929 : PrimeN 77158673929 := by
  refine prime_cert (g := 11) (l := [2, 2, 2, 3, 3, 3, 7, 73, 699053]) (f := 38) (by decide) (by kernel_rfl) (fun q hq => ?_) (by kernel_rfl)
  simp only [List.mem_cons, List.not_mem_nil, or_false] at hq
  rcases hq with hq | hq | hq | hq | hq | hq | hq | hq | hq <;> subst hq
  · exact prime_2
  · exact prime_2
  · exact prime_2
  · exact prime_3
  · exact prime_3
  · exact prime_3
  · exact prime_7
  · exact prime_73
  · exact prime_699053
theorem order_2 : ∀ j, 0 < j → j < 2 - 1 → 1 ^ j % 2 ≠ 1 % 2 := by omega
theorem order_65537 : ∀ j, 0 < j → j < 65537 - 1 → 3 ^ j % 65537 ≠ 1 % 65537 := by
  refine order_cert (l := [2, 2, 2, 2, 2, 2, 2, 2, 2, 2, 2, 2, 2, 2, 2, 2]) (f := 18) (by kernel_rfl) (fun q hq => ?_) (by kernel_rfl)
  simp only [List.mem_cons, List.not_mem_nil, or_false] at hq
  rcases hq with hq | hq | hq | hq | hq | hq | hq | hq | hq | hq | hq | hq | hq | hq | hq | hq <;> subst hq
  · exact prime_2
  · exact prime_2
  · exact prime_2
  · exact prime_2
  · exact prime_2
  · exact prime_2
  · exact prime_2
  · exact prime_2
  · exact prime_2
  · exact prime_2
  · exact prime_2
  · exact prime_2
  · exact prime_2
  · exact prime_2
  · exact prime_2
  · exact prime_2
theorem order_31 : ∀ j, 0 < j → j < 2147483647 - 1 → 7 ^ j % 2147483647 ≠ 1 % 2147483647 := by
  refine order_cert (l := [2, 3, 3, 7, 11, 31, 151, 331]) (f := 32) (by kernel_rfl) (fun q hq => ?_) (by kernel_rfl)
  simp only [List.mem_cons, List.not_mem_nil, or_false] at hq
  rcases hq with hq | hq | hq | hq | hq | hq | hq | hq <;> subst hq
  · exact prime_2
  · exact prime_3
  · exact prime_3
  · exact prime_7
  · exact prime_11
  · exact prime_31
  · exact prime_151
  · exact prime_331
theorem order_61 : ∀ j, 0 < j → j < 2305843009213693951 - 1 → 37 ^ j % 2305843009213693951 ≠ 1 % 2305843009213693951 := by
  refine order_cert (l := [2, 3, 3, 5, 5, 7, 11, 13, 31, 41, 61, 151, 331, 1321]) (f := 62) (by kernel_rfl) (fun q hq => ?_) (by kernel_rfl)
  simp only [List.mem_cons, List.not_mem_nil, or_false] at hq
  rcases hq with hq | hq | hq | hq | hq | hq | hq | hq | hq | hq | hq | hq | hq | hq <;> subst hq
  · exact prime_2
  · exact prime_3
  · exact prime_3
  · exact prime_5
  · exact prime_5
  · exact prime_7
  · exact prime_11
  · exact prime_13
  · exact prime_31
  · exact prime_41
  · exact prime_61
  · exact prime_151
  · exact prime_331
  · exact prime_1321
theorem order_89 : ∀ j, 0 < j → j < 618970019642690137449562111 - 1 → 3 ^ j % 618970019642690137449562111 ≠ 1 % 618970019642690137449562111 := by
  refine order_cert (l := [2, 3, 5, 17, 23, 89, 353, 397, 683, 2113, 2931542417]) (f := 90) (by kernel_rfl) (fun q hq => ?_) (by kernel_rfl)
  simp only [List.mem_cons, List.not_mem_nil, or_false] at hq
  rcases hq with hq | hq | hq | hq | hq | hq | hq | hq | hq | hq | hq <;> subst hq
  · exact prime_2
  · exact prime_3
  · exact prime_5
  · exact prime_17
  · exact prime_23
  · exact prime_89
  · exact prime_353
  · exact prime_397
  · exact prime_683
  · exact prime_2113
  · exact prime_2931542417
theorem order_127 : ∀ j, 0 < j → j < 170141183460469231731687303715884105727 - 1 → 43 ^ j % 170141183460469231731687303715884105727 ≠ 1 % 170141183460469231731687303715884105727 := by
  refine order_cert (l := [2, 3, 3, 3, 7, 7, 19, 43, 73, 127, 337, 5419, 92737, 649657, 77158673929]) (f := 128) (by kernel_rfl) (fun q hq => ?_) (by kernel_rfl)
  simp only [List.mem_cons, List.not_mem_nil, or_false] at hq
  rcases hq with hq | hq | hq | hq | hq | hq | hq | hq | hq | hq | hq | hq | hq | hq | hq <;> subst hq
  · exact prime_2
  · exact prime_3
  · exact prime_3
  · exact prime_3
  · exact prime_7
  · exact prime_7
  · exact prime_19
  · exact prime_43
  · exact prime_73
  · exact prime_127
  · exact prime_337
  · exact prime_5419
  · exact prime_92737
  · exact prime_649657
  · exact prime_77158673929

/-- A modulus by which Fermat's little theorem holds. -/
structure FP (p : Nat) : Prop where
  one : 1 < p
  pow : ∀ a, a % p ≠ 0 → a ^ (p - 1) % p = 1
theorem FP.same {p : Nat} (h : FP p) (a : Nat) : a ^ p % p = a % p := by
  have h1 := h.one
  rw [show p = p - 1 + 1 by omega, Nat.pow_succ, show p - 1 + 1 = p by omega, Nat.mul_mod]
  by_cases ha : a % p = 0
  · rw [ha, Nat.mul_zero, Nat.zero_mod]
  · rw [h.pow a ha, Nat.one_mul, Nat.mod_mod]
theorem FP.inv {p : Nat} (h : FP p) (a : Nat) (ha : a % p ≠ 0) : a * (a ^ (p - 2) % p) % p = 1 % p := by
  have h1 := h.one
  rw [Nat.mod_eq_of_lt h1, ← h.pow a ha, Nat.mul_mod, Nat.mod_mod, ← Nat.mul_mod, Nat.mul_comm, ← Nat.pow_succ]
  congr 2
  omega
theorem fp_2 : FP 2 := ⟨by decide, fun a ha => fermat (g := 1) (by decide) (by decide) order_2 a ha⟩
theorem fp_65537 : FP 65537 := ⟨by decide, fun a ha => fermat (g := 3) (by decide) (one_cert (f := 18) (l := [2, 2, 2, 2, 2, 2, 2, 2, 2, 2, 2, 2, 2, 2, 2, 2]) (by kernel_rfl)) order_65537 a ha⟩
theorem fp_31 : FP 2147483647 := ⟨by decide, fun a ha => fermat (g := 7) (by decide) (one_cert (f := 32) (l := [2, 3, 3, 7, 11, 31, 151, 331]) (by kernel_rfl)) order_31 a ha⟩
theorem fp_61 : FP 2305843009213693951 := ⟨by decide, fun a ha => fermat (g := 37) (by decide) (one_cert (f := 62) (l := [2, 3, 3, 5, 5, 7, 11, 13, 31, 41, 61, 151, 331, 1321]) (by kernel_rfl)) order_61 a ha⟩
theorem fp_89 : FP 618970019642690137449562111 := ⟨by decide, fun a ha => fermat (g := 3) (by decide) (one_cert (f := 90) (l := [2, 3, 5, 17, 23, 89, 353, 397, 683, 2113, 2931542417]) (by kernel_rfl)) order_89 a ha⟩
theorem fp_127 : FP 170141183460469231731687303715884105727 := ⟨by decide, fun a ha => fermat (g := 43) (by decide) (one_cert (f := 128) (l := [2, 3, 3, 3, 7, 7, 19, 43, 73, 127, 337, 5419, 92737, 649657, 77158673929]) (by kernel_rfl)) order_127 a ha⟩
end Go.Proofs.YtckahcgolfnobaaGreatDoor

/- The law GcdFermat: what its code does. -/
namespace Go.Proofs.YtckahcgolfnobaaGreatDoor
open Go Go.RowKit

theorem inv_only {a p y z : Nat} (hp : 1 < p) (h1 : a * y % p = 1 % p) (h2 : a * z % p = 1 % p) (hy : y < p) (hz : z < p) : y = z := by
  have e1 : a * y * z % p = z := by
    rw [Nat.mul_mod, h1, Nat.mod_eq_of_lt hp, Nat.one_mul, Nat.mod_mod, Nat.mod_eq_of_lt hz]
  have e2 : a * z * y % p = y := by
    rw [Nat.mul_mod, h2, Nat.mod_eq_of_lt hp, Nat.one_mul, Nat.mod_mod, Nat.mod_eq_of_lt hy]
  rw [Nat.mul_right_comm] at e2
  omega

theorem pair_after (w : World) (o : Obj) (x y : Int) (t : TypeId) : ((w.alloc o).alloc (.cells #[.int .u32 x, .int .u32 y] t)).cell? ⟨w.heap.size + 1, 0, none⟩ = some (.int .u32 x) ∧ ((w.alloc o).alloc (.cells #[.int .u32 x, .int .u32 y] t)).cell? ⟨w.heap.size + 1, 1, none⟩ = some (.int .u32 y) ∧
    w.heap.size + 1 < ((w.alloc o).alloc (.cells #[.int .u32 x, .int .u32 y] t)).heap.size ∧ ((w.alloc o).alloc (.cells #[.int .u32 x, .int .u32 y] t)).heap.size = w.heap.size + 1 + 1 ∧ Fol w ((w.alloc o).alloc (.cells #[.int .u32 x, .int .u32 y] t)) := by
  have h : ((w.alloc o).alloc (.cells #[.int .u32 x, .int .u32 y] t)).heap[(w.alloc o).heap.size]? = some (.cells #[.int .u32 x, .int .u32 y] t (0, 0)) := Array.getElem?_push_size
  rw [World.size_alloc] at h
  have hs : ((w.alloc o).alloc (.cells #[.int .u32 x, .int .u32 y] t)).heap.size = w.heap.size + 1 + 1 := by rw [World.size_alloc, World.size_alloc]
  have hf : Fol w ((w.alloc o).alloc (.cells #[.int .u32 x, .int .u32 y] t)) := fol2 _ _ _
  generalize (w.alloc o).alloc (.cells #[.int .u32 x, .int .u32 y] t) = W at *
  exact ⟨by simp [World.cell?, h], by simp [World.cell?, h], by omega, hs, hf⟩

set_option maxHeartbeats 8000000 in
set_option maxRecDepth 100000 in
theorem gcdFermat_walk (va : Value) (la : List Nat) (x : Int) (w : World) (ha : Raw w va la) (hsa : Small la) (hx0 : 0 ≤ x) (hx1 : x < 256) :
    Calls Tryz.prog 9 #[va, .int .u8 x] w fun e w' => e = .returned (.bool true) ∧ Fol w w' := by
  have HH := Lib.hid (head_any w)
  have HA := Lib.hid (fun w' (k : Fol w w') => made_len 8 va la w' (ha.fol k) hsa (by omega))
  have HSB : Hid (∀ v v' m n w', NatV w' v m → NatV w' v' n → (dig m).length ≤ 40 → (dig n).length ≤ 40 → Calls Tryz.prog 18 #[v, v'] w' fun e w'' => e = .returned (.bool (decide (m = n))) ∧ Fol w' w'') :=
    Lib.hid fun v v' m n w' h h' hm hn => same_any v v' m n w' h h' (big_of hm (by omega)) (big_of hn (by omega))
  have hw1 : IntKind.i64.wrap x = x := by rw [IntKind.wrap_i64]; omega
  have hc : x.tmod 6 = 0 ∨ x.tmod 6 = 1 ∨ x.tmod 6 = 2 ∨ x.tmod 6 = 3 ∨ x.tmod 6 = 4 ∨ x.tmod 6 = 5 := by
    rw [Int.tmod_eq_emod_of_nonneg hx0]; omega
  have HCC := Lib.hid hc
  clear ha hsa hx0 hx1 hc
  go_enter Tryz.func9, Tryz.ntmps9
  go_wp2_with fail
  refine HH.out.mono ?_
  rintro e u1 ⟨rfl, hF⟩
  clear HH
  go_wp2_with fail
  refine (HA.out _ hF).mono ?_
  rintro e u2 ⟨ra, a, rfl, na, hla, hk⟩
  have HF := Lib.hid (Fol.trans hF hk)
  have HLA := Lib.hid hla
  have HAN := Lib.hid na
  clear hk HA hF hla na
  rcases HCC.out with hc0 | hc1 | hc2 | hc3 | hc4 | hc5
  · have HC := Lib.hid hc0
    clear hc0 HCC
    have t1 : IntKind.i64.wrap (x.tmod 6) = 0 := by rw [HC.out]; rfl
    have t2 : x.tmod 6 = 0 := HC.out
    clear HC
    go_wp2_with fail
    obtain ⟨hb0, hb1, hlt, hs, hW⟩ := pair_after u2 (.cells #[.int .u32 1, .int .u32 2, .int .u32 16, .int .u32 65537, .int .u32 31, .int .u32 0, .int .u32 61, .int .u32 0, .int .u32 89, .int .u32 0, .int .u32 127, .int .u32 0] 48) 1 2 48
    generalize (u2.alloc (.cells #[.int .u32 1, .int .u32 2, .int .u32 16, .int .u32 65537, .int .u32 31, .int .u32 0, .int .u32 61, .int .u32 0, .int .u32 89, .int .u32 0, .int .u32 127, .int .u32 0] 48)).alloc (.cells #[.int .u32 1, .int .u32 2] 48) = W3 at *
    rw [← hs]
    have hbs := sl_new W3 [2] #[.int .u32 2] rfl 1 1 rfl (by decide)
    refine (r1make_any _ [2] _ hbs.raw (fun y hy => by rw [List.mem_singleton] at hy; subst hy; decide) (by decide)).mono ?_
    rintro e u3 ⟨v8, rfl, n8, hk3⟩
    replace hk3 := Fol.trans (Fol.new W3 (.cells #[.int .u32 2] 43)) hk3
    replace hb0 := (hk3.cell (p := ⟨u2.heap.size + 1, 0, none⟩) hlt).trans hb0
    replace hb1 := (hk3.cell (p := ⟨u2.heap.size + 1, 1, none⟩) hlt).trans hb1
    replace hk3 := Fol.trans hW hk3
    have HF3 := Lib.hid (Fol.trans HF.out hk3)
    have HA3 := Lib.hid (HAN.out.fol hk3)
    have hv : val [2] = 2 := by decide
    rw [hv] at n8
    clear hv hk3 HF HAN hW hs hbs hlt
    have HP3 : Hid (NatV u3 v8 2) := Lib.hid n8
    clear n8
    have HFP := Lib.hid fp_2
    have HLP : Hid ((dig 2).length ≤ 4) := Lib.hid (dig_length_le (by decide))
    generalize 2 = P at HP3 HFP HLP
    have HLR : Hid ((dig (a % P)).length ≤ 4) := Lib.hid (len_le (Nat.le_of_lt (Nat.mod_lt _ (by have := HFP.out.one; omega))) HLP.out)
    go_wp2_with fail
    refine (pow_any _ _ _ a P P u3 HA3.out HP3.out HP3.out (by have := HLA.out; omega) (by have := HLP.out; omega) (by have := HLP.out; omega) (by have := HFP.out.one; omega)).mono ?_
    rintro e u6 ⟨v11, rfl, n11, hk⟩
    rw [HFP.out.same] at n11
    have HF6 := Lib.hid (Fol.trans HF3.out hk)
    have HA6 := Lib.hid (HA3.out.fol hk)
    have HP6 := Lib.hid (HP3.out.fol hk)
    have HR6 := Lib.hid n11
    clear hk n11 HF3 HA3 HP3
    go_wp2_with fail
    refine (r4div_any _ _ a P u6 HA6.out HP6.out (by have := HLA.out; omega) (by have := HLP.out; omega) (by have := HFP.out.one; omega)).mono ?_
    rintro e u7 ⟨vq, vr, rfl, _, nr, hk⟩
    obtain ⟨oR, cR, rfl, _, _⟩ := nr.slice
    have HF7 := Lib.hid (Fol.trans HF6.out hk)
    have HA7 := Lib.hid (HA6.out.fol hk)
    have HP7 := Lib.hid (HP6.out.fol hk)
    have HR7 := Lib.hid (HR6.out.fol hk)
    have HS7 := Lib.hid nr
    clear hk nr HF6 HA6 HP6 HR6
    obtain ⟨lr, hlr⟩ : ∃ l, (dig (a % P)).length = l := ⟨_, rfl⟩
    have HZ : Hid (lr = 0 ↔ a % P = 0) := Lib.hid (by rw [← hlr]; exact dig_length_zero)
    have HLL := Lib.hid hlr
    rw [hlr] at HS7 ⊢
    clear hlr
    go_wp2_with fail
    refine (HSB.out _ _ (a % P) (a % P) u7 HR7.out HS7.out (by have := HLR.out; omega) (by have := HLR.out; omega)).mono ?_
    rintro e u8 ⟨rfl, hk⟩
    rw [decide_eq_true rfl]
    have HF8 := Lib.hid (Fol.trans HF7.out hk)
    have HA8 := Lib.hid (HA7.out.fol hk)
    have HP8 := Lib.hid (HP7.out.fol hk)
    clear hk HF7 HA7 HP7 HR7 HS7
    by_cases hz : lr = 0
    · subst hz
      go_wp2
      go_ret
      exact ⟨rfl, HF8.out⟩
    · have hlz : ((lr : Int) == 0) = false := by rw [beq_eq_false_iff_ne]; omega
      have HNZ : Hid (a % P ≠ 0) := Lib.hid (fun h => hz (HZ.out.2 h))
      clear hz HZ
      go_wp2_with fail
      have n1 : NatV (u8.alloc (.cells #[.int .u32 2] 43)) (.slice (some ⟨u8.heap.size, 0, none⟩) 1 1) 2 := lit_new 2 u8 (by decide) (by decide)
      refine (r1sub_yes _ _ P 2 _ (HP8.out.fol (Fol.new _ _)) n1 (big_of HLP.out (by decide)) (big_of (len_one (by decide)) (by decide)) (by have := HFP.out.one; omega)).mono ?_
      rintro e u9 ⟨v16, rfl, n16, hk⟩
      replace hk := Fol.trans (Fol.new u8 (.cells #[.int .u32 2] 43)) hk
      have HF9 := Lib.hid (Fol.trans HF8.out hk)
      have HA9 := Lib.hid (HA8.out.fol hk)
      have HP9 := Lib.hid (HP8.out.fol hk)
      have HE9 := Lib.hid n16
      clear n1 hk n16 HF8 HA8 HP8
      have HG : Hid (Nat.gcd a P = 1) := Lib.hid (by have h1 := HFP.out.inv a HNZ.out; rw [Nat.mul_comm] at h1; exact gcd_inv HFP.out.one h1)
      go_wp2_with fail
      refine (inv_yes 8 _ _ a P u9 HA9.out HP9.out HLA.out (by have := HLP.out; omega) (by decide) (by have := HFP.out.one; omega) HG.out).mono ?_
      rintro e u10 ⟨vy, s, rfl, hi, hy, ny, hk⟩
      obtain ⟨hy1, hy2⟩ := inv_value hi hy (by have := HFP.out.one; omega) HG.out
      generalize (s.m.a % (P : Int)).natAbs = y at *
      have hyz := inv_only HFP.out.one hy1 (HFP.out.inv a HNZ.out) hy2 (Nat.mod_lt _ (by have := HFP.out.one; omega))
      subst hyz
      have HLY : Hid ((dig (a ^ (P - 2) % P)).length ≤ 4) := Lib.hid (len_le (Nat.le_of_lt hy2) HLP.out)
      have HF10 := Lib.hid (Fol.trans HF9.out hk)
      have HA10 := Lib.hid (HA9.out.fol hk)
      have HP10 := Lib.hid (HP9.out.fol hk)
      have HE10 := Lib.hid (HE9.out.fol hk)
      have HY10 := Lib.hid ny
      clear hk ny hi hy hy1 hy2 HF9 HA9 HP9 HE9
      go_wp2_with fail
      refine (pow_any _ _ _ a (P - 2) P u10 HA10.out HE10.out HP10.out (by have := HLA.out; omega) (by have := len_le (Nat.sub_le P 2) HLP.out; omega) (by have := HLP.out; omega) (by have := HFP.out.one; omega)).mono ?_
      rintro e u11 ⟨v20, rfl, n20, hk⟩
      have HF11 := Lib.hid (Fol.trans HF10.out hk)
      have HY11 := Lib.hid (HY10.out.fol hk)
      have HT11 := Lib.hid n20
      clear hk n20 HF10 HY10 HA10 HP10 HE10
      go_wp2_with fail
      refine (HSB.out _ _ (a ^ (P - 2) % P) (a ^ (P - 2) % P) u11 HY11.out HT11.out (by have := HLY.out; omega) (by have := HLY.out; omega)).mono ?_
      rintro e u12 ⟨rfl, hk⟩
      rw [decide_eq_true rfl]
      have HF12 := Lib.hid (Fol.trans HF11.out hk)
      clear hk
      go_wp2
      go_ret
      exact ⟨rfl, HF12.out⟩
  · have HC := Lib.hid hc1
    clear hc1 HCC
    have t1 : IntKind.i64.wrap (x.tmod 6) = 1 := by rw [HC.out]; rfl
    have t2 : x.tmod 6 = 1 := HC.out
    clear HC
    go_wp2_with fail
    obtain ⟨hb0, hb1, hlt, hs, hW⟩ := pair_after u2 (.cells #[.int .u32 1, .int .u32 2, .int .u32 16, .int .u32 65537, .int .u32 31, .int .u32 0, .int .u32 61, .int .u32 0, .int .u32 89, .int .u32 0, .int .u32 127, .int .u32 0] 48) 16 65537 48
    generalize (u2.alloc (.cells #[.int .u32 1, .int .u32 2, .int .u32 16, .int .u32 65537, .int .u32 31, .int .u32 0, .int .u32 61, .int .u32 0, .int .u32 89, .int .u32 0, .int .u32 127, .int .u32 0] 48)).alloc (.cells #[.int .u32 16, .int .u32 65537] 48) = W3 at *
    rw [← hs]
    have hbs := sl_new W3 [65537] #[.int .u32 65537] rfl 1 1 rfl (by decide)
    refine (r1make_any _ [65537] _ hbs.raw (fun y hy => by rw [List.mem_singleton] at hy; subst hy; decide) (by decide)).mono ?_
    rintro e u3 ⟨v8, rfl, n8, hk3⟩
    replace hk3 := Fol.trans (Fol.new W3 (.cells #[.int .u32 65537] 43)) hk3
    replace hb0 := (hk3.cell (p := ⟨u2.heap.size + 1, 0, none⟩) hlt).trans hb0
    replace hb1 := (hk3.cell (p := ⟨u2.heap.size + 1, 1, none⟩) hlt).trans hb1
    replace hk3 := Fol.trans hW hk3
    have HF3 := Lib.hid (Fol.trans HF.out hk3)
    have HA3 := Lib.hid (HAN.out.fol hk3)
    have hv : val [65537] = 65537 := by decide
    rw [hv] at n8
    clear hv hk3 HF HAN hW hs hbs hlt
    have HP3 : Hid (NatV u3 v8 65537) := Lib.hid n8
    clear n8
    have HFP := Lib.hid fp_65537
    have HLP : Hid ((dig 65537).length ≤ 4) := Lib.hid (dig_length_le (by decide))
    generalize 65537 = P at HP3 HFP HLP
    have HLR : Hid ((dig (a % P)).length ≤ 4) := Lib.hid (len_le (Nat.le_of_lt (Nat.mod_lt _ (by have := HFP.out.one; omega))) HLP.out)
    go_wp2_with fail
    refine (pow_any _ _ _ a P P u3 HA3.out HP3.out HP3.out (by have := HLA.out; omega) (by have := HLP.out; omega) (by have := HLP.out; omega) (by have := HFP.out.one; omega)).mono ?_
    rintro e u6 ⟨v11, rfl, n11, hk⟩
    rw [HFP.out.same] at n11
    have HF6 := Lib.hid (Fol.trans HF3.out hk)
    have HA6 := Lib.hid (HA3.out.fol hk)
    have HP6 := Lib.hid (HP3.out.fol hk)
    have HR6 := Lib.hid n11
    clear hk n11 HF3 HA3 HP3
    go_wp2_with fail
    refine (r4div_any _ _ a P u6 HA6.out HP6.out (by have := HLA.out; omega) (by have := HLP.out; omega) (by have := HFP.out.one; omega)).mono ?_
    rintro e u7 ⟨vq, vr, rfl, _, nr, hk⟩
    obtain ⟨oR, cR, rfl, _, _⟩ := nr.slice
    have HF7 := Lib.hid (Fol.trans HF6.out hk)
    have HA7 := Lib.hid (HA6.out.fol hk)
    have HP7 := Lib.hid (HP6.out.fol hk)
    have HR7 := Lib.hid (HR6.out.fol hk)
    have HS7 := Lib.hid nr
    clear hk nr HF6 HA6 HP6 HR6
    obtain ⟨lr, hlr⟩ : ∃ l, (dig (a % P)).length = l := ⟨_, rfl⟩
    have HZ : Hid (lr = 0 ↔ a % P = 0) := Lib.hid (by rw [← hlr]; exact dig_length_zero)
    have HLL := Lib.hid hlr
    rw [hlr] at HS7 ⊢
    clear hlr
    go_wp2_with fail
    refine (HSB.out _ _ (a % P) (a % P) u7 HR7.out HS7.out (by have := HLR.out; omega) (by have := HLR.out; omega)).mono ?_
    rintro e u8 ⟨rfl, hk⟩
    rw [decide_eq_true rfl]
    have HF8 := Lib.hid (Fol.trans HF7.out hk)
    have HA8 := Lib.hid (HA7.out.fol hk)
    have HP8 := Lib.hid (HP7.out.fol hk)
    clear hk HF7 HA7 HP7 HR7 HS7
    by_cases hz : lr = 0
    · subst hz
      go_wp2
      go_ret
      exact ⟨rfl, HF8.out⟩
    · have hlz : ((lr : Int) == 0) = false := by rw [beq_eq_false_iff_ne]; omega
      have HNZ : Hid (a % P ≠ 0) := Lib.hid (fun h => hz (HZ.out.2 h))
      clear hz HZ
      go_wp2_with fail
      have n1 : NatV (u8.alloc (.cells #[.int .u32 2] 43)) (.slice (some ⟨u8.heap.size, 0, none⟩) 1 1) 2 := lit_new 2 u8 (by decide) (by decide)
      refine (r1sub_yes _ _ P 2 _ (HP8.out.fol (Fol.new _ _)) n1 (big_of HLP.out (by decide)) (big_of (len_one (by decide)) (by decide)) (by have := HFP.out.one; omega)).mono ?_
      rintro e u9 ⟨v16, rfl, n16, hk⟩
      replace hk := Fol.trans (Fol.new u8 (.cells #[.int .u32 2] 43)) hk
      have HF9 := Lib.hid (Fol.trans HF8.out hk)
      have HA9 := Lib.hid (HA8.out.fol hk)
      have HP9 := Lib.hid (HP8.out.fol hk)
      have HE9 := Lib.hid n16
      clear n1 hk n16 HF8 HA8 HP8
      have HG : Hid (Nat.gcd a P = 1) := Lib.hid (by have h1 := HFP.out.inv a HNZ.out; rw [Nat.mul_comm] at h1; exact gcd_inv HFP.out.one h1)
      go_wp2_with fail
      refine (inv_yes 8 _ _ a P u9 HA9.out HP9.out HLA.out (by have := HLP.out; omega) (by decide) (by have := HFP.out.one; omega) HG.out).mono ?_
      rintro e u10 ⟨vy, s, rfl, hi, hy, ny, hk⟩
      obtain ⟨hy1, hy2⟩ := inv_value hi hy (by have := HFP.out.one; omega) HG.out
      generalize (s.m.a % (P : Int)).natAbs = y at *
      have hyz := inv_only HFP.out.one hy1 (HFP.out.inv a HNZ.out) hy2 (Nat.mod_lt _ (by have := HFP.out.one; omega))
      subst hyz
      have HLY : Hid ((dig (a ^ (P - 2) % P)).length ≤ 4) := Lib.hid (len_le (Nat.le_of_lt hy2) HLP.out)
      have HF10 := Lib.hid (Fol.trans HF9.out hk)
      have HA10 := Lib.hid (HA9.out.fol hk)
      have HP10 := Lib.hid (HP9.out.fol hk)
      have HE10 := Lib.hid (HE9.out.fol hk)
      have HY10 := Lib.hid ny
      clear hk ny hi hy hy1 hy2 HF9 HA9 HP9 HE9
      go_wp2_with fail
      refine (pow_any _ _ _ a (P - 2) P u10 HA10.out HE10.out HP10.out (by have := HLA.out; omega) (by have := len_le (Nat.sub_le P 2) HLP.out; omega) (by have := HLP.out; omega) (by have := HFP.out.one; omega)).mono ?_
      rintro e u11 ⟨v20, rfl, n20, hk⟩
      have HF11 := Lib.hid (Fol.trans HF10.out hk)
      have HY11 := Lib.hid (HY10.out.fol hk)
      have HT11 := Lib.hid n20
      clear hk n20 HF10 HY10 HA10 HP10 HE10
      go_wp2_with fail
      refine (HSB.out _ _ (a ^ (P - 2) % P) (a ^ (P - 2) % P) u11 HY11.out HT11.out (by have := HLY.out; omega) (by have := HLY.out; omega)).mono ?_
      rintro e u12 ⟨rfl, hk⟩
      rw [decide_eq_true rfl]
      have HF12 := Lib.hid (Fol.trans HF11.out hk)
      clear hk
      go_wp2
      go_ret
      exact ⟨rfl, HF12.out⟩
  · have HC := Lib.hid hc2
    clear hc2 HCC
    have t1 : IntKind.i64.wrap (x.tmod 6) = 2 := by rw [HC.out]; rfl
    have t2 : x.tmod 6 = 2 := HC.out
    clear HC
    go_wp2_with fail
    obtain ⟨hb0, hb1, hlt, hs, hW⟩ := pair_after u2 (.cells #[.int .u32 1, .int .u32 2, .int .u32 16, .int .u32 65537, .int .u32 31, .int .u32 0, .int .u32 61, .int .u32 0, .int .u32 89, .int .u32 0, .int .u32 127, .int .u32 0] 48) 31 0 48
    generalize (u2.alloc (.cells #[.int .u32 1, .int .u32 2, .int .u32 16, .int .u32 65537, .int .u32 31, .int .u32 0, .int .u32 61, .int .u32 0, .int .u32 89, .int .u32 0, .int .u32 127, .int .u32 0] 48)).alloc (.cells #[.int .u32 31, .int .u32 0] 48) = W3 at *
    rw [← hs]
    have hbs := sl_new W3 [0] #[.int .u32 0] rfl 1 1 rfl (by decide)
    refine (r1make_any _ [0] _ hbs.raw (fun y hy => by rw [List.mem_singleton] at hy; subst hy; decide) (by decide)).mono ?_
    rintro e u3 ⟨v8, rfl, n8, hk3⟩
    replace hk3 := Fol.trans (Fol.new W3 (.cells #[.int .u32 0] 43)) hk3
    replace hb0 := (hk3.cell (p := ⟨u2.heap.size + 1, 0, none⟩) hlt).trans hb0
    replace hb1 := (hk3.cell (p := ⟨u2.heap.size + 1, 1, none⟩) hlt).trans hb1
    replace hk3 := Fol.trans hW hk3
    have HF3 := Lib.hid (Fol.trans HF.out hk3)
    have HA3 := Lib.hid (HAN.out.fol hk3)
    have hv : val [0] = 0 := by decide
    rw [hv] at n8
    clear hv hk3 HF HAN hW hs hbs hlt
    clear n8
    have hba := ((Fol.new u3 (.cells #[.int .u32 1] 43)).cell (World.block_lt_of_cell? _ _ hb0)).trans hb0
    go_wp2_with fail
    have n1 : NatV (u3.alloc (.cells #[.int .u32 1] 43)) (.slice (some ⟨u3.heap.size, 0, none⟩) 1 1) 1 := lit_new 1 u3 (by decide) (by decide)
    have hsh : Calls Tryz.prog 38 #[.slice (some ⟨u3.heap.size, 0, none⟩) 1 1, .int .i64 31] (u3.alloc (.cells #[.int .u32 1] 43)) (RNat (u3.alloc (.cells #[.int .u32 1] 43)) (1 * 2 ^ 31)) := r1shl_any _ 1 31 _ n1 (big_of (len_one (by decide)) (by decide)) (by decide)
    refine hsh.mono ?_
    rintro e u4 ⟨v4, rfl, n4, hk4⟩
    replace hk4 := Fol.trans (Fol.new u3 (.cells #[.int .u32 1] 43)) hk4
    clear n1
    go_wp2_with fail
    have n1 : NatV (u4.alloc (.cells #[.int .u32 1] 43)) (.slice (some ⟨u4.heap.size, 0, none⟩) 1 1) 1 := lit_new 1 u4 (by decide) (by decide)
    refine (r1sub_yes _ _ (1 * 2 ^ 31) 1 _ (n4.fol (Fol.new _ _)) n1 (big_of (dig_length_le (k := 4) (by decide)) (by decide)) (big_of (len_one (by decide)) (by decide)) (by decide)).mono ?_
    rintro e u5 ⟨v9, rfl, n9, hk5⟩
    replace hk5 := Fol.trans hk4 (Fol.trans (Fol.new u4 (.cells #[.int .u32 1] 43)) hk5)
    have HF5 := Lib.hid (Fol.trans HF3.out hk5)
    have HA5 := Lib.hid (HA3.out.fol hk5)
    have HP5 : Hid (NatV u5 v9 2147483647) := Lib.hid n9
    clear n1 n4 n9 hk4 hk5 HF3 HA3 hb0 hb1 hba
    have HFP := Lib.hid fp_31
    have HLP : Hid ((dig 2147483647).length ≤ 4) := Lib.hid (dig_length_le (by decide))
    generalize 2147483647 = P at HP5 HFP HLP
    have HLR : Hid ((dig (a % P)).length ≤ 4) := Lib.hid (len_le (Nat.le_of_lt (Nat.mod_lt _ (by have := HFP.out.one; omega))) HLP.out)
    go_wp2_with fail
    refine (pow_any _ _ _ a P P u5 HA5.out HP5.out HP5.out (by have := HLA.out; omega) (by have := HLP.out; omega) (by have := HLP.out; omega) (by have := HFP.out.one; omega)).mono ?_
    rintro e u6 ⟨v11, rfl, n11, hk⟩
    rw [HFP.out.same] at n11
    have HF6 := Lib.hid (Fol.trans HF5.out hk)
    have HA6 := Lib.hid (HA5.out.fol hk)
    have HP6 := Lib.hid (HP5.out.fol hk)
    have HR6 := Lib.hid n11
    clear hk n11 HF5 HA5 HP5
    go_wp2_with fail
    refine (r4div_any _ _ a P u6 HA6.out HP6.out (by have := HLA.out; omega) (by have := HLP.out; omega) (by have := HFP.out.one; omega)).mono ?_
    rintro e u7 ⟨vq, vr, rfl, _, nr, hk⟩
    obtain ⟨oR, cR, rfl, _, _⟩ := nr.slice
    have HF7 := Lib.hid (Fol.trans HF6.out hk)
    have HA7 := Lib.hid (HA6.out.fol hk)
    have HP7 := Lib.hid (HP6.out.fol hk)
    have HR7 := Lib.hid (HR6.out.fol hk)
    have HS7 := Lib.hid nr
    clear hk nr HF6 HA6 HP6 HR6
    obtain ⟨lr, hlr⟩ : ∃ l, (dig (a % P)).length = l := ⟨_, rfl⟩
    have HZ : Hid (lr = 0 ↔ a % P = 0) := Lib.hid (by rw [← hlr]; exact dig_length_zero)
    have HLL := Lib.hid hlr
    rw [hlr] at HS7 ⊢
    clear hlr
    go_wp2_with fail
    refine (HSB.out _ _ (a % P) (a % P) u7 HR7.out HS7.out (by have := HLR.out; omega) (by have := HLR.out; omega)).mono ?_
    rintro e u8 ⟨rfl, hk⟩
    rw [decide_eq_true rfl]
    have HF8 := Lib.hid (Fol.trans HF7.out hk)
    have HA8 := Lib.hid (HA7.out.fol hk)
    have HP8 := Lib.hid (HP7.out.fol hk)
    clear hk HF7 HA7 HP7 HR7 HS7
    by_cases hz : lr = 0
    · subst hz
      go_wp2
      go_ret
      exact ⟨rfl, HF8.out⟩
    · have hlz : ((lr : Int) == 0) = false := by rw [beq_eq_false_iff_ne]; omega
      have HNZ : Hid (a % P ≠ 0) := Lib.hid (fun h => hz (HZ.out.2 h))
      clear hz HZ
      go_wp2_with fail
      have n1 : NatV (u8.alloc (.cells #[.int .u32 2] 43)) (.slice (some ⟨u8.heap.size, 0, none⟩) 1 1) 2 := lit_new 2 u8 (by decide) (by decide)
      refine (r1sub_yes _ _ P 2 _ (HP8.out.fol (Fol.new _ _)) n1 (big_of HLP.out (by decide)) (big_of (len_one (by decide)) (by decide)) (by have := HFP.out.one; omega)).mono ?_
      rintro e u9 ⟨v16, rfl, n16, hk⟩
      replace hk := Fol.trans (Fol.new u8 (.cells #[.int .u32 2] 43)) hk
      have HF9 := Lib.hid (Fol.trans HF8.out hk)
      have HA9 := Lib.hid (HA8.out.fol hk)
      have HP9 := Lib.hid (HP8.out.fol hk)
      have HE9 := Lib.hid n16
      clear n1 hk n16 HF8 HA8 HP8
      have HG : Hid (Nat.gcd a P = 1) := Lib.hid (by have h1 := HFP.out.inv a HNZ.out; rw [Nat.mul_comm] at h1; exact gcd_inv HFP.out.one h1)
      go_wp2_with fail
      refine (inv_yes 8 _ _ a P u9 HA9.out HP9.out HLA.out (by have := HLP.out; omega) (by decide) (by have := HFP.out.one; omega) HG.out).mono ?_
      rintro e u10 ⟨vy, s, rfl, hi, hy, ny, hk⟩
      obtain ⟨hy1, hy2⟩ := inv_value hi hy (by have := HFP.out.one; omega) HG.out
      generalize (s.m.a % (P : Int)).natAbs = y at *
      have hyz := inv_only HFP.out.one hy1 (HFP.out.inv a HNZ.out) hy2 (Nat.mod_lt _ (by have := HFP.out.one; omega))
      subst hyz
      have HLY : Hid ((dig (a ^ (P - 2) % P)).length ≤ 4) := Lib.hid (len_le (Nat.le_of_lt hy2) HLP.out)
      have HF10 := Lib.hid (Fol.trans HF9.out hk)
      have HA10 := Lib.hid (HA9.out.fol hk)
      have HP10 := Lib.hid (HP9.out.fol hk)
      have HE10 := Lib.hid (HE9.out.fol hk)
      have HY10 := Lib.hid ny
      clear hk ny hi hy hy1 hy2 HF9 HA9 HP9 HE9
      go_wp2_with fail
      refine (pow_any _ _ _ a (P - 2) P u10 HA10.out HE10.out HP10.out (by have := HLA.out; omega) (by have := len_le (Nat.sub_le P 2) HLP.out; omega) (by have := HLP.out; omega) (by have := HFP.out.one; omega)).mono ?_
      rintro e u11 ⟨v20, rfl, n20, hk⟩
      have HF11 := Lib.hid (Fol.trans HF10.out hk)
      have HY11 := Lib.hid (HY10.out.fol hk)
      have HT11 := Lib.hid n20
      clear hk n20 HF10 HY10 HA10 HP10 HE10
      go_wp2_with fail
      refine (HSB.out _ _ (a ^ (P - 2) % P) (a ^ (P - 2) % P) u11 HY11.out HT11.out (by have := HLY.out; omega) (by have := HLY.out; omega)).mono ?_
      rintro e u12 ⟨rfl, hk⟩
      rw [decide_eq_true rfl]
      have HF12 := Lib.hid (Fol.trans HF11.out hk)
      clear hk
      go_wp2
      go_ret
      exact ⟨rfl, HF12.out⟩
  · have HC := Lib.hid hc3
    clear hc3 HCC
    have t1 : IntKind.i64.wrap (x.tmod 6) = 3 := by rw [HC.out]; rfl
    have t2 : x.tmod 6 = 3 := HC.out
    clear HC
    go_wp2_with fail
    obtain ⟨hb0, hb1, hlt, hs, hW⟩ := pair_after u2 (.cells #[.int .u32 1, .int .u32 2, .int .u32 16, .int .u32 65537, .int .u32 31, .int .u32 0, .int .u32 61, .int .u32 0, .int .u32 89, .int .u32 0, .int .u32 127, .int .u32 0] 48) 61 0 48
    generalize (u2.alloc (.cells #[.int .u32 1, .int .u32 2, .int .u32 16, .int .u32 65537, .int .u32 31, .int .u32 0, .int .u32 61, .int .u32 0, .int .u32 89, .int .u32 0, .int .u32 127, .int .u32 0] 48)).alloc (.cells #[.int .u32 61, .int .u32 0] 48) = W3 at *
    rw [← hs]
    have hbs := sl_new W3 [0] #[.int .u32 0] rfl 1 1 rfl (by decide)
    refine (r1make_any _ [0] _ hbs.raw (fun y hy => by rw [List.mem_singleton] at hy; subst hy; decide) (by decide)).mono ?_
    rintro e u3 ⟨v8, rfl, n8, hk3⟩
    replace hk3 := Fol.trans (Fol.new W3 (.cells #[.int .u32 0] 43)) hk3
    replace hb0 := (hk3.cell (p := ⟨u2.heap.size + 1, 0, none⟩) hlt).trans hb0
    replace hb1 := (hk3.cell (p := ⟨u2.heap.size + 1, 1, none⟩) hlt).trans hb1
    replace hk3 := Fol.trans hW hk3
    have HF3 := Lib.hid (Fol.trans HF.out hk3)
    have HA3 := Lib.hid (HAN.out.fol hk3)
    have hv : val [0] = 0 := by decide
    rw [hv] at n8
    clear hv hk3 HF HAN hW hs hbs hlt
    clear n8
    have hba := ((Fol.new u3 (.cells #[.int .u32 1] 43)).cell (World.block_lt_of_cell? _ _ hb0)).trans hb0
    go_wp2_with fail
    have n1 : NatV (u3.alloc (.cells #[.int .u32 1] 43)) (.slice (some ⟨u3.heap.size, 0, none⟩) 1 1) 1 := lit_new 1 u3 (by decide) (by decide)
    have hsh : Calls Tryz.prog 38 #[.slice (some ⟨u3.heap.size, 0, none⟩) 1 1, .int .i64 61] (u3.alloc (.cells #[.int .u32 1] 43)) (RNat (u3.alloc (.cells #[.int .u32 1] 43)) (1 * 2 ^ 61)) := r1shl_any _ 1 61 _ n1 (big_of (len_one (by decide)) (by decide)) (by decide)
    refine hsh.mono ?_
    rintro e u4 ⟨v4, rfl, n4, hk4⟩
    replace hk4 := Fol.trans (Fol.new u3 (.cells #[.int .u32 1] 43)) hk4
    clear n1
    go_wp2_with fail
    have n1 : NatV (u4.alloc (.cells #[.int .u32 1] 43)) (.slice (some ⟨u4.heap.size, 0, none⟩) 1 1) 1 := lit_new 1 u4 (by decide) (by decide)
    refine (r1sub_yes _ _ (1 * 2 ^ 61) 1 _ (n4.fol (Fol.new _ _)) n1 (big_of (dig_length_le (k := 4) (by decide)) (by decide)) (big_of (len_one (by decide)) (by decide)) (by decide)).mono ?_
    rintro e u5 ⟨v9, rfl, n9, hk5⟩
    replace hk5 := Fol.trans hk4 (Fol.trans (Fol.new u4 (.cells #[.int .u32 1] 43)) hk5)
    have HF5 := Lib.hid (Fol.trans HF3.out hk5)
    have HA5 := Lib.hid (HA3.out.fol hk5)
    have HP5 : Hid (NatV u5 v9 2305843009213693951) := Lib.hid n9
    clear n1 n4 n9 hk4 hk5 HF3 HA3 hb0 hb1 hba
    have HFP := Lib.hid fp_61
    have HLP : Hid ((dig 2305843009213693951).length ≤ 4) := Lib.hid (dig_length_le (by decide))
    generalize 2305843009213693951 = P at HP5 HFP HLP
    have HLR : Hid ((dig (a % P)).length ≤ 4) := Lib.hid (len_le (Nat.le_of_lt (Nat.mod_lt _ (by have := HFP.out.one; omega))) HLP.out)
    go_wp2_with fail
    refine (pow_any _ _ _ a P P u5 HA5.out HP5.out HP5.out (by have := HLA.out; omega) (by have := HLP.out; omega) (by have := HLP.out; omega) (by have := HFP.out.one; omega)).mono ?_
    rintro e u6 ⟨v11, rfl, n11, hk⟩
    rw [HFP.out.same] at n11
    have HF6 := Lib.hid (Fol.trans HF5.out hk)
    have HA6 := Lib.hid (HA5.out.fol hk)
    have HP6 := Lib.hid (HP5.out.fol hk)
    have HR6 := Lib.hid n11
    clear hk n11 HF5 HA5 HP5
    go_wp2_with fail
    refine (r4div_any _ _ a P u6 HA6.out HP6.out (by have := HLA.out; omega) (by have := HLP.out; omega) (by have := HFP.out.one; omega)).mono ?_
    rintro e u7 ⟨vq, vr, rfl, _, nr, hk⟩
    obtain ⟨oR, cR, rfl, _, _⟩ := nr.slice
    have HF7 := Lib.hid (Fol.trans HF6.out hk)
    have HA7 := Lib.hid (HA6.out.fol hk)
    have HP7 := Lib.hid (HP6.out.fol hk)
    have HR7 := Lib.hid (HR6.out.fol hk)
    have HS7 := Lib.hid nr
    clear hk nr HF6 HA6 HP6 HR6
    obtain ⟨lr, hlr⟩ : ∃ l, (dig (a % P)).length = l := ⟨_, rfl⟩
    have HZ : Hid (lr = 0 ↔ a % P = 0) := Lib.hid (by rw [← hlr]; exact dig_length_zero)
    have HLL := Lib.hid hlr
    rw [hlr] at HS7 ⊢
    clear hlr
    go_wp2_with fail
    refine (HSB.out _ _ (a % P) (a % P) u7 HR7.out HS7.out (by have := HLR.out; omega) (by have := HLR.out; omega)).mono ?_
    rintro e u8 ⟨rfl, hk⟩
    rw [decide_eq_true rfl]
    have HF8 := Lib.hid (Fol.trans HF7.out hk)
    have HA8 := Lib.hid (HA7.out.fol hk)
    have HP8 := Lib.hid (HP7.out.fol hk)
    clear hk HF7 HA7 HP7 HR7 HS7
    by_cases hz : lr = 0
    · subst hz
      go_wp2
      go_ret
      exact ⟨rfl, HF8.out⟩
    · have hlz : ((lr : Int) == 0) = false := by rw [beq_eq_false_iff_ne]; omega
      have HNZ : Hid (a % P ≠ 0) := Lib.hid (fun h => hz (HZ.out.2 h))
      clear hz HZ
      go_wp2_with fail
      have n1 : NatV (u8.alloc (.cells #[.int .u32 2] 43)) (.slice (some ⟨u8.heap.size, 0, none⟩) 1 1) 2 := lit_new 2 u8 (by decide) (by decide)
      refine (r1sub_yes _ _ P 2 _ (HP8.out.fol (Fol.new _ _)) n1 (big_of HLP.out (by decide)) (big_of (len_one (by decide)) (by decide)) (by have := HFP.out.one; omega)).mono ?_
      rintro e u9 ⟨v16, rfl, n16, hk⟩
      replace hk := Fol.trans (Fol.new u8 (.cells #[.int .u32 2] 43)) hk
      have HF9 := Lib.hid (Fol.trans HF8.out hk)
      have HA9 := Lib.hid (HA8.out.fol hk)
      have HP9 := Lib.hid (HP8.out.fol hk)
      have HE9 := Lib.hid n16
      clear n1 hk n16 HF8 HA8 HP8
      have HG : Hid (Nat.gcd a P = 1) := Lib.hid (by have h1 := HFP.out.inv a HNZ.out; rw [Nat.mul_comm] at h1; exact gcd_inv HFP.out.one h1)
      go_wp2_with fail
      refine (inv_yes 8 _ _ a P u9 HA9.out HP9.out HLA.out (by have := HLP.out; omega) (by decide) (by have := HFP.out.one; omega) HG.out).mono ?_
      rintro e u10 ⟨vy, s, rfl, hi, hy, ny, hk⟩
      obtain ⟨hy1, hy2⟩ := inv_value hi hy (by have := HFP.out.one; omega) HG.out
      generalize (s.m.a % (P : Int)).natAbs = y at *
      have hyz := inv_only HFP.out.one hy1 (HFP.out.inv a HNZ.out) hy2 (Nat.mod_lt _ (by have := HFP.out.one; omega))
      subst hyz
      have HLY : Hid ((dig (a ^ (P - 2) % P)).length ≤ 4) := Lib.hid (len_le (Nat.le_of_lt hy2) HLP.out)
      have HF10 := Lib.hid (Fol.trans HF9.out hk)
      have HA10 := Lib.hid (HA9.out.fol hk)
      have HP10 := Lib.hid (HP9.out.fol hk)
      have HE10 := Lib.hid (HE9.out.fol hk)
      have HY10 := Lib.hid ny
      clear hk ny hi hy hy1 hy2 HF9 HA9 HP9 HE9
      go_wp2_with fail
      refine (pow_any _ _ _ a (P - 2) P u10 HA10.out HE10.out HP10.out (by have := HLA.out; omega) (by have := len_le (Nat.sub_le P 2) HLP.out; omega) (by have := HLP.out; omega) (by have := HFP.out.one; omega)).mono ?_
      rintro e u11 ⟨v20, rfl, n20, hk⟩
      have HF11 := Lib.hid (Fol.trans HF10.out hk)
      have HY11 := Lib.hid (HY10.out.fol hk)
      have HT11 := Lib.hid n20
      clear hk n20 HF10 HY10 HA10 HP10 HE10
      go_wp2_with fail
      refine (HSB.out _ _ (a ^ (P - 2) % P) (a ^ (P - 2) % P) u11 HY11.out HT11.out (by have := HLY.out; omega) (by have := HLY.out; omega)).mono ?_
      rintro e u12 ⟨rfl, hk⟩
      rw [decide_eq_true rfl]
      have HF12 := Lib.hid (Fol.trans HF11.out hk)
      clear hk
      go_wp2
      go_ret
      exact ⟨rfl, HF12.out⟩
  · have HC := Lib.hid hc4
    clear hc4 HCC
    have t1 : IntKind.i64.wrap (x.tmod 6) = 4 := by rw [HC.out]; rfl
    have t2 : x.tmod 6 = 4 := HC.out
    clear HC
    go_wp2_with fail
    obtain ⟨hb0, hb1, hlt, hs, hW⟩ := pair_after u2 (.cells #[.int .u32 1, .int .u32 2, .int .u32 16, .int .u32 65537, .int .u32 31, .int .u32 0, .int .u32 61, .int .u32 0, .int .u32 89, .int .u32 0, .int .u32 127, .int .u32 0] 48) 89 0 48
    generalize (u2.alloc (.cells #[.int .u32 1, .int .u32 2, .int .u32 16, .int .u32 65537, .int .u32 31, .int .u32 0, .int .u32 61, .int .u32 0, .int .u32 89, .int .u32 0, .int .u32 127, .int .u32 0] 48)).alloc (.cells #[.int .u32 89, .int .u32 0] 48) = W3 at *
    rw [← hs]
    have hbs := sl_new W3 [0] #[.int .u32 0] rfl 1 1 rfl (by decide)
    refine (r1make_any _ [0] _ hbs.raw (fun y hy => by rw [List.mem_singleton] at hy; subst hy; decide) (by decide)).mono ?_
    rintro e u3 ⟨v8, rfl, n8, hk3⟩
    replace hk3 := Fol.trans (Fol.new W3 (.cells #[.int .u32 0] 43)) hk3
    replace hb0 := (hk3.cell (p := ⟨u2.heap.size + 1, 0, none⟩) hlt).trans hb0
    replace hb1 := (hk3.cell (p := ⟨u2.heap.size + 1, 1, none⟩) hlt).trans hb1
    replace hk3 := Fol.trans hW hk3
    have HF3 := Lib.hid (Fol.trans HF.out hk3)
    have HA3 := Lib.hid (HAN.out.fol hk3)
    have hv : val [0] = 0 := by decide
    rw [hv] at n8
    clear hv hk3 HF HAN hW hs hbs hlt
    clear n8
    have hba := ((Fol.new u3 (.cells #[.int .u32 1] 43)).cell (World.block_lt_of_cell? _ _ hb0)).trans hb0
    go_wp2_with fail
    have n1 : NatV (u3.alloc (.cells #[.int .u32 1] 43)) (.slice (some ⟨u3.heap.size, 0, none⟩) 1 1) 1 := lit_new 1 u3 (by decide) (by decide)
    have hsh : Calls Tryz.prog 38 #[.slice (some ⟨u3.heap.size, 0, none⟩) 1 1, .int .i64 89] (u3.alloc (.cells #[.int .u32 1] 43)) (RNat (u3.alloc (.cells #[.int .u32 1] 43)) (1 * 2 ^ 89)) := r1shl_any _ 1 89 _ n1 (big_of (len_one (by decide)) (by decide)) (by decide)
    refine hsh.mono ?_
    rintro e u4 ⟨v4, rfl, n4, hk4⟩
    replace hk4 := Fol.trans (Fol.new u3 (.cells #[.int .u32 1] 43)) hk4
    clear n1
    go_wp2_with fail
    have n1 : NatV (u4.alloc (.cells #[.int .u32 1] 43)) (.slice (some ⟨u4.heap.size, 0, none⟩) 1 1) 1 := lit_new 1 u4 (by decide) (by decide)
    refine (r1sub_yes _ _ (1 * 2 ^ 89) 1 _ (n4.fol (Fol.new _ _)) n1 (big_of (dig_length_le (k := 4) (by decide)) (by decide)) (big_of (len_one (by decide)) (by decide)) (by decide)).mono ?_
    rintro e u5 ⟨v9, rfl, n9, hk5⟩
    replace hk5 := Fol.trans hk4 (Fol.trans (Fol.new u4 (.cells #[.int .u32 1] 43)) hk5)
    have HF5 := Lib.hid (Fol.trans HF3.out hk5)
    have HA5 := Lib.hid (HA3.out.fol hk5)
    have HP5 : Hid (NatV u5 v9 618970019642690137449562111) := Lib.hid n9
    clear n1 n4 n9 hk4 hk5 HF3 HA3 hb0 hb1 hba
    have HFP := Lib.hid fp_89
    have HLP : Hid ((dig 618970019642690137449562111).length ≤ 4) := Lib.hid (dig_length_le (by decide))
    generalize 618970019642690137449562111 = P at HP5 HFP HLP
    have HLR : Hid ((dig (a % P)).length ≤ 4) := Lib.hid (len_le (Nat.le_of_lt (Nat.mod_lt _ (by have := HFP.out.one; omega))) HLP.out)
    go_wp2_with fail
    refine (pow_any _ _ _ a P P u5 HA5.out HP5.out HP5.out (by have := HLA.out; omega) (by have := HLP.out; omega) (by have := HLP.out; omega) (by have := HFP.out.one; omega)).mono ?_
    rintro e u6 ⟨v11, rfl, n11, hk⟩
    rw [HFP.out.same] at n11
    have HF6 := Lib.hid (Fol.trans HF5.out hk)
    have HA6 := Lib.hid (HA5.out.fol hk)
    have HP6 := Lib.hid (HP5.out.fol hk)
    have HR6 := Lib.hid n11
    clear hk n11 HF5 HA5 HP5
    go_wp2_with fail
    refine (r4div_any _ _ a P u6 HA6.out HP6.out (by have := HLA.out; omega) (by have := HLP.out; omega) (by have := HFP.out.one; omega)).mono ?_
    rintro e u7 ⟨vq, vr, rfl, _, nr, hk⟩
    obtain ⟨oR, cR, rfl, _, _⟩ := nr.slice
    have HF7 := Lib.hid (Fol.trans HF6.out hk)
    have HA7 := Lib.hid (HA6.out.fol hk)
    have HP7 := Lib.hid (HP6.out.fol hk)
    have HR7 := Lib.hid (HR6.out.fol hk)
    have HS7 := Lib.hid nr
    clear hk nr HF6 HA6 HP6 HR6
    obtain ⟨lr, hlr⟩ : ∃ l, (dig (a % P)).length = l := ⟨_, rfl⟩
    have HZ : Hid (lr = 0 ↔ a % P = 0) := Lib.hid (by rw [← hlr]; exact dig_length_zero)
    have HLL := Lib.hid hlr
    rw [hlr] at HS7 ⊢
    clear hlr
    go_wp2_with fail
    refine (HSB.out _ _ (a % P) (a % P) u7 HR7.out HS7.out (by have := HLR.out; omega) (by have := HLR.out; omega)).mono ?_
    rintro e u8 ⟨rfl, hk⟩
    rw [decide_eq_true rfl]
    have HF8 := Lib.hid (Fol.trans HF7.out hk)
    have HA8 := Lib.hid (HA7.out.fol hk)
    have HP8 := Lib.hid (HP7.out.fol hk)
    clear hk HF7 HA7 HP7 HR7 HS7
    by_cases hz : lr = 0
    · subst hz
      go_wp2
      go_ret
      exact ⟨rfl, HF8.out⟩
    · have hlz : ((lr : Int) == 0) = false := by rw [beq_eq_false_iff_ne]; omega
      have HNZ : Hid (a % P ≠ 0) := Lib.hid (fun h => hz (HZ.out.2 h))
      clear hz HZ
      go_wp2_with fail
      have n1 : NatV (u8.alloc (.cells #[.int .u32 2] 43)) (.slice (some ⟨u8.heap.size, 0, none⟩) 1 1) 2 := lit_new 2 u8 (by decide) (by decide)
      refine (r1sub_yes _ _ P 2 _ (HP8.out.fol (Fol.new _ _)) n1 (big_of HLP.out (by decide)) (big_of (len_one (by decide)) (by decide)) (by have := HFP.out.one; omega)).mono ?_
      rintro e u9 ⟨v16, rfl, n16, hk⟩
      replace hk := Fol.trans (Fol.new u8 (.cells #[.int .u32 2] 43)) hk
      have HF9 := Lib.hid (Fol.trans HF8.out hk)
      have HA9 := Lib.hid (HA8.out.fol hk)
      have HP9 := Lib.hid (HP8.out.fol hk)
      have HE9 := Lib.hid n16
      clear n1 hk n16 HF8 HA8 HP8
      have HG : Hid (Nat.gcd a P = 1) := Lib.hid (by have h1 := HFP.out.inv a HNZ.out; rw [Nat.mul_comm] at h1; exact gcd_inv HFP.out.one h1)
      go_wp2_with fail
      refine (inv_yes 8 _ _ a P u9 HA9.out HP9.out HLA.out (by have := HLP.out; omega) (by decide) (by have := HFP.out.one; omega) HG.out).mono ?_
      rintro e u10 ⟨vy, s, rfl, hi, hy, ny, hk⟩
      obtain ⟨hy1, hy2⟩ := inv_value hi hy (by have := HFP.out.one; omega) HG.out
      generalize (s.m.a % (P : Int)).natAbs = y at *
      have hyz := inv_only HFP.out.one hy1 (HFP.out.inv a HNZ.out) hy2 (Nat.mod_lt _ (by have := HFP.out.one; omega))
      subst hyz
      have HLY : Hid ((dig (a ^ (P - 2) % P)).length ≤ 4) := Lib.hid (len_le (Nat.le_of_lt hy2) HLP.out)
      have HF10 := Lib.hid (Fol.trans HF9.out hk)
      have HA10 := Lib.hid (HA9.out.fol hk)
      have HP10 := Lib.hid (HP9.out.fol hk)
      have HE10 := Lib.hid (HE9.out.fol hk)
      have HY10 := Lib.hid ny
      clear hk ny hi hy hy1 hy2 HF9 HA9 HP9 HE9
      go_wp2_with fail
      refine (pow_any _ _ _ a (P - 2) P u10 HA10.out HE10.out HP10.out (by have := HLA.out; omega) (by have := len_le (Nat.sub_le P 2) HLP.out; omega) (by have := HLP.out; omega) (by have := HFP.out.one; omega)).mono ?_
      rintro e u11 ⟨v20, rfl, n20, hk⟩
      have HF11 := Lib.hid (Fol.trans HF10.out hk)
      have HY11 := Lib.hid (HY10.out.fol hk)
      have HT11 := Lib.hid n20
      clear hk n20 HF10 HY10 HA10 HP10 HE10
      go_wp2_with fail
      refine (HSB.out _ _ (a ^ (P - 2) % P) (a ^ (P - 2) % P) u11 HY11.out HT11.out (by have := HLY.out; omega) (by have := HLY.out; omega)).mono ?_
      rintro e u12 ⟨rfl, hk⟩
      rw [decide_eq_true rfl]
      have HF12 := Lib.hid (Fol.trans HF11.out hk)
      clear hk
      go_wp2
      go_ret
      exact ⟨rfl, HF12.out⟩
  · have HC := Lib.hid hc5
    clear hc5 HCC
    have t1 : IntKind.i64.wrap (x.tmod 6) = 5 := by rw [HC.out]; rfl
    have t2 : x.tmod 6 = 5 := HC.out
    clear HC
    go_wp2_with fail
    obtain ⟨hb0, hb1, hlt, hs, hW⟩ := pair_after u2 (.cells #[.int .u32 1, .int .u32 2, .int .u32 16, .int .u32 65537, .int .u32 31, .int .u32 0, .int .u32 61, .int .u32 0, .int .u32 89, .int .u32 0, .int .u32 127, .int .u32 0] 48) 127 0 48
    generalize (u2.alloc (.cells #[.int .u32 1, .int .u32 2, .int .u32 16, .int .u32 65537, .int .u32 31, .int .u32 0, .int .u32 61, .int .u32 0, .int .u32 89, .int .u32 0, .int .u32 127, .int .u32 0] 48)).alloc (.cells #[.int .u32 127, .int .u32 0] 48) = W3 at *
    rw [← hs]
    have hbs := sl_new W3 [0] #[.int .u32 0] rfl 1 1 rfl (by decide)
    refine (r1make_any _ [0] _ hbs.raw (fun y hy => by rw [List.mem_singleton] at hy; subst hy; decide) (by decide)).mono ?_
    rintro e u3 ⟨v8, rfl, n8, hk3⟩
    replace hk3 := Fol.trans (Fol.new W3 (.cells #[.int .u32 0] 43)) hk3
    replace hb0 := (hk3.cell (p := ⟨u2.heap.size + 1, 0, none⟩) hlt).trans hb0
    replace hb1 := (hk3.cell (p := ⟨u2.heap.size + 1, 1, none⟩) hlt).trans hb1
    replace hk3 := Fol.trans hW hk3
    have HF3 := Lib.hid (Fol.trans HF.out hk3)
    have HA3 := Lib.hid (HAN.out.fol hk3)
    have hv : val [0] = 0 := by decide
    rw [hv] at n8
    clear hv hk3 HF HAN hW hs hbs hlt
    clear n8
    have hba := ((Fol.new u3 (.cells #[.int .u32 1] 43)).cell (World.block_lt_of_cell? _ _ hb0)).trans hb0
    go_wp2_with fail
    have n1 : NatV (u3.alloc (.cells #[.int .u32 1] 43)) (.slice (some ⟨u3.heap.size, 0, none⟩) 1 1) 1 := lit_new 1 u3 (by decide) (by decide)
    have hsh : Calls Tryz.prog 38 #[.slice (some ⟨u3.heap.size, 0, none⟩) 1 1, .int .i64 127] (u3.alloc (.cells #[.int .u32 1] 43)) (RNat (u3.alloc (.cells #[.int .u32 1] 43)) (1 * 2 ^ 127)) := r1shl_any _ 1 127 _ n1 (big_of (len_one (by decide)) (by decide)) (by decide)
    refine hsh.mono ?_
    rintro e u4 ⟨v4, rfl, n4, hk4⟩
    replace hk4 := Fol.trans (Fol.new u3 (.cells #[.int .u32 1] 43)) hk4
    clear n1
    go_wp2_with fail
    have n1 : NatV (u4.alloc (.cells #[.int .u32 1] 43)) (.slice (some ⟨u4.heap.size, 0, none⟩) 1 1) 1 := lit_new 1 u4 (by decide) (by decide)
    refine (r1sub_yes _ _ (1 * 2 ^ 127) 1 _ (n4.fol (Fol.new _ _)) n1 (big_of (dig_length_le (k := 4) (by decide)) (by decide)) (big_of (len_one (by decide)) (by decide)) (by decide)).mono ?_
    rintro e u5 ⟨v9, rfl, n9, hk5⟩
    replace hk5 := Fol.trans hk4 (Fol.trans (Fol.new u4 (.cells #[.int .u32 1] 43)) hk5)
    have HF5 := Lib.hid (Fol.trans HF3.out hk5)
    have HA5 := Lib.hid (HA3.out.fol hk5)
    have HP5 : Hid (NatV u5 v9 170141183460469231731687303715884105727) := Lib.hid n9
    clear n1 n4 n9 hk4 hk5 HF3 HA3 hb0 hb1 hba
    have HFP := Lib.hid fp_127
    have HLP : Hid ((dig 170141183460469231731687303715884105727).length ≤ 4) := Lib.hid (dig_length_le (by decide))
    generalize 170141183460469231731687303715884105727 = P at HP5 HFP HLP
    have HLR : Hid ((dig (a % P)).length ≤ 4) := Lib.hid (len_le (Nat.le_of_lt (Nat.mod_lt _ (by have := HFP.out.one; omega))) HLP.out)
    go_wp2_with fail
    refine (pow_any _ _ _ a P P u5 HA5.out HP5.out HP5.out (by have := HLA.out; omega) (by have := HLP.out; omega) (by have := HLP.out; omega) (by have := HFP.out.one; omega)).mono ?_
    rintro e u6 ⟨v11, rfl, n11, hk⟩
    rw [HFP.out.same] at n11
    have HF6 := Lib.hid (Fol.trans HF5.out hk)
    have HA6 := Lib.hid (HA5.out.fol hk)
    have HP6 := Lib.hid (HP5.out.fol hk)
    have HR6 := Lib.hid n11
    clear hk n11 HF5 HA5 HP5
    go_wp2_with fail
    refine (r4div_any _ _ a P u6 HA6.out HP6.out (by have := HLA.out; omega) (by have := HLP.out; omega) (by have := HFP.out.one; omega)).mono ?_
    rintro e u7 ⟨vq, vr, rfl, _, nr, hk⟩
    obtain ⟨oR, cR, rfl, _, _⟩ := nr.slice
    have HF7 := Lib.hid (Fol.trans HF6.out hk)
    have HA7 := Lib.hid (HA6.out.fol hk)
    have HP7 := Lib.hid (HP6.out.fol hk)
    have HR7 := Lib.hid (HR6.out.fol hk)
    have HS7 := Lib.hid nr
    clear hk nr HF6 HA6 HP6 HR6
    obtain ⟨lr, hlr⟩ : ∃ l, (dig (a % P)).length = l := ⟨_, rfl⟩
    have HZ : Hid (lr = 0 ↔ a % P = 0) := Lib.hid (by rw [← hlr]; exact dig_length_zero)
    have HLL := Lib.hid hlr
    rw [hlr] at HS7 ⊢
    clear hlr
    go_wp2_with fail
    refine (HSB.out _ _ (a % P) (a % P) u7 HR7.out HS7.out (by have := HLR.out; omega) (by have := HLR.out; omega)).mono ?_
    rintro e u8 ⟨rfl, hk⟩
    rw [decide_eq_true rfl]
    have HF8 := Lib.hid (Fol.trans HF7.out hk)
    have HA8 := Lib.hid (HA7.out.fol hk)
    have HP8 := Lib.hid (HP7.out.fol hk)
    clear hk HF7 HA7 HP7 HR7 HS7
    by_cases hz : lr = 0
    · subst hz
      go_wp2
      go_ret
      exact ⟨rfl, HF8.out⟩
    · have hlz : ((lr : Int) == 0) = false := by rw [beq_eq_false_iff_ne]; omega
      have HNZ : Hid (a % P ≠ 0) := Lib.hid (fun h => hz (HZ.out.2 h))
      clear hz HZ
      go_wp2_with fail
      have n1 : NatV (u8.alloc (.cells #[.int .u32 2] 43)) (.slice (some ⟨u8.heap.size, 0, none⟩) 1 1) 2 := lit_new 2 u8 (by decide) (by decide)
      refine (r1sub_yes _ _ P 2 _ (HP8.out.fol (Fol.new _ _)) n1 (big_of HLP.out (by decide)) (big_of (len_one (by decide)) (by decide)) (by have := HFP.out.one; omega)).mono ?_
      rintro e u9 ⟨v16, rfl, n16, hk⟩
      replace hk := Fol.trans (Fol.new u8 (.cells #[.int .u32 2] 43)) hk
      have HF9 := Lib.hid (Fol.trans HF8.out hk)
      have HA9 := Lib.hid (HA8.out.fol hk)
      have HP9 := Lib.hid (HP8.out.fol hk)
      have HE9 := Lib.hid n16
      clear n1 hk n16 HF8 HA8 HP8
      have HG : Hid (Nat.gcd a P = 1) := Lib.hid (by have h1 := HFP.out.inv a HNZ.out; rw [Nat.mul_comm] at h1; exact gcd_inv HFP.out.one h1)
      go_wp2_with fail
      refine (inv_yes 8 _ _ a P u9 HA9.out HP9.out HLA.out (by have := HLP.out; omega) (by decide) (by have := HFP.out.one; omega) HG.out).mono ?_
      rintro e u10 ⟨vy, s, rfl, hi, hy, ny, hk⟩
      obtain ⟨hy1, hy2⟩ := inv_value hi hy (by have := HFP.out.one; omega) HG.out
      generalize (s.m.a % (P : Int)).natAbs = y at *
      have hyz := inv_only HFP.out.one hy1 (HFP.out.inv a HNZ.out) hy2 (Nat.mod_lt _ (by have := HFP.out.one; omega))
      subst hyz
      have HLY : Hid ((dig (a ^ (P - 2) % P)).length ≤ 4) := Lib.hid (len_le (Nat.le_of_lt hy2) HLP.out)
      have HF10 := Lib.hid (Fol.trans HF9.out hk)
      have HA10 := Lib.hid (HA9.out.fol hk)
      have HP10 := Lib.hid (HP9.out.fol hk)
      have HE10 := Lib.hid (HE9.out.fol hk)
      have HY10 := Lib.hid ny
      clear hk ny hi hy hy1 hy2 HF9 HA9 HP9 HE9
      go_wp2_with fail
      refine (pow_any _ _ _ a (P - 2) P u10 HA10.out HE10.out HP10.out (by have := HLA.out; omega) (by have := len_le (Nat.sub_le P 2) HLP.out; omega) (by have := HLP.out; omega) (by have := HFP.out.one; omega)).mono ?_
      rintro e u11 ⟨v20, rfl, n20, hk⟩
      have HF11 := Lib.hid (Fol.trans HF10.out hk)
      have HY11 := Lib.hid (HY10.out.fol hk)
      have HT11 := Lib.hid n20
      clear hk n20 HF10 HY10 HA10 HP10 HE10
      go_wp2_with fail
      refine (HSB.out _ _ (a ^ (P - 2) % P) (a ^ (P - 2) % P) u11 HY11.out HT11.out (by have := HLY.out; omega) (by have := HLY.out; omega)).mono ?_
      rintro e u12 ⟨rfl, hk⟩
      rw [decide_eq_true rfl]
      have HF12 := Lib.hid (Fol.trans HF11.out hk)
      clear hk
      go_wp2
      go_ret
      exact ⟨rfl, HF12.out⟩
end Go.Proofs.YtckahcgolfnobaaGreatDoor

/- The law GcdFermat: its card. -/
namespace Go.Proofs.YtckahcgolfnobaaGreatDoor.gcdFermat
open Go.ChangeShapes Go.WideShapes Go.ChangeAt Go.RowKit

theorem law_und8 : Tryz.prog.underlying 5 = some (.int .u8) := by kernel_rfl

set_option maxRecDepth 100000 in
/-- For every argument and every world that holds them. -/
theorem contract (H : Type) (enc : TypeId × Value → H) (W : World) (base : Nat) (args : Array Value) (ds gs : List (DataW H)) (before : List MemPlace)
    (hval : ∀ (j : Nat) t v, Tryz.f9.params[j]? = some t → args[j]? = some v → Value.okWide Tryz.prog W .any base t v)
    (hW : DataW.Whole enc Tryz.prog Tryz.f9.params.toList Rows.gcdFermatSpec.vars false W args.toList ds gs before) :
    Calls Tryz.prog 9 args W fun e W' => ∃ v, e = .returned v ∧ Rows.gcdFermatSpec.post enc Tryz.prog Tryz.f9 false true false false W args v W' := by
  have hW' := hW
  obtain ⟨p, q, hA0, hV, rfl, hfz, hnd⟩ := hW
  have hA : DataW.TrodAll enc Tryz.prog W 0 (fun _ => true) true Tryz.f9.params.toList args.toList ds p := hA0
  rw [Tryz.params9] at hA hval
  obtain ⟨v0, v1, d0, d1, p0, p1, rfl, rfl, rfl, h0, h1⟩ := trodAll_two hA
  obtain ⟨rfl, rfl⟩ := trodVars_none hV
  obtain ⟨a0, len0, cap0, e0⟩ := okWide_slice law_und (hval 0 22 v0 rfl rfl)
  obtain ⟨x, rfl, rfl, rfl, wx⟩ := open_int law_und8 (hval 1 5 v1 rfl rfl) h1
  clear hA0
  simp only [List.append_nil] at hW'
  have hlt : ∀ x ∈ p0, x.block < W.heap.size := fun x hx => by simpa using hW'.lt x hx
  have k0 : ∀ (W' : World), Below W.heap.size W W' → DataW.Trod enc Tryz.prog W' 0 (fun b => decide (b < W.heap.size)) true 22 v0 d0 p0 :=
    fun W' hn => Below.trod law_laidOut (by kernel_rfl) (of_decide_eq_true (by kernel_rfl)) h0 hn (fun x hx => hlt x (hx))
  obtain ⟨l0, r0, s0⟩ := open_limbs e0 h0
  have hx : 0 ≤ x ∧ x < 256 := by
    simp only [Lit.wf, Bool.and_eq_true, decide_eq_true_eq, show IntKind.u8.min = 0 from rfl, show IntKind.u8.max = 255 from rfl] at wx
    omega
  refine (gcdFermat_walk v0 l0 x W r0 s0 hx.1 hx.2).mono fun e W' ⟨he, hg⟩ => ?_
  subst he
  exact ⟨_, rfl, _, _, _, [], p0, [], hW', trodAll_mk1 (shut_bool law_bool _), (by have h2 := trodAll_mk2 (k0 W' hg) (shut_int law_und8 wx); rw [List.append_nil] at h2; exact h2), rfl, hg.frame _, fun h => by cases h⟩

/-- A world for the witness: the settled one, the laid variable holding what the program's text lays. -/
noncomputable def laidWorld (os : Os) : World :=
  { World.holding Tryz.prog os ⟨#[], #[], []⟩ with heap := (World.holding Tryz.prog os ⟨#[], #[], []⟩).heap.modify 1 fun
      | .cells _ t frozen => .cells #[.int .u64 998244353, .int .u64 469762049, .int .u64 167772161] t frozen
      | o => o }
theorem laid_met (os : Os) : laidMet Tryz.prog Rows.gcdFermatRow.laid ((laidWorld os).forCall (fun _ _ => 0) ⟨#[], #[.slice none 0 0, .int .u8 0], []⟩).memory :=
  laidMet_of_run' 8 (by kernel_rfl) (by kernel_rfl)
theorem reads (os : Os) {H : Type} (enc : TypeId × Value → H) : ∃ places, DataW.whole enc Tryz.prog ((laidWorld os).forCall (fun _ _ => 0) ⟨#[], #[.slice none 0 0, .int .u8 0], []⟩).memory Tryz.f9.params.toList Rows.gcdFermatSpec.vars false #[Value.slice none 0 0, Value.int .u8 0].toList 8 = some ([.nil, .lit (.int .u8 0)], [], places) :=
  ⟨[], by kernel_rfl⟩

set_option maxRecDepth 100000 in
theorem lifted (os : Os) (started : os.Started) (H : Type) (enc : TypeId × Value → H) (F : Stop.Interp) :
    ReturnsInHanded {} Tryz.checked os 9 .any ((OpenSpec.ofChange Rows.gcdFermatSpec).preRow enc Tryz.prog Tryz.f9 Rows.gcdFermatRow.domain false Rows.gcdFermatRow.laid) (((OpenSpec.ofChange Rows.gcdFermatSpec).at F).post enc Tryz.prog Tryz.f9 false true false false) := by
  obtain ⟨places, hx⟩ := reads os enc
  refine returnsInHanded_of_row (C := Tryz.checked) (s := OpenSpec.ofChange Rows.gcdFermatSpec) law_own started (by kernel_rfl) Tryz.func9
    (witness_row_at (enc := enc) (C := Tryz.checked) false (laidWorld os) #[.slice none 0 0, .int .u8 0] rfl (by kernel_rfl) (by kernel_rfl) (by kernel_rfl)
      (OpenSpec.preRow_of_cond 8 hx (by kernel_rfl) (fun k hk => by cases hk) (by kernel_rfl) (laid_met os))) ?_
  intro W base args ds gs before hval hW _ _ _ _ _ _
  exact contract H enc W base args ds gs before hval hW

theorem said : Rows.GcdFermatSaid :=
  OpenClaim.holds_of_cond 9 Tryz.f9 rfl rfl rfl rfl rfl rfl rfl ⟨rfl, rfl, rfl, rfl, rfl⟩ rfl rfl rfl rfl rfl (by kernel_rfl) Tryz.func9 (by kernel_rfl)
    (of_decide_eq_true (by kernel_rfl)) (by unfold Func.isWrapper; first | (rw [if_pos (by decide +kernel)]; kernel_rfl) | (rw [if_neg (by decide +kernel)]; exact ⟨rfl, rfl⟩))
    (fun os started H enc _ F => by rw [OpenClaim.pre_eq_preRow]; exact lifted os started H enc F)

theorem plain (f : FuncId) (fn : Func) (hf : Tryz.pinned.checked.prog.funcNamed "ziggurat/zigguratlaw07.GcdFermat" = some f) (hfn : Tryz.pinned.checked.prog.funcs[f]? = some fn) :
    false = Tryz.pinned.checked.prog.looks [] ∧ ∀ (j : Nat) t, fn.params[j]? = some t → Tryz.pinned.checked.prog.wantsStandIn t = false := by
  obtain rfl : f = 9 := Option.some.inj ((show Tryz.prog.funcNamed "ziggurat/zigguratlaw07.GcdFermat" = some 9 by kernel_rfl).symm.trans hf) |>.symm
  obtain rfl : fn = Tryz.f9 := (Option.some.inj (Tryz.func9.symm.trans hfn)).symm
  refine ⟨by kernel_rfl, fun j t ht => ?_⟩
  rw [Tryz.params9] at ht
  have ht2 : t = 22 ∨ t = 5 := by simpa using Array.mem_of_getElem? ht
  rcases ht2 with rfl | rfl
  · exact (show Tryz.prog.wantsStandIn 22 = false by kernel_rfl)
  · exact (show Tryz.prog.wantsStandIn 5 = false by kernel_rfl)

/-- THE CARD. -/
theorem card : Rows.GcdFermatCardSaid :=
  Claim7.holds_tied_plain_at .later [] _ _ _ _ said (fun _ h => by cases h) (by kernel_rfl) (fun _ h => by cases h) gcdFermat_row_tie rfl ⟨rfl, rfl⟩ (by kernel_rfl) rfl plain (by kernel_rfl)
#print axioms card
end Go.Proofs.YtckahcgolfnobaaGreatDoor.gcdFermat
