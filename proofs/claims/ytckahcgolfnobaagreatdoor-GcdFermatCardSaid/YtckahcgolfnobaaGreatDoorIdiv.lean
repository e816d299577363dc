/- integer.DivMod by a natural that is not 0. -/
import Derived.Test.YtckahcgolfnobaaGreatDoorExt
namespace Go.Proofs.YtckahcgolfnobaaGreatDoor
open Go Go.RowKit

set_option maxHeartbeats 400000 in
set_option maxRecDepth 100000 in
theorem ione_any (w : World) : Calls Tryz.prog 84 #[] w (RNat w 1) := by
  go_enter Tryz.func84, Tryz.ntmps84
  go_wp2
  go_ret
  refine ⟨_, rfl, ?_, Fol.new _ _⟩
  have h1 : dig 1 = [1] := by rw [dig_pos (by decide)]; simp [dig_zero]
  unfold NatV
  rw [h1]
  exact sl_new w [1] #[.int .u32 1] rfl 1 1 rfl (by omega)

/-- Two whole numbers that lie in blocks, and a value. -/
theorem results_cct_at {fn : Func} {t p q : Tmp} (h : fn.results = #[.cell p 27, .cell q 27, .tmp t]) {tmps : Array Value} {w : World} {b c : Nat} {x y x' y' : Value} (hp : tmps.getD p undef = .pointer (some ⟨b, 0, none⟩)) (hq : tmps.getD q undef = .pointer (some ⟨c, 0, none⟩))
    (h1 : Cell2 w b x y) (h2 : Cell2 w c x' y') : (results fn tmps).run Tryz.prog w = .ok (.tuple #[.agg #[x, y], .agg #[x', y'], tmps.getD t undef]) w := by
  have e : (results fn tmps).run Tryz.prog w = ((asAddr (tmps.getD p undef)).run Tryz.prog w).andThen fun a w₁ => ((loadVar 27 a).run Tryz.prog w₁).andThen fun x w₂ => ((asAddr (tmps.getD q undef)).run Tryz.prog w₂).andThen fun b w₃ => ((loadVar 27 b).run Tryz.prog w₃).andThen fun y w₄ => .ok (.tuple #[x, y, tmps.getD t undef]) w₄ := by
    simp only [results, h]
    simp [Sem.run_bind, Result.andThen]
  rw [e, hp, hq]
  have q0 := h1.c0
  have q1 := h1.c1
  have q2 := h2.c0
  have q3 := h2.c1
  go_simp

/-- Two numbers are laid into blocks of the call's own. -/
theorem two_put {w w1 : World} {b c : Nat} {x y x' y' : Value} (h1 : Cell2 w1 b x y) (h2 : Cell2 w1 c x' y') (hne : b ≠ c) (hb : w.heap.size ≤ b) (hc : w.heap.size ≤ c) (hf : Fol w w1) (u v u' v' : Value) :
    Cell2 ((((w1.setCell ⟨b, 0, none⟩ u).setCell ⟨b, 1, none⟩ v).setCell ⟨c, 0, none⟩ u').setCell ⟨c, 1, none⟩ v') b u v ∧ Cell2 ((((w1.setCell ⟨b, 0, none⟩ u).setCell ⟨b, 1, none⟩ v).setCell ⟨c, 0, none⟩ u').setCell ⟨c, 1, none⟩ v') c u' v' ∧
    Fol w ((((w1.setCell ⟨b, 0, none⟩ u).setCell ⟨b, 1, none⟩ v).setCell ⟨c, 0, none⟩ u').setCell ⟨c, 1, none⟩ v') ∧ Keep w1 ((((w1.setCell ⟨b, 0, none⟩ u).setCell ⟨b, 1, none⟩ v).setCell ⟨c, 0, none⟩ u').setCell ⟨c, 1, none⟩ v') := by
  have P1 := h1.put hb hf u v
  have P2 := ((h2.far (i := 0) (Ne.symm hne) u).far (i := 1) (Ne.symm hne) v).put hc P1.2.1 u' v'
  exact ⟨(P1.1.far (i := 0) hne u').far (i := 1) hne v', P2.1, P2.2.1, P1.2.2.trans P2.2.2⟩

def RIDiv (w : World) (z : Int) (m : Nat) (e : Ending) (w' : World) : Prop := ∃ bq oq nq cq br or_ nr cr, e = .returned (.tuple #[.agg #[.bool bq, .slice oq nq cq], .agg #[.bool br, .slice or_ nr cr], .int .i64 0]) ∧ IntV w' (.agg #[.bool br, .slice or_ nr cr]) (z % m) ∧ Fol w w'

theorem emod_neg {z : Int} {m : Nat} (hz : z < 0) (hm : 0 < m) (hr : 0 < z.natAbs % m) : z % m = ((m - z.natAbs % m : Nat) : Int) := by
  have h1 : z = -(z.natAbs : Int) := by omega
  have h2 := Nat.div_add_mod z.natAbs m
  have h3 := Nat.mod_lt z.natAbs hm
  generalize z.natAbs % m = r at *
  generalize z.natAbs / m = q at *
  have h4 : z = (m - r : Nat) + (m : Int) * (-(q : Int) - 1) := by
    rw [h1, ← h2]
    have : ((m - r : Nat) : Int) = m - r := by omega
    rw [this]
    push_cast
    grind
  rw [h4, Int.add_mul_emod_self_left]
  exact Int.emod_eq_of_lt (by omega) (by omega)
theorem emod_neg0 {z : Int} {m : Nat} (hz : z < 0) (hr : z.natAbs % m = 0) : z % m = ((z.natAbs % m : Nat) : Int) := by
  rw [hr]
  have h1 : z = -(z.natAbs : Int) := by omega
  have h2 : (m : Int) ∣ z := by
    rw [h1]
    exact Int.dvd_neg.2 (Int.natCast_dvd_natCast.2 (Nat.dvd_of_mod_eq_zero hr))
  exact Int.emod_eq_zero_of_dvd h2
theorem emod_pos {z : Int} {m : Nat} (hz : ¬ z < 0) : z % m = ((z.natAbs % m : Nat) : Int) := by
  obtain ⟨n, rfl⟩ := Int.eq_ofNat_of_zero_le (show 0 ≤ z by omega)
  rfl

/-- The world in which integer.DivMod begins. -/
theorem four_new (w : World) (x y x' y' : Value) :
    Cell2 ((((w.alloc (.cells #[x, y] 27)).alloc (.cells #[x', y'] 27)).alloc (.cells #[.bool false, .slice none 0 0] 27)).alloc (.cells #[.bool false, .slice none 0 0] 27)) w.heap.size x y ∧
    Cell2 ((((w.alloc (.cells #[x, y] 27)).alloc (.cells #[x', y'] 27)).alloc (.cells #[.bool false, .slice none 0 0] 27)).alloc (.cells #[.bool false, .slice none 0 0] 27)) (w.heap.size + 1) x' y' ∧
    Cell2 ((((w.alloc (.cells #[x, y] 27)).alloc (.cells #[x', y'] 27)).alloc (.cells #[.bool false, .slice none 0 0] 27)).alloc (.cells #[.bool false, .slice none 0 0] 27)) (w.heap.size + 1 + 1) (.bool false) (.slice none 0 0) ∧
    Cell2 ((((w.alloc (.cells #[x, y] 27)).alloc (.cells #[x', y'] 27)).alloc (.cells #[.bool false, .slice none 0 0] 27)).alloc (.cells #[.bool false, .slice none 0 0] 27)) (w.heap.size + 1 + 1 + 1) (.bool false) (.slice none 0 0) ∧
    Fol w ((((w.alloc (.cells #[x, y] 27)).alloc (.cells #[x', y'] 27)).alloc (.cells #[.bool false, .slice none 0 0] 27)).alloc (.cells #[.bool false, .slice none 0 0] 27)) := by
  have e1 := World.size_alloc w (.cells #[x, y] 27)
  have e2 := World.size_alloc (w.alloc (.cells #[x, y] 27)) (.cells #[x', y'] 27)
  have e3 := World.size_alloc ((w.alloc (.cells #[x, y] 27)).alloc (.cells #[x', y'] 27)) (.cells #[.bool false, .slice none 0 0] 27)
  rw [e1] at e2
  rw [e2] at e3
  refine ⟨(Cell2.new w x y).fol (Fol.trans (Fol.new _ _) (fol2 _ _ _)), ?_, ?_, ?_, Fol.trans (fol2 _ _ _) (fol2 _ _ _)⟩
  · have := (Cell2.new (w.alloc (.cells #[x, y] 27)) x' y').fol (fol2 _ (.cells #[.bool false, .slice none 0 0] 27) (.cells #[.bool false, .slice none 0 0] 27))
    rwa [e1] at this
  · have := (Cell2.new ((w.alloc (.cells #[x, y] 27)).alloc (.cells #[x', y'] 27)) (.bool false) (.slice none 0 0)).fol (Fol.new _ (.cells #[.bool false, .slice none 0 0] 27))
    rwa [e2] at this
  · have := Cell2.new (((w.alloc (.cells #[x, y] 27)).alloc (.cells #[x', y'] 27)).alloc (.cells #[.bool false, .slice none 0 0] 27)) (.bool false) (.slice none 0 0)
    rwa [e3] at this

set_option maxHeartbeats 1000000 in
set_option maxRecDepth 100000 in
theorem idiv_any (v v' : Value) (z : Int) (m : Nat) (w : World) (h : IntV w v z) (h' : IntV w v' (m : Int)) (hz : (dig z.natAbs).length ≤ 1000000) (hm : (dig m).length ≤ 1000000) (hpos : 0 < m) :
    Calls Tryz.prog 53 #[v, v'] w (RIDiv w z m) := by
  obtain ⟨oa, na, ca, rfl, hv⟩ := h.parts
  obtain ⟨ob, nb, cb, rfl, hv'⟩ := h'.parts
  clear h h'
  rw [show decide ((m : Int) < 0) = false by simp]
  rw [show ((m : Int)).natAbs = m from rfl] at hv'
  obtain ⟨f0, f1, f2, f3, hf⟩ := four_new w (.bool (decide (z < 0))) (.slice oa na ca) (.bool false) (.slice ob nb cb)
  have HDV := Lib.hid (div_any _ _ z.natAbs m _ (hv.fol hf) (hv'.fol hf) (by omega) (by omega) hpos)
  have hmodlt := Nat.mod_lt z.natAbs hpos
  have lq : (dig (z.natAbs / m)).length ≤ 1000000 := len_le (Nat.div_le_self _ _) hz
  have lr : (dig (z.natAbs % m)).length ≤ 1000000 := len_le (Nat.mod_le _ _) hz
  have HMK := Lib.hid (fun (bb : Bool) v n w' (hw : NatV w' v n) (hn : (dig n).length ≤ 1000001) => imake_any bb v n w' hw (big_of hn (by omega)))
  have HADD := Lib.hid (fun v v' w' (h1 : NatV w' v (z.natAbs / m)) (h2 : NatV w' v' 1) => add_any v v' (z.natAbs / m) 1 w' h1 h2 (big_of lq (by omega)) (small_big (by omega)))
  have HSUB := Lib.hid (fun v v' w' (h1 : NatV w' v m) (h2 : NatV w' v' (z.natAbs % m)) => sub_any v v' m (z.natAbs % m) w' h1 h2 (big_of hm (by omega)) (big_of lr (by omega)))
  have hvB := hv'.fol hf
  clear hv hv'
  have F0 := Lib.hid f0
  have F1 := Lib.hid f1
  have F2 := Lib.hid f2
  have F3 := Lib.hid f3
  have HF := Lib.hid hf
  clear f0 f1 f2 f3 hf
  by_cases hneg : z < 0
  · rw [decide_eq_true hneg] at F0 HDV HF hvB F1 F2 F3 ⊢
    by_cases hr : 0 < z.natAbs % m
    · have HMOD := Lib.hid (emod_neg hneg hpos hr)
      obtain ⟨lr', hlr'⟩ : ∃ l, (dig (z.natAbs % m)).length = l := ⟨_, rfl⟩
      have hlp : 0 < lr' := by rw [← hlr']; exact dig_pos' hr
      have HL := Lib.hid hlr'
      have lq1 : (dig (z.natAbs / m + 1)).length ≤ 1000001 := len_succ lq
      have lr1 : (dig (m - z.natAbs % m)).length ≤ 1000001 := Nat.le_trans (len_le (Nat.sub_le _ _) hm) (by omega)
      clear hlr' hneg hr hmodlt hz hm lq lr
      have hn1 : ¬ w.heap.size + 1 + 1 = w.heap.size + 1 + 1 + 1 := by omega
      have hn2 : ¬ w.heap.size + 1 + 1 + 1 = w.heap.size + 1 + 1 := by omega
      go_enter Tryz.func53, Tryz.ntmps53
      go_wp2_with first
        | ((go_at_call 42; (with_reducible refine HDV.out.mono ?_)); rintro e w1 ⟨vq, vr, rfl, hq, hr1, k1⟩; obtain ⟨o3, c3, rfl, _, _⟩ := hr1.slice; rw [HL.out] at hr1 ⊢; obtain ⟨o4, n4, c4, rfl⟩ : ∃ o n c, vq = .slice o n c := (by obtain ⟨o, c, h, _⟩ := hq.slice; exact ⟨_, _, _, h⟩); have a0 := (F0.out.fol k1).c0)
        | ((go_at_call 84; (with_reducible refine (ione_any _).mono ?_)); rintro e w2 ⟨v2, rfl, h2, k2'⟩; have k2 := Fol.trans k1 k2')
        | ((go_at_call 83; (with_reducible refine (HADD.out _ _ _ (hq.fol k2') h2).mono ?_)); rintro e w3 ⟨v3, rfl, h3, k3'⟩; have k3 := Fol.trans k2 k3'; have a3 := (F1.out.fol k3).c1)
        | ((go_at_call 85; (with_reducible refine (HSUB.out _ _ _ (hvB.fol k3) ((hr1.fol k2').fol k3')).mono ?_)); rintro e w4 ⟨v4, rfl, h4, k4'⟩; have k4 := Fol.trans k3 k4'; have a4 := (F0.out.fol k4).c0; have a5 := (F1.out.fol k4).c0)
        | ((go_at_call 86; (with_reducible refine (HMK.out _ _ _ _ (h3.fol k4') lq1).mono ?_)); rintro e w5 ⟨v5, rfl, h5, k5'⟩; have k5 := Fol.trans k4 k5')
        | ((go_at_call 86; (with_reducible refine (HMK.out _ _ _ _ (h4.fol k5') lr1).mono ?_)); rintro e w6 ⟨v6, rfl, h6, k6'⟩; have k6 := Fol.trans k5 k6'; have h5 := h5.fol k6'; obtain ⟨b5, o5, n5, c5, rfl⟩ := h5.parts2; obtain ⟨b6, o6, n6, c6, rfl⟩ := h6.parts2; have q0 := (F2.out.fol k6).c0; have q1 := (F2.out.fol k6).c1; have q2 := (F2.out.fol k6).f0; have q3 := (F2.out.fol k6).f1; have q4 := (F3.out.fol k6).c0; have q5 := (F3.out.fol k6).c1; have q6 := (F3.out.fol k6).f0; have q7 := (F3.out.fol k6).f1)
      obtain ⟨g1, g2, g3, g4⟩ := two_put (w := w) (F2.out.fol k6) (F3.out.fol k6) (by omega) (by omega) (by omega) (Fol.trans HF.out k6) (.bool b5) (.slice o5 n5 c5) (.bool b6) (.slice o6 n6 c6)
      exact bodyPost_ret (v := .tuple #[.agg #[.bool b5, .slice o5 n5 c5], .agg #[.bool b6, .slice o6 n6 c6], .int .i64 0]) (Eq.trans (results_cct_at (p := 4) (q := 5) (t := 6) rfl rfl rfl g1 g2) rfl) rfl ⟨_, _, _, _, _, _, _, _, rfl, by rw [HMOD.out]; exact h6.keep g4, g3⟩
    · have HMOD := Lib.hid (emod_neg0 (m := m) hneg (by omega))
      have HL : Hid ((dig (z.natAbs % m)).length = 0) := Lib.hid (by rw [show z.natAbs % m = 0 by omega, dig_zero]; rfl)
      clear hneg hr hmodlt hz hm HADD HSUB
      have hn1 : ¬ w.heap.size + 1 + 1 = w.heap.size + 1 + 1 + 1 := by omega
      have hn2 : ¬ w.heap.size + 1 + 1 + 1 = w.heap.size + 1 + 1 := by omega
      go_enter Tryz.func53, Tryz.ntmps53
      go_wp2_with first
        | ((go_at_call 42; (with_reducible refine HDV.out.mono ?_)); rintro e w1 ⟨vq, vr, rfl, hq, hr1, k1⟩; obtain ⟨o3, c3, rfl, _, _⟩ := hr1.slice; rw [HL.out] at hr1 ⊢; obtain ⟨o4, n4, c4, rfl⟩ : ∃ o n c, vq = .slice o n c := (by obtain ⟨o, c, h, _⟩ := hq.slice; exact ⟨_, _, _, h⟩); have a0 := (F0.out.fol k1).c0; have a1 := (F1.out.fol k1).c0)
        | ((go_at_call 86; (with_reducible refine (HMK.out _ _ _ _ hq (by omega)).mono ?_)); rintro e w5 ⟨v5, rfl, h5, k5'⟩; have k5 := Fol.trans k1 k5')
        | ((go_at_call 86; (with_reducible refine (HMK.out _ _ _ _ (hr1.fol k5') (by omega)).mono ?_)); rintro e w6 ⟨v6, rfl, h6, k6'⟩; have k6 := Fol.trans k5 k6'; have h5 := h5.fol k6'; obtain ⟨b5, o5, n5, c5, rfl⟩ := h5.parts2; obtain ⟨b6, o6, n6, c6, rfl⟩ := h6.parts2; have q0 := (F2.out.fol k6).c0; have q1 := (F2.out.fol k6).c1; have q2 := (F2.out.fol k6).f0; have q3 := (F2.out.fol k6).f1; have q4 := (F3.out.fol k6).c0; have q5 := (F3.out.fol k6).c1; have q6 := (F3.out.fol k6).f0; have q7 := (F3.out.fol k6).f1)
      obtain ⟨g1, g2, g3, g4⟩ := two_put (w := w) (F2.out.fol k6) (F3.out.fol k6) (by omega) (by omega) (by omega) (Fol.trans HF.out k6) (.bool b5) (.slice o5 n5 c5) (.bool b6) (.slice o6 n6 c6)
      exact bodyPost_ret (v := .tuple #[.agg #[.bool b5, .slice o5 n5 c5], .agg #[.bool b6, .slice o6 n6 c6], .int .i64 0]) (Eq.trans (results_cct_at (p := 4) (q := 5) (t := 6) rfl rfl rfl g1 g2) rfl) rfl ⟨_, _, _, _, _, _, _, _, rfl, by rw [HMOD.out]; exact h6.keep g4, g3⟩
  · rw [decide_eq_false hneg] at F0 HDV HF hvB F1 F2 F3 ⊢
    have HMOD := Lib.hid (emod_pos (m := m) hneg)
    obtain ⟨lr', hlr'⟩ : ∃ l, (dig (z.natAbs % m)).length = l := ⟨_, rfl⟩
    have HL := Lib.hid hlr'
    clear hlr' hneg hmodlt hz hm HADD HSUB
    have hn1 : ¬ w.heap.size + 1 + 1 = w.heap.size + 1 + 1 + 1 := by omega
    have hn2 : ¬ w.heap.size + 1 + 1 + 1 = w.heap.size + 1 + 1 := by omega
    go_enter Tryz.func53, Tryz.ntmps53
    go_wp2_with first
      | ((go_at_call 42; (with_reducible refine HDV.out.mono ?_)); rintro e w1 ⟨vq, vr, rfl, hq, hr1, k1⟩; obtain ⟨o3, c3, rfl, _, _⟩ := hr1.slice; rw [HL.out] at hr1 ⊢; obtain ⟨o4, n4, c4, rfl⟩ : ∃ o n c, vq = .slice o n c := (by obtain ⟨o, c, h, _⟩ := hq.slice; exact ⟨_, _, _, h⟩); have a0 := (F0.out.fol k1).c0; have a1 := (F1.out.fol k1).c0)
      | ((go_at_call 86; (with_reducible refine (HMK.out _ _ _ _ hq (by omega)).mono ?_)); rintro e w5 ⟨v5, rfl, h5, k5'⟩; have k5 := Fol.trans k1 k5')
      | ((go_at_call 86; (with_reducible refine (HMK.out _ _ _ _ (hr1.fol k5') (by omega)).mono ?_)); rintro e w6 ⟨v6, rfl, h6, k6'⟩; have k6 := Fol.trans k5 k6'; have h5 := h5.fol k6'; obtain ⟨b5, o5, n5, c5, rfl⟩ := h5.parts2; obtain ⟨b6, o6, n6, c6, rfl⟩ := h6.parts2; have q0 := (F2.out.fol k6).c0; have q1 := (F2.out.fol k6).c1; have q2 := (F2.out.fol k6).f0; have q3 := (F2.out.fol k6).f1; have q4 := (F3.out.fol k6).c0; have q5 := (F3.out.fol k6).c1; have q6 := (F3.out.fol k6).f0; have q7 := (F3.out.fol k6).f1)
    obtain ⟨g1, g2, g3, g4⟩ := two_put (w := w) (F2.out.fol k6) (F3.out.fol k6) (by omega) (by omega) (by omega) (Fol.trans HF.out k6) (.bool b5) (.slice o5 n5 c5) (.bool b6) (.slice o6 n6 c6)
    exact bodyPost_ret (v := .tuple #[.agg #[.bool b5, .slice o5 n5 c5], .agg #[.bool b6, .slice o6 n6 c6], .int .i64 0]) (Eq.trans (results_cct_at (p := 4) (q := 5) (t := 6) rfl rfl rfl g1 g2) rfl) rfl ⟨_, _, _, _, _, _, _, _, rfl, by rw [HMOD.out]; exact h6.keep g4, g3⟩
end Go.Proofs.YtckahcgolfnobaaGreatDoor
