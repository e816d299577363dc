/- The document's whole numbers. -/
import Derived.Test.YtckahcgolfnobaaGreatDoorR4
import Derived.Test.YtckahcgolfnobaaGreatDoorInv
namespace Go.Proofs.YtckahcgolfnobaaGreatDoor
open Go Go.RowKit

set_option maxHeartbeats 400000 in
set_option maxRecDepth 100000 in
theorem r6make_any (neg : Bool) (v : Value) (m : Nat) (w : World) (h : NatV w v m) (hm : Big m) :
    Calls Tryz.prog 32 #[.bool neg, v] w (RInt w (sgn neg m)) := by
  have hfol := Fol.refl w
  have HM : Hid (∀ v w', NatV w' v m → Calls Tryz.prog 36 #[v] w' (RNat w' m)) := Lib.hid (fun v w' h => by
    have := r1make_any v (dig m) w' (Sl.raw h) (small_dig m) (by unfold Big at hm; omega)
    rwa [val_dig] at this)
  cases neg with
  | false =>
    go_enter Tryz.func32, Tryz.ntmps32
    go_wp2_with ((go_at_call 36; (with_reducible refine (HM.out _ _ (NatV.fol h (Fol.new _ _))).mono ?_)); rintro e w1 ⟨v1, rfl, h1, b1⟩; have hc := (Cell2.new w (.bool false) (.slice none 0 0)).fol b1; obtain ⟨o1, n1, k1, rfl⟩ : ∃ o n k, v1 = .slice o n k := (by obtain ⟨o, c, hv, _⟩ := Sl.slice h1; exact ⟨_, _, _, hv⟩); have q0 := hc.c0; have q1 := hc.c1; have q2 := hc.f0; have q3 := hc.f1; have HC := Lib.hid hc; clear hc)
    obtain ⟨p1, p2, p3⟩ := HC.out.put (Nat.le_refl _) (Fol.trans (Fol.new _ _) b1) (.bool false) (.slice o1 n1 k1)
    refine bodyPost_ret (v := .agg #[.bool false, .slice o1 n1 k1]) ?_ rfl ⟨_, rfl, ?_, p2⟩
    · rw [results_cell1 rfl]
      have r0 := p1.c0
      have r1 := p1.c1
      go_simp
    · exact intV_of (neg := false) (Sl.keep h1 p3)
  | true =>
    go_enter Tryz.func32, Tryz.ntmps32
    go_wp2_with ((go_at_call 36; (with_reducible refine (HM.out _ _ (NatV.fol h (Fol.new _ _))).mono ?_)); rintro e w1 ⟨v1, rfl, h1, b1⟩; have hc := (Cell2.new w (.bool false) (.slice none 0 0)).fol b1; obtain ⟨o1, k1, hv1, _⟩ := Sl.slice h1; subst hv1; have q0 := hc.c0; have q1 := hc.c1; have q2 := hc.f0; have q3 := hc.f1; have HC := Lib.hid hc; clear hc)
    have e : decide (0 < (dig m).length) = (true && decide (0 < m)) := dig_pos2 m
    rw [e]
    obtain ⟨p1, p2, p3⟩ := HC.out.put (Nat.le_refl _) (Fol.trans (Fol.new _ _) b1) (.bool (true && decide (0 < m))) (.slice o1 (dig m).length k1)
    refine bodyPost_ret (v := .agg #[.bool (true && decide (0 < m)), .slice o1 (dig m).length k1]) ?_ rfl ⟨_, rfl, ?_, p2⟩
    · rw [results_cell1 rfl]
      have r0 := p1.c0
      have r1 := p1.c1
      generalize (true && decide (0 < m)) = bb at *
      go_simp
    · exact intV_of (neg := true) (Sl.keep h1 p3)

set_option maxHeartbeats 400000 in
set_option maxRecDepth 100000 in
theorem r6of_any (z : Int) (w : World) (h1 : -9223372036854775808 ≤ z) (h2 : z < 9223372036854775808) : Calls Tryz.prog 39 #[.int .i64 z] w (RInt w z) := by
  by_cases hz : z < 0
  · have HM := Lib.hid (fun v w' (hw : NatV w' v z.natAbs) => r6make_any true v z.natAbs w' hw (small_big (by omega)))
    rw [sgn_of_neg hz] at HM
    have HO : Hid (∀ w', Calls Tryz.prog 65 #[.int .u64 (z.natAbs : Nat)] w' (RNat w' z.natAbs)) := Lib.hid fun w' => r1of_any z.natAbs w' (by omega)
    obtain ⟨n, hn⟩ : ∃ n : Nat, z.natAbs = n := ⟨_, rfl⟩
    have hzn : z = -(n : Int) := by omega
    rw [hn] at HM HO
    have hn0 : 0 < n := by omega
    have hn1 : n ≤ 9223372036854775808 := by omega
    have e1 : IntKind.u64.wrap z = 18446744073709551616 - (n : Int) := by rw [IntKind.wrap_u64]; omega
    have e2 : IntKind.u64.wrap (-(18446744073709551616 - (n : Int))) = (n : Int) := by rw [IntKind.wrap_u64]; omega
    have e3 : IntKind.u64.wrap (-(IntKind.u64.wrap z)) = (n : Int) := by rw [e1]; exact e2
    clear e1 e2
    have HZ := Lib.hid hzn
    clear hzn hn
    have hz1 : decide (z < 0) = true := by simp; omega
    go_enter Tryz.func39, Tryz.ntmps39
    go_wp2_with fail
    refine (HO.out _).mono ?_
    rintro e w1 ⟨v1, rfl, hv1, k1⟩
    go_wp2_with ((go_at_call 32; (with_reducible refine (HM.out _ _ hv1).mono ?_)); rintro e w2 ⟨v2, rfl, h2, k2'⟩; have k2 := Fol.trans k1 k2'; have hc := (Cell2.new w (.bool false) (.slice none 0 0)).fol k2; obtain ⟨bb1, o1, n1, c1, rfl⟩ := h2.parts2; have q0 := hc.c0; have q1 := hc.c1; have q2 := hc.f0; have q3 := hc.f1; have HC := Lib.hid hc; clear hc)
    exact int_end rfl rfl HC.out (Nat.le_refl _) (Fol.trans (Fol.new _ _) k2) h2
  · have HM := Lib.hid (fun v w' (hw : NatV w' v z.natAbs) => r6make_any false v z.natAbs w' hw (small_big (by omega)))
    rw [sgn_of_pos (by omega)] at HM
    have HO : Hid (∀ w', Calls Tryz.prog 65 #[.int .u64 (z.natAbs : Nat)] w' (RNat w' z.natAbs)) := Lib.hid fun w' => r1of_any z.natAbs w' (by omega)
    obtain ⟨n, rfl⟩ := Int.eq_ofNat_of_zero_le (show 0 ≤ z by omega)
    rw [show ((n : Int)).natAbs = n from rfl] at HM HO
    have e3 : IntKind.u64.wrap (n : Int) = (n : Int) := by rw [IntKind.wrap_u64]; omega
    have hz1 : decide ((n : Int) < 0) = false := by simp
    clear hz
    go_enter Tryz.func39, Tryz.ntmps39
    go_wp2_with fail
    refine (HO.out _).mono ?_
    rintro e w1 ⟨v1, rfl, hv1, k1⟩
    go_wp2_with ((go_at_call 32; (with_reducible refine (HM.out _ _ hv1).mono ?_)); rintro e w2 ⟨v2, rfl, h2, k2'⟩; have k2 := Fol.trans k1 k2'; have hc := (Cell2.new w (.bool false) (.slice none 0 0)).fol k2; obtain ⟨bb1, o1, n1, c1, rfl⟩ := h2.parts2; have q0 := hc.c0; have q1 := hc.c1; have q2 := hc.f0; have q3 := hc.f1; have HC := Lib.hid hc; clear hc)
    exact int_end rfl rfl HC.out (Nat.le_refl _) (Fol.trans (Fol.new _ _) k2) h2


/-! ### Which is less -/
def icmp (x y : Int) : Int := if x < y then -1 else if y < x then 1 else 0
theorem icmp_neg {x y : Int} (hx : x < 0) (hy : y < 0) : ncmp y.natAbs x.natAbs = icmp x y := by
  unfold ncmp icmp
  by_cases h : x < y
  · rw [if_pos h, if_pos (by omega)]
  · rw [if_neg h, if_neg (by omega)]
    by_cases h2 : y < x
    · rw [if_pos h2, if_pos (by omega)]
    · rw [if_neg h2, if_neg (by omega)]
theorem icmp_pos {x y : Int} (hx : ¬ x < 0) (hy : ¬ y < 0) : ncmp x.natAbs y.natAbs = icmp x y := by
  unfold ncmp icmp
  by_cases h : x < y
  · rw [if_pos h, if_pos (by omega)]
  · rw [if_neg h, if_neg (by omega)]
    by_cases h2 : y < x
    · rw [if_pos h2, if_pos (by omega)]
    · rw [if_neg h2, if_neg (by omega)]

set_option maxHeartbeats 1000000 in
set_option maxRecDepth 100000 in
theorem r6cmp_any (v v' : Value) (x y : Int) (w : World) (h : IntV w v x) (h' : IntV w v' y) (hx : Big x.natAbs) (hy : Big y.natAbs) :
    Calls Tryz.prog 51 #[v, v'] w fun e w' => e = .returned (.int .i64 (icmp x y)) ∧ Fol w w' := by
  obtain ⟨o, n, c, rfl, hv⟩ := h.parts
  obtain ⟨o', n', c', rfl, hv'⟩ := h'.parts
  have hf := fol2 w (.cells #[.bool (decide (x < 0)), .slice o n c] 27) (.cells #[.bool (decide (y < 0)), .slice o' n' c'] 27)
  have HC1 := Lib.hid (r1cmp_any _ _ x.natAbs y.natAbs _ (hv.fol hf) (hv'.fol hf) hx hy)
  have HC2 := Lib.hid (r1cmp_any _ _ y.natAbs x.natAbs _ (hv'.fol hf) (hv.fol hf) hy hx)
  have HF := Lib.hid hf
  clear h h' hv hv' hf
  by_cases h1 : x < 0
  · by_cases h2 : y < 0
    · rw [icmp_neg h1 h2] at HC2
      rw [decide_eq_true h1, decide_eq_true h2] at HC2 HF ⊢
      clear HC1 hx hy h1 h2
      generalize icmp x y = ic at *
      go_enter Tryz.func51, Tryz.ntmps51
      go_wp2_with ((go_at_call 34; (with_reducible refine HC2.out.mono ?_)); rintro e w' ⟨rfl, rfl⟩)
      go_ret
      exact ⟨rfl, HF.out⟩
    · have hi : icmp x y = -1 := by unfold icmp; rw [if_pos (by omega)]
      rw [decide_eq_true h1, decide_eq_false h2] at HF ⊢
      rw [hi]
      clear HC1 HC2 hx hy h1 h2 hi
      go_enter Tryz.func51, Tryz.ntmps51
      go_wp2
      go_ret
      exact ⟨rfl, HF.out⟩
  · by_cases h2 : y < 0
    · have hi : icmp x y = 1 := by unfold icmp; rw [if_neg (by omega), if_pos (by omega)]
      rw [decide_eq_false h1, decide_eq_true h2] at HF ⊢
      rw [hi]
      clear HC1 HC2 hx hy h1 h2 hi
      go_enter Tryz.func51, Tryz.ntmps51
      go_wp2
      go_ret
      exact ⟨rfl, HF.out⟩
    · rw [icmp_pos h1 h2] at HC1
      rw [decide_eq_false h1, decide_eq_false h2] at HC1 HF ⊢
      clear HC2 hx hy h1 h2
      generalize icmp x y = ic at *
      go_enter Tryz.func51, Tryz.ntmps51
      go_wp2_with ((go_at_call 34; (with_reducible refine HC1.out.mono ?_)); rintro e w' ⟨rfl, rfl⟩)
      go_ret
      exact ⟨rfl, HF.out⟩

set_option maxHeartbeats 1000000 in
set_option maxRecDepth 100000 in
theorem r6same_any (v v' : Value) (x y : Int) (w : World) (h : IntV w v x) (h' : IntV w v' y) (hx : Big x.natAbs) (hy : Big y.natAbs) :
    Calls Tryz.prog 22 #[v, v'] w fun e w' => e = .returned (.bool (decide (x = y))) ∧ Fol w w' := by
  have HC := Lib.hid (fun w' (hf : Fol w w') => r6cmp_any v v' x y w' (h.fol hf) (h'.fol hf) hx hy)
  obtain ⟨o, n, c, rfl, hv⟩ := h.parts
  obtain ⟨o', n', c', rfl, hv'⟩ := h'.parts
  have hf := fol2 w (.cells #[.bool (decide (x < 0)), .slice o n c] 27) (.cells #[.bool (decide (y < 0)), .slice o' n' c'] 27)
  have HF := Lib.hid hf
  have HA := Lib.hid ((Cell2.new w (.bool (decide (x < 0))) (.slice o n c)).fol (Fol.new _ (.cells #[.bool (decide (y < 0)), .slice o' n' c'] 27)))
  have HB : Hid (Cell2 ((w.alloc (.cells #[.bool (decide (x < 0)), .slice o n c] 27)).alloc (.cells #[.bool (decide (y < 0)), .slice o' n' c'] 27)) (w.heap.size + 1) (.bool (decide (y < 0))) (.slice o' n' c')) := Lib.hid (by
    have := Cell2.new (w.alloc (.cells #[.bool (decide (x < 0)), .slice o n c] 27)) (.bool (decide (y < 0))) (.slice o' n' c')
    rwa [World.size_alloc] at this)
  clear h h' hv hv' hf hx hy
  by_cases he : x = y
  · have hd : decide (x = y) = true := decide_eq_true he
    have hi : icmp x y = 0 := by unfold icmp; rw [if_neg (by omega), if_neg (by omega)]
    have hs : decide (y < 0) = decide (x < 0) := by rw [he]
    rw [hd]
    rw [hi, hs] at HC
    rw [hs] at HF HA HB ⊢
    clear hd hi hs he
    generalize decide (x < 0) = b at *
    go_enter Tryz.func22, Tryz.ntmps22
    go_wp2_with ((go_at_call 51; (with_reducible refine (HC.out _ HF.out).mono ?_)); rintro e w1 ⟨rfl, k1⟩; have a0 := (HA.out.fol k1).c0; have b0 := (HB.out.fol k1).c0)
    go_ret
    exact ⟨by simp, Fol.trans HF.out k1⟩
  · have hd : decide (x = y) = false := decide_eq_false he
    have hi : (icmp x y == 0) = false := by
      rw [beq_eq_false_iff_ne]
      unfold icmp
      split
      · omega
      · split <;> omega
    rw [hd]
    clear hd he
    generalize icmp x y = ic at *
    generalize decide (x < 0) = bx at *
    generalize decide (y < 0) = bz at *
    go_enter Tryz.func22, Tryz.ntmps22
    go_wp2_with ((go_at_call 51; (with_reducible refine (HC.out _ HF.out).mono ?_)); rintro e w1 ⟨rfl, k1⟩)
    go_ret
    exact ⟨rfl, Fol.trans HF.out k1⟩
end Go.Proofs.YtckahcgolfnobaaGreatDoor
