/- integer.Add, integer.Sub. -/
import Derived.Test.YtckahcgolfnobaaGreatDoorIntb
import Derived.Test.YtckahcgolfnobaaGreatDoorMul
namespace Go.Proofs.YtckahcgolfnobaaGreatDoor
open Go Go.RowKit

theorem sgn_same {x y : Int} (h : decide (x < 0) = decide (y < 0)) : sgn (decide (x < 0)) (x.natAbs + y.natAbs) = x + y := by
  unfold sgn
  by_cases hx : x < 0
  · have hy : y < 0 := by simpa [hx] using h.symm
    simp [hx]; omega
  · have hy : ¬ y < 0 := by simpa [hx] using h.symm
    simp [hx]; omega
theorem sgn_diff {x y : Int} (h : decide (x < 0) ≠ decide (y < 0)) (hle : y.natAbs ≤ x.natAbs) : sgn (decide (x < 0)) (x.natAbs - y.natAbs) = x + y := by
  unfold sgn
  by_cases hx : x < 0
  · have hy : ¬ y < 0 := by intro hy; simp [hx, hy] at h
    simp [hx]; omega
  · have hy : y < 0 := by apply Classical.byContradiction; intro hy; simp [hx, hy] at h
    simp [hx]; omega

theorem Cell2.far {w : World} {b b' i : Nat} {x y : Value} (h : Cell2 w b x y) (hne : b ≠ b') (u : Value) : Cell2 (w.setCell ⟨b', i, none⟩ u) b x y := (Below.heap_setCell w ⟨b', i, none⟩ u b hne).trans h

set_option maxHeartbeats 400000 in
set_option maxRecDepth 100000 in
theorem intadd_any (v v' : Value) (x y : Int) (w : World) (h : IntV w v x) (h' : IntV w v' y) (hx : Big x.natAbs) (hy : Big y.natAbs) (hm : Big (x.natAbs + y.natAbs)) :
    Calls Tryz.prog 80 #[v, v'] w (RInt w (x + y)) := by
  obtain ⟨o, n, c, rfl, hv⟩ := h.parts
  obtain ⟨o', n', c', rfl, hv'⟩ := h'.parts
  have hA := add_c x.natAbs y.natAbs hx hy
  by_cases hs : decide (x < 0) = decide (y < 0)
  · have HI := Lib.hid (fun v w' hw => imake_any (decide (x < 0)) v (x.natAbs + y.natAbs) w' hw hm)
    rw [sgn_same hs] at HI
    rw [← hs] at h' ⊢
    clear hs
    generalize decide (x < 0) = bx at *
    go_enter Tryz.func80, Tryz.ntmps80
    go_wp2
    have HC : Hid (Cell2 (((w.alloc (.cells #[.bool bx, .slice o n c] 27)).alloc (.cells #[.bool bx, .slice o' n' c'] 27)).alloc (.cells #[.bool false, .slice none 0 0] 27)).drew (w.heap.size + 1 + 1) (.bool false) (.slice none 0 0)) := Lib.hid (by
      have := Cell2.new ((w.alloc (.cells #[.bool bx, .slice o n c] 27)).alloc (.cells #[.bool bx, .slice o' n' c'] 27)) (.bool false) (.slice none 0 0)
      rw [World.size_alloc, World.size_alloc] at this
      exact this)
    have hA1 : Hid (Cell2 (((w.alloc (.cells #[.bool bx, .slice o n c] 27)).alloc (.cells #[.bool bx, .slice o' n' c'] 27)).alloc (.cells #[.bool false, .slice none 0 0] 27)).drew w.heap.size (.bool bx) (.slice o n c)) := Lib.hid ((Cell2.new w _ _).fol (Fol.trans (fol2 _ _ _) (Fol.draw _)))
    have hB1 : Hid (Cell2 (((w.alloc (.cells #[.bool bx, .slice o n c] 27)).alloc (.cells #[.bool bx, .slice o' n' c'] 27)).alloc (.cells #[.bool false, .slice none 0 0] 27)).drew (w.heap.size + 1) (.bool bx) (.slice o' n' c')) := Lib.hid (by
      have := (Cell2.new (w.alloc (.cells #[.bool bx, .slice o n c] 27)) (.bool bx) (.slice o' n' c')).fol (Fol.trans (Fol.new _ (.cells #[.bool false, .slice none 0 0] 27)) (Fol.draw _))
      rwa [World.size_alloc] at this)
    have hf : Fol w (((w.alloc (.cells #[.bool bx, .slice o n c] 27)).alloc (.cells #[.bool bx, .slice o' n' c'] 27)).alloc (.cells #[.bool false, .slice none 0 0] 27)).drew := Fol.trans (fol2 _ _ _) (Fol.trans (Fol.new _ _) (Fol.draw _))
    have hv := NatV.fol hv hf
    have hv' := NatV.fol hv' hf
    generalize hW : ((w.alloc (.cells #[.bool bx, .slice o n c] 27)).alloc (.cells #[.bool bx, .slice o' n' c'] 27)).alloc (.cells #[.bool false, .slice none 0 0] 27) = W at *
    clear hW h h'
    have a0 := hA1.out.c0
    have a1 := hA1.out.c1
    have b1 := hB1.out.c1
    have hn1 : ¬ w.heap.size + 1 + 1 = w.heap.size := by omega
    have hn2 : ¬ w.heap.size = w.heap.size + 1 + 1 := by omega
    go_region_held3 (fun W' => W'.cell? ⟨w.heap.size, 0, none⟩ = some (.bool bx) ∧ W'.cell? ⟨w.heap.size, 1, none⟩ = some (.slice o n c) ∧ W'.cell? ⟨w.heap.size + 1, 1, none⟩ = some (.slice o' n' c')) (first | exact ⟨a0, a1, b1⟩ | exact ⟨(hA1.out.fol k1).c0, (hA1.out.fol k1).c1, (hB1.out.fol k1).c1⟩ | exact ⟨(hA1.out.fol k2).c0, (hA1.out.fol k2).c1, (hB1.out.fol k2).c1⟩ | go_keep) (first
      | ((go_at_call 83; (with_reducible refine (hA.out _ _ _ hv hv').mono ?_)); rintro e w1 ⟨v1, rfl, h1, k1⟩)
      | ((go_at_call 86; (with_reducible refine (HI.out _ _ h1).mono ?_)); rintro e w2 ⟨v2, rfl, h2, k2'⟩; have k2 := Fol.trans k1 k2'; obtain ⟨bb2, o2, n2, c2, rfl⟩ := h2.parts2; have q0 := (HC.out.fol k2).c0; have q1 := (HC.out.fol k2).c1; have q2 := (HC.out.fol k2).f0; have q3 := (HC.out.fol k2).f1))
    go_wp2
    exact int_end rfl rfl (HC.out.fol k2) (by omega) (Fol.trans hf k2) h2
  · have hf : Fol w (((w.alloc (.cells #[.bool (decide (x < 0)), .slice o n c] 27)).alloc (.cells #[.bool (decide (y < 0)), .slice o' n' c'] 27)).alloc (.cells #[.bool false, .slice none 0 0] 27)) := Fol.trans (fol2 _ _ _) (Fol.new _ _)
    have hC2 := Lib.hid (cmp_any (.slice o n c) (.slice o' n' c') x.natAbs y.natAbs _ (hv.fol hf) (hv'.fol hf) (by unfold Big at hx; omega) (by unfold Big at hy; omega))
    have hbb : (decide (x < 0) == decide (y < 0)) = false := by rw [beq_eq_false_iff_ne]; exact hs
    have HC : Hid (Cell2 (((w.alloc (.cells #[.bool (decide (x < 0)), .slice o n c] 27)).alloc (.cells #[.bool (decide (y < 0)), .slice o' n' c'] 27)).alloc (.cells #[.bool false, .slice none 0 0] 27)) (w.heap.size + 1 + 1) (.bool false) (.slice none 0 0)) := Lib.hid (by
      have := Cell2.new ((w.alloc (.cells #[.bool (decide (x < 0)), .slice o n c] 27)).alloc (.cells #[.bool (decide (y < 0)), .slice o' n' c'] 27)) (.bool false) (.slice none 0 0)
      rw [World.size_alloc, World.size_alloc] at this
      exact this)
    have hA1 : Hid (Cell2 (((w.alloc (.cells #[.bool (decide (x < 0)), .slice o n c] 27)).alloc (.cells #[.bool (decide (y < 0)), .slice o' n' c'] 27)).alloc (.cells #[.bool false, .slice none 0 0] 27)) w.heap.size (.bool (decide (x < 0))) (.slice o n c)) := Lib.hid ((Cell2.new w _ _).fol (fol2 _ _ _))
    have hB1 : Hid (Cell2 (((w.alloc (.cells #[.bool (decide (x < 0)), .slice o n c] 27)).alloc (.cells #[.bool (decide (y < 0)), .slice o' n' c'] 27)).alloc (.cells #[.bool false, .slice none 0 0] 27)) (w.heap.size + 1) (.bool (decide (y < 0))) (.slice o' n' c')) := Lib.hid (by
      have := (Cell2.new (w.alloc (.cells #[.bool (decide (x < 0)), .slice o n c] 27)) (.bool (decide (y < 0))) (.slice o' n' c')).fol (Fol.new _ (.cells #[.bool false, .slice none 0 0] 27))
      rwa [World.size_alloc] at this)
    have hvW := hv.fol hf
    have hvW' := hv'.fol hf
    by_cases hle : y.natAbs ≤ x.natAbs
    · have hnc : decide (ncmp x.natAbs y.natAbs < 0) = false := by unfold ncmp; rw [if_neg (by omega)]; simp; split <;> omega
      have hsub := len_le (Nat.sub_le x.natAbs y.natAbs) (Nat.le_refl _)
      have HI := Lib.hid (fun v w' hw => imake_any (decide (x < 0)) v (x.natAbs - y.natAbs) w' hw (Nat.lt_of_le_of_lt hsub hx))
      rw [sgn_diff hs hle] at HI
      have HS := Lib.hid (fun v v' w' h1 h2 => sub_any v v' x.natAbs y.natAbs w' h1 h2 hx hy)
      clear hs hle hsub h h' hA
      generalize decide (x < 0) = bx at *
      generalize decide (y < 0) = bz at *
      generalize ncmp x.natAbs y.natAbs = nc at *
      go_enter Tryz.func80, Tryz.ntmps80
      go_wp2_with first
        | ((go_at_call 45; (with_reducible refine (hC2.out).mono ?_)); rintro e w1 ⟨rfl, hd⟩; have k1 := Fol.drawn hd; have a0 := (hA1.out.fol k1).c0; have a1 := (hA1.out.fol k1).c1; have b1 := (hB1.out.fol k1).c1; clear hd)
        | ((go_at_call 85; (with_reducible refine (HS.out _ _ _ (hvW.fol k1) (hvW'.fol k1)).mono ?_)); rintro e w2 ⟨v2, rfl, h2, k2'⟩; have k2 := Fol.trans k1 k2'; have a0' := (hA1.out.fol k2).c0)
        | ((go_at_call 86; (with_reducible refine (HI.out _ _ h2).mono ?_)); rintro e w3 ⟨v3, rfl, h3, k3'⟩; have k3 := Fol.trans k2 k3'; obtain ⟨bb2, o2, n2, c2, rfl⟩ := h3.parts2; have q0 := (HC.out.fol k3).c0; have q1 := (HC.out.fol k3).c1; have q2 := (HC.out.fol k3).f0; have q3 := (HC.out.fol k3).f1)
      exact int_end rfl rfl (HC.out.fol k3) (by omega) (Fol.trans hf k3) h3
    · have hnc : decide (ncmp x.natAbs y.natAbs < 0) = true := by unfold ncmp; rw [if_pos (by omega)]; rfl
      have hsub := len_le (Nat.sub_le y.natAbs x.natAbs) (Nat.le_refl _)
      have HI := Lib.hid (fun v w' hw => imake_any (decide (y < 0)) v (y.natAbs - x.natAbs) w' hw (Nat.lt_of_le_of_lt hsub hy))
      rw [sgn_diff (Ne.symm hs) (show x.natAbs ≤ y.natAbs by omega), Int.add_comm] at HI
      have HS := Lib.hid (fun v v' w' h1 h2 => sub_any v v' y.natAbs x.natAbs w' h1 h2 hy hx)
      clear hs hle hsub h h' hA
      generalize decide (x < 0) = bx at *
      generalize decide (y < 0) = bz at *
      generalize ncmp x.natAbs y.natAbs = nc at *
      go_enter Tryz.func80, Tryz.ntmps80
      go_wp2_with first
        | ((go_at_call 45; (with_reducible refine (hC2.out).mono ?_)); rintro e w1 ⟨rfl, hd⟩; have k1 := Fol.drawn hd; have a0 := (hA1.out.fol k1).c0; have a1 := (hA1.out.fol k1).c1; have b0 := (hB1.out.fol k1).c0; have b1 := (hB1.out.fol k1).c1; have af0 := (hA1.out.fol k1).f0; have af1 := (hA1.out.fol k1).f1; have bf0 := (hB1.out.fol k1).f0; have bf1 := (hB1.out.fol k1).f1; clear hd)
      have pA := (hA1.out.fol k1).put (w := w) (Nat.le_refl _) (Fol.trans hf k1) (.bool bz) (.slice o' n' c')
      have pB := (((hB1.out.fol k1).far (i := 0) (b' := w.heap.size) (by omega) (.bool bz)).far (i := 1) (b' := w.heap.size) (by omega) (.slice o' n' c')).put (w := w) (by omega) pA.2.1 (.bool bx) (.slice o n c)
      have pA1 := (pA.1.far (i := 0) (b' := w.heap.size + 1) (by omega) (.bool bx)).far (i := 1) (b' := w.heap.size + 1) (by omega) (.slice o n c)
      have pC := ((((HC.out.fol k1).far (i := 0) (b' := w.heap.size) (by omega) (.bool bz)).far (i := 1) (b' := w.heap.size) (by omega) (.slice o' n' c')).far (i := 0) (b' := w.heap.size + 1) (by omega) (.bool bx)).far (i := 1) (b' := w.heap.size + 1) (by omega) (.slice o n c)
      have v1 := ((hvW.fol k1).keep pA.2.2).keep pB.2.2
      have v2 := ((hvW'.fol k1).keep pA.2.2).keep pB.2.2
      have hf2 := pB.2.1
      clear pA pB a0 a1 b0 b1 af0 af1 bf0 bf1
      have PC := Lib.hid pC
      have PA := Lib.hid pA1
      clear pC pA1
      generalize ((((w1.setCell ⟨w.heap.size, 0, none⟩ (.bool bz)).setCell ⟨w.heap.size, 1, none⟩ (.slice o' n' c')).setCell ⟨w.heap.size + 1, 0, none⟩ (.bool bx)).setCell ⟨w.heap.size + 1, 1, none⟩ (.slice o n c)) = W2 at *
      refine (HS.out _ _ _ v2 v1).mono ?_
      rintro e w2 ⟨v3, rfl, h2, k2⟩
      have a0' := (PA.out.fol k2).c0
      go_wp2_with ((go_at_call 86; (with_reducible refine (HI.out _ _ h2).mono ?_)); rintro e w3 ⟨v4, rfl, h3, k3'⟩; have k3 := Fol.trans k2 k3'; obtain ⟨bb2, o2, n2, c2, rfl⟩ := h3.parts2; have q0 := (PC.out.fol k3).c0; have q1 := (PC.out.fol k3).c1; have q2 := (PC.out.fol k3).f0; have q3 := (PC.out.fol k3).f1)
      exact int_end rfl rfl (PC.out.fol k3) (by omega) (Fol.trans hf2 k3) h3

theorem two_cells {w : World} {b : Nat} {x y : Value} (h : Cell2 w b x y) : w.cell? ⟨b, 0, none⟩ = some x ∧ w.cell? ⟨b, 1, none⟩ = some y := ⟨h.c0, h.c1⟩

set_option maxHeartbeats 400000 in
set_option maxRecDepth 100000 in
theorem intsub_any (v v' : Value) (x y : Int) (w : World) (h : IntV w v x) (h' : IntV w v' y) (hx : Big x.natAbs) (hy : Big y.natAbs) (hm : Big (x.natAbs + y.natAbs)) :
    Calls Tryz.prog 76 #[v, v'] w (RInt w (x - y)) := by
  have HN := Lib.hid (fun w' (hw : IntV w' v' y) => neg_any v' y w' hw hy)
  have HA := Lib.hid (fun v'' w' (hw : IntV w' v x) (hw' : IntV w' v'' (-y)) => intadd_any v v'' x (-y) w' hw hw' hx (by rw [Int.natAbs_neg]; exact hy) (by rw [Int.natAbs_neg]; exact hm))
  have HH := Lib.hid h
  have HH' := Lib.hid h'
  obtain ⟨bx, o, n, c, rfl⟩ := h.parts2
  obtain ⟨bz, o', n', c', rfl⟩ := h'.parts2
  clear h h'
  go_enter Tryz.func76, Tryz.ntmps76
  go_wp2
  have HC : Hid (Cell2 (((w.alloc (.cells #[.bool bx, .slice o n c] 27)).alloc (.cells #[.bool bz, .slice o' n' c'] 27)).alloc (.cells #[.bool false, .slice none 0 0] 27)).drew (w.heap.size + 1 + 1) (.bool false) (.slice none 0 0)) := Lib.hid (by
    have := Cell2.new ((w.alloc (.cells #[.bool bx, .slice o n c] 27)).alloc (.cells #[.bool bz, .slice o' n' c'] 27)) (.bool false) (.slice none 0 0)
    rw [World.size_alloc, World.size_alloc] at this
    exact this)
  have hA : Hid (Cell2 (((w.alloc (.cells #[.bool bx, .slice o n c] 27)).alloc (.cells #[.bool bz, .slice o' n' c'] 27)).alloc (.cells #[.bool false, .slice none 0 0] 27)).drew w.heap.size (.bool bx) (.slice o n c)) := Lib.hid ((Cell2.new w _ _).fol (Fol.trans (fol2 _ _ _) (Fol.draw _)))
  have hB : Hid (Cell2 (((w.alloc (.cells #[.bool bx, .slice o n c] 27)).alloc (.cells #[.bool bz, .slice o' n' c'] 27)).alloc (.cells #[.bool false, .slice none 0 0] 27)).drew (w.heap.size + 1) (.bool bz) (.slice o' n' c')) := Lib.hid (by
    have := (Cell2.new (w.alloc (.cells #[.bool bx, .slice o n c] 27)) (.bool bz) (.slice o' n' c')).fol (Fol.trans (Fol.new _ (.cells #[.bool false, .slice none 0 0] 27)) (Fol.draw _))
    rwa [World.size_alloc] at this)
  have hf : Fol w (((w.alloc (.cells #[.bool bx, .slice o n c] 27)).alloc (.cells #[.bool bz, .slice o' n' c'] 27)).alloc (.cells #[.bool false, .slice none 0 0] 27)).drew := Fol.trans (fol2 _ _ _) (Fol.trans (Fol.new _ _) (Fol.draw _))
  have hv := IntV.fol HH.out hf
  have hv' := IntV.fol HH'.out hf
  generalize hW : ((w.alloc (.cells #[.bool bx, .slice o n c] 27)).alloc (.cells #[.bool bz, .slice o' n' c'] 27)).alloc (.cells #[.bool false, .slice none 0 0] 27) = W at *
  clear hW
  have a0 := hA.out.c0
  have a1 := hA.out.c1
  have b0 := hB.out.c0
  have b1 := hB.out.c1
  have hn1 : ¬ w.heap.size + 1 + 1 = w.heap.size := by omega
  have hn2 : ¬ w.heap.size = w.heap.size + 1 + 1 := by omega
  go_region_held3 (fun W' => W'.cell? ⟨w.heap.size, 0, none⟩ = some (.bool bx) ∧ W'.cell? ⟨w.heap.size, 1, none⟩ = some (.slice o n c) ∧ W'.cell? ⟨w.heap.size + 1, 0, none⟩ = some (.bool bz) ∧ W'.cell? ⟨w.heap.size + 1, 1, none⟩ = some (.slice o' n' c')) (first | exact ⟨a0, a1, b0, b1⟩ | exact ⟨(hA.out.fol k1).c0, (hA.out.fol k1).c1, (hB.out.fol k1).c0, (hB.out.fol k1).c1⟩ | exact ⟨(hA.out.fol k2).c0, (hA.out.fol k2).c1, (hB.out.fol k2).c0, (hB.out.fol k2).c1⟩ | go_keep) (first
    | ((go_at_call 97; (with_reducible refine (HN.out _ hv').mono ?_)); rintro e w1 ⟨v1, rfl, h1, k1⟩)
    | ((go_at_call 80; (with_reducible refine (HA.out _ _ (hv.fol k1) h1).mono ?_)); rintro e w2 ⟨v2, rfl, h2, k2'⟩; have k2 := Fol.trans k1 k2'; obtain ⟨bb2, o2, n2, c2, rfl⟩ := h2.parts2; have q0 := (HC.out.fol k2).c0; have q1 := (HC.out.fol k2).c1; have q2 := (HC.out.fol k2).f0; have q3 := (HC.out.fol k2).f1))
  go_wp2
  exact int_end rfl rfl (HC.out.fol k2) (by omega) (Fol.trans hf k2) h2
end Go.Proofs.YtckahcgolfnobaaGreatDoor
