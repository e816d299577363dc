/- div.Small. -/
import Derived.Test.YtckahcgolfnobaaGreatDoorDivk
import Derived.Test.YtckahcgolfnobaaGreatDoorAllw
import Derived.Test.YtckahcgolfnobaaGreatDoorLift
namespace Go.Proofs.YtckahcgolfnobaaGreatDoor
open Go Go.RowKit
attribute [local go_sem] Oper.semAt_some

set_option maxHeartbeats 400000 in
set_option maxRecDepth 100000 in
theorem backward1_any (l m : Nat) (la : List Nat) (N pa : Nat) (o : Option Addr) (cap : Nat) (I : Nat → World → Prop) (hN : N < 1099511627776) (hl : la.length = N)
    (hbox : ∀ i W, I i W → W.cell? ⟨pa, 0, none⟩ = some (.slice o N cap) ∧ Sl W (.slice o N cap) la)
    (hY : ∀ i W, i < N → I (i + 1) W → YieldAt Wd (m - 1) Tryz.prog l #[.int .i64 i, .int .u32 (lim la i : Nat)] W (fun e W' => e = .returned (.bool true) ∧ I i W'))
    (W : World) (h0 : I N W) :
    CallsIn Wd m Tryz.prog 108 #[.func (.yield l) #[] #[], .pointer (some ⟨pa, 0, none⟩)] W (fun e W' => (∃ v, e = .returned v) ∧ I 0 W') := by
  have hfn : ∀ k, Wd.fn k := fun _ => trivial
  have hdp : Wd.depth.isSome = false := rfl
  have HB := Lib.hid hbox
  have HY := Lib.hid hY
  have HL := Lib.hid hl
  clear hbox hY hl
  obtain ⟨b1, _⟩ := HB.out N W h0
  have H0 := Lib.hid h0
  clear h0
  refine callsIn_of_wp Tryz.func108 rfl trivial ?_ rfl
  simp only [Tryz.ntmps108, List.size_toArray, List.length_cons, List.length_nil, Nat.reduceAdd, Nat.reduceSub, Array.replicate_succ, Array.replicate_zero, List.push_toArray, List.append_toArray, List.nil_append, List.cons_append]
  gi_wp2
  gi_loopw [3] (fun t wr => ∃ j : Nat, j ≤ N ∧ t = .int .i64 ((j : Int) - 1) ∧ Hid (I j wr)) (fun t _ => (intOf t + 1).toNat)
  case atStart => exact ⟨N, Nat.le_refl _, rfl, H0⟩
  case round =>
    obtain ⟨j, hj, rfl, HI⟩ := hrel
    cases j with
    | zero =>
      gi_wp2
      go_end0
      exact ⟨⟨_, rfl⟩, HI.out⟩
    | succ j =>
      obtain ⟨c1, s1⟩ := HB.out (j + 1) wr HI.out
      obtain ⟨o', cap', he, _, hg⟩ := Sl.gen s1
      cases he
      obtain ⟨b, off, rfl, hb, hc⟩ := hg j (by rw [HL.out]; omega)
      obtain ⟨f1, t1, a1, b1, hy1, hR1⟩ := HY.out j wr (by omega) HI.out
      have HR1 := Lib.hid hR1
      clear hR1 s1 hg
      have j0 : ((j + 1 : Nat) : Int) - 1 = j := by omega
      rw [j0]
      gi_wp2_with ((with_reducible refine RoundIn.mono HR1.out ?_); rintro e w' ⟨rfl, hI'⟩)
      go_roundw
      case rel => exact ⟨j, by omega, by go_num, Lib.hid hI'⟩
      case measure => simp [intOf]

/-- The worlds of the loop: j limbs are still to come. -/
structure SmI (w : World) (la : List Nat) (d : Nat) (va : Value) (rec : Loop) (j : Nat) (W : World) : Prop where
  below : Fol w W
  m : Boxed W w.heap.size 43 (.int .u32 (d : Int))
  sl : Boxed W (w.heap.size + 2) 22 (.slice (some ⟨w.heap.size + 1, 0, none⟩) la.length la.length)
  row : ∃ (r : Nat) (out : List Nat), RowAt W (w.heap.size + 1) out ∧ Boxed W (w.heap.size + 3) 43 (.int .u32 (r : Int)) ∧ DivR la d j r out
  a : Boxed W (w.heap.size + 4) 22 va
  dfr : W.heap[w.heap.size + 5]? = some (.deferred (some []))
  lrec : W.heap[w.heap.size + 6]? = some (.loop rec)

/-- The world in which the loop begins. -/
def w5 (d N : Nat) (va : Value) (w : World) : World :=
  ((((w.alloc (.cells #[.int .u32 (d : Int)] 43)).alloc (.cells (zrow N) 43)).alloc (.cells #[.slice (some ⟨w.heap.size + 1, 0, none⟩) N N] 22)).alloc (.cells #[.int .u32 0] 43)).alloc (.cells #[va] 22)
theorem w5_size (d N : Nat) (va : Value) (w : World) : (w5 d N va w).heap.size = w.heap.size + 5 := by simp [w5]

theorem small_start (la : List Nat) (d : Nat) (va : Value) (w : World) (rec : Loop) (hd : 0 < d) : SmI w la d va rec la.length (((w5 d la.length va w).alloc (.deferred (some []))).alloc (.loop rec)) := by
  have hb : Below w.heap.size w (((w5 d la.length va w).alloc (.deferred (some []))).alloc (.loop rec)) := by
    unfold w5
    exact (((((((Below.refl _ _).alloc (Nat.le_refl _) _).alloc (by simp) _).alloc (by simp; omega) _).alloc (by simp; omega) _).alloc (by simp; omega) _).alloc (by simp; omega) _).alloc (by simp; omega) _
  have hh : (((w5 d la.length va w).alloc (.deferred (some []))).alloc (.loop rec)).heap = ((((((w.heap.push (.cells #[.int .u32 (d : Int)] 43)).push (.cells (zrow la.length) 43)).push (.cells #[.slice (some ⟨w.heap.size + 1, 0, none⟩) la.length la.length] 22)).push (.cells #[.int .u32 0] 43)).push (.cells #[va] 22)).push (.deferred (some []))).push (.loop rec) := rfl
  have hrow : (((w5 d la.length va w).alloc (.deferred (some []))).alloc (.loop rec)).heap[w.heap.size + 1]? = some (.cells (zrow la.length) 43) := by
    rw [hh]; simp [Array.getElem_push]
  refine ⟨hb, ?_, ?_, ⟨0, List.replicate la.length 0, ⟨zrow la.length, hrow, fun i x hi => ?_⟩, ?_, DivR.first la d hd⟩, ?_, ?_, ?_⟩
  case refine_3 =>
    have h1 := lv_get (List.replicate la.length 0) i
    rw [hi, ← zrow_list] at h1
    simpa using h1
  all_goals
    try unfold Boxed
    rw [hh]
    simp [Array.getElem_push, Nat.add_assoc]

/-- What is known behind a round. -/
theorem small_round {w : World} {la : List Nat} {d : Nat} {va : Value} {rec B rec3 : Loop} {j : Nat} {W : World} (h : SmI w la d va rec (j + 1) W) (hj : j < la.length) (hs : Small la) (hd : d < 4294967296) :
    ∃ (r : Nat) (out : List Nat), r < d ∧ Boxed (W.putObj (w.heap.size + 6) (.loop B)) (w.heap.size + 3) 43 (.int .u32 (r : Int)) ∧
      RowAt (W.putObj (w.heap.size + 6) (.loop B)) (w.heap.size + 1) out ∧ out.length = la.length ∧
      (∀ k, ((((W.putObj (w.heap.size + 6) (.loop B)).drewN k).setCell ⟨w.heap.size + 1, j, none⟩ (.int .u32 ((r * 4294967296 + lim la j) / d : Nat))).setCell ⟨w.heap.size + 3, 0, none⟩ (.int .u32 ((r * 4294967296 + lim la j) % d : Nat))).heap[w.heap.size + 6]? = some (.loop B) ∧
        SmI w la d va rec3 j (((((W.putObj (w.heap.size + 6) (.loop B)).drewN k).setCell ⟨w.heap.size + 1, j, none⟩ (.int .u32 ((r * 4294967296 + lim la j) / d : Nat))).setCell ⟨w.heap.size + 3, 0, none⟩ (.int .u32 ((r * 4294967296 + lim la j) % d : Nat))).putObj (w.heap.size + 6) (.loop rec3))) := by
  obtain ⟨r, out, hrow, hr, hR⟩ := h.row
  have hsz := h.below.size
  have h6 : w.heap.size + 6 < W.heap.size := (Array.getElem?_eq_some_iff.1 h.lrec).1
  have p1 : RowAt (W.putObj (w.heap.size + 6) (.loop B)) (w.heap.size + 1) out := hrow.mono (World.putObj_heap_other (by omega))
  refine ⟨r, out, hR.rest, Boxed.put hr (by omega), p1, hR.len, fun k => ?_⟩
  obtain ⟨W2, hW2⟩ : ∃ W2, W2 = (W.putObj (w.heap.size + 6) (.loop B)).drewN k := ⟨_, rfl⟩
  have z2 : W2.heap.size = W.heap.size := by rw [hW2]; simp [World.drewN]
  have g2 : ∀ i, i ≠ w.heap.size + 6 → W2.heap[i]? = W.heap[i]? := fun i hi => by rw [hW2]; exact World.putObj_heap_other (by omega)
  have l2 : W2.heap[w.heap.size + 6]? = some (.loop B) := by rw [hW2]; exact World.putObj_heap_same h6
  have e2 : Below w.heap.size w W2 := by
    rw [hW2]
    exact Below.trans (Below.trans h.below (below_put (B := w.heap.size) (r := w.heap.size + 6) (by omega))) ⟨rfl, rfl, rfl, Nat.le_refl _, fun _ _ => rfl⟩
  have r2 : RowAt W2 (w.heap.size + 1) out := hrow.mono (g2 _ (by omega))
  rw [← hW2]
  have g3 : ∀ x i, i ≠ w.heap.size + 1 → (W2.setCell ⟨w.heap.size + 1, j, none⟩ x).heap[i]? = W2.heap[i]? := fun x i hi => heap_setCell_other _ _ _ _ hi
  have hst := hR.step hj (lim_lt hs j) (by omega)
  have r3 := r2.set j ((r * 4294967296 + lim la j) / d)
  obtain ⟨q, hq⟩ : ∃ q, q = (r * 4294967296 + lim la j) / d := ⟨_, rfl⟩
  obtain ⟨r', hr'⟩ : ∃ r', r' = (r * 4294967296 + lim la j) % d := ⟨_, rfl⟩
  rw [← hq] at hst r3 ⊢
  rw [← hr'] at hst ⊢
  have b3 : Boxed (W2.setCell ⟨w.heap.size + 1, j, none⟩ (.int .u32 (q : Int))) (w.heap.size + 3) 43 (.int .u32 (r : Int)) := (g3 _ _ (by omega)).trans ((g2 _ (by omega)).trans hr)
  obtain ⟨W3, hW3⟩ : ∃ W3, W3 = W2.setCell ⟨w.heap.size + 1, j, none⟩ (.int .u32 (q : Int)) := ⟨_, rfl⟩
  rw [← hW3] at b3 r3 ⊢
  have z3 : W3.heap.size = W.heap.size := by rw [hW3, World.size_setCell, z2]
  have g4 : ∀ x i, i ≠ w.heap.size + 3 → (W3.setCell ⟨w.heap.size + 3, 0, none⟩ x).heap[i]? = W3.heap[i]? := fun x i hi => heap_setCell_other _ _ _ _ hi
  have b4 := Boxed.set (.int .u32 (r' : Int)) b3
  have g5 : ∀ i, i ≠ w.heap.size + 1 → i ≠ w.heap.size + 3 → i ≠ w.heap.size + 6 → (W3.setCell ⟨w.heap.size + 3, 0, none⟩ (.int .u32 (r' : Int))).heap[i]? = W.heap[i]? := fun i h1 h2 h3 => by
    rw [g4 _ _ h2, hW3, g3 _ _ h1, g2 _ h3]
  refine ⟨by rw [g4 _ _ (by omega), hW3, g3 _ _ (by omega)]; exact l2, ?_⟩
  have fin : ∀ i, i ≠ w.heap.size + 6 → ((W3.setCell ⟨w.heap.size + 3, 0, none⟩ (.int .u32 (r' : Int))).putObj (w.heap.size + 6) (.loop rec3)).heap[i]? = (W3.setCell ⟨w.heap.size + 3, 0, none⟩ (.int .u32 (r' : Int))).heap[i]? := fun i hi => World.putObj_heap_other (by omega)
  have e3 : Below w.heap.size w (W3.setCell ⟨w.heap.size + 3, 0, none⟩ (.int .u32 (r' : Int))) := by
    rw [hW3]; exact (e2.setCell (by simp) _).setCell (by simp) _
  refine ⟨e3.trans (below_put (by omega)), (fin _ (by omega)).trans ((g5 _ (by omega) (by omega) (by omega)).trans h.m), (fin _ (by omega)).trans ((g5 _ (by omega) (by omega) (by omega)).trans h.sl),
    ⟨r', out.set j q, (r3.mono (g4 _ _ (by omega))).mono (fin _ (by omega)), Boxed.put b4 (by omega), hst⟩, (fin _ (by omega)).trans ((g5 _ (by omega) (by omega) (by omega)).trans h.a), (fin _ (by omega)).trans ((g5 _ (by omega) (by omega) (by omega)).trans h.dfr), World.putObj_heap_same (by rw [World.size_setCell, z3]; exact h6)⟩

/-- The iterator over a row, from its end. -/
abbrev bwd (H : Nat) : Value := .func (.func 108) #[] #[.pointer (some ⟨H, 0, none⟩)]

set_option maxHeartbeats 400000 in
set_option maxRecDepth 100000 in
theorem backward_any (o : Option Addr) (n cap : Nat) (w : World) :
    Calls Tryz.prog 92 #[.slice o n cap] w fun e w' => e = .returned (bwd w.heap.size) ∧ w.alloc (.cells #[.slice o n cap] 22) = w' := by
  have hmf : ∀ (fn : Fn) (first cap : Array Value) (w : World), (Instr.makeFunc fn first cap).run Tryz.prog w = .ok (.func fn first cap) w := fun _ _ _ _ => rfl
  go_enter Tryz.func92, Tryz.ntmps92
  go_wp2
  go_ret
  exact ⟨rfl, rfl⟩

/-- A quotient, a rest by a limb, and no error. -/
def RSmall (w : World) (m d : Nat) (e : Ending) (w' : World) : Prop := ∃ v, e = .returned (.tuple #[v, .int .u32 (m % d : Nat), .int .i64 0]) ∧ NatV w' v (m / d) ∧ Fol w w'

set_option maxHeartbeats 3000000 in
set_option maxRecDepth 100000 in
theorem small_any (o : Option Addr) (cap : Nat) (la : List Nat) (d : Nat) (w : World) (ha : Sl w (.slice o la.length cap) la) (hs : Small la) (hd0 : 0 < d) (hd : d < 4294967296) (hl : la.length < 1073741824) :
    CallsIn Wd 10 Tryz.prog 68 #[.slice o la.length cap, .int .u32 d] w (RSmall w (val la) d) := by
  have hfn : ∀ k, Wd.fn k := fun _ => trivial
  have hdp : Wd.depth.isSome = false := rfl
  have HA := Lib.hid ha
  have hde : ((d : Int) == 0) = false := by rw [beq_eq_false_iff_ne]; omega
  clear ha
  refine callsIn_of_wp_marks Tryz.func68 rfl trivial ?_ rfl
  simp only [Tryz.ntmps68, List.size_toArray, List.length_cons, List.length_nil, Nat.reduceAdd, Nat.reduceSub, Array.replicate_succ, Array.replicate_zero, List.push_toArray, List.append_toArray, List.nil_append, List.cons_append]
  have hmk := make_run la.length la.length (Nat.le_refl _) (by omega)
  gi_wp2
  refine (callsIn_wide_of (backward_any _ _ _ _)).mono ?_
  rintro e w1 ⟨rfl, rfl⟩
  gi_wp2
  change Code.wpIn _ _ _ _ _ _ (w5 d la.length (.slice o la.length cap) w)
  have h5 := w5_size d la.length (.slice o la.length cap) w
  have H5 := Lib.hid h5
  refine enter_wide 108 _ rfl (enters_of Tryz.func108 (by kernel_rfl) rfl) ?_
  rw [h5]
  clear h5
  intro fn rec hrec
  refine CallsIn.mono (backward1_any _ _ la la.length (w.heap.size + 1 + 1 + 1 + 1) o cap (fun j W => SmI w la d (.slice o la.length cap) (rec .ready none) j W) (by omega) rfl ?box ?round _ ?start) ?_
  case box =>
    intro j W h
    exact ⟨h.a.cell, HA.out.fol h.below⟩
  case start => exact small_start la d _ w _ hd0
  case round =>
    intro j W hj hI
    have HI := Lib.hid hI
    clear hI
    refine yield_wide hrec HI.out.lrec rfl ?_
    intro B hB
    have HR := Lib.hid hrec
    clear hrec
    have HB2 := Lib.hid hB
    clear hB
    obtain ⟨r, out, hr, c3, hrow, hlen, hnx⟩ := small_round (B := B) (rec3 := rec .ready none) HI.out hj hs hd
    have HNX := Lib.hid hnx
    clear hnx
    have c0 : (W.putObj (w.heap.size + 5 + 1) (.loop B)).cell? ⟨w.heap.size, 0, none⟩ = some (.int .u32 (d : Int)) := (Boxed.put HI.out.m (by omega)).cell
    have c2 : (W.putObj (w.heap.size + 5 + 1) (.loop B)).cell? ⟨w.heap.size + 1 + 1, 0, none⟩ = some (.slice (some ⟨w.heap.size + 1, 0, none⟩) la.length la.length) := (Boxed.put HI.out.sl (by omega)).cell
    have hx := lim_lt hs j
    have hjl : (j : Int) < la.length := by omega
    have hjo : j < out.length := by omega
    have f1 : (W.putObj (w.heap.size + 5 + 1) (.loop B)).cell? ⟨w.heap.size + 1, j, none⟩ = some (.int .u32 (lim out j : Nat)) := hrow.cell hjo
    have f2 : (W.putObj (w.heap.size + 5 + 1) (.loop B)).frozen? ⟨w.heap.size + 1, j, none⟩ = false := hrow.frozen j
    have f3 : (W.putObj (w.heap.size + 5 + 1) (.loop B)).cell? ⟨w.heap.size + 1 + 1 + 1, 0, none⟩ = some (.int .u32 (r : Int)) := c3.cell
    have f4 : (W.putObj (w.heap.size + 5 + 1) (.loop B)).frozen? ⟨w.heap.size + 1 + 1 + 1, 0, none⟩ = false := c3.frozen
    clear hrow c3
    gi_wp2
    have hn1 : ¬ w.heap.size + 1 + 1 + 1 = w.heap.size := by omega
    have hn2 : ¬ w.heap.size = w.heap.size + 1 + 1 + 1 := by omega
    refine region_held_in (S := fun W' => W'.cell? ⟨w.heap.size, 0, none⟩ = some (.int .u32 (d : Int)) ∧ W'.cell? ⟨w.heap.size + 1 + 1, 0, none⟩ = some (.slice (some ⟨w.heap.size + 1, 0, none⟩) la.length la.length)) (by kernel_rfl) (by kernel_rfl) (fun _ _ h => h) (by go_keep) (fun hH0 => ?_)
    (refine wpAnyH_take (i := 0) (oi := ?oi1) (v := ?v1) ?hi1 (by kernel_rfl) (by kernel_rfl) (by kernel_rfl) (fun _ _ _ h => h) ?hg1 (by assumption) ?rest1; (case hi1 => (simp only [List.getElem?_toArray, List.getElem?_cons_succ, List.getElem?_cons_zero]; rfl)); (case hg1 => (refine Or.inl ⟨by rfl, ?_⟩; intro w hSw; (try dsimp only at hSw); go_simp; (try with_reducible rfl))); (try simp only [Act.put, List.setIfInBounds_toArray, List.set_cons_zero, List.set_cons_succ]))
    (refine wpAnyH_take (i := 1) (oi := ?oi2) (v := ?v2) ?hi2 (by kernel_rfl) (by kernel_rfl) (by kernel_rfl) (fun _ _ _ h => h) ?hg2 (by assumption) ?rest2; (case hi2 => (simp only [List.getElem?_toArray, List.getElem?_cons_succ, List.getElem?_cons_zero]; rfl)); (case hg2 => (refine Or.inl ⟨by rfl, ?_⟩; intro w hSw; (try dsimp only at hSw); go_simp; (try with_reducible rfl))); (try simp only [Act.put, List.setIfInBounds_toArray, List.set_cons_zero, List.set_cons_succ]))
    (refine wpAnyH_take (i := 3) (oi := ?oi3) (v := ?v3) ?hi3 (by kernel_rfl) (by kernel_rfl) (by kernel_rfl) (fun _ _ _ h => h) ?hg3 (by assumption) ?rest3; (case hi3 => (simp only [List.getElem?_toArray, List.getElem?_cons_succ, List.getElem?_cons_zero]; rfl)); (case hg3 => (refine Or.inl ⟨by rfl, ?_⟩; intro w hSw; (try dsimp only at hSw); go_simp; (try with_reducible rfl))); (try simp only [Act.put, List.setIfInBounds_toArray, List.set_cons_zero, List.set_cons_succ]))
    (refine wpAnyH_take (i := 4) (oi := ?oi4) (v := ?v4) ?hi4 (by kernel_rfl) (by kernel_rfl) (by kernel_rfl) (fun _ _ _ h => h) ?hg4 (by assumption) ?rest4; (case hi4 => (simp only [List.getElem?_toArray, List.getElem?_cons_succ, List.getElem?_cons_zero]; rfl)); (case hg4 => (refine Or.inl ⟨by rfl, ?_⟩; intro w hSw; (try dsimp only at hSw); go_simp; (try with_reducible rfl))); (try simp only [Act.put, List.setIfInBounds_toArray, List.set_cons_zero, List.set_cons_succ]))
    (refine wpAnyH_ready (rs := [2]) (by kernel_rfl) (by simp) ?_; refine AllReadyH.cons (o := ?o9) ?ho9 (fun K hK => ?step9) AllReadyH.nil; (case ho9 => (simp only [List.getElem?_toArray, List.getElem?_cons_succ, List.getElem?_cons_zero]; rfl)); go_simp)
    refine hK.out _ _ (by go_keep) (fun hH1 => ?_)
    clear hK K
    (try simp only [Act.put, List.setIfInBounds_toArray, List.set_cons_zero, List.set_cons_succ])
    clear hH0
    (refine wpAnyH_ready (rs := [5]) (by kernel_rfl) (by simp) ?_; refine AllReadyH.cons (o := ?o10) ?ho10 (fun K hK => ?step10) AllReadyH.nil; (case ho10 => (simp only [List.getElem?_toArray, List.getElem?_cons_succ, List.getElem?_cons_zero]; rfl)); go_simp)
    (go_at_call 93; (with_reducible refine (div32_any r (lim la j) d _ hd hx hr).mono ?_); rintro e w' ⟨rfl, k, rfl⟩)
    refine hK.out _ _ (by go_keep) (fun hH2 => ?_)
    clear hK K
    (try simp only [Act.put, List.setIfInBounds_toArray, List.set_cons_zero, List.set_cons_succ])
    clear hH1
    (refine wpAnyH_take (i := 6) (oi := ?oi5) (v := ?v5) ?hi5 (by kernel_rfl) (by kernel_rfl) (by kernel_rfl) (fun _ _ _ h => h) ?hg5 (by assumption) ?rest5; (case hi5 => (simp only [List.getElem?_toArray, List.getElem?_cons_succ, List.getElem?_cons_zero]; rfl)); (case hg5 => (refine Or.inl ⟨by rfl, ?_⟩; intro w hSw; (try dsimp only at hSw); go_simp; (try with_reducible rfl))); (try simp only [Act.put, List.setIfInBounds_toArray, List.set_cons_zero, List.set_cons_succ]))
    (refine wpAnyH_take (i := 7) (oi := ?oi6) (v := ?v6) ?hi6 (by kernel_rfl) (by kernel_rfl) (by kernel_rfl) (fun _ _ _ h => h) ?hg6 (by assumption) ?rest6; (case hi6 => (simp only [List.getElem?_toArray, List.getElem?_cons_succ, List.getElem?_cons_zero]; rfl)); (case hg6 => (refine Or.inl ⟨by rfl, ?_⟩; intro w hSw; (try dsimp only at hSw); go_simp; (try with_reducible rfl))); (try simp only [Act.put, List.setIfInBounds_toArray, List.set_cons_zero, List.set_cons_succ]))
    (refine wpAnyH_take (i := 8) (oi := ?oi7) (v := ?v7) ?hi7 (by kernel_rfl) (by kernel_rfl) (by kernel_rfl) (fun _ _ _ h => h) ?hg7 (by assumption) ?rest7; (case hi7 => (simp only [List.getElem?_toArray, List.getElem?_cons_succ, List.getElem?_cons_zero]; rfl)); (case hg7 => (refine Or.inl ⟨by rfl, ?_⟩; intro w hSw; (try dsimp only at hSw); go_simp; (try with_reducible rfl))); (try simp only [Act.put, List.setIfInBounds_toArray, List.set_cons_zero, List.set_cons_succ]))
    (refine wpAnyH_take (i := 9) (oi := ?oi8) (v := ?v8) ?hi8 (by kernel_rfl) (by kernel_rfl) (by kernel_rfl) (fun _ _ _ h => h) ?hg8 (by assumption) ?rest8; (case hi8 => (simp only [List.getElem?_toArray, List.getElem?_cons_succ, List.getElem?_cons_zero]; rfl)); (case hg8 => (refine Or.inl ⟨by rfl, ?_⟩; intro w hSw; (try dsimp only at hSw); go_simp; (try with_reducible rfl))); (try simp only [Act.put, List.setIfInBounds_toArray, List.set_cons_zero, List.set_cons_succ]))
    (refine wpAnyH_ready (rs := [10]) (by kernel_rfl) (by simp) ?_; refine AllReadyH.cons (o := ?o11) ?ho11 (fun K hK => ?step11) AllReadyH.nil; (case ho11 => (simp only [List.getElem?_toArray, List.getElem?_cons_succ, List.getElem?_cons_zero]; rfl)); go_simp)
    refine hK.out _ _ (by go_keep) (fun hH3 => ?_)
    clear hK K
    (try simp only [Act.put, List.setIfInBounds_toArray, List.set_cons_zero, List.set_cons_succ])
    clear hH2
    (refine wpAnyH_ready (rs := [11]) (by kernel_rfl) (by simp) ?_; refine AllReadyH.cons (o := ?o12) ?ho12 (fun K hK => ?step12) AllReadyH.nil; (case ho12 => (simp only [List.getElem?_toArray, List.getElem?_cons_succ, List.getElem?_cons_zero]; rfl)); go_simp)
    refine hK.out _ _ (by go_keep) (fun hH4 => ?_)
    clear hK K
    (try simp only [Act.put, List.setIfInBounds_toArray, List.set_cons_zero, List.set_cons_succ])
    clear hH3
    refine wpAnyH_done (by kernel_rfl) ?_ _
    all_goals
      rw [show (((r : Int) * 4294967296 + (lim la j : Nat)) / d) = (((r * 4294967296 + lim la j) / d : Nat) : Int) from rfl, show (((r : Int) * 4294967296 + (lim la j : Nat)) % d) = (((r * 4294967296 + lim la j) % d : Nat) : Int) from rfl]
      gi_wp2
      exact ⟨by rw [← HB2.out]; exact (HNX.out _).1, rfl, (HNX.out _).2⟩
  rintro e W ⟨hv, hI⟩
  refine ⟨hv, .inl ⟨hI.lrec, ?_⟩⟩
  obtain ⟨r, out, hrow, hr, hR⟩ := hI.row
  have hlast := hR.last
  have c2 : (W.putObj (w.heap.size + 5 + 1) (.loop (rec .exhausted none))).cell? ⟨w.heap.size + 1 + 1, 0, none⟩ = some (.slice (some ⟨w.heap.size + 1, 0, none⟩) la.length la.length) := (Boxed.put hI.sl (by omega)).cell
  have c3 : (W.putObj (w.heap.size + 5 + 1) (.loop (rec .exhausted none))).cell? ⟨w.heap.size + 1 + 1 + 1, 0, none⟩ = some (.int .u32 (r : Int)) := (Boxed.put hr (by omega)).cell
  have hlt : w.heap.size + 1 + 1 + 1 < (W.putObj (w.heap.size + 5 + 1) (.loop (rec .exhausted none))).heap.size := (Boxed.put hr (by omega)).lt
  have hsl : Sl (W.putObj (w.heap.size + 5 + 1) (.loop (rec .exhausted none))) (.slice (some ⟨w.heap.size + 1, 0, none⟩) la.length la.length) out := (hrow.mono (World.putObj_heap_other (by omega))).sl _ _ hR.len.symm (Nat.le_refl _)
  have hd2 : Hid ((W.putObj (w.heap.size + 5 + 1) (.loop (rec .exhausted none))).heap[w.heap.size + 5]? = some (.deferred (some []))) := Lib.hid ((World.putObj_heap_other (by omega)).trans hI.dfr)
  have hbl : Hid (Fol w (W.putObj (w.heap.size + 5 + 1) (.loop (rec .exhausted none)))) := Lib.hid (Below.trans hI.below (below_put (by omega)))
  generalize W.putObj (w.heap.size + 5 + 1) (.loop (rec .exhausted none)) = W4 at *
  have HM := Lib.hid (fun w' (hf : Fol W4 w') => make_any _ out w' (hsl.fol hf) hR.small (by rw [hR.len]; omega))
  rw [hlast.1] at HM
  have HL := Lib.hid hlast.2
  clear hI hrow hr hR hsl hlast hrec hmk
  gi_wp2
  refine calm_in ?_
  gi_region_with ((gi_at_call 69; (with_reducible refine (callsIn_wide_of (HM.out _ (Fol.draw _))).mono ?_)); rintro e w' ⟨v1, rfl, hv1, hb1⟩; have c3' : w'.cell? ⟨w.heap.size + 1 + 1 + 1, 0, none⟩ = some (.int .u32 (r : Int)) := (hb1.cell hlt).trans c3)
  all_goals
    simp only [OnlyN]
    gi_wp2
    have hd3 : w'.heap[w.heap.size + 5]? = some (.deferred (some [])) := (hb1.block _ (Array.getElem?_eq_some_iff.1 hd2.out).1).trans hd2.out
    refine ⟨by simp, .inl ⟨_, _, rfl, run_takeDeferred hd3, ?_⟩⟩
    refine ⟨_, results_tmp3 rfl _ _ _, v1, ?_, Sl.keep hv1 (keep_put (by rw [hd3]; intro cs fz h; cases h)), ?_⟩
    · rw [← HL.out]; rfl
    · exact Below.trans (Fol.trans hbl.out (Fol.trans (Fol.draw _) hb1)) (below_put (by omega))
end Go.Proofs.YtckahcgolfnobaaGreatDoor
