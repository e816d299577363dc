/- nat.all, walked: a closure that carries, a row that grows. -/
import Derived.Test.YtckahcgolfnobaaGreatDoorAll
import Derived.Laws.EntriesVeiled
namespace Go.Proofs.YtckahcgolfnobaaGreatDoor
open Go Go.RowKit
attribute [local go_sem] Oper.semAt_some
attribute [local go_sem ↓] append_hide
attribute [local go_sem] run_appSem

/-- What is carried into limb k. -/
def carryAt (s t : Nat → Nat → Nat → Nat) (la lb : List Nat) : Nat → Nat
  | 0 => 0
  | k + 1 => t (lim la k) (lim lb k) (carryAt s t la lb k)
/-- The first k limbs. -/
def rowAt (s t : Nat → Nat → Nat → Nat) (la lb : List Nat) : Nat → List Nat
  | 0 => []
  | k + 1 => rowAt s t la lb k ++ [s (lim la k) (lim lb k) (carryAt s t la lb k)]
theorem rowAt_length (s t : Nat → Nat → Nat → Nat) (la lb : List Nat) (k : Nat) : (rowAt s t la lb k).length = k := by
  induction k with
  | zero => rfl
  | succ k ih => simp [rowAt, ih]
theorem carryAt_le {sf : FuncId} {s t : Nat → Nat → Nat → Nat} (hl : StepLaw sf s t) {la lb : List Nat} (ha : Small la) (hb : Small lb) (k : Nat) : carryAt s t la lb k ≤ 1 := by
  induction k with
  | zero => simp [carryAt]
  | succ k ih => exact (hl.small _ _ _ (lim_lt ha k) (lim_lt hb k) ih).2
theorem rowAt_small {sf : FuncId} {s t : Nat → Nat → Nat → Nat} (hl : StepLaw sf s t) {la lb : List Nat} (ha : Small la) (hb : Small lb) (k : Nat) : Small (rowAt s t la lb k) := by
  induction k with
  | zero => exact small_nil
  | succ k ih =>
    refine small_append.2 ⟨ih, ?_⟩
    intro x hx
    simp at hx; subst hx
    exact (hl.small _ _ _ (lim_lt ha k) (lim_lt hb k) (carryAt_le hl ha hb k)).1

/-- The closure that carries. -/
abbrev clos (H : Nat) : Value := .func (.func 119) #[] #[.pointer (some ⟨H, 0, none⟩), .pointer (some ⟨H + 1, 0, none⟩)]

/-- What holds when i limbs have been made. -/
structure AllI (sf : FuncId) (s t : Nat → Nat → Nat → Nat) (la lb : List Nat) (va vb : Value) (N : Nat) (w : World) (rec : Loop) (i : Nat) (W : World) : Prop where
  below : Below w.heap.size w W
  step : Boxed W w.heap.size 100 (.func (.func sf) #[] #[])
  carry : Boxed W (w.heap.size + 1) 43 (.int .u32 (carryAt s t la lb i : Nat))
  clo : Boxed W (w.heap.size + 2) 115 (clos w.heap.size)
  out : ∃ rv, Boxed W (w.heap.size + 4) 22 rv ∧ W.ownsRow (w.heap.size + 2) 43 1 rv i (lv (rowAt s t la lb i))
  a : Boxed W (w.heap.size + 5) 22 va
  b : Boxed W (w.heap.size + 6) 22 vb
  n : Boxed W (w.heap.size + 7) 3 (.int .i64 N)
  dfr : W.heap[w.heap.size + 8]? = some (.deferred (some []))
  lrec : W.heap[w.heap.size + 9]? = some (.loop rec)

set_option maxHeartbeats 400000 in
set_option maxRecDepth 100000 in
theorem carried_any (f : Value) (hf : ∃ sf, f = .func (.func sf) #[] #[]) (w : World) :
    Calls Tryz.prog 109 #[f] w fun e w' => e = .returned (clos w.heap.size) ∧ (w.alloc (.cells #[f] 100)).alloc (.cells #[.int .u32 0] 43) = w' := by
  have hmf : ∀ (fn : Fn) (first cap : Array Value) (w : World), (Instr.makeFunc fn first cap).run Tryz.prog w = .ok (.func fn first cap) w := fun _ _ _ _ => rfl
  obtain ⟨sf, rfl⟩ := hf
  go_enter Tryz.func109, Tryz.ntmps109
  go_wp2
  go_ret
  exact ⟨rfl, rfl⟩

/-- The iterator over two rows. -/
abbrev prs (H : Nat) : Value := .func (.func 120) #[] #[.pointer (some ⟨H + 2, 0, none⟩), .pointer (some ⟨H, 0, none⟩), .pointer (some ⟨H + 1, 0, none⟩)]

set_option maxHeartbeats 400000 in
set_option maxRecDepth 100000 in
theorem pairs_any (o o' : Option Addr) (n n' cap cap' : Nat) (N : Int) (w : World) :
    Calls Tryz.prog 110 #[.slice o n cap, .slice o' n' cap', .int .i64 N] w fun e w' => e = .returned (prs w.heap.size) ∧ ((w.alloc (.cells #[.slice o n cap] 22)).alloc (.cells #[.slice o' n' cap'] 22)).alloc (.cells #[.int .i64 N] 3) = w' := by
  have hmf : ∀ (fn : Fn) (first cap : Array Value) (w : World), (Instr.makeFunc fn first cap).run Tryz.prog w = .ok (.func fn first cap) w := fun _ _ _ _ => rfl
  go_enter Tryz.func110, Tryz.ntmps110
  go_wp2
  go_ret
  exact ⟨rfl, rfl⟩

/-- The world in which the loop begins. -/
def w8 (sf : FuncId) (N : Nat) (va vb : Value) (w : World) : World :=
  (((((((w.alloc (.cells #[.func (.func sf) #[] #[]] 100)).alloc (.cells #[.int .u32 0] 43)).alloc (.cells #[clos w.heap.size] 115)).alloc
    (.cells (zrow N) 43)).alloc (.cells #[.slice (some ⟨w.heap.size + 1 + 1 + 1, 0, none⟩) 0 N] 22)).alloc (.cells #[va] 22)).alloc (.cells #[vb] 22)).alloc (.cells #[.int .i64 N] 3)
theorem w8_size (sf : FuncId) (N : Nat) (va vb : Value) (w : World) : (w8 sf N va vb w).heap.size = w.heap.size + 8 := by
  simp [w8]

theorem Boxed.put {W : World} {B L : Nat} {t : TypeId} {v : Value} {o : Obj} (h : Boxed W B t v) (hne : B ≠ L) : Boxed (W.putObj L o) B t v := by
  unfold Boxed; rw [World.putObj_heap_other hne]; exact h

theorem AllI.drew {sf : FuncId} {s t : Nat → Nat → Nat → Nat} {la lb : List Nat} {va vb : Value} {N : Nat} {w : World} {rec : Loop} {i : Nat} {W : World} (h : AllI sf s t la lb va vb N w rec i W) : AllI sf s t la lb va vb N w rec i W.drew :=
  ⟨h.below.drew, h.step, h.carry, h.clo, h.out, h.a, h.b, h.n, h.dfr, h.lrec⟩

theorem below_put {B : Nat} {W : World} {r : Nat} {o : Obj} (h : B ≤ r) : Below B W (W.putObj r o) :=
  ⟨rfl, rfl, rfl, by simp, fun k hk => World.putObj_heap_other (by omega)⟩
theorem keep_put {W : World} {r : Nat} {o : Obj} (h : ∀ cs fz, W.heap[r]? ≠ some (.cells cs 43 fz)) : Keep W (W.putObj r o) := by
  refine ⟨fun b cs fz e => ?_, by simp⟩
  have hne : b ≠ r := fun hb => by subst hb; exact h cs fz e
  rw [World.putObj_heap_other hne]; exact e

theorem all_start (sf : FuncId) (s t : Nat → Nat → Nat → Nat) (la lb : List Nat) (va vb : Value) (N : Nat) (w : World) (rec : Loop) (hN : N < 1099511627776) :
    AllI sf s t la lb va vb N w rec 0 (((w8 sf N va vb w).alloc (.deferred (some []))).alloc (.loop rec)) := by
  have hb : Below w.heap.size w (((w8 sf N va vb w).alloc (.deferred (some []))).alloc (.loop rec)) := by
    unfold w8
    exact ((((((((((Below.refl _ _).alloc (Nat.le_refl _) _).alloc (by simp) _).alloc (by simp; omega) _).alloc (by simp; omega) _).alloc (by simp; omega) _).alloc (by simp; omega) _).alloc (by simp; omega) _).alloc (by simp; omega) _).alloc (by simp; omega) _).alloc (by simp; omega) _
  have hh : (((w8 sf N va vb w).alloc (.deferred (some []))).alloc (.loop rec)).heap = ((((((((((w.heap.push (.cells #[.func (.func sf) #[] #[]] 100)).push (.cells #[.int .u32 0] 43)).push (.cells #[clos w.heap.size] 115)).push
    (.cells (zrow N) 43)).push (.cells #[.slice (some ⟨w.heap.size + 1 + 1 + 1, 0, none⟩) 0 N] 22)).push (.cells #[va] 22)).push (.cells #[vb] 22)).push (.cells #[.int .i64 N] 3)).push (.deferred (some []))).push (.loop rec)) := rfl
  refine ⟨hb, ?_, ?_, ?_, ⟨.slice (some ⟨w.heap.size + 1 + 1 + 1, 0, none⟩) 0 N, ?_, ⟨rfl, .inr ⟨w.heap.size + 1 + 1 + 1, N, zrow N, rfl, by omega, ?_, Nat.zero_le _, by unfold maxLen; omega, by simp [zrow_size], rfl⟩⟩⟩, ?_, ?_, ?_, ?_, ?_⟩
  all_goals
    try unfold Boxed
    rw [hh]
    simp [Array.getElem_push, carryAt, Nat.add_assoc]

/-- What the body of a round meets. -/
theorem all_round {sf : FuncId} {s t : Nat → Nat → Nat → Nat} {va vb : Value} {la lb : List Nat} {N : Nat} {w : World} {rec B rec3 : Loop} {i : Nat} {W : World} (hN : N < 1099511627776) (hi : i < N) (h : AllI sf s t la lb va vb N w rec i W) :
    ∃ rv v' w3, (W.putObj (w.heap.size + 8 + 1) (.loop B)).cell? ⟨w.heap.size + 1 + 1 + 1 + 1, 0, none⟩ = some rv ∧
      Sem.run Tryz.prog (Builtin.append_ #[22, 22] 22 #[rv, .slice (some ⟨W.heap.size, 0, none⟩) 1 1])
        (((W.putObj (w.heap.size + 8 + 1) (.loop B)).setCell ⟨w.heap.size + 1, 0, none⟩ (.int .u32 (t (lim la i) (lim lb i) (carryAt s t la lb i) : Nat))).alloc (.cells #[.int .u32 (s (lim la i) (lim lb i) (carryAt s t la lb i) : Nat)] 43)).drew = .ok v' w3 ∧
      w3.cell? ⟨w.heap.size + 1 + 1 + 1 + 1, 0, none⟩ = some rv ∧ w3.frozen? ⟨w.heap.size + 1 + 1 + 1 + 1, 0, none⟩ = false ∧
      (w3.setCell ⟨w.heap.size + 1 + 1 + 1 + 1, 0, none⟩ v').heap[w.heap.size + 8 + 1]? = some (.loop B) ∧ (∃ o n c, v' = .slice o n c) ∧ (∃ o n c, rv = .slice o n c) ∧
      (∀ x, ((W.putObj (w.heap.size + 8 + 1) (.loop B)).setCell ⟨w.heap.size + 1, 0, none⟩ x).cell? ⟨w.heap.size + 1 + 1 + 1 + 1, 0, none⟩ = some rv) ∧
      (∀ x o, (((W.putObj (w.heap.size + 8 + 1) (.loop B)).setCell ⟨w.heap.size + 1, 0, none⟩ x).alloc o).cell? ⟨w.heap.size + 1 + 1 + 1 + 1, 0, none⟩ = some rv) ∧
      AllI sf s t la lb va vb N w rec3 (i + 1) ((w3.setCell ⟨w.heap.size + 1 + 1 + 1 + 1, 0, none⟩ v').putObj (w.heap.size + 8 + 1) (.loop rec3)) := by
  obtain ⟨rv, brv, hown⟩ := h.out
  obtain ⟨i0, hi0, hz0, hz1, hz2⟩ := info_parts' infoU
  have hsz := h.below.size
  have h10 : w.heap.size + 9 < W.heap.size := (Array.getElem?_eq_some_iff.1 h.lrec).1
  obtain ⟨c', hc'⟩ : ∃ c' : Value, c' = .int .u32 (t (lim la i) (lim lb i) (carryAt s t la lb i) : Nat) := ⟨_, rfl⟩
  obtain ⟨x, hx⟩ : ∃ x : Nat, x = s (lim la i) (lim lb i) (carryAt s t la lb i) := ⟨_, rfl⟩
  rw [← hc', ← hx]
  obtain ⟨W2, hW2⟩ : ∃ W2, W2 = W.putObj (w.heap.size + 8 + 1) (.loop B) := ⟨_, rfl⟩
  have z2 : W2.heap.size = W.heap.size := by rw [hW2]; simp
  have l2 : W2.heap[w.heap.size + 9]? = some (.loop B) := by rw [hW2]; exact World.putObj_heap_same h10
  have o2 : W2.ownsRow (w.heap.size + 2) 43 1 rv i (lv (rowAt s t la lb i)) := by rw [hW2]; exact ownsRow_putObj hown _ h.lrec rfl
  have b0 : Boxed W2 w.heap.size 100 (.func (.func sf) #[] #[]) := by rw [hW2]; exact Boxed.put h.step (by omega)
  have b1 : Boxed W2 (w.heap.size + 1) 43 (.int .u32 (carryAt s t la lb i : Nat)) := by rw [hW2]; exact Boxed.put h.carry (by omega)
  have b2 : Boxed W2 (w.heap.size + 2) 115 (clos w.heap.size) := by rw [hW2]; exact Boxed.put h.clo (by omega)
  have b4 : Boxed W2 (w.heap.size + 4) 22 rv := by rw [hW2]; exact Boxed.put brv (by omega)
  have b5 : Boxed W2 (w.heap.size + 5) 22 va := by rw [hW2]; exact Boxed.put h.a (by omega)
  have b6 : Boxed W2 (w.heap.size + 6) 22 vb := by rw [hW2]; exact Boxed.put h.b (by omega)
  have b7 : Boxed W2 (w.heap.size + 7) 3 (.int .i64 N) := by rw [hW2]; exact Boxed.put h.n (by omega)
  have d2 : W2.heap[w.heap.size + 8]? = some (.deferred (some [])) := by rw [hW2]; exact (World.putObj_heap_other (by omega)).trans h.dfr
  have e2 : Below w.heap.size w W2 := by rw [hW2]; exact h.below.trans (below_put (by omega))
  rw [← hW2]
  -- behind the step: the box of what is carried, the new cell
  have g1 : ∀ (k : Nat), k ≠ w.heap.size + 1 → (W2.setCell ⟨w.heap.size + 1, 0, none⟩ c').heap[k]? = W2.heap[k]? := fun k hk => Below.heap_setCell _ _ _ _ hk
  have z3 : (W2.setCell ⟨w.heap.size + 1, 0, none⟩ c').heap.size = W.heap.size := by rw [← z2]; simp [World.setCell]
  obtain ⟨X, hX⟩ : ∃ X, X = ((W2.setCell ⟨w.heap.size + 1, 0, none⟩ c').alloc (.cells #[.int .u32 (x : Int)] 43)).drew := ⟨_, rfl⟩
  have g2 : ∀ (k : Nat), k ≠ w.heap.size + 1 → k < W.heap.size → X.heap[k]? = W2.heap[k]? := fun k hk hlt => by
    rw [hX]; exact (Below.heap_alloc _ _ _ (by rw [z3]; exact hlt)).trans (g1 k hk)
  have zX : X.heap.size = W.heap.size + 1 := by
    have : X.heap.size = (W2.setCell ⟨w.heap.size + 1, 0, none⟩ c').heap.size + 1 := by rw [hX]; exact World.size_alloc _ _
    rw [this, z3]
  have oX : X.ownsRow (w.heap.size + 2) 43 1 rv i (lv (rowAt s t la lb i)) := by
    rw [hX]; exact (ownsRow_setCell_below o2 (by simp) c').alloc _
  have news : ∀ j u, [Value.int .u32 (x : Int)][j]? = some u → X.cell? ((⟨W.heap.size, 0, none⟩ : Addr).add j) = some u := fun j u hu => by
    have := cell_one_new (W2.setCell ⟨w.heap.size + 1, 0, none⟩ c') (.int .u32 (x : Int)) 43 j u hu
    rw [z3] at this
    rw [hX]; exact this
  obtain ⟨v', w3, hrun, hown', hgrow, _⟩ := run_append_own (P := Tryz.prog) X (w.heap.size + 2) 22 22 43 i0 (.int .u32 0) 1 4 Tryz.underlying22 hi0 hz0 hz1 hz2 rfl (by decide)
    rv i (lv (rowAt s t la lb i)) oX ⟨W.heap.size, 0, none⟩ 1 1 [.int .u32 (x : Int)] rfl news (by intro u hu; simp at hu; subst hu; rfl) (by unfold maxLen; omega) (by omega) (by omega)
  have hrow : lv (rowAt s t la lb i) ++ [.int .u32 (x : Int)] = lv (rowAt s t la lb (i + 1)) := by rw [rowAt, lv_append, hx]; rfl
  rw [hrow] at hown'
  have g3 : ∀ (k : Nat), k < W.heap.size + 1 → some k ≠ rv.ownBlock → w3.heap[k]? = X.heap[k]? := fun k hk hne => hgrow.block k (by omega) hne
  have nb : ∀ (k : Nat) (t' : TypeId) (u : Value), t' ≠ 43 → Boxed X k t' u → some k ≠ rv.ownBlock := fun k t' u ht hb => Boxed.not_row hb ht oX
  have keepB : ∀ (k : Nat) (t' : TypeId) (u : Value), k ≠ w.heap.size + 1 → t' ≠ 43 → Boxed W2 k t' u → Boxed w3 k t' u := fun k t' u hk ht hb => by
    have hlt : k < W.heap.size := by rw [← z2]; exact hb.lt
    have hbX : Boxed X k t' u := (g2 k hk hlt).trans hb
    exact (g3 k (by omega) (nb k t' u ht hbX)).trans hbX
  have keepO : ∀ (k : Nat) (o : Obj), k ≠ w.heap.size + 1 → o.isCells = false → W2.heap[k]? = some o → w3.heap[k]? = some o := fun k o hk ho hb => by
    have hlt : k < W.heap.size := by rw [← z2]; exact (Array.getElem?_eq_some_iff.1 hb).1
    have hbX : X.heap[k]? = some o := (g2 k hk hlt).trans hb
    refine (g3 k (by omega) ?_).trans hbX
    intro he
    rcases oX.2 with ⟨rfl, _⟩ | ⟨g, cap, cur, rfl, _, hgb, _⟩
    · simp [Value.ownBlock] at he
    · simp [Value.ownBlock] at he
      subst he
      rw [hgb] at hbX; cases hbX; cases ho
  have bX1 : Boxed X (w.heap.size + 1) 43 c' := by
    rw [hX]; exact Boxed.alloc (Boxed.set c' b1) _
  have b31 : Boxed w3 (w.heap.size + 1) 43 c' := by
    refine (g3 _ (by omega) ?_).trans bX1
    intro he
    have := oX.lt _ he.symm
    omega
  have b34 := keepB _ _ _ (by omega) (by decide) b4
  have l3 := keepO _ _ (by omega) rfl l2
  have d3 := keepO _ _ (by omega) rfl d2
  have z4 : w3.heap.size ≥ W.heap.size + 1 := by have := hgrow.size; omega
  have sh : ∀ v : Value, ∀ n xs W, World.ownsRow W (w.heap.size + 2) 43 1 v n xs → ∃ o m c, v = .slice o m c := fun v n xs W ho => by
    rcases ho.2 with ⟨rfl, _⟩ | ⟨g, cap, cur, rfl, _⟩ <;> exact ⟨_, _, _, rfl⟩
  refine ⟨rv, v', w3, b4.cell, by rw [hX] at hrun; exact hrun, b34.cell, b34.frozen, ?_, sh _ _ _ _ hown', sh _ _ _ _ hown, ?_, ?_, ?_⟩
  · exact (Below.heap_setCell _ _ _ _ (by simp)).trans l3
  · intro y
    exact (Boxed.cell (show Boxed (W2.setCell ⟨w.heap.size + 1, 0, none⟩ y) (w.heap.size + 4) 22 rv from (Below.heap_setCell _ _ _ _ (by simp)).trans b4))
  · intro y o
    exact (Boxed.cell (Boxed.alloc (show Boxed (W2.setCell ⟨w.heap.size + 1, 0, none⟩ y) (w.heap.size + 4) 22 rv from (Below.heap_setCell _ _ _ _ (by simp)).trans b4) o))
  · have fin : ∀ (k : Nat) (t' : TypeId) (u : Value), k ≠ w.heap.size + 4 → k ≠ w.heap.size + 9 → Boxed w3 k t' u → Boxed ((w3.setCell ⟨w.heap.size + 1 + 1 + 1 + 1, 0, none⟩ v').putObj (w.heap.size + 8 + 1) (.loop rec3)) k t' u := fun k t' u h1 h2 hb =>
      Boxed.put ((Below.heap_setCell _ _ _ _ (by simp; omega)).trans hb) (by omega)
    have hb3 : Below w.heap.size w w3 := by
      have ea : Below w.heap.size w X := by
        rw [hX]; exact ((e2.setCell (by simp) c').alloc (by rw [z3]; omega) _).drew
      exact ea.grown hgrow (by omega) (fun k hk => by have := oX.lt _ hk; omega)
    refine ⟨(hb3.setCell (by simp; omega) v').trans (below_put (by omega)), fin _ _ _ (by omega) (by omega) (keepB _ _ _ (by omega) (by decide) b0), ?_, fin _ _ _ (by omega) (by omega) (keepB _ _ _ (by omega) (by decide) b2), ⟨v', ?_, ?_⟩,
      fin _ _ _ (by omega) (by omega) (keepB _ _ _ (by omega) (by decide) b5), fin _ _ _ (by omega) (by omega) (keepB _ _ _ (by omega) (by decide) b6), fin _ _ _ (by omega) (by omega) (keepB _ _ _ (by omega) (by decide) b7), ?_, ?_⟩
    · have := fin _ _ _ (by omega) (by omega) b31
      rw [hc'] at this; exact this
    · exact Boxed.put (Boxed.set v' b34) (by omega)
    · refine ownsRow_putObj ?_ _ ((Below.heap_setCell _ _ _ _ (by simp)).trans l3) rfl
      exact hown'.kept (grownBy_setCell' w3 (w.heap.size + 4) v') (.inr (Boxed.not_row b34 (by decide) hown').symm)
    · exact (World.putObj_heap_other (by omega)).trans ((Below.heap_setCell _ _ _ _ (by simp)).trans d3)
    · exact World.putObj_heap_same (by simp [World.setCell]; omega)

set_option maxHeartbeats 3000000 in
set_option maxRecDepth 100000 in
theorem all_any (sf : FuncId) (s t : Nat → Nat → Nat → Nat) (hl : StepLaw sf s t) (va vb : Value) (la lb : List Nat) (N : Nat) (w : World) (ha : Sl w va la) (hb : Sl w vb lb) (sa : Small la) (sb : Small lb)
    (hN : N < 1099511627776) (hla : la.length < 1099511627776) (hlb : lb.length < 1099511627776) :
    CallsIn Wd 10 Tryz.prog 100 #[va, vb, .int .i64 N, .func (.func sf) #[] #[]] w (RNat w (val (rowAt s t la lb N))) := by
  have hfn : ∀ k, Wd.fn k := fun _ => trivial
  have hdp : Wd.depth.isSome = false := rfl
  have hmf : ∀ (fn : Fn) (first cap : Array Value) (w : World), (Instr.makeFunc fn first cap).run Tryz.prog w = .ok (.func fn first cap) w := fun _ _ _ _ => rfl
  have HA := Lib.hid ha
  have HB := Lib.hid hb
  have HL := Lib.hid hl
  clear ha hb hl
  refine callsIn_of_wp_marks Tryz.func100 rfl trivial ?_ rfl
  simp only [Tryz.ntmps100, List.size_toArray, List.length_cons, List.length_nil, Nat.reduceAdd, Nat.reduceSub, Array.replicate_succ, Array.replicate_zero, List.push_toArray, List.append_toArray, List.nil_append, List.cons_append]
  have hmk := make_run 0 N (Nat.zero_le _) (by omega)
  simp only [Int.natCast_zero] at hmk
  obtain ⟨oa, na, ca, rfl⟩ : ∃ oa na ca, va = .slice oa na ca := by obtain ⟨o, c, h, _⟩ := HA.out.slice; exact ⟨_, _, _, h⟩
  obtain ⟨ob, nb, cb, rfl⟩ : ∃ oa na ca, vb = .slice oa na ca := by obtain ⟨o, c, h, _⟩ := HB.out.slice; exact ⟨_, _, _, h⟩
  gi_wp2
  refine (callsIn_wide_of (carried_any _ ⟨_, rfl⟩ _)).mono ?_
  rintro e w1 ⟨rfl, rfl⟩
  gi_wp2
  refine (callsIn_wide_of (pairs_any _ _ _ _ _ _ _ _)).mono ?_
  rintro e w1 ⟨rfl, rfl⟩
  gi_wp2
  change Code.wpIn _ _ _ _ _ _ (w8 sf N (.slice oa na ca) (.slice ob nb cb) w)
  have h8 := w8_size sf N (.slice oa na ca) (.slice ob nb cb) w
  have H8 := Lib.hid h8
  refine enter_wide 120 _ rfl (enters_of Tryz.func120 (by kernel_rfl) rfl) ?_
  rw [h8]
  clear h8
  intro fn rec hrec
  refine CallsIn.mono (pairs1_any _ _ la lb N (w.heap.size + 5) (w.heap.size + 6) (w.heap.size + 7) (.slice oa na ca) (.slice ob nb cb) (fun i W => AllI sf s t la lb (.slice oa na ca) (.slice ob nb cb) N w (rec .ready none) i W) hN hla hlb ?box (fun i W h => h.drew) ?round _ ?start) ?_
  case box =>
    intro i W h
    have hk : Keep w W := .of_below h.below
    exact ⟨h.n.cell, h.a.cell, h.b.cell, HA.out.keep hk, HB.out.keep hk⟩
  case start => exact all_start _ _ _ _ _ _ _ _ _ _ hN
  case round =>
    intro i W hi hI
    have HI := Lib.hid hI
    clear hI
    refine yield_wide hrec HI.out.lrec rfl ?_
    intro B hB
    have HR := Lib.hid hrec
    clear hrec
    have HB2 := Lib.hid hB
    clear hB
    have HI2 := HI.out
    obtain ⟨rv, v', w3, c4, hrun, e4, f4, hl9, ⟨o', n', k', hv'⟩, ⟨o0, n0, k0, hrv⟩, g4, g5, hnext⟩ := all_round (B := B) (rec3 := rec .ready none) hN hi HI2
    subst hv' hrv
    have hok := appOk_of hrun
    have hres := appRes_eq hrun
    clear hrun
    have HN := Lib.hid hnext
    have H9 := Lib.hid hl9
    clear hnext hl9
    have hca := carryAt_le HL.out sa sb i
    have c2 : (W.putObj (w.heap.size + 8 + 1) (.loop B)).cell? ⟨w.heap.size + 1 + 1, 0, none⟩ = some (clos w.heap.size) := (Boxed.put HI2.clo (by omega)).cell
    have c0 : (W.putObj (w.heap.size + 8 + 1) (.loop B)).cell? ⟨w.heap.size, 0, none⟩ = some (.func (.func sf) #[] #[]) := (Boxed.put HI2.step (by omega)).cell
    have c1 : (W.putObj (w.heap.size + 8 + 1) (.loop B)).cell? ⟨w.heap.size + 1, 0, none⟩ = some (.int .u32 (carryAt s t la lb i : Nat)) := (Boxed.put HI2.carry (by omega)).cell
    have f1 : (W.putObj (w.heap.size + 8 + 1) (.loop B)).frozen? ⟨w.heap.size + 1, 0, none⟩ = false := (Boxed.put HI2.carry (by omega)).frozen
    have lx := lim_lt sa i
    have ly := lim_lt sb i
    clear HI2
    have C0 : Hid ((W.putObj (w.heap.size + 8 + 1) (.loop B)).drew.cell? ⟨w.heap.size, 0, none⟩ = some (.func (.func sf) #[] #[])) := c0
    have C1 : Hid ((W.putObj (w.heap.size + 8 + 1) (.loop B)).drew.cell? ⟨w.heap.size + 1, 0, none⟩ = some (.int .u32 (carryAt s t la lb i : Nat))) := c1
    have F1 : Hid ((W.putObj (w.heap.size + 8 + 1) (.loop B)).drew.frozen? ⟨w.heap.size + 1, 0, none⟩ = false) := f1
    clear c0 c1 f1
    gi_wp2
    gi_region_with (first | (gi_at_call 119; (with_reducible refine (CallsIn.inRound _ (callsIn_wide_of (carried1_any sf s t HL.out (lim la i) (lim lb i) (carryAt s t la lb i) _ _ _ lx ly hca C0.out C1.out F1.out))).mono ?_); rintro e w' ⟨rfl, rfl⟩))
    all_goals
      gi_wp2
      exact ⟨by rw [← HB2.out]; exact H9.out, rfl, HN.out⟩
  rintro e W ⟨hv, hI⟩
  refine ⟨hv, .inl ⟨hI.lrec, ?_⟩⟩
  obtain ⟨rv, brv, hown⟩ := hI.out
  have hsl : Sl (W.putObj (w.heap.size + 8 + 1) (.loop (rec .exhausted none))) rv (rowAt s t la lb N) :=
    sl_of_owns (by rw [rowAt_length]; exact ownsRow_putObj hown _ hI.lrec rfl)
  have c4 : (W.putObj (w.heap.size + 8 + 1) (.loop (rec .exhausted none))).cell? ⟨w.heap.size + 1 + 1 + 1 + 1, 0, none⟩ = some rv := (Boxed.put brv (by omega)).cell
  have hd : Hid ((W.putObj (w.heap.size + 8 + 1) (.loop (rec .exhausted none))).heap[w.heap.size + 8]? = some (.deferred (some []))) := Lib.hid ((World.putObj_heap_other (by omega)).trans hI.dfr)
  have hbl : Hid (Below w.heap.size w (W.putObj (w.heap.size + 8 + 1) (.loop (rec .exhausted none)))) := Lib.hid (hI.below.trans (below_put (by omega)))
  generalize W.putObj (w.heap.size + 8 + 1) (.loop (rec .exhausted none)) = W4 at *
  have HS := Lib.hid hsl
  have HR := Lib.hid (rowAt_small HL.out sa sb N)
  clear hI hown brv hsl hrec HA HB hmk hmf hv
  obtain ⟨o5, c5, rfl, _, _⟩ := HS.out.slice
  gi_wp2
  refine (callsIn_wide_of (make_any _ (rowAt s t la lb N) _ HS.out HR.out (by rw [rowAt_length]; omega))).mono ?_
  rintro e w' ⟨v1, rfl, hv1, hb1⟩
  have hd2 : Hid (w'.heap[w.heap.size + 8]? = some (.deferred (some []))) := Lib.hid (by rw [hb1.block _ (Array.getElem?_eq_some_iff.1 hd.out).1]; exact hd.out)
  have HV := Lib.hid hv1
  have HB1 := Lib.hid hb1
  clear hv1 hb1
  gi_wp2
  refine ⟨by simp, .inl ⟨_, _, rfl, run_takeDeferred hd2.out, ?_⟩⟩
  refine ⟨_, results_tmp rfl _ _ _, v1, rfl, HV.out.keep (keep_put (by rw [hd2.out]; intro cs fz h; cases h)), ?_⟩
  exact (hbl.out.trans (HB1.out.mono hbl.out.size)).trans (below_put (by omega))
end Go.Proofs.YtckahcgolfnobaaGreatDoor
