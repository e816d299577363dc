/- A loop over gcd.rests; gcd.Gcd. -/
import Derived.Test.YtckahcgolfnobaaGreatDoorRests
namespace Go.Proofs.YtckahcgolfnobaaGreatDoor
open Go Go.RowKit
attribute [local go_sem] Oper.semAt_some

theorem RI.put {σ : Type} {F : σ → Nat × Nat} {X : σ → World → Prop} {w : World} {H : Nat} {rec rec' : Loop} {s : σ} {va vb : Value} {W : World} (hX : Steady w H X) (h : RI F X w H rec s va vb W) : RI F X w H rec' s va vb (W.putObj (H + 3) (.loop rec')) := by
  have hk : Keep W (W.putObj (H + 3) (.loop rec')) := keep_put (by rw [h.lrec]; intro cs fz he; cases he)
  have hh := h.hH
  exact ⟨h.below.trans (below_put (by omega)), h.hH, Boxed.put h.a (by omega), Boxed.put h.b (by omega), (World.putObj_heap_other (by omega)).trans h.dfr, World.putObj_heap_same h.size, h.na.keep hk, h.nb.keep hk, hX _ _ _ h.own ⟨fun k _ hk => World.putObj_heap_other (by omega), fun k o hk ho => (World.putObj_heap_other (by omega)).trans ho, hk⟩⟩

/-- A loop over the rests of two numbers. -/
theorem over_rests {σ : Type} (F : σ → Nat × Nat) (next : σ → σ) (X Y : σ → World → Prop) (w : World) (H : Nat) (hX : Steady w H X) (hY : Steady w H Y)
    (hn1 : ∀ s, (F (next s)).1 = (F s).2) (hn2 : ∀ s, (F (next s)).2 = (F s).1 % (F s).2) (hN : ∀ s W, Y s W → 0 < (F s).2 → X (next s) W)
    (hsz : ∀ s W, Y s W → (dig (F s).1).length < 1000000000 ∧ (dig (F s).2).length < 1000000000)
    {g : Operand} {ps : Array Tmp} {assign body : Code} {Q : Exit → Act → World → Prop} {a : Act} {W0 : World} {n : Nat} (hW0 : W0.heap.size = H + 2)
    (hg : a.eval g = .func (.func 67) #[] #[.pointer (some ⟨H, 0, none⟩), .pointer (some ⟨H + 1, 0, none⟩)]) (hps : ps.size = 2)
    (s0 : σ) (va0 vb0 : Value) (hb : Below w.heap.size w W0) (hH : w.heap.size ≤ H) (ha0 : Boxed W0 H 22 va0) (hb0 : Boxed W0 (H + 1) 22 vb0)
    (na : NatV W0 va0 (F s0).1) (nb : NatV W0 vb0 (F s0).2) (hx : X s0 W0)
    (hround : ∀ (B : Loop) (s : σ) (va vb : Value) (W : World), RI F X w H B s va vb (W.putObj (H + 3) (.loop B)) →
      assign.wpIn (Wd.inRound (H + 3)) (n - 1 - 1) Tryz.prog (Exit.then (fun a₁ w₁ => w₁ = W ∧ body.wpIn (Wd.inRound (H + 3)) (n - 1 - 1) Tryz.prog (OnlyN fun _ W' => RI F Y w H B s va vb W') a₁ (W.putObj (H + 3) (.loop B))) (fun _ _ _ => False))
        { tmps := (ps.zip #[va, vb]).foldl (fun t (p, v) => t.setIfInBounds p v) a.tmps, defers := [] } W)
    (hend : ∀ (B : Loop) (s : σ) (va vb : Value) (W : World), RI F Y w H B s va vb W → (F s).2 = 0 → Q .normal { a with defers := { target := .collected (H + 2), args := #[] } :: a.defers } W) :
    (Code.rangeFunc g ps assign body).wpIn Wd n Tryz.prog Q a W0 := by
  refine enter_wide 67 _ hg (enters_of Tryz.func67 (by kernel_rfl) rfl) ?_
  rw [hW0]
  intro fn rec hrec
  have hf : Fol W0 ((W0.alloc (.deferred (some []))).alloc (.loop (rec .ready none))) := Fol.trans (Fol.new _ _) (Fol.new _ _)
  have h0 : RI F X w H (rec .ready none) s0 va0 vb0 ((W0.alloc (.deferred (some []))).alloc (.loop (rec .ready none))) := by
    refine ⟨hb.trans (hf.mono (by omega)), hH, (hf.block _ (by omega)).trans ha0, (hf.block _ (by omega)).trans hb0, ?_, ?_, na.fol hf, nb.fol hf, hX _ _ _ hx (.of_fol hf (by omega))⟩
    · have h1 : (W0.alloc (.deferred (some []))).heap[W0.heap.size]? = some (.deferred (some [])) := Array.getElem?_push_size
      have h2 : (W0.alloc (.deferred (some []))).heap.size = W0.heap.size + 1 := World.size_alloc _ _
      rw [hW0] at h1
      exact (Below.heap_alloc _ _ _ (by rw [h2]; omega)).trans h1
    · have h2 : (W0.alloc (.deferred (some []))).heap.size = W0.heap.size + 1 := World.size_alloc _ _
      have h1 : ((W0.alloc (.deferred (some []))).alloc (.loop (rec .ready none))).heap[(W0.alloc (.deferred (some []))).heap.size]? = some (.loop (rec .ready none)) := Array.getElem?_push_size
      rw [h2, hW0] at h1; exact h1
  refine CallsIn.mono (rests1_any F next X Y w H (n - 1) (rec .ready none) hX hY hn1 hn2 hN hsz ?_ s0 va0 vb0 _ h0) ?_
  · intro s va vb W hI
    refine yield_wide hrec hI.lrec (by rw [hps]; rfl) ?_
    intro B hB
    have h1 := hround B s va vb W (hI.put hX)
    refine wpIn_mono h1 ?_
    intro e a₁ w₁ hq
    cases e with
    | normal =>
      obtain ⟨rfl, hq⟩ := hq
      refine ⟨rfl, wpIn_mono hq ?_⟩
      intro e a₂ w₂ hr
      cases e with
      | normal => exact ⟨by rw [← hB]; exact (show RI F Y w H B s va vb w₂ from hr).lrec, rfl, RI.put hY (show RI F Y w H B s va vb w₂ from hr)⟩
      | _ => exact hr.elim
    | _ => exact hq.elim
  · rintro e W ⟨hv, s, va, vb, hI, hz⟩
    exact ⟨hv, .inl ⟨hI.lrec, hend _ s va vb _ (hI.put hY) hz⟩⟩

set_option maxHeartbeats 400000 in
set_option maxRecDepth 100000 in
theorem rests_any (o o' : Option Addr) (n n' cap cap' : Nat) (w : World) :
    Calls Tryz.prog 41 #[.slice o n cap, .slice o' n' cap'] w fun e w' => e = .returned (.func (.func 67) #[] #[.pointer (some ⟨w.heap.size, 0, none⟩), .pointer (some ⟨w.heap.size + 1, 0, none⟩)]) ∧ (w.alloc (.cells #[.slice o n cap] 22)).alloc (.cells #[.slice o' n' cap'] 22) = w' := by
  have hmf : ∀ (fn : Fn) (first cap : Array Value) (w : World), (Instr.makeFunc fn first cap).run Tryz.prog w = .ok (.func fn first cap) w := fun _ _ _ _ => rfl
  go_enter Tryz.func41, Tryz.ntmps41
  go_wp2
  go_ret
  exact ⟨rfl, rfl⟩

/-- A box of the loop's owner is written. -/
theorem RI.own_set {σ : Type} {F : σ → Nat × Nat} {X Y : σ → World → Prop} {w : World} {H : Nat} {rec : Loop} {s : σ} {va vb : Value} {W : World} {k : Nat} {t : TypeId} {v : Value} (u : Value) (h : RI F X w H rec s va vb W) (hb : Boxed W k t v) (ht : t ≠ 43) (h1 : w.heap.size ≤ k) (h2 : k < H)
    (hY : Keep W (W.setCell ⟨k, 0, none⟩ u) → Y s (W.setCell ⟨k, 0, none⟩ u)) : RI F Y w H rec s va vb (W.setCell ⟨k, 0, none⟩ u) := by
  have hk : Keep W (W.setCell ⟨k, 0, none⟩ u) := Keep.setCell (p := ⟨k, 0, none⟩) hb (fun cs fz he => ht (Obj.cells.inj he).2.1) u
  have far : ∀ (j : Nat) (o : Obj), k < j → W.heap[j]? = some o → (W.setCell ⟨k, 0, none⟩ u).heap[j]? = some o := fun j o hj ho => (Below.heap_setCell _ _ _ _ (by simp; omega)).trans ho
  exact ⟨h.below.setCell h1 u, h.hH, far _ _ h2 h.a, far _ _ (by omega) h.b, far _ _ (by omega) h.dfr, far _ _ (by omega) h.lrec, h.na.keep hk, h.nb.keep hk, hY hk⟩

/-- What lies in the world in which a loop over rests begins. -/
theorem two_new (w : World) (x y : Value) (t u : TypeId) : Boxed ((w.alloc (.cells #[x] t)).alloc (.cells #[y] u)) w.heap.size t x ∧ Boxed ((w.alloc (.cells #[x] t)).alloc (.cells #[y] u)) (w.heap.size + 1) u y ∧ ((w.alloc (.cells #[x] t)).alloc (.cells #[y] u)).heap.size = w.heap.size + 2 := by
  have h1 : (w.alloc (.cells #[x] t)).heap.size = w.heap.size + 1 := World.size_alloc _ _
  refine ⟨(Boxed.new w t x).alloc _, ?_, by rw [World.size_alloc, h1]⟩
  have := Boxed.new (w.alloc (.cells #[x] t)) u y
  rwa [h1] at this

/-! ### gcd.Gcd -/
structure GX (H0 g : Nat) (s : Nat × Nat) (W : World) : Prop where
  out : ∃ v, Boxed W H0 22 v
  eq : Nat.gcd s.1 s.2 = g
  l1 : (dig s.1).length < 1000000000
  l2 : (dig s.2).length < 1000000000
structure GY (H0 g : Nat) (s : Nat × Nat) (W : World) : Prop where
  out : ∃ v, Boxed W H0 22 v ∧ NatV W v s.1
  eq : Nat.gcd s.1 s.2 = g
  l1 : (dig s.1).length < 1000000000
  l2 : (dig s.2).length < 1000000000
def gnext (s : Nat × Nat) : Nat × Nat := (s.2, s.1 % s.2)

theorem GX.steady {w : World} {H H0 g : Nat} (hw : w.heap.size ≤ H0) (hH : H0 < H) : Steady w H (GX H0 g) := fun s W W' h k =>
  ⟨by obtain ⟨v, hv⟩ := h.out; exact ⟨v, (k.same _ hw hH).trans hv⟩, h.eq, h.l1, h.l2⟩
theorem GY.steady {w : World} {H H0 g : Nat} (hw : w.heap.size ≤ H0) (hH : H0 < H) : Steady w H (GY H0 g) := fun s W W' h k =>
  ⟨by obtain ⟨v, hv, hn⟩ := h.out; exact ⟨v, (k.same _ hw hH).trans hv, hn.keep k.keep⟩, h.eq, h.l1, h.l2⟩
theorem GY.next {H0 g : Nat} {s : Nat × Nat} {W : World} (h : GY H0 g s W) : GX H0 g (gnext s) W :=
  ⟨by obtain ⟨v, hv, _⟩ := h.out; exact ⟨v, hv⟩, by rw [← h.eq]; show Nat.gcd s.2 (s.1 % s.2) = _; rw [Nat.gcd_comm s.2, ← Nat.gcd_rec, Nat.gcd_comm], h.l2, Nat.lt_of_le_of_lt (dig_length_mono (Nat.mod_le _ _)) h.l1⟩

set_option maxHeartbeats 1000000 in
set_option maxRecDepth 100000 in
theorem gcd_in (n : Nat) (va vb : Value) (a b : Nat) (w : World) (ha : NatV w va a) (hb : NatV w vb b) (hla : (dig a).length < 1000000000) (hlb : (dig b).length < 1000000000) :
    CallsIn Wd n Tryz.prog 19 #[va, vb] w (RNat w (Nat.gcd a b)) := by
  have hfn : ∀ k, Wd.fn k := fun _ => trivial
  have hdp : Wd.depth.isSome = false := rfl
  have hmf : ∀ (fn : Fn) (first cap : Array Value) (w : World), (Instr.makeFunc fn first cap).run Tryz.prog w = .ok (.func fn first cap) w := fun _ _ _ _ => rfl
  have HA := Lib.hid ha
  have HB := Lib.hid hb
  have HLA := Lib.hid hla
  have HLB := Lib.hid hlb
  obtain ⟨oa, na, ca, rfl⟩ : ∃ oa na ca, va = .slice oa na ca := by obtain ⟨o, c, h, _⟩ := HA.out.slice; exact ⟨_, _, _, h⟩
  obtain ⟨ob, nb, cb, rfl⟩ : ∃ oa na ca, vb = .slice oa na ca := by obtain ⟨o, c, h, _⟩ := HB.out.slice; exact ⟨_, _, _, h⟩
  clear ha hb hla hlb
  refine callsIn_of_wp_marks Tryz.func19 rfl trivial ?_ rfl
  simp only [Tryz.ntmps19, List.size_toArray, List.length_cons, List.length_nil, Nat.reduceAdd, Nat.reduceSub, Array.replicate_succ, Array.replicate_zero, List.push_toArray, List.append_toArray, List.nil_append, List.cons_append]
  gi_wp2
  refine (callsIn_wide_of (rests_any _ _ _ _ _ _ _)).mono ?_
  rintro e w1 ⟨rfl, rfl⟩
  have hz : (w.alloc (.cells #[.slice none 0 0] 22)).heap.size = w.heap.size + 1 := World.size_alloc _ _
  obtain ⟨b1, b2, bz⟩ := two_new (w.alloc (.cells #[.slice none 0 0] 22)) (.slice oa na ca) (.slice ob nb cb) 22 22
  have b0 : Boxed (((w.alloc (.cells #[.slice none 0 0] 22)).alloc (.cells #[.slice oa na ca] 22)).alloc (.cells #[.slice ob nb cb] 22)) w.heap.size 22 (.slice none 0 0) := ((Boxed.new w _ _).alloc _).alloc _
  have hf : Fol w (((w.alloc (.cells #[.slice none 0 0] 22)).alloc (.cells #[.slice oa na ca] 22)).alloc (.cells #[.slice ob nb cb] 22)) := Fol.trans (fol2 _ _ _) (Fol.new _ _)
  rw [hz] at b1 b2 bz
  rw [hz]
  have B0 := Lib.hid b0
  have B1 := Lib.hid b1
  have B2 := Lib.hid b2
  have BZ := Lib.hid bz
  have HF := Lib.hid hf
  clear b0 b1 b2 bz hf hz
  generalize ((w.alloc (.cells #[.slice none 0 0] 22)).alloc (.cells #[.slice oa na ca] 22)).alloc (.cells #[.slice ob nb cb] 22) = W0 at *
  gi_wp2
  refine over_rests id gnext (GX w.heap.size (Nat.gcd a b)) (GY w.heap.size (Nat.gcd a b)) w (w.heap.size + 1) (GX.steady (Nat.le_refl _) (Nat.lt_succ_self _)) (GY.steady (Nat.le_refl _) (Nat.lt_succ_self _)) (fun _ => rfl) (fun _ => rfl) (fun _ _ h _ => h.next) (fun _ _ h => ⟨h.l1, h.l2⟩)
    BZ.out rfl rfl (a, b) _ _ HF.out (Nat.le_succ _) B1.out B2.out (HA.out.fol HF.out) (HB.out.fol HF.out) ⟨⟨_, B0.out⟩, rfl, HLA.out, HLB.out⟩ ?_ ?_
  · intro B s va vb W hI
    have HI := Lib.hid hI
    obtain ⟨v, hv⟩ := hI.own.out
    obtain ⟨o3, n3, c3, hva⟩ : ∃ o n c, va = .slice o n c := by obtain ⟨o, c, h, _⟩ := hI.na.slice; exact ⟨_, _, _, h⟩
    subst hva
    have c1 := hv.cell
    have c2 := hv.frozen
    have HV := Lib.hid hv
    clear hI hv
    gi_wp2
    refine ⟨trivial, ?_⟩
    gi_wp2
    exact RI.own_set (Y := GY w.heap.size (Nat.gcd a b)) _ HI.out HV.out (by decide) (Nat.le_refl _) (Nat.lt_succ_self _) (fun hk => ⟨⟨_, Boxed.set _ HV.out, HI.out.na.keep hk⟩, HI.out.own.eq, HI.out.own.l1, HI.out.own.l2⟩)
  · intro B s va vb W hI hz
    obtain ⟨v, hv, hn⟩ := hI.own.out
    have c1 := hv.cell
    have hd := Lib.hid hI.dfr
    have hg : s.1 = Nat.gcd a b := by
      have := hI.own.eq
      rw [show s.2 = 0 from hz, Nat.gcd_zero_right] at this; exact this
    have HG := Lib.hid hg
    have HN := Lib.hid hn
    have HBL := Lib.hid hI.below
    obtain ⟨o3, n3, c3, hva⟩ : ∃ o n c, v = .slice o n c := by obtain ⟨o, c, h, _⟩ := hn.slice; exact ⟨_, _, _, h⟩
    subst hva
    clear hI hz hg hn hv
    gi_wp2
    refine ⟨by simp, .inl ⟨_, _, rfl, run_takeDeferred hd.out, ?_⟩⟩
    refine ⟨_, results_tmp rfl _ _ _, _, rfl, ?_, ?_⟩
    · rw [← HG.out]
      exact HN.out.keep (keep_put (by rw [hd.out]; intro cs fz h; cases h))
    · exact HBL.out.trans (below_put (by omega))
theorem gcd_any (va vb : Value) (a b : Nat) (w : World) (ha : NatV w va a) (hb : NatV w vb b) (hla : (dig a).length < 1000000000) (hlb : (dig b).length < 1000000000) :
    Calls Tryz.prog 19 #[va, vb] w (RNat w (Nat.gcd a b)) := callsIn_wide.1 (gcd_in 10 va vb a b w ha hb hla hlb)
end Go.Proofs.YtckahcgolfnobaaGreatDoor
