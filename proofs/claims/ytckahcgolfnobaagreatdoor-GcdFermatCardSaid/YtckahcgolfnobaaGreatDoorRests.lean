/- gcd.rests: the pairs of Euclid's algorithm, handed on; each loop over them by what it keeps. -/
import Derived.Test.YtckahcgolfnobaaGreatDoorDivm
import Derived.Test.YtckahcgolfnobaaGreatDoorIntc
import Derived.Sort.LoopGhostIn
namespace Go.Proofs.YtckahcgolfnobaaGreatDoor
open Go Go.RowKit
attribute [local go_sem] Oper.semAt_some

/-- All that lies between two marks is the same, and all rows are. -/
structure Same2 (lo hi : Nat) (W W' : World) : Prop where
  same : ∀ k, lo ≤ k → k < hi → W'.heap[k]? = W.heap[k]?
  late : ∀ k o, hi + 4 ≤ k → W.heap[k]? = some o → W'.heap[k]? = some o
  keep : Keep W W'
theorem Same2.of_fol {lo hi : Nat} {W W' : World} (h : Fol W W') (hh : hi ≤ W.heap.size) : Same2 lo hi W W' := ⟨fun k _ h2 => h.block k (by omega), fun k o _ ho => (h.block k (Array.getElem?_eq_some_iff.1 ho).1).trans ho, h.keep⟩
theorem Same2.trans {lo hi : Nat} {a b c : World} (h : Same2 lo hi a b) (k : Same2 lo hi b c) : Same2 lo hi a c := ⟨fun i h1 h2 => (k.same i h1 h2).trans (h.same i h1 h2), fun i o h1 h2 => k.late i o h1 (h.late i o h1 h2), h.keep.trans k.keep⟩
theorem Same2.refl {lo hi : Nat} (a : World) : Same2 lo hi a a := ⟨fun _ _ _ => rfl, fun _ _ _ h => h, .refl a⟩

/-- What holds around a loop over rests: F tells the two numbers of a state, X what else is kept. -/
structure RI {σ : Type} (F : σ → Nat × Nat) (X : σ → World → Prop) (w : World) (H : Nat) (rec : Loop) (s : σ) (va vb : Value) (W : World) : Prop where
  below : Below w.heap.size w W
  hH : w.heap.size ≤ H
  a : Boxed W H 22 va
  b : Boxed W (H + 1) 22 vb
  dfr : W.heap[H + 2]? = some (.deferred (some []))
  lrec : W.heap[H + 3]? = some (.loop rec)
  na : NatV W va (F s).1
  nb : NatV W vb (F s).2
  own : X s W

/-- X is a word on what lies below mark H alone, and on rows. -/
def Steady {σ : Type} (w : World) (H : Nat) (X : σ → World → Prop) : Prop := ∀ s W W', X s W → Same2 w.heap.size H W W' → X s W'

theorem RI.size {σ : Type} {F : σ → Nat × Nat} {X : σ → World → Prop} {w : World} {H : Nat} {rec : Loop} {s : σ} {va vb : Value} {W : World} (h : RI F X w H rec s va vb W) : H + 3 < W.heap.size :=
  (Array.getElem?_eq_some_iff.1 h.lrec).1
theorem RI.fol {σ : Type} {F : σ → Nat × Nat} {X : σ → World → Prop} {w : World} {H : Nat} {rec : Loop} {s : σ} {va vb : Value} {W W' : World} (hX : Steady w H X) (h : RI F X w H rec s va vb W) (k : Fol W W') : RI F X w H rec s va vb W' := by
  have hs := h.size
  exact ⟨Fol.trans h.below k, h.hH, (k.block _ (by omega)).trans h.a, (k.block _ (by omega)).trans h.b, (k.block _ (by omega)).trans h.dfr, (k.block _ (by omega)).trans h.lrec, h.na.fol k, h.nb.fol k, hX _ _ _ h.own (.of_fol k (by omega))⟩

/-- Another block is written. -/
theorem same2_set {lo hi : Nat} {W : World} {k : Nat} {v : Value} {t : TypeId} (u : Value) (hb : Boxed W k t v) (ht : t ≠ 43) (hk : hi ≤ k) (hk2 : k < hi + 4) : Same2 lo hi W (W.setCell ⟨k, 0, none⟩ u) :=
  ⟨fun i _ h2 => Below.heap_setCell _ _ _ _ (by simp; omega), fun i o h2 ho => (Below.heap_setCell _ _ _ _ (by simp; omega)).trans ho, Keep.setCell (p := ⟨k, 0, none⟩) hb (fun cs fz he => ht (Obj.cells.inj he).2.1) u⟩
theorem boxed_far {W : World} {k j : Nat} {t : TypeId} {v : Value} (h : Boxed W k t v) (hne : k ≠ j) (u : Value) : Boxed (W.setCell ⟨j, 0, none⟩ u) k t v := (Below.heap_setCell W ⟨j, 0, none⟩ u k hne).trans h

/-- The next pair is laid into the boxes. -/
theorem RI.next {σ : Type} {F : σ → Nat × Nat} {X Y : σ → World → Prop} {w : World} {H : Nat} {rec : Loop} {s t : σ} {va vb vr : Value} {W W2 : World} (hY : Steady w H Y) (hN : ∀ W', Y s W' → X t W') (hX : Steady w H X)
    (h1 : (F t).1 = (F s).2) (h2 : (F t).2 = (F s).1 % (F s).2) (h : RI F Y w H rec s va vb W) (k : Fol W W2) (hr : NatV W2 vr ((F s).1 % (F s).2)) :
    RI F X w H rec t vb vr ((W2.setCell ⟨H, 0, none⟩ vb).setCell ⟨H + 1, 0, none⟩ vr) := by
  have h' := h.fol hY k
  have hA := Boxed.set vb h'.a
  have s1 : Same2 w.heap.size H W2 (W2.setCell ⟨H, 0, none⟩ vb) := same2_set vb h'.a (by decide) (Nat.le_refl _) (by omega)
  have hB := boxed_far h'.b (show H + 1 ≠ H by omega) vb
  have s2 : Same2 w.heap.size H (W2.setCell ⟨H, 0, none⟩ vb) ((W2.setCell ⟨H, 0, none⟩ vb).setCell ⟨H + 1, 0, none⟩ vr) := same2_set vr hB (by decide) (by omega) (by omega)
  have s3 := s1.trans s2
  have far : ∀ (j : Nat) (o : Obj), H + 1 < j → W2.heap[j]? = some o → ((W2.setCell ⟨H, 0, none⟩ vb).setCell ⟨H + 1, 0, none⟩ vr).heap[j]? = some o := fun j o hj ho =>
    (Below.heap_setCell _ _ _ _ (by simp; omega)).trans ((Below.heap_setCell _ _ _ _ (by simp; omega)).trans ho)
  refine ⟨(h'.below.setCell (by exact h.hH) vb).setCell (by have := h.hH; show _ ≤ H + 1; omega) vr, h.hH, boxed_far hA (show H ≠ H + 1 by omega) vr, Boxed.set vr hB, far _ _ (by omega) h'.dfr, far _ _ (by omega) h'.lrec, ?_, ?_, ?_⟩
  · rw [h1]; exact h'.nb.keep s3.keep
  · rw [h2]; exact hr.keep s3.keep
  · exact hX _ _ _ (hN _ h'.own) s3

set_option maxHeartbeats 1000000 in
set_option maxRecDepth 100000 in
theorem rests1_any {σ : Type} (F : σ → Nat × Nat) (next : σ → σ) (X Y : σ → World → Prop) (w : World) (H m : Nat) (rec : Loop) (hX : Steady w H X) (hY : Steady w H Y)
    (hn1 : ∀ s, (F (next s)).1 = (F s).2) (hn2 : ∀ s, (F (next s)).2 = (F s).1 % (F s).2) (hN : ∀ s W, Y s W → 0 < (F s).2 → X (next s) W)
    (hsz : ∀ s W, Y s W → (dig (F s).1).length < 1000000000 ∧ (dig (F s).2).length < 1000000000)
    (hR : ∀ s va vb W, RI F X w H rec s va vb W → YieldAt Wd (m - 1) Tryz.prog (H + 3) #[va, vb] W (fun e W' => e = .returned (.bool true) ∧ RI F Y w H rec s va vb W'))
    (s0 : σ) (va0 vb0 : Value) (W : World) (h0 : RI F X w H rec s0 va0 vb0 W) :
    CallsIn Wd m Tryz.prog 67 #[.func (.yield (H + 3)) #[] #[], .pointer (some ⟨H, 0, none⟩), .pointer (some ⟨H + 1, 0, none⟩)] W (fun e W' => (∃ v, e = .returned v) ∧ ∃ s va vb, RI F Y w H rec s va vb W' ∧ (F s).2 = 0) := by
  have hfn : ∀ k, Wd.fn k := fun _ => trivial
  have hdp : Wd.depth.isSome = false := rfl
  have HX := Lib.hid hX
  have HY := Lib.hid hY
  have HN := Lib.hid hN
  have N1 := Lib.hid hn1
  have N2 := Lib.hid hn2
  have HS := Lib.hid hsz
  have HR := Lib.hid hR
  have H0 := Lib.hid h0
  clear hX hY hN hn1 hn2 hsz hR h0
  refine callsIn_of_wp Tryz.func67 rfl trivial ?_ rfl
  simp only [Tryz.ntmps67, List.size_toArray, List.length_cons, List.length_nil, Nat.reduceAdd, Nat.reduceSub, Array.replicate_succ, Array.replicate_zero, List.push_toArray, List.append_toArray, List.nil_append, List.cons_append]
  gi_wp2
  gi_loopg [15] ((F s0).2) (fun k _ wr => ∃ s va vb, k = (F s).2 ∧ Hid (RI F X w H rec s va vb wr))
  case atStart => exact ⟨s0, va0, vb0, rfl, H0⟩
  case round =>
    clear H0
    obtain ⟨s, va, vb, hk, HI⟩ := hrel
    have HK := Lib.hid hk
    clear hk
    obtain ⟨ob, cb, rfl, _, _⟩ := HI.out.nb.slice
    obtain ⟨oa, ca, rfl, _, _⟩ := HI.out.na.slice
    obtain ⟨f1, t1, a1, b1, hy1, hR1⟩ := HR.out s _ _ wr HI.out
    have HR1 := Lib.hid hR1
    clear hR1
    have hc1 := HI.out.a.cell
    have hc2 := HI.out.b.cell
    have HZ := Lib.hid (@dig_length_pos (F s).2)
    obtain ⟨la, hla⟩ : ∃ la, (dig (F s).1).length = la := ⟨_, rfl⟩
    obtain ⟨lb, hlb⟩ : ∃ lb, (dig (F s).2).length = lb := ⟨_, rfl⟩
    rw [hlb] at HZ
    rw [hla, hlb] at HI HR1
    rw [hla] at hc1
    rw [hlb] at hc2
    have HLA := Lib.hid hla
    have HLB := Lib.hid hlb
    rw [hla, hlb] at hy1
    clear hla hlb
    by_cases hpos : 0 < lb
    · gi_wp2
      refine RoundIn.mono HR1.out ?_
      rintro e W1 ⟨rfl, hI1⟩
      have HI1 := Lib.hid hI1
      have hd1 := hI1.a.cell
      have hd2 := hI1.b.cell
      have HD := Lib.hid (div_any _ _ _ _ W1 hI1.na hI1.nb (HS.out s W1 hI1.own).1 (HS.out s W1 hI1.own).2 (Nat.pos_of_ne_zero (HZ.out.1 hpos)))
      clear hI1 hc1 hc2
      gi_wp2_with ((gi_at_call 42; (with_reducible refine (callsIn_wide_of HD.out).mono ?_)); rintro e W2 ⟨vq, vr, rfl, hq, hr, hf⟩; obtain ⟨o3, n3, c3, rfl⟩ : ∃ o n c, vr = .slice o n c := (by obtain ⟨o, c, h, _⟩ := hr.slice; exact ⟨_, _, _, h⟩); have hI2 := HI1.out.fol HY.out hf; have he1 := hI2.a.cell; have he2 := hI2.b.cell; have he3 := hI2.a.frozen; have he4 := hI2.b.frozen; have HF := Lib.hid hf; have HRR := Lib.hid hr; clear hI2 hf hr hq)
      gi_roundg ((F s).1 % (F s).2)
      case measure => rw [HK.out]; exact Nat.mod_lt _ (Nat.pos_of_ne_zero (HZ.out.1 hpos))
      case rel => exact ⟨next s, _, _, (N2.out s).symm, Lib.hid (RI.next HY.out (fun W' h => HN.out s W' h (Nat.pos_of_ne_zero (HZ.out.1 hpos))) HX.out (N1.out s) (N2.out s) HI1.out HF.out HRR.out)⟩
    · obtain rfl : lb = 0 := by omega
      gi_wp2
      refine RoundIn.mono HR1.out ?_
      rintro e W1 ⟨rfl, hI1⟩
      have HI1 := Lib.hid hI1
      have hd1 := hI1.a.cell
      have hd2 := hI1.b.cell
      clear hI1 hc1 hc2
      gi_wp2
      go_end0
      exact ⟨⟨_, rfl⟩, s, _, _, HI1.out, by
        have := HZ.out
        omega⟩
end Go.Proofs.YtckahcgolfnobaaGreatDoor
