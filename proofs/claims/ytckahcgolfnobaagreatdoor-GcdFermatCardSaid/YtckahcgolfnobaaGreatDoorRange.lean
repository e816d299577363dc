/- Ranges over functions, outside every fence: entering the loop, one round. -/
import Derived.Test.YtckahcgolfnobaaGreatDoorCmp
import Derived.RangeFuncOwn
import Derived.RangeFuncBox
import Derived.RangeFuncCalls
import Derived.TacticsIn
import Derived.BigFrameIn
import Derived.Shelf.Abstract
namespace Go.Proofs.YtckahcgolfnobaaGreatDoor
open Go Go.RowKit

abbrev Wd : Fence := Fence.wide

/-- A loop's record. -/
def LRec (fn : FuncId) (tmps : Array Value) (ps : Array Tmp) (assign body : Code) (D : Nat) (st : LoopState) (pe : Option Code) : Loop :=
  { state := st, pending := pe, fn := fn, tmps := tmps, params := ps, assign := assign, body := body, defers := D }

theorem enter_wide {P : Program} {n : Nat} {g : Operand} {ps : Array Tmp} {assign body : Code} {Q : Exit → Act → World → Prop} {a : Act} {w : World} (gf : FuncId) (lb : Array Value)
    (hg : a.eval g = .func (.func gf) #[] lb) (eg : ∀ args w, (callFunc gf args).run P w = .ok (.enter gf args) w)
    (h : ∀ fn rec, rec = LRec fn a.tmps ps assign body w.heap.size → CallsIn Wd (n - 1) P gf (#[.func (.yield (w.heap.size + 1)) #[] #[]] ++ lb)
      ((w.alloc (.deferred (some []))).alloc (.loop (rec .ready none)))
      (fun e W => (∃ v, e = .returned v) ∧ ((W.heap[w.heap.size + 1]? = some (.loop (rec .ready none)) ∧
          Q .normal { a with defers := { target := .collected w.heap.size, args := #[] } :: a.defers } (W.putObj (w.heap.size + 1) (.loop (rec .exhausted none)))) ∨
        (W.heap[w.heap.size + 1]? = some (.loop (rec .done (some .ret))) ∧
          Q .ret { a with defers := { target := .collected w.heap.size, args := #[] } :: a.defers } (W.putObj (w.heap.size + 1) (.loop (rec .exhausted (some .ret)))))))) :
    (Code.rangeFunc g ps assign body).wpIn Wd n P Q a w := by
  refine wpIn_rangeFunc ?_
  intro fn _
  refine ⟨w.heap.size + 1, [{ target := .collected w.heap.size, args := #[] }], (w.alloc (.deferred (some []))).alloc (.loop (LRec fn a.tmps ps assign body w.heap.size .ready none)),
    { target := .fn (.func gf) lb, args := #[.func (.yield (w.heap.size + 1)) #[] #[]] }, (w.alloc (.deferred (some []))).alloc (.loop (LRec fn a.tmps ps assign body w.heap.size .ready none)), gf,
    #[.func (.yield (w.heap.size + 1)) #[] #[]] ++ lb, (w.alloc (.deferred (some []))).alloc (.loop (LRec fn a.tmps ps assign body w.heap.size .ready none)), ?_, ?_, ?_, ?_, ?_, ?_⟩
  · exact run_enterLoop_outer _ _ _ _ _
  · simp only [resolve, hg]
    simp [go_sem]
  · intro f' _; trivial
  · simp [invoke, go_sem, eg]
  · intro hd; simp [Fence.wide] at hd
  · refine (h fn _ rfl).mono ?_
    rintro e W ⟨⟨v, rfl⟩, (⟨hl, hq⟩ | ⟨hl, hq⟩)⟩
    · exact ⟨none, _, run_endLoop hl (by simp [LRec]), hq⟩
    · exact ⟨some .ret, _, run_endLoop hl (by simp [LRec]), wpIn_ret hq⟩

/-- How the body of a round ends. -/
def roundEnd (L : Nat) (rec : LoopState → Option Code → Loop) (R : Ending → World → Prop) : Exit → Act → World → Prop
  | .normal, _, W => W.heap[L]? = some (.loop (rec .busy none)) ∧ R (.returned (.bool true)) (W.putObj L (.loop (rec .ready none)))
  | .ret, _, W => W.heap[L]? = some (.loop (rec .busy none)) ∧ R (.returned (.bool false)) (W.putObj L (.loop (rec .done (some .ret))))
  | _, _, _ => False

theorem yield_wide {P : Program} {m : Nat} {L : Nat} {fn : FuncId} {tmps : Array Value} {ps : Array Tmp} {assign body : Code} {D : Nat} {args : Array Value} {W : World} {R : Ending → World → Prop} {rec : LoopState → Option Code → Loop}
    (hrec : rec = LRec fn tmps ps assign body D) (hL : W.heap[L]? = some (.loop (rec .ready none))) (hs : args.size = ps.size)
    (h : ∀ B, B = rec .busy none → assign.wpIn (Wd.inRound L) m P (Exit.then (fun a₁ w₁ => w₁ = W ∧ body.wpIn (Wd.inRound L) m P (roundEnd L rec R) a₁ (W.putObj L (.loop B))) (fun _ _ _ => False))
      { tmps := (ps.zip args).foldl (fun t (p, v) => t.setIfInBounds p v) tmps, defers := [] } W) :
    YieldAt Wd m P L args W R := by
  have h := h _ rfl
  subst hrec
  refine ⟨fn, _, assign, body, run_yield hL hs, roundIn_of_wpIn trivial (wpIn_mono h ?_)⟩
  intro e a₁ w₁ hq
  cases e with
  | normal =>
    obtain ⟨rfl, hb⟩ := hq
    refine ⟨_, run_beginRound hL rfl, wpIn_mono hb ?_⟩
    intro e a₂ w₂ hr
    cases e with
    | normal => exact ⟨_, _, run_endRound none hr.1, hr.2⟩
    | ret => exact ⟨_, _, run_endRound (some .ret) hr.1, hr.2⟩
    | exit id => exact hr.elim
    | goto l => exact hr.elim
    | panic c => exact hr.elim
    | outgrown => exact hr.elim
  | exit id => exact hq.elim
  | goto l => exact hq.elim
  | ret => exact hq.elim
  | panic c => exact hq.elim
  | outgrown => exact hq.elim

end Go.Proofs.YtckahcgolfnobaaGreatDoor
