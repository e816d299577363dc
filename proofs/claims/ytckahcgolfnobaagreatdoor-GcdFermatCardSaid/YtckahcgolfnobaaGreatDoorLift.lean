/- A region that draws its order, inside a round of a loop over a function: walked by the plain words. -/
import Derived.Test.YtckahcgolfnobaaGreatDoorAll
import Derived.Deep.RegionHeld3
namespace Go.Proofs.YtckahcgolfnobaaGreatDoor
open Go Go.RowKit

section
variable {L n : Nat} {P : Program} {ops : Array Oper} {md : Region.Mode}

theorem oper_in {o : Oper} {a : Act} {w : World} {next : Act → World → Prop} {Q : Exit → Act → World → Prop} (hd : ∀ c, o.op ≠ .defer c) (h : Oper.wp P o a w next Q) : o.wpIn (Wd.inRound L) n P a w next Q := by
  refine ⟨fun _ _ => trivial, ?_⟩
  rw [Oper.semAt_eq _ _ _ hd]
  unfold Oper.wp at h
  generalize (execOp a.eval o).run P w = r at h ⊢
  cases r with
  | ok x w' =>
    cases x <;> simp only [Oper.upon, Oper.uponIn] at h ⊢ <;> first
      | exact h
      | exact ⟨fun hx => by simp [Fence.inRound, Fence.wide] at hx, CallsIn.inRound _ (callsIn_wide_of h)⟩
      | exact h.elim
      | exact ⟨fun hx => by simp [Fence.inRound, Fence.wide] at hx, fun c cs _ => let ⟨v, w'', q, s⟩ := h c cs; ⟨v, w'', q, stepsIn_wide.2 s⟩⟩
  | halt x w' => cases x <;> simp only [Oper.upon, Oper.uponIn] at h ⊢ <;> exact h

theorem wpOp_in {Q : Exit → Act → World → Prop} (hq : ∀ a w, ¬ Q .outgrown a w) (hd : ∀ o ∈ ops.toList, ∀ c, o.op ≠ .defer c) {i : Nat} {K K' : Act → World → Prop} {a : Act} {w : World} (hK : ∀ a w, K a w → K' a w) (h : wpOp P ops Q i K a w) : wpOpIn (Wd.inRound L) n P ops Q i K' a w := by
  refine wpOpIn_mono hK ?_
  unfold wpOp at h
  unfold wpOpIn
  cases ho : ops[i]? with
  | none => rw [ho] at h; exact h
  | some o =>
    rw [ho] at h
    simp only at h ⊢
    split at h
    · rename_i hw
      rw [if_pos hw]
      rcases h with h | ⟨_, a', w', h⟩
      · exact oper_in (hd o (by rw [Array.mem_toList_iff]; exact Array.mem_of_getElem? ho)) h
      · exact (hq _ _ h).elim
    · rename_i hw
      rw [if_neg hw]
      exact ⟨fun _ _ => trivial, h⟩

theorem wpAny_in {Q : Exit → Act → World → Prop} (hq : ∀ a w, ¬ Q .outgrown a w) (hd : ∀ o ∈ ops.toList, ∀ c, o.op ≠ .defer c) : ∀ (fuel : Nat) (listed : Array Bool) (a : Act) (w : World), wpAny P md ops Q fuel listed a w → wpAnyIn (Wd.inRound L) n P md ops Q fuel listed a w
  | 0, _, _, _, h => h
  | fuel + 1, listed, _, _, h => ⟨h.1, fun i hi => wpOp_in hq hd (fun a w ha => wpAny_in hq hd fuel (listed.setIfInBounds i true) a w ha) (h.2 i hi)⟩

/-- No operation defers. -/
def noDefers (ops : Array Oper) : Bool := ops.toList.all fun o => match o.op with | .defer _ => false | _ => true
theorem noDefers_out (h : noDefers ops = true) : ∀ o ∈ ops.toList, ∀ c, o.op ≠ .defer c := fun o ho c he => by
  unfold noDefers at h
  have := List.all_eq_true.1 h o ho
  rw [he] at this
  simp at this

theorem region_held_in {Q : Exit → Act → World → Prop} {S : World → Prop} {id : Nat} {a : Act} {w : World} (hm : P.follows .mixedOrders = true) (hn : noDefers ops = true) (hq : ∀ a w, ¬ Q .outgrown a w) (hS : S w.drew)
    (h : S w.drew → wpAnyH P .any ops Q S ops.size (Array.replicate ops.size false) a w.drew) : (Code.region id ops true).wpIn (Wd.inRound L) n P Q a w :=
  wpIn_region_any hm (wpAny_in hq (noDefers_out hn) _ _ _ _ (wpAny_of_held _ _ _ _ (h hS)))
end

/-- No way out but the end. -/
def OnlyN (K : Act → World → Prop) : Exit → Act → World → Prop
  | .normal, a, w => K a w
  | _, _, _ => False
theorem calm_in {F : Fence} {n : Nat} {P : Program} {c : Code} {Q : Exit → Act → World → Prop} {a : Act} {w : World} (h : c.wpIn F n P (OnlyN (fun a w => Q .normal a w)) a w) : c.wpIn F n P Q a w :=
  wpIn_mono h (fun e a w he => by cases e <;> first | exact he | exact he.elim)

end Go.Proofs.YtckahcgolfnobaaGreatDoor
