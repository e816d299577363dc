/- mul.Mul, of numbers the lesser one of which has few limbs. -/
import Derived.Test.YtckahcgolfnobaaGreatDoorKara
import Derived.Laws.EntriesVeiled
namespace Go.Proofs.YtckahcgolfnobaaGreatDoor
open Go Go.RowKit

def ways : Array Value := #[.int .i64 48, .func (.func 87) #[] #[], .int .i64 14, .func (.func 88) #[] #[], .int .i64 8, .func (.func 89) #[] #[]]
theorem ways_cell {w : World} {b : Nat} (h : w.heap[b]? = some (.cells ways 94)) (i : Nat) : w.cell? ⟨b, i, none⟩ = ways[i]? := by
  unfold World.cell?; simp [h]

structure MulS (w wr : World) : Prop where
  block : wr.heap[w.heap.size]? = some (.cells ways 94)
theorem MulS.alloc {w wr : World} (h : MulS w wr) (o : Obj) : MulS w (wr.alloc o) :=
  ⟨(Below.heap_alloc _ _ _ (Array.getElem?_eq_some_iff.1 h.block).1).trans h.block⟩

set_option maxHeartbeats 400000 in
set_option maxRecDepth 100000 in
theorem mul_walk (oa ob : Option Addr) (la lb ca cb m n : Nat) (w : World) (h : NatV w (.slice oa la ca) m) (h' : NatV w (.slice ob lb cb) n) (hmin : min la lb < 14)
    (S : C2 90 m n (m * n)) (K : C2 89 m n (m * n)) :
    Calls Tryz.prog 58 #[.slice oa la ca, .slice ob lb cb] w (RNat w (m * n)) := by
  have e1 : min (la : Int) lb = (min la lb : Nat) := by omega
  generalize min la lb = mn at *
  go_enter Tryz.func58, Tryz.ntmps58
  go_wp2
  go_loopw [6, 12] (fun _ t wr => ∃ i : Nat, i ≤ 3 ∧ t = .int .i64 i ∧ Fol w wr ∧ MulS w wr) (fun _ t _ => 3 - (intOf t).toNat)
  case atStart => exact ⟨0, by omega, rfl, Fol.new _ _, ⟨Array.getElem?_push_size⟩⟩
  case round =>
    obtain ⟨i, hi, rfl, hf, hs⟩ := hrel
    have hw := hs.block
    have h := NatV.fol h hf
    have h' := NatV.fol h' hf
    have c0 : wr.cell? ⟨w.heap.size, 0, none⟩ = some (.int .i64 48) := ways_cell hw 0
    have c1 : wr.cell? ⟨w.heap.size, 1, none⟩ = some (.func (.func 87) #[] #[]) := ways_cell hw 1
    have c2 : wr.cell? ⟨w.heap.size, 2, none⟩ = some (.int .i64 14) := ways_cell hw 2
    have c3 : wr.cell? ⟨w.heap.size, 3, none⟩ = some (.func (.func 88) #[] #[]) := ways_cell hw 3
    have c4 : wr.cell? ⟨w.heap.size, 4, none⟩ = some (.int .i64 8) := ways_cell hw 4
    have c5 : wr.cell? ⟨w.heap.size, 5, none⟩ = some (.func (.func 89) #[] #[]) := ways_cell hw 5
    rcases (show i = 0 ∨ i = 1 ∨ i = 2 ∨ i = 3 by omega) with rfl | rfl | rfl | rfl
    · go_wp2
      go_roundw
      case rel => exact ⟨1, by omega, by go_num, Fol.trans hf (Fol.new _ _), hs.alloc _⟩
      case measure => simp [intOf]
    · go_wp2
      go_roundw
      case rel => exact ⟨2, by omega, by go_num, Fol.trans hf (Fol.new _ _), hs.alloc _⟩
      case measure => simp [intOf]
    · by_cases h8 : 8 ≤ mn
      · have hX := Fol.new wr (.cells #[.int .i64 8, .func (.func 89) #[] #[]] 94)
        have h := NatV.fol h hX
        have h' := NatV.fol h' hX
        go_wp2_with (((go_at_call 89; (with_reducible refine ((K).out _ _ _ (by (with_reducible (repeat ((fail_if_success assumption); first | refine NatV.fol ?_ (by assumption) | refine IntV.fol ?_ (by assumption) | refine Sl.fol ?_ (by assumption) | refine NatV.fol ?_ (Fol.new _ _) | refine IntV.fol ?_ (Fol.new _ _) | refine Sl.fol ?_ (Fol.new _ _) | refine NatV.fol ?_ (Fol.draw _) | refine IntV.fol ?_ (Fol.draw _) | refine Sl.fol ?_ (Fol.draw _))); assumption)) (by (with_reducible (repeat ((fail_if_success assumption); first | refine NatV.fol ?_ (by assumption) | refine IntV.fol ?_ (by assumption) | refine Sl.fol ?_ (by assumption) | refine NatV.fol ?_ (Fol.new _ _) | refine IntV.fol ?_ (Fol.new _ _) | refine Sl.fol ?_ (Fol.new _ _) | refine NatV.fol ?_ (Fol.draw _) | refine IntV.fol ?_ (Fol.draw _) | refine Sl.fol ?_ (Fol.draw _))); assumption))).mono ?_)); rintro e wN ⟨vN, rfl, hN, bN⟩))
        go_ret
        exact ⟨_, rfl, by first | assumption | (with_reducible (repeat ((fail_if_success assumption); first | refine NatV.fol ?_ (by assumption) | refine IntV.fol ?_ (by assumption) | refine Sl.fol ?_ (by assumption) | refine NatV.fol ?_ (Fol.new _ _) | refine IntV.fol ?_ (Fol.new _ _) | refine Sl.fol ?_ (Fol.new _ _) | refine NatV.fol ?_ (Fol.draw _) | refine IntV.fol ?_ (Fol.draw _) | refine Sl.fol ?_ (Fol.draw _))); assumption), by (with_reducible first | exact Fol.refl _ | ((repeat ((fail_if_success assumption); first | refine Fol.trans ?_ (by assumption) | refine Fol.trans ?_ (Fol.new _ _) | refine Fol.trans ?_ (Fol.draw _))); (first | assumption | exact Fol.refl _)))⟩
      · go_wp2
        go_roundw
        case rel => exact ⟨3, by omega, by go_num, Fol.trans hf (Fol.new _ _), hs.alloc _⟩
        case measure => simp [intOf]
    · go_wp2_with (((go_at_call 90; (with_reducible refine ((S).out _ _ _ (by (with_reducible (repeat ((fail_if_success assumption); first | refine NatV.fol ?_ (by assumption) | refine IntV.fol ?_ (by assumption) | refine Sl.fol ?_ (by assumption) | refine NatV.fol ?_ (Fol.new _ _) | refine IntV.fol ?_ (Fol.new _ _) | refine Sl.fol ?_ (Fol.new _ _) | refine NatV.fol ?_ (Fol.draw _) | refine IntV.fol ?_ (Fol.draw _) | refine Sl.fol ?_ (Fol.draw _))); assumption)) (by (with_reducible (repeat ((fail_if_success assumption); first | refine NatV.fol ?_ (by assumption) | refine IntV.fol ?_ (by assumption) | refine Sl.fol ?_ (by assumption) | refine NatV.fol ?_ (Fol.new _ _) | refine IntV.fol ?_ (Fol.new _ _) | refine Sl.fol ?_ (Fol.new _ _) | refine NatV.fol ?_ (Fol.draw _) | refine IntV.fol ?_ (Fol.draw _) | refine Sl.fol ?_ (Fol.draw _))); assumption))).mono ?_)); rintro e wN ⟨vN, rfl, hN, bN⟩))
      go_ret
      exact ⟨_, rfl, by first | assumption | (with_reducible (repeat ((fail_if_success assumption); first | refine NatV.fol ?_ (by assumption) | refine IntV.fol ?_ (by assumption) | refine Sl.fol ?_ (by assumption) | refine NatV.fol ?_ (Fol.new _ _) | refine IntV.fol ?_ (Fol.new _ _) | refine Sl.fol ?_ (Fol.new _ _) | refine NatV.fol ?_ (Fol.draw _) | refine IntV.fol ?_ (Fol.draw _) | refine Sl.fol ?_ (Fol.draw _))); assumption), by (with_reducible first | exact Fol.refl _ | ((repeat ((fail_if_success assumption); first | refine Fol.trans ?_ (by assumption) | refine Fol.trans ?_ (Fol.new _ _) | refine Fol.trans ?_ (Fol.draw _))); (first | assumption | exact Fol.refl _)))⟩

/-- Products of which one factor has few limbs. -/
theorem mul_c (m n : Nat) (hm : (dig m).length ≤ 1048576) (hn : (dig n).length ≤ 1048576) (hmin : min (dig m).length (dig n).length < 14) : C2 58 m n (m * n) := by
  refine Lib.hid fun v v' w h h' => ?_
  obtain ⟨oa, ca, rfl, _, _⟩ := Sl.gen h
  obtain ⟨ob, cb, rfl, _, _⟩ := Sl.gen h'
  exact mul_walk oa ob _ _ ca cb m n w h h' hmin (Lib.hid fun v v' w h h' => school_any v v' m n w h h' (by omega)) (kara_all 1048576 (Nat.le_refl _) m n hm hn)
end Go.Proofs.YtckahcgolfnobaaGreatDoor
