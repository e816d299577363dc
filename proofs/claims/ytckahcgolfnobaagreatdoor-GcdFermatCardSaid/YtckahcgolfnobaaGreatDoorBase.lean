/- What it means that a value reads, in a world, as a row of limbs, a natural, a whole number; that this outlasts whatever leaves old blocks alone. -/
import Derived.Test.YtckahcgolfnobaaGreatDoorDig
import Derived.Test.YtckahcgolfnobaaGreatDoorRows
import Derived.WalkKit
import Derived.WalkSpells
import Derived.WalkLawsBesides
import Derived.Maps.AppendAt
import Derived.Deep.AppendLies
import Derived.Laws.ResultCell
import Derived.Lib.Hide
import Derived.Deep.QuietTactic
import Derived.BigQuiet
import Derived.Lib.MinMax
namespace Go.Proofs.YtckahcgolfnobaaGreatDoor
open Go Go.RowKit

/-- The count of draws alone has turned. -/
def Drawn (w w' : World) : Prop := ∃ k, w' = w.drewN k
theorem Drawn.refl (w : World) : Drawn w w := ⟨0, rfl⟩
theorem Drawn.more {w w' : World} (h : Drawn w w') (k : Nat) : Drawn w (w'.drewN k) := by
  obtain ⟨d, rfl⟩ := h; exact ⟨d + k, by simp⟩
theorem Drawn.one {w w' : World} (h : Drawn w w') : Drawn w w'.drew := h.more 1
theorem Drawn.trans {a b c : World} (h : Drawn a b) (k : Drawn b c) : Drawn a c := by
  obtain ⟨d, rfl⟩ := k; exact h.more d
theorem Drawn.below {w w' : World} (h : Drawn w w') (B : Nat) : Below B w w' := by
  obtain ⟨d, rfl⟩ := h; exact ⟨rfl, rfl, rfl, Nat.le_refl _, fun _ _ => rfl⟩

/-- limbs as cells -/
def lv (l : List Nat) : List Value := l.map fun (x : Nat) => Value.int .u32 (x : Int)
theorem lv_length (l : List Nat) : (lv l).length = l.length := by simp [lv]
theorem lv_nil : lv [] = [] := rfl
theorem lv_append (l m : List Nat) : lv (l ++ m) = lv l ++ lv m := by simp [lv]
theorem lv_get (l : List Nat) (i : Nat) : (lv l)[i]? = (l[i]?).map fun (x : Nat) => Value.int .u32 (x : Int) := by simp [lv]

/-- v reads in w as the row of limbs l; its block is one of limbs. -/
structure Sl (w : World) (v : Value) (l : List Nat) : Prop where
  form : ∃ o cap, v = .slice o l.length cap ∧ l.length ≤ cap ∧ (o = none → cap = 0) ∧ (l = [] ∨ ∃ b off cs fz, o = some ⟨b, off, none⟩ ∧ w.heap[b]? = some (.cells cs 43 fz) ∧ ∀ (i x : Nat), l[i]? = some x → cs[off + i]? = some (.int .u32 (x : Int)))

/-- v reads in w as the natural n. -/
def NatV (w : World) (v : Value) (n : Nat) : Prop := Sl w v (dig n)

/-- Blocks of limbs that are there are left alone. -/
structure Keep (w w' : World) : Prop where
  keep : ∀ (b : Nat) (cs : Array Value) (fz : Nat × Nat), w.heap[b]? = some (Obj.cells cs 43 fz) → w'.heap[b]? = some (Obj.cells cs 43 fz)
  size : w.heap.size ≤ w'.heap.size

theorem Keep.refl (w : World) : Keep w w := ⟨fun _ _ _ h => h, Nat.le_refl _⟩
theorem Keep.trans {a b c : World} (h : Keep a b) (k : Keep b c) : Keep a c := ⟨fun i cs fz e => k.keep i cs fz (h.keep i cs fz e), Nat.le_trans h.size k.size⟩
theorem Keep.of_below {w w' : World} (h : Below w.heap.size w w') : Keep w w' :=
  ⟨fun b cs fz e => by rw [h.block b (Array.getElem?_eq_some_iff.1 e).1]; exact e, h.size⟩
theorem Keep.alloc (w : World) (o : Obj) : Keep w (w.alloc o) := .of_below ((Below.refl _ _).alloc (Nat.le_refl _) _)
theorem Keep.drew (w : World) : Keep w w.drew := ⟨fun _ _ _ h => h, Nat.le_refl _⟩
theorem Keep.setCell {w : World} {p : Addr} {o : Obj} (hp : w.heap[p.block]? = some o) (ho : ∀ cs fz, o ≠ .cells cs 43 fz) (u : Value) : Keep w (w.setCell p u) := by
  refine ⟨fun b cs fz e => ?_, by simp [World.setCell]⟩
  have hne : b ≠ p.block := fun h => by subst h; rw [hp] at e; exact ho cs fz (Option.some.inj e)
  rw [Below.heap_setCell _ _ _ _ hne]; exact e

theorem Sl.keep {w w' : World} {v : Value} {l : List Nat} (h : Sl w v l) (k : Keep w w') : Sl w' v l := by
  obtain ⟨o, cap, hv, hc, hn, h⟩ := h.form
  refine ⟨o, cap, hv, hc, hn, ?_⟩
  rcases h with h | ⟨b, off, cs, fz, ho, hb, hx⟩
  · exact .inl h
  · exact .inr ⟨b, off, cs, fz, ho, k.keep _ _ _ hb, hx⟩
theorem NatV.keep {w w' : World} {v : Value} {n : Nat} (h : NatV w v n) (k : Keep w w') : NatV w' v n := Sl.keep h k
theorem Sl.below {w w' : World} {v : Value} {l : List Nat} (h : Sl w v l) (k : Below w.heap.size w w') : Sl w' v l := h.keep (.of_below k)
theorem NatV.below {w w' : World} {v : Value} {n : Nat} (h : NatV w v n) (k : Below w.heap.size w w') : NatV w' v n := Sl.below h k

/-- The form alone: what len asks. -/
theorem Sl.slice {w : World} {v : Value} {l : List Nat} (h : Sl w v l) : ∃ o cap, v = .slice o l.length cap ∧ l.length ≤ cap ∧ (o = none → cap = 0) := by
  obtain ⟨o, cap, hv, hc, hn, _⟩ := h.form
  exact ⟨o, cap, hv, hc, hn⟩
theorem NatV.slice {w : World} {v : Value} {n : Nat} (h : NatV w v n) : ∃ o cap, v = .slice o (dig n).length cap ∧ (dig n).length ≤ cap ∧ (o = none → cap = 0) := Sl.slice h
/-- Where there is a limb: the place, and each cell. -/
theorem Sl.cells {w : World} {o : Option Addr} {n cap : Nat} {l : List Nat} (h : Sl w (.slice o n cap) l) (hl : l ≠ []) :
    ∃ b off, o = some ⟨b, off, none⟩ ∧ n = l.length ∧ b < w.heap.size ∧ ∀ (i x : Nat), l[i]? = some x → w.cell? ⟨b, off + i, none⟩ = some (.int .u32 (x : Int)) := by
  obtain ⟨o', cap', hv, hc, hn, h2⟩ := h.form
  cases hv
  rcases h2 with h2 | ⟨b, off, cs, fz, ho, hb, hx⟩
  · exact absurd h2 hl
  · exact ⟨b, off, ho, rfl, (Array.getElem?_eq_some_iff.1 hb).1, fun i x hi => by simp [World.cell?, hb, hx i x hi]⟩

/-- All at once: nil, or a place whose cells are the limbs. -/
theorem Sl.open {w : World} {v : Value} {l : List Nat} (h : Sl w v l) : (∃ o cap, v = .slice o 0 cap ∧ l = [] ∧ (o = none → cap = 0)) ∨
    ∃ b off cap, v = .slice (some ⟨b, off, none⟩) l.length cap ∧ l ≠ [] ∧ l.length ≤ cap ∧ b < w.heap.size ∧ ∀ (i x : Nat), l[i]? = some x → w.cell? ⟨b, off + i, none⟩ = some (.int .u32 (x : Int)) := by
  obtain ⟨o, cap, rfl, hc, hn, h2⟩ := h.form
  by_cases hl : l = []
  · subst hl; exact .inl ⟨o, cap, rfl, rfl, hn⟩
  · obtain ⟨b, off, rfl, _, hb, hx⟩ := h.cells hl
    exact .inr ⟨b, off, cap, rfl, hl, hc, hb, hx⟩

theorem sl_nil (w : World) (o : Option Addr) (cap : Nat) (h : o = none → cap = 0) : Sl w (.slice o 0 cap) [] := ⟨o, cap, rfl, Nat.zero_le _, h, .inl rfl⟩
theorem natV_zero (w : World) (o : Option Addr) (cap : Nat) (h : o = none → cap = 0) : NatV w (.slice o 0 cap) 0 := by unfold NatV; rw [dig_zero]; exact sl_nil w o cap h
theorem natV_nil (w : World) : NatV w (.slice none 0 0) 0 := natV_zero w none 0 (fun _ => rfl)

/-- A row of the call's own. -/
theorem sl_of_owns {w : World} {base : Nat} {v : Value} {l : List Nat} (h : w.ownsRow base 43 1 v l.length (lv l)) : Sl w v l := by
  rcases h.2 with ⟨rfl, h0⟩ | ⟨g, cap, cur, rfl, _, hg, hn, _, _, htake⟩
  · have : l = [] := List.eq_nil_of_length_eq_zero h0
    subst this; exact sl_nil w none 0 (fun _ => rfl)
  · refine ⟨_, cap, rfl, hn, (fun h => by cases h), .inr ⟨g, 0, cur, (0, 0), rfl, hg, fun i x hi => ?_⟩⟩
    have h1 : (lv l)[i]? = some (Value.int .u32 (x : Int)) := by rw [lv_get, hi]; rfl
    rw [← htake, List.getElem?_take] at h1
    split at h1
    · simpa using h1
    · cases h1

/-- A block that holds just these cells, read whole. -/
theorem sl_of_block {w : World} {b : Nat} {cs : Array Value} {fz : Nat × Nat} {l : List Nat} (hb : w.heap[b]? = some (.cells cs 43 fz)) (off n cap : Nat) (hn : n = l.length) (hcap : n ≤ cap)
    (h : ∀ (i x : Nat), l[i]? = some x → cs[off + i]? = some (.int .u32 (x : Int))) : Sl w (.slice (some ⟨b, off, none⟩) n cap) l := by
  subst hn; exact ⟨_, cap, rfl, hcap, (fun h => by cases h), .inr ⟨b, off, cs, fz, rfl, hb, h⟩⟩

/-- A part of a row. -/
theorem Sl.sub {w : World} {o : Option Addr} {n cap : Nat} {l : List Nat} (h : Sl w (.slice o n cap) l) {b off : Nat} (ho : o = some ⟨b, off, none⟩) (i k : Nat) (hk : i + k ≤ l.length) (cap' : Nat) (hc : k ≤ cap') :
    Sl w (.slice (some ⟨b, off + i, none⟩) k cap') ((l.drop i).take k) := by
  obtain ⟨o', cap2, hv, hc2, hn2, h2⟩ := h.form
  cases hv
  have hlen : k = ((l.drop i).take k).length := by simp; omega
  rcases h2 with h2 | ⟨b', off', cs, fz, ho', hb, hx⟩
  · subst h2; simp at hk; obtain ⟨rfl, rfl⟩ := hk; simpa using sl_nil w _ cap' (fun h => by cases h)
  · subst ho; cases ho'
    refine sl_of_block hb _ _ _ hlen hc fun j x hj => ?_
    rw [Nat.add_assoc]
    refine hx (i + j) x ?_
    rw [List.getElem?_take] at hj
    split at hj
    · simpa using hj
    · cases hj

/-- A whole number as a value. -/
structure IntV (w : World) (v : Value) (z : Int) : Prop where
  form : ∃ m, v = .agg #[.bool (decide (z < 0)), m] ∧ NatV w m z.natAbs
theorem IntV.keep {w w' : World} {v : Value} {z : Int} (h : IntV w v z) (k : Keep w w') : IntV w' v z := by
  obtain ⟨m, hv, hm⟩ := h.form
  exact ⟨m, hv, hm.keep k⟩
theorem IntV.below {w w' : World} {v : Value} {z : Int} (h : IntV w v z) (k : Below w.heap.size w w') : IntV w' v z := h.keep (.of_below k)

end Go.Proofs.YtckahcgolfnobaaGreatDoor
