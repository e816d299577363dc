/- A new row that is written: the world with it. -/
import Derived.Test.YtckahcgolfnobaaGreatDoorLow
namespace Go.Proofs.YtckahcgolfnobaaGreatDoor
open Go Go.RowKit

/-- A world that follows another one: nothing of it has changed. -/
abbrev Fol (w w' : World) : Prop := Below w.heap.size w w'
theorem Fol.refl (w : World) : Fol w w := Below.refl _ _
theorem Fol.trans {a b c : World} (h : Fol a b) (k : Fol b c) : Fol a c := Below.trans h (k.mono h.size)
theorem Fol.drawn {a b : World} (h : Drawn a b) : Fol a b := h.below _
theorem Fol.draw (a : World) : Fol a a.drew := (Below.refl _ a).drew
theorem Fol.new (a : World) (o : Obj) : Fol a (a.alloc o) := (Below.refl _ _).alloc (Nat.le_refl _) _
theorem Fol.keep {a b : World} (h : Fol a b) : Keep a b := .of_below h
theorem NatV.fol {a b : World} {v : Value} {n : Nat} (h : NatV a v n) (k : Fol a b) : NatV b v n := Sl.keep h k.keep
theorem Sl.fol {a b : World} {v : Value} {l : List Nat} (h : Sl a v l) (k : Fol a b) : Sl b v l := Sl.keep h k.keep

/-- The world with a new row of limbs behind it. -/
def rowW (w : World) (l : List Nat) : World := w.alloc (.cells (lv l).toArray 43)
theorem rowW_size (w : World) (l : List Nat) : (rowW w l).heap.size = w.heap.size + 1 := World.size_alloc _ _
theorem rowW_heap (w : World) (l : List Nat) : (rowW w l).heap[w.heap.size]? = some (.cells (lv l).toArray 43) := Array.getElem?_push_size
theorem rowW_cell (w : World) (l : List Nat) {i : Nat} (h : i < l.length) : (rowW w l).cell? ⟨w.heap.size, i, none⟩ = some (.int .u32 (lim l i : Nat)) := by
  unfold World.cell?
  simp only [rowW_heap]
  have := lv_get l i
  rw [getD_eq h] at this
  simpa [lim] using this
theorem rowW_frozen (w : World) (l : List Nat) (i : Nat) : (rowW w l).frozen? ⟨w.heap.size, i, none⟩ = false := by
  unfold World.frozen?
  simp only [rowW_heap]
  simp
theorem lv_set (l : List Nat) (i x : Nat) : lv (l.set i x) = (lv l).set i (.int .u32 (x : Int)) := by simp [lv, List.map_set]
theorem rowW_set (w : World) (l : List Nat) (i x : Nat) : (rowW w l).setCell ⟨w.heap.size, i, none⟩ (.int .u32 (x : Int)) = rowW w (l.set i x) := by
  unfold rowW
  rw [World.setCell_alloc_new]
  simp [lv_set]
theorem rowW_below (w : World) (l : List Nat) : Below w.heap.size w (rowW w l) := (Below.refl _ _).alloc (Nat.le_refl _) _
theorem rowW_old (w : World) (l : List Nat) {a : Addr} (h : a.block < w.heap.size) : (rowW w l).cell? a = w.cell? a := (rowW_below w l).cell h
theorem rowW_sl (w : World) (l : List Nat) (n c : Nat) (hn : n = l.length) (hc : n ≤ c) : Sl (rowW w l) (.slice (some ⟨w.heap.size, 0, none⟩) n c) l := sl_new w l _ (by simp) n c hn hc
theorem rowW_keep (w : World) (l : List Nat) : Keep w (rowW w l) := .of_below (rowW_below w l)
theorem zrow_rowW (w : World) (n : Nat) : w.alloc (.cells (zrow n) 43) = rowW w (List.replicate n 0) := by
  unfold rowW
  rw [← zrow_list]

/-- A row of its own, made a natural. -/
theorem rowW_make (w : World) (l : List Nat) (n c m : Nat) (hn : n = l.length) (hc : n ≤ c) (hs : Small l) (hl : n ≤ 1099511627776) (hm : val l = m) :
    Calls Tryz.prog 69 #[.slice (some ⟨w.heap.size, 0, none⟩) n c] (rowW w l) (RNat w m) := by
  subst hm
  refine (make_any _ l _ (rowW_sl w l n c hn hc) hs (by omega)).mono ?_
  rintro e w' ⟨v, rfl, hv, hb⟩
  exact ⟨v, rfl, hv, (rowW_below w l).trans (hb.mono (by rw [rowW_size]; omega))⟩

/-- A slice's parts, whatever it lies in. -/
theorem Sl.gen {w : World} {v : Value} {l : List Nat} (h : Sl w v l) : ∃ o cap, v = .slice o l.length cap ∧ l.length ≤ cap ∧
    ∀ (i : Nat), i < l.length → ∃ b off, o = some ⟨b, off, none⟩ ∧ b < w.heap.size ∧ w.cell? ⟨b, off + i, none⟩ = some (.int .u32 (lim l i : Nat)) := by
  rcases h.open with ⟨o, cap, rfl, rfl, hn⟩ | ⟨b, off, cap, rfl, hne, hc, hb, hx⟩
  · exact ⟨o, cap, rfl, Nat.zero_le _, fun i hi => by simp at hi⟩
  · exact ⟨_, cap, rfl, hc, fun i hi => ⟨b, off, rfl, hb, hx i _ (getD_eq hi)⟩⟩

theorem val_set (l : List Nat) (j x : Nat) (h : j < l.length) : val (l.set j x) + 4294967296 ^ j * lim l j = val l + 4294967296 ^ j * x := by
  induction l generalizing j with
  | nil => simp at h
  | cons a l ih =>
    cases j with
    | zero => simp [val, lim]; omega
    | succ j =>
      have := ih j (by simpa using h)
      have e : lim (a :: l) (j + 1) = lim l j := by simp [lim]
      rw [List.set_cons_succ, e, val, val, Nat.pow_succ]
      generalize 4294967296 ^ j = P at *
      grind
theorem lim_set (l : List Nat) (j x i : Nat) : lim (l.set j x) i = if i = j ∧ j < l.length then x else lim l i := by
  unfold lim
  simp only [List.getD, List.getElem?_set]
  split
  · rename_i h
    subst h
    split
    · rename_i h; simp [h]
    · rename_i h
      simp [h]
  · rename_i h
    rw [if_neg (by omega)]
theorem small_set {l : List Nat} (hs : Small l) (j x : Nat) (hx : x < 4294967296) : Small (l.set j x) := by
  intro y hy
  rcases List.mem_or_eq_of_mem_set hy with h | h
  · exact hs y h
  · rw [h]; exact hx
theorem lim_out {l : List Nat} {i : Nat} (h : l.length ≤ i) : lim l i = 0 := getD_out h
theorem lim_replicate (n i : Nat) : lim (List.replicate n 0) i = 0 := by
  unfold lim
  simp only [List.getD, List.getElem?_replicate]
  split <;> rfl
end Go.Proofs.YtckahcgolfnobaaGreatDoor
