/- The leaves: clones, limbs, additions and subtractions of limbs. -/
import Derived.Test.YtckahcgolfnobaaGreatDoorBase
namespace Go.Proofs.YtckahcgolfnobaaGreatDoor
open Go Go.RowKit

/-- What a call that hands back a row says. -/
def RSl (w : World) (l : List Nat) (e : Ending) (w' : World) : Prop := ∃ v, e = .returned v ∧ w'.ownsRow w.heap.size 43 1 v l.length (lv l) ∧ Below w.heap.size w w'
/-- A new natural, in a block of its own. -/
def RNatO (w : World) (n : Nat) (e : Ending) (w' : World) : Prop := ∃ v, e = .returned v ∧ w'.ownsRow w.heap.size 43 1 v (dig n).length (lv (dig n)) ∧ Below w.heap.size w w'
def RNat (w : World) (n : Nat) (e : Ending) (w' : World) : Prop := ∃ v, e = .returned v ∧ NatV w' v n ∧ Below w.heap.size w w'
def RInt (w : World) (z : Int) (e : Ending) (w' : World) : Prop := ∃ v, e = .returned v ∧ IntV w' v z ∧ Below w.heap.size w w'

theorem RNatO.nat {w : World} {n : Nat} {e : Ending} {w' : World} (h : RNatO w n e w') : RNat w n e w' := by
  obtain ⟨v, rfl, h1, h2⟩ := h
  exact ⟨v, rfl, sl_of_owns h1, h2⟩
theorem own_mono {w : World} {b b' : Nat} {v : Value} {n : Nat} {xs : List Value} (h : w.ownsRow b 43 1 v n xs) (hb : b' ≤ b) : w.ownsRow b' 43 1 v n xs := by
  rcases h with ⟨h1, h2 | ⟨g, cap, cur, h3, h4, h5⟩⟩
  · exact ⟨h1, .inl h2⟩
  · exact ⟨h1, .inr ⟨g, cap, cur, h3, Nat.le_trans hb h4, h5⟩⟩

theorem infoU : (Tryz.prog.info? 43).map (fun i => (i.zero, i.size, i.bytes)) = some (some (.int .u32 0), 1, 4) := by kernel_rfl

theorem info_parts' {i : Option TypeInfo} {z : Value} {a b : Nat} (h : i.map (fun i => (i.zero, i.size, i.bytes)) = some (some z, a, b)) : ∃ i0, i = some i0 ∧ i0.zero = some z ∧ i0.size = a ∧ i0.bytes = b := by
  cases i with
  | none => cases h
  | some i0 => simp at h; exact ⟨i0, rfl, h.1, h.2.1, h.2.2⟩


/-- A new row of noughts. -/
def zrow (n : Nat) : Array Value := madeCells #[.int .u32 0] n
theorem zrow_size (n : Nat) : (zrow n).size = n := by simp [zrow, madeCells]
theorem zrow_list (n : Nat) : (zrow n).toList = lv (List.replicate n 0) := by
  unfold zrow lv; rw [toList_madeCells_one]; simp
theorem make_run (l c : Nat) (hlc : l ≤ c) (hc : c ≤ 1099511627776) (w : World) :
    (Instr.makeSlice 22 (.int .i64 (l : Int)) (.int .i64 (c : Int))).run Tryz.prog w = .ok (.slice (some ⟨w.heap.size, 0, none⟩) l c) (w.alloc (.cells (zrow c) 43)) := by
  obtain ⟨i0, hi, hz0, hz1, hz2⟩ := info_parts' infoU
  have h := run_make (P := Tryz.prog) w 22 43 i0 (.int .u32 0) Tryz.underlying22 hi hz0 .i64 .i64 l c (by omega) (by omega) (by rw [hz2]; omega) (by omega)
  simp only [Int.toNat_natCast, hz1, Nat.mul_one] at h
  exact h

set_option maxHeartbeats 400000 in
set_option maxRecDepth 100000 in
theorem clone_nil (w : World) : Calls Tryz.prog 94 #[.slice none 0 0] w (RSl w []) := by
  have he := Lib.run_eql_slice_nil (P := Tryz.prog)
  go_enter Tryz.func94, Tryz.ntmps94
  go_wp2
  go_ret
  exact ⟨_, rfl, World.ownsRow_nil _ _ _ _, Below.refl _ _⟩

/-- An append, met before the walk opens it: what it hands back, and the world behind it. -/
def appRes (P : Program) (t ty : TypeId) (a b : Value) (w : World) : Value × World :=
  match Sem.run P (Builtin.append_ #[t, t] ty #[a, b]) w with
  | .ok v w' => (v, w')
  | .halt _ _ => (.nilFunc, w)
def AppOk (P : Program) (t ty : TypeId) (a b : Value) (w : World) : Prop := ∃ v w', Sem.run P (Builtin.append_ #[t, t] ty #[a, b]) w = .ok v w'
theorem run_append_hook {P : Program} {t ty : TypeId} {a b : Value} {w : World} (h : AppOk P t ty a b w) :
    Sem.run P (Builtin.append_ #[t, t] ty #[a, b]) w = .ok (appRes P t ty a b w).1 (appRes P t ty a b w).2 := by
  obtain ⟨v, w', h⟩ := h
  simp [appRes, h]
/-- The append, closed to the walk's rules. -/
def AppSem (ts : Array TypeId) (ty : TypeId) (xs : Array Value) : Sem Value := Builtin.append_ ts ty xs
theorem append_hide (ts : Array TypeId) (ty : TypeId) (xs : Array Value) : Builtin.append_ ts ty xs = AppSem ts ty xs := rfl
theorem run_appSem {P : Program} {t ty : TypeId} {a b : Value} {w : World} (h : AppOk P t ty a b w) :
    Sem.run P (AppSem #[t, t] ty #[a, b]) w = .ok (appRes P t ty a b w).1 (appRes P t ty a b w).2 := run_append_hook h
theorem appOk_of {P : Program} {t ty : TypeId} {a b v : Value} {w w' : World} (h : Sem.run P (Builtin.append_ #[t, t] ty #[a, b]) w = .ok v w') : AppOk P t ty a b w := ⟨v, w', h⟩
theorem appRes_eq {P : Program} {t ty : TypeId} {a b v : Value} {w w' : World} (h : Sem.run P (Builtin.append_ #[t, t] ty #[a, b]) w = .ok v w') : appRes P t ty a b w = (v, w') := by simp [appRes, h]

/-- The source's cells, whatever block they lie in. -/
def Cells (w : World) (a : Addr) (l : List Nat) : Prop := ∀ (j : Nat) (u : Value), (lv l)[j]? = some u → w.cell? (a.add j) = some u

theorem lv_oneCell (l : List Nat) : ∀ u ∈ lv l, u.oneCell' = true := by
  intro u hu
  simp only [lv, List.mem_map] at hu
  obtain ⟨x, _, rfl⟩ := hu
  rfl

set_option maxHeartbeats 400000 in
set_option maxRecDepth 100000 in
theorem clone_some (a : Addr) (cap : Nat) (l : List Nat) (w : World) (hl : l.length ≤ 1099511627776) (hc : Cells w a l) :
    Calls Tryz.prog 94 #[.slice (some a) l.length cap] w (RSl w l) := by
  have he := Lib.run_eql_slice_nil (P := Tryz.prog)
  obtain ⟨i0, hi, hz0, hz1, hz2⟩ := info_parts' infoU
  have hown : (w.alloc (.cells #[] 43)).ownsRow w.heap.size 43 1 (.slice (some ⟨w.heap.size, 0, none⟩) 0 0) 0 [] := World.ownsRow_made w #[] 0 (Nat.le_refl _) (Nat.zero_le _) (by simp)
  have C1 : Hid (0 + l.length ≤ maxLen) := Lib.hid (by unfold maxLen; omega)
  have C2 : Hid ((0 + l.length) * 4 ≤ 140737488355328) := Lib.hid (by omega)
  clear hl
  have hnews : ∀ (j : Nat) (u : Value), (lv l)[j]? = some u → (w.alloc (.cells #[] 43)).cell? (a.add j) = some u := fun (j : Nat) (u : Value) hu => by
    have h1 := hc j u hu
    exact (((Below.refl w.heap.size w).alloc (Nat.le_refl _) _).cell (World.block_lt_of_cell? _ _ h1)).trans h1
  go_enter Tryz.func94, Tryz.ntmps94
  go_wp2_with (at_builtin; refine wpList_append_own _ rfl _ _ 22 rfl w.heap.size 43 i0 (.int .u32 0) 1 4 Tryz.underlying22 hi hz0 hz1 hz2 rfl (by decide) _ _ _ rfl hown a l.length cap (lv l) rfl (by simp [lv_length]) hnews (lv_oneCell l) C1.out C2.out (by simp) ?_; intro v' w1 hown' hgrow _)
  simp only [Nat.zero_add, List.nil_append] at hown'
  have hg2 : (w.alloc (.cells #[] 43)).grownBy w1 (some w.heap.size) := hgrow
  go_ret
  exact ⟨_, rfl, hown', ((Below.refl _ _).alloc (Nat.le_refl _) _).grown hg2 (by simp) (by simp)⟩

theorem addr_add (b o j : Nat) : (⟨b, o, none⟩ : Addr).add j = ⟨b, o + j, none⟩ := by
  unfold Addr.add; split <;> simp_all

theorem Sl.toCells {w : World} {b off n cap : Nat} {l : List Nat} (h : Sl w (.slice (some ⟨b, off, none⟩) n cap) l) : Cells w ⟨b, off, none⟩ l := by
  intro j u hu
  rw [lv_get] at hu
  obtain ⟨x, hx, rfl⟩ := Option.map_eq_some_iff.1 hu
  have hl : l ≠ [] := by rintro rfl; simp at hx
  obtain ⟨b', off', ho, _, _, hc⟩ := h.cells hl
  cases ho
  rw [addr_add]; exact hc j x hx

theorem clone_any (v : Value) (l : List Nat) (w : World) (h : Sl w v l) (hl : l.length ≤ 1099511627776) : Calls Tryz.prog 94 #[v] w (RSl w l) := by
  obtain ⟨o, cap, rfl, hc, hn⟩ := h.slice
  by_cases hl0 : l = []
  · subst hl0
    cases o with
    | none => rw [hn rfl]; exact clone_nil w
    | some a => exact clone_some a cap [] w (by simp) (fun j u hu => by simp [lv] at hu)
  · obtain ⟨b, off, rfl, _, _, _⟩ := h.cells hl0
    exact clone_some _ cap l w hl h.toCells

end Go.Proofs.YtckahcgolfnobaaGreatDoor
