/- The few numbers that the laws' head tries; a region's order in a table. -/
import Derived.Test.YtckahcgolfnobaaGreatDoorQuo
import Derived.Test.YtckahcgolfnobaaGreatDoorInv
import Derived.Test.YtckahcgolfnobaaGreatDoorPow
import Derived.Test.YtckahcgolfnobaaGreatDoorFew
import Derived.Test.YtckahcgolfnobaaGreatDoorR6
import Derived.Test.YtckahcgolfnobaaGreatDoorLift

/- The few numbers that the laws' head tries. -/
namespace Go.Proofs.YtckahcgolfnobaaGreatDoor
open Go Go.RowKit

theorem dig_one {k : Nat} (h : 0 < k) (h2 : k < 4294967296) : dig k = [k] := by
  rw [dig_pos (Nat.pos_iff_ne_zero.1 h), Nat.mod_eq_of_lt h2, Nat.div_eq_of_lt h2, dig_zero]
theorem len_one {k : Nat} (h : k < 4294967296) : (dig k).length ≤ 1 := by
  rcases Nat.eq_zero_or_pos k with rfl | hp
  · rw [dig_zero]; exact Nat.zero_le _
  · rw [dig_one hp h]; exact Nat.le_refl _
theorem lit_new (k : Nat) (w : World) (h : 0 < k) (h2 : k < 4294967296) : NatV (w.alloc (.cells #[.int .u32 k] 43)) (.slice (some ⟨w.heap.size, 0, none⟩) 1 1) k := by
  unfold NatV
  rw [dig_one h h2]
  exact sl_new w [k] #[.int .u32 k] rfl 1 1 rfl (by simp)

theorem h_ext : Hid (∀ v v' w, NatV w v 12 → NatV w v' 18 → Calls Tryz.prog 14 #[v, v'] w fun e w' => ∃ vg bu bv ou nu cu ov nv cv, e = .returned (.tuple #[vg, .agg #[.bool bu, .slice ou nu cu], .agg #[.bool bv, .slice ov nv cv]]) ∧ NatV w' vg 6 ∧ IntV w' (.agg #[.bool bu, .slice ou nu cu]) (-1) ∧ IntV w' (.agg #[.bool bv, .slice ov nv cv]) 1 ∧ Fol w w') :=
  Lib.hid fun v v' w h h' => by
    refine (ext_any 1 v v' 12 18 w h h' (len_one (by omega)) (len_one (by omega)) (by omega)).mono ?_
    rintro e w' ⟨s, vg, bu, bv, ou, nu, cu, ov, nv, cv, rfl, hg, hu, hv, hi, hy, k⟩
    have hs := hi.ends hy
    have hr : (eRun (ES.first 12 18)).x = 6 ∧ (eRun (ES.first 12 18)).m.a = -1 ∧ (eRun (ES.first 12 18)).m.b = 1 := by
      simp [eRun, ES.first, ES.next, M4.step]
    rw [hs, hr.1] at hg
    rw [hs, hr.2.1] at hu
    rw [hs, hr.2.2] at hv
    exact ⟨vg, bu, bv, ou, nu, cu, ov, nv, cv, rfl, hg, hu, hv, k⟩
theorem h_ext0 : Hid (∀ v v' w, NatV w v 12 → NatV w v' 0 → Calls Tryz.prog 14 #[v, v'] w fun e w' => ∃ vg bu bv ou nu cu ov nv cv, e = .returned (.tuple #[vg, .agg #[.bool bu, .slice ou nu cu], .agg #[.bool bv, .slice ov nv cv]]) ∧ NatV w' vg 12 ∧ IntV w' (.agg #[.bool bu, .slice ou nu cu]) 1 ∧ IntV w' (.agg #[.bool bv, .slice ov nv cv]) 0 ∧ Fol w w') :=
  Lib.hid fun v v' w h h' => by
    refine (ext_any 1 v v' 12 0 w h h' (len_one (by omega)) (len_one (by omega)) (by omega)).mono ?_
    rintro e w' ⟨s, vg, bu, bv, ou, nu, cu, ov, nv, cv, rfl, hg, hu, hv, hi, hy, k⟩
    have hs := hi.ends hy
    have hr : (eRun (ES.first 12 0)).x = 12 ∧ (eRun (ES.first 12 0)).m.a = 1 ∧ (eRun (ES.first 12 0)).m.b = 0 := by
      simp [eRun, ES.first]
    rw [hs, hr.1] at hg
    rw [hs, hr.2.1] at hu
    rw [hs, hr.2.2] at hv
    exact ⟨vg, bu, bv, ou, nu, cu, ov, nv, cv, rfl, hg, hu, hv, k⟩
/-- An inverse by its defining congruence. -/
theorem inv_value {a m : Nat} {s : ES} (h : EInv a m s) (hy : s.y = 0) (hm : 0 < m) (hg : Nat.gcd a m = 1) : a * (s.m.a % (m : Int)).natAbs % m = 1 % m ∧ (s.m.a % (m : Int)).natAbs < m := by
  have hx : s.x = 1 := by rw [REx.gcd h hy, hg]
  have h1 := h.l1
  rw [hx] at h1
  have hp : 0 ≤ s.m.a % (m : Int) := Int.emod_nonneg _ (by omega)
  have hlt : s.m.a % (m : Int) < m := Int.emod_lt_of_pos _ (by omega)
  constructor
  · have e : ((a * (s.m.a % (m : Int)).natAbs % m : Nat) : Int) = ((1 % m : Nat) : Int) := by
      rw [Int.natCast_emod, Int.natCast_mul, Int.natAbs_of_nonneg hp, Int.natCast_emod, ← h1, Int.mul_emod, Int.emod_emod, ← Int.mul_emod, Int.add_mul_emod_self_right, Int.mul_comm]
    exact_mod_cast e
  · omega
theorem h_inv (a m r : Nat) (ha : a < 4294967296) (hm : m < 4294967296) (hp : 0 < m) (hg : Nat.gcd a m = 1) (hr : ∀ x, x < m → a * x % m = 1 % m → x = r) :
    Hid (∀ v v' w, NatV w v a → NatV w v' m → Calls Tryz.prog 23 #[v, v'] w fun e w' => ∃ v, e = .returned (.tuple #[v, .int .i64 0]) ∧ NatV w' v r ∧ Fol w w') :=
  Lib.hid fun v v' w h h' => by
    refine (inv_yes 1 v v' a m w h h' (len_one ha) (len_one hm) (by omega) hp hg).mono ?_
    rintro e w' ⟨v, s, rfl, hi, hy, hv, k⟩
    obtain ⟨h1, h2⟩ := inv_value hi hy hp hg
    rw [hr _ h2 h1] at hv
    exact ⟨v, rfl, hv, k⟩
theorem h_invno (a m : Nat) (ha : a < 4294967296) (hm : m < 4294967296) (hno : m = 0 ∨ Nat.gcd a m ≠ 1) : Hid (∀ v v' w, NatV w v a → NatV w v' m → Calls Tryz.prog 23 #[v, v'] w (RInvNo w)) :=
  Lib.hid fun v v' w h h' => inv_no 1 v v' a m w h h' (len_one ha) (len_one hm) (by omega) hno
theorem h_pow (a x m r : Nat) (ha : a < 4294967296) (hx : x < 4294967296) (hm : m < 4294967296) (hp : 0 < m) (hr : a ^ x % m = r) : Hid (∀ va ve vm w, NatV w va a → NatV w ve x → NatV w vm m → Calls Tryz.prog 25 #[va, ve, vm] w (RPow w r)) :=
  Lib.hid fun va ve vm w h h' h'' => by
    have h1 := len_one ha
    have h2 := len_one hx
    have h3 := len_one hm
    have := pow_any va ve vm a x m w h h' h'' (by omega) (by omega) (by omega) hp
    rwa [hr] at this
theorem h_powno : Hid (∀ va ve vm w, NatV w vm 0 → Calls Tryz.prog 25 #[va, ve, vm] w fun e w' => e = .returned (.tuple #[.slice none 0 0, .int .i64 3]) ∧ Fol w w') :=
  Lib.hid fun va ve vm w h => pow_zero va ve vm w h
theorem h_quots (a b : Nat) (l : List Nat) (ha : a < 4294967296) (hb : b < 4294967296) (hl : quots a b = l) : Hid (∀ v v' w, NatV w v a → NatV w v' b → Calls Tryz.prog 16 #[v, v'] w (RNats w l)) :=
  Lib.hid fun v v' w h h' => by
    have := quots_any 1 v v' a b w h h' (len_one ha) (len_one hb) (by omega)
    rwa [hl] at this
theorem h_gcd (a b g : Nat) (ha : a < 4294967296) (hb : b < 4294967296) (hg : Nat.gcd a b = g) : Hid (∀ v v' w, NatV w v a → NatV w v' b → Calls Tryz.prog 19 #[v, v'] w (RNat w g)) :=
  Lib.hid fun v v' w h h' => by
    have h1 := len_one ha
    have h2 := len_one hb
    have := gcd_any v v' a b w h h' (by omega) (by omega)
    rwa [hg] at this
theorem h_leh (a b g : Nat) (ha : a < 4294967296) (hb : b < 4294967296) (hg : Nat.gcd a b = g) : Hid (∀ v v' w, NatV w v a → NatV w v' b → Calls Tryz.prog 20 #[v, v'] w (RNat w g)) :=
  Lib.hid fun v v' w h h' => by
    have h1 := len_one ha
    have h2 := len_one hb
    have h3 := len_one (show min a b < 4294967296 by omega)
    have := lehmer_few v v' a b w h h' (by omega) (by omega) (by omega)
    rwa [hg] at this
theorem h_half (a b g : Nat) (ha : a < 4294967296) (hb : b < 4294967296) (hg : Nat.gcd a b = g) : Hid (∀ v v' w, NatV w v a → NatV w v' b → Calls Tryz.prog 21 #[v, v'] w (RNat w g)) :=
  Lib.hid fun v v' w h h' => by
    have h1 := len_one ha
    have h2 := len_one hb
    have h3 := len_one (show min a b < 4294967296 by omega)
    have := half_few v v' a b w h h' (by omega) (by omega) (by omega)
    rwa [hg] at this
theorem h_same (m : Nat) (hm : m < 4294967296) : Hid (∀ v v' w, NatV w v m → NatV w v' m → Calls Tryz.prog 18 #[v, v'] w fun e w' => e = .returned (.bool true) ∧ Fol w w') :=
  Lib.hid fun v v' w h h' => by
    have := same_any v v' m m w h h' (big_of (len_one hm) (by omega)) (big_of (len_one hm) (by omega))
    rwa [decide_eq_true rfl] at this
theorem h_of (z : Int) (h1 : -9223372036854775808 ≤ z) (h2 : z < 9223372036854775808) : Hid (∀ w, Calls Tryz.prog 39 #[.int .i64 z] w (RInt w z)) :=
  Lib.hid fun w => r6of_any z w h1 h2
theorem h_sames (z : Int) (hz : z.natAbs < 4294967296) : Hid (∀ v v' w, IntV w v z → IntV w v' z → Calls Tryz.prog 22 #[v, v'] w fun e w' => e = .returned (.bool true) ∧ Fol w w') :=
  Lib.hid fun v v' w h h' => by
    have := r6same_any v v' z z w h h' (big_of (len_one hz) (by omega)) (big_of (len_one hz) (by omega))
    rwa [decide_eq_true rfl] at this
/-- Two and three fresh one-limbed numbers. -/
theorem lit2 (k l : Nat) (w : World) (hk : 0 < k) (hk2 : k < 4294967296) (hl : 0 < l) (hl2 : l < 4294967296) :
    NatV ((w.alloc (.cells #[.int .u32 k] 43)).alloc (.cells #[.int .u32 l] 43)) (.slice (some ⟨w.heap.size, 0, none⟩) 1 1) k ∧
    NatV ((w.alloc (.cells #[.int .u32 k] 43)).alloc (.cells #[.int .u32 l] 43)) (.slice (some ⟨w.heap.size + 1, 0, none⟩) 1 1) l ∧
    Fol w ((w.alloc (.cells #[.int .u32 k] 43)).alloc (.cells #[.int .u32 l] 43)) := by
  have h := lit_new l (w.alloc (.cells #[.int .u32 k] 43)) hl hl2
  rw [World.size_alloc] at h
  exact ⟨(lit_new k w hk hk2).fol (Fol.new _ _), h, fol2 _ _ _⟩
theorem lit3 (k l m : Nat) (w : World) (hk : 0 < k) (hk2 : k < 4294967296) (hl : 0 < l) (hl2 : l < 4294967296) (hm : 0 < m) (hm2 : m < 4294967296) :
    NatV (((w.alloc (.cells #[.int .u32 k] 43)).alloc (.cells #[.int .u32 l] 43)).alloc (.cells #[.int .u32 m] 43)) (.slice (some ⟨w.heap.size, 0, none⟩) 1 1) k ∧
    NatV (((w.alloc (.cells #[.int .u32 k] 43)).alloc (.cells #[.int .u32 l] 43)).alloc (.cells #[.int .u32 m] 43)) (.slice (some ⟨w.heap.size + 1, 0, none⟩) 1 1) l ∧
    NatV (((w.alloc (.cells #[.int .u32 k] 43)).alloc (.cells #[.int .u32 l] 43)).alloc (.cells #[.int .u32 m] 43)) (.slice (some ⟨w.heap.size + 1 + 1, 0, none⟩) 1 1) m ∧
    Fol w (((w.alloc (.cells #[.int .u32 k] 43)).alloc (.cells #[.int .u32 l] 43)).alloc (.cells #[.int .u32 m] 43)) := by
  obtain ⟨h1, h2, h3⟩ := lit2 k l w hk hk2 hl hl2
  have h := lit_new m ((w.alloc (.cells #[.int .u32 k] 43)).alloc (.cells #[.int .u32 l] 43)) hm hm2
  rw [World.size_alloc, World.size_alloc] at h
  exact ⟨h1.fol (Fol.new _ _), h2.fol (Fol.new _ _), h, Fol.trans h3 (Fol.new _ _)⟩
def QCell (w : World) (b i : Nat) (v : Value) (n : Nat) : Prop := b < w.heap.size ∧ w.cell? ⟨b, i, none⟩ = some v ∧ NatV w v n
theorem QCell.fol {w w' : World} {b i n : Nat} {v : Value} (h : QCell w b i v n) (k : Fol w w') : QCell w' b i v n :=
  ⟨Nat.lt_of_lt_of_le h.1 k.size, (k.cell h.1).trans h.2.1, h.2.2.fol k⟩
theorem NatsV.three {w : World} {v : Value} {x y z : Nat} (h : NatsV w v [x, y, z]) : ∃ b off cap u0 u1 u2, v = .slice (some ⟨b, off, none⟩) 3 cap ∧ 3 ≤ cap ∧ QCell w b off u0 x ∧ QCell w b (off + 1) u1 y ∧ QCell w b (off + 2) u2 z := by
  obtain ⟨o, cap, hv, hc, hn, h⟩ := h
  obtain ⟨b, off, u0, ho, hb, h0, n0⟩ := h 0 x rfl
  obtain ⟨b1, off1, u1, ho1, hb1, h1, n1⟩ := h 1 y rfl
  obtain ⟨b2, off2, u2, ho2, hb2, h2, n2⟩ := h 2 z rfl
  subst ho
  cases ho1
  cases ho2
  exact ⟨b, off, cap, u0, u1, u2, hv, hc, ⟨hb, h0, n0⟩, ⟨hb, h1, n1⟩, ⟨hb, h2, n2⟩⟩
theorem NatsV.nil {w : World} {v : Value} (h : NatsV w v []) : ∃ o cap, v = .slice o 0 cap := by
  obtain ⟨o, cap, hv, _⟩ := h
  exact ⟨o, cap, hv⟩
theorem NatV.zero {w : World} {v : Value} (h : NatV w v 0) : ∃ o cap, v = .slice o 0 cap := by
  obtain ⟨o, cap, hv, _⟩ := h.slice
  rw [dig_zero] at hv
  exact ⟨o, cap, hv⟩
end Go.Proofs.YtckahcgolfnobaaGreatDoor

/- A region's order in a table, made once: each step asks numbers alone. -/
namespace Go.Proofs.YtckahcgolfnobaaGreatDoor
open Go Go.RowKit

abbrev TRow := List Nat × Option Nat × List Nat
def rowOf (ops : Array Oper) (o : Oper) : TRow := ((o.after.toList.filter (fun e => Region.binds .any e)).map (fun e => e.on), o.dst, o.looksAt ops)
def tabOf (ops : Array Oper) : List TRow := ops.toList.map (rowOf ops)
def readyGo (l : List Bool) : List TRow → List Bool → Nat → List Nat
  | r :: T, b :: bs, i => bif !b && r.1.all (fun j => l.getD j false) then i :: readyGo l T bs (i + 1) else readyGo l T bs (i + 1)
  | _, _, _ => []
def readyAt (T : List TRow) (l : List Bool) (i : Nat) : Bool := !l.getD i true && match T[i]? with
  | some r => r.1.all (fun j => l.getD j false)
  | none => false
def apartR (x y : TRow) : Bool :=
  (match x.2.1 with
   | some d => !y.2.2.contains d && y.2.1 != some d
   | none => true) &&
  (match y.2.1 with
   | some d => !x.2.2.contains d
   | none => true)
def freeGo (i : Nat) (x : TRow) : List TRow → List Bool → Nat → Bool
  | y :: T, b :: bs, j => (b || j == i || y.1.contains i || apartR x y) && freeGo i x T bs (j + 1)
  | _, _, _ => true
def freeT (T : List TRow) (l : List Bool) (i : Nat) : Bool := match T[i]? with
  | some r => freeGo i r T l 0
  | none => false

section
variable {ops : Array Oper} {T : List TRow} {l : Array Bool} {i j k : Nat}
theorem needs_all (o : Oper) (p : Nat → Bool) : o.after.all (fun e => !Region.binds .any e || p e.on) = (rowOf ops o).1.all p := by
  unfold rowOf
  rw [← Array.all_toList]
  simp only
  induction o.after.toList with
  | nil => rfl
  | cons e r ih =>
    rw [List.all_cons, ih, List.filter_cons]
    cases h : Region.binds .any e <;> simp
theorem needs_any (o : Oper) (p : Nat → Bool) : o.after.any (fun e => Region.binds .any e && p e.on) = (rowOf ops o).1.any p := by
  unfold rowOf
  rw [← Array.any_toList]
  simp only
  induction o.after.toList with
  | nil => rfl
  | cons e r ih =>
    rw [List.any_cons, ih, List.filter_cons]
    cases h : Region.binds .any e <;> simp
theorem gd (l : Array Bool) (j : Nat) (b : Bool) : l.getD j b = l.toList.getD j b := by simp [Array.getD_eq_getD_getElem?, List.getD_eq_getElem?_getD]

def readyP (ops : Array Oper) (l : Array Bool) (i : Nat) : Bool := !l.getD i true && ((ops[i]?).map (·.after.all fun e => !Region.binds .any e || l.getD e.on false)).getD false
theorem readyGo_eq : ∀ (os : List Oper) (bs : List Bool) (k : Nat), (∀ i, os[i]? = ops[k + i]?) → (∀ i, bs.getD i true = l.getD (k + i) true) → (List.range' k os.length).filter (readyP ops l) = readyGo l.toList (os.map (rowOf ops)) bs k
  | [], bs, k, _, _ => by cases bs <;> simp [readyGo]
  | o :: os, [], k, h1, h2 => by
    simp only [List.map_cons, readyGo]
    refine List.filter_eq_nil_iff.2 (fun i hi => ?_)
    have h3 := h2 (i - k)
    rw [List.mem_range'_1] at hi
    rw [show k + (i - k) = i by omega] at h3
    simp only [List.getD_nil] at h3
    simp [readyP, ← h3]
  | o :: os, b :: bs, k, h1, h2 => by
    have ih := readyGo_eq os bs (k + 1) (fun i => by have := h1 (i + 1); rw [List.getElem?_cons_succ] at this; rw [this]; congr 1; omega) (fun i => by have := h2 (i + 1); rw [List.getD_cons_succ] at this; rw [this]; congr 1; omega)
    have e1 := h1 0
    have e2 := h2 0
    rw [List.getElem?_cons_zero, Nat.add_zero] at e1
    rw [List.getD_cons_zero, Nat.add_zero] at e2
    rw [List.length_cons, List.range'_succ, List.filter_cons, List.map_cons]
    unfold readyGo
    rw [← ih]
    have hp : readyP ops l k = (!b && (rowOf ops o).1.all (fun j => l.toList.getD j false)) := by
      unfold readyP
      rw [← e1, ← e2, ← needs_all]
      simp only [Option.map_some, Option.getD_some, gd]
    rw [hp]
    cases (!b && (rowOf ops o).1.all (fun j => l.toList.getD j false)) <;> rfl
theorem ready_tab (hT : tabOf ops = T) : Region.ready .any ops l = readyGo l.toList T l.toList 0 := by
  subst hT
  unfold tabOf
  rw [← readyGo_eq (ops := ops) (l := l) ops.toList l.toList 0 (fun i => by rw [Nat.zero_add, Array.getElem?_toList]) (fun i => by rw [Nat.zero_add, gd])]
  unfold Region.ready
  rw [List.range_eq_range', Array.length_toList]
  rfl
theorem tab_some {o : Oper} (hT : tabOf ops = T) (h : ops[i]? = some o) : T[i]? = some (rowOf ops o) := by
  subst hT
  unfold tabOf
  rw [List.getElem?_map, Array.getElem?_toList, h, Option.map_some]
theorem readyAt_tab {o : Oper} (hT : tabOf ops = T) (hi : ops[i]? = some o) (h : readyAt T l.toList i = true) : (Region.ready .any ops l).contains i = true := by
  unfold readyAt at h
  rw [tab_some hT hi] at h
  simp only at h
  rw [← needs_all, ← gd] at h
  simp only [← gd] at h
  unfold Region.ready
  rw [List.contains_iff_mem, List.mem_filter, List.mem_range]
  refine ⟨(Array.getElem?_eq_some_iff.1 hi).1, ?_⟩
  rw [hi]
  exact h
theorem apart_tab (x y : Oper) : x.apart ops y = apartR (rowOf ops x) (rowOf ops y) := rfl
theorem freeGo_spec (x : TRow) (n : Nat) : ∀ (T : List TRow) (bs : List Bool) (k : Nat), freeGo n x T bs k = true → ∀ i y, T[i]? = some y → bs.getD i true = false → k + i ≠ n → (y.1.contains n || apartR x y) = true
  | [], _, _, _, i, y, h, _, _ => by simp at h
  | _ :: _, [], _, _, i, y, _, h, _ => by simp at h
  | z :: T, b :: bs, k, h, 0, y, hy, hb, hn => by
    simp only [List.getElem?_cons_zero, Option.some.injEq] at hy
    subst hy
    simp only [List.getD_cons_zero] at hb
    simp only [freeGo, Bool.and_eq_true, hb, Bool.false_or] at h
    have hk : (k == n) = false := by rw [beq_eq_false_iff_ne]; omega
    rw [hk, Bool.false_or] at h
    exact h.1
  | z :: T, b :: bs, k, h, i + 1, y, hy, hb, hn => by
    simp only [List.getElem?_cons_succ] at hy
    simp only [List.getD_cons_succ] at hb
    simp only [freeGo, Bool.and_eq_true] at h
    exact freeGo_spec x n T bs (k + 1) h.2 i y hy hb (by omega)
theorem free_tab {o : Oper} (hT : tabOf ops = T) (hi : ops[i]? = some o) (h : freeT T l.toList i = true) : Region.free .any ops l i = true := by
  unfold freeT at h
  rw [tab_some hT hi] at h
  simp only at h
  unfold Region.free
  rw [hi]
  simp only
  rw [List.all_eq_true]
  intro j hj
  rw [List.mem_range] at hj
  by_cases hji : j = i
  · simp [hji]
  · cases hl : l.getD j true
    · have hoj : ops[j]? = some ops[j] := Array.getElem?_eq_some_iff.2 ⟨hj, rfl⟩
      have h2 := freeGo_spec _ _ _ _ _ h j _ (tab_some hT hoj) (by rw [← gd]; exact hl) (by omega)
      rw [hoj]
      simp only
      rw [needs_any (ops := ops) _ (fun n => n == i), apart_tab]
      have h3 : (rowOf ops ops[j]).1.any (fun n => n == i) = (rowOf ops ops[j]).1.contains i := by
        rw [List.contains_eq_any_beq]
        congr 1
        funext n
        exact Bool.beq_comm ..
      rw [h3, h2]
      simp
    · simp
end

section
variable {P : Program} {ops : Array Oper} {Q : Exit → Act → World → Prop} {S : World → Prop} {T : List TRow}
theorem with_tab {fuel : Nat} {listed : Array Bool} {a : Act} {w : World} (T : List TRow) (hT : tabOf ops = T) (hs : Region.noSelect ops = true) (h : Hid (tabOf ops = T) → Hid (Region.noSelect ops = true) → wpAnyH P .any ops Q S fuel listed a w) : wpAnyH P .any ops Q S fuel listed a w := h (Lib.hid hT) (Lib.hid hs)
theorem wpAnyH_takeT {i : Nat} {oi : Oper} {v : Value} {fuel : Nat} {listed : Array Bool} {a : Act} {w : World} (hT : Hid (tabOf ops = T)) (hs : Hid (Region.noSelect ops = true)) (hi : ops[i]? = some oi)
    (hf : (freeT T listed.toList i && readyAt T listed.toList i) = true)
    (hQ : ∀ c a w, Q (.panic c) (a.put oi.dst v) w → Q (.panic c) a w) (hy : YieldsIf P ops S oi v a) (hS : S w)
    (h : wpAnyH P .any ops Q S fuel (listed.setIfInBounds i true) (a.put oi.dst v) w) : wpAnyH P .any ops Q S (fuel + 1) listed a w := by
  rw [Bool.and_eq_true] at hf
  exact wpAnyH_take hi hs.out (free_tab hT.out hi hf.1) (readyAt_tab hT.out hi hf.2) hQ hy hS h
theorem wpAnyH_readyT {rs : List Nat} {fuel : Nat} {listed : Array Bool} {a : Act} {w : World} (hT : Hid (tabOf ops = T)) (hr : readyGo listed.toList T listed.toList 0 = rs) (hne : rs ≠ [])
    (h : AllReadyH P .any ops Q S fuel listed a w rs) : wpAnyH P .any ops Q S (fuel + 1) listed a w := wpAnyH_ready ((ready_tab hT.out).trans hr) hne h
theorem wpAnyH_doneT {listed : Array Bool} {a : Act} {w : World} (hT : Hid (tabOf ops = T)) (hr : readyGo listed.toList T listed.toList 0 = []) (h : Q .normal a w) (fuel : Nat) : wpAnyH P .any ops Q S fuel listed a w :=
  wpAnyH_done ((ready_tab hT.out).trans hr) h fuel
end
end Go.Proofs.YtckahcgolfnobaaGreatDoor
