/- div.take, div.back: a row written in its place. -/
import Derived.Test.YtckahcgolfnobaaGreatDoorGuess
import Derived.Deep.RegionWith
namespace Go.Proofs.YtckahcgolfnobaaGreatDoor
open Go Go.RowKit

/-- The row that lies at the beginning of a block. -/
structure RowAt (w : World) (g : Nat) (l : List Nat) : Prop where
  ex : ∃ cur, w.heap[g]? = some (.cells cur 43) ∧ ∀ (i x : Nat), l[i]? = some x → cur[i]? = some (.int .u32 (x : Int))
theorem RowAt.cell {w : World} {g : Nat} {l : List Nat} (h : RowAt w g l) {i : Nat} (hi : i < l.length) : w.cell? ⟨g, i, none⟩ = some (.int .u32 (lim l i : Nat)) := by
  obtain ⟨cur, h1, h2⟩ := h.ex
  unfold World.cell?
  simp only [h1]
  exact h2 i _ (getD_eq hi)
theorem RowAt.frozen {w : World} {g : Nat} {l : List Nat} (h : RowAt w g l) (i : Nat) : w.frozen? ⟨g, i, none⟩ = false := by
  obtain ⟨cur, h1, h2⟩ := h.ex
  unfold World.frozen?
  simp only [h1]
  simp
theorem RowAt.set {w : World} {g : Nat} {l : List Nat} (h : RowAt w g l) (i x : Nat) : RowAt (w.setCell ⟨g, i, none⟩ (.int .u32 (x : Int))) g (l.set i x) := by
  obtain ⟨cur, h1, h2⟩ := h.ex
  refine ⟨_, heap_setCell_same w g i cur _ _ h1, fun j y hj => ?_⟩
  rw [List.getElem?_set] at hj
  rw [Array.getElem?_setIfInBounds]
  split at hj
  · rename_i he
    subst he
    split at hj
    · rename_i hl
      cases hj
      have h3 := h2 i _ (List.getElem?_eq_getElem hl)
      have h4 := (Array.getElem?_eq_some_iff.1 h3).1
      simp [h4]
    · cases hj
  · rename_i he
    rw [if_neg he]; exact h2 j y hj
theorem RowAt.mono {w w' : World} {g : Nat} {l : List Nat} (h : RowAt w g l) (he : w'.heap[g]? = w.heap[g]?) : RowAt w' g l := by
  obtain ⟨cur, h1, h2⟩ := h.ex
  exact ⟨cur, he.trans h1, h2⟩
theorem RowAt.sl {w : World} {g : Nat} {l : List Nat} (h : RowAt w g l) (n c : Nat) (hn : n = l.length) (hc : n ≤ c) : Sl w (.slice (some ⟨g, 0, none⟩) n c) l := by
  obtain ⟨cur, h1, h2⟩ := h.ex
  exact sl_of_block h1 0 n c hn hc (fun i x hi => by rw [Nat.zero_add]; exact h2 i x hi)

/-- A world that differs in one block alone. -/
structure Oth (g : Nat) (w w' : World) : Prop where
  os : w'.os = w.os
  tape : w'.tape = w.tape
  output : w'.output = w.output
  block : ∀ k, k ≠ g → w'.heap[k]? = w.heap[k]?
  size : w'.heap.size = w.heap.size
theorem Oth.refl (g : Nat) (w : World) : Oth g w w := ⟨rfl, rfl, rfl, fun _ _ => rfl, rfl⟩
theorem Oth.trans {g : Nat} {a b c : World} (h : Oth g a b) (k : Oth g b c) : Oth g a c := ⟨k.os.trans h.os, k.tape.trans h.tape, k.output.trans h.output, fun i hi => (k.block i hi).trans (h.block i hi), k.size.trans h.size⟩
theorem Oth.set {g : Nat} {a b : World} (h : Oth g a b) (i : Nat) (v : Value) : Oth g a (b.setCell ⟨g, i, none⟩ v) :=
  ⟨h.os, h.tape, h.output, fun k hk => (heap_setCell_other b _ k v hk).trans (h.block k hk), by rw [World.size_setCell]; exact h.size⟩
theorem Oth.drew {g : Nat} {a b : World} (h : Oth g a b) : Oth g a b.drew := ⟨h.os, h.tape, h.output, h.block, h.size⟩
theorem Oth.below {g B : Nat} {a b : World} (h : Oth g a b) (hg : B ≤ g) : Below B a b :=
  ⟨h.os, h.tape, h.output, by rw [h.size]; exact Nat.le_refl _, fun k hk => h.block k (by omega)⟩
theorem Oth.cell {g : Nat} {a b : World} (h : Oth g a b) {p o : Nat} (hp : p ≠ g) : b.cell? ⟨p, o, none⟩ = a.cell? ⟨p, o, none⟩ := by
  unfold World.cell?
  rw [h.block p hp]

/-- k limbs of y times q are taken. -/
structure TakI (y l0 : List Nat) (off q k c bor : Nat) (l : List Nat) : Prop where
  len : l.length = l0.length
  small : Small l
  carry : c < 4294967296
  one : bor ≤ 1
  eq : val l + 4294967296 ^ off * (q * val (y.take k)) = val l0 + 4294967296 ^ (off + k) * (bor + c)
  top : ∀ j, off + k ≤ j → lim l j = lim l0 j

theorem TakI.set {y l0 : List Nat} {off q k c bor : Nat} {l : List Nat} (h : TakI y l0 off q k c bor l) (p : Nat) (hj : off + k < l0.length) :
    val (l.set (off + k) ((4294967296 + lim l (off + k) - p % 4294967296 - bor) % 4294967296)) + 4294967296 ^ (off + k) * (p % 4294967296 + bor) = val l + 4294967296 ^ (off + k) * (4294967296 * (if lim l (off + k) < p % 4294967296 + bor then 1 else 0)) := by
  have h2 := val_set l (off + k) ((4294967296 + lim l (off + k) - p % 4294967296 - bor) % 4294967296) (by rw [h.len]; exact hj)
  have hx := lim_lt h.small (off + k)
  have hb := h.one
  have hp : p % 4294967296 < 4294967296 := Nat.mod_lt _ (by omega)
  generalize p % 4294967296 = pl at *
  generalize lim l (off + k) = x at *
  generalize 4294967296 ^ (off + k) = P at *
  have h3 : (4294967296 + x - pl - bor) % 4294967296 + (pl + bor) = x + 4294967296 * (if x < pl + bor then 1 else 0) := by
    split <;> omega
  generalize (4294967296 + x - pl - bor) % 4294967296 = x' at *
  generalize (if x < pl + bor then 1 else 0) = b' at *
  have h4 : P * (x' + (pl + bor)) = P * (x + 4294967296 * b') := by rw [h3]
  grind

theorem TakI.step {y l0 : List Nat} {off q k c bor : Nat} {l : List Nat} (h : TakI y l0 off q k c bor l) (hj : off + k < l0.length) (hk : k < y.length) (hy : lim y k < 4294967296) (hq : q < 4294967296) :
    TakI y l0 off q (k + 1) ((q * lim y k + c) / 4294967296) (if lim l (off + k) < (q * lim y k + c) % 4294967296 + bor then 1 else 0) (l.set (off + k) ((4294967296 + lim l (off + k) - (q * lim y k + c) % 4294967296 - bor) % 4294967296)) := by
  have hc := h.carry
  have hqy : q * lim y k ≤ 4294967295 * 4294967295 := Nat.mul_le_mul (by omega) (by omega)
  refine ⟨by simp [h.len], small_set h.small _ _ (Nat.mod_lt _ (by omega)), by omega, by split <;> omega, ?_, fun j hj => ?_⟩
  · have h1 := h.set (q * lim y k + c) hj
    have h2 := h.eq
    have h3 : val (y.take (k + 1)) = val (y.take k) + 4294967296 ^ k * lim y k := by
      rw [val_take_succ y k hk]; simp [lim, List.getD, hk]
    have h4 := Nat.mod_add_div (q * lim y k + c) 4294967296
    rw [h3, show off + (k + 1) = off + k + 1 by omega, Nat.pow_succ]
    have h5 : 4294967296 ^ (off + k) = 4294967296 ^ off * 4294967296 ^ k := Nat.pow_add _ _ _
    generalize (if lim l (off + k) < (q * lim y k + c) % 4294967296 + bor then 1 else 0) = b' at *
    generalize val (l.set (off + k) ((4294967296 + lim l (off + k) - (q * lim y k + c) % 4294967296 - bor) % 4294967296)) = V at *
    generalize (q * lim y k + c) % 4294967296 = R at *
    generalize (q * lim y k + c) / 4294967296 = Q at *
    generalize lim y k = yk at *
    generalize 4294967296 ^ (off + k) = P at *
    generalize 4294967296 ^ off = A at *
    generalize 4294967296 ^ k = D at *
    have h6 : P * (R + 4294967296 * Q) = P * (q * yk + c) := by rw [h4]
    grind
  · rw [lim_set, if_neg (by omega)]
    exact h.top j (by omega)

theorem TakI.last {y l0 : List Nat} {off q c bor : Nat} {l : List Nat} (h : TakI y l0 off q y.length c bor l) (hj : off + y.length < l0.length) :
    TakI y l0 off q (y.length + 1) 0 (if lim l (off + y.length) < c + bor then 1 else 0) (l.set (off + y.length) ((4294967296 + lim l (off + y.length) - c - bor) % 4294967296)) := by
  have hc := h.carry
  refine ⟨by simp [h.len], small_set h.small _ _ (Nat.mod_lt _ (by omega)), by omega, by split <;> omega, ?_, fun j hj => ?_⟩
  · have h1 := h.set c hj
    rw [Nat.mod_eq_of_lt hc] at h1
    have h2 := h.eq
    rw [List.take_of_length_le (by omega), show off + (y.length + 1) = off + y.length + 1 by omega, Nat.pow_succ]
    rw [List.take_of_length_le (by omega)] at h2
    generalize (if lim l (off + y.length) < c + bor then 1 else 0) = b' at *
    generalize val (l.set (off + y.length) ((4294967296 + lim l (off + y.length) - c - bor) % 4294967296)) = V at *
    generalize 4294967296 ^ (off + y.length) = P at *
    generalize 4294967296 ^ off = A at *
    grind
  · rw [lim_set, if_neg (by omega)]
    exact h.top j (by omega)

def brw (x y c : Nat) : Nat := if x < y + c then 1 else 0
def sbt (x y c : Nat) : Nat := (4294967296 + x - y - c) % 4294967296
theorem sub32_brw (x y c : Nat) (w : World) (hx : x < 4294967296) (hy : y < 4294967296) (hc : c ≤ 1) :
    Calls Tryz.prog 95 #[.int .u32 x, .int .u32 y, .int .u32 c] w fun e w' => e = .returned (.tuple #[.int .u32 (sbt x y c : Nat), .int .u32 (brw x y c : Nat)]) ∧ w = w' := sub32_any x y c w hx hy hc

/-- What take hands back: the row l0 has become l, and whether it was too much. -/
def TakR (y l0 : List Nat) (g off q : Nat) (w : World) (e : Ending) (w' : World) : Prop :=
  ∃ l bor, e = .returned (.bool (decide (0 < bor))) ∧ TakI y l0 off q (y.length + 1) 0 bor l ∧ RowAt w' g l ∧ Oth g w w'

set_option maxHeartbeats 400000 in
set_option maxRecDepth 100000 in
theorem take_walk (g off n cap cy q : Nat) (oy : Option Addr) (y l0 : List Nat) (w : World) (hn : y.length = n) (hq : q < 4294967296) (hsy : Small y) (hsl : Small l0) (hl : off + n < l0.length) (hbig : l0.length < 1073741824)
    (hr : RowAt w g l0) (hy : ∀ (i : Nat), i < n → ∃ p o, oy = some ⟨p, o, none⟩ ∧ p ≠ g ∧ w.cell? ⟨p, o + i, none⟩ = some (.int .u32 (lim y i : Nat))) :
    Calls Tryz.prog 73 #[.slice (some ⟨g, off, none⟩) (n + 1 : Nat) cap, .slice oy n cy, .int .u64 q] w (TakR y l0 g off q w) := by
  have HY := Lib.hid hy
  have HN := Lib.hid hn
  have HSY := Lib.hid hsy
  have HI : Hid (TakI y l0 off q 0 0 0 l0) := Lib.hid ⟨rfl, hsl, by omega, by omega, by simp [val], fun _ _ => rfl⟩
  clear hy hn hsy hsl
  have HL := Lib.hid hl
  have hl2 : n < 1073741824 := by omega
  clear hl hbig
  go_enter Tryz.func73, Tryz.ntmps73
  go_wp2
  go_loopw [7, 8, 9, 10, 14] (fun cv bv _ _ t wr => ∃ k c bor : Nat, k ≤ n + 1 ∧ t = .int .i64 k ∧ cv = .int .u64 c ∧ bv = .int .u32 bor ∧ ∃ l, Hid (TakI y l0 off q k c bor l) ∧ Hid (RowAt wr g l) ∧ Hid (Oth g w wr) ∧ Hid (k = n + 1 → c = 0)) (fun _ _ _ _ t _ => n + 1 - (intOf t).toNat)
  case atStart => exact ⟨0, 0, 0, by omega, rfl, rfl, rfl, l0, HI, Lib.hid hr, Lib.hid (Oth.refl _ _), Lib.hid (fun _ => rfl)⟩
  case round =>
    obtain ⟨k, c, bor, hk, rfl, rfl, rfl, l, hT, hR, hO, hZ⟩ := hrel
    clear HI hr
    by_cases hlt : k < n + 1
    · have hlen := hT.out.len
      have hc3 : wr.cell? ⟨g, off + k, none⟩ = some (.int .u32 (lim l (off + k) : Nat)) := hR.out.cell (by rw [hlen]; have := HL.out; omega)
      have hf3 : wr.frozen? ⟨g, off + k, none⟩ = false := hR.out.frozen _
      have hx := lim_lt hT.out.small (off + k)
      have hcc := hT.out.carry
      have hb1 := hT.out.one
      clear hlen
      by_cases hkn : k < n
      · obtain ⟨p, o, rfl, hp, hc'⟩ := HY.out k hkn
        have hc4 := (hO.out.cell (o := o + k) hp).trans hc'
        have hyk := lim_lt HSY.out k
        have hst := hT.out.step (by have := HL.out; omega) (by rw [HN.out]; omega) hyk hq
        have hqy : q * lim y k ≤ 4294967295 * 4294967295 := Nat.mul_le_mul (by omega) (by omega)
        have em := u64_mul (a := q) (b := lim y k) (by omega)
        have ea : IntKind.u64.wrap (((q * lim y k : Nat) : Int) + c) = ((q * lim y k + c : Nat) : Int) := by rw [IntKind.wrap_u64]; omega
        have ea' : IntKind.u64.wrap ((q : Int) * (lim y k : Nat) + c) = ((q * lim y k + c : Nat) : Int) := by rw [← Int.natCast_mul]; exact ea
        have hpm : (q * lim y k + c) % 4294967296 < 4294967296 := Nat.mod_lt _ (by omega)
        have hset := hR.out.set (off + k) (sbt (lim l (off + k)) ((q * lim y k + c) % 4294967296) bor)
        have HST : Hid (TakI y l0 off q (k + 1) ((q * lim y k + c) / 4294967296) (brw (lim l (off + k)) ((q * lim y k + c) % 4294967296) bor) (l.set (off + k) (sbt (lim l (off + k)) ((q * lim y k + c) % 4294967296) bor))) := Lib.hid hst
        have HSET := Lib.hid hset
        clear hst hset hqy
        have epz : ((q : Int) * (lim y k : Nat) + c) = ((q * lim y k + c : Nat) : Int) := by rw [Int.natCast_add, Int.natCast_mul]
        have HPZ := Lib.hid epz
        have HSUB : Hid (∀ w, Calls Tryz.prog 95 #[.int .u32 (lim l (off + k) : Nat), .int .u32 (((q : Int) * (lim y k : Nat) + c) % 4294967296), .int .u32 bor] w fun e w' => e = .returned (.tuple #[.int .u32 (sbt (lim l (off + k)) ((q * lim y k + c) % 4294967296) bor : Nat), .int .u32 (brw (lim l (off + k)) ((q * lim y k + c) % 4294967296) bor : Nat)]) ∧ w = w') := Lib.hid (fun w => by
          rw [epz]; exact sub32_brw (lim l (off + k)) ((q * lim y k + c) % 4294967296) bor w hx hpm hb1)
        clear epz ea
        go_wp2_with (go_at_call 95; (with_reducible refine (HSUB.out _).mono ?_); rintro e w' ⟨rfl, rfl⟩)
        go_roundw
        case rel => exact ⟨k + 1, (q * lim y k + c) / 4294967296, _, by omega, by go_num, by rw [HPZ.out]; rfl, rfl, _, HST, HSET, Lib.hid (hO.out.set _ _), Lib.hid (fun h => by omega)⟩
        case measure => simp [intOf]; omega
      · obtain rfl : k = n := by omega
        have hst := (HN.out ▸ hT.out : TakI y l0 off q y.length c bor l).last (by have := HL.out; have := HN.out; omega)
        rw [HN.out] at hst
        have HST : Hid (TakI y l0 off q (k + 1) 0 (brw (lim l (off + k)) c bor) (l.set (off + k) (sbt (lim l (off + k)) c bor))) := Lib.hid hst
        have HSET := Lib.hid (hR.out.set (off + k) (sbt (lim l (off + k)) c bor))
        have HSUB := Lib.hid (fun w => sub32_brw (lim l (off + k)) c bor w hx hcc hb1)
        have e1 : (c : Int) % 4294967296 = c := by omega
        have e2 : (c : Int) / 4294967296 = 0 := by omega
        clear hst hkn
        go_wp2_with (go_at_call 95; (with_reducible refine (HSUB.out _).mono ?_); rintro e w' ⟨rfl, rfl⟩)
        go_roundw
        case rel => exact ⟨k + 1, 0, _, by omega, by go_num, by go_num, rfl, _, HST, HSET, Lib.hid (hO.out.set _ _), Lib.hid (fun _ => rfl)⟩
        case measure => simp [intOf]
    · obtain rfl : k = n + 1 := by omega
      have hfin : TakR y l0 g off q w (.returned (.bool (decide (0 < bor)))) wr := by
        have := hT.out
        have hc0 : c = 0 := hZ.out rfl
        subst hc0
        exact ⟨l, bor, rfl, by rw [HN.out]; exact this, hR.out, hO.out⟩
      have HF := Lib.hid hfin
      clear hfin
      go_wp2
      go_ret
      exact HF.out
end Go.Proofs.YtckahcgolfnobaaGreatDoor
