/- div.DivMod, by a divisor of at least two limbs. -/
import Derived.Test.YtckahcgolfnobaaGreatDoorKnuth
namespace Go.Proofs.YtckahcgolfnobaaGreatDoor
open Go Go.RowKit

def slen : Value → Nat | .slice _ n _ => n | _ => 0

/-- The main loop's worlds: x lies in block g, the quotient in block q. -/
structure KnW (w1 : World) (g q : Nat) (xl ql : List Nat) (wr : World) : Prop where
  fol : Fol w1 wr
  rx : RowAt wr g xl
  rq : RowAt wr q ql
  ne : g ≠ q
  gx : w1.heap.size ≤ g
  gq : w1.heap.size ≤ q
theorem KnW.drew {w1 : World} {g q : Nat} {xl ql : List Nat} {wr : World} (h : KnW w1 g q xl ql wr) : KnW w1 g q xl ql wr.drew := ⟨h.fol.drew, h.rx.mono rfl, h.rq.mono rfl, h.ne, h.gx, h.gq⟩
theorem KnW.drawn {w1 : World} {g q : Nat} {xl ql : List Nat} {wr wr' : World} (h : KnW w1 g q xl ql wr) (hd : Drawn wr wr') : KnW w1 g q xl ql wr' := by
  obtain ⟨k, rfl⟩ := hd
  exact ⟨Fol.trans h.fol (Fol.drawn ⟨k, rfl⟩), h.rx.mono rfl, h.rq.mono rfl, h.ne, h.gx, h.gq⟩
theorem KnW.oth {w1 : World} {g q : Nat} {xl ql xl' : List Nat} {wr wr' : World} (h : KnW w1 g q xl ql wr) (ho : Oth g wr wr') (hx : RowAt wr' g xl') : KnW w1 g q xl' ql wr' := by
  exact ⟨Below.trans h.fol (ho.below h.gx), hx, h.rq.mono (ho.block _ (Ne.symm h.ne)), h.ne, h.gx, h.gq⟩
theorem KnW.set {w1 : World} {g q : Nat} {xl ql : List Nat} {wr : World} (h : KnW w1 g q xl ql wr) (i x : Nat) : KnW w1 g q xl (ql.set i x) (wr.setCell ⟨q, i, none⟩ (.int .u32 (x : Int))) := by
  exact ⟨h.fol.setCell h.gq _, h.rx.mono (heap_setCell_other _ _ _ _ h.ne), h.rq.set i x, h.ne, h.gx, h.gq⟩

theorem own_form {w : World} {base : Nat} {v : Value} {n : Nat} {xs : List Value} (h : w.ownsRow base 43 1 v n xs) (hn : 0 < n) :
    ∃ g cap cur, v = .slice (some ⟨g, 0, none⟩) n cap ∧ base ≤ g ∧ g < w.heap.size ∧ w.heap[g]? = some (.cells cur 43) ∧ n ≤ cap ∧ cur.toList.take n = xs := by
  rcases h.2 with ⟨rfl, h0⟩ | ⟨g, cap, cur, rfl, hb, hg, hc, _, _, ht⟩
  · omega
  · exact ⟨g, cap, cur, rfl, hb, (Array.getElem?_eq_some_iff.1 hg).1, hg, hc, by simpa using ht⟩
theorem own_at {w : World} {cur : Array Value} {g : Nat} {l : List Nat} (hg : w.heap[g]? = some (.cells cur 43)) (ht : cur.toList.take l.length = lv l) : RowAt w g l := by
  refine ⟨cur, hg, fun i x hi => ?_⟩
  have h1 := lv_get l i
  rw [hi, ← ht, List.getElem?_take] at h1
  split at h1
  · simpa using h1
  · simp at h1

theorem slice_own {w : World} {base : Nat} {v : Value} {n : Nat} {xs : List Value} (h : w.ownsRow base 43 1 v n xs) : ∃ o cap, v = .slice o n cap := by
  rcases h.2 with ⟨rfl, h0⟩ | ⟨g, cap, cur, rfl, _⟩
  · exact ⟨none, 0, by rw [h0]⟩
  · exact ⟨_, cap, rfl⟩

theorem norm_blen {n L s : Nat} (hlb : (dig n).length = L + 2) (hs : blen (lim (dig n) (L + 1)) + s = 32) : blen n + s = 32 * (L + 2) := by
  have hn : n ≠ 0 := by rintro rfl; simp [dig_zero] at hlb
  have := blen_top hn (L := L + 1) (by omega)
  omega
theorem norm_lt {n L s : Nat} (hlb : (dig n).length = L + 2) (hs : blen (lim (dig n) (L + 1)) + s = 32) : n * 2 ^ s < 4294967296 ^ (L + 2) := by
  have h1 := norm_blen hlb hs
  have h2 := (@blen_le n _).1 (Nat.le_refl _)
  rw [show (4294967296 : Nat) = 2 ^ 32 from rfl, ← Nat.pow_mul, ← h1, Nat.pow_add]
  exact Nat.mul_lt_mul_of_pos_right h2 (Nat.pow_pos (by omega))
theorem norm_ge {n L s : Nat} (hlb : (dig n).length = L + 2) (hs : blen (lim (dig n) (L + 1)) + s = 32) : 2147483648 * 4294967296 ^ (L + 1) ≤ n * 2 ^ s := by
  have h1 := norm_blen hlb hs
  have h3 : 0 < blen n := by
    rw [lt_blen, Nat.pow_zero]
    apply Nat.pos_of_ne_zero; rintro rfl; simp [dig_zero] at hlb
  have h2 := (@lt_blen n (blen n - 1)).1 (by omega)
  rw [show (4294967296 : Nat) = 2 ^ 32 from rfl, ← Nat.pow_mul, show (2147483648 : Nat) = 2 ^ 31 from rfl, ← Nat.pow_add, show 31 + 32 * (L + 1) = blen n - 1 + s by omega, Nat.pow_add]
  exact Nat.mul_le_mul_right _ h2
theorem norm_top {n L s : Nat} (hlb : (dig n).length = L + 2) (hs : blen (lim (dig n) (L + 1)) + s = 32) : 2147483648 ≤ n * 2 ^ s / 4294967296 ^ (L + 1) :=
  (Nat.le_div_iff_mul_le (Nat.pow_pos (by omega))).2 (norm_ge hlb hs)
theorem norm_len {n L s : Nat} (hlb : (dig n).length = L + 2) (hs : blen (lim (dig n) (L + 1)) + s = 32) : (dig (n * 2 ^ s)).length = L + 2 := by
  apply Nat.le_antisymm (len_lt (norm_lt hlb hs))
  apply Nat.le_of_not_lt
  intro hlt
  have h1 := lt_pow_len (Nat.le_of_lt_succ hlt)
  have h2 := norm_ge hlb hs
  have h3 : 1 * 4294967296 ^ (L + 1) ≤ 2147483648 * 4294967296 ^ (L + 1) := Nat.mul_le_mul_right _ (by omega)
  omega

/-- x with noughts behind it. -/
structure KnX (w1 : World) (X : Nat) (v : Value) (xl : List Nat) (wr : World) : Prop where
  own : wr.ownsRow w1.heap.size 43 1 v xl.length (lv xl)
  fol : Fol w1 wr
  small : Small xl
  eq : val xl = X

/-- A quotient and a rest. -/
def RDiv (w : World) (m n : Nat) (e : Ending) (w' : World) : Prop := ∃ vq vr, e = .returned (.tuple #[vq, vr, .int .i64 0]) ∧ NatV w' vq (m / n) ∧ NatV w' vr (m % n) ∧ Fol w w'

theorem KnI.first {m n L NQ s : Nat} {xl : List Nat} (hla : (dig m).length = NQ + (L + 1)) (hlb : (dig n).length = L + 2) (hl : xl.length = NQ + (L + 2)) (hs : Small xl) (hv : val xl = m * 2 ^ s) :
    KnI (m * 2 ^ s) (n * 2 ^ s) NQ (NQ + (L + 2)) NQ xl (List.replicate NQ 0) := by
  refine ⟨hl, by simp, hs, small_replicate _, ?_, ?_, fun i _ => lim_replicate _ i⟩
  · have h0 : val (List.replicate NQ 0) = 0 := by simpa [val] using replicate_val NQ []
    rw [h0, hv]; omega
  · rw [hv]
    have h1 := lt_dig_length m
    rw [hla, Nat.pow_add] at h1
    have hn : n ≠ 0 := by rintro rfl; simp [dig_zero] at hlb
    have h2 := pow_dig_length_le hn
    rw [hlb, show L + 2 - 1 = L + 1 by omega] at h2
    have h3 : m < 4294967296 ^ NQ * n := Nat.lt_of_lt_of_le h1 (Nat.mul_le_mul_left _ h2)
    have h4 : n * 2 ^ s * 4294967296 ^ NQ = 4294967296 ^ NQ * n * 2 ^ s := by grind
    rw [h4]
    exact Nat.mul_lt_mul_of_pos_right h3 (Nat.pow_pos (by omega))

theorem top3 {l : List Nat} {k : Nat} (hs : Small l) (h : val l < 4294967296 ^ (k + 3)) : (lim l (k + 2) * 4294967296 + lim l (k + 1)) * 4294967296 + lim l k = val l / 4294967296 ^ k := by
  have h2 : val l / 4294967296 ^ k < 4294967296 * 4294967296 * 4294967296 := by
    rw [Nat.div_lt_iff_lt_mul (Nat.pow_pos (by omega))]
    rw [Nat.pow_add] at h
    omega
  have e1 : val l / 4294967296 ^ (k + 1) = val l / 4294967296 ^ k / 4294967296 := by rw [Nat.pow_succ, ← Nat.div_div_eq_div_mul]
  have e2 : val l / 4294967296 ^ (k + 2) = val l / 4294967296 ^ k / 4294967296 / 4294967296 := by rw [← e1, Nat.pow_succ _ (k + 1), ← Nat.div_div_eq_div_mul]
  rw [lim_val hs, lim_val hs, lim_val hs, e1, e2]
  generalize val l / 4294967296 ^ k = z at *
  omega
theorem top2 {l : List Nat} {k : Nat} (hs : Small l) (h : val l < 4294967296 ^ (k + 2)) : lim l (k + 1) * 4294967296 + lim l k = val l / 4294967296 ^ k := by
  have h2 : val l / 4294967296 ^ k < 4294967296 * 4294967296 := by
    rw [Nat.div_lt_iff_lt_mul (Nat.pow_pos (by omega))]
    rw [Nat.pow_add] at h
    omega
  rw [lim_val hs, lim_val hs, Nat.pow_succ, ← Nat.div_div_eq_div_mul]
  generalize val l / 4294967296 ^ k = z at *
  omega

section
variable {X Y L NQ j : Nat} {xl ql l l2 : List Nat}
theorem KnI.below (h : KnI X Y (j + 1) (NQ + (L + 2)) NQ xl ql) (hY : Y < 4294967296 ^ (L + 2)) : val xl < 4294967296 ^ (j + L + 3) := by
  refine Nat.lt_of_lt_of_le h.lt ?_
  rw [show j + L + 3 = (L + 2) + (j + 1) by omega, Nat.pow_add _ (L + 2) (j + 1)]
  exact Nat.mul_le_mul_right _ (Nat.le_of_lt hY)

/-- The guessed limb. -/
def gq (V Y L j : Nat) : Nat := qhat (V / 4294967296 ^ (j + L)) (Y / 4294967296 ^ L)

theorem kn_guess (h : KnI X Y (j + 1) (NQ + (L + 2)) NQ xl ql) (hY : Y < 4294967296 ^ (L + 2)) (hT : 2147483648 ≤ Y / 4294967296 ^ (L + 1)) (w : World) :
    Calls Tryz.prog 72 #[.int .u32 (lim xl (j + L + 2) : Nat), .int .u32 (lim xl (j + L + 1) : Nat), .int .u32 (lim xl (j + L) : Nat), .int .u32 (lim (dig Y) (L + 1) : Nat), .int .u32 (lim (dig Y) L : Nat)] w
      fun e w' => e = .returned (.int .u64 (gq (val xl) Y L j : Nat)) ∧ Drawn w w' := by
  have hb := h.below hY
  have e1 := top3 h.smallx hb
  have e2 := top2 (k := L) (small_dig Y) (by rw [val_dig]; exact hY)
  rw [val_dig] at e2
  have hy1 : lim (dig Y) (L + 1) = Y / 4294967296 ^ (L + 1) := by
    rw [lim_val (small_dig Y), val_dig]
    refine Nat.mod_eq_of_lt ?_
    rw [Nat.div_lt_iff_lt_mul (Nat.pow_pos (by omega)), Nat.mul_comm, ← Nat.pow_succ]; exact hY
  have hx2 : lim xl (j + L + 2) ≤ lim (dig Y) (L + 1) := by
    rw [hy1, lim_val h.smallx]
    refine Nat.le_trans (Nat.mod_le _ _) ?_
    rw [show j + L + 2 = (j + 1) + (L + 1) by omega, Nat.pow_add, ← Nat.div_div_eq_div_mul]
    refine Nat.div_le_div_right (Nat.le_of_lt_succ ?_)
    rw [Nat.div_lt_iff_lt_mul (Nat.pow_pos (by omega))]
    refine Nat.lt_of_lt_of_le h.lt (Nat.mul_le_mul_right _ (Nat.le_succ _))
  have := guess_any (lim xl (j + L + 2)) (lim xl (j + L + 1)) (lim xl (j + L)) (lim (dig Y) (L + 1)) (lim (dig Y) L) w (lim_lt h.smallx _) (lim_lt h.smallx _) (by rw [hy1]; exact hT) (lim_lt (small_dig Y) _) (lim_lt (small_dig Y) _) hx2
  rw [e1, e2] at this
  exact this

theorem kn_ok (h : KnI X Y (j + 1) (NQ + (L + 2)) NQ xl ql) (hT : 2147483648 ≤ Y / 4294967296 ^ (L + 1)) :
    val xl / (Y * 4294967296 ^ j) ≤ gq (val xl) Y L j ∧ gq (val xl) Y L j ≤ val xl / (Y * 4294967296 ^ j) + 1 ∧ gq (val xl) Y L j < 4294967296 := by
  have := guess_ok (V := val xl) (Y := Y) (L := L + 2) (i := j) (by omega) h.lt (by rw [show L + 2 - 1 = L + 1 by omega]; exact hT)
  rw [show j + (L + 2) - 2 = j + L by omega, show L + 2 - 2 = L by omega] at this
  exact this

theorem kn_pos (hT : 2147483648 ≤ Y / 4294967296 ^ (L + 1)) : 0 < Y := by
  apply Nat.pos_of_ne_zero; rintro rfl; simp at hT

theorem kn_step0 (h : KnI X Y (j + 1) (NQ + (L + 2)) NQ xl ql) (hj : j < NQ) (hT : 2147483648 ≤ Y / 4294967296 ^ (L + 1))
    (ht : TakI (dig Y) xl j (gq (val xl) Y L j) ((dig Y).length + 1) 0 0 l) : KnI X Y j (NQ + (L + 2)) NQ l (ql.set j (gq (val xl) Y L j)) := by
  obtain ⟨h1, h2, h3⟩ := kn_ok h hT
  have h4 := ht.eq
  rw [List.take_of_length_le (by omega), val_dig, Nat.add_zero, Nat.mul_zero, Nat.add_zero] at h4
  exact h.digit hj h3 (ht.len.trans h.lenx) ht.small h4 (knuth_right (Nat.pow_pos (by omega)) (kn_pos hT) h4 h1)

theorem kn_step1 (h : KnI X Y (j + 1) (NQ + (L + 2)) NQ xl ql) (hj : j < NQ) (hYL : (dig Y).length = L + 2) (hY : Y < 4294967296 ^ (L + 2)) (hT : 2147483648 ≤ Y / 4294967296 ^ (L + 1))
    (ht : TakI (dig Y) xl j (gq (val xl) Y L j) ((dig Y).length + 1) 0 1 l) (hb : BackF (dig Y) l j l2) : 0 < gq (val xl) Y L j ∧ KnI X Y j (NQ + (L + 2)) NQ l2 (ql.set j (gq (val xl) Y L j - 1)) := by
  obtain ⟨h1, h2, h3⟩ := kn_ok h hT
  have h4 := ht.eq
  obtain ⟨ov, h5⟩ := hb.eq
  rw [List.take_of_length_le (by omega), val_dig, Nat.add_zero, Nat.mul_one] at h4
  rw [val_dig] at h5
  have hx := h.below hY
  rw [hYL, show j + (L + 2 + 1) = j + L + 3 by omega] at h4
  rw [hYL, show j + (L + 2) + 1 = j + L + 3 by omega] at h5
  have hz : ∀ i, j + L + 3 ≤ i → lim l i = 0 := fun i hi => by
    rw [ht.top i (by rw [hYL]; omega)]
    exact lim_top h.smallx hx i hi
  have hz2 : ∀ i, j + L + 3 ≤ i → lim l2 i = 0 := fun i hi => by
    rw [hb.top i (by rw [hYL]; omega)]
    exact hz i hi
  have hv := val_lt_top ht.small hz
  have hv2 := val_lt_top hb.small hz2
  have hYP : Y * 4294967296 ^ j ≤ 4294967296 ^ (j + L + 3) := by
    rw [show j + L + 3 = (L + 2) + j + 1 by omega, Nat.pow_succ, Nat.pow_add]
    refine Nat.le_trans (Nat.mul_le_mul_right _ (Nat.le_of_lt hY)) ?_
    exact Nat.le_mul_of_pos_right _ (by omega)
  obtain ⟨k1, k2, k3⟩ := knuth_back (Nat.pow_pos (by omega)) hYP (kn_pos hT) h4 h5 h2 hv2 h1 hv
  exact ⟨k1, h.digit hj (by omega) (hb.len.trans (ht.len.trans h.lenx)) hb.small k2 k3⟩
end

set_option maxHeartbeats 1000000 in
set_option maxRecDepth 100000 in
theorem divk_walk (oa : Option Addr) (pb ob NQ L ca cb m n s : Nat) (w : World) (hla : (dig m).length = NQ + (L + 1)) (hlb : (dig n).length = L + 2) (hba : NQ + (L + 1) < 1000000000) (hq0 : 0 < NQ) (hle : n ≤ m)
    (h : NatV w (.slice oa (NQ + (L + 1) : Nat) ca) m) (h' : NatV w (.slice (some ⟨pb, ob, none⟩) (L + 2 : Nat) cb) n) (hs : s < 32) (hblen : blen (lim (dig n) (L + 1)) + s = 32)
    (hcell : ∀ w', Drawn w w' → w'.cell? ⟨pb, ob + (L + 1), none⟩ = some (.int .u32 (lim (dig n) (L + 1) : Nat))) :
    Calls Tryz.prog 42 #[.slice oa (NQ + (L + 1) : Nat) ca, .slice (some ⟨pb, ob, none⟩) (L + 2 : Nat) cb] w (RDiv w m n) := by
  have HC := Lib.hid hcell
  have hnc : decide (ncmp m n < 0) = false := by unfold ncmp; rw [if_neg (by omega)]; simp; split <;> omega
  have hL1 : (((L + 2 : Nat) : Int) == 0) = false := by rw [beq_eq_false_iff_ne]; omega
  have hL2 : (((L + 2 : Nat) : Int) == 1) = false := by rw [beq_eq_false_iff_ne]; omega
  have hL3 : ((L : Int) + 2 == 0) = false := by rw [beq_eq_false_iff_ne]; omega
  have hL4 : ((L : Int) + 2 == 1) = false := by rw [beq_eq_false_iff_ne]; omega
  have hlbig : L < 1000000000 := by have := dig_length_mono hle; omega
  have HCmp := Lib.hid (cmp_any _ _ m n w h h' (by omega) (by omega))
  have HT := Lib.hid (lim_lt (small_dig n) (L + 1))
  have HLZ : Hid (∀ w', Calls Tryz.prog 70 #[.int .u32 (lim (dig n) (L + 1) : Nat)] w' fun e w'' => e = .returned (.int .i64 s) ∧ w' = w'') := Lib.hid (fun w' => by
    refine (Tryz.bits_LeadingZeros32 ((lim (dig n) (L + 1) : Nat) : Int) w' (by omega) (by have := HT.out; omega)).mono ?_
    rintro e w'' ⟨rfl, rfl⟩
    refine ⟨?_, rfl⟩
    rw [Int.toNat_natCast, blen_eq HT.out]
    exact ret_i (by omega))
  have S1 : C1i 71 n s (n * 2 ^ s) := shl_c n s _ rfl (by unfold Big; omega) (by omega)
  have S2 : Hid (∀ v w', NatV w' v m → Calls Tryz.prog 71 #[v, .int .i64 s] w' (RNatO w' (m * 2 ^ s))) := Lib.hid fun v w' hv => shl_own v m s w' hv (by unfold Big; omega) (by omega)
  have hYL := Lib.hid (norm_len hlb hblen)
  have hYT := Lib.hid (norm_top hlb hblen)
  have hYlt := Lib.hid (norm_lt hlb hblen)
  clear hcell
  generalize ncmp m n = nc at *
  generalize lim (dig n) (L + 1) = top at *
  go_enter Tryz.func42, Tryz.ntmps42
  go_wp2_with first
    | ((go_at_call 45; (with_reducible refine (HCmp.out).mono ?_)); rintro e w0 ⟨rfl, hd⟩; have hcell := HC.out _ hd; have HD := Lib.hid hd; have b0 := Fol.drawn hd; clear hd)
    | ((go_at_call 70; (with_reducible refine (HLZ.out _).mono ?_)); rintro e w1 ⟨rfl, rfl⟩)
    | ((go_at_call 71; (with_reducible refine ((S1.out) _ _ (by (with_reducible (repeat ((fail_if_success assumption); first | refine NatV.fol ?_ (by assumption) | refine IntV.fol ?_ (by assumption) | refine Sl.fol ?_ (by assumption) | refine NatV.fol ?_ (Fol.new _ _) | refine IntV.fol ?_ (Fol.new _ _) | refine Sl.fol ?_ (Fol.new _ _) | refine NatV.fol ?_ (Fol.draw _) | refine IntV.fol ?_ (Fol.draw _) | refine Sl.fol ?_ (Fol.draw _))); assumption))).mono ?_)); rintro e w1 ⟨vy, rfl, hy, b1'⟩; have b1 := Fol.trans b0 b1')
    | ((go_at_call 71; (with_reducible refine ((S2.out) _ _ (by (with_reducible (repeat ((fail_if_success assumption); first | refine NatV.fol ?_ (by assumption) | refine IntV.fol ?_ (by assumption) | refine Sl.fol ?_ (by assumption) | refine NatV.fol ?_ (Fol.new _ _) | refine IntV.fol ?_ (Fol.new _ _) | refine Sl.fol ?_ (Fol.new _ _) | refine NatV.fol ?_ (Fol.draw _) | refine IntV.fol ?_ (Fol.draw _) | refine Sl.fol ?_ (Fol.draw _))); assumption))).mono ?_)); rintro e w2 ⟨v2, rfl, hown, b2⟩)
  have hKX : Hid (KnX w1 (m * 2 ^ s) v2 (dig (m * 2 ^ s)) w2) := Lib.hid ⟨hown, b2, small_dig _, val_dig _⟩
  have hxlen : (dig (m * 2 ^ s)).length ≤ NQ + (L + 2) := by
    apply len_lt
    rw [show NQ + (L + 2) = NQ + (L + 1) + 1 from rfl, Nat.pow_succ]
    exact Nat.mul_lt_mul'' (lt_pow_len (Nat.le_of_eq hla)) (Nat.lt_of_lt_of_le (Nat.pow_lt_pow_right (by omega) hs) (by omega))
  have hsl := slice_own hown
  obtain ⟨g, cap, hv2⟩ := hsl
  rw [hv2] at hKX ⊢
  have HXL := Lib.hid hxlen
  have HV2 := Lib.hid hKX
  clear hown b2 hv2 hxlen hKX
  go_loopw [12] (fun v wr => ∃ xl o cap, xl.length ≤ NQ + (L + 2) ∧ v = .slice o xl.length cap ∧ Hid (KnX w1 (m * 2 ^ s) v xl wr)) (fun v _ => NQ + (L + 2) - slen v)
  case atStart => exact ⟨_, _, _, HXL.out, rfl, HV2.out⟩
  case round =>
    obtain ⟨xl, o, cap, hxl, rfl, hK⟩ := hrel
    clear HV2 HXL
    by_cases hlt : xl.length ≤ NQ + (L + 1)
    · have C1 : Hid (xl.length ≤ 1099511627776) := Lib.hid (by omega)
      have hsz := hK.out.fol.size
      have HO := Lib.hid (hK.out.own.alloc)
      have HNX : Hid (∀ v' wz, (wr.alloc (.cells #[.int .u32 0] 43)).grownBy wz (Value.slice o xl.length cap).ownBlock → wz.ownsRow w1.heap.size 43 1 v' (xl.length + 1) (lv xl ++ [.int .u32 0]) → KnX w1 (m * 2 ^ s) v' (xl ++ [0]) wz) := Lib.hid (fun v' wz hg ho => ⟨by rw [lv_append, List.length_append]; exact ho, ((hK.out.fol.alloc hsz _).grown hg (by rw [World.size_alloc]; omega) (fun j hj => ((HO.out (.deferred none)).lt j hj).1)), small_append.2 ⟨hK.out.small, fun x hx => by simp at hx; omega⟩, by rw [val_append]; simp [val]; exact hK.out.eq⟩)
      obtain ⟨N, hN⟩ : ∃ N, N = xl.length := ⟨_, rfl⟩
      go_wp2_with (at_builtin; refine wpList_app1 rfl _ _ rfl w1.heap.size _ _ _ rfl (HO.out _) wr.heap.size 1 _ rfl (Boxed.new _ _ _) C1 (by rw [World.size_alloc]; omega) ?_; intro v' wz hown1 hgrow1)
      have HK2 := Lib.hid (HNX.out _ _ hgrow1 hown1)
      obtain ⟨o', cap', hv'⟩ := slice_own hown1
      subst hv'
      clear hgrow1 hown1
      go_roundw
      case rel => exact ⟨xl ++ [0], o', cap', by simp; omega, by simp, HK2⟩
      case measure => simp [slen]; omega
    · have hlen : xl.length = NQ + (L + 2) := by omega
      clear hxl hlt
      obtain ⟨g, cap', cur, hv, hgb, hgl, hgc, hcp, htk⟩ := own_form hK.out.own (by omega)
      cases hv
      have hrx := Lib.hid (own_at hgc htk)
      rw [hlen] at hK ⊢
      have HGB := Lib.hid hgb
      have HGL := Lib.hid hgl
      clear hgc htk hgb hgl
      rw [hlen] at hcp
      obtain ⟨oy, cy, rfl, _, hgy⟩ := Sl.gen hy
      rw [hYL.out] at hgy ⊢
      have HGY := Lib.hid hgy
      have hmk := make_run (NQ) (NQ) (Nat.le_refl _) (by omega) wr
      rw [zrow_rowW] at hmk
      have hKI := Lib.hid (KnI.first (n := n) hla hlb hlen hK.out.small hK.out.eq)
      have hKW : Hid (KnW w1 g wr.heap.size xl (List.replicate NQ 0) (rowW wr (List.replicate NQ 0))) :=
        Lib.hid ⟨Fol.trans hK.out.fol (rowW_below _ _), hrx.out.mono (Below.block (rowW_below _ _) _ HGL.out), ⟨_, rowW_heap _ _, fun i x hi => by
          have := lv_get (List.replicate NQ 0) i
          rw [hi] at this
          simpa using this⟩, Nat.ne_of_lt HGL.out, HGB.out, hK.out.fol.size⟩
      have HLB := Lib.hid hlb
      have HLA := Lib.hid hla
      have HLE := Lib.hid hle
      have HBL := Lib.hid hblen
      have B0 := Lib.hid b1
      obtain ⟨Q, hQ⟩ : ∃ Q, Q = wr.heap.size := ⟨_, rfl⟩
      go_wp2
      rw [← hQ] at hKW ⊢
      obtain ⟨Y, hY⟩ : ∃ Y, Y = n * 2 ^ s := ⟨_, rfl⟩
      obtain ⟨X, hX⟩ : ∃ X, X = m * 2 ^ s := ⟨_, rfl⟩
      rw [← hX, ← hY] at hKI
      rw [← hY] at hYlt hYT hYL HGY
      rw [← hX] at hK
      have HY := Lib.hid hY
      have HX := Lib.hid hX
      clear hX hY
      clear hy
      clear HCmp HLZ HC HD hcell h h' b1 b1' b0 hrx HGL hgy hmk hlb hla hle hblen S1 S2 hK hL1 hL2 hL3 hL4 hnc HT hlen hQ
      go_loopw [15, 16] (fun t _ wz => ∃ j xl ql, j ≤ NQ ∧ t = .int .i64 ((j : Int) - 1) ∧ Hid (KnI X Y j (NQ + (L + 2)) NQ xl ql) ∧ Hid (KnW w1 g Q xl ql wz)) (fun t _ _ => (intOf t + 1).toNat)
      case atStart => exact ⟨NQ, xl, _, Nat.le_refl _, rfl, hKI, hKW⟩
      case round =>
        clear hKI hKW
        obtain ⟨j, xl, ql, hj, rfl, hI, hW⟩ := hrel
        cases j with
        | zero =>
          have hlast := hI.out.last
          rw [HX.out, HY.out, Nat.mul_div_mul_right _ _ (Nat.pow_pos (by omega)), Nat.mul_mod_mul_right] at hlast
          have hsq := hW.out.rq.sl NQ NQ hI.out.lenq.symm (Nat.le_refl _)
          have hsx := hW.out.rx.sl (NQ + (L + 2)) cap hI.out.lenx.symm hcp
          have hfw : Fol w wr := Fol.trans B0.out hW.out.fol
          have M1 : Hid (∀ v w', Sl w' v ql → Calls Tryz.prog 69 #[v] w' (RNat w' (m / n))) := Lib.hid (fun v w' h => by
            have := make_any v ql w' h hI.out.smallq (by rw [hI.out.lenq]; omega)
            rwa [hlast.1] at this)
          have M2 : Hid (∀ v w', Sl w' v xl → Calls Tryz.prog 69 #[v] w' (RNat w' (m % n * 2 ^ s))) := Lib.hid (fun v w' h => by
            have := make_any v xl w' h hI.out.smallx (by rw [hI.out.lenx]; omega)
            rwa [hlast.2] at this)
          have S3 : C1i 75 (m % n * 2 ^ s) s (m % n) := by
            have h1 : (dig (m % n * 2 ^ s)).length ≤ NQ + (L + 2) := by
              rw [← hlast.2]
              have := val_lt hI.out.smallx
              rw [hI.out.lenx] at this
              exact len_lt this
            have := shr_c (m % n * 2 ^ s) s s rfl (big_of h1 (by omega)) (by omega)
            rwa [Nat.mul_div_cancel _ (Nat.pow_pos (by omega))] at this
          clear hlast
          go_wp2_with first
            | ((go_at_call 69; (with_reducible refine ((M1).out _ _ (by (with_reducible (repeat ((fail_if_success assumption); first | refine NatV.fol ?_ (by assumption) | refine IntV.fol ?_ (by assumption) | refine Sl.fol ?_ (by assumption) | refine NatV.fol ?_ (Fol.new _ _) | refine IntV.fol ?_ (Fol.new _ _) | refine Sl.fol ?_ (Fol.new _ _) | refine NatV.fol ?_ (Fol.draw _) | refine IntV.fol ?_ (Fol.draw _) | refine Sl.fol ?_ (Fol.draw _))); assumption))).mono ?_)); rintro e wN ⟨vN, rfl, hN, bN⟩) | ((go_at_call 69; (with_reducible refine ((M2).out _ _ (by (with_reducible (repeat ((fail_if_success assumption); first | refine NatV.fol ?_ (by assumption) | refine IntV.fol ?_ (by assumption) | refine Sl.fol ?_ (by assumption) | refine NatV.fol ?_ (Fol.new _ _) | refine IntV.fol ?_ (Fol.new _ _) | refine Sl.fol ?_ (Fol.new _ _) | refine NatV.fol ?_ (Fol.draw _) | refine IntV.fol ?_ (Fol.draw _) | refine Sl.fol ?_ (Fol.draw _))); assumption))).mono ?_)); rintro e wN ⟨vN, rfl, hN, bN⟩) | ((go_at_call 75; (with_reducible refine ((S3).out _ _ (by (with_reducible (repeat ((fail_if_success assumption); first | refine NatV.fol ?_ (by assumption) | refine IntV.fol ?_ (by assumption) | refine Sl.fol ?_ (by assumption) | refine NatV.fol ?_ (Fol.new _ _) | refine IntV.fol ?_ (Fol.new _ _) | refine Sl.fol ?_ (Fol.new _ _) | refine NatV.fol ?_ (Fol.draw _) | refine IntV.fol ?_ (Fol.draw _) | refine Sl.fol ?_ (Fol.draw _))); assumption))).mono ?_)); rintro e wN ⟨vN, rfl, hN, bN⟩)
          go_ret3
          exact ⟨_, _, rfl, by ((repeat ((fail_if_success assumption); first | with_reducible refine NatV.fol ?_ (by assumption) | with_reducible refine IntV.fol ?_ (by assumption) | with_reducible refine Sl.fol ?_ (by assumption) | with_reducible refine NatV.fol ?_ (Fol.new _ _) | with_reducible refine IntV.fol ?_ (Fol.new _ _) | with_reducible refine Sl.fol ?_ (Fol.new _ _) | with_reducible refine NatV.fol ?_ (Fol.draw _) | with_reducible refine IntV.fol ?_ (Fol.draw _) | with_reducible refine Sl.fol ?_ (Fol.draw _))); assumption), by ((repeat ((fail_if_success assumption); first | with_reducible refine NatV.fol ?_ (by assumption) | with_reducible refine IntV.fol ?_ (by assumption) | with_reducible refine Sl.fol ?_ (by assumption) | with_reducible refine NatV.fol ?_ (Fol.new _ _) | with_reducible refine IntV.fol ?_ (Fol.new _ _) | with_reducible refine Sl.fol ?_ (Fol.new _ _) | with_reducible refine NatV.fol ?_ (Fol.draw _) | with_reducible refine IntV.fol ?_ (Fol.draw _) | with_reducible refine Sl.fol ?_ (Fol.draw _))); assumption), by (with_reducible first | exact Fol.refl _ | ((repeat ((fail_if_success assumption); first | refine Fol.trans ?_ (by assumption) | refine Fol.trans ?_ (Fol.new _ _) | refine Fol.trans ?_ (Fol.draw _))); (first | assumption | exact Fol.refl _)))⟩
        | succ j =>
          have hgs := kn_guess hI.out hYlt.out hYT.out
          have hok := kn_ok hI.out hYT.out
          have HW := hW.out
          have HX := HW.rx
          have hlx := hI.out.lenx
          have c0 : wr.cell? ⟨g, j + L + 2, none⟩ = some (.int .u32 (lim xl (j + L + 2) : Nat)) := HX.cell (by rw [hlx]; omega)
          have c1 : wr.cell? ⟨g, j + L + 1, none⟩ = some (.int .u32 (lim xl (j + L + 1) : Nat)) := HX.cell (by rw [hlx]; omega)
          have c2 : wr.cell? ⟨g, j + L, none⟩ = some (.int .u32 (lim xl (j + L) : Nat)) := HX.cell (by rw [hlx]; omega)
          obtain ⟨py, oy', rfl, hpy, d0'⟩ := HGY.out (L + 1) (by omega)
          obtain ⟨py', oy'', he, hpy', d1'⟩ := HGY.out L (by omega)
          cases he
          have d0 : wr.cell? ⟨py, oy' + (L + 1), none⟩ = some (.int .u32 (lim (dig Y) (L + 1) : Nat)) := (HW.fol.cell hpy).trans d0'
          have d1 : wr.cell? ⟨py, oy' + L, none⟩ = some (.int .u32 (lim (dig Y) L : Nat)) := (HW.fol.cell hpy).trans d1'
          have w0 : IntKind.i64.wrap ((j : Int) + ((L : Int) + 2)) = ((j + L + 2 : Nat) : Int) := by rw [IntKind.wrap_i64]; omega
          have w0' : IntKind.i64.wrap ((j : Int) + (L : Int) + 2) = ((j + L + 2 : Nat) : Int) := by rw [IntKind.wrap_i64]; omega
          have w1' : IntKind.i64.wrap ((j : Int) + ((L : Int) + 2) - 1) = ((j + L + 1 : Nat) : Int) := by rw [IntKind.wrap_i64]; omega
          have w2' : IntKind.i64.wrap ((j : Int) + ((L : Int) + 2) - 2) = ((j + L : Nat) : Int) := by rw [IntKind.wrap_i64]; omega
          have w3' : IntKind.i64.wrap (((j + L + 2 : Nat) : Int) - 1) = ((j + L + 1 : Nat) : Int) := by rw [IntKind.wrap_i64]; omega
          have w4' : IntKind.i64.wrap (((j + L + 2 : Nat) : Int) - 2) = ((j + L : Nat) : Int) := by rw [IntKind.wrap_i64]; omega
          have w5' : IntKind.i64.wrap ((L : Int) + 2 - 1) = ((L + 1 : Nat) : Int) := by rw [IntKind.wrap_i64]; omega
          have w6' : IntKind.i64.wrap ((L : Int) + 2 - 2) = (L : Int) := by rw [IntKind.wrap_i64]; omega
          have j0 : ((j + 1 : Nat) : Int) - 1 = j := by omega
          rw [j0]
          have HGS := Lib.hid hgs
          have HOK := Lib.hid hok
          have HWW := Lib.hid HW
          clear hgs hok HW HX hlx d0' d1' hpy'
          have HTK : Hid (∀ wx, KnW w1 g Q xl ql wx → Calls Tryz.prog 73 #[.slice (some ⟨g, j, none⟩) (j + L + 2 + 1 - j) (cap - j), .slice (some ⟨py, oy', none⟩) (L + 2) cy, .int .u64 (gq (val xl) Y L j : Nat)] wx (TakR (dig Y) xl g j (gq (val xl) Y L j) wx)) := Lib.hid (fun wx hx => by
            rw [show j + L + 2 + 1 - j = L + 2 + 1 by omega]
            refine take_walk g j (L + 2) _ cy _ _ (dig Y) xl wx hYL.out HOK.out.2.2 (small_dig Y) hI.out.smallx (by rw [hI.out.lenx]; omega) (by rw [hI.out.lenx]; omega) hx.rx (fun i hi => ?_)
            obtain ⟨p, o, he, hp, hc⟩ := HGY.out i hi
            exact ⟨p, o, he, by have := hx.gx; omega, (hx.fol.cell hp).trans hc⟩)
          have HBK : Hid (∀ l wx, KnW w1 g Q l ql wx → l.length = NQ + (L + 2) → Small l → Calls Tryz.prog 74 #[.slice (some ⟨g, j, none⟩) (j + L + 2 + 1 - j) (cap - j), .slice (some ⟨py, oy', none⟩) (L + 2) cy] wx fun e w' => (∃ v, e = .returned v) ∧ BackR (dig Y) l g j wx w') := Lib.hid (fun l wx hx hl1 hl2 => by
            rw [show j + L + 2 + 1 - j = L + 2 + 1 by omega]
            refine back_walk g j (L + 2) _ cy _ (dig Y) l wx hYL.out (small_dig Y) hl2 (by rw [hl1]; omega) (by rw [hl1]; omega) hx.rx (fun i hi => ?_)
            obtain ⟨p, o, he, hp, hc⟩ := HGY.out i hi
            exact ⟨p, o, he, by have := hx.gx; omega, (hx.fol.cell hp).trans hc⟩)
          go_wp2
          go_quiet (exact Calls.quiet_of (HGS.out _))
          have HW3 := Lib.hid (HWW.out.drawn (wr' := wr.drewN nq) ⟨_, rfl⟩)
          have hgl := HOK.out.2.2
          have hlq := hI.out.lenq
          have HS0 := Lib.hid (fun l ht => kn_step0 (l := l) hI.out (by omega) hYT.out ht)
          have HS1 := Lib.hid (fun l l2 ht hb => kn_step1 (l := l) (l2 := l2) hI.out (by omega) hYL.out hYlt.out hYT.out ht hb)
          clear HWW HGS HOK c0 c1 c2 d0 d1
          go_wp2_with first
            | ((go_at_call 73; (with_reducible refine (HTK.out _ HW3.out).mono ?_)); rintro e w' ⟨l, bor, rfl, ht, hr, ho⟩; have HW4 := Lib.hid (HW3.out.oth ho hr); have qc := HW4.out.rq.cell (i := j) (by rw [hlq]; omega); have qf := HW4.out.rq.frozen j; have HT := Lib.hid ht; clear ht hr ho; rcases (show bor = 0 ∨ bor = 1 by have := HT.out.one; omega) with rfl | rfl)
            | ((go_at_call 74; (with_reducible refine (HBK.out l _ HW4.out (HT.out.len.trans hI.out.lenx) HT.out.small).mono ?_)); rintro e w'' ⟨⟨v, rfl⟩, l2, hb2, hr2, ho2⟩; have HW5 := Lib.hid (HW4.out.oth ho2 hr2); have qc := HW5.out.rq.cell (i := j) (by rw [hlq]; omega); have qf := HW5.out.rq.frozen j; have HB2 := Lib.hid hb2; clear hb2 hr2 ho2)
          · go_roundw
            case rel => exact ⟨j, l, ql.set j (gq (val xl) Y L j), by omega, rfl, Lib.hid (HS0.out l HT.out), Lib.hid (HW4.out.set j _)⟩
            case measure => simp [intOf]
          · have HS := HS1.out l l2 HT.out HB2.out
            have hpos := HS.1
            have ew : IntKind.u64.wrap (((gq (val xl) Y L j : Nat) : Int) - 1) % 4294967296 = ((gq (val xl) Y L j - 1 : Nat) : Int) := by rw [IntKind.wrap_u64]; omega
            rw [ew]
            go_roundw
            case rel => exact ⟨j, l2, ql.set j (gq (val xl) Y L j - 1), by omega, rfl, Lib.hid HS.2, Lib.hid (HW5.out.set j _)⟩
            case measure => simp [intOf]
end Go.Proofs.YtckahcgolfnobaaGreatDoor
