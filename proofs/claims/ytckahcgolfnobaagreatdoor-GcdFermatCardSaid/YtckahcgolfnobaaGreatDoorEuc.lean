/- Euclid's rows: what the cofactors keep. -/
import Derived.Test.YtckahcgolfnobaaGreatDoorThen
namespace Go.Proofs.YtckahcgolfnobaaGreatDoor
open Go Go.RowKit

/-- A state of Euclid's algorithm with cofactors. -/
structure ES where
  x : Nat
  y : Nat
  m : M4
def ES.pair (s : ES) : Nat × Nat := (s.x, s.y)
def ES.next (s : ES) : ES := ⟨s.y, s.x % s.y, s.m.step (s.x / s.y)⟩
def ES.first (a b : Nat) : ES := ⟨a, b, ⟨1, 0, 0, 1⟩⟩

/-- Where Euclid's algorithm ends. -/
def eRun (s : ES) : ES := if s.y = 0 then s else eRun s.next
termination_by s.y
decreasing_by exact Nat.mod_lt _ (by omega)
theorem eRun_next {s : ES} (h : 0 < s.y) : eRun s.next = eRun s := by
  rw [eRun.eq_1 s, if_neg (by omega)]
theorem eRun_end {s : ES} (h : s.y = 0) : eRun s = s := by
  rw [eRun.eq_1 s, if_pos h]

structure EInv (a b : Nat) (s : ES) : Prop where
  l1 : s.m.a * a + s.m.b * b = s.x
  l2 : s.m.c * a + s.m.d * b = s.y
  n1 : s.m.c.natAbs * s.x + s.m.a.natAbs * s.y = b
  n2 : s.m.d.natAbs * s.x + s.m.b.natAbs * s.y = a
  g1 : s.m.a * s.m.c ≤ 0
  g2 : s.m.b * s.m.d ≤ 0
  hx : s.x ≤ max a b
  hy : s.y ≤ max a b
  gcd : Nat.gcd s.x s.y = Nat.gcd a b
  ba : s.m.a.natAbs ≤ b + 1
  bb : s.m.b.natAbs ≤ a + 1
  bc : s.m.c.natAbs ≤ b + 1
  bd : s.m.d.natAbs ≤ a + 1
  run : eRun s = eRun (ES.first a b)

theorem abs_opp {u v : Int} (h : u * v ≤ 0) (q : Nat) : (u - q * v).natAbs = u.natAbs + q * v.natAbs := by
  have hq : ((q : Int) * v).natAbs = q * v.natAbs := by rw [Int.natAbs_mul]; rfl
  rw [← hq]
  have hs : u * ((q : Int) * v) ≤ 0 := by
    have : u * ((q : Int) * v) = q * (u * v) := by grind
    rw [this]
    exact Int.mul_nonpos_of_nonneg_of_nonpos (by omega) h
  generalize (q : Int) * v = t at *
  by_cases hu : 0 < u
  · have : t ≤ 0 := by
      apply Int.not_lt.1
      intro ht
      have := Int.mul_pos hu ht
      omega
    omega
  · by_cases hu2 : u = 0
    · subst hu2; omega
    · have : 0 ≤ t := by
        apply Int.not_lt.1
        intro ht
        have := Int.mul_pos_of_neg_of_neg (show u < 0 by omega) ht
        omega
      omega

theorem opp_step {u v : Int} (h : u * v ≤ 0) (q : Nat) : v * (u - q * v) ≤ 0 := by
  have e : v * (u - q * v) = u * v - q * (v * v) := by grind
  have h2 : 0 ≤ v * v := by
    rcases Int.le_total 0 v with h | h
    · exact Int.mul_nonneg h h
    · exact Int.mul_nonneg_of_nonpos_of_nonpos h h
  have h3 : 0 ≤ (q : Int) * (v * v) := Int.mul_nonneg (by omega) h2
  omega

theorem EInv.first (a b : Nat) : EInv a b (ES.first a b) := by
  refine ⟨by simp [ES.first], by simp [ES.first], by simp [ES.first], by simp [ES.first], by simp [ES.first], by simp [ES.first], ?_, ?_, rfl, by simp [ES.first], by simp [ES.first], by simp [ES.first], by simp [ES.first], rfl⟩
  · exact Nat.le_max_left _ _
  · exact Nat.le_max_right _ _

theorem row_step {u v x y : Nat} {c : Nat} (h : v * x + u * y = c) : (u + x / y * v) * y + v * (x % y) = c := by
  have := Nat.div_add_mod x y
  generalize x / y = q at *
  generalize x % y = r at *
  subst h
  rw [← this]
  grind

theorem EInv.rows {a b : Nat} {s : ES} (h : EInv a b s) : (s.m.a.natAbs + s.x / s.y * s.m.c.natAbs) * s.y + s.m.c.natAbs * (s.x % s.y) = b ∧ (s.m.b.natAbs + s.x / s.y * s.m.d.natAbs) * s.y + s.m.d.natAbs * (s.x % s.y) = a :=
  ⟨row_step h.n1, row_step h.n2⟩

theorem EInv.ends {a b : Nat} {s : ES} (h : EInv a b s) (hz : s.y = 0) : s = eRun (ES.first a b) := by
  rw [← h.run, eRun_end hz]

/-- What a step's products are bounded by. -/
theorem EInv.prods {a b : Nat} {s : ES} (h : EInv a b s) (hy : 0 < s.y) : s.m.a.natAbs + s.x / s.y * s.m.c.natAbs ≤ b ∧ s.m.b.natAbs + s.x / s.y * s.m.d.natAbs ≤ a := by
  obtain ⟨h1, h2⟩ := h.rows
  constructor
  · have := Nat.le_mul_of_pos_right (s.m.a.natAbs + s.x / s.y * s.m.c.natAbs) hy
    omega
  · have := Nat.le_mul_of_pos_right (s.m.b.natAbs + s.x / s.y * s.m.d.natAbs) hy
    omega

theorem EInv.next {a b : Nat} {s : ES} (h : EInv a b s) (hy : 0 < s.y) : EInv a b s.next := by
  have hd : (s.x : Int) = s.y * (s.x / s.y : Nat) + (s.x % s.y : Nat) := by
    have := Nat.div_add_mod s.x s.y
    exact_mod_cast this.symm
  have hm : s.x % s.y ≤ s.y := Nat.le_of_lt (Nat.mod_lt _ hy)
  have h1 := h.l1
  have h2 := h.l2
  have hp := h.prods hy
  have hr := h.rows
  refine ⟨h.l2, ?_, ?_, ?_, opp_step h.g1 _, opp_step h.g2 _, h.hy, Nat.le_trans hm h.hy, ?_, h.bc, h.bd, ?_, ?_, (eRun_next hy).trans h.run⟩
  · show (s.m.a - (s.x / s.y : Nat) * s.m.c) * a + (s.m.b - (s.x / s.y : Nat) * s.m.d) * b = (s.x % s.y : Nat)
    generalize (s.x / s.y : Nat) = q at *
    generalize (s.x % s.y : Nat) = r at *
    grind
  · show (s.m.a - (s.x / s.y : Nat) * s.m.c).natAbs * s.y + s.m.c.natAbs * (s.x % s.y) = b
    rw [abs_opp h.g1]; exact hr.1
  · show (s.m.b - (s.x / s.y : Nat) * s.m.d).natAbs * s.y + s.m.d.natAbs * (s.x % s.y) = a
    rw [abs_opp h.g2]; exact hr.2
  · show Nat.gcd s.y (s.x % s.y) = _
    rw [← h.gcd, Nat.gcd_comm s.y, ← Nat.gcd_rec, Nat.gcd_comm]
  · show (s.m.a - (s.x / s.y : Nat) * s.m.c).natAbs ≤ b + 1
    rw [abs_opp h.g1]; omega
  · show (s.m.b - (s.x / s.y : Nat) * s.m.d).natAbs ≤ a + 1
    rw [abs_opp h.g2]; omega

/-- How long a product is at least. -/
theorem len_mul_ge {q c : Nat} (hq : 0 < q) (hc : 0 < c) : (dig q).length + (dig c).length ≤ (dig (q * c)).length + 1 := by
  have h1 := pow_dig_length_le (show q ≠ 0 by omega)
  have h2 := pow_dig_length_le (show c ≠ 0 by omega)
  have h3 := Nat.mul_le_mul h1 h2
  rw [← Nat.pow_add] at h3
  have h4 := lt_dig_length (q * c)
  have h5 : (dig q).length - 1 + ((dig c).length - 1) < (dig (q * c)).length := (Nat.pow_lt_pow_iff_right (by omega)).1 (Nat.lt_of_le_of_lt h3 h4)
  have p1 := dig_pos' hq
  have p2 := dig_pos' hc
  omega

/-- Products that stay below N limbs are made without the longer ways. -/
theorem mul_below {q c N : Nat} (h : (dig (q * c)).length ≤ N) (hN : N ≤ 26) : Hid (∀ v v' w', NatV w' v q → NatV w' v' c → (dig q).length ≤ 1048576 → (dig c).length ≤ 1048576 → Calls Tryz.prog 58 #[v, v'] w' (RNat w' (q * c))) := by
  refine Lib.hid fun v v' w' h1 h2 hq hc => ?_
  refine (mul_c q c hq hc ?_).out v v' w' h1 h2
  rcases Nat.eq_zero_or_pos q with rfl | hq0
  · rw [dig_zero]; simp
  · rcases Nat.eq_zero_or_pos c with rfl | hc0
    · rw [dig_zero]; simp
    · have := len_mul_ge hq0 hc0
      omega
theorem mul_small {q c N : Nat} (h : (dig (q * c)).length ≤ N) (hN : N ≤ 26) (hq : (dig q).length ≤ 1048576) (hc : (dig c).length ≤ 1048576) : C2 58 q c (q * c) :=
  Lib.hid fun v v' w' h1 h2 => (mul_below h hN).out v v' w' h1 h2 hq hc

theorem len_succ {a N : Nat} (h : (dig a).length ≤ N) : (dig (a + 1)).length ≤ N + 1 := by
  have h1 := lt_pow_len h
  apply len_lt
  rw [Nat.pow_succ]
  omega

theorem EInv.lens {a b N : Nat} {s : ES} (h : EInv a b s) (ha : (dig a).length ≤ N) (hb : (dig b).length ≤ N) :
    (dig s.x).length ≤ N ∧ (dig s.y).length ≤ N ∧ (dig s.m.a.natAbs).length ≤ N + 1 ∧ (dig s.m.b.natAbs).length ≤ N + 1 ∧ (dig s.m.c.natAbs).length ≤ N + 1 ∧ (dig s.m.d.natAbs).length ≤ N + 1 := by
  have hm : (dig (max a b)).length ≤ N := by
    rcases Nat.le_total a b with hab | hab
    · rw [Nat.max_eq_right hab]; exact hb
    · rw [Nat.max_eq_left hab]; exact ha
  exact ⟨len_le h.hx hm, len_le h.hy hm, len_le h.ba (len_succ hb), len_le h.bb (len_succ ha), len_le h.bc (len_succ hb), len_le h.bd (len_succ ha)⟩

theorem thenOk_of {a b N : Nat} {s : ES} (h : EInv a b s) (hy : 0 < s.y) (ha : (dig a).length ≤ N) (hb : (dig b).length ≤ N) (hN : N ≤ 26) : ThenOk s.m (s.x / s.y) := by
  obtain ⟨p1, p2⟩ := h.prods hy
  obtain ⟨lx, ly, la, lb, lc, ld⟩ := h.lens ha hb
  have lq : (dig (s.x / s.y)).length ≤ N := len_le (Nat.div_le_self _ _) lx
  exact ⟨big_of lq (by omega), big_of la (by omega), big_of lb (by omega), mul_small (len_le (show s.x / s.y * s.m.c.natAbs ≤ b by omega) hb) hN (by omega) (by omega),
    mul_small (len_le (show s.x / s.y * s.m.d.natAbs ≤ a by omega) ha) hN (by omega) (by omega), big_of (len_le p1 hb) (by omega), big_of (len_le p2 ha) (by omega)⟩
end Go.Proofs.YtckahcgolfnobaaGreatDoor
