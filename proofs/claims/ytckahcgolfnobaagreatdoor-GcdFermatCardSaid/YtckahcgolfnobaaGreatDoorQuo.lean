/- gcd.Quots. -/
import Derived.Test.YtckahcgolfnobaaGreatDoorExt
namespace Go.Proofs.YtckahcgolfnobaaGreatDoor
open Go Go.RowKit
attribute [local go_sem] Oper.semAt_some
attribute [local go_sem ↓] append_hide
attribute [local go_sem] run_appSem

/-! ### Plain: Euclid's quotients -/
def quots (a b : Nat) : List Nat := if _h : b = 0 then [] else a / b :: quots b (a % b)
termination_by b
decreasing_by exact Nat.mod_lt _ (Nat.pos_of_ne_zero _h)
theorem quots_zero (a : Nat) : quots a 0 = [] := by unfold quots; simp
theorem quots_pos {a b : Nat} (h : 0 < b) : quots a b = a / b :: quots b (a % b) := by rw [quots]; simp [Nat.pos_iff_ne_zero.1 h]

structure QS where
  x : Nat
  y : Nat
  qs : List Nat
def QS.pair (s : QS) : Nat × Nat := (s.x, s.y)
def QS.next (s : QS) : QS := ⟨s.y, s.x % s.y, s.qs ++ [s.x / s.y]⟩

structure QInv (a b N : Nat) (s : QS) : Prop where
  eq : s.qs ++ quots s.x s.y = quots a b
  lx : (dig s.x).length ≤ N
  ly : (dig s.y).length ≤ N
  st : s.qs = [] ∨ (s.y < s.x ∧ 2 ^ s.qs.length * (s.x * s.y) ≤ 2 * (4294967296 ^ N * 4294967296 ^ N))

theorem QInv.first {a b N : Nat} (ha : (dig a).length ≤ N) (hb : (dig b).length ≤ N) : QInv a b N ⟨a, b, []⟩ := ⟨rfl, ha, hb, .inl rfl⟩
theorem half_step {x y : Nat} (h : y < x) : 2 * (y * (x % y)) ≤ x * y := by
  have h1 := Nat.div_add_mod x y
  rcases Nat.eq_zero_or_pos y with h0 | hy
  · subst h0; simp
  · have h2 := Nat.mod_lt x hy
    have h3 : 0 < x / y := Nat.div_pos (by omega) hy
    have h4 : y ≤ y * (x / y) := Nat.le_mul_of_pos_right _ h3
    have h5 : 2 * (x % y) ≤ x := by omega
    have := Nat.mul_le_mul_left y h5
    rw [Nat.mul_comm x y]
    have e : 2 * (y * (x % y)) = y * (2 * (x % y)) := by grind
    omega
theorem QInv.next {a b N : Nat} {s : QS} (h : QInv a b N s) (hy : 0 < s.y) : QInv a b N s.next := by
  refine ⟨?_, h.ly, len_le (Nat.le_of_lt (Nat.mod_lt _ hy)) h.ly, .inr ⟨Nat.mod_lt _ hy, ?_⟩⟩
  · rw [← h.eq, quots_pos hy]
    simp [QS.next]
  · show 2 ^ (s.qs ++ [s.x / s.y]).length * (s.y * (s.x % s.y)) ≤ _
    rw [List.length_append, List.length_singleton, Nat.pow_succ]
    have hx := Nat.le_of_lt (lt_pow_len h.lx)
    have hyl := Nat.le_of_lt (lt_pow_len h.ly)
    rcases h.st with h0 | ⟨h1, h2⟩
    · rw [h0]
      simp only [List.length_nil, Nat.pow_zero, Nat.one_mul]
      have hm : s.x % s.y ≤ s.x := Nat.mod_le _ _
      have := Nat.mul_le_mul hyl (Nat.le_trans hm hx)
      omega
    · have h3 := half_step h1
      have h4 := Nat.mul_le_mul_left (2 ^ s.qs.length) h3
      have e : 2 ^ s.qs.length * 2 * (s.y * (s.x % s.y)) = 2 ^ s.qs.length * (2 * (s.y * (s.x % s.y))) := by grind
      omega
theorem QInv.len {a b N : Nat} {s : QS} (h : QInv a b N s) (hy : 0 < s.y) : s.qs.length ≤ 64 * N + 1 := by
  rcases h.st with h0 | ⟨h1, h2⟩
  · rw [h0]; simp
  · have h3 : 0 < s.x * s.y := Nat.mul_pos (by omega) hy
    have h4 := Nat.le_mul_of_pos_right (2 ^ s.qs.length) h3
    have h5 : 2 * (4294967296 ^ N * 4294967296 ^ N) = 2 ^ (64 * N + 1) := by
      rw [← Nat.pow_add, show (4294967296 : Nat) = 2 ^ 32 from rfl, ← Nat.pow_mul, Nat.pow_succ, show 32 * (N + N) = 64 * N by omega, Nat.mul_comm]
    rw [h5] at h2
    exact (Nat.pow_le_pow_iff_right (by omega)).1 (Nat.le_trans h4 h2)

/-! ### Rows of naturals -/
theorem infoS : (Tryz.prog.info? 22).map (fun i => (i.zero, i.size, i.bytes)) = some (some (.slice none 0 0), 1, 24) := by kernel_rfl

/-- v is a row of the call's own, whose cells read as naturals. -/
def OwnNs (W : World) (base : Nat) (v : Value) (qs : List Nat) : Prop := ∃ vs : List Value, vs.length = qs.length ∧ W.ownsRow base 22 1 v qs.length vs ∧ ∀ (i : Nat) (u : Value) (q : Nat), vs[i]? = some u → qs[i]? = some q → NatV W u q

/-- v reads as a row of naturals. -/
def NatsV (W : World) (v : Value) (qs : List Nat) : Prop := ∃ o cap, v = .slice o qs.length cap ∧ qs.length ≤ cap ∧ (o = none → cap = 0) ∧ ∀ (i q : Nat), qs[i]? = some q → ∃ b off u, o = some ⟨b, off, none⟩ ∧ b < W.heap.size ∧ W.cell? ⟨b, off + i, none⟩ = some u ∧ NatV W u q
theorem NatsV.fol {W W' : World} {v : Value} {qs : List Nat} (h : NatsV W v qs) (k : Fol W W') : NatsV W' v qs := by
  obtain ⟨o, cap, hv, hc, hn, h⟩ := h
  refine ⟨o, cap, hv, hc, hn, fun i q hq => ?_⟩
  obtain ⟨b, off, u, ho, hb, hu, hn⟩ := h i q hq
  exact ⟨b, off, u, ho, Nat.lt_of_lt_of_le hb k.size, (k.cell hb).trans hu, hn.fol k⟩
theorem OwnNs.reads {W : World} {base : Nat} {v : Value} {qs : List Nat} (h : OwnNs W base v qs) : NatsV W v qs := by
  obtain ⟨vs, hl, ho, hn⟩ := h
  rcases ho.2 with ⟨rfl, h0⟩ | ⟨g, cap, cur, rfl, _, hg, hle, _, _, htk⟩
  · have : qs = [] := List.eq_nil_of_length_eq_zero h0
    subst this
    exact ⟨none, 0, rfl, Nat.le_refl _, fun _ => rfl, fun i q hq => by simp at hq⟩
  · refine ⟨_, cap, rfl, hle, (fun h => by cases h), fun i q hq => ?_⟩
    have hi : i < qs.length := (List.getElem?_eq_some_iff.1 hq).1
    obtain ⟨u, hu⟩ : ∃ u, vs[i]? = some u := ⟨vs[i]'(by omega), by simp [show i < vs.length by omega]⟩
    refine ⟨g, 0, u, rfl, (Array.getElem?_eq_some_iff.1 hg).1, ?_, hn i u q hu hq⟩
    have h1 : cur.toList[i]? = some u := by
      rw [← htk, List.getElem?_take] at hu
      split at hu
      · exact hu
      · cases hu
    simp only [World.cell?, hg, Nat.zero_add]
    simpa using h1
theorem OwnNs.same {W W' : World} {base : Nat} {v : Value} {qs : List Nat} (h : OwnNs W base v qs) (hk : Keep W W') (hb : ∀ k o, base ≤ k → W.heap[k]? = some o → W'.heap[k]? = some o) : OwnNs W' base v qs := by
  obtain ⟨vs, hl, ho, hn⟩ := h
  refine ⟨vs, hl, ⟨ho.1, ?_⟩, fun i u q hu hq => (hn i u q hu hq).keep hk⟩
  rcases ho.2 with h0 | ⟨g, cap, cur, hv, hg0, hg, h2⟩
  · exact .inl h0
  · exact .inr ⟨g, cap, cur, hv, hg0, hb g _ hg0 hg, h2⟩

structure QX (H0 a b N : Nat) (s : QS) (W : World) : Prop where
  out : ∃ v, Boxed W H0 30 v ∧ OwnNs W (H0 + 5) v s.qs
  inv : QInv a b N s
structure QY (H0 a b N : Nat) (s : QS) (W : World) : Prop where
  out : ∃ v, Boxed W H0 30 v ∧ OwnNs W (H0 + 5) v (if 0 < s.y then s.next.qs else s.qs)
  inv : QInv a b N s
theorem QX.steady {w : World} {H0 a b N : Nat} (hw : w.heap.size ≤ H0) : Steady w (H0 + 1) (QX H0 a b N) := fun s W W' h k => by
  obtain ⟨⟨v, hb, ho⟩, hi⟩ := h
  exact ⟨⟨v, (k.same _ hw (by omega)).trans hb, ho.same k.keep (fun j o hj => k.late j o (by omega))⟩, hi⟩
theorem QY.steady {w : World} {H0 a b N : Nat} (hw : w.heap.size ≤ H0) : Steady w (H0 + 1) (QY H0 a b N) := fun s W W' h k => by
  obtain ⟨⟨v, hb, ho⟩, hi⟩ := h
  exact ⟨⟨v, (k.same _ hw (by omega)).trans hb, ho.same k.keep (fun j o hj => k.late j o (by omega))⟩, hi⟩
theorem QY.next {H0 a b N : Nat} {s : QS} {W : World} (h : QY H0 a b N s W) (hy : 0 < s.y) : QX H0 a b N s.next W := by
  obtain ⟨⟨v, hb, ho⟩, hi⟩ := h
  rw [if_pos hy] at ho
  exact ⟨⟨v, hb, ho⟩, hi.next hy⟩

def RNats (w : World) (qs : List Nat) (e : Ending) (w' : World) : Prop := ∃ v, e = .returned v ∧ NatsV w' v qs ∧ Fol w w'

/-- A quotient is appended: the world behind it. -/
theorem quo_append {w W2 : World} {H0 a b N : Nat} {B : Loop} {s : QS} {va vb vq rv : Value} (h : RI QS.pair (QX H0 a b N) w (H0 + 1) B s va vb W2) (hw : w.heap.size ≤ H0) (hy : 0 < s.y) (hN : N ≤ 1000000) (hq : NatV W2 vq (s.x / s.y)) (hrv : Boxed W2 H0 30 rv) (hown : OwnNs W2 (H0 + 5) rv s.qs) :
    ∃ v' w3, Sem.run Tryz.prog (Builtin.append_ #[30, 30] 30 #[rv, .slice (some ⟨W2.heap.size, 0, none⟩) 1 1]) (W2.alloc (.cells #[vq] 22)) = .ok v' w3 ∧ (∃ o n c, v' = .slice o n c) ∧
      w3.cell? ⟨H0, 0, none⟩ = some rv ∧ w3.frozen? ⟨H0, 0, none⟩ = false ∧ RI QS.pair (QY H0 a b N) w (H0 + 1) B s va vb (w3.setCell ⟨H0, 0, none⟩ v') := by
  obtain ⟨vs, hl, ho, hn⟩ := hown
  obtain ⟨i0, hi0, hz0, hz1, hz2⟩ := info_parts' infoS
  have hlen := h.own.inv.len hy
  have hsz := h.size
  have hf : Fol W2 (W2.alloc (.cells #[vq] 22)) := Fol.new _ _
  obtain ⟨v', w3, hrun, hown', hgrow, _⟩ := run_append_own (P := Tryz.prog) (W2.alloc (.cells #[vq] 22)) (H0 + 5) 30 30 22 i0 (.slice none 0 0) 1 24 Tryz.underlying30 hi0 hz0 hz1 hz2 rfl (by decide)
    rv s.qs.length vs (ho.alloc _) ⟨W2.heap.size, 0, none⟩ 1 1 [vq] rfl (fun j u hu => by
      rw [addr_add]
      have hj : j = 0 := by
        cases j with
        | zero => rfl
        | succ j => simp at hu
      subst hj
      simp at hu
      subst hu
      exact (Boxed.new W2 22 vq).cell) (by intro u hu; simp at hu; subst hu; obtain ⟨o, c, hv, _⟩ := hq.slice; rw [hv]; rfl) (by unfold maxLen; omega) (by omega) (by rw [World.size_alloc]; omega)
  have sh : ∃ o m c, v' = .slice o m c := by
    rcases hown'.2 with ⟨rfl, _⟩ | ⟨g, cap, cur, rfl, _⟩ <;> exact ⟨_, _, _, rfl⟩
  have hB := (hf.block _ hrv.lt).trans hrv
  have hbl : ∀ (k : Nat), k < W2.heap.size → k < H0 + 5 → w3.heap[k]? = W2.heap[k]? := fun k hk hk5 => by
    refine (hgrow.block k (by rw [World.size_alloc]; omega) ?_).trans (hf.block k hk)
    intro he
    rcases ho.2 with ⟨rfl, _⟩ | ⟨g, cap, cur, rfl, hg0, _⟩
    · simp [Value.ownBlock] at he
    · simp [Value.ownBlock] at he
      omega
  have hkA : Keep (W2.alloc (.cells #[vq] 22)) w3 := by
    refine ⟨fun k cs fz he => (hgrow.block k (Array.getElem?_eq_some_iff.1 he).1 ?_).trans he, hgrow.size⟩
    intro hk
    rcases ho.2 with ⟨rfl, _⟩ | ⟨g, cap, cur, rfl, hg0, hg, _⟩
    · simp [Value.ownBlock] at hk
    · simp [Value.ownBlock] at hk
      subst hk
      have := (hf.block _ (Array.getElem?_eq_some_iff.1 hg).1).trans hg
      rw [he] at this
      have := (Obj.cells.inj (Option.some.inj this)).2.1
      revert this; decide
  have hk3 : Keep W2 w3 := hf.keep.trans hkA
  have hb3 : Boxed w3 H0 30 rv := (hbl _ hrv.lt (by omega)).trans hrv
  have hkS : Keep w3 (w3.setCell ⟨H0, 0, none⟩ v') := Keep.setCell (p := ⟨H0, 0, none⟩) hb3 (fun cs fz he => absurd (Obj.cells.inj he).2.1 (by decide)) v'
  have hk := hk3.trans hkS
  have far : ∀ (k : Nat) (o : Obj), k ≠ H0 → k < H0 + 5 → W2.heap[k]? = some o → (w3.setCell ⟨H0, 0, none⟩ v').heap[k]? = some o := fun k o h1 h2 h3 =>
    (Below.heap_setCell w3 ⟨H0, 0, none⟩ v' k h1).trans ((hbl k (Array.getElem?_eq_some_iff.1 h3).1 h2).trans h3)
  have hw3 : Below w.heap.size w w3 := (h.below.alloc (by omega) _).grown hgrow (by rw [World.size_alloc]; omega) (fun k hk => by
    rcases ho.2 with ⟨rfl, _⟩ | ⟨g, cap, cur, rfl, hg0, _⟩
    · simp [Value.ownBlock] at hk
    · simp [Value.ownBlock] at hk
      omega)
  refine ⟨v', w3, hrun, sh, hb3.cell, hb3.frozen, hw3.setCell hw v', h.hH, far _ _ (by omega) (by omega) h.a, far _ _ (by omega) (by omega) h.b, far _ _ (by omega) (by omega) h.dfr, far _ _ (by omega) (by omega) h.lrec, h.na.keep hk, h.nb.keep hk, ⟨v', Boxed.set v' hb3, ?_⟩, h.own.inv⟩
  rw [if_pos hy]
  refine ⟨vs ++ [vq], by simp [QS.next, hl], ?_, fun i u q hu hq' => ?_⟩
  · have e : s.next.qs.length = s.qs.length + 1 := by simp [QS.next]
    rw [e]
    refine ⟨hown'.1, ?_⟩
    rcases hown'.2 with h0 | ⟨g, cap, cur, hv, hg0, hg, h2⟩
    · exact .inl h0
    · exact .inr ⟨g, cap, cur, hv, hg0, (Below.heap_setCell w3 ⟨H0, 0, none⟩ v' g (by simp; omega)).trans hg, h2⟩
  · have hq2 : (s.qs ++ [s.x / s.y])[i]? = some q := hq'
    by_cases hi : i < s.qs.length
    · rw [List.getElem?_append_left (by omega)] at hu hq2
      exact (hn i u q hu hq2).keep hk
    · have hie : i = s.qs.length := by
        have h1 := (List.getElem?_eq_some_iff.1 hq2).1
        rw [List.length_append, List.length_singleton] at h1
        omega
      subst hie
      rw [List.getElem?_append_right (by omega)] at hu hq2
      rw [hl] at hu
      simp at hu hq2
      subst hu
      subst hq2
      exact hq.keep hk

set_option maxHeartbeats 2000000 in
set_option maxRecDepth 100000 in
theorem quots_in (n N : Nat) (va vb : Value) (a b : Nat) (w : World) (ha : NatV w va a) (hb : NatV w vb b) (hla : (dig a).length ≤ N) (hlb : (dig b).length ≤ N) (hN : N ≤ 1000000) :
    CallsIn Wd n Tryz.prog 16 #[va, vb] w (RNats w (quots a b)) := by
  have hfn : ∀ k, Wd.fn k := fun _ => trivial
  have hdp : Wd.depth.isSome = false := rfl
  have hmf : ∀ (fn : Fn) (first cap : Array Value) (w : World), (Instr.makeFunc fn first cap).run Tryz.prog w = .ok (.func fn first cap) w := fun _ _ _ _ => rfl
  have HA := Lib.hid ha
  have HB := Lib.hid hb
  have HLA := Lib.hid hla
  have HLB := Lib.hid hlb
  obtain ⟨oa, na, ca, rfl⟩ : ∃ oa na ca, va = .slice oa na ca := by obtain ⟨o, c, h, _⟩ := HA.out.slice; exact ⟨_, _, _, h⟩
  obtain ⟨ob, nb, cb, rfl⟩ : ∃ oa na ca, vb = .slice oa na ca := by obtain ⟨o, c, h, _⟩ := HB.out.slice; exact ⟨_, _, _, h⟩
  clear ha hb hla hlb
  refine callsIn_of_wp_marks Tryz.func16 rfl trivial ?_ rfl
  simp only [Tryz.ntmps16, List.size_toArray, List.length_cons, List.length_nil, Nat.reduceAdd, Nat.reduceSub, Array.replicate_succ, Array.replicate_zero, List.push_toArray, List.append_toArray, List.nil_append, List.cons_append]
  gi_wp2
  refine (callsIn_wide_of (rests_any _ _ _ _ _ _ _)).mono ?_
  rintro e w1 ⟨rfl, rfl⟩
  have hz : (w.alloc (.cells #[.slice none 0 0] 30)).heap.size = w.heap.size + 1 := World.size_alloc _ _
  obtain ⟨b1, b2, bz⟩ := two_new (w.alloc (.cells #[.slice none 0 0] 30)) (.slice oa na ca) (.slice ob nb cb) 22 22
  have b0 : Boxed (((w.alloc (.cells #[.slice none 0 0] 30)).alloc (.cells #[.slice oa na ca] 22)).alloc (.cells #[.slice ob nb cb] 22)) w.heap.size 30 (.slice none 0 0) := ((Boxed.new w _ _).alloc _).alloc _
  have hf : Fol w (((w.alloc (.cells #[.slice none 0 0] 30)).alloc (.cells #[.slice oa na ca] 22)).alloc (.cells #[.slice ob nb cb] 22)) := Fol.trans (fol2 _ _ _) (Fol.new _ _)
  rw [hz] at b1 b2 bz
  rw [hz]
  have B0 := Lib.hid b0
  have B1 := Lib.hid b1
  have B2 := Lib.hid b2
  have BZ := Lib.hid bz
  have HF := Lib.hid hf
  clear b0 b1 b2 bz hf hz
  generalize ((w.alloc (.cells #[.slice none 0 0] 30)).alloc (.cells #[.slice oa na ca] 22)).alloc (.cells #[.slice ob nb cb] 22) = W0 at *
  gi_wp2
  refine over_rests QS.pair QS.next (QX w.heap.size a b N) (QY w.heap.size a b N) w (w.heap.size + 1) (QX.steady (Nat.le_refl _)) (QY.steady (Nat.le_refl _)) (fun _ => rfl) (fun _ => rfl) (fun _ _ h hy => h.next hy) (fun s _ h => ⟨Nat.lt_of_le_of_lt h.inv.lx (by omega), Nat.lt_of_le_of_lt h.inv.ly (by omega)⟩)
    BZ.out rfl rfl ⟨a, b, []⟩ _ _ HF.out (Nat.le_succ _) B1.out B2.out (HA.out.fol HF.out) (HB.out.fol HF.out) ⟨⟨_, B0.out, [], rfl, World.ownsRow_nil _ _ _ _, fun i u q hu => by simp at hu⟩, QInv.first HLA.out HLB.out⟩ ?_ ?_
  · clear B0 B1 B2 BZ HF HA HB
    intro B s va vb W hI
    obtain ⟨va, na', ca', rfl⟩ : ∃ o n c, va = .slice o n c := by obtain ⟨o, c, h, _⟩ := hI.na.slice; exact ⟨_, _, _, h⟩
    obtain ⟨ob', cb', rfl, _, _⟩ := hI.nb.slice
    obtain ⟨rv, hv, hown⟩ := hI.own.out
    have hinv := hI.own.inv
    obtain ⟨lb, hlb⟩ : ∃ lb, (dig (QS.pair s).2).length = lb := ⟨_, rfl⟩
    have hpos : 0 < lb ↔ 0 < s.y := by rw [← hlb]; have := @dig_length_pos s.y; exact ⟨fun h => Nat.pos_of_ne_zero (this.1 h), fun h => this.2 (by omega)⟩
    rw [hlb] at hI ⊢
    obtain ⟨ro, rn, rc, rfl⟩ : ∃ o n c, rv = .slice o n c := by obtain ⟨o, c, h, _⟩ := hown.reads; exact ⟨_, _, _, h⟩
    have HI := Lib.hid hI
    have HP := Lib.hid hpos
    have HINV := Lib.hid hinv
    have HV := Lib.hid hv
    have HOWN := Lib.hid hown
    clear hI hv hown hlb hpos hinv
    by_cases hp : 0 < lb
    · have hy := HP.out.1 hp
      have HD := Lib.hid (div_any _ _ s.x s.y _ HI.out.na HI.out.nb (Nat.lt_of_le_of_lt HINV.out.lx (by omega)) (Nat.lt_of_le_of_lt HINV.out.ly (by omega)) hy)
      gi_wp2
      refine ⟨trivial, ?_⟩
      gi_wp2_with fail
      refine (CallsIn.inRound _ (callsIn_wide_of HD.out)).mono ?_
      rintro e W2 ⟨vq, vr, rfl, hq, hr, hf⟩
      have hI2 := HI.out.fol (QX.steady (Nat.le_refl _)) hf
      have hv2 := (hf.block _ HV.out.lt).trans HV.out
      obtain ⟨o4, n4, c4, rfl⟩ : ∃ o n c, vq = .slice o n c := by obtain ⟨o, c, h, _⟩ := hq.slice; exact ⟨_, _, _, h⟩
      have hown2 : OwnNs W2 (w.heap.size + 5) (.slice ro rn rc) s.qs := HOWN.out.same hf.keep (fun k o _ ho => (hf.block _ (Array.getElem?_eq_some_iff.1 ho).1).trans ho)
      obtain ⟨v', w3, hrun, ⟨o', n', c', rfl⟩, c3, f3, hnext⟩ := quo_append hI2 (Nat.le_refl _) hy hN hq hv2 hown2
      have c2 := Boxed.cell hv2
      have hok := appOk_of hrun
      have hres := appRes_eq hrun
      have HN := Lib.hid hnext
      clear hrun hI2 hv2 hown2 hnext hq hr hf HD
      gi_wp2
      exact HN.out
    · gi_wp2
      refine ⟨trivial, ?_⟩
      gi_wp2
      have hny : ¬ 0 < s.y := fun h => hp (HP.out.2 h)
      exact HI.out.own_put (Below.refl _ _) (Keep.refl _) (fun _ _ _ => rfl) ⟨⟨_, HV.out, by rw [if_neg hny]; exact HOWN.out⟩, HINV.out⟩
  · intro B s va vb W hI hz
    obtain ⟨v, hv, hown⟩ := hI.own.out
    have hinv := hI.own.inv
    have hzy : s.y = 0 := hz
    rw [if_neg (by omega)] at hown
    have hq : s.qs = quots a b := by
      have := hinv.eq
      rw [hzy, quots_zero, List.append_nil] at this
      exact this
    rw [hq] at hown
    have c1 := hv.cell
    have hd := Lib.hid hI.dfr
    have hrd := hown.reads
    obtain ⟨ro, rn, rc, rfl⟩ : ∃ o n c, v = .slice o n c := by obtain ⟨o, c, h, _⟩ := hrd; exact ⟨_, _, _, h⟩
    have HO := Lib.hid hown
    have HBL := Lib.hid hI.below
    clear hI hz hzy hq hinv hv hown hrd
    gi_wp2
    refine ⟨by simp, .inl ⟨_, _, rfl, run_takeDeferred hd.out, ?_⟩⟩
    refine ⟨_, results_tmp rfl _ _ _, _, rfl, ?_, ?_⟩
    · refine OwnNs.reads (base := w.heap.size + 5) (HO.out.same (keep_put (by rw [hd.out]; intro cs fz h; cases h)) (fun k o hk ho => (World.putObj_heap_other (by omega)).trans ho))
    · exact HBL.out.trans (below_put (by omega))
theorem quots_any (N : Nat) (va vb : Value) (a b : Nat) (w : World) (ha : NatV w va a) (hb : NatV w vb b) (hla : (dig a).length ≤ N) (hlb : (dig b).length ≤ N) (hN : N ≤ 1000000) :
    Calls Tryz.prog 16 #[va, vb] w (RNats w (quots a b)) := callsIn_wide.1 (quots_in 10 N va vb a b w ha hb hla hlb hN)
end Go.Proofs.YtckahcgolfnobaaGreatDoor
