/- gcd's (matrix).then: one step of Euclid's. -/
import Derived.Test.YtckahcgolfnobaaGreatDoorMat
namespace Go.Proofs.YtckahcgolfnobaaGreatDoor
open Go Go.RowKit

/-- What a step with a quotient needs of sizes. -/
structure ThenOk (m : M4) (q : Nat) : Prop where
  bq : Big q
  ba : Big m.a.natAbs
  bb : Big m.b.natAbs
  m1 : C2 58 q m.c.natAbs (q * m.c.natAbs)
  m2 : C2 58 q m.d.natAbs (q * m.d.natAbs)
  b1 : Big (m.a.natAbs + q * m.c.natAbs)
  b2 : Big (m.b.natAbs + q * m.d.natAbs)
def M4.step (m : M4) (q : Nat) : M4 := ⟨m.c, m.d, m.a - q * m.c, m.b - q * m.d⟩

theorem big_le {m n : Nat} (h : m ≤ n) (hn : Big n) : Big m := Nat.lt_of_le_of_lt (dig_length_mono h) hn

set_option maxHeartbeats 1000000 in
set_option maxRecDepth 100000 in
theorem then_any (v vq : Value) (m : M4) (q : Nat) (w : World) (hm : MatV w v m) (hq : NatV w vq q) (ok : ThenOk m q) :
    Calls Tryz.prog 43 #[v, vq] w (RMat w (m.step q)) := by
  obtain ⟨x0, o0, n0, c0, x1, o1, n1, c1, x2, o2, n2, c2, x3, o3, n3, c3, rfl, h0, h1, h2, h3⟩ := hm
  have HW := Lib.hid (fun w' (hf : NatV w' vq q) => whole_any vq q w' hf ok.bq)
  have e1 : ((q : Int) * m.c).natAbs = q * m.c.natAbs := by rw [Int.natAbs_mul]; rfl
  have e2 : ((q : Int) * m.d).natAbs = q * m.d.natAbs := by rw [Int.natAbs_mul]; rfl
  have M1 := Lib.hid (fun v v' w' (h : IntV w' v (q : Int)) (h' : IntV w' v' m.c) => intmul_any v v' q m.c w' h h' ok.m1 (big_le (Nat.le_add_left _ _) ok.b1))
  have M2 := Lib.hid (fun v v' w' (h : IntV w' v (q : Int)) (h' : IntV w' v' m.d) => intmul_any v v' q m.d w' h h' ok.m2 (big_le (Nat.le_add_left _ _) ok.b2))
  have S1 := Lib.hid (fun v v' w' (h : IntV w' v m.a) (h' : IntV w' v' ((q : Int) * m.c)) => intsub_any v v' m.a ((q : Int) * m.c) w' h h' ok.ba (by rw [e1]; exact big_le (Nat.le_add_left _ _) ok.b1) (by rw [e1]; exact ok.b1))
  have S2 := Lib.hid (fun v v' w' (h : IntV w' v m.b) (h' : IntV w' v' ((q : Int) * m.d)) => intsub_any v v' m.b ((q : Int) * m.d) w' h h' ok.bb (by rw [e2]; exact big_le (Nat.le_add_left _ _) ok.b2) (by rw [e2]; exact ok.b2))
  clear e1 e2
  have HA := Lib.hid (MatB.new w (.bool x0) (.slice o0 n0 c0) (.bool x1) (.slice o1 n1 c1) (.bool x2) (.slice o2 n2 c2) (.bool x3) (.slice o3 n3 c3))
  have HB := Lib.hid (MatB.new (w.alloc (.cells #[.bool x0, .slice o0 n0 c0, .bool x1, .slice o1 n1 c1, .bool x2, .slice o2 n2 c2, .bool x3, .slice o3 n3 c3] 56)) (.bool false) (.slice none 0 0) (.bool false) (.slice none 0 0) (.bool false) (.slice none 0 0) (.bool false) (.slice none 0 0))
  rw [World.size_alloc] at HB
  have hf0 := fol2 w (.cells #[.bool x0, .slice o0 n0 c0, .bool x1, .slice o1 n1 c1, .bool x2, .slice o2 n2 c2, .bool x3, .slice o3 n3 c3] 56) (.cells #[.bool false, .slice none 0 0, .bool false, .slice none 0 0, .bool false, .slice none 0 0, .bool false, .slice none 0 0] 56)
  obtain ⟨oq, nq, cq, rfl⟩ : ∃ o n c, vq = .slice o n c := by obtain ⟨o, c, h, _⟩ := hq.slice; exact ⟨_, _, _, h⟩
  go_enter Tryz.func43, Tryz.ntmps43
  go_wp2_with fail
  refine (HW.out _ (hq.fol hf0)).mono ?_
  rintro e w1 ⟨vk, rfl, hk, k1⟩
  obtain ⟨xk, ok', nk, ck, rfl⟩ := hk.parts2
  have HA1 := Lib.hid ((HA.out.fol (Fol.new _ _)).fol k1)
  have HB1 := Lib.hid (HB.out.fol k1)
  have hf1 : Fol w w1 := Fol.trans hf0 k1
  have hkey : Hid (w.heap.size + 2 ≤ w1.heap.size) := Lib.hid (by have := k1.size; rw [World.size_alloc, World.size_alloc] at this; omega)
  clear HA HB k1 hf0 hq
  go_wp2
  have HK := Lib.hid ((Cell2.new w1 (.bool xk) (.slice ok' nk ck)).fol (Fol.draw _))
  have hf2 : Fol w1 (w1.alloc (.cells #[.bool xk, .slice ok' nk ck] 27)).drew := Fol.trans (Fol.new _ _) (Fol.draw _)
  have HA := Lib.hid (HA1.out.fol hf2)
  have HB := Lib.hid (HB1.out.fol hf2)
  have hf := Fol.trans hf1 hf2
  have hk := hk.fol hf2
  have h0 := h0.fol hf
  have h1 := h1.fol hf
  have h2 := h2.fol hf
  have h3 := h3.fol hf
  clear HA1 HB1 hf1 hf2
  generalize w1.alloc (.cells #[.bool xk, .slice ok' nk ck] 27) = W at *
  obtain ⟨T, hT⟩ : ∃ T, T = w1.heap.size := ⟨_, rfl⟩
  rw [← hT] at HK hkey ⊢
  clear hT
  have hn1 : ¬ w.heap.size + 1 = w.heap.size := by omega
  have hn2 : ¬ w.heap.size = w.heap.size + 1 := by omega
  have hn3 : ¬ w.heap.size + 1 = T := by have := hkey.out; omega
  have hn4 : ¬ T = w.heap.size + 1 := by have := hkey.out; omega
  go_region_held3 (fun W' => (W'.cell? ⟨w.heap.size, 0, none⟩ = some (.bool x0) ∧ W'.cell? ⟨w.heap.size, 1, none⟩ = some (.slice o0 n0 c0) ∧ W'.cell? ⟨w.heap.size, 2, none⟩ = some (.bool x1) ∧ W'.cell? ⟨w.heap.size, 3, none⟩ = some (.slice o1 n1 c1) ∧ W'.cell? ⟨w.heap.size, 4, none⟩ = some (.bool x2) ∧ W'.cell? ⟨w.heap.size, 5, none⟩ = some (.slice o2 n2 c2) ∧ W'.cell? ⟨w.heap.size, 6, none⟩ = some (.bool x3) ∧ W'.cell? ⟨w.heap.size, 7, none⟩ = some (.slice o3 n3 c3)) ∧ (W'.cell? ⟨T, 0, none⟩ = some (.bool xk) ∧ W'.cell? ⟨T, 1, none⟩ = some (.slice ok' nk ck))) (first | with_reducible exact ⟨HA.out.cells, two_cells HK.out⟩ | with_reducible exact ⟨(HA.out.fol k5).cells, two_cells (HK.out.fol k5)⟩ | with_reducible exact ⟨(HA.out.fol k4).cells, two_cells (HK.out.fol k4)⟩ | with_reducible exact ⟨(HA.out.fol k3).cells, two_cells (HK.out.fol k3)⟩ | with_reducible exact ⟨(HA.out.fol k2).cells, two_cells (HK.out.fol k2)⟩ | go_keep) (first
    | ((go_at_call 77; (with_reducible refine (M1.out _ _ _ hk h2).mono ?_)); rintro e w2 ⟨v2, rfl, r2, k2⟩)
    | ((go_at_call 76; (with_reducible refine (S1.out _ _ _ (h0.fol k2) r2).mono ?_)); rintro e w3 ⟨v3, rfl, r3, k3'⟩; have k3 := Fol.trans k2 k3')
    | ((go_at_call 77; (with_reducible refine (M2.out _ _ _ (hk.fol k3) (h3.fol k3)).mono ?_)); rintro e w4 ⟨v4, rfl, r4, k4'⟩; have k4 := Fol.trans k3 k4')
    | ((go_at_call 76; (with_reducible refine (S2.out _ _ _ (h1.fol k4) r4).mono ?_)); rintro e w5 ⟨v5, rfl, r5, k5'⟩; have k5 := Fol.trans k4 k5'; have r3 := r3.fol (Fol.trans k4' k5'); obtain ⟨y3, p3, l3, d3, rfl⟩ := r3.parts2; obtain ⟨y5, p5, l5, d5, rfl⟩ := r5.parts2;
        have hB5 := HB.out.fol k5; obtain ⟨q0, q1, q2, q3, q4, q5, q6, q7⟩ := hB5.cells; have s0 := hB5.frozen 0; have s1 := hB5.frozen 1; have s2 := hB5.frozen 2; have s3 := hB5.frozen 3; have s4 := hB5.frozen 4; have s5 := hB5.frozen 5; have s6 := hB5.frozen 6; have s7 := hB5.frozen 7; have HB5 := Lib.hid hB5; clear hB5))
  go_wp2
  exact mat_end rfl rfl HB5.out (Nat.le_succ _) (Fol.trans hf k5) (matV_of (h2.fol k5) (h3.fol k5) r3 r5)
end Go.Proofs.YtckahcgolfnobaaGreatDoor
