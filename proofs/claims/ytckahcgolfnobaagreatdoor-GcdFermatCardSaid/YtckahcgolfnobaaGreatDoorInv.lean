/- gcd.Inverse. -/
import Derived.Test.YtckahcgolfnobaaGreatDoorIdiv
namespace Go.Proofs.YtckahcgolfnobaaGreatDoor
open Go Go.RowKit

/-- A block of whole numbers' cells. -/
def IsInt (w : World) (b : Nat) : Prop := ∃ cs, w.heap[b]? = some (.cells cs 27 (0, 0))
theorem IsInt.lt {w : World} {b : Nat} (h : IsInt w b) : b < w.heap.size := by obtain ⟨cs, h⟩ := h; exact (Array.getElem?_eq_some_iff.1 h).1
theorem IsInt.fol {w w' : World} {b : Nat} (k : Fol w w') (h : IsInt w b) : IsInt w' b := by
  have hl := h.lt
  obtain ⟨cs, h⟩ := h
  exact ⟨cs, (k.block _ hl).trans h⟩
theorem IsInt.alloc {w : World} {b : Nat} (h : IsInt w b) (o : Obj) : IsInt (w.alloc o) b := h.fol (Fol.new _ _)
theorem IsInt.drew {w : World} {b : Nat} (h : IsInt w b) : IsInt w.drew b := h
theorem IsInt.set {w : World} {b c i : Nat} (h : IsInt w b) (u : Value) : IsInt (w.setCell ⟨c, i, none⟩ u) b := by
  obtain ⟨cs, h⟩ := h
  by_cases hb : b = c
  · subst hb
    exact ⟨_, heap_setCell_same w b i cs _ u h⟩
  · exact ⟨cs, (Below.heap_setCell w ⟨c, i, none⟩ u b hb).trans h⟩
theorem IsInt.new (w : World) (cs : Array Value) : IsInt (w.alloc (.cells cs 27)) w.heap.size := ⟨cs, Array.getElem?_push_size⟩
theorem IsInt.new1 (w : World) (o : Obj) (cs : Array Value) : IsInt ((w.alloc o).alloc (.cells cs 27)) (w.heap.size + 1) := by
  have := IsInt.new (w.alloc o) cs
  rwa [World.size_alloc] at this
theorem IsInt.keep {w : World} {b i : Nat} (h : IsInt w b) (u : Value) : Keep w (w.setCell ⟨b, i, none⟩ u) := by
  obtain ⟨cs, h⟩ := h
  exact Keep.setCell (p := ⟨b, i, none⟩) h (fun cs fz he => absurd (Obj.cells.inj he).2.1 (by decide)) u
theorem IntV.mag {w : World} {x y : Value} {z : Int} (h : IntV w (.agg #[x, y]) z) : NatV w y z.natAbs := by
  obtain ⟨m, he, hm⟩ := h.form
  cases he
  exact hm

theorem Cell2.isInt {w : World} {b : Nat} {x y : Value} (h : Cell2 w b x y) : IsInt w b := ⟨_, h⟩
theorem Cell2.drewI {w : World} {b : Nat} {x y : Value} (h : Cell2 w b x y) : Cell2 w.drew b x y := h
theorem Cell2.allocI {w : World} {b : Nat} {x y : Value} (h : Cell2 w b x y) (o : Obj) : Cell2 (w.alloc o) b x y := h.fol (Fol.new _ _)
theorem Cell2.new1 (w : World) (o : Obj) (x y : Value) : Cell2 ((w.alloc o).alloc (.cells #[x, y] 27)) (w.heap.size + 1) x y := by
  have := Cell2.new (w.alloc o) x y
  rwa [World.size_alloc] at this
theorem frozen_alloc_some (w : World) (a : Addr) (o : Obj) (h : (w.cell? a).isSome = true) : (w.alloc o).frozen? a = w.frozen? a := by
  obtain ⟨u, hu⟩ := Option.isSome_iff_exists.1 h
  exact World.frozen?_alloc_past _ _ _ (World.block_lt_of_cell? w a hu)
def RInvNo (w : World) (e : Ending) (w' : World) : Prop := e = .returned (.tuple #[.slice none 0 0, .int .i64 4]) ∧ Fol w w'
def RInvYes (w : World) (a m : Nat) (e : Ending) (w' : World) : Prop := ∃ v s, e = .returned (.tuple #[v, .int .i64 0]) ∧ EInv a m s ∧ s.y = 0 ∧ NatV w' v (s.m.a % (m : Int)).natAbs ∧ Fol w w'

theorem REx.gcd {a m : Nat} {s : ES} (h : EInv a m s) (hy : s.y = 0) : s.x = Nat.gcd a m := by
  have := h.gcd
  rwa [hy, Nat.gcd_zero_right] at this

set_option maxHeartbeats 1000000 in
set_option maxRecDepth 100000 in
theorem inv_no (N : Nat) (va vm : Value) (a m : Nat) (w : World) (ha : NatV w va a) (hm : NatV w vm m) (hla : (dig a).length ≤ N) (hlm : (dig m).length ≤ N) (hN : N ≤ 26) (hno : m = 0 ∨ Nat.gcd a m ≠ 1) :
    Calls Tryz.prog 23 #[va, vm] w (RInvNo w) := by
  have HE := Lib.hid (ext_any N va vm a m w ha hm hla hlm hN)
  obtain ⟨oa, ca, rfl, _, _⟩ := ha.slice
  obtain ⟨om, cm, rfl, _, _⟩ := hm.slice
  have HLO := Lib.hid (fun v g w' (h : NatV w' v g) => low_any v g w' h)
  have hzero := @dig_length_zero m
  obtain ⟨lm, hlm'⟩ : ∃ l, (dig m).length = l := ⟨_, rfl⟩
  obtain ⟨la, hla'⟩ : ∃ l, (dig a).length = l := ⟨_, rfl⟩
  rw [hlm', hla'] at HE
  rw [hlm'] at hzero
  rw [hlm', hla']
  have HNO := Lib.hid hno
  have HZ := Lib.hid hzero
  clear ha hm hla hlm hno hzero hlm' hla'
  by_cases h0 : lm = 0
  · subst h0
    go_enter Tryz.func23, Tryz.ntmps23
    go_wp2_with first
      | ((go_at_call 14; (with_reducible refine HE.out.mono ?_)); rintro e w1 ⟨s, vg, bu, bv, ou, nu, cu, ov, nv, cv, rfl, hg, hu, hv, hi, hy, k1⟩)
      | ((go_at_call 52; (with_reducible refine (HLO.out _ _ _ (hg.fol (fol2 _ _ _))).mono ?_)); rintro e w2 ⟨rfl, rfl⟩)
    go_ret2
    exact ⟨rfl, Fol.trans k1 (fol2 _ _ _)⟩
  · have hlp : ((lm : Int) == 0) = false := by rw [beq_eq_false_iff_ne]; omega
    go_enter Tryz.func23, Tryz.ntmps23
    go_wp2_with fail
    refine HE.out.mono ?_
    rintro e w1 ⟨s, vg, bu, bv, ou, nu, cu, ov, nv, cv, rfl, hg, hu, hv, hi, hy, k1⟩
    have hx : s.x ≠ 1 := by
      rw [REx.gcd hi hy]
      rcases HNO.out with h | h
      · exact absurd (HZ.out.2 h) h0
      · exact h
    clear hi hy hu hv
    obtain ⟨og, ng, cg, rfl⟩ : ∃ o n c, vg = .slice o n c := by obtain ⟨o, c, h, _⟩ := hg.slice; exact ⟨_, _, _, h⟩
    by_cases hbig : s.x < 18446744073709551616
    · have hd : decide (s.x < 18446744073709551616) = true := decide_eq_true hbig
      have hl : lowOf s.x = s.x := by unfold lowOf; rw [if_pos hbig]
      have hl1 : (((s.x : Nat) : Int) != 1) = true := by rw [bne_iff_ne]; omega
      have HLX : Hid (∀ w', NatV w' (.slice og ng cg) s.x → Calls Tryz.prog 52 #[.slice og ng cg] w' (RU64B w' s.x true)) := Lib.hid (fun w' h => by have := HLO.out _ _ _ h; rwa [hd, hl] at this)
      clear hd hl hbig HLO hx
      generalize s.x = X at *
      go_wp2_with first
        | ((go_at_call 52; (with_reducible refine (HLX.out _ (hg.fol (fol2 _ _ _))).mono ?_)); rintro e w2 ⟨rfl, rfl⟩)
      go_ret2
      exact ⟨rfl, Fol.trans k1 (fol2 _ _ _)⟩
    · have hd : decide (s.x < 18446744073709551616) = false := decide_eq_false hbig
      have hl : lowOf s.x = 0 := by unfold lowOf; rw [if_neg hbig]
      have HLX : Hid (∀ w', NatV w' (.slice og ng cg) s.x → Calls Tryz.prog 52 #[.slice og ng cg] w' (RU64B w' 0 false)) := Lib.hid (fun w' h => by have := HLO.out _ _ _ h; rwa [hd, hl] at this)
      clear hd hl hbig HLO hx
      generalize s.x = X at *
      go_wp2_with first
        | ((go_at_call 52; (with_reducible refine (HLX.out _ (hg.fol (fol2 _ _ _))).mono ?_)); rintro e w2 ⟨rfl, rfl⟩)
      go_ret2
      exact ⟨rfl, Fol.trans k1 (fol2 _ _ _)⟩

set_option maxHeartbeats 3000000 in
set_option maxRecDepth 100000 in
theorem inv_yes (N : Nat) (va vm : Value) (a m : Nat) (w : World) (ha : NatV w va a) (hm : NatV w vm m) (hla : (dig a).length ≤ N) (hlm : (dig m).length ≤ N) (hN : N ≤ 26) (hpos : 0 < m) (hg1 : Nat.gcd a m = 1) :
    Calls Tryz.prog 23 #[va, vm] w (RInvYes w a m) := by
  have HE := Lib.hid (ext_any N va vm a m w ha hm hla hlm hN)
  obtain ⟨oa, ca, rfl, _, _⟩ := ha.slice
  obtain ⟨om, cm, rfl, _, _⟩ := hm.slice
  have HLX : Hid (∀ v w', NatV w' v 1 → Calls Tryz.prog 52 #[v] w' (RU64B w' 1 true)) := Lib.hid (fun v w' h => low_any v 1 w' h)
  have hzero := dig_pos' hpos
  obtain ⟨lm, hlm'⟩ : ∃ l, (dig m).length = l := ⟨_, rfl⟩
  obtain ⟨la, hla'⟩ : ∃ l, (dig a).length = l := ⟨_, rfl⟩
  rw [hlm'] at hzero hm
  rw [hlm', hla'] at HE
  rw [hlm', hla']
  have HM := Lib.hid hm
  have HG := Lib.hid hg1
  have HLM := Lib.hid hlm
  have HLA := Lib.hid hla
  have HW := Lib.hid (fun w' (h : NatV w' (.slice om lm cm) m) => whole_any _ m w' h (big_of hlm (by omega)))
  clear ha hm hla hlm hg1 hlm' hla'
  have hlp : ((lm : Int) == 0) = false := by rw [beq_eq_false_iff_ne]; omega
  go_enter Tryz.func23, Tryz.ntmps23
  go_wp2_with fail
  refine HE.out.mono ?_
  rintro e w1 ⟨s, vg, bu, bv, ou, nu, cu, ov, nv, cv, rfl, hg, hu, hv, hi, hy, k1⟩
  have hx : s.x = 1 := by rw [REx.gcd hi hy]; exact HG.out
  rw [hx] at hg
  obtain ⟨og, ng, cg, rfl⟩ : ∃ o n c, vg = .slice o n c := by obtain ⟨o, c, h, _⟩ := hg.slice; exact ⟨_, _, _, h⟩
  have HI := Lib.hid hi
  have HY := Lib.hid hy
  have hlu : (dig s.m.a.natAbs).length ≤ N + 1 := (hi.lens HLA.out HLM.out).2.2.1
  have HID := Lib.hid (fun v v' w' (h : IntV w' v s.m.a) (h' : IntV w' v' (m : Int)) => idiv_any v v' s.m.a m w' h h' (by omega) (by have := HLM.out; omega) hpos)
  clear hx hi hy hv hlu
  go_wp2_with first
    | ((go_at_call 52; (with_reducible refine (HLX.out _ _ (hg.fol (fol2 _ _ _))).mono ?_)); rintro e w2 ⟨rfl, rfl⟩)
  have hc := Lib.hid ((Cell2.new w1 (.bool bu) (.slice ou nu cu)).fol (Fol.new _ (.cells #[.bool bv, .slice ov nv cv] 27)))
  have hf := fol2 w1 (.cells #[.bool bu, .slice ou nu cu] 27) (.cells #[.bool bv, .slice ov nv cv] 27)
  have hu := hu.fol hf
  have hm := (HM.out.fol k1).fol hf
  have HF := Lib.hid (Fol.trans k1 hf)
  clear hf k1 hg
  obtain ⟨T, hT⟩ : ∃ T, T = w1.heap.size := ⟨_, rfl⟩
  rw [← hT] at hc ⊢
  clear hT
  generalize (w1.alloc (.cells #[.bool bu, .slice ou nu cu] 27)).alloc (.cells #[.bool bv, .slice ov nv cv] 27) = W at *
  have HTW : Hid (T < W.heap.size) := Lib.hid hc.out.lt
  have hT : Cell2 W.drew T (.bool bu) (.slice ou nu cu) := hc.out.fol (Fol.draw _)
  refine wp_region_noPanic ?_
  refine wp_region_held_drew (S := fun W' => W'.cell? ⟨T, 0, none⟩ = some (.bool bu) ∧ W'.cell? ⟨T, 1, none⟩ = some (.slice ou nu cu)) (by kernel_rfl) ⟨hT.c0, hT.c1⟩ (fun hS => ?_)
  have hF : Fol W W.drew := Fol.draw _
  have hle : W.heap.size ≤ W.drew.heap.size := Nat.le_refl _
  (refine wpAnyH_take (i := 0) (oi := ?oi1) (v := ?v1) ?hi1 (by kernel_rfl) (by kernel_rfl) (by kernel_rfl) (fun _ _ _ h => h) ?hg1 (by assumption) ?rest1; (case hi1 => (simp only [List.getElem?_toArray, List.getElem?_cons_succ, List.getElem?_cons_zero]; rfl)); (case hg1 => (refine Or.inl ⟨by rfl, ?_⟩; intro w hSw; (try dsimp only at hSw); go_simp; (try with_reducible rfl))); (try simp only [Act.put, List.setIfInBounds_toArray, List.set_cons_zero, List.set_cons_succ]))
  (refine wpAnyH_take (i := 1) (oi := ?oi2) (v := ?v2) ?hi2 (by kernel_rfl) (by kernel_rfl) (by kernel_rfl) (fun _ _ _ h => h) ?hg2 (by assumption) ?rest2; (case hi2 => (simp only [List.getElem?_toArray, List.getElem?_cons_succ, List.getElem?_cons_zero]; rfl)); (case hg2 => (refine Or.inl ⟨by rfl, ?_⟩; intro w hSw; (try dsimp only at hSw); go_simp; (try with_reducible rfl))); (try simp only [Act.put, List.setIfInBounds_toArray, List.set_cons_zero, List.set_cons_succ]))
  generalize W.drew = u0 at *
  refine wpAnyH_ready (rs := [2, 8, 9]) (by kernel_rfl) (by simp) ?_
  refine AllReadyH.cons (o := ?go1) ?gh1 (fun K hK => ?gs1) (AllReadyH.cons (o := ?go2) ?gh2 (fun K hK => ?gs2) (AllReadyH.cons (o := ?go3) ?gh3 (fun K hK => ?gs3) AllReadyH.nil))
  case gh1 => (simp only [List.getElem?_toArray, List.getElem?_cons_succ, List.getElem?_cons_zero]; rfl)
  case gh2 => (simp only [List.getElem?_toArray, List.getElem?_cons_succ, List.getElem?_cons_zero]; rfl)
  case gh3 => (simp only [List.getElem?_toArray, List.getElem?_cons_succ, List.getElem?_cons_zero]; rfl)
  case gs1 =>
    go_simp
    refine (HW.out _ (hm.fol hF)).mono ?_
    rintro e u1 ⟨v2, rfl, hW2, k1⟩
    have hT1 := hT.fol k1
    clear hT
    have hT := hT1
    clear hT1
    refine hK.out _ _ ⟨hT.c0, hT.c1⟩ (fun hS => ?_)
    clear hK K
    (try simp only [Act.put, List.setIfInBounds_toArray, List.set_cons_zero, List.set_cons_succ])
    have hF := Fol.trans hF k1
    have hle := Nat.le_trans hle k1.size
    clear k1
    refine wpAnyH_ready (rs := [3, 8, 9]) (by kernel_rfl) (by simp) ?_
    refine AllReadyH.cons (o := ?go4) ?gh4 (fun K hK => ?gs4) (AllReadyH.cons (o := ?go5) ?gh5 (fun K hK => ?gs5) (AllReadyH.cons (o := ?go6) ?gh6 (fun K hK => ?gs6) AllReadyH.nil))
    case gh4 => (simp only [List.getElem?_toArray, List.getElem?_cons_succ, List.getElem?_cons_zero]; rfl)
    case gh5 => (simp only [List.getElem?_toArray, List.getElem?_cons_succ, List.getElem?_cons_zero]; rfl)
    case gh6 => (simp only [List.getElem?_toArray, List.getElem?_cons_succ, List.getElem?_cons_zero]; rfl)
    case gs4 =>
      go_simp
      refine (HID.out _ _ _ (hu.fol hF) hW2).mono ?_
      rintro e u2 ⟨bq, oq, nq, cq, br, or_, nr, cr, rfl, hR, k2⟩
      have hT2 := hT.fol k2
      clear hT
      have hT := hT2
      clear hT2
      refine hK.out _ _ ⟨hT.c0, hT.c1⟩ (fun hS => ?_)
      clear hK K
      (try simp only [Act.put, List.setIfInBounds_toArray, List.set_cons_zero, List.set_cons_succ])
      have hF := Fol.trans hF k2
      have hle := Nat.le_trans hle k2.size
      clear k2
      (refine wpAnyH_take (i := 4) (oi := ?oi3) (v := ?v3) ?hi3 (by kernel_rfl) (by kernel_rfl) (by kernel_rfl) (fun _ _ _ h => h) ?hg3 (by assumption) ?rest3; (case hi3 => (simp only [List.getElem?_toArray, List.getElem?_cons_succ, List.getElem?_cons_zero]; rfl)); (case hg3 => (refine Or.inl ⟨by rfl, ?_⟩; intro w hSw; (try dsimp only at hSw); go_simp; (try with_reducible rfl))); (try simp only [Act.put, List.setIfInBounds_toArray, List.set_cons_zero, List.set_cons_succ]))
      (refine wpAnyH_take (i := 5) (oi := ?oi4) (v := ?v4) ?hi4 (by kernel_rfl) (by kernel_rfl) (by kernel_rfl) (fun _ _ _ h => h) ?hg4 (by assumption) ?rest4; (case hi4 => (simp only [List.getElem?_toArray, List.getElem?_cons_succ, List.getElem?_cons_zero]; rfl)); (case hg4 => (refine Or.inl ⟨by rfl, ?_⟩; intro w hSw; (try dsimp only at hSw); go_simp; (try with_reducible rfl))); (try simp only [Act.put, List.setIfInBounds_toArray, List.set_cons_zero, List.set_cons_succ]))
      (refine wpAnyH_take (i := 6) (oi := ?oi5) (v := ?v5) ?hi5 (by kernel_rfl) (by kernel_rfl) (by kernel_rfl) (fun _ _ _ h => h) ?hg5 (by assumption) ?rest5; (case hi5 => (simp only [List.getElem?_toArray, List.getElem?_cons_succ, List.getElem?_cons_zero]; rfl)); (case hg5 => (refine Or.inl ⟨by rfl, ?_⟩; intro w hSw; (try dsimp only at hSw); go_simp; (try with_reducible rfl))); (try simp only [Act.put, List.setIfInBounds_toArray, List.set_cons_zero, List.set_cons_succ]))
      (refine wpAnyH_take (i := 7) (oi := ?oi6) (v := ?v6) ?hi6 (by kernel_rfl) (by kernel_rfl) (by kernel_rfl) (fun _ _ _ h => h) ?hg6 (by assumption) ?rest6; (case hi6 => (simp only [List.getElem?_toArray, List.getElem?_cons_succ, List.getElem?_cons_zero]; rfl)); (case hg6 => (refine Or.inl ⟨by rfl, ?_⟩; intro w hSw; (try dsimp only at hSw); go_simp; (try with_reducible rfl))); (try simp only [Act.put, List.setIfInBounds_toArray, List.set_cons_zero, List.set_cons_succ]))
      refine wpAnyH_ready (rs := [8, 9]) (by kernel_rfl) (by simp) ?_
      refine AllReadyH.cons (o := ?go7) ?gh7 (fun K hK => ?gs7) (AllReadyH.cons (o := ?go8) ?gh8 (fun K hK => ?gs8) AllReadyH.nil)
      case gh7 => (simp only [List.getElem?_toArray, List.getElem?_cons_succ, List.getElem?_cons_zero]; rfl)
      case gh8 => (simp only [List.getElem?_toArray, List.getElem?_cons_succ, List.getElem?_cons_zero]; rfl)
      case gs7 =>
        go_simp
        have hT3 := hT.fol (Fol.new u2 (.cells #[.bool false, .slice none 0 0] 27))
        clear hT
        have hT := hT3
        clear hT3
        refine hK.out _ _ ⟨hT.c0, hT.c1⟩ (fun hS => ?_)
        clear hK K
        (try simp only [Act.put, List.setIfInBounds_toArray, List.set_cons_zero, List.set_cons_succ])
        have hF := Fol.trans hF (Fol.new u2 (.cells #[.bool false, .slice none 0 0] 27))
        have hN := Cell2.new u2 (.bool false) (.slice none 0 0)
        have hR := hR.fol (Fol.new u2 (.cells #[.bool false, .slice none 0 0] 27))
        have hleA : W.heap.size ≤ u2.heap.size := hle
        have hle2 : W.heap.size ≤ (u2.alloc (.cells #[.bool false, .slice none 0 0] 27)).heap.size := by rw [World.size_alloc]; omega
        generalize u2.heap.size = A at *
        generalize u2.alloc (.cells #[.bool false, .slice none 0 0] 27) = u3 at *
        clear hle
        have hle := hle2
        clear hle2
        have hA := hN
        clear hN
        refine wpAnyH_ready (rs := [9]) (by kernel_rfl) (by simp) ?_
        refine AllReadyH.cons (o := ?go9) ?gh9 (fun K hK => ?gs9) AllReadyH.nil
        case gh9 => (simp only [List.getElem?_toArray, List.getElem?_cons_succ, List.getElem?_cons_zero]; rfl)
        case gs9 =>
          go_simp
          have hT4 := hT.fol (Fol.new u3 (.cells #[.bool false, .slice none 0 0] 27))
          clear hT
          have hT := hT4
          clear hT4
          refine hK.out _ _ ⟨hT.c0, hT.c1⟩ (fun hS => ?_)
          clear hK K
          (try simp only [Act.put, List.setIfInBounds_toArray, List.set_cons_zero, List.set_cons_succ])
          have hF := Fol.trans hF (Fol.new u3 (.cells #[.bool false, .slice none 0 0] 27))
          have hN := Cell2.new u3 (.bool false) (.slice none 0 0)
          have hne : A ≠ u3.heap.size := Nat.ne_of_lt hA.lt
          have hA := hA.fol (Fol.new u3 (.cells #[.bool false, .slice none 0 0] 27))
          have hR := hR.fol (Fol.new u3 (.cells #[.bool false, .slice none 0 0] 27))
          have hleB : W.heap.size ≤ u3.heap.size := hle
          have hle2 : W.heap.size ≤ (u3.alloc (.cells #[.bool false, .slice none 0 0] 27)).heap.size := by rw [World.size_alloc]; omega
          generalize u3.heap.size = B at *
          generalize u3.alloc (.cells #[.bool false, .slice none 0 0] 27) = u4 at *
          clear hle
          have hle := hle2
          clear hle2
          have hB := hN
          clear hN
          have hnB : B ≠ A := by first | exact hne | exact Ne.symm hne
          have hnA : A ≠ B := Ne.symm hnB
          clear hne
          refine wpAnyH_ready (rs := [10]) (by kernel_rfl) (by simp) ?_
          refine AllReadyH.cons (o := ?go10) ?gh10 (fun K hK => ?gs10) AllReadyH.nil
          case gh10 => (simp only [List.getElem?_toArray, List.getElem?_cons_succ, List.getElem?_cons_zero]; rfl)
          have q0 := hA.c0
          have q1 := hA.c1
          have q2 := hA.f0
          have q3 := hA.f1
          go_simp
          have P := hA.put (w := W) hleA hF (.bool bq) (.slice oq nq cq)
          have hO := (hB.far (i := 0) (b' := A) hnB (.bool bq)).far (i := 1) (b' := A) hnB (.slice oq nq cq)
          have hT2 := (hT.far (i := 0) (b' := A) (Nat.ne_of_lt (Nat.lt_of_lt_of_le HTW.out hleA)) (.bool bq)).far (i := 1) (b' := A) (Nat.ne_of_lt (Nat.lt_of_lt_of_le HTW.out hleA)) (.slice oq nq cq)
          clear hT q0 q1 q2 q3
          have hT := hT2
          clear hT2
          refine hK.out _ _ ⟨hT.c0, hT.c1⟩ (fun hS => ?_)
          clear hK K
          (try simp only [Act.put, List.setIfInBounds_toArray, List.set_cons_zero, List.set_cons_succ])
          have hA := P.1
          have hF := P.2.1
          have hR := hR.keep P.2.2
          have hB := hO
          clear P hO
          generalize (u4.setCell ⟨A, 0, none⟩ (.bool bq)).setCell ⟨A, 1, none⟩ (.slice oq nq cq) = u5 at *
          refine wpAnyH_ready (rs := [11]) (by kernel_rfl) (by simp) ?_
          refine AllReadyH.cons (o := ?go11) ?gh11 (fun K hK => ?gs11) AllReadyH.nil
          case gh11 => (simp only [List.getElem?_toArray, List.getElem?_cons_succ, List.getElem?_cons_zero]; rfl)
          have q0 := hB.c0
          have q1 := hB.c1
          have q2 := hB.f0
          have q3 := hB.f1
          go_simp
          have P := hB.put (w := W) hleB hF (.bool br) (.slice or_ nr cr)
          have hO := (hA.far (i := 0) (b' := B) hnA (.bool br)).far (i := 1) (b' := B) hnA (.slice or_ nr cr)
          have hT2 := (hT.far (i := 0) (b' := B) (Nat.ne_of_lt (Nat.lt_of_lt_of_le HTW.out hleB)) (.bool br)).far (i := 1) (b' := B) (Nat.ne_of_lt (Nat.lt_of_lt_of_le HTW.out hleB)) (.slice or_ nr cr)
          clear hT q0 q1 q2 q3
          have hT := hT2
          clear hT2
          refine hK.out _ _ ⟨hT.c0, hT.c1⟩ (fun hS => ?_)
          clear hK K
          (try simp only [Act.put, List.setIfInBounds_toArray, List.set_cons_zero, List.set_cons_succ])
          have hB := P.1
          have hF := P.2.1
          have hR := hR.keep P.2.2
          have hA := hO
          clear P hO
          generalize (u5.setCell ⟨B, 0, none⟩ (.bool br)).setCell ⟨B, 1, none⟩ (.slice or_ nr cr) = u6 at *
          (refine wpAnyH_take (i := 12) (oi := ?oi7) (v := ?v7) ?hi7 (by kernel_rfl) (by kernel_rfl) (by kernel_rfl) (fun _ _ _ h => h) ?hg7 (by assumption) ?rest7; (case hi7 => (simp only [List.getElem?_toArray, List.getElem?_cons_succ, List.getElem?_cons_zero]; rfl)); (case hg7 => (refine Or.inl ⟨by rfl, ?_⟩; intro w hSw; (try dsimp only at hSw); go_simp; (try with_reducible rfl))); (try simp only [Act.put, List.setIfInBounds_toArray, List.set_cons_zero, List.set_cons_succ]))
          refine wpAnyH_done (by kernel_rfl) ?_ _
          refine NoPanic.normal ?_
          have q1 := hB.c1
          have HR := Lib.hid hR
          have HF2 := Lib.hid hF
          clear hR hF hT hA hB hS
          go_wp2
          go_ret2
          exact ⟨_, s, rfl, HI.out, HY.out, IntV.mag HR.out, Fol.trans HF.out HF2.out⟩
      case gs8 =>
        go_simp
        have hT3 := hT.fol (Fol.new u2 (.cells #[.bool false, .slice none 0 0] 27))
        clear hT
        have hT := hT3
        clear hT3
        refine hK.out _ _ ⟨hT.c0, hT.c1⟩ (fun hS => ?_)
        clear hK K
        (try simp only [Act.put, List.setIfInBounds_toArray, List.set_cons_zero, List.set_cons_succ])
        have hF := Fol.trans hF (Fol.new u2 (.cells #[.bool false, .slice none 0 0] 27))
        have hN := Cell2.new u2 (.bool false) (.slice none 0 0)
        have hR := hR.fol (Fol.new u2 (.cells #[.bool false, .slice none 0 0] 27))
        have hleB : W.heap.size ≤ u2.heap.size := hle
        have hle2 : W.heap.size ≤ (u2.alloc (.cells #[.bool false, .slice none 0 0] 27)).heap.size := by rw [World.size_alloc]; omega
        generalize u2.heap.size = B at *
        generalize u2.alloc (.cells #[.bool false, .slice none 0 0] 27) = u3 at *
        clear hle
        have hle := hle2
        clear hle2
        have hB := hN
        clear hN
        refine wpAnyH_ready (rs := [8]) (by kernel_rfl) (by simp) ?_
        refine AllReadyH.cons (o := ?go12) ?gh12 (fun K hK => ?gs12) AllReadyH.nil
        case gh12 => (simp only [List.getElem?_toArray, List.getElem?_cons_succ, List.getElem?_cons_zero]; rfl)
        case gs12 =>
          go_simp
          have hT4 := hT.fol (Fol.new u3 (.cells #[.bool false, .slice none 0 0] 27))
          clear hT
          have hT := hT4
          clear hT4
          refine hK.out _ _ ⟨hT.c0, hT.c1⟩ (fun hS => ?_)
          clear hK K
          (try simp only [Act.put, List.setIfInBounds_toArray, List.set_cons_zero, List.set_cons_succ])
          have hF := Fol.trans hF (Fol.new u3 (.cells #[.bool false, .slice none 0 0] 27))
          have hN := Cell2.new u3 (.bool false) (.slice none 0 0)
          have hne : B ≠ u3.heap.size := Nat.ne_of_lt hB.lt
          have hB := hB.fol (Fol.new u3 (.cells #[.bool false, .slice none 0 0] 27))
          have hR := hR.fol (Fol.new u3 (.cells #[.bool false, .slice none 0 0] 27))
          have hleA : W.heap.size ≤ u3.heap.size := hle
          have hle2 : W.heap.size ≤ (u3.alloc (.cells #[.bool false, .slice none 0 0] 27)).heap.size := by rw [World.size_alloc]; omega
          generalize u3.heap.size = A at *
          generalize u3.alloc (.cells #[.bool false, .slice none 0 0] 27) = u4 at *
          clear hle
          have hle := hle2
          clear hle2
          have hA := hN
          clear hN
          have hnB : B ≠ A := by first | exact hne | exact Ne.symm hne
          have hnA : A ≠ B := Ne.symm hnB
          clear hne
          refine wpAnyH_ready (rs := [10]) (by kernel_rfl) (by simp) ?_
          refine AllReadyH.cons (o := ?go13) ?gh13 (fun K hK => ?gs13) AllReadyH.nil
          case gh13 => (simp only [List.getElem?_toArray, List.getElem?_cons_succ, List.getElem?_cons_zero]; rfl)
          have q0 := hA.c0
          have q1 := hA.c1
          have q2 := hA.f0
          have q3 := hA.f1
          go_simp
          have P := hA.put (w := W) hleA hF (.bool bq) (.slice oq nq cq)
          have hO := (hB.far (i := 0) (b' := A) hnB (.bool bq)).far (i := 1) (b' := A) hnB (.slice oq nq cq)
          have hT2 := (hT.far (i := 0) (b' := A) (Nat.ne_of_lt (Nat.lt_of_lt_of_le HTW.out hleA)) (.bool bq)).far (i := 1) (b' := A) (Nat.ne_of_lt (Nat.lt_of_lt_of_le HTW.out hleA)) (.slice oq nq cq)
          clear hT q0 q1 q2 q3
          have hT := hT2
          clear hT2
          refine hK.out _ _ ⟨hT.c0, hT.c1⟩ (fun hS => ?_)
          clear hK K
          (try simp only [Act.put, List.setIfInBounds_toArray, List.set_cons_zero, List.set_cons_succ])
          have hA := P.1
          have hF := P.2.1
          have hR := hR.keep P.2.2
          have hB := hO
          clear P hO
          generalize (u4.setCell ⟨A, 0, none⟩ (.bool bq)).setCell ⟨A, 1, none⟩ (.slice oq nq cq) = u5 at *
          refine wpAnyH_ready (rs := [11]) (by kernel_rfl) (by simp) ?_
          refine AllReadyH.cons (o := ?go14) ?gh14 (fun K hK => ?gs14) AllReadyH.nil
          case gh14 => (simp only [List.getElem?_toArray, List.getElem?_cons_succ, List.getElem?_cons_zero]; rfl)
          have q0 := hB.c0
          have q1 := hB.c1
          have q2 := hB.f0
          have q3 := hB.f1
          go_simp
          have P := hB.put (w := W) hleB hF (.bool br) (.slice or_ nr cr)
          have hO := (hA.far (i := 0) (b' := B) hnA (.bool br)).far (i := 1) (b' := B) hnA (.slice or_ nr cr)
          have hT2 := (hT.far (i := 0) (b' := B) (Nat.ne_of_lt (Nat.lt_of_lt_of_le HTW.out hleB)) (.bool br)).far (i := 1) (b' := B) (Nat.ne_of_lt (Nat.lt_of_lt_of_le HTW.out hleB)) (.slice or_ nr cr)
          clear hT q0 q1 q2 q3
          have hT := hT2
          clear hT2
          refine hK.out _ _ ⟨hT.c0, hT.c1⟩ (fun hS => ?_)
          clear hK K
          (try simp only [Act.put, List.setIfInBounds_toArray, List.set_cons_zero, List.set_cons_succ])
          have hB := P.1
          have hF := P.2.1
          have hR := hR.keep P.2.2
          have hA := hO
          clear P hO
          generalize (u5.setCell ⟨B, 0, none⟩ (.bool br)).setCell ⟨B, 1, none⟩ (.slice or_ nr cr) = u6 at *
          (refine wpAnyH_take (i := 12) (oi := ?oi8) (v := ?v8) ?hi8 (by kernel_rfl) (by kernel_rfl) (by kernel_rfl) (fun _ _ _ h => h) ?hg8 (by assumption) ?rest8; (case hi8 => (simp only [List.getElem?_toArray, List.getElem?_cons_succ, List.getElem?_cons_zero]; rfl)); (case hg8 => (refine Or.inl ⟨by rfl, ?_⟩; intro w hSw; (try dsimp only at hSw); go_simp; (try with_reducible rfl))); (try simp only [Act.put, List.setIfInBounds_toArray, List.set_cons_zero, List.set_cons_succ]))
          refine wpAnyH_done (by kernel_rfl) ?_ _
          refine NoPanic.normal ?_
          have q1 := hB.c1
          have HR := Lib.hid hR
          have HF2 := Lib.hid hF
          clear hR hF hT hA hB hS
          go_wp2
          go_ret2
          exact ⟨_, s, rfl, HI.out, HY.out, IntV.mag HR.out, Fol.trans HF.out HF2.out⟩
    case gs5 =>
      go_simp
      have hT2 := hT.fol (Fol.new u1 (.cells #[.bool false, .slice none 0 0] 27))
      clear hT
      have hT := hT2
      clear hT2
      refine hK.out _ _ ⟨hT.c0, hT.c1⟩ (fun hS => ?_)
      clear hK K
      (try simp only [Act.put, List.setIfInBounds_toArray, List.set_cons_zero, List.set_cons_succ])
      have hF := Fol.trans hF (Fol.new u1 (.cells #[.bool false, .slice none 0 0] 27))
      have hN := Cell2.new u1 (.bool false) (.slice none 0 0)
      have hW2 := hW2.fol (Fol.new u1 (.cells #[.bool false, .slice none 0 0] 27))
      have hleA : W.heap.size ≤ u1.heap.size := hle
      have hle2 : W.heap.size ≤ (u1.alloc (.cells #[.bool false, .slice none 0 0] 27)).heap.size := by rw [World.size_alloc]; omega
      generalize u1.heap.size = A at *
      generalize u1.alloc (.cells #[.bool false, .slice none 0 0] 27) = u2 at *
      clear hle
      have hle := hle2
      clear hle2
      have hA := hN
      clear hN
      refine wpAnyH_ready (rs := [3, 9]) (by kernel_rfl) (by simp) ?_
      refine AllReadyH.cons (o := ?go15) ?gh15 (fun K hK => ?gs15) (AllReadyH.cons (o := ?go16) ?gh16 (fun K hK => ?gs16) AllReadyH.nil)
      case gh15 => (simp only [List.getElem?_toArray, List.getElem?_cons_succ, List.getElem?_cons_zero]; rfl)
      case gh16 => (simp only [List.getElem?_toArray, List.getElem?_cons_succ, List.getElem?_cons_zero]; rfl)
      case gs15 =>
        go_simp
        refine (HID.out _ _ _ (hu.fol hF) hW2).mono ?_
        rintro e u3 ⟨bq, oq, nq, cq, br, or_, nr, cr, rfl, hR, k3⟩
        have hT3 := hT.fol k3
        clear hT
        have hT := hT3
        clear hT3
        refine hK.out _ _ ⟨hT.c0, hT.c1⟩ (fun hS => ?_)
        clear hK K
        (try simp only [Act.put, List.setIfInBounds_toArray, List.set_cons_zero, List.set_cons_succ])
        have hF := Fol.trans hF k3
        have hle := Nat.le_trans hle k3.size
        have hA := hA.fol k3
        clear k3
        (refine wpAnyH_take (i := 4) (oi := ?oi9) (v := ?v9) ?hi9 (by kernel_rfl) (by kernel_rfl) (by kernel_rfl) (fun _ _ _ h => h) ?hg9 (by assumption) ?rest9; (case hi9 => (simp only [List.getElem?_toArray, List.getElem?_cons_succ, List.getElem?_cons_zero]; rfl)); (case hg9 => (refine Or.inl ⟨by rfl, ?_⟩; intro w hSw; (try dsimp only at hSw); go_simp; (try with_reducible rfl))); (try simp only [Act.put, List.setIfInBounds_toArray, List.set_cons_zero, List.set_cons_succ]))
        (refine wpAnyH_take (i := 5) (oi := ?oi10) (v := ?v10) ?hi10 (by kernel_rfl) (by kernel_rfl) (by kernel_rfl) (fun _ _ _ h => h) ?hg10 (by assumption) ?rest10; (case hi10 => (simp only [List.getElem?_toArray, List.getElem?_cons_succ, List.getElem?_cons_zero]; rfl)); (case hg10 => (refine Or.inl ⟨by rfl, ?_⟩; intro w hSw; (try dsimp only at hSw); go_simp; (try with_reducible rfl))); (try simp only [Act.put, List.setIfInBounds_toArray, List.set_cons_zero, List.set_cons_succ]))
        (refine wpAnyH_take (i := 6) (oi := ?oi11) (v := ?v11) ?hi11 (by kernel_rfl) (by kernel_rfl) (by kernel_rfl) (fun _ _ _ h => h) ?hg11 (by assumption) ?rest11; (case hi11 => (simp only [List.getElem?_toArray, List.getElem?_cons_succ, List.getElem?_cons_zero]; rfl)); (case hg11 => (refine Or.inl ⟨by rfl, ?_⟩; intro w hSw; (try dsimp only at hSw); go_simp; (try with_reducible rfl))); (try simp only [Act.put, List.setIfInBounds_toArray, List.set_cons_zero, List.set_cons_succ]))
        (refine wpAnyH_take (i := 7) (oi := ?oi12) (v := ?v12) ?hi12 (by kernel_rfl) (by kernel_rfl) (by kernel_rfl) (fun _ _ _ h => h) ?hg12 (by assumption) ?rest12; (case hi12 => (simp only [List.getElem?_toArray, List.getElem?_cons_succ, List.getElem?_cons_zero]; rfl)); (case hg12 => (refine Or.inl ⟨by rfl, ?_⟩; intro w hSw; (try dsimp only at hSw); go_simp; (try with_reducible rfl))); (try simp only [Act.put, List.setIfInBounds_toArray, List.set_cons_zero, List.set_cons_succ]))
        refine wpAnyH_ready (rs := [9]) (by kernel_rfl) (by simp) ?_
        refine AllReadyH.cons (o := ?go17) ?gh17 (fun K hK => ?gs17) AllReadyH.nil
        case gh17 => (simp only [List.getElem?_toArray, List.getElem?_cons_succ, List.getElem?_cons_zero]; rfl)
        case gs17 =>
          go_simp
          have hT4 := hT.fol (Fol.new u3 (.cells #[.bool false, .slice none 0 0] 27))
          clear hT
          have hT := hT4
          clear hT4
          refine hK.out _ _ ⟨hT.c0, hT.c1⟩ (fun hS => ?_)
          clear hK K
          (try simp only [Act.put, List.setIfInBounds_toArray, List.set_cons_zero, List.set_cons_succ])
          have hF := Fol.trans hF (Fol.new u3 (.cells #[.bool false, .slice none 0 0] 27))
          have hN := Cell2.new u3 (.bool false) (.slice none 0 0)
          have hne : A ≠ u3.heap.size := Nat.ne_of_lt hA.lt
          have hA := hA.fol (Fol.new u3 (.cells #[.bool false, .slice none 0 0] 27))
          have hR := hR.fol (Fol.new u3 (.cells #[.bool false, .slice none 0 0] 27))
          have hleB : W.heap.size ≤ u3.heap.size := hle
          have hle2 : W.heap.size ≤ (u3.alloc (.cells #[.bool false, .slice none 0 0] 27)).heap.size := by rw [World.size_alloc]; omega
          generalize u3.heap.size = B at *
          generalize u3.alloc (.cells #[.bool false, .slice none 0 0] 27) = u4 at *
          clear hle
          have hle := hle2
          clear hle2
          have hB := hN
          clear hN
          have hnB : B ≠ A := by first | exact hne | exact Ne.symm hne
          have hnA : A ≠ B := Ne.symm hnB
          clear hne
          refine wpAnyH_ready (rs := [10]) (by kernel_rfl) (by simp) ?_
          refine AllReadyH.cons (o := ?go18) ?gh18 (fun K hK => ?gs18) AllReadyH.nil
          case gh18 => (simp only [List.getElem?_toArray, List.getElem?_cons_succ, List.getElem?_cons_zero]; rfl)
          have q0 := hA.c0
          have q1 := hA.c1
          have q2 := hA.f0
          have q3 := hA.f1
          go_simp
          have P := hA.put (w := W) hleA hF (.bool bq) (.slice oq nq cq)
          have hO := (hB.far (i := 0) (b' := A) hnB (.bool bq)).far (i := 1) (b' := A) hnB (.slice oq nq cq)
          have hT2 := (hT.far (i := 0) (b' := A) (Nat.ne_of_lt (Nat.lt_of_lt_of_le HTW.out hleA)) (.bool bq)).far (i := 1) (b' := A) (Nat.ne_of_lt (Nat.lt_of_lt_of_le HTW.out hleA)) (.slice oq nq cq)
          clear hT q0 q1 q2 q3
          have hT := hT2
          clear hT2
          refine hK.out _ _ ⟨hT.c0, hT.c1⟩ (fun hS => ?_)
          clear hK K
          (try simp only [Act.put, List.setIfInBounds_toArray, List.set_cons_zero, List.set_cons_succ])
          have hA := P.1
          have hF := P.2.1
          have hR := hR.keep P.2.2
          have hB := hO
          clear P hO
          generalize (u4.setCell ⟨A, 0, none⟩ (.bool bq)).setCell ⟨A, 1, none⟩ (.slice oq nq cq) = u5 at *
          refine wpAnyH_ready (rs := [11]) (by kernel_rfl) (by simp) ?_
          refine AllReadyH.cons (o := ?go19) ?gh19 (fun K hK => ?gs19) AllReadyH.nil
          case gh19 => (simp only [List.getElem?_toArray, List.getElem?_cons_succ, List.getElem?_cons_zero]; rfl)
          have q0 := hB.c0
          have q1 := hB.c1
          have q2 := hB.f0
          have q3 := hB.f1
          go_simp
          have P := hB.put (w := W) hleB hF (.bool br) (.slice or_ nr cr)
          have hO := (hA.far (i := 0) (b' := B) hnA (.bool br)).far (i := 1) (b' := B) hnA (.slice or_ nr cr)
          have hT2 := (hT.far (i := 0) (b' := B) (Nat.ne_of_lt (Nat.lt_of_lt_of_le HTW.out hleB)) (.bool br)).far (i := 1) (b' := B) (Nat.ne_of_lt (Nat.lt_of_lt_of_le HTW.out hleB)) (.slice or_ nr cr)
          clear hT q0 q1 q2 q3
          have hT := hT2
          clear hT2
          refine hK.out _ _ ⟨hT.c0, hT.c1⟩ (fun hS => ?_)
          clear hK K
          (try simp only [Act.put, List.setIfInBounds_toArray, List.set_cons_zero, List.set_cons_succ])
          have hB := P.1
          have hF := P.2.1
          have hR := hR.keep P.2.2
          have hA := hO
          clear P hO
          generalize (u5.setCell ⟨B, 0, none⟩ (.bool br)).setCell ⟨B, 1, none⟩ (.slice or_ nr cr) = u6 at *
          (refine wpAnyH_take (i := 12) (oi := ?oi13) (v := ?v13) ?hi13 (by kernel_rfl) (by kernel_rfl) (by kernel_rfl) (fun _ _ _ h => h) ?hg13 (by assumption) ?rest13; (case hi13 => (simp only [List.getElem?_toArray, List.getElem?_cons_succ, List.getElem?_cons_zero]; rfl)); (case hg13 => (refine Or.inl ⟨by rfl, ?_⟩; intro w hSw; (try dsimp only at hSw); go_simp; (try with_reducible rfl))); (try simp only [Act.put, List.setIfInBounds_toArray, List.set_cons_zero, List.set_cons_succ]))
          refine wpAnyH_done (by kernel_rfl) ?_ _
          refine NoPanic.normal ?_
          have q1 := hB.c1
          have HR := Lib.hid hR
          have HF2 := Lib.hid hF
          clear hR hF hT hA hB hS
          go_wp2
          go_ret2
          exact ⟨_, s, rfl, HI.out, HY.out, IntV.mag HR.out, Fol.trans HF.out HF2.out⟩
      case gs16 =>
        go_simp
        have hT3 := hT.fol (Fol.new u2 (.cells #[.bool false, .slice none 0 0] 27))
        clear hT
        have hT := hT3
        clear hT3
        refine hK.out _ _ ⟨hT.c0, hT.c1⟩ (fun hS => ?_)
        clear hK K
        (try simp only [Act.put, List.setIfInBounds_toArray, List.set_cons_zero, List.set_cons_succ])
        have hF := Fol.trans hF (Fol.new u2 (.cells #[.bool false, .slice none 0 0] 27))
        have hN := Cell2.new u2 (.bool false) (.slice none 0 0)
        have hne : A ≠ u2.heap.size := Nat.ne_of_lt hA.lt
        have hA := hA.fol (Fol.new u2 (.cells #[.bool false, .slice none 0 0] 27))
        have hW2 := hW2.fol (Fol.new u2 (.cells #[.bool false, .slice none 0 0] 27))
        have hleB : W.heap.size ≤ u2.heap.size := hle
        have hle2 : W.heap.size ≤ (u2.alloc (.cells #[.bool false, .slice none 0 0] 27)).heap.size := by rw [World.size_alloc]; omega
        generalize u2.heap.size = B at *
        generalize u2.alloc (.cells #[.bool false, .slice none 0 0] 27) = u3 at *
        clear hle
        have hle := hle2
        clear hle2
        have hB := hN
        clear hN
        refine wpAnyH_ready (rs := [3]) (by kernel_rfl) (by simp) ?_
        refine AllReadyH.cons (o := ?go20) ?gh20 (fun K hK => ?gs20) AllReadyH.nil
        case gh20 => (simp only [List.getElem?_toArray, List.getElem?_cons_succ, List.getElem?_cons_zero]; rfl)
        case gs20 =>
          go_simp
          refine (HID.out _ _ _ (hu.fol hF) hW2).mono ?_
          rintro e u4 ⟨bq, oq, nq, cq, br, or_, nr, cr, rfl, hR, k4⟩
          have hT4 := hT.fol k4
          clear hT
          have hT := hT4
          clear hT4
          refine hK.out _ _ ⟨hT.c0, hT.c1⟩ (fun hS => ?_)
          clear hK K
          (try simp only [Act.put, List.setIfInBounds_toArray, List.set_cons_zero, List.set_cons_succ])
          have hF := Fol.trans hF k4
          have hle := Nat.le_trans hle k4.size
          have hA := hA.fol k4
          have hB := hB.fol k4
          clear k4
          (refine wpAnyH_take (i := 4) (oi := ?oi14) (v := ?v14) ?hi14 (by kernel_rfl) (by kernel_rfl) (by kernel_rfl) (fun _ _ _ h => h) ?hg14 (by assumption) ?rest14; (case hi14 => (simp only [List.getElem?_toArray, List.getElem?_cons_succ, List.getElem?_cons_zero]; rfl)); (case hg14 => (refine Or.inl ⟨by rfl, ?_⟩; intro w hSw; (try dsimp only at hSw); go_simp; (try with_reducible rfl))); (try simp only [Act.put, List.setIfInBounds_toArray, List.set_cons_zero, List.set_cons_succ]))
          (refine wpAnyH_take (i := 5) (oi := ?oi15) (v := ?v15) ?hi15 (by kernel_rfl) (by kernel_rfl) (by kernel_rfl) (fun _ _ _ h => h) ?hg15 (by assumption) ?rest15; (case hi15 => (simp only [List.getElem?_toArray, List.getElem?_cons_succ, List.getElem?_cons_zero]; rfl)); (case hg15 => (refine Or.inl ⟨by rfl, ?_⟩; intro w hSw; (try dsimp only at hSw); go_simp; (try with_reducible rfl))); (try simp only [Act.put, List.setIfInBounds_toArray, List.set_cons_zero, List.set_cons_succ]))
          (refine wpAnyH_take (i := 6) (oi := ?oi16) (v := ?v16) ?hi16 (by kernel_rfl) (by kernel_rfl) (by kernel_rfl) (fun _ _ _ h => h) ?hg16 (by assumption) ?rest16; (case hi16 => (simp only [List.getElem?_toArray, List.getElem?_cons_succ, List.getElem?_cons_zero]; rfl)); (case hg16 => (refine Or.inl ⟨by rfl, ?_⟩; intro w hSw; (try dsimp only at hSw); go_simp; (try with_reducible rfl))); (try simp only [Act.put, List.setIfInBounds_toArray, List.set_cons_zero, List.set_cons_succ]))
          (refine wpAnyH_take (i := 7) (oi := ?oi17) (v := ?v17) ?hi17 (by kernel_rfl) (by kernel_rfl) (by kernel_rfl) (fun _ _ _ h => h) ?hg17 (by assumption) ?rest17; (case hi17 => (simp only [List.getElem?_toArray, List.getElem?_cons_succ, List.getElem?_cons_zero]; rfl)); (case hg17 => (refine Or.inl ⟨by rfl, ?_⟩; intro w hSw; (try dsimp only at hSw); go_simp; (try with_reducible rfl))); (try simp only [Act.put, List.setIfInBounds_toArray, List.set_cons_zero, List.set_cons_succ]))
          have hnB : B ≠ A := by first | exact hne | exact Ne.symm hne
          have hnA : A ≠ B := Ne.symm hnB
          clear hne
          refine wpAnyH_ready (rs := [10]) (by kernel_rfl) (by simp) ?_
          refine AllReadyH.cons (o := ?go21) ?gh21 (fun K hK => ?gs21) AllReadyH.nil
          case gh21 => (simp only [List.getElem?_toArray, List.getElem?_cons_succ, List.getElem?_cons_zero]; rfl)
          have q0 := hA.c0
          have q1 := hA.c1
          have q2 := hA.f0
          have q3 := hA.f1
          go_simp
          have P := hA.put (w := W) hleA hF (.bool bq) (.slice oq nq cq)
          have hO := (hB.far (i := 0) (b' := A) hnB (.bool bq)).far (i := 1) (b' := A) hnB (.slice oq nq cq)
          have hT2 := (hT.far (i := 0) (b' := A) (Nat.ne_of_lt (Nat.lt_of_lt_of_le HTW.out hleA)) (.bool bq)).far (i := 1) (b' := A) (Nat.ne_of_lt (Nat.lt_of_lt_of_le HTW.out hleA)) (.slice oq nq cq)
          clear hT q0 q1 q2 q3
          have hT := hT2
          clear hT2
          refine hK.out _ _ ⟨hT.c0, hT.c1⟩ (fun hS => ?_)
          clear hK K
          (try simp only [Act.put, List.setIfInBounds_toArray, List.set_cons_zero, List.set_cons_succ])
          have hA := P.1
          have hF := P.2.1
          have hR := hR.keep P.2.2
          have hB := hO
          clear P hO
          generalize (u4.setCell ⟨A, 0, none⟩ (.bool bq)).setCell ⟨A, 1, none⟩ (.slice oq nq cq) = u5 at *
          refine wpAnyH_ready (rs := [11]) (by kernel_rfl) (by simp) ?_
          refine AllReadyH.cons (o := ?go22) ?gh22 (fun K hK => ?gs22) AllReadyH.nil
          case gh22 => (simp only [List.getElem?_toArray, List.getElem?_cons_succ, List.getElem?_cons_zero]; rfl)
          have q0 := hB.c0
          have q1 := hB.c1
          have q2 := hB.f0
          have q3 := hB.f1
          go_simp
          have P := hB.put (w := W) hleB hF (.bool br) (.slice or_ nr cr)
          have hO := (hA.far (i := 0) (b' := B) hnA (.bool br)).far (i := 1) (b' := B) hnA (.slice or_ nr cr)
          have hT2 := (hT.far (i := 0) (b' := B) (Nat.ne_of_lt (Nat.lt_of_lt_of_le HTW.out hleB)) (.bool br)).far (i := 1) (b' := B) (Nat.ne_of_lt (Nat.lt_of_lt_of_le HTW.out hleB)) (.slice or_ nr cr)
          clear hT q0 q1 q2 q3
          have hT := hT2
          clear hT2
          refine hK.out _ _ ⟨hT.c0, hT.c1⟩ (fun hS => ?_)
          clear hK K
          (try simp only [Act.put, List.setIfInBounds_toArray, List.set_cons_zero, List.set_cons_succ])
          have hB := P.1
          have hF := P.2.1
          have hR := hR.keep P.2.2
          have hA := hO
          clear P hO
          generalize (u5.setCell ⟨B, 0, none⟩ (.bool br)).setCell ⟨B, 1, none⟩ (.slice or_ nr cr) = u6 at *
          (refine wpAnyH_take (i := 12) (oi := ?oi18) (v := ?v18) ?hi18 (by kernel_rfl) (by kernel_rfl) (by kernel_rfl) (fun _ _ _ h => h) ?hg18 (by assumption) ?rest18; (case hi18 => (simp only [List.getElem?_toArray, List.getElem?_cons_succ, List.getElem?_cons_zero]; rfl)); (case hg18 => (refine Or.inl ⟨by rfl, ?_⟩; intro w hSw; (try dsimp only at hSw); go_simp; (try with_reducible rfl))); (try simp only [Act.put, List.setIfInBounds_toArray, List.set_cons_zero, List.set_cons_succ]))
          refine wpAnyH_done (by kernel_rfl) ?_ _
          refine NoPanic.normal ?_
          have q1 := hB.c1
          have HR := Lib.hid hR
          have HF2 := Lib.hid hF
          clear hR hF hT hA hB hS
          go_wp2
          go_ret2
          exact ⟨_, s, rfl, HI.out, HY.out, IntV.mag HR.out, Fol.trans HF.out HF2.out⟩
    case gs6 =>
      go_simp
      have hT2 := hT.fol (Fol.new u1 (.cells #[.bool false, .slice none 0 0] 27))
      clear hT
      have hT := hT2
      clear hT2
      refine hK.out _ _ ⟨hT.c0, hT.c1⟩ (fun hS => ?_)
      clear hK K
      (try simp only [Act.put, List.setIfInBounds_toArray, List.set_cons_zero, List.set_cons_succ])
      have hF := Fol.trans hF (Fol.new u1 (.cells #[.bool false, .slice none 0 0] 27))
      have hN := Cell2.new u1 (.bool false) (.slice none 0 0)
      have hW2 := hW2.fol (Fol.new u1 (.cells #[.bool false, .slice none 0 0] 27))
      have hleB : W.heap.size ≤ u1.heap.size := hle
      have hle2 : W.heap.size ≤ (u1.alloc (.cells #[.bool false, .slice none 0 0] 27)).heap.size := by rw [World.size_alloc]; omega
      generalize u1.heap.size = B at *
      generalize u1.alloc (.cells #[.bool false, .slice none 0 0] 27) = u2 at *
      clear hle
      have hle := hle2
      clear hle2
      have hB := hN
      clear hN
      refine wpAnyH_ready (rs := [3, 8]) (by kernel_rfl) (by simp) ?_
      refine AllReadyH.cons (o := ?go23) ?gh23 (fun K hK => ?gs23) (AllReadyH.cons (o := ?go24) ?gh24 (fun K hK => ?gs24) AllReadyH.nil)
      case gh23 => (simp only [List.getElem?_toArray, List.getElem?_cons_succ, List.getElem?_cons_zero]; rfl)
      case gh24 => (simp only [List.getElem?_toArray, List.getElem?_cons_succ, List.getElem?_cons_zero]; rfl)
      case gs23 =>
        go_simp
        refine (HID.out _ _ _ (hu.fol hF) hW2).mono ?_
        rintro e u3 ⟨bq, oq, nq, cq, br, or_, nr, cr, rfl, hR, k3⟩
        have hT3 := hT.fol k3
        clear hT
        have hT := hT3
        clear hT3
        refine hK.out _ _ ⟨hT.c0, hT.c1⟩ (fun hS => ?_)
        clear hK K
        (try simp only [Act.put, List.setIfInBounds_toArray, List.set_cons_zero, List.set_cons_succ])
        have hF := Fol.trans hF k3
        have hle := Nat.le_trans hle k3.size
        have hB := hB.fol k3
        clear k3
        (refine wpAnyH_take (i := 4) (oi := ?oi19) (v := ?v19) ?hi19 (by kernel_rfl) (by kernel_rfl) (by kernel_rfl) (fun _ _ _ h => h) ?hg19 (by assumption) ?rest19; (case hi19 => (simp only [List.getElem?_toArray, List.getElem?_cons_succ, List.getElem?_cons_zero]; rfl)); (case hg19 => (refine Or.inl ⟨by rfl, ?_⟩; intro w hSw; (try dsimp only at hSw); go_simp; (try with_reducible rfl))); (try simp only [Act.put, List.setIfInBounds_toArray, List.set_cons_zero, List.set_cons_succ]))
        (refine wpAnyH_take (i := 5) (oi := ?oi20) (v := ?v20) ?hi20 (by kernel_rfl) (by kernel_rfl) (by kernel_rfl) (fun _ _ _ h => h) ?hg20 (by assumption) ?rest20; (case hi20 => (simp only [List.getElem?_toArray, List.getElem?_cons_succ, List.getElem?_cons_zero]; rfl)); (case hg20 => (refine Or.inl ⟨by rfl, ?_⟩; intro w hSw; (try dsimp only at hSw); go_simp; (try with_reducible rfl))); (try simp only [Act.put, List.setIfInBounds_toArray, List.set_cons_zero, List.set_cons_succ]))
        (refine wpAnyH_take (i := 6) (oi := ?oi21) (v := ?v21) ?hi21 (by kernel_rfl) (by kernel_rfl) (by kernel_rfl) (fun _ _ _ h => h) ?hg21 (by assumption) ?rest21; (case hi21 => (simp only [List.getElem?_toArray, List.getElem?_cons_succ, List.getElem?_cons_zero]; rfl)); (case hg21 => (refine Or.inl ⟨by rfl, ?_⟩; intro w hSw; (try dsimp only at hSw); go_simp; (try with_reducible rfl))); (try simp only [Act.put, List.setIfInBounds_toArray, List.set_cons_zero, List.set_cons_succ]))
        (refine wpAnyH_take (i := 7) (oi := ?oi22) (v := ?v22) ?hi22 (by kernel_rfl) (by kernel_rfl) (by kernel_rfl) (fun _ _ _ h => h) ?hg22 (by assumption) ?rest22; (case hi22 => (simp only [List.getElem?_toArray, List.getElem?_cons_succ, List.getElem?_cons_zero]; rfl)); (case hg22 => (refine Or.inl ⟨by rfl, ?_⟩; intro w hSw; (try dsimp only at hSw); go_simp; (try with_reducible rfl))); (try simp only [Act.put, List.setIfInBounds_toArray, List.set_cons_zero, List.set_cons_succ]))
        refine wpAnyH_ready (rs := [8]) (by kernel_rfl) (by simp) ?_
        refine AllReadyH.cons (o := ?go25) ?gh25 (fun K hK => ?gs25) AllReadyH.nil
        case gh25 => (simp only [List.getElem?_toArray, List.getElem?_cons_succ, List.getElem?_cons_zero]; rfl)
        case gs25 =>
          go_simp
          have hT4 := hT.fol (Fol.new u3 (.cells #[.bool false, .slice none 0 0] 27))
          clear hT
          have hT := hT4
          clear hT4
          refine hK.out _ _ ⟨hT.c0, hT.c1⟩ (fun hS => ?_)
          clear hK K
          (try simp only [Act.put, List.setIfInBounds_toArray, List.set_cons_zero, List.set_cons_succ])
          have hF := Fol.trans hF (Fol.new u3 (.cells #[.bool false, .slice none 0 0] 27))
          have hN := Cell2.new u3 (.bool false) (.slice none 0 0)
          have hne : B ≠ u3.heap.size := Nat.ne_of_lt hB.lt
          have hB := hB.fol (Fol.new u3 (.cells #[.bool false, .slice none 0 0] 27))
          have hR := hR.fol (Fol.new u3 (.cells #[.bool false, .slice none 0 0] 27))
          have hleA : W.heap.size ≤ u3.heap.size := hle
          have hle2 : W.heap.size ≤ (u3.alloc (.cells #[.bool false, .slice none 0 0] 27)).heap.size := by rw [World.size_alloc]; omega
          generalize u3.heap.size = A at *
          generalize u3.alloc (.cells #[.bool false, .slice none 0 0] 27) = u4 at *
          clear hle
          have hle := hle2
          clear hle2
          have hA := hN
          clear hN
          have hnB : B ≠ A := by first | exact hne | exact Ne.symm hne
          have hnA : A ≠ B := Ne.symm hnB
          clear hne
          refine wpAnyH_ready (rs := [10]) (by kernel_rfl) (by simp) ?_
          refine AllReadyH.cons (o := ?go26) ?gh26 (fun K hK => ?gs26) AllReadyH.nil
          case gh26 => (simp only [List.getElem?_toArray, List.getElem?_cons_succ, List.getElem?_cons_zero]; rfl)
          have q0 := hA.c0
          have q1 := hA.c1
          have q2 := hA.f0
          have q3 := hA.f1
          go_simp
          have P := hA.put (w := W) hleA hF (.bool bq) (.slice oq nq cq)
          have hO := (hB.far (i := 0) (b' := A) hnB (.bool bq)).far (i := 1) (b' := A) hnB (.slice oq nq cq)
          have hT2 := (hT.far (i := 0) (b' := A) (Nat.ne_of_lt (Nat.lt_of_lt_of_le HTW.out hleA)) (.bool bq)).far (i := 1) (b' := A) (Nat.ne_of_lt (Nat.lt_of_lt_of_le HTW.out hleA)) (.slice oq nq cq)
          clear hT q0 q1 q2 q3
          have hT := hT2
          clear hT2
          refine hK.out _ _ ⟨hT.c0, hT.c1⟩ (fun hS => ?_)
          clear hK K
          (try simp only [Act.put, List.setIfInBounds_toArray, List.set_cons_zero, List.set_cons_succ])
          have hA := P.1
          have hF := P.2.1
          have hR := hR.keep P.2.2
          have hB := hO
          clear P hO
          generalize (u4.setCell ⟨A, 0, none⟩ (.bool bq)).setCell ⟨A, 1, none⟩ (.slice oq nq cq) = u5 at *
          refine wpAnyH_ready (rs := [11]) (by kernel_rfl) (by simp) ?_
          refine AllReadyH.cons (o := ?go27) ?gh27 (fun K hK => ?gs27) AllReadyH.nil
          case gh27 => (simp only [List.getElem?_toArray, List.getElem?_cons_succ, List.getElem?_cons_zero]; rfl)
          have q0 := hB.c0
          have q1 := hB.c1
          have q2 := hB.f0
          have q3 := hB.f1
          go_simp
          have P := hB.put (w := W) hleB hF (.bool br) (.slice or_ nr cr)
          have hO := (hA.far (i := 0) (b' := B) hnA (.bool br)).far (i := 1) (b' := B) hnA (.slice or_ nr cr)
          have hT2 := (hT.far (i := 0) (b' := B) (Nat.ne_of_lt (Nat.lt_of_lt_of_le HTW.out hleB)) (.bool br)).far (i := 1) (b' := B) (Nat.ne_of_lt (Nat.lt_of_lt_of_le HTW.out hleB)) (.slice or_ nr cr)
          clear hT q0 q1 q2 q3
          have hT := hT2
          clear hT2
          refine hK.out _ _ ⟨hT.c0, hT.c1⟩ (fun hS => ?_)
          clear hK K
          (try simp only [Act.put, List.setIfInBounds_toArray, List.set_cons_zero, List.set_cons_succ])
          have hB := P.1
          have hF := P.2.1
          have hR := hR.keep P.2.2
          have hA := hO
          clear P hO
          generalize (u5.setCell ⟨B, 0, none⟩ (.bool br)).setCell ⟨B, 1, none⟩ (.slice or_ nr cr) = u6 at *
          (refine wpAnyH_take (i := 12) (oi := ?oi23) (v := ?v23) ?hi23 (by kernel_rfl) (by kernel_rfl) (by kernel_rfl) (fun _ _ _ h => h) ?hg23 (by assumption) ?rest23; (case hi23 => (simp only [List.getElem?_toArray, List.getElem?_cons_succ, List.getElem?_cons_zero]; rfl)); (case hg23 => (refine Or.inl ⟨by rfl, ?_⟩; intro w hSw; (try dsimp only at hSw); go_simp; (try with_reducible rfl))); (try simp only [Act.put, List.setIfInBounds_toArray, List.set_cons_zero, List.set_cons_succ]))
          refine wpAnyH_done (by kernel_rfl) ?_ _
          refine NoPanic.normal ?_
          have q1 := hB.c1
          have HR := Lib.hid hR
          have HF2 := Lib.hid hF
          clear hR hF hT hA hB hS
          go_wp2
          go_ret2
          exact ⟨_, s, rfl, HI.out, HY.out, IntV.mag HR.out, Fol.trans HF.out HF2.out⟩
      case gs24 =>
        go_simp
        have hT3 := hT.fol (Fol.new u2 (.cells #[.bool false, .slice none 0 0] 27))
        clear hT
        have hT := hT3
        clear hT3
        refine hK.out _ _ ⟨hT.c0, hT.c1⟩ (fun hS => ?_)
        clear hK K
        (try simp only [Act.put, List.setIfInBounds_toArray, List.set_cons_zero, List.set_cons_succ])
        have hF := Fol.trans hF (Fol.new u2 (.cells #[.bool false, .slice none 0 0] 27))
        have hN := Cell2.new u2 (.bool false) (.slice none 0 0)
        have hne : B ≠ u2.heap.size := Nat.ne_of_lt hB.lt
        have hB := hB.fol (Fol.new u2 (.cells #[.bool false, .slice none 0 0] 27))
        have hW2 := hW2.fol (Fol.new u2 (.cells #[.bool false, .slice none 0 0] 27))
        have hleA : W.heap.size ≤ u2.heap.size := hle
        have hle2 : W.heap.size ≤ (u2.alloc (.cells #[.bool false, .slice none 0 0] 27)).heap.size := by rw [World.size_alloc]; omega
        generalize u2.heap.size = A at *
        generalize u2.alloc (.cells #[.bool false, .slice none 0 0] 27) = u3 at *
        clear hle
        have hle := hle2
        clear hle2
        have hA := hN
        clear hN
        refine wpAnyH_ready (rs := [3]) (by kernel_rfl) (by simp) ?_
        refine AllReadyH.cons (o := ?go28) ?gh28 (fun K hK => ?gs28) AllReadyH.nil
        case gh28 => (simp only [List.getElem?_toArray, List.getElem?_cons_succ, List.getElem?_cons_zero]; rfl)
        case gs28 =>
          go_simp
          refine (HID.out _ _ _ (hu.fol hF) hW2).mono ?_
          rintro e u4 ⟨bq, oq, nq, cq, br, or_, nr, cr, rfl, hR, k4⟩
          have hT4 := hT.fol k4
          clear hT
          have hT := hT4
          clear hT4
          refine hK.out _ _ ⟨hT.c0, hT.c1⟩ (fun hS => ?_)
          clear hK K
          (try simp only [Act.put, List.setIfInBounds_toArray, List.set_cons_zero, List.set_cons_succ])
          have hF := Fol.trans hF k4
          have hle := Nat.le_trans hle k4.size
          have hA := hA.fol k4
          have hB := hB.fol k4
          clear k4
          (refine wpAnyH_take (i := 4) (oi := ?oi24) (v := ?v24) ?hi24 (by kernel_rfl) (by kernel_rfl) (by kernel_rfl) (fun _ _ _ h => h) ?hg24 (by assumption) ?rest24; (case hi24 => (simp only [List.getElem?_toArray, List.getElem?_cons_succ, List.getElem?_cons_zero]; rfl)); (case hg24 => (refine Or.inl ⟨by rfl, ?_⟩; intro w hSw; (try dsimp only at hSw); go_simp; (try with_reducible rfl))); (try simp only [Act.put, List.setIfInBounds_toArray, List.set_cons_zero, List.set_cons_succ]))
          (refine wpAnyH_take (i := 5) (oi := ?oi25) (v := ?v25) ?hi25 (by kernel_rfl) (by kernel_rfl) (by kernel_rfl) (fun _ _ _ h => h) ?hg25 (by assumption) ?rest25; (case hi25 => (simp only [List.getElem?_toArray, List.getElem?_cons_succ, List.getElem?_cons_zero]; rfl)); (case hg25 => (refine Or.inl ⟨by rfl, ?_⟩; intro w hSw; (try dsimp only at hSw); go_simp; (try with_reducible rfl))); (try simp only [Act.put, List.setIfInBounds_toArray, List.set_cons_zero, List.set_cons_succ]))
          (refine wpAnyH_take (i := 6) (oi := ?oi26) (v := ?v26) ?hi26 (by kernel_rfl) (by kernel_rfl) (by kernel_rfl) (fun _ _ _ h => h) ?hg26 (by assumption) ?rest26; (case hi26 => (simp only [List.getElem?_toArray, List.getElem?_cons_succ, List.getElem?_cons_zero]; rfl)); (case hg26 => (refine Or.inl ⟨by rfl, ?_⟩; intro w hSw; (try dsimp only at hSw); go_simp; (try with_reducible rfl))); (try simp only [Act.put, List.setIfInBounds_toArray, List.set_cons_zero, List.set_cons_succ]))
          (refine wpAnyH_take (i := 7) (oi := ?oi27) (v := ?v27) ?hi27 (by kernel_rfl) (by kernel_rfl) (by kernel_rfl) (fun _ _ _ h => h) ?hg27 (by assumption) ?rest27; (case hi27 => (simp only [List.getElem?_toArray, List.getElem?_cons_succ, List.getElem?_cons_zero]; rfl)); (case hg27 => (refine Or.inl ⟨by rfl, ?_⟩; intro w hSw; (try dsimp only at hSw); go_simp; (try with_reducible rfl))); (try simp only [Act.put, List.setIfInBounds_toArray, List.set_cons_zero, List.set_cons_succ]))
          have hnB : B ≠ A := by first | exact hne | exact Ne.symm hne
          have hnA : A ≠ B := Ne.symm hnB
          clear hne
          refine wpAnyH_ready (rs := [10]) (by kernel_rfl) (by simp) ?_
          refine AllReadyH.cons (o := ?go29) ?gh29 (fun K hK => ?gs29) AllReadyH.nil
          case gh29 => (simp only [List.getElem?_toArray, List.getElem?_cons_succ, List.getElem?_cons_zero]; rfl)
          have q0 := hA.c0
          have q1 := hA.c1
          have q2 := hA.f0
          have q3 := hA.f1
          go_simp
          have P := hA.put (w := W) hleA hF (.bool bq) (.slice oq nq cq)
          have hO := (hB.far (i := 0) (b' := A) hnB (.bool bq)).far (i := 1) (b' := A) hnB (.slice oq nq cq)
          have hT2 := (hT.far (i := 0) (b' := A) (Nat.ne_of_lt (Nat.lt_of_lt_of_le HTW.out hleA)) (.bool bq)).far (i := 1) (b' := A) (Nat.ne_of_lt (Nat.lt_of_lt_of_le HTW.out hleA)) (.slice oq nq cq)
          clear hT q0 q1 q2 q3
          have hT := hT2
          clear hT2
          refine hK.out _ _ ⟨hT.c0, hT.c1⟩ (fun hS => ?_)
          clear hK K
          (try simp only [Act.put, List.setIfInBounds_toArray, List.set_cons_zero, List.set_cons_succ])
          have hA := P.1
          have hF := P.2.1
          have hR := hR.keep P.2.2
          have hB := hO
          clear P hO
          generalize (u4.setCell ⟨A, 0, none⟩ (.bool bq)).setCell ⟨A, 1, none⟩ (.slice oq nq cq) = u5 at *
          refine wpAnyH_ready (rs := [11]) (by kernel_rfl) (by simp) ?_
          refine AllReadyH.cons (o := ?go30) ?gh30 (fun K hK => ?gs30) AllReadyH.nil
          case gh30 => (simp only [List.getElem?_toArray, List.getElem?_cons_succ, List.getElem?_cons_zero]; rfl)
          have q0 := hB.c0
          have q1 := hB.c1
          have q2 := hB.f0
          have q3 := hB.f1
          go_simp
          have P := hB.put (w := W) hleB hF (.bool br) (.slice or_ nr cr)
          have hO := (hA.far (i := 0) (b' := B) hnA (.bool br)).far (i := 1) (b' := B) hnA (.slice or_ nr cr)
          have hT2 := (hT.far (i := 0) (b' := B) (Nat.ne_of_lt (Nat.lt_of_lt_of_le HTW.out hleB)) (.bool br)).far (i := 1) (b' := B) (Nat.ne_of_lt (Nat.lt_of_lt_of_le HTW.out hleB)) (.slice or_ nr cr)
          clear hT q0 q1 q2 q3
          have hT := hT2
          clear hT2
          refine hK.out _ _ ⟨hT.c0, hT.c1⟩ (fun hS => ?_)
          clear hK K
          (try simp only [Act.put, List.setIfInBounds_toArray, List.set_cons_zero, List.set_cons_succ])
          have hB := P.1
          have hF := P.2.1
          have hR := hR.keep P.2.2
          have hA := hO
          clear P hO
          generalize (u5.setCell ⟨B, 0, none⟩ (.bool br)).setCell ⟨B, 1, none⟩ (.slice or_ nr cr) = u6 at *
          (refine wpAnyH_take (i := 12) (oi := ?oi28) (v := ?v28) ?hi28 (by kernel_rfl) (by kernel_rfl) (by kernel_rfl) (fun _ _ _ h => h) ?hg28 (by assumption) ?rest28; (case hi28 => (simp only [List.getElem?_toArray, List.getElem?_cons_succ, List.getElem?_cons_zero]; rfl)); (case hg28 => (refine Or.inl ⟨by rfl, ?_⟩; intro w hSw; (try dsimp only at hSw); go_simp; (try with_reducible rfl))); (try simp only [Act.put, List.setIfInBounds_toArray, List.set_cons_zero, List.set_cons_succ]))
          refine wpAnyH_done (by kernel_rfl) ?_ _
          refine NoPanic.normal ?_
          have q1 := hB.c1
          have HR := Lib.hid hR
          have HF2 := Lib.hid hF
          clear hR hF hT hA hB hS
          go_wp2
          go_ret2
          exact ⟨_, s, rfl, HI.out, HY.out, IntV.mag HR.out, Fol.trans HF.out HF2.out⟩
  case gs2 =>
    go_simp
    have hT1 := hT.fol (Fol.new u0 (.cells #[.bool false, .slice none 0 0] 27))
    clear hT
    have hT := hT1
    clear hT1
    refine hK.out _ _ ⟨hT.c0, hT.c1⟩ (fun hS => ?_)
    clear hK K
    (try simp only [Act.put, List.setIfInBounds_toArray, List.set_cons_zero, List.set_cons_succ])
    have hF := Fol.trans hF (Fol.new u0 (.cells #[.bool false, .slice none 0 0] 27))
    have hN := Cell2.new u0 (.bool false) (.slice none 0 0)
    have hleA : W.heap.size ≤ u0.heap.size := hle
    have hle2 : W.heap.size ≤ (u0.alloc (.cells #[.bool false, .slice none 0 0] 27)).heap.size := by rw [World.size_alloc]; omega
    generalize u0.heap.size = A at *
    generalize u0.alloc (.cells #[.bool false, .slice none 0 0] 27) = u1 at *
    clear hle
    have hle := hle2
    clear hle2
    have hA := hN
    clear hN
    refine wpAnyH_ready (rs := [2, 9]) (by kernel_rfl) (by simp) ?_
    refine AllReadyH.cons (o := ?go31) ?gh31 (fun K hK => ?gs31) (AllReadyH.cons (o := ?go32) ?gh32 (fun K hK => ?gs32) AllReadyH.nil)
    case gh31 => (simp only [List.getElem?_toArray, List.getElem?_cons_succ, List.getElem?_cons_zero]; rfl)
    case gh32 => (simp only [List.getElem?_toArray, List.getElem?_cons_succ, List.getElem?_cons_zero]; rfl)
    case gs31 =>
      go_simp
      refine (HW.out _ (hm.fol hF)).mono ?_
      rintro e u2 ⟨v2, rfl, hW2, k2⟩
      have hT2 := hT.fol k2
      clear hT
      have hT := hT2
      clear hT2
      refine hK.out _ _ ⟨hT.c0, hT.c1⟩ (fun hS => ?_)
      clear hK K
      (try simp only [Act.put, List.setIfInBounds_toArray, List.set_cons_zero, List.set_cons_succ])
      have hF := Fol.trans hF k2
      have hle := Nat.le_trans hle k2.size
      have hA := hA.fol k2
      clear k2
      refine wpAnyH_ready (rs := [3, 9]) (by kernel_rfl) (by simp) ?_
      refine AllReadyH.cons (o := ?go33) ?gh33 (fun K hK => ?gs33) (AllReadyH.cons (o := ?go34) ?gh34 (fun K hK => ?gs34) AllReadyH.nil)
      case gh33 => (simp only [List.getElem?_toArray, List.getElem?_cons_succ, List.getElem?_cons_zero]; rfl)
      case gh34 => (simp only [List.getElem?_toArray, List.getElem?_cons_succ, List.getElem?_cons_zero]; rfl)
      case gs33 =>
        go_simp
        refine (HID.out _ _ _ (hu.fol hF) hW2).mono ?_
        rintro e u3 ⟨bq, oq, nq, cq, br, or_, nr, cr, rfl, hR, k3⟩
        have hT3 := hT.fol k3
        clear hT
        have hT := hT3
        clear hT3
        refine hK.out _ _ ⟨hT.c0, hT.c1⟩ (fun hS => ?_)
        clear hK K
        (try simp only [Act.put, List.setIfInBounds_toArray, List.set_cons_zero, List.set_cons_succ])
        have hF := Fol.trans hF k3
        have hle := Nat.le_trans hle k3.size
        have hA := hA.fol k3
        clear k3
        (refine wpAnyH_take (i := 4) (oi := ?oi29) (v := ?v29) ?hi29 (by kernel_rfl) (by kernel_rfl) (by kernel_rfl) (fun _ _ _ h => h) ?hg29 (by assumption) ?rest29; (case hi29 => (simp only [List.getElem?_toArray, List.getElem?_cons_succ, List.getElem?_cons_zero]; rfl)); (case hg29 => (refine Or.inl ⟨by rfl, ?_⟩; intro w hSw; (try dsimp only at hSw); go_simp; (try with_reducible rfl))); (try simp only [Act.put, List.setIfInBounds_toArray, List.set_cons_zero, List.set_cons_succ]))
        (refine wpAnyH_take (i := 5) (oi := ?oi30) (v := ?v30) ?hi30 (by kernel_rfl) (by kernel_rfl) (by kernel_rfl) (fun _ _ _ h => h) ?hg30 (by assumption) ?rest30; (case hi30 => (simp only [List.getElem?_toArray, List.getElem?_cons_succ, List.getElem?_cons_zero]; rfl)); (case hg30 => (refine Or.inl ⟨by rfl, ?_⟩; intro w hSw; (try dsimp only at hSw); go_simp; (try with_reducible rfl))); (try simp only [Act.put, List.setIfInBounds_toArray, List.set_cons_zero, List.set_cons_succ]))
        (refine wpAnyH_take (i := 6) (oi := ?oi31) (v := ?v31) ?hi31 (by kernel_rfl) (by kernel_rfl) (by kernel_rfl) (fun _ _ _ h => h) ?hg31 (by assumption) ?rest31; (case hi31 => (simp only [List.getElem?_toArray, List.getElem?_cons_succ, List.getElem?_cons_zero]; rfl)); (case hg31 => (refine Or.inl ⟨by rfl, ?_⟩; intro w hSw; (try dsimp only at hSw); go_simp; (try with_reducible rfl))); (try simp only [Act.put, List.setIfInBounds_toArray, List.set_cons_zero, List.set_cons_succ]))
        (refine wpAnyH_take (i := 7) (oi := ?oi32) (v := ?v32) ?hi32 (by kernel_rfl) (by kernel_rfl) (by kernel_rfl) (fun _ _ _ h => h) ?hg32 (by assumption) ?rest32; (case hi32 => (simp only [List.getElem?_toArray, List.getElem?_cons_succ, List.getElem?_cons_zero]; rfl)); (case hg32 => (refine Or.inl ⟨by rfl, ?_⟩; intro w hSw; (try dsimp only at hSw); go_simp; (try with_reducible rfl))); (try simp only [Act.put, List.setIfInBounds_toArray, List.set_cons_zero, List.set_cons_succ]))
        refine wpAnyH_ready (rs := [9]) (by kernel_rfl) (by simp) ?_
        refine AllReadyH.cons (o := ?go35) ?gh35 (fun K hK => ?gs35) AllReadyH.nil
        case gh35 => (simp only [List.getElem?_toArray, List.getElem?_cons_succ, List.getElem?_cons_zero]; rfl)
        case gs35 =>
          go_simp
          have hT4 := hT.fol (Fol.new u3 (.cells #[.bool false, .slice none 0 0] 27))
          clear hT
          have hT := hT4
          clear hT4
          refine hK.out _ _ ⟨hT.c0, hT.c1⟩ (fun hS => ?_)
          clear hK K
          (try simp only [Act.put, List.setIfInBounds_toArray, List.set_cons_zero, List.set_cons_succ])
          have hF := Fol.trans hF (Fol.new u3 (.cells #[.bool false, .slice none 0 0] 27))
          have hN := Cell2.new u3 (.bool false) (.slice none 0 0)
          have hne : A ≠ u3.heap.size := Nat.ne_of_lt hA.lt
          have hA := hA.fol (Fol.new u3 (.cells #[.bool false, .slice none 0 0] 27))
          have hR := hR.fol (Fol.new u3 (.cells #[.bool false, .slice none 0 0] 27))
          have hleB : W.heap.size ≤ u3.heap.size := hle
          have hle2 : W.heap.size ≤ (u3.alloc (.cells #[.bool false, .slice none 0 0] 27)).heap.size := by rw [World.size_alloc]; omega
          generalize u3.heap.size = B at *
          generalize u3.alloc (.cells #[.bool false, .slice none 0 0] 27) = u4 at *
          clear hle
          have hle := hle2
          clear hle2
          have hB := hN
          clear hN
          have hnB : B ≠ A := by first | exact hne | exact Ne.symm hne
          have hnA : A ≠ B := Ne.symm hnB
          clear hne
          refine wpAnyH_ready (rs := [10]) (by kernel_rfl) (by simp) ?_
          refine AllReadyH.cons (o := ?go36) ?gh36 (fun K hK => ?gs36) AllReadyH.nil
          case gh36 => (simp only [List.getElem?_toArray, List.getElem?_cons_succ, List.getElem?_cons_zero]; rfl)
          have q0 := hA.c0
          have q1 := hA.c1
          have q2 := hA.f0
          have q3 := hA.f1
          go_simp
          have P := hA.put (w := W) hleA hF (.bool bq) (.slice oq nq cq)
          have hO := (hB.far (i := 0) (b' := A) hnB (.bool bq)).far (i := 1) (b' := A) hnB (.slice oq nq cq)
          have hT2 := (hT.far (i := 0) (b' := A) (Nat.ne_of_lt (Nat.lt_of_lt_of_le HTW.out hleA)) (.bool bq)).far (i := 1) (b' := A) (Nat.ne_of_lt (Nat.lt_of_lt_of_le HTW.out hleA)) (.slice oq nq cq)
          clear hT q0 q1 q2 q3
          have hT := hT2
          clear hT2
          refine hK.out _ _ ⟨hT.c0, hT.c1⟩ (fun hS => ?_)
          clear hK K
          (try simp only [Act.put, List.setIfInBounds_toArray, List.set_cons_zero, List.set_cons_succ])
          have hA := P.1
          have hF := P.2.1
          have hR := hR.keep P.2.2
          have hB := hO
          clear P hO
          generalize (u4.setCell ⟨A, 0, none⟩ (.bool bq)).setCell ⟨A, 1, none⟩ (.slice oq nq cq) = u5 at *
          refine wpAnyH_ready (rs := [11]) (by kernel_rfl) (by simp) ?_
          refine AllReadyH.cons (o := ?go37) ?gh37 (fun K hK => ?gs37) AllReadyH.nil
          case gh37 => (simp only [List.getElem?_toArray, List.getElem?_cons_succ, List.getElem?_cons_zero]; rfl)
          have q0 := hB.c0
          have q1 := hB.c1
          have q2 := hB.f0
          have q3 := hB.f1
          go_simp
          have P := hB.put (w := W) hleB hF (.bool br) (.slice or_ nr cr)
          have hO := (hA.far (i := 0) (b' := B) hnA (.bool br)).far (i := 1) (b' := B) hnA (.slice or_ nr cr)
          have hT2 := (hT.far (i := 0) (b' := B) (Nat.ne_of_lt (Nat.lt_of_lt_of_le HTW.out hleB)) (.bool br)).far (i := 1) (b' := B) (Nat.ne_of_lt (Nat.lt_of_lt_of_le HTW.out hleB)) (.slice or_ nr cr)
          clear hT q0 q1 q2 q3
          have hT := hT2
          clear hT2
          refine hK.out _ _ ⟨hT.c0, hT.c1⟩ (fun hS => ?_)
          clear hK K
          (try simp only [Act.put, List.setIfInBounds_toArray, List.set_cons_zero, List.set_cons_succ])
          have hB := P.1
          have hF := P.2.1
          have hR := hR.keep P.2.2
          have hA := hO
          clear P hO
          generalize (u5.setCell ⟨B, 0, none⟩ (.bool br)).setCell ⟨B, 1, none⟩ (.slice or_ nr cr) = u6 at *
          (refine wpAnyH_take (i := 12) (oi := ?oi33) (v := ?v33) ?hi33 (by kernel_rfl) (by kernel_rfl) (by kernel_rfl) (fun _ _ _ h => h) ?hg33 (by assumption) ?rest33; (case hi33 => (simp only [List.getElem?_toArray, List.getElem?_cons_succ, List.getElem?_cons_zero]; rfl)); (case hg33 => (refine Or.inl ⟨by rfl, ?_⟩; intro w hSw; (try dsimp only at hSw); go_simp; (try with_reducible rfl))); (try simp only [Act.put, List.setIfInBounds_toArray, List.set_cons_zero, List.set_cons_succ]))
          refine wpAnyH_done (by kernel_rfl) ?_ _
          refine NoPanic.normal ?_
          have q1 := hB.c1
          have HR := Lib.hid hR
          have HF2 := Lib.hid hF
          clear hR hF hT hA hB hS
          go_wp2
          go_ret2
          exact ⟨_, s, rfl, HI.out, HY.out, IntV.mag HR.out, Fol.trans HF.out HF2.out⟩
      case gs34 =>
        go_simp
        have hT3 := hT.fol (Fol.new u2 (.cells #[.bool false, .slice none 0 0] 27))
        clear hT
        have hT := hT3
        clear hT3
        refine hK.out _ _ ⟨hT.c0, hT.c1⟩ (fun hS => ?_)
        clear hK K
        (try simp only [Act.put, List.setIfInBounds_toArray, List.set_cons_zero, List.set_cons_succ])
        have hF := Fol.trans hF (Fol.new u2 (.cells #[.bool false, .slice none 0 0] 27))
        have hN := Cell2.new u2 (.bool false) (.slice none 0 0)
        have hne : A ≠ u2.heap.size := Nat.ne_of_lt hA.lt
        have hA := hA.fol (Fol.new u2 (.cells #[.bool false, .slice none 0 0] 27))
        have hW2 := hW2.fol (Fol.new u2 (.cells #[.bool false, .slice none 0 0] 27))
        have hleB : W.heap.size ≤ u2.heap.size := hle
        have hle2 : W.heap.size ≤ (u2.alloc (.cells #[.bool false, .slice none 0 0] 27)).heap.size := by rw [World.size_alloc]; omega
        generalize u2.heap.size = B at *
        generalize u2.alloc (.cells #[.bool false, .slice none 0 0] 27) = u3 at *
        clear hle
        have hle := hle2
        clear hle2
        have hB := hN
        clear hN
        refine wpAnyH_ready (rs := [3]) (by kernel_rfl) (by simp) ?_
        refine AllReadyH.cons (o := ?go38) ?gh38 (fun K hK => ?gs38) AllReadyH.nil
        case gh38 => (simp only [List.getElem?_toArray, List.getElem?_cons_succ, List.getElem?_cons_zero]; rfl)
        case gs38 =>
          go_simp
          refine (HID.out _ _ _ (hu.fol hF) hW2).mono ?_
          rintro e u4 ⟨bq, oq, nq, cq, br, or_, nr, cr, rfl, hR, k4⟩
          have hT4 := hT.fol k4
          clear hT
          have hT := hT4
          clear hT4
          refine hK.out _ _ ⟨hT.c0, hT.c1⟩ (fun hS => ?_)
          clear hK K
          (try simp only [Act.put, List.setIfInBounds_toArray, List.set_cons_zero, List.set_cons_succ])
          have hF := Fol.trans hF k4
          have hle := Nat.le_trans hle k4.size
          have hA := hA.fol k4
          have hB := hB.fol k4
          clear k4
          (refine wpAnyH_take (i := 4) (oi := ?oi34) (v := ?v34) ?hi34 (by kernel_rfl) (by kernel_rfl) (by kernel_rfl) (fun _ _ _ h => h) ?hg34 (by assumption) ?rest34; (case hi34 => (simp only [List.getElem?_toArray, List.getElem?_cons_succ, List.getElem?_cons_zero]; rfl)); (case hg34 => (refine Or.inl ⟨by rfl, ?_⟩; intro w hSw; (try dsimp only at hSw); go_simp; (try with_reducible rfl))); (try simp only [Act.put, List.setIfInBounds_toArray, List.set_cons_zero, List.set_cons_succ]))
          (refine wpAnyH_take (i := 5) (oi := ?oi35) (v := ?v35) ?hi35 (by kernel_rfl) (by kernel_rfl) (by kernel_rfl) (fun _ _ _ h => h) ?hg35 (by assumption) ?rest35; (case hi35 => (simp only [List.getElem?_toArray, List.getElem?_cons_succ, List.getElem?_cons_zero]; rfl)); (case hg35 => (refine Or.inl ⟨by rfl, ?_⟩; intro w hSw; (try dsimp only at hSw); go_simp; (try with_reducible rfl))); (try simp only [Act.put, List.setIfInBounds_toArray, List.set_cons_zero, List.set_cons_succ]))
          (refine wpAnyH_take (i := 6) (oi := ?oi36) (v := ?v36) ?hi36 (by kernel_rfl) (by kernel_rfl) (by kernel_rfl) (fun _ _ _ h => h) ?hg36 (by assumption) ?rest36; (case hi36 => (simp only [List.getElem?_toArray, List.getElem?_cons_succ, List.getElem?_cons_zero]; rfl)); (case hg36 => (refine Or.inl ⟨by rfl, ?_⟩; intro w hSw; (try dsimp only at hSw); go_simp; (try with_reducible rfl))); (try simp only [Act.put, List.setIfInBounds_toArray, List.set_cons_zero, List.set_cons_succ]))
          (refine wpAnyH_take (i := 7) (oi := ?oi37) (v := ?v37) ?hi37 (by kernel_rfl) (by kernel_rfl) (by kernel_rfl) (fun _ _ _ h => h) ?hg37 (by assumption) ?rest37; (case hi37 => (simp only [List.getElem?_toArray, List.getElem?_cons_succ, List.getElem?_cons_zero]; rfl)); (case hg37 => (refine Or.inl ⟨by rfl, ?_⟩; intro w hSw; (try dsimp only at hSw); go_simp; (try with_reducible rfl))); (try simp only [Act.put, List.setIfInBounds_toArray, List.set_cons_zero, List.set_cons_succ]))
          have hnB : B ≠ A := by first | exact hne | exact Ne.symm hne
          have hnA : A ≠ B := Ne.symm hnB
          clear hne
          refine wpAnyH_ready (rs := [10]) (by kernel_rfl) (by simp) ?_
          refine AllReadyH.cons (o := ?go39) ?gh39 (fun K hK => ?gs39) AllReadyH.nil
          case gh39 => (simp only [List.getElem?_toArray, List.getElem?_cons_succ, List.getElem?_cons_zero]; rfl)
          have q0 := hA.c0
          have q1 := hA.c1
          have q2 := hA.f0
          have q3 := hA.f1
          go_simp
          have P := hA.put (w := W) hleA hF (.bool bq) (.slice oq nq cq)
          have hO := (hB.far (i := 0) (b' := A) hnB (.bool bq)).far (i := 1) (b' := A) hnB (.slice oq nq cq)
          have hT2 := (hT.far (i := 0) (b' := A) (Nat.ne_of_lt (Nat.lt_of_lt_of_le HTW.out hleA)) (.bool bq)).far (i := 1) (b' := A) (Nat.ne_of_lt (Nat.lt_of_lt_of_le HTW.out hleA)) (.slice oq nq cq)
          clear hT q0 q1 q2 q3
          have hT := hT2
          clear hT2
          refine hK.out _ _ ⟨hT.c0, hT.c1⟩ (fun hS => ?_)
          clear hK K
          (try simp only [Act.put, List.setIfInBounds_toArray, List.set_cons_zero, List.set_cons_succ])
          have hA := P.1
          have hF := P.2.1
          have hR := hR.keep P.2.2
          have hB := hO
          clear P hO
          generalize (u4.setCell ⟨A, 0, none⟩ (.bool bq)).setCell ⟨A, 1, none⟩ (.slice oq nq cq) = u5 at *
          refine wpAnyH_ready (rs := [11]) (by kernel_rfl) (by simp) ?_
          refine AllReadyH.cons (o := ?go40) ?gh40 (fun K hK => ?gs40) AllReadyH.nil
          case gh40 => (simp only [List.getElem?_toArray, List.getElem?_cons_succ, List.getElem?_cons_zero]; rfl)
          have q0 := hB.c0
          have q1 := hB.c1
          have q2 := hB.f0
          have q3 := hB.f1
          go_simp
          have P := hB.put (w := W) hleB hF (.bool br) (.slice or_ nr cr)
          have hO := (hA.far (i := 0) (b' := B) hnA (.bool br)).far (i := 1) (b' := B) hnA (.slice or_ nr cr)
          have hT2 := (hT.far (i := 0) (b' := B) (Nat.ne_of_lt (Nat.lt_of_lt_of_le HTW.out hleB)) (.bool br)).far (i := 1) (b' := B) (Nat.ne_of_lt (Nat.lt_of_lt_of_le HTW.out hleB)) (.slice or_ nr cr)
          clear hT q0 q1 q2 q3
          have hT := hT2
          clear hT2
          refine hK.out _ _ ⟨hT.c0, hT.c1⟩ (fun hS => ?_)
          clear hK K
          (try simp only [Act.put, List.setIfInBounds_toArray, List.set_cons_zero, List.set_cons_succ])
          have hB := P.1
          have hF := P.2.1
          have hR := hR.keep P.2.2
          have hA := hO
          clear P hO
          generalize (u5.setCell ⟨B, 0, none⟩ (.bool br)).setCell ⟨B, 1, none⟩ (.slice or_ nr cr) = u6 at *
          (refine wpAnyH_take (i := 12) (oi := ?oi38) (v := ?v38) ?hi38 (by kernel_rfl) (by kernel_rfl) (by kernel_rfl) (fun _ _ _ h => h) ?hg38 (by assumption) ?rest38; (case hi38 => (simp only [List.getElem?_toArray, List.getElem?_cons_succ, List.getElem?_cons_zero]; rfl)); (case hg38 => (refine Or.inl ⟨by rfl, ?_⟩; intro w hSw; (try dsimp only at hSw); go_simp; (try with_reducible rfl))); (try simp only [Act.put, List.setIfInBounds_toArray, List.set_cons_zero, List.set_cons_succ]))
          refine wpAnyH_done (by kernel_rfl) ?_ _
          refine NoPanic.normal ?_
          have q1 := hB.c1
          have HR := Lib.hid hR
          have HF2 := Lib.hid hF
          clear hR hF hT hA hB hS
          go_wp2
          go_ret2
          exact ⟨_, s, rfl, HI.out, HY.out, IntV.mag HR.out, Fol.trans HF.out HF2.out⟩
    case gs32 =>
      go_simp
      have hT2 := hT.fol (Fol.new u1 (.cells #[.bool false, .slice none 0 0] 27))
      clear hT
      have hT := hT2
      clear hT2
      refine hK.out _ _ ⟨hT.c0, hT.c1⟩ (fun hS => ?_)
      clear hK K
      (try simp only [Act.put, List.setIfInBounds_toArray, List.set_cons_zero, List.set_cons_succ])
      have hF := Fol.trans hF (Fol.new u1 (.cells #[.bool false, .slice none 0 0] 27))
      have hN := Cell2.new u1 (.bool false) (.slice none 0 0)
      have hne : A ≠ u1.heap.size := Nat.ne_of_lt hA.lt
      have hA := hA.fol (Fol.new u1 (.cells #[.bool false, .slice none 0 0] 27))
      have hleB : W.heap.size ≤ u1.heap.size := hle
      have hle2 : W.heap.size ≤ (u1.alloc (.cells #[.bool false, .slice none 0 0] 27)).heap.size := by rw [World.size_alloc]; omega
      generalize u1.heap.size = B at *
      generalize u1.alloc (.cells #[.bool false, .slice none 0 0] 27) = u2 at *
      clear hle
      have hle := hle2
      clear hle2
      have hB := hN
      clear hN
      refine wpAnyH_ready (rs := [2]) (by kernel_rfl) (by simp) ?_
      refine AllReadyH.cons (o := ?go41) ?gh41 (fun K hK => ?gs41) AllReadyH.nil
      case gh41 => (simp only [List.getElem?_toArray, List.getElem?_cons_succ, List.getElem?_cons_zero]; rfl)
      case gs41 =>
        go_simp
        refine (HW.out _ (hm.fol hF)).mono ?_
        rintro e u3 ⟨v2, rfl, hW2, k3⟩
        have hT3 := hT.fol k3
        clear hT
        have hT := hT3
        clear hT3
        refine hK.out _ _ ⟨hT.c0, hT.c1⟩ (fun hS => ?_)
        clear hK K
        (try simp only [Act.put, List.setIfInBounds_toArray, List.set_cons_zero, List.set_cons_succ])
        have hF := Fol.trans hF k3
        have hle := Nat.le_trans hle k3.size
        have hA := hA.fol k3
        have hB := hB.fol k3
        clear k3
        refine wpAnyH_ready (rs := [3]) (by kernel_rfl) (by simp) ?_
        refine AllReadyH.cons (o := ?go42) ?gh42 (fun K hK => ?gs42) AllReadyH.nil
        case gh42 => (simp only [List.getElem?_toArray, List.getElem?_cons_succ, List.getElem?_cons_zero]; rfl)
        case gs42 =>
          go_simp
          refine (HID.out _ _ _ (hu.fol hF) hW2).mono ?_
          rintro e u4 ⟨bq, oq, nq, cq, br, or_, nr, cr, rfl, hR, k4⟩
          have hT4 := hT.fol k4
          clear hT
          have hT := hT4
          clear hT4
          refine hK.out _ _ ⟨hT.c0, hT.c1⟩ (fun hS => ?_)
          clear hK K
          (try simp only [Act.put, List.setIfInBounds_toArray, List.set_cons_zero, List.set_cons_succ])
          have hF := Fol.trans hF k4
          have hle := Nat.le_trans hle k4.size
          have hA := hA.fol k4
          have hB := hB.fol k4
          clear k4
          (refine wpAnyH_take (i := 4) (oi := ?oi39) (v := ?v39) ?hi39 (by kernel_rfl) (by kernel_rfl) (by kernel_rfl) (fun _ _ _ h => h) ?hg39 (by assumption) ?rest39; (case hi39 => (simp only [List.getElem?_toArray, List.getElem?_cons_succ, List.getElem?_cons_zero]; rfl)); (case hg39 => (refine Or.inl ⟨by rfl, ?_⟩; intro w hSw; (try dsimp only at hSw); go_simp; (try with_reducible rfl))); (try simp only [Act.put, List.setIfInBounds_toArray, List.set_cons_zero, List.set_cons_succ]))
          (refine wpAnyH_take (i := 5) (oi := ?oi40) (v := ?v40) ?hi40 (by kernel_rfl) (by kernel_rfl) (by kernel_rfl) (fun _ _ _ h => h) ?hg40 (by assumption) ?rest40; (case hi40 => (simp only [List.getElem?_toArray, List.getElem?_cons_succ, List.getElem?_cons_zero]; rfl)); (case hg40 => (refine Or.inl ⟨by rfl, ?_⟩; intro w hSw; (try dsimp only at hSw); go_simp; (try with_reducible rfl))); (try simp only [Act.put, List.setIfInBounds_toArray, List.set_cons_zero, List.set_cons_succ]))
          (refine wpAnyH_take (i := 6) (oi := ?oi41) (v := ?v41) ?hi41 (by kernel_rfl) (by kernel_rfl) (by kernel_rfl) (fun _ _ _ h => h) ?hg41 (by assumption) ?rest41; (case hi41 => (simp only [List.getElem?_toArray, List.getElem?_cons_succ, List.getElem?_cons_zero]; rfl)); (case hg41 => (refine Or.inl ⟨by rfl, ?_⟩; intro w hSw; (try dsimp only at hSw); go_simp; (try with_reducible rfl))); (try simp only [Act.put, List.setIfInBounds_toArray, List.set_cons_zero, List.set_cons_succ]))
          (refine wpAnyH_take (i := 7) (oi := ?oi42) (v := ?v42) ?hi42 (by kernel_rfl) (by kernel_rfl) (by kernel_rfl) (fun _ _ _ h => h) ?hg42 (by assumption) ?rest42; (case hi42 => (simp only [List.getElem?_toArray, List.getElem?_cons_succ, List.getElem?_cons_zero]; rfl)); (case hg42 => (refine Or.inl ⟨by rfl, ?_⟩; intro w hSw; (try dsimp only at hSw); go_simp; (try with_reducible rfl))); (try simp only [Act.put, List.setIfInBounds_toArray, List.set_cons_zero, List.set_cons_succ]))
          have hnB : B ≠ A := by first | exact hne | exact Ne.symm hne
          have hnA : A ≠ B := Ne.symm hnB
          clear hne
          refine wpAnyH_ready (rs := [10]) (by kernel_rfl) (by simp) ?_
          refine AllReadyH.cons (o := ?go43) ?gh43 (fun K hK => ?gs43) AllReadyH.nil
          case gh43 => (simp only [List.getElem?_toArray, List.getElem?_cons_succ, List.getElem?_cons_zero]; rfl)
          have q0 := hA.c0
          have q1 := hA.c1
          have q2 := hA.f0
          have q3 := hA.f1
          go_simp
          have P := hA.put (w := W) hleA hF (.bool bq) (.slice oq nq cq)
          have hO := (hB.far (i := 0) (b' := A) hnB (.bool bq)).far (i := 1) (b' := A) hnB (.slice oq nq cq)
          have hT2 := (hT.far (i := 0) (b' := A) (Nat.ne_of_lt (Nat.lt_of_lt_of_le HTW.out hleA)) (.bool bq)).far (i := 1) (b' := A) (Nat.ne_of_lt (Nat.lt_of_lt_of_le HTW.out hleA)) (.slice oq nq cq)
          clear hT q0 q1 q2 q3
          have hT := hT2
          clear hT2
          refine hK.out _ _ ⟨hT.c0, hT.c1⟩ (fun hS => ?_)
          clear hK K
          (try simp only [Act.put, List.setIfInBounds_toArray, List.set_cons_zero, List.set_cons_succ])
          have hA := P.1
          have hF := P.2.1
          have hR := hR.keep P.2.2
          have hB := hO
          clear P hO
          generalize (u4.setCell ⟨A, 0, none⟩ (.bool bq)).setCell ⟨A, 1, none⟩ (.slice oq nq cq) = u5 at *
          refine wpAnyH_ready (rs := [11]) (by kernel_rfl) (by simp) ?_
          refine AllReadyH.cons (o := ?go44) ?gh44 (fun K hK => ?gs44) AllReadyH.nil
          case gh44 => (simp only [List.getElem?_toArray, List.getElem?_cons_succ, List.getElem?_cons_zero]; rfl)
          have q0 := hB.c0
          have q1 := hB.c1
          have q2 := hB.f0
          have q3 := hB.f1
          go_simp
          have P := hB.put (w := W) hleB hF (.bool br) (.slice or_ nr cr)
          have hO := (hA.far (i := 0) (b' := B) hnA (.bool br)).far (i := 1) (b' := B) hnA (.slice or_ nr cr)
          have hT2 := (hT.far (i := 0) (b' := B) (Nat.ne_of_lt (Nat.lt_of_lt_of_le HTW.out hleB)) (.bool br)).far (i := 1) (b' := B) (Nat.ne_of_lt (Nat.lt_of_lt_of_le HTW.out hleB)) (.slice or_ nr cr)
          clear hT q0 q1 q2 q3
          have hT := hT2
          clear hT2
          refine hK.out _ _ ⟨hT.c0, hT.c1⟩ (fun hS => ?_)
          clear hK K
          (try simp only [Act.put, List.setIfInBounds_toArray, List.set_cons_zero, List.set_cons_succ])
          have hB := P.1
          have hF := P.2.1
          have hR := hR.keep P.2.2
          have hA := hO
          clear P hO
          generalize (u5.setCell ⟨B, 0, none⟩ (.bool br)).setCell ⟨B, 1, none⟩ (.slice or_ nr cr) = u6 at *
          (refine wpAnyH_take (i := 12) (oi := ?oi43) (v := ?v43) ?hi43 (by kernel_rfl) (by kernel_rfl) (by kernel_rfl) (fun _ _ _ h => h) ?hg43 (by assumption) ?rest43; (case hi43 => (simp only [List.getElem?_toArray, List.getElem?_cons_succ, List.getElem?_cons_zero]; rfl)); (case hg43 => (refine Or.inl ⟨by rfl, ?_⟩; intro w hSw; (try dsimp only at hSw); go_simp; (try with_reducible rfl))); (try simp only [Act.put, List.setIfInBounds_toArray, List.set_cons_zero, List.set_cons_succ]))
          refine wpAnyH_done (by kernel_rfl) ?_ _
          refine NoPanic.normal ?_
          have q1 := hB.c1
          have HR := Lib.hid hR
          have HF2 := Lib.hid hF
          clear hR hF hT hA hB hS
          go_wp2
          go_ret2
          exact ⟨_, s, rfl, HI.out, HY.out, IntV.mag HR.out, Fol.trans HF.out HF2.out⟩
  case gs3 =>
    go_simp
    have hT1 := hT.fol (Fol.new u0 (.cells #[.bool false, .slice none 0 0] 27))
    clear hT
    have hT := hT1
    clear hT1
    refine hK.out _ _ ⟨hT.c0, hT.c1⟩ (fun hS => ?_)
    clear hK K
    (try simp only [Act.put, List.setIfInBounds_toArray, List.set_cons_zero, List.set_cons_succ])
    have hF := Fol.trans hF (Fol.new u0 (.cells #[.bool false, .slice none 0 0] 27))
    have hN := Cell2.new u0 (.bool false) (.slice none 0 0)
    have hleB : W.heap.size ≤ u0.heap.size := hle
    have hle2 : W.heap.size ≤ (u0.alloc (.cells #[.bool false, .slice none 0 0] 27)).heap.size := by rw [World.size_alloc]; omega
    generalize u0.heap.size = B at *
    generalize u0.alloc (.cells #[.bool false, .slice none 0 0] 27) = u1 at *
    clear hle
    have hle := hle2
    clear hle2
    have hB := hN
    clear hN
    refine wpAnyH_ready (rs := [2, 8]) (by kernel_rfl) (by simp) ?_
    refine AllReadyH.cons (o := ?go45) ?gh45 (fun K hK => ?gs45) (AllReadyH.cons (o := ?go46) ?gh46 (fun K hK => ?gs46) AllReadyH.nil)
    case gh45 => (simp only [List.getElem?_toArray, List.getElem?_cons_succ, List.getElem?_cons_zero]; rfl)
    case gh46 => (simp only [List.getElem?_toArray, List.getElem?_cons_succ, List.getElem?_cons_zero]; rfl)
    case gs45 =>
      go_simp
      refine (HW.out _ (hm.fol hF)).mono ?_
      rintro e u2 ⟨v2, rfl, hW2, k2⟩
      have hT2 := hT.fol k2
      clear hT
      have hT := hT2
      clear hT2
      refine hK.out _ _ ⟨hT.c0, hT.c1⟩ (fun hS => ?_)
      clear hK K
      (try simp only [Act.put, List.setIfInBounds_toArray, List.set_cons_zero, List.set_cons_succ])
      have hF := Fol.trans hF k2
      have hle := Nat.le_trans hle k2.size
      have hB := hB.fol k2
      clear k2
      refine wpAnyH_ready (rs := [3, 8]) (by kernel_rfl) (by simp) ?_
      refine AllReadyH.cons (o := ?go47) ?gh47 (fun K hK => ?gs47) (AllReadyH.cons (o := ?go48) ?gh48 (fun K hK => ?gs48) AllReadyH.nil)
      case gh47 => (simp only [List.getElem?_toArray, List.getElem?_cons_succ, List.getElem?_cons_zero]; rfl)
      case gh48 => (simp only [List.getElem?_toArray, List.getElem?_cons_succ, List.getElem?_cons_zero]; rfl)
      case gs47 =>
        go_simp
        refine (HID.out _ _ _ (hu.fol hF) hW2).mono ?_
        rintro e u3 ⟨bq, oq, nq, cq, br, or_, nr, cr, rfl, hR, k3⟩
        have hT3 := hT.fol k3
        clear hT
        have hT := hT3
        clear hT3
        refine hK.out _ _ ⟨hT.c0, hT.c1⟩ (fun hS => ?_)
        clear hK K
        (try simp only [Act.put, List.setIfInBounds_toArray, List.set_cons_zero, List.set_cons_succ])
        have hF := Fol.trans hF k3
        have hle := Nat.le_trans hle k3.size
        have hB := hB.fol k3
        clear k3
        (refine wpAnyH_take (i := 4) (oi := ?oi44) (v := ?v44) ?hi44 (by kernel_rfl) (by kernel_rfl) (by kernel_rfl) (fun _ _ _ h => h) ?hg44 (by assumption) ?rest44; (case hi44 => (simp only [List.getElem?_toArray, List.getElem?_cons_succ, List.getElem?_cons_zero]; rfl)); (case hg44 => (refine Or.inl ⟨by rfl, ?_⟩; intro w hSw; (try dsimp only at hSw); go_simp; (try with_reducible rfl))); (try simp only [Act.put, List.setIfInBounds_toArray, List.set_cons_zero, List.set_cons_succ]))
        (refine wpAnyH_take (i := 5) (oi := ?oi45) (v := ?v45) ?hi45 (by kernel_rfl) (by kernel_rfl) (by kernel_rfl) (fun _ _ _ h => h) ?hg45 (by assumption) ?rest45; (case hi45 => (simp only [List.getElem?_toArray, List.getElem?_cons_succ, List.getElem?_cons_zero]; rfl)); (case hg45 => (refine Or.inl ⟨by rfl, ?_⟩; intro w hSw; (try dsimp only at hSw); go_simp; (try with_reducible rfl))); (try simp only [Act.put, List.setIfInBounds_toArray, List.set_cons_zero, List.set_cons_succ]))
        (refine wpAnyH_take (i := 6) (oi := ?oi46) (v := ?v46) ?hi46 (by kernel_rfl) (by kernel_rfl) (by kernel_rfl) (fun _ _ _ h => h) ?hg46 (by assumption) ?rest46; (case hi46 => (simp only [List.getElem?_toArray, List.getElem?_cons_succ, List.getElem?_cons_zero]; rfl)); (case hg46 => (refine Or.inl ⟨by rfl, ?_⟩; intro w hSw; (try dsimp only at hSw); go_simp; (try with_reducible rfl))); (try simp only [Act.put, List.setIfInBounds_toArray, List.set_cons_zero, List.set_cons_succ]))
        (refine wpAnyH_take (i := 7) (oi := ?oi47) (v := ?v47) ?hi47 (by kernel_rfl) (by kernel_rfl) (by kernel_rfl) (fun _ _ _ h => h) ?hg47 (by assumption) ?rest47; (case hi47 => (simp only [List.getElem?_toArray, List.getElem?_cons_succ, List.getElem?_cons_zero]; rfl)); (case hg47 => (refine Or.inl ⟨by rfl, ?_⟩; intro w hSw; (try dsimp only at hSw); go_simp; (try with_reducible rfl))); (try simp only [Act.put, List.setIfInBounds_toArray, List.set_cons_zero, List.set_cons_succ]))
        refine wpAnyH_ready (rs := [8]) (by kernel_rfl) (by simp) ?_
        refine AllReadyH.cons (o := ?go49) ?gh49 (fun K hK => ?gs49) AllReadyH.nil
        case gh49 => (simp only [List.getElem?_toArray, List.getElem?_cons_succ, List.getElem?_cons_zero]; rfl)
        case gs49 =>
          go_simp
          have hT4 := hT.fol (Fol.new u3 (.cells #[.bool false, .slice none 0 0] 27))
          clear hT
          have hT := hT4
          clear hT4
          refine hK.out _ _ ⟨hT.c0, hT.c1⟩ (fun hS => ?_)
          clear hK K
          (try simp only [Act.put, List.setIfInBounds_toArray, List.set_cons_zero, List.set_cons_succ])
          have hF := Fol.trans hF (Fol.new u3 (.cells #[.bool false, .slice none 0 0] 27))
          have hN := Cell2.new u3 (.bool false) (.slice none 0 0)
          have hne : B ≠ u3.heap.size := Nat.ne_of_lt hB.lt
          have hB := hB.fol (Fol.new u3 (.cells #[.bool false, .slice none 0 0] 27))
          have hR := hR.fol (Fol.new u3 (.cells #[.bool false, .slice none 0 0] 27))
          have hleA : W.heap.size ≤ u3.heap.size := hle
          have hle2 : W.heap.size ≤ (u3.alloc (.cells #[.bool false, .slice none 0 0] 27)).heap.size := by rw [World.size_alloc]; omega
          generalize u3.heap.size = A at *
          generalize u3.alloc (.cells #[.bool false, .slice none 0 0] 27) = u4 at *
          clear hle
          have hle := hle2
          clear hle2
          have hA := hN
          clear hN
          have hnB : B ≠ A := by first | exact hne | exact Ne.symm hne
          have hnA : A ≠ B := Ne.symm hnB
          clear hne
          refine wpAnyH_ready (rs := [10]) (by kernel_rfl) (by simp) ?_
          refine AllReadyH.cons (o := ?go50) ?gh50 (fun K hK => ?gs50) AllReadyH.nil
          case gh50 => (simp only [List.getElem?_toArray, List.getElem?_cons_succ, List.getElem?_cons_zero]; rfl)
          have q0 := hA.c0
          have q1 := hA.c1
          have q2 := hA.f0
          have q3 := hA.f1
          go_simp
          have P := hA.put (w := W) hleA hF (.bool bq) (.slice oq nq cq)
          have hO := (hB.far (i := 0) (b' := A) hnB (.bool bq)).far (i := 1) (b' := A) hnB (.slice oq nq cq)
          have hT2 := (hT.far (i := 0) (b' := A) (Nat.ne_of_lt (Nat.lt_of_lt_of_le HTW.out hleA)) (.bool bq)).far (i := 1) (b' := A) (Nat.ne_of_lt (Nat.lt_of_lt_of_le HTW.out hleA)) (.slice oq nq cq)
          clear hT q0 q1 q2 q3
          have hT := hT2
          clear hT2
          refine hK.out _ _ ⟨hT.c0, hT.c1⟩ (fun hS => ?_)
          clear hK K
          (try simp only [Act.put, List.setIfInBounds_toArray, List.set_cons_zero, List.set_cons_succ])
          have hA := P.1
          have hF := P.2.1
          have hR := hR.keep P.2.2
          have hB := hO
          clear P hO
          generalize (u4.setCell ⟨A, 0, none⟩ (.bool bq)).setCell ⟨A, 1, none⟩ (.slice oq nq cq) = u5 at *
          refine wpAnyH_ready (rs := [11]) (by kernel_rfl) (by simp) ?_
          refine AllReadyH.cons (o := ?go51) ?gh51 (fun K hK => ?gs51) AllReadyH.nil
          case gh51 => (simp only [List.getElem?_toArray, List.getElem?_cons_succ, List.getElem?_cons_zero]; rfl)
          have q0 := hB.c0
          have q1 := hB.c1
          have q2 := hB.f0
          have q3 := hB.f1
          go_simp
          have P := hB.put (w := W) hleB hF (.bool br) (.slice or_ nr cr)
          have hO := (hA.far (i := 0) (b' := B) hnA (.bool br)).far (i := 1) (b' := B) hnA (.slice or_ nr cr)
          have hT2 := (hT.far (i := 0) (b' := B) (Nat.ne_of_lt (Nat.lt_of_lt_of_le HTW.out hleB)) (.bool br)).far (i := 1) (b' := B) (Nat.ne_of_lt (Nat.lt_of_lt_of_le HTW.out hleB)) (.slice or_ nr cr)
          clear hT q0 q1 q2 q3
          have hT := hT2
          clear hT2
          refine hK.out _ _ ⟨hT.c0, hT.c1⟩ (fun hS => ?_)
          clear hK K
          (try simp only [Act.put, List.setIfInBounds_toArray, List.set_cons_zero, List.set_cons_succ])
          have hB := P.1
          have hF := P.2.1
          have hR := hR.keep P.2.2
          have hA := hO
          clear P hO
          generalize (u5.setCell ⟨B, 0, none⟩ (.bool br)).setCell ⟨B, 1, none⟩ (.slice or_ nr cr) = u6 at *
          (refine wpAnyH_take (i := 12) (oi := ?oi48) (v := ?v48) ?hi48 (by kernel_rfl) (by kernel_rfl) (by kernel_rfl) (fun _ _ _ h => h) ?hg48 (by assumption) ?rest48; (case hi48 => (simp only [List.getElem?_toArray, List.getElem?_cons_succ, List.getElem?_cons_zero]; rfl)); (case hg48 => (refine Or.inl ⟨by rfl, ?_⟩; intro w hSw; (try dsimp only at hSw); go_simp; (try with_reducible rfl))); (try simp only [Act.put, List.setIfInBounds_toArray, List.set_cons_zero, List.set_cons_succ]))
          refine wpAnyH_done (by kernel_rfl) ?_ _
          refine NoPanic.normal ?_
          have q1 := hB.c1
          have HR := Lib.hid hR
          have HF2 := Lib.hid hF
          clear hR hF hT hA hB hS
          go_wp2
          go_ret2
          exact ⟨_, s, rfl, HI.out, HY.out, IntV.mag HR.out, Fol.trans HF.out HF2.out⟩
      case gs48 =>
        go_simp
        have hT3 := hT.fol (Fol.new u2 (.cells #[.bool false, .slice none 0 0] 27))
        clear hT
        have hT := hT3
        clear hT3
        refine hK.out _ _ ⟨hT.c0, hT.c1⟩ (fun hS => ?_)
        clear hK K
        (try simp only [Act.put, List.setIfInBounds_toArray, List.set_cons_zero, List.set_cons_succ])
        have hF := Fol.trans hF (Fol.new u2 (.cells #[.bool false, .slice none 0 0] 27))
        have hN := Cell2.new u2 (.bool false) (.slice none 0 0)
        have hne : B ≠ u2.heap.size := Nat.ne_of_lt hB.lt
        have hB := hB.fol (Fol.new u2 (.cells #[.bool false, .slice none 0 0] 27))
        have hW2 := hW2.fol (Fol.new u2 (.cells #[.bool false, .slice none 0 0] 27))
        have hleA : W.heap.size ≤ u2.heap.size := hle
        have hle2 : W.heap.size ≤ (u2.alloc (.cells #[.bool false, .slice none 0 0] 27)).heap.size := by rw [World.size_alloc]; omega
        generalize u2.heap.size = A at *
        generalize u2.alloc (.cells #[.bool false, .slice none 0 0] 27) = u3 at *
        clear hle
        have hle := hle2
        clear hle2
        have hA := hN
        clear hN
        refine wpAnyH_ready (rs := [3]) (by kernel_rfl) (by simp) ?_
        refine AllReadyH.cons (o := ?go52) ?gh52 (fun K hK => ?gs52) AllReadyH.nil
        case gh52 => (simp only [List.getElem?_toArray, List.getElem?_cons_succ, List.getElem?_cons_zero]; rfl)
        case gs52 =>
          go_simp
          refine (HID.out _ _ _ (hu.fol hF) hW2).mono ?_
          rintro e u4 ⟨bq, oq, nq, cq, br, or_, nr, cr, rfl, hR, k4⟩
          have hT4 := hT.fol k4
          clear hT
          have hT := hT4
          clear hT4
          refine hK.out _ _ ⟨hT.c0, hT.c1⟩ (fun hS => ?_)
          clear hK K
          (try simp only [Act.put, List.setIfInBounds_toArray, List.set_cons_zero, List.set_cons_succ])
          have hF := Fol.trans hF k4
          have hle := Nat.le_trans hle k4.size
          have hA := hA.fol k4
          have hB := hB.fol k4
          clear k4
          (refine wpAnyH_take (i := 4) (oi := ?oi49) (v := ?v49) ?hi49 (by kernel_rfl) (by kernel_rfl) (by kernel_rfl) (fun _ _ _ h => h) ?hg49 (by assumption) ?rest49; (case hi49 => (simp only [List.getElem?_toArray, List.getElem?_cons_succ, List.getElem?_cons_zero]; rfl)); (case hg49 => (refine Or.inl ⟨by rfl, ?_⟩; intro w hSw; (try dsimp only at hSw); go_simp; (try with_reducible rfl))); (try simp only [Act.put, List.setIfInBounds_toArray, List.set_cons_zero, List.set_cons_succ]))
          (refine wpAnyH_take (i := 5) (oi := ?oi50) (v := ?v50) ?hi50 (by kernel_rfl) (by kernel_rfl) (by kernel_rfl) (fun _ _ _ h => h) ?hg50 (by assumption) ?rest50; (case hi50 => (simp only [List.getElem?_toArray, List.getElem?_cons_succ, List.getElem?_cons_zero]; rfl)); (case hg50 => (refine Or.inl ⟨by rfl, ?_⟩; intro w hSw; (try dsimp only at hSw); go_simp; (try with_reducible rfl))); (try simp only [Act.put, List.setIfInBounds_toArray, List.set_cons_zero, List.set_cons_succ]))
          (refine wpAnyH_take (i := 6) (oi := ?oi51) (v := ?v51) ?hi51 (by kernel_rfl) (by kernel_rfl) (by kernel_rfl) (fun _ _ _ h => h) ?hg51 (by assumption) ?rest51; (case hi51 => (simp only [List.getElem?_toArray, List.getElem?_cons_succ, List.getElem?_cons_zero]; rfl)); (case hg51 => (refine Or.inl ⟨by rfl, ?_⟩; intro w hSw; (try dsimp only at hSw); go_simp; (try with_reducible rfl))); (try simp only [Act.put, List.setIfInBounds_toArray, List.set_cons_zero, List.set_cons_succ]))
          (refine wpAnyH_take (i := 7) (oi := ?oi52) (v := ?v52) ?hi52 (by kernel_rfl) (by kernel_rfl) (by kernel_rfl) (fun _ _ _ h => h) ?hg52 (by assumption) ?rest52; (case hi52 => (simp only [List.getElem?_toArray, List.getElem?_cons_succ, List.getElem?_cons_zero]; rfl)); (case hg52 => (refine Or.inl ⟨by rfl, ?_⟩; intro w hSw; (try dsimp only at hSw); go_simp; (try with_reducible rfl))); (try simp only [Act.put, List.setIfInBounds_toArray, List.set_cons_zero, List.set_cons_succ]))
          have hnB : B ≠ A := by first | exact hne | exact Ne.symm hne
          have hnA : A ≠ B := Ne.symm hnB
          clear hne
          refine wpAnyH_ready (rs := [10]) (by kernel_rfl) (by simp) ?_
          refine AllReadyH.cons (o := ?go53) ?gh53 (fun K hK => ?gs53) AllReadyH.nil
          case gh53 => (simp only [List.getElem?_toArray, List.getElem?_cons_succ, List.getElem?_cons_zero]; rfl)
          have q0 := hA.c0
          have q1 := hA.c1
          have q2 := hA.f0
          have q3 := hA.f1
          go_simp
          have P := hA.put (w := W) hleA hF (.bool bq) (.slice oq nq cq)
          have hO := (hB.far (i := 0) (b' := A) hnB (.bool bq)).far (i := 1) (b' := A) hnB (.slice oq nq cq)
          have hT2 := (hT.far (i := 0) (b' := A) (Nat.ne_of_lt (Nat.lt_of_lt_of_le HTW.out hleA)) (.bool bq)).far (i := 1) (b' := A) (Nat.ne_of_lt (Nat.lt_of_lt_of_le HTW.out hleA)) (.slice oq nq cq)
          clear hT q0 q1 q2 q3
          have hT := hT2
          clear hT2
          refine hK.out _ _ ⟨hT.c0, hT.c1⟩ (fun hS => ?_)
          clear hK K
          (try simp only [Act.put, List.setIfInBounds_toArray, List.set_cons_zero, List.set_cons_succ])
          have hA := P.1
          have hF := P.2.1
          have hR := hR.keep P.2.2
          have hB := hO
          clear P hO
          generalize (u4.setCell ⟨A, 0, none⟩ (.bool bq)).setCell ⟨A, 1, none⟩ (.slice oq nq cq) = u5 at *
          refine wpAnyH_ready (rs := [11]) (by kernel_rfl) (by simp) ?_
          refine AllReadyH.cons (o := ?go54) ?gh54 (fun K hK => ?gs54) AllReadyH.nil
          case gh54 => (simp only [List.getElem?_toArray, List.getElem?_cons_succ, List.getElem?_cons_zero]; rfl)
          have q0 := hB.c0
          have q1 := hB.c1
          have q2 := hB.f0
          have q3 := hB.f1
          go_simp
          have P := hB.put (w := W) hleB hF (.bool br) (.slice or_ nr cr)
          have hO := (hA.far (i := 0) (b' := B) hnA (.bool br)).far (i := 1) (b' := B) hnA (.slice or_ nr cr)
          have hT2 := (hT.far (i := 0) (b' := B) (Nat.ne_of_lt (Nat.lt_of_lt_of_le HTW.out hleB)) (.bool br)).far (i := 1) (b' := B) (Nat.ne_of_lt (Nat.lt_of_lt_of_le HTW.out hleB)) (.slice or_ nr cr)
          clear hT q0 q1 q2 q3
          have hT := hT2
          clear hT2
          refine hK.out _ _ ⟨hT.c0, hT.c1⟩ (fun hS => ?_)
          clear hK K
          (try simp only [Act.put, List.setIfInBounds_toArray, List.set_cons_zero, List.set_cons_succ])
          have hB := P.1
          have hF := P.2.1
          have hR := hR.keep P.2.2
          have hA := hO
          clear P hO
          generalize (u5.setCell ⟨B, 0, none⟩ (.bool br)).setCell ⟨B, 1, none⟩ (.slice or_ nr cr) = u6 at *
          (refine wpAnyH_take (i := 12) (oi := ?oi53) (v := ?v53) ?hi53 (by kernel_rfl) (by kernel_rfl) (by kernel_rfl) (fun _ _ _ h => h) ?hg53 (by assumption) ?rest53; (case hi53 => (simp only [List.getElem?_toArray, List.getElem?_cons_succ, List.getElem?_cons_zero]; rfl)); (case hg53 => (refine Or.inl ⟨by rfl, ?_⟩; intro w hSw; (try dsimp only at hSw); go_simp; (try with_reducible rfl))); (try simp only [Act.put, List.setIfInBounds_toArray, List.set_cons_zero, List.set_cons_succ]))
          refine wpAnyH_done (by kernel_rfl) ?_ _
          refine NoPanic.normal ?_
          have q1 := hB.c1
          have HR := Lib.hid hR
          have HF2 := Lib.hid hF
          clear hR hF hT hA hB hS
          go_wp2
          go_ret2
          exact ⟨_, s, rfl, HI.out, HY.out, IntV.mag HR.out, Fol.trans HF.out HF2.out⟩
    case gs46 =>
      go_simp
      have hT2 := hT.fol (Fol.new u1 (.cells #[.bool false, .slice none 0 0] 27))
      clear hT
      have hT := hT2
      clear hT2
      refine hK.out _ _ ⟨hT.c0, hT.c1⟩ (fun hS => ?_)
      clear hK K
      (try simp only [Act.put, List.setIfInBounds_toArray, List.set_cons_zero, List.set_cons_succ])
      have hF := Fol.trans hF (Fol.new u1 (.cells #[.bool false, .slice none 0 0] 27))
      have hN := Cell2.new u1 (.bool false) (.slice none 0 0)
      have hne : B ≠ u1.heap.size := Nat.ne_of_lt hB.lt
      have hB := hB.fol (Fol.new u1 (.cells #[.bool false, .slice none 0 0] 27))
      have hleA : W.heap.size ≤ u1.heap.size := hle
      have hle2 : W.heap.size ≤ (u1.alloc (.cells #[.bool false, .slice none 0 0] 27)).heap.size := by rw [World.size_alloc]; omega
      generalize u1.heap.size = A at *
      generalize u1.alloc (.cells #[.bool false, .slice none 0 0] 27) = u2 at *
      clear hle
      have hle := hle2
      clear hle2
      have hA := hN
      clear hN
      refine wpAnyH_ready (rs := [2]) (by kernel_rfl) (by simp) ?_
      refine AllReadyH.cons (o := ?go55) ?gh55 (fun K hK => ?gs55) AllReadyH.nil
      case gh55 => (simp only [List.getElem?_toArray, List.getElem?_cons_succ, List.getElem?_cons_zero]; rfl)
      case gs55 =>
        go_simp
        refine (HW.out _ (hm.fol hF)).mono ?_
        rintro e u3 ⟨v2, rfl, hW2, k3⟩
        have hT3 := hT.fol k3
        clear hT
        have hT := hT3
        clear hT3
        refine hK.out _ _ ⟨hT.c0, hT.c1⟩ (fun hS => ?_)
        clear hK K
        (try simp only [Act.put, List.setIfInBounds_toArray, List.set_cons_zero, List.set_cons_succ])
        have hF := Fol.trans hF k3
        have hle := Nat.le_trans hle k3.size
        have hA := hA.fol k3
        have hB := hB.fol k3
        clear k3
        refine wpAnyH_ready (rs := [3]) (by kernel_rfl) (by simp) ?_
        refine AllReadyH.cons (o := ?go56) ?gh56 (fun K hK => ?gs56) AllReadyH.nil
        case gh56 => (simp only [List.getElem?_toArray, List.getElem?_cons_succ, List.getElem?_cons_zero]; rfl)
        case gs56 =>
          go_simp
          refine (HID.out _ _ _ (hu.fol hF) hW2).mono ?_
          rintro e u4 ⟨bq, oq, nq, cq, br, or_, nr, cr, rfl, hR, k4⟩
          have hT4 := hT.fol k4
          clear hT
          have hT := hT4
          clear hT4
          refine hK.out _ _ ⟨hT.c0, hT.c1⟩ (fun hS => ?_)
          clear hK K
          (try simp only [Act.put, List.setIfInBounds_toArray, List.set_cons_zero, List.set_cons_succ])
          have hF := Fol.trans hF k4
          have hle := Nat.le_trans hle k4.size
          have hA := hA.fol k4
          have hB := hB.fol k4
          clear k4
          (refine wpAnyH_take (i := 4) (oi := ?oi54) (v := ?v54) ?hi54 (by kernel_rfl) (by kernel_rfl) (by kernel_rfl) (fun _ _ _ h => h) ?hg54 (by assumption) ?rest54; (case hi54 => (simp only [List.getElem?_toArray, List.getElem?_cons_succ, List.getElem?_cons_zero]; rfl)); (case hg54 => (refine Or.inl ⟨by rfl, ?_⟩; intro w hSw; (try dsimp only at hSw); go_simp; (try with_reducible rfl))); (try simp only [Act.put, List.setIfInBounds_toArray, List.set_cons_zero, List.set_cons_succ]))
          (refine wpAnyH_take (i := 5) (oi := ?oi55) (v := ?v55) ?hi55 (by kernel_rfl) (by kernel_rfl) (by kernel_rfl) (fun _ _ _ h => h) ?hg55 (by assumption) ?rest55; (case hi55 => (simp only [List.getElem?_toArray, List.getElem?_cons_succ, List.getElem?_cons_zero]; rfl)); (case hg55 => (refine Or.inl ⟨by rfl, ?_⟩; intro w hSw; (try dsimp only at hSw); go_simp; (try with_reducible rfl))); (try simp only [Act.put, List.setIfInBounds_toArray, List.set_cons_zero, List.set_cons_succ]))
          (refine wpAnyH_take (i := 6) (oi := ?oi56) (v := ?v56) ?hi56 (by kernel_rfl) (by kernel_rfl) (by kernel_rfl) (fun _ _ _ h => h) ?hg56 (by assumption) ?rest56; (case hi56 => (simp only [List.getElem?_toArray, List.getElem?_cons_succ, List.getElem?_cons_zero]; rfl)); (case hg56 => (refine Or.inl ⟨by rfl, ?_⟩; intro w hSw; (try dsimp only at hSw); go_simp; (try with_reducible rfl))); (try simp only [Act.put, List.setIfInBounds_toArray, List.set_cons_zero, List.set_cons_succ]))
          (refine wpAnyH_take (i := 7) (oi := ?oi57) (v := ?v57) ?hi57 (by kernel_rfl) (by kernel_rfl) (by kernel_rfl) (fun _ _ _ h => h) ?hg57 (by assumption) ?rest57; (case hi57 => (simp only [List.getElem?_toArray, List.getElem?_cons_succ, List.getElem?_cons_zero]; rfl)); (case hg57 => (refine Or.inl ⟨by rfl, ?_⟩; intro w hSw; (try dsimp only at hSw); go_simp; (try with_reducible rfl))); (try simp only [Act.put, List.setIfInBounds_toArray, List.set_cons_zero, List.set_cons_succ]))
          have hnB : B ≠ A := by first | exact hne | exact Ne.symm hne
          have hnA : A ≠ B := Ne.symm hnB
          clear hne
          refine wpAnyH_ready (rs := [10]) (by kernel_rfl) (by simp) ?_
          refine AllReadyH.cons (o := ?go57) ?gh57 (fun K hK => ?gs57) AllReadyH.nil
          case gh57 => (simp only [List.getElem?_toArray, List.getElem?_cons_succ, List.getElem?_cons_zero]; rfl)
          have q0 := hA.c0
          have q1 := hA.c1
          have q2 := hA.f0
          have q3 := hA.f1
          go_simp
          have P := hA.put (w := W) hleA hF (.bool bq) (.slice oq nq cq)
          have hO := (hB.far (i := 0) (b' := A) hnB (.bool bq)).far (i := 1) (b' := A) hnB (.slice oq nq cq)
          have hT2 := (hT.far (i := 0) (b' := A) (Nat.ne_of_lt (Nat.lt_of_lt_of_le HTW.out hleA)) (.bool bq)).far (i := 1) (b' := A) (Nat.ne_of_lt (Nat.lt_of_lt_of_le HTW.out hleA)) (.slice oq nq cq)
          clear hT q0 q1 q2 q3
          have hT := hT2
          clear hT2
          refine hK.out _ _ ⟨hT.c0, hT.c1⟩ (fun hS => ?_)
          clear hK K
          (try simp only [Act.put, List.setIfInBounds_toArray, List.set_cons_zero, List.set_cons_succ])
          have hA := P.1
          have hF := P.2.1
          have hR := hR.keep P.2.2
          have hB := hO
          clear P hO
          generalize (u4.setCell ⟨A, 0, none⟩ (.bool bq)).setCell ⟨A, 1, none⟩ (.slice oq nq cq) = u5 at *
          refine wpAnyH_ready (rs := [11]) (by kernel_rfl) (by simp) ?_
          refine AllReadyH.cons (o := ?go58) ?gh58 (fun K hK => ?gs58) AllReadyH.nil
          case gh58 => (simp only [List.getElem?_toArray, List.getElem?_cons_succ, List.getElem?_cons_zero]; rfl)
          have q0 := hB.c0
          have q1 := hB.c1
          have q2 := hB.f0
          have q3 := hB.f1
          go_simp
          have P := hB.put (w := W) hleB hF (.bool br) (.slice or_ nr cr)
          have hO := (hA.far (i := 0) (b' := B) hnA (.bool br)).far (i := 1) (b' := B) hnA (.slice or_ nr cr)
          have hT2 := (hT.far (i := 0) (b' := B) (Nat.ne_of_lt (Nat.lt_of_lt_of_le HTW.out hleB)) (.bool br)).far (i := 1) (b' := B) (Nat.ne_of_lt (Nat.lt_of_lt_of_le HTW.out hleB)) (.slice or_ nr cr)
          clear hT q0 q1 q2 q3
          have hT := hT2
          clear hT2
          refine hK.out _ _ ⟨hT.c0, hT.c1⟩ (fun hS => ?_)
          clear hK K
          (try simp only [Act.put, List.setIfInBounds_toArray, List.set_cons_zero, List.set_cons_succ])
          have hB := P.1
          have hF := P.2.1
          have hR := hR.keep P.2.2
          have hA := hO
          clear P hO
          generalize (u5.setCell ⟨B, 0, none⟩ (.bool br)).setCell ⟨B, 1, none⟩ (.slice or_ nr cr) = u6 at *
          (refine wpAnyH_take (i := 12) (oi := ?oi58) (v := ?v58) ?hi58 (by kernel_rfl) (by kernel_rfl) (by kernel_rfl) (fun _ _ _ h => h) ?hg58 (by assumption) ?rest58; (case hi58 => (simp only [List.getElem?_toArray, List.getElem?_cons_succ, List.getElem?_cons_zero]; rfl)); (case hg58 => (refine Or.inl ⟨by rfl, ?_⟩; intro w hSw; (try dsimp only at hSw); go_simp; (try with_reducible rfl))); (try simp only [Act.put, List.setIfInBounds_toArray, List.set_cons_zero, List.set_cons_succ]))
          refine wpAnyH_done (by kernel_rfl) ?_ _
          refine NoPanic.normal ?_
          have q1 := hB.c1
          have HR := Lib.hid hR
          have HF2 := Lib.hid hF
          clear hR hF hT hA hB hS
          go_wp2
          go_ret2
          exact ⟨_, s, rfl, HI.out, HY.out, IntV.mag HR.out, Fol.trans HF.out HF2.out⟩
end Go.Proofs.YtckahcgolfnobaaGreatDoor
