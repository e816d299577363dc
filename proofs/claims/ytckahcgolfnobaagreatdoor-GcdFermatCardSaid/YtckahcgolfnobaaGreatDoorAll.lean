/- nat.all: the limbs that a step makes of two rows. -/
import Derived.Test.YtckahcgolfnobaaGreatDoorRange
import Derived.LoopIn
import Derived.Stop.RegionWithIn
namespace Go.Proofs.YtckahcgolfnobaaGreatDoor
open Go Go.RowKit
attribute [local go_sem] Oper.semAt_some

/-- What a step does with two limbs and what is carried. -/
structure StepLaw (sf : FuncId) (s t : Nat → Nat → Nat → Nat) : Prop where
  calls : ∀ (x y c : Nat) (w : World), x < 4294967296 → y < 4294967296 → c ≤ 1 → Calls Tryz.prog sf #[.int .u32 x, .int .u32 y, .int .u32 c] w fun e w' => e = .returned (.tuple #[.int .u32 (s x y c : Nat), .int .u32 (t x y c : Nat)]) ∧ w = w'
  enters : ∀ args w, (callFunc sf args).run Tryz.prog w = .ok (.enter sf args) w
  small : ∀ x y c, x < 4294967296 → y < 4294967296 → c ≤ 1 → s x y c < 4294967296 ∧ t x y c ≤ 1

set_option maxHeartbeats 400000 in
set_option maxRecDepth 100000 in
theorem carried1_any (sf : FuncId) (s t : Nat → Nat → Nat → Nat) (hl : StepLaw sf s t) (x y c : Nat) (p q : Nat) (w : World) (hx : x < 4294967296) (hy : y < 4294967296) (hc : c ≤ 1)
    (h1 : w.cell? ⟨p, 0, none⟩ = some (.func (.func sf) #[] #[])) (h2 : w.cell? ⟨q, 0, none⟩ = some (.int .u32 c)) (h3 : w.frozen? ⟨q, 0, none⟩ = false) :
    Calls Tryz.prog 119 #[.int .u32 x, .int .u32 y, .pointer (some ⟨p, 0, none⟩), .pointer (some ⟨q, 0, none⟩)] w fun e w' => e = .returned (.int .u32 (s x y c : Nat)) ∧ w.setCell ⟨q, 0, none⟩ (.int .u32 (t x y c : Nat)) = w' := by
  have HC := Lib.hid (hl.calls x y c w hx hy hc)
  have he := hl.enters
  go_enter Tryz.func119, Tryz.ntmps119
  go_wp2_with fail
  refine HC.out.mono ?_
  rintro e w' ⟨rfl, rfl⟩
  go_wp2
  go_ret
  exact ⟨rfl, rfl⟩

theorem callsIn_wide_of {n : Nat} {P : Program} {f : FuncId} {args : Array Value} {w : World} {R : Ending → World → Prop} (h : Calls P f args w R) : CallsIn Wd n P f args w R := callsIn_wide.2 h

set_option maxHeartbeats 400000 in
set_option maxRecDepth 100000 in
theorem pairs1_any (l m : Nat) (la lb : List Nat) (N pa pb pn : Nat) (va vb : Value) (I : Nat → World → Prop) (hN : N < 1099511627776) (hla : la.length < 1099511627776) (hlb : lb.length < 1099511627776)
    (hbox : ∀ i W, I i W → W.cell? ⟨pn, 0, none⟩ = some (.int .i64 N) ∧ W.cell? ⟨pa, 0, none⟩ = some va ∧ W.cell? ⟨pb, 0, none⟩ = some vb ∧ Sl W va la ∧ Sl W vb lb)
    (hdr : ∀ i W, I i W → I i W.drew)
    (hY : ∀ i W, i < N → I i W → YieldAt Wd (m - 1) Tryz.prog l #[.int .u32 (lim la i : Nat), .int .u32 (lim lb i : Nat)] W (fun e W' => e = .returned (.bool true) ∧ I (i + 1) W'))
    (W : World) (h0 : I 0 W) :
    CallsIn Wd m Tryz.prog 120 #[.func (.yield l) #[] #[], .pointer (some ⟨pn, 0, none⟩), .pointer (some ⟨pa, 0, none⟩), .pointer (some ⟨pb, 0, none⟩)] W (fun e W' => (∃ v, e = .returned v) ∧ I N W') := by
  have hfn : ∀ k, Wd.fn k := fun _ => trivial
  have hdp : Wd.depth.isSome = false := rfl
  have HB := Lib.hid hbox
  have HD := Lib.hid hdr
  have HY := Lib.hid hY
  clear hbox hdr hY
  obtain ⟨b1, _, _, _, _⟩ := HB.out 0 W h0
  have H0 := Lib.hid h0
  clear h0
  refine callsIn_of_wp Tryz.func120 rfl trivial ?_ rfl
  simp only [Tryz.ntmps120, List.size_toArray, List.length_cons, List.length_nil, Nat.reduceAdd, Nat.reduceSub, Array.replicate_succ, Array.replicate_zero, List.push_toArray, List.append_toArray, List.nil_append, List.cons_append]
  gi_wp2
  gi_loopw [7] (fun t wr => ∃ i : Nat, i ≤ N ∧ t = .int .i64 i ∧ Hid (I i wr)) (fun t _ => N - (intOf t).toNat)
  case atStart => exact ⟨0, Nat.zero_le _, rfl, H0⟩
  case round =>
    obtain ⟨i, hi, rfl, HI⟩ := hrel
    by_cases hlt : i < N
    · have HI2 := Lib.hid (HD.out i wr HI.out)
      obtain ⟨c1, c2, c3, s1, s2⟩ := HB.out i wr.drew HI2.out
      obtain ⟨f1, t1, a1, b1, hy1, hR1⟩ := HY.out i wr.drew hlt HI2.out
      have HR1 := Lib.hid hR1
      clear hR1
      have S1 := Lib.hid s1
      have S2 := Lib.hid s2
      clear s1 s2
      gi_wp2
      gi_region_with (first | (gi_at_call 91; (with_reducible refine (callsIn_wide_of (at_any va la i _ S1.out (by omega))).mono ?_); rintro e w' ⟨rfl, rfl⟩) | (gi_at_call 91; (with_reducible refine (callsIn_wide_of (at_any vb lb i _ S2.out (by omega))).mono ?_); rintro e w' ⟨rfl, rfl⟩) | ((with_reducible refine RoundIn.mono HR1.out ?_); rintro e w' ⟨rfl, hI'⟩))
      all_goals
        gi_wp2
        go_roundw
        case rel => exact ⟨i + 1, by omega, by go_num, hI'⟩
        case measure => simp [intOf]; omega
    · obtain rfl : i = N := by omega
      clear hlt
      gi_wp2
      go_end0
      exact ⟨⟨_, rfl⟩, HI.out⟩
end Go.Proofs.YtckahcgolfnobaaGreatDoor
