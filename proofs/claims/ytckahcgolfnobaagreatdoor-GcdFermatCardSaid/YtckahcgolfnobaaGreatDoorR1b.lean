/- The document's naturals: sums, differences, which is less. -/
import Derived.Test.YtckahcgolfnobaaGreatDoorR1
import Derived.Test.YtckahcgolfnobaaGreatDoorDivk
namespace Go.Proofs.YtckahcgolfnobaaGreatDoor
open Go Go.RowKit

/-- A row of the call's own that grows. -/
structure OwnX (w : World) (v : Value) (l : List Nat) (wr : World) : Prop where
  own : wr.ownsRow w.heap.size 43 1 v l.length (lv l)
  fol : Fol w wr
theorem OwnX.step {w wr wz : World} {v v' : Value} {l : List Nat} {x : Nat} {o : Obj} (h : OwnX w v l wr) (hg : (wr.alloc o).grownBy wz v.ownBlock) (ho : wz.ownsRow w.heap.size 43 1 v' (l.length + 1) (lv l ++ [.int .u32 (x : Int)])) : OwnX w v' (l ++ [x]) wz := by
  have hsz := h.fol.size
  exact ⟨by rw [lv_append, List.length_append]; exact ho, (h.fol.alloc hsz o).grown hg (by rw [World.size_alloc]; omega) (fun j hj => ((h.own.alloc (.deferred none)).lt j hj).1)⟩
theorem OwnX.slice {w wr : World} {v : Value} {l : List Nat} (h : OwnX w v l wr) : ∃ o cap, v = .slice o l.length cap := slice_own h.own
theorem OwnX.sl {w wr : World} {v : Value} {l : List Nat} (h : OwnX w v l wr) : Sl wr v l := sl_of_owns h.own
theorem OwnX.first (w : World) : OwnX w (.slice (some ⟨w.heap.size, 0, none⟩) 0 0) [] (w.alloc (.cells #[] 43)) :=
  ⟨World.ownsRow_made w #[] 0 (Nat.le_refl _) (Nat.zero_le _) (by simp), Fol.new _ _⟩

theorem len_rowAt (s t : Nat → Nat → Nat → Nat) (la lb : List Nat) (k : Nat) : (rowAt s t la lb k).length = k := rowAt_length _ _ _ _ _

set_option maxHeartbeats 1000000 in
set_option maxRecDepth 100000 in
theorem r1add_any (v v' : Value) (m n : Nat) (w : World) (h : NatV w v m) (h' : NatV w v' n) (hm : Big m) (hn : Big n) :
    Calls Tryz.prog 29 #[v, v'] w (RNat w (m + n)) := by
  unfold Big at hm hn
  have HLa := Lib.hid (fun k w' (hf : Fol w w') => limb_any v (dig m) k w' (Sl.fol h hf) (small_dig m) (by omega))
  have HLb := Lib.hid (fun k w' (hf : Fol w w') => limb_any v' (dig n) k w' (Sl.fol h' hf) (small_dig n) (by omega))
  have HROW := Lib.hid (fun k hk => addRow_all m n k hk)
  have HSM := Lib.hid (fun k => rowAt_small addLaw (small_dig m) (small_dig n) k)
  have HCA := Lib.hid (fun k => carryAt_le addLaw (small_dig m) (small_dig n) k)
  have HXA := Lib.hid (fun k => lim_lt (small_dig m) k)
  have HXB := Lib.hid (fun k => lim_lt (small_dig n) k)
  obtain ⟨o, cap, rfl, _, _⟩ := h.slice
  obtain ⟨o', cap', rfl, _, _⟩ := h'.slice
  clear h h'
  generalize hla : (dig m).length = la at *
  generalize hlb : (dig n).length = lb at *
  have HA := Lib.hid hla
  have HB := Lib.hid hlb
  clear hla hlb
  generalize dig m = dm at *
  generalize dig n = dn at *
  go_enter Tryz.func29, Tryz.ntmps29
  go_wp2
  go_loopw [5, 6, 7] (fun r c t wr => ∃ k : Nat, k ≤ max la lb + 1 ∧ t = .int .i64 k ∧ c = .int .u64 (carryAt sAdd tAdd dm dn k : Nat) ∧ Hid (OwnX w r (rowAt sAdd tAdd dm dn k) wr)) (fun _ _ t _ => max la lb + 1 - (intOf t).toNat)
  case atStart => exact ⟨0, by omega, rfl, rfl, Lib.hid (OwnX.first w)⟩
  case round =>
    obtain ⟨k, hk, rfl, rfl, HX⟩ := hrel
    obtain ⟨ro, rc, hr⟩ := HX.out.slice
    rw [len_rowAt] at hr
    subst hr
    by_cases hend : k = max la lb + 1
    · subst hend
      have d1 : decide (max la lb + 1 ≤ la) = false := by simp; omega
      have d2 : decide (max la lb + 1 ≤ lb) = false := by simp; omega
      have d3 : decide (((max la lb + 1 : Nat) : Int) ≤ la) = false := by simp; omega
      have d4 : decide (((max la lb + 1 : Nat) : Int) ≤ lb) = false := by simp; omega
      have HM := Lib.hid (r1make_any _ _ wr HX.out.sl.raw (HSM.out _) (by rw [len_rowAt]; omega))
      rw [HROW.out _ rfl] at HM
      have HF := Lib.hid HX.out.fol
      clear HX hk
      generalize max la lb + 1 = K at *
      go_wp2_with ((go_at_call 36; (with_reducible refine HM.out.mono ?_)); rintro e w1 ⟨v1, rfl, hv1, k1⟩)
      go_ret
      exact ⟨_, rfl, hv1, Fol.trans HF.out k1⟩
    · have hxa := HXA.out k
      have hxb := HXB.out k
      have hca := HCA.out k
      have hle : k ≤ la ∨ (¬ k ≤ la ∧ k ≤ lb) := by omega
      have hK : k ≤ 1099511627776 := by omega
      have hc' : carryAt sAdd tAdd dm dn (k + 1) = (lim dm k + lim dn k + carryAt sAdd tAdd dm dn k) / 4294967296 := rfl
      have hr' : rowAt sAdd tAdd dm dn (k + 1) = rowAt sAdd tAdd dm dn k ++ [(lim dm k + lim dn k + carryAt sAdd tAdd dm dn k) % 4294967296] := rfl
      have HC' := Lib.hid hc'
      have HR' := Lib.hid hr'
      have HF := Lib.hid HX.out.fol
      have HO := Lib.hid (HX.out.own.alloc)
      have hlr := Lib.hid (len_rowAt sAdd tAdd dm dn k)
      have LA := Lib.hid (HLa.out k wr HF.out)
      have LB := Lib.hid (HLb.out k wr HF.out)
      have hsz := HF.out.size
      clear hc' hr' HXA HXB HCA HLa HLb HROW HSM
      generalize hl : rowAt sAdd tAdd dm dn k = row at *
      have HLE := Lib.hid hl
      clear hl
      rw [hlr.out] at HO
      generalize lim dm k = x at *
      generalize lim dn k = y at *
      generalize carryAt sAdd tAdd dm dn k = c at *
      have C1 : Hid (k ≤ 1099511627776) := Lib.hid hK
      have e1 : IntKind.u64.wrap ((x : Int) + y) = (x : Int) + y := by rw [IntKind.wrap_u64]; omega
      have e2 : IntKind.u64.wrap ((x : Int) + y + c) = (x : Int) + y + c := by rw [IntKind.wrap_u64]; omega
      have e3 : ((x : Int) + y + c) % 4294967296 % 4294967296 = (((x + y + c) % 4294967296 : Nat) : Int) := by omega
      have e4 : ((x : Int) + y + c) / 4294967296 = (((x + y + c) / 4294967296 : Nat) : Int) := by omega
      rcases hle with hle | ⟨hnle, hle⟩
      all_goals
        go_wp2_with first
          | ((go_at_call 63; (with_reducible refine LA.out.mono ?_)); rintro e w' ⟨rfl, rfl⟩)
          | ((go_at_call 63; (with_reducible refine LB.out.mono ?_)); rintro e w' ⟨rfl, rfl⟩)
          | (at_builtin; refine wpList_app1 rfl _ _ rfl w.heap.size _ _ _ rfl (HO.out _) wr.heap.size 1 _ rfl (Boxed.new _ _ _) C1 (by rw [World.size_alloc]; omega) ?_; intro v' wz hown1 hgrow1)
        refine ⟨⟨k + 1, by omega, by go_num, by rw [HC'.out, e4], Lib.hid ?_⟩, by simp [intOf]; omega⟩
        rw [HR'.out]
        refine OwnX.step (v := .slice ro k rc) (o := .cells #[.int .u32 (((x + y + c) % 4294967296 : Nat) : Int)] 43) HX.out hgrow1 ?_
        rw [hlr.out]
        exact hown1
end Go.Proofs.YtckahcgolfnobaaGreatDoor
