/- The document's products. -/
import Derived.Test.YtckahcgolfnobaaGreatDoorR1d
namespace Go.Proofs.YtckahcgolfnobaaGreatDoor
open Go Go.RowKit

/-- A row of the call's own that is written in place. -/
structure RowX (w : World) (g : Nat) (l : List Nat) (wr : World) : Prop where
  fol : Fol w wr
  row : RowAt wr g l
  hg : w.heap.size ≤ g
theorem RowX.drawn {w wr wr' : World} {g : Nat} {l : List Nat} (h : RowX w g l wr) (hd : Drawn wr wr') : RowX w g l wr' := by
  obtain ⟨k, rfl⟩ := hd
  exact ⟨Fol.trans h.fol (Fol.drawn ⟨k, rfl⟩), h.row.mono rfl, h.hg⟩
theorem RowX.set {w wr : World} {g : Nat} {l : List Nat} (h : RowX w g l wr) (i x : Nat) : RowX w g (l.set i x) (wr.setCell ⟨g, i, none⟩ (.int .u32 (x : Int))) :=
  ⟨h.fol.setCell h.hg _, h.row.set i x, h.hg⟩
theorem RowX.first (w : World) (l : List Nat) : RowX w w.heap.size l (rowW w l) := ⟨rowW_below w l, ⟨_, rowW_heap w l, fun i x hi => by
  have := lv_get l i
  rw [hi] at this
  simpa using this⟩, Nat.le_refl _⟩

set_option maxHeartbeats 1000000 in
set_option maxRecDepth 100000 in
theorem r3school_walk (oa ob : Option Addr) (la lb ca cb : Nat) (a b : List Nat) (w : World) (hsa : Small a) (hsb : Small b) (hla : a.length = la) (hlb : b.length = lb) (hab : la + lb ≤ 1073741824)
    (ha : ∀ (i : Nat), i < la → ∃ b off, oa = some ⟨b, off, none⟩ ∧ b < w.heap.size ∧ w.cell? ⟨b, off + i, none⟩ = some (.int .u32 (lim a i : Nat)))
    (hb : ∀ (i : Nat), i < lb → ∃ p off, ob = some ⟨p, off, none⟩ ∧ p < w.heap.size ∧ w.cell? ⟨p, off + i, none⟩ = some (.int .u32 (lim b i : Nat))) :
    Calls Tryz.prog 62 #[.slice oa la ca, .slice ob lb cb] w (RNat w (val a * val b)) := by
  have HA := Lib.hid ha
  have HB := Lib.hid hb
  have HLA := Lib.hid hla
  have HLB := Lib.hid hlb
  have HSA := Lib.hid hsa
  have HSB := Lib.hid hsb
  have hmk := make_run (la + lb) (la + lb) (Nat.le_refl _) (by omega) w
  rw [zrow_rowW, Int.natCast_add] at hmk
  have hF := Lib.hid (SchO.first a b)
  rw [hla, hlb] at hF
  clear ha hb hla hlb hsa hsb
  obtain ⟨g, hg⟩ : ∃ g, g = w.heap.size := ⟨_, rfl⟩
  have HR0 := Lib.hid (RowX.first w (List.replicate (la + lb) 0))
  rw [← hg] at hmk HR0
  have HG := Lib.hid hg
  clear hg
  generalize rowW w (List.replicate (la + lb) 0) = w0 at *
  go_enter Tryz.func62, Tryz.ntmps62
  go_wp2
  go_loopw [6] (fun t wr => ∃ i : Nat, i ≤ la ∧ t = .int .i64 i ∧ ∃ out : List Nat, Hid (RowX w g out wr) ∧ Hid (SchO a b i out)) (fun t _ => la - (intOf t).toNat)
  case atStart => exact ⟨0, Nat.zero_le _, rfl, _, HR0, hF⟩
  case round =>
    clear HR0 hF hmk
    obtain ⟨i, hi, rfl, out, hR, hO⟩ := hrel
    by_cases hlt : i < la
    · obtain ⟨p, off, rfl, hp, hc⟩ := HA.out i hlt
      have HC := Lib.hid hc
      have HPP := Lib.hid hp
      have hx := lim_lt HSA.out i
      have hI := Lib.hid (SchI.start hO.out.len hO.out.small hO.out.eq hO.out.zero)
      generalize hX : lim a i = x at *
      have HX := Lib.hid hX
      clear hX hc hp
      go_wp2
      go_loopw [7, 8] (fun cv t wr => ∃ k c : Nat, k ≤ lb ∧ t = .int .i64 k ∧ cv = .int .u64 c ∧ ∃ out : List Nat, Hid (RowX w g out wr) ∧ Hid (SchI a b i k c out)) (fun _ t _ => lb - (intOf t).toNat)
      case atStart => exact ⟨0, 0, Nat.zero_le _, rfl, rfl, _, hR, hI⟩
      case round =>
        clear hI hR hO
        obtain ⟨k, c, hk, rfl, rfl, out, hR, hI⟩ := hrel
        by_cases hlt' : k < lb
        · obtain ⟨p', off', rfl, hp', hc'⟩ := HB.out k hlt'
          have hc1 := (hR.out.fol.cell (p := ⟨p, off + i, none⟩) HPP.out).trans HC.out
          have hc2 := (hR.out.fol.cell (p := ⟨p', off' + k, none⟩) hp').trans hc'
          have hlen : i + k < la + lb := by omega
          have hc3 := hR.out.row.cell (i := i + k) (by rw [hI.out.len, HLA.out, HLB.out]; omega)
          have hst := hI.out.step (by rw [HLA.out]; omega) (by rw [HLB.out]; omega) (by rw [HX.out]; exact hx) (lim_lt HSB.out k)
          rw [HX.out] at hst
          have hy := lim_lt HSB.out k
          have ho := lim_lt hI.out.small (i + k)
          have hcc := hI.out.carry
          have HS := Lib.hid hst
          have HL := Lib.hid hI.out.len
          clear hst hc' hp'
          generalize lim b k = y at *
          generalize lim out (i + k) = o at *
          have hxy : x * y ≤ 4294967295 * 4294967295 := Nat.mul_le_mul (by omega) (by omega)
          obtain ⟨z, hz⟩ : ∃ z, z = x * y := ⟨_, rfl⟩
          have hzc : ((x : Int) * (y : Int)) = (z : Int) := by rw [hz, Int.natCast_mul]
          rw [← hz] at HS hxy
          have hzb : z ≤ 18446744065119617025 := hxy
          obtain ⟨T, hT⟩ : ∃ T, T = c + (z + o) := ⟨_, rfl⟩
          have u0 : IntKind.u64.wrap (x : Int) = x := by rw [IntKind.wrap_u64]; omega
          have u1 : IntKind.u64.wrap (y : Int) = y := by rw [IntKind.wrap_u64]; omega
          have u2 : IntKind.u64.wrap (o : Int) = o := by rw [IntKind.wrap_u64]; omega
          have u3 : IntKind.u64.wrap ((x : Int) * (y : Int)) = (z : Int) := by rw [hzc, IntKind.wrap_u64]; omega
          have u4 : IntKind.u64.wrap ((z : Int) + o) = (z : Int) + o := by rw [IntKind.wrap_u64]; omega
          have u5 : IntKind.u64.wrap ((z : Int) + o + c) = (T : Int) := by rw [IntKind.wrap_u64]; omega
          have hTb : T ≤ 18446744073709551615 := by omega
          rw [← hT] at HS
          have w1 : IntKind.i64.wrap ((i : Int) + (k : Int)) = (i : Int) + k := by rw [IntKind.wrap_i64]; omega
          have w2 : ((i : Int) + (k : Int)).toNat = i + k := by omega
          have w3 : (0 : Int) ≤ (i : Int) + k := by omega
          have w4 : (i : Int) + k < (la : Int) + lb := by omega
          clear hz hzc hxy hT hzb hI
          go_wp2
          go_quiet (fail)
          have hR2 := Lib.hid (hR.out.drawn (wr' := wr.drewN nq) ⟨_, rfl⟩)
          have hc4 := hR2.out.row.cell (i := i + k) (by rw [HL.out, HLA.out, HLB.out]; omega)
          have hf4 := hR2.out.row.frozen (i + k)
          clear hc1 hc2 hc3 u0 u1 u2 u3 u4 u5 w1 w2 w3 w4
          go_wp2
          exact ⟨⟨k + 1, T / 4294967296, by omega, by go_num, rfl, out.set (i + k) (T % 4294967296), Lib.hid (hR2.out.set (i + k) (T % 4294967296)), HS⟩, by simp [intOf]; omega⟩
        · obtain rfl : k = lb := by omega
          clear hlt'
          have hf4 := hR.out.row.frozen (i + k)
          have hc4 := hR.out.row.cell (i := i + k) (by rw [hI.out.len, HLA.out, HLB.out]; omega)
          have hw : ((c : Int) % 4294967296) = c := by have := hI.out.carry; omega
          have hN := Lib.hid ((HLB.out ▸ hI.out : SchI a b i b.length c out).next (by rw [HLA.out]; omega))
          rw [HLB.out] at hN
          have hcc := hI.out.carry
          go_wp2
          exact ⟨⟨i + 1, by omega, by go_num, _, Lib.hid (hR.out.set (i + k) c), hN⟩, by simp [intOf]; omega⟩
    · obtain rfl : i = la := by omega
      clear hlt
      have hm := r1make_any (.slice (some ⟨g, 0, none⟩) (i + lb) (i + lb)) out wr (hR.out.row.sl _ _ (by rw [hO.out.len, HLA.out, HLB.out]) (Nat.le_refl _)).raw hO.out.small (by rw [hO.out.len, HLA.out, HLB.out]; omega)
      rw [hO.out.eq, ← HLA.out, List.take_length, HLA.out] at hm
      have HM := Lib.hid hm
      have HF := Lib.hid hR.out.fol
      clear hm hR hO
      go_wp2_with (go_at_call 36; (with_reducible refine HM.out.mono ?_); rintro e w' ⟨v, rfl, hv, hbl⟩)
      go_ret
      exact ⟨_, rfl, hv, Fol.trans HF.out hbl⟩

theorem r3school_any (v v' : Value) (m n : Nat) (w : World) (h : NatV w v m) (h' : NatV w v' n) (hmn : (dig m).length + (dig n).length ≤ 1073741824) :
    Calls Tryz.prog 62 #[v, v'] w (RNat w (m * n)) := by
  obtain ⟨o, cap, rfl, _, hg⟩ := Sl.gen h
  obtain ⟨o', cap', rfl, _, hg'⟩ := Sl.gen h'
  have := r3school_walk o o' _ _ cap cap' (dig m) (dig n) w (small_dig m) (small_dig n) rfl rfl hmn hg hg'
  rwa [val_dig, val_dig] at this

set_option maxHeartbeats 400000 in
set_option maxRecDepth 100000 in
theorem r3mul_any (v v' : Value) (m n : Nat) (w : World) (h : NatV w v m) (h' : NatV w v' n) (hmn : (dig m).length + (dig n).length ≤ 1073741824) :
    Calls Tryz.prog 27 #[v, v'] w (RNat w (m * n)) := by
  have HS := Lib.hid (r3school_any v v' m n w h h' hmn)
  clear h h'
  go_enter Tryz.func27, Tryz.ntmps27
  go_wp2_with (go_at_call 62; (with_reducible refine HS.out.mono ?_); rintro e w' ⟨v1, rfl, hv, hbl⟩)
  go_ret
  exact ⟨_, rfl, hv, hbl⟩
end Go.Proofs.YtckahcgolfnobaaGreatDoor
