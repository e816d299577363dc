/- Calls met by contracts: all that is known of values is carried on to the world behind a call. -/
import Derived.Test.YtckahcgolfnobaaGreatDoorThird
namespace Go.Proofs.YtckahcgolfnobaaGreatDoor
open Go Go.RowKit

theorem IntV.fol {a b : World} {v : Value} {n : Int} (h : IntV a v n) (k : Fol a b) : IntV b v n := h.keep k.keep

/-- A call of two naturals, of one, of one and a number: contracts. -/
abbrev C2 (f : FuncId) (a b r : Nat) : Prop := Hid (∀ v v' w', NatV w' v a → NatV w' v' b → Calls Tryz.prog f #[v, v'] w' (RNat w' r))
abbrev C1 (f : FuncId) (a r : Nat) : Prop := Hid (∀ v w', NatV w' v a → Calls Tryz.prog f #[v] w' (RNat w' r))
abbrev C1i (f : FuncId) (a : Nat) (i : Int) (r : Nat) : Prop := Hid (∀ v w', NatV w' v a → Calls Tryz.prog f #[v, .int .i64 i] w' (RNat w' r))
abbrev C1ii (f : FuncId) (a : Nat) (i j : Int) (r : Nat) : Prop := Hid (∀ v w', NatV w' v a → Calls Tryz.prog f #[v, .int .i64 i, .int .i64 j] w' (RNat w' r))

end Go.Proofs.YtckahcgolfnobaaGreatDoor
