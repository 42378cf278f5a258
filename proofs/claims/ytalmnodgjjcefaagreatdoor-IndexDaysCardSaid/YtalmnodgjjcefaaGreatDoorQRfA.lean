/- Several texts in one: RfPlain RfTake RfNext RfPack RfPack2. -/
import Derived.Test.YtalmnodgjjcefaaGreatDoorQLow
import Derived.Test.YtalmnodgjjcefaaGreatDoorQFrm
import Derived.Test.YtalmnodgjjcefaaGreatDoorQItm
import Derived.Test.YtalmnodgjjcefaaGreatDoorQIpA
namespace Go.Proofs.YtalmnodgjjcefaaGreatDoor
open Go.RowKit
def RNextIs (w : World) (b : List UInt8) (e : Ending) (w' : World) : Prop :=
 ∃ (k : Nat) (A : Option Addr) (n c en : Nat) (er : Nat), e = .returned (.tuple #[.int .i64 (k : Nat), .slice A n c, .int .i64 (en : Nat), .int .i64 (er : Nat)]) ∧ Below w.heap.size w w' ∧ er = (fnext b).2.2.2 ∧
  (er = 0 → k = (fnext b).1 ∧ (fnext b).2.1.length = n ∧ n ≤ c ∧ Sees w' w'.heap.size A (bv (fnext b).2.1) ∧ en ≤ b.length ∧ b.drop en = (fnext b).2.2.1 ∧ 5 ≤ en)
theorem RNextIs.err {w w' : World} {b : List UInt8} {er : Nat} (h : (fnext b).2.2.2 = er) (h0 : er ≠ 0) (hb : Below w.heap.size w w') : RNextIs w b (.returned (.tuple #[.int .i64 0, .slice none 0 0, .int .i64 0, .int .i64 (er : Nat)])) w' :=
 ⟨0, none, 0, 0, 0, er, rfl, hb, h.symm, fun h1 => absurd h1 h0⟩
end Go.Proofs.YtalmnodgjjcefaaGreatDoor
