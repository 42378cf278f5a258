/-
  The library's tables that this seat's rows list: a world for a witness.
-/
import Derived.Test.YteidkmiladkoiaaGreatDoorCards
import Derived.Test.YteidkmiladkoiaaGreatDoorTie
import Derived.Test.YteidkmiladkoiaaGreatDoorZOpn
import Derived.Deep.DeepHandedRow
import Derived.Lib.LaidTab
namespace Go.Proofs.YteidkmiladkoiaaGreatDoor
open Go.RowKit Go.WideShapes Go.ChangeShapes Go.ChangeAt

def acceptZ : List Int := [128, 191, 160, 191, 128, 159, 144, 191, 128, 143, 0, 0, 0, 0, 0, 0, 0, 0, 0, 0, 0, 0, 0, 0, 0, 0, 0, 0, 0, 0, 0, 0]
/-- A world for a witness: the settled one, the tables' variables holding what their initialisers lay. -/
noncomputable def laidWorldOf (w : World) : World :=
  { w with heap := (w.heap.modify 1 fun
      | .cells _ t frozen => .cells (acceptZ.map (Value.int .u8)).toArray t frozen
      | o => o).modify 0 fun
      | .cells _ t frozen => .cells (Go.Pinned.utf8FirstZ.map fun (n : Nat) => Value.int .u8 (Int.ofNat n)).toArray t frozen
      | o => o }
end Go.Proofs.YteidkmiladkoiaaGreatDoor
