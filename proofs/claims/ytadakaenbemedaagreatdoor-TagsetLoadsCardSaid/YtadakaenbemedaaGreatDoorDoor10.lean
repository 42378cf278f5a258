/-
  The table that this seat's rows list; a world for a witness.
-/
import Derived.Test.YtadakaenbemedaaGreatDoorCards
import Derived.Test.YtadakaenbemedaaGreatDoorTie
import Derived.Test.YtadakaenbemedaaGreatDoorOpenR
import Derived.Test.YtadakaenbemedaaGreatDoorFrm
import Derived.Deep.DeepHandedRow
import Derived.Lib.LaidTab
namespace Go.Proofs.YtadakaenbemedaaGreatDoor
open Go.RowKit Go.WideShapes Go.ChangeShapes Go.ChangeAt

theorem gTab : Tryz.prog.globalNamed "esker/frame.halves" = some 1 := by kernel_rfl
theorem gTabType : (Tryz.prog.globals[1]?).map (·.type) = some 161 := by kernel_rfl
theorem cellsTab : Tryz.prog.cellsOf 161 = 16 := by kernel_rfl
theorem cellsU32 : Tryz.prog.cellsOf 140 = 1 := by kernel_rfl
def tabZ : List Int := [0, 498536548, 997073096, 651767980, 1994146192, 1802195444, 1303535960, 1342533948, 3988292384, 4027552580, 3604390888, 3412177804, 2607071920, 2262029012, 2685067896, 3183342108]
/-- What a row's list gives: the table's cells hold its numbers. -/
theorem halves_of {W : World} (h : laidMetH Tryz.prog [("esker/frame.halves", Rows.laid_esker_frame_halves)] W) : Halves W := by
  have ht : Lib.TabIs Tryz.prog W "esker/frame.halves" .u32 tabZ := Lib.tabIs_of_head (rest := []) gTab gTabType Tryz.underlying161 Tryz.underlying140 cellsU32 cellsTab h
  have hc : ∀ i, i < 16 → W.cell? ⟨1, i, none⟩ = some (.int .u32 (tabZ.getD i 0)) := fun i hi => ht.cell gTab i (by simpa [tabZ] using hi)
  refine ⟨?_, fun i hi => ?_⟩
  · have := World.block_lt_of_cell? W _ (hc 0 (by omega))
    simp at this
    omega
  · rw [hc i hi]
    have : ∀ i, i < 16 → tabZ.getD i 0 = ((ctab.getD i 0 : Nat) : Int) := by decide
    rw [this i hi]

/-- A world for a witness: the settled one, the table's variable holding what its initialiser lays. -/
noncomputable def laidWorldOf (w : World) : World :=
  { w with heap := w.heap.modify 1 fun
      | .cells _ t frozen => .cells (tabZ.map (Value.int .u32)).toArray t frozen
      | o => o }

end Go.Proofs.YtadakaenbemedaaGreatDoor
