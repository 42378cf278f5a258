/-
  DERIVED. GIVEN WITH THE SEED: THE CARDS: each row of YtadakaenbemedaaGreatDoorRows.lean that lists a variable, with what it lists TIED to the program's text (the seventh form; the later family's looks); each row that meets fmt, with fmt's text TOLD by the authors' own Lean function (tested against real Go, not proved from fmt's source: count such statements apart). THE CARD IS WHAT COUNTS. Prove the row's statement (the work); the ties are given (YtadakaenbemedaaGreatDoorTie.lean); close each card by the builder's one call (the guide's Derived/Test/ToyasCard.lean, 'card_holds'). Laid BY PROGRAM, IN A SANDBOX (cutbox-door.mjs). By AI agents, Wed Nov 11 2026. No macro, syntax, notation, axiom, sorry.
-/
import Derived.Test.YtadakaenbemedaaGreatDoorRows
import GoSem.ClaimSeven
namespace Go.Proofs.YtadakaenbemedaaGreatDoor
namespace Rows

/-- THE TIED CARD OF 'eskerlaw13.TagsetFull'. -/
def tagsetFullCard : Claim7 := { stood := { row := tagsetFullRow, standIns := [], harness := (true, "a4b358323f88ad4920f014a9bae03226c1ef971698897e5415a14001c7adb98d"), looks := false }, kinds := [], alts := [], laidByText := true, laidKinds := [.data], laidTests := true, laidLooks := .later }
def TagsetFullCardSaid : Prop := Claim7.holds Tryz.pinned (.plain (OpenSpec.ofChange tagsetFullSpec)) tagsetFullCard

/-- THE TIED CARD OF 'eskerlaw13.TagsetPlays'. -/
def tagsetPlaysCard : Claim7 := { stood := { row := tagsetPlaysRow, standIns := [], harness := (true, "a4b358323f88ad4920f014a9bae03226c1ef971698897e5415a14001c7adb98d"), looks := false }, kinds := [], alts := [], laidByText := true, laidKinds := [.data], laidTests := true, laidLooks := .later }
def TagsetPlaysCardSaid : Prop := Claim7.holds Tryz.pinned (.plain (OpenSpec.ofChange tagsetPlaysSpec)) tagsetPlaysCard

/-- THE TIED CARD OF 'eskerlaw13.TagsetHides'. -/
def tagsetHidesCard : Claim7 := { stood := { row := tagsetHidesRow, standIns := [], harness := (true, "a4b358323f88ad4920f014a9bae03226c1ef971698897e5415a14001c7adb98d"), looks := false }, kinds := [], alts := [], laidByText := true, laidKinds := [.data], laidTests := true, laidLooks := .later }
def TagsetHidesCardSaid : Prop := Claim7.holds Tryz.pinned (.plain (OpenSpec.ofChange tagsetHidesSpec)) tagsetHidesCard

/-- THE TIED CARD OF 'eskerlaw13.TagsetMerges'. -/
def tagsetMergesCard : Claim7 := { stood := { row := tagsetMergesRow, standIns := [], harness := (true, "a4b358323f88ad4920f014a9bae03226c1ef971698897e5415a14001c7adb98d"), looks := false }, kinds := [], alts := [], laidByText := true, laidKinds := [.data], laidTests := true, laidLooks := .later }
def TagsetMergesCardSaid : Prop := Claim7.holds Tryz.pinned (.plain (OpenSpec.ofChange tagsetMergesSpec)) tagsetMergesCard

/-- THE TIED CARD OF 'eskerlaw13.TagsetNone'. -/
def tagsetNoneCard : Claim7 := { stood := { row := tagsetNoneRow, standIns := [], harness := (true, "a4b358323f88ad4920f014a9bae03226c1ef971698897e5415a14001c7adb98d"), looks := false }, kinds := [], alts := [], laidByText := true, laidKinds := [.data], laidTests := true, laidLooks := .later }
def TagsetNoneCardSaid : Prop := Claim7.holds Tryz.pinned (.plain (OpenSpec.ofChange tagsetNoneSpec)) tagsetNoneCard

/-- THE TIED CARD OF 'eskerlaw13.TagsetLoads'. -/
def tagsetLoadsCard : Claim7 := { stood := { row := tagsetLoadsRow, standIns := [], harness := (true, "a4b358323f88ad4920f014a9bae03226c1ef971698897e5415a14001c7adb98d"), looks := false }, kinds := [], alts := [], laidByText := true, laidKinds := [.data], laidTests := true, laidLooks := .later }
def TagsetLoadsCardSaid : Prop := Claim7.holds Tryz.pinned (.plain (OpenSpec.ofChange tagsetLoadsSpec)) tagsetLoadsCard

/-- THE SECOND FORM's CARD OF 'eskerlaw13.TagsetFull'. -/
def tagsetFullUptoCard : Claim7 := { stood := { row := tagsetFullUptoRow, standIns := [], harness := (true, "a4b358323f88ad4920f014a9bae03226c1ef971698897e5415a14001c7adb98d"), looks := false }, kinds := [], alts := [], laidByText := true, laidKinds := [.data], laidTests := true, laidLooks := .later }
def TagsetFullUptoCardSaid : Prop := Claim7.holds Tryz.pinned (.plain (OpenSpec.upto tagsetFullSpec)) tagsetFullUptoCard

/-- THE SECOND FORM's CARD OF 'eskerlaw13.TagsetPlays'. -/
def tagsetPlaysUptoCard : Claim7 := { stood := { row := tagsetPlaysUptoRow, standIns := [], harness := (true, "a4b358323f88ad4920f014a9bae03226c1ef971698897e5415a14001c7adb98d"), looks := false }, kinds := [], alts := [], laidByText := true, laidKinds := [.data], laidTests := true, laidLooks := .later }
def TagsetPlaysUptoCardSaid : Prop := Claim7.holds Tryz.pinned (.plain (OpenSpec.upto tagsetPlaysSpec)) tagsetPlaysUptoCard

/-- THE SECOND FORM's CARD OF 'eskerlaw13.TagsetHides'. -/
def tagsetHidesUptoCard : Claim7 := { stood := { row := tagsetHidesUptoRow, standIns := [], harness := (true, "a4b358323f88ad4920f014a9bae03226c1ef971698897e5415a14001c7adb98d"), looks := false }, kinds := [], alts := [], laidByText := true, laidKinds := [.data], laidTests := true, laidLooks := .later }
def TagsetHidesUptoCardSaid : Prop := Claim7.holds Tryz.pinned (.plain (OpenSpec.upto tagsetHidesSpec)) tagsetHidesUptoCard

/-- THE SECOND FORM's CARD OF 'eskerlaw13.TagsetMerges'. -/
def tagsetMergesUptoCard : Claim7 := { stood := { row := tagsetMergesUptoRow, standIns := [], harness := (true, "a4b358323f88ad4920f014a9bae03226c1ef971698897e5415a14001c7adb98d"), looks := false }, kinds := [], alts := [], laidByText := true, laidKinds := [.data], laidTests := true, laidLooks := .later }
def TagsetMergesUptoCardSaid : Prop := Claim7.holds Tryz.pinned (.plain (OpenSpec.upto tagsetMergesSpec)) tagsetMergesUptoCard

/-- THE SECOND FORM's CARD OF 'eskerlaw13.TagsetNone'. -/
def tagsetNoneUptoCard : Claim7 := { stood := { row := tagsetNoneUptoRow, standIns := [], harness := (true, "a4b358323f88ad4920f014a9bae03226c1ef971698897e5415a14001c7adb98d"), looks := false }, kinds := [], alts := [], laidByText := true, laidKinds := [.data], laidTests := true, laidLooks := .later }
def TagsetNoneUptoCardSaid : Prop := Claim7.holds Tryz.pinned (.plain (OpenSpec.upto tagsetNoneSpec)) tagsetNoneUptoCard

/-- THE SECOND FORM's CARD OF 'eskerlaw13.TagsetLoads'. -/
def tagsetLoadsUptoCard : Claim7 := { stood := { row := tagsetLoadsUptoRow, standIns := [], harness := (true, "a4b358323f88ad4920f014a9bae03226c1ef971698897e5415a14001c7adb98d"), looks := false }, kinds := [], alts := [], laidByText := true, laidKinds := [.data], laidTests := true, laidLooks := .later }
def TagsetLoadsUptoCardSaid : Prop := Claim7.holds Tryz.pinned (.plain (OpenSpec.upto tagsetLoadsSpec)) tagsetLoadsUptoCard
end Rows
end Go.Proofs.YtadakaenbemedaaGreatDoor
