/-
  DERIVED. GIVEN WITH THE SEED: THE CARDS: each row of YteidkmiladkoiaaDoorRows.lean that lists a variable, with what it lists TIED to the program's text (the seventh form; the later family's looks); each row that meets fmt, with fmt's text TOLD by the authors' own Lean function (tested against real Go, not proved from fmt's source: count such statements apart). THE CARD IS WHAT COUNTS. Prove the row's statement (the work); the ties are given (YteidkmiladkoiaaDoorTie.lean); close each card by the builder's one call (the guide's Derived/Test/ToyasCard.lean, 'card_holds'). Laid BY PROGRAM, IN A SANDBOX (cutbox-door.mjs). By AI agents, Wed Nov 11 2026. No macro, syntax, notation, axiom, sorry.
-/
import Derived.Test.YteidkmiladkoiaaDoorRows
import GoSem.ClaimSeven
namespace Go.Proofs.YteidkmiladkoiaaDoor
namespace Rows

/-- THE TIED CARD OF 'eskerlaw06.SimfsRoom'. -/
def simfsRoomCard : Claim7 := { stood := { row := simfsRoomRow, standIns := [], harness := (true, "5af22c79fc7bed41d1c4d74dd01d0a7e32afe471b9f314971c05fc6905a2d8a9"), looks := true }, kinds := [], alts := [], laidByText := true, laidKinds := [.data, .pinned], laidTests := true, laidLooks := .later }
def SimfsRoomCardSaid : Prop := Claim7.holds Tryd.pinned (.plain (OpenSpec.ofChange simfsRoomSpec)) simfsRoomCard

/-- THE TIED CARD OF 'eskerlaw06.SimfsSwaps'. -/
def simfsSwapsCard : Claim7 := { stood := { row := simfsSwapsRow, standIns := [], harness := (true, "5af22c79fc7bed41d1c4d74dd01d0a7e32afe471b9f314971c05fc6905a2d8a9"), looks := true }, kinds := [], alts := [], laidByText := true, laidKinds := [.data, .pinned], laidTests := true, laidLooks := .later }
def SimfsSwapsCardSaid : Prop := Claim7.holds Tryd.pinned (.plain (OpenSpec.ofChange simfsSwapsSpec)) simfsSwapsCard

/-- THE SECOND FORM's CARD OF 'eskerlaw06.SimfsRoom'. -/
def simfsRoomUptoCard : Claim7 := { stood := { row := simfsRoomUptoRow, standIns := [], harness := (true, "5af22c79fc7bed41d1c4d74dd01d0a7e32afe471b9f314971c05fc6905a2d8a9"), looks := true }, kinds := [], alts := [], laidByText := true, laidKinds := [.data, .pinned], laidTests := true, laidLooks := .later }
def SimfsRoomUptoCardSaid : Prop := Claim7.holds Tryd.pinned (.plain (OpenSpec.upto simfsRoomSpec)) simfsRoomUptoCard

/-- THE SECOND FORM's CARD OF 'eskerlaw06.SimfsSwaps'. -/
def simfsSwapsUptoCard : Claim7 := { stood := { row := simfsSwapsUptoRow, standIns := [], harness := (true, "5af22c79fc7bed41d1c4d74dd01d0a7e32afe471b9f314971c05fc6905a2d8a9"), looks := true }, kinds := [], alts := [], laidByText := true, laidKinds := [.data, .pinned], laidTests := true, laidLooks := .later }
def SimfsSwapsUptoCardSaid : Prop := Claim7.holds Tryd.pinned (.plain (OpenSpec.upto simfsSwapsSpec)) simfsSwapsUptoCard
end Rows
end Go.Proofs.YteidkmiladkoiaaDoor
