/-
  DERIVED. GIVEN WITH THE SEED: THE CARDS: each row of YtalmnodgjjcefaaGreatDoorRows.lean that lists a variable, with what it lists TIED to the program's text (the seventh form; the later family's looks); each row that meets fmt, with fmt's text TOLD by the authors' own Lean function (tested against real Go, not proved from fmt's source: count such statements apart). THE CARD IS WHAT COUNTS. Prove the row's statement (the work); the ties are given (YtalmnodgjjcefaaGreatDoorTie.lean); close each card by the builder's one call (the guide's Derived/Test/ToyasCard.lean, 'card_holds'). Laid BY PROGRAM, IN A SANDBOX (cutbox-door.mjs). By AI agents, Wed Nov 11 2026. No macro, syntax, notation, axiom, sorry.
-/
import Derived.Test.YtalmnodgjjcefaaGreatDoorRows
import GoSem.ClaimSeven
namespace Go.Proofs.YtalmnodgjjcefaaGreatDoor
namespace Rows

/-- THE TIED CARD OF 'eskerlaw14.IndexDays'. -/
def indexDaysCard : Claim7 := { stood := { row := indexDaysRow, standIns := [], harness := (true, "27b3784c7ad3216f57b9eb2f287697cacbc144df6e8930e6ce5a85b2b78dec3c"), looks := false }, kinds := [], alts := [], laidByText := true, laidKinds := [.data, .pinned], laidTests := true, laidLooks := .later }
def IndexDaysCardSaid : Prop := Claim7.holds Tryz.pinned (.plain (OpenSpec.ofChange indexDaysSpec)) indexDaysCard

/-- THE TIED CARD OF 'eskerlaw14.IndexLoads'. -/
def indexLoadsCard : Claim7 := { stood := { row := indexLoadsRow, standIns := [], harness := (true, "27b3784c7ad3216f57b9eb2f287697cacbc144df6e8930e6ce5a85b2b78dec3c"), looks := false }, kinds := [], alts := [], laidByText := true, laidKinds := [.data, .data, .pinned], laidTests := true, laidLooks := .later }
def IndexLoadsCardSaid : Prop := Claim7.holds Tryz.pinned (.plain (OpenSpec.ofChange indexLoadsSpec)) indexLoadsCard

/-- THE TIED CARD OF 'eskerlaw14.IndexOne'. -/
def indexOneCard : Claim7 := { stood := { row := indexOneRow, standIns := [], harness := (true, "27b3784c7ad3216f57b9eb2f287697cacbc144df6e8930e6ce5a85b2b78dec3c"), looks := false }, kinds := [], alts := [], laidByText := true, laidKinds := [.data, .data, .pinned], laidTests := true, laidLooks := .later }
def IndexOneCardSaid : Prop := Claim7.holds Tryz.pinned (.plain (OpenSpec.ofChange indexOneSpec)) indexOneCard

/-- THE TIED CARD OF 'eskerlaw14.IndexDrops'. -/
def indexDropsCard : Claim7 := { stood := { row := indexDropsRow, standIns := [], harness := (true, "27b3784c7ad3216f57b9eb2f287697cacbc144df6e8930e6ce5a85b2b78dec3c"), looks := false }, kinds := [], alts := [], laidByText := true, laidKinds := [.data, .data, .pinned], laidTests := true, laidLooks := .later }
def IndexDropsCardSaid : Prop := Claim7.holds Tryz.pinned (.plain (OpenSpec.ofChange indexDropsSpec)) indexDropsCard

/-- THE TIED CARD OF 'eskerlaw14.IndexHides'. -/
def indexHidesCard : Claim7 := { stood := { row := indexHidesRow, standIns := [], harness := (true, "27b3784c7ad3216f57b9eb2f287697cacbc144df6e8930e6ce5a85b2b78dec3c"), looks := false }, kinds := [], alts := [], laidByText := true, laidKinds := [.data, .data, .pinned], laidTests := true, laidLooks := .later }
def IndexHidesCardSaid : Prop := Claim7.holds Tryz.pinned (.plain (OpenSpec.ofChange indexHidesSpec)) indexHidesCard

/-- THE TIED CARD OF 'eskerlaw14.IndexPlays'. -/
def indexPlaysCard : Claim7 := { stood := { row := indexPlaysRow, standIns := [], harness := (true, "27b3784c7ad3216f57b9eb2f287697cacbc144df6e8930e6ce5a85b2b78dec3c"), looks := false }, kinds := [], alts := [], laidByText := true, laidKinds := [.data, .data, .pinned], laidTests := true, laidLooks := .later }
def IndexPlaysCardSaid : Prop := Claim7.holds Tryz.pinned (.plain (OpenSpec.ofChange indexPlaysSpec)) indexPlaysCard

/-- THE SECOND FORM's CARD OF 'eskerlaw14.IndexDays'. -/
def indexDaysUptoCard : Claim7 := { stood := { row := indexDaysUptoRow, standIns := [], harness := (true, "27b3784c7ad3216f57b9eb2f287697cacbc144df6e8930e6ce5a85b2b78dec3c"), looks := false }, kinds := [], alts := [], laidByText := true, laidKinds := [.data, .pinned], laidTests := true, laidLooks := .later }
def IndexDaysUptoCardSaid : Prop := Claim7.holds Tryz.pinned (.plain (OpenSpec.upto indexDaysSpec)) indexDaysUptoCard

/-- THE SECOND FORM's CARD OF 'eskerlaw14.IndexLoads'. -/
def indexLoadsUptoCard : Claim7 := { stood := { row := indexLoadsUptoRow, standIns := [], harness := (true, "27b3784c7ad3216f57b9eb2f287697cacbc144df6e8930e6ce5a85b2b78dec3c"), looks := false }, kinds := [], alts := [], laidByText := true, laidKinds := [.data, .data, .pinned], laidTests := true, laidLooks := .later }
def IndexLoadsUptoCardSaid : Prop := Claim7.holds Tryz.pinned (.plain (OpenSpec.upto indexLoadsSpec)) indexLoadsUptoCard

/-- THE SECOND FORM's CARD OF 'eskerlaw14.IndexOne'. -/
def indexOneUptoCard : Claim7 := { stood := { row := indexOneUptoRow, standIns := [], harness := (true, "27b3784c7ad3216f57b9eb2f287697cacbc144df6e8930e6ce5a85b2b78dec3c"), looks := false }, kinds := [], alts := [], laidByText := true, laidKinds := [.data, .data, .pinned], laidTests := true, laidLooks := .later }
def IndexOneUptoCardSaid : Prop := Claim7.holds Tryz.pinned (.plain (OpenSpec.upto indexOneSpec)) indexOneUptoCard

/-- THE SECOND FORM's CARD OF 'eskerlaw14.IndexDrops'. -/
def indexDropsUptoCard : Claim7 := { stood := { row := indexDropsUptoRow, standIns := [], harness := (true, "27b3784c7ad3216f57b9eb2f287697cacbc144df6e8930e6ce5a85b2b78dec3c"), looks := false }, kinds := [], alts := [], laidByText := true, laidKinds := [.data, .data, .pinned], laidTests := true, laidLooks := .later }
def IndexDropsUptoCardSaid : Prop := Claim7.holds Tryz.pinned (.plain (OpenSpec.upto indexDropsSpec)) indexDropsUptoCard

/-- THE SECOND FORM's CARD OF 'eskerlaw14.IndexHides'. -/
def indexHidesUptoCard : Claim7 := { stood := { row := indexHidesUptoRow, standIns := [], harness := (true, "27b3784c7ad3216f57b9eb2f287697cacbc144df6e8930e6ce5a85b2b78dec3c"), looks := false }, kinds := [], alts := [], laidByText := true, laidKinds := [.data, .data, .pinned], laidTests := true, laidLooks := .later }
def IndexHidesUptoCardSaid : Prop := Claim7.holds Tryz.pinned (.plain (OpenSpec.upto indexHidesSpec)) indexHidesUptoCard

/-- THE SECOND FORM's CARD OF 'eskerlaw14.IndexPlays'. -/
def indexPlaysUptoCard : Claim7 := { stood := { row := indexPlaysUptoRow, standIns := [], harness := (true, "27b3784c7ad3216f57b9eb2f287697cacbc144df6e8930e6ce5a85b2b78dec3c"), looks := false }, kinds := [], alts := [], laidByText := true, laidKinds := [.data, .data, .pinned], laidTests := true, laidLooks := .later }
def IndexPlaysUptoCardSaid : Prop := Claim7.holds Tryz.pinned (.plain (OpenSpec.upto indexPlaysSpec)) indexPlaysUptoCard
end Rows
end Go.Proofs.YtalmnodgjjcefaaGreatDoor
