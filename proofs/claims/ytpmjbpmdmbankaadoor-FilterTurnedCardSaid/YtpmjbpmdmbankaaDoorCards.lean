/-
  DERIVED. GIVEN WITH THE SEED: THE CARDS: each row of YtpmjbpmdmbankaaDoorRows.lean that lists a variable, with what it lists TIED to the program's text (the seventh form; the later family's looks); each row that meets fmt, with fmt's text TOLD by the authors' own Lean function (tested against real Go, not proved from fmt's source: count such statements apart). THE CARD IS WHAT COUNTS. Prove the row's statement (the work); the ties are given (YtpmjbpmdmbankaaDoorTie.lean); close each card by the builder's one call (the guide's Derived/Test/ToyasCard.lean, 'card_holds'). Laid BY PROGRAM, IN A SANDBOX (cutbox-door.mjs). By AI agents, Wed Nov 11 2026. No macro, syntax, notation, axiom, sorry.
-/
import Derived.Test.YtpmjbpmdmbankaaDoorRows
import GoSem.ClaimSeven
namespace Go.Proofs.YtpmjbpmdmbankaaDoor
namespace Rows

/-- THE TIED CARD OF 'eskerlaw08.FilterAlls'. -/
def filterAllsCard : Claim7 := { stood := { row := filterAllsRow, standIns := [], harness := (true, "ceef9a2d0efd336df0407b82b3d5572b9d7b264991d26a957c9a11f9fabfcd8d"), looks := false }, kinds := [], alts := [], laidByText := true, laidKinds := [.data, .pinned], laidTests := true, laidLooks := .later }
def FilterAllsCardSaid : Prop := Claim7.holds Tryd.pinned (.plain (OpenSpec.ofChange filterAllsSpec)) filterAllsCard

/-- THE TIED CARD OF 'eskerlaw08.FilterTurned'. -/
def filterTurnedCard : Claim7 := { stood := { row := filterTurnedRow, standIns := [], harness := (true, "ceef9a2d0efd336df0407b82b3d5572b9d7b264991d26a957c9a11f9fabfcd8d"), looks := false }, kinds := [], alts := [], laidByText := true, laidKinds := [.data, .pinned], laidTests := true, laidLooks := .later }
def FilterTurnedCardSaid : Prop := Claim7.holds Tryd.pinned (.plain (OpenSpec.ofChange filterTurnedSpec)) filterTurnedCard

/-- THE TIED CARD OF 'eskerlaw08.FilterNot'. -/
def filterNotCard : Claim7 := { stood := { row := filterNotRow, standIns := [], harness := (true, "ceef9a2d0efd336df0407b82b3d5572b9d7b264991d26a957c9a11f9fabfcd8d"), looks := false }, kinds := [], alts := [], laidByText := true, laidKinds := [.data, .pinned], laidTests := true, laidLooks := .later }
def FilterNotCardSaid : Prop := Claim7.holds Tryd.pinned (.plain (OpenSpec.ofChange filterNotSpec)) filterNotCard

/-- THE TIED CARD OF 'eskerlaw08.FilterExact'. -/
def filterExactCard : Claim7 := { stood := { row := filterExactRow, standIns := [], harness := (true, "ceef9a2d0efd336df0407b82b3d5572b9d7b264991d26a957c9a11f9fabfcd8d"), looks := false }, kinds := [], alts := [], laidByText := true, laidKinds := [.data, .pinned], laidTests := true, laidLooks := .later }
def FilterExactCardSaid : Prop := Claim7.holds Tryd.pinned (.plain (OpenSpec.ofChange filterExactSpec)) filterExactCard

/-- THE TIED CARD OF 'eskerlaw08.FilterEmpty'. -/
def filterEmptyCard : Claim7 := { stood := { row := filterEmptyRow, standIns := [], harness := (true, "ceef9a2d0efd336df0407b82b3d5572b9d7b264991d26a957c9a11f9fabfcd8d"), looks := false }, kinds := [], alts := [], laidByText := true, laidKinds := [.data, .pinned], laidTests := true, laidLooks := .later }
def FilterEmptyCardSaid : Prop := Claim7.holds Tryd.pinned (.plain (OpenSpec.ofChange filterEmptySpec)) filterEmptyCard

/-- THE SECOND FORM's CARD OF 'eskerlaw08.FilterAlls'. -/
def filterAllsUptoCard : Claim7 := { stood := { row := filterAllsUptoRow, standIns := [], harness := (true, "ceef9a2d0efd336df0407b82b3d5572b9d7b264991d26a957c9a11f9fabfcd8d"), looks := false }, kinds := [], alts := [], laidByText := true, laidKinds := [.data, .pinned], laidTests := true, laidLooks := .later }
def FilterAllsUptoCardSaid : Prop := Claim7.holds Tryd.pinned (.plain (OpenSpec.upto filterAllsSpec)) filterAllsUptoCard

/-- THE SECOND FORM's CARD OF 'eskerlaw08.FilterTurned'. -/
def filterTurnedUptoCard : Claim7 := { stood := { row := filterTurnedUptoRow, standIns := [], harness := (true, "ceef9a2d0efd336df0407b82b3d5572b9d7b264991d26a957c9a11f9fabfcd8d"), looks := false }, kinds := [], alts := [], laidByText := true, laidKinds := [.data, .pinned], laidTests := true, laidLooks := .later }
def FilterTurnedUptoCardSaid : Prop := Claim7.holds Tryd.pinned (.plain (OpenSpec.upto filterTurnedSpec)) filterTurnedUptoCard

/-- THE SECOND FORM's CARD OF 'eskerlaw08.FilterNot'. -/
def filterNotUptoCard : Claim7 := { stood := { row := filterNotUptoRow, standIns := [], harness := (true, "ceef9a2d0efd336df0407b82b3d5572b9d7b264991d26a957c9a11f9fabfcd8d"), looks := false }, kinds := [], alts := [], laidByText := true, laidKinds := [.data, .pinned], laidTests := true, laidLooks := .later }
def FilterNotUptoCardSaid : Prop := Claim7.holds Tryd.pinned (.plain (OpenSpec.upto filterNotSpec)) filterNotUptoCard

/-- THE SECOND FORM's CARD OF 'eskerlaw08.FilterExact'. -/
def filterExactUptoCard : Claim7 := { stood := { row := filterExactUptoRow, standIns := [], harness := (true, "ceef9a2d0efd336df0407b82b3d5572b9d7b264991d26a957c9a11f9fabfcd8d"), looks := false }, kinds := [], alts := [], laidByText := true, laidKinds := [.data, .pinned], laidTests := true, laidLooks := .later }
def FilterExactUptoCardSaid : Prop := Claim7.holds Tryd.pinned (.plain (OpenSpec.upto filterExactSpec)) filterExactUptoCard

/-- THE SECOND FORM's CARD OF 'eskerlaw08.FilterEmpty'. -/
def filterEmptyUptoCard : Claim7 := { stood := { row := filterEmptyUptoRow, standIns := [], harness := (true, "ceef9a2d0efd336df0407b82b3d5572b9d7b264991d26a957c9a11f9fabfcd8d"), looks := false }, kinds := [], alts := [], laidByText := true, laidKinds := [.data, .pinned], laidTests := true, laidLooks := .later }
def FilterEmptyUptoCardSaid : Prop := Claim7.holds Tryd.pinned (.plain (OpenSpec.upto filterEmptySpec)) filterEmptyUptoCard
end Rows
end Go.Proofs.YtpmjbpmdmbankaaDoor
