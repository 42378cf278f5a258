/-
  DERIVED. GIVEN WITH THE SEED: THE CARDS: each row of YtpjiioeodcinpaaGreatDoorRows.lean that lists a variable, with what it lists TIED to the program's text (the seventh form; the later family's looks); each row that meets fmt, with fmt's text TOLD by the authors' own Lean function (tested against real Go, not proved from fmt's source: count such statements apart). THE CARD IS WHAT COUNTS. Prove the row's statement (the work); the ties are given (YtpjiioeodcinpaaGreatDoorTie.lean); close each card by the builder's one call (the guide's Derived/Test/ToyasCard.lean, 'card_holds'). Laid BY PROGRAM, IN A SANDBOX (cutbox-door.mjs). By AI agents, Wed Nov 11 2026. No macro, syntax, notation, axiom, sorry.
-/
import Derived.Test.YtpjiioeodcinpaaGreatDoorRows
import GoSem.ClaimSeven
namespace Go.Proofs.YtpjiioeodcinpaaGreatDoor
namespace Rows

/-- THE TIED CARD OF 'eskerlaw12.RowsMakes'. -/
def rowsMakesCard : Claim7 := { stood := { row := rowsMakesRow, standIns := [], harness := (true, "8f30b50a873e3e680f2e798568ae9ce21c295b242897dc8cd68af0eb09758371"), looks := false }, kinds := [], alts := [], laidByText := true, laidKinds := [.data, .pinned], laidTests := true, laidLooks := .later }
def RowsMakesCardSaid : Prop := Claim7.holds Tryz.pinned (.plain (OpenSpec.ofChange rowsMakesSpec)) rowsMakesCard

/-- THE TIED CARD OF 'eskerlaw12.RowsParses'. -/
def rowsParsesCard : Claim7 := { stood := { row := rowsParsesRow, standIns := [], harness := (true, "8f30b50a873e3e680f2e798568ae9ce21c295b242897dc8cd68af0eb09758371"), looks := false }, kinds := [], alts := [], laidByText := true, laidKinds := [.data, .pinned], laidTests := true, laidLooks := .later }
def RowsParsesCardSaid : Prop := Claim7.holds Tryz.pinned (.plain (OpenSpec.ofChange rowsParsesSpec)) rowsParsesCard

/-- THE TIED CARD OF 'eskerlaw12.RowsAlls'. -/
def rowsAllsCard : Claim7 := { stood := { row := rowsAllsRow, standIns := [], harness := (true, "8f30b50a873e3e680f2e798568ae9ce21c295b242897dc8cd68af0eb09758371"), looks := false }, kinds := [], alts := [], laidByText := true, laidKinds := [.data, .pinned], laidTests := true, laidLooks := .later }
def RowsAllsCardSaid : Prop := Claim7.holds Tryz.pinned (.plain (OpenSpec.ofChange rowsAllsSpec)) rowsAllsCard

/-- THE TIED CARD OF 'eskerlaw12.RowsBack'. -/
def rowsBackCard : Claim7 := { stood := { row := rowsBackRow, standIns := [], harness := (true, "8f30b50a873e3e680f2e798568ae9ce21c295b242897dc8cd68af0eb09758371"), looks := false }, kinds := [], alts := [], laidByText := true, laidKinds := [.data, .pinned], laidTests := true, laidLooks := .later }
def RowsBackCardSaid : Prop := Claim7.holds Tryz.pinned (.plain (OpenSpec.ofChange rowsBackSpec)) rowsBackCard

/-- THE TIED CARD OF 'eskerlaw12.RowsOrder'. -/
def rowsOrderCard : Claim7 := { stood := { row := rowsOrderRow, standIns := [], harness := (true, "8f30b50a873e3e680f2e798568ae9ce21c295b242897dc8cd68af0eb09758371"), looks := false }, kinds := [], alts := [], laidByText := true, laidKinds := [.data, .pinned], laidTests := true, laidLooks := .later }
def RowsOrderCardSaid : Prop := Claim7.holds Tryz.pinned (.plain (OpenSpec.ofChange rowsOrderSpec)) rowsOrderCard

/-- THE TIED CARD OF 'eskerlaw12.RowsApart'. -/
def rowsApartCard : Claim7 := { stood := { row := rowsApartRow, standIns := [], harness := (true, "8f30b50a873e3e680f2e798568ae9ce21c295b242897dc8cd68af0eb09758371"), looks := false }, kinds := [], alts := [], laidByText := true, laidKinds := [.data, .pinned], laidTests := true, laidLooks := .later }
def RowsApartCardSaid : Prop := Claim7.holds Tryz.pinned (.plain (OpenSpec.ofChange rowsApartSpec)) rowsApartCard

/-- THE SECOND FORM's CARD OF 'eskerlaw12.RowsMakes'. -/
def rowsMakesUptoCard : Claim7 := { stood := { row := rowsMakesUptoRow, standIns := [], harness := (true, "8f30b50a873e3e680f2e798568ae9ce21c295b242897dc8cd68af0eb09758371"), looks := false }, kinds := [], alts := [], laidByText := true, laidKinds := [.data, .pinned], laidTests := true, laidLooks := .later }
def RowsMakesUptoCardSaid : Prop := Claim7.holds Tryz.pinned (.plain (OpenSpec.upto rowsMakesSpec)) rowsMakesUptoCard

/-- THE SECOND FORM's CARD OF 'eskerlaw12.RowsParses'. -/
def rowsParsesUptoCard : Claim7 := { stood := { row := rowsParsesUptoRow, standIns := [], harness := (true, "8f30b50a873e3e680f2e798568ae9ce21c295b242897dc8cd68af0eb09758371"), looks := false }, kinds := [], alts := [], laidByText := true, laidKinds := [.data, .pinned], laidTests := true, laidLooks := .later }
def RowsParsesUptoCardSaid : Prop := Claim7.holds Tryz.pinned (.plain (OpenSpec.upto rowsParsesSpec)) rowsParsesUptoCard

/-- THE SECOND FORM's CARD OF 'eskerlaw12.RowsAlls'. -/
def rowsAllsUptoCard : Claim7 := { stood := { row := rowsAllsUptoRow, standIns := [], harness := (true, "8f30b50a873e3e680f2e798568ae9ce21c295b242897dc8cd68af0eb09758371"), looks := false }, kinds := [], alts := [], laidByText := true, laidKinds := [.data, .pinned], laidTests := true, laidLooks := .later }
def RowsAllsUptoCardSaid : Prop := Claim7.holds Tryz.pinned (.plain (OpenSpec.upto rowsAllsSpec)) rowsAllsUptoCard

/-- THE SECOND FORM's CARD OF 'eskerlaw12.RowsBack'. -/
def rowsBackUptoCard : Claim7 := { stood := { row := rowsBackUptoRow, standIns := [], harness := (true, "8f30b50a873e3e680f2e798568ae9ce21c295b242897dc8cd68af0eb09758371"), looks := false }, kinds := [], alts := [], laidByText := true, laidKinds := [.data, .pinned], laidTests := true, laidLooks := .later }
def RowsBackUptoCardSaid : Prop := Claim7.holds Tryz.pinned (.plain (OpenSpec.upto rowsBackSpec)) rowsBackUptoCard

/-- THE SECOND FORM's CARD OF 'eskerlaw12.RowsOrder'. -/
def rowsOrderUptoCard : Claim7 := { stood := { row := rowsOrderUptoRow, standIns := [], harness := (true, "8f30b50a873e3e680f2e798568ae9ce21c295b242897dc8cd68af0eb09758371"), looks := false }, kinds := [], alts := [], laidByText := true, laidKinds := [.data, .pinned], laidTests := true, laidLooks := .later }
def RowsOrderUptoCardSaid : Prop := Claim7.holds Tryz.pinned (.plain (OpenSpec.upto rowsOrderSpec)) rowsOrderUptoCard

/-- THE SECOND FORM's CARD OF 'eskerlaw12.RowsApart'. -/
def rowsApartUptoCard : Claim7 := { stood := { row := rowsApartUptoRow, standIns := [], harness := (true, "8f30b50a873e3e680f2e798568ae9ce21c295b242897dc8cd68af0eb09758371"), looks := false }, kinds := [], alts := [], laidByText := true, laidKinds := [.data, .pinned], laidTests := true, laidLooks := .later }
def RowsApartUptoCardSaid : Prop := Claim7.holds Tryz.pinned (.plain (OpenSpec.upto rowsApartSpec)) rowsApartUptoCard
end Rows
end Go.Proofs.YtpjiioeodcinpaaGreatDoor
