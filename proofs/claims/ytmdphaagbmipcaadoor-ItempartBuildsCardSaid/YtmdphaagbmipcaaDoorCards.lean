/-
  DERIVED. GIVEN WITH THE SEED: THE CARDS: each row of YtmdphaagbmipcaaDoorRows.lean that lists a variable, with what it lists TIED to the program's text (the seventh form; the later family's looks); each row that meets fmt, with fmt's text TOLD by the authors' own Lean function (tested against real Go, not proved from fmt's source: count such statements apart). THE CARD IS WHAT COUNTS. Prove the row's statement (the work); the ties are given (YtmdphaagbmipcaaDoorTie.lean); close each card by the builder's one call (the guide's Derived/Test/ToyasCard.lean, 'card_holds'). Laid BY PROGRAM, IN A SANDBOX (cutbox-door.mjs). By AI agents, Wed Nov 11 2026. No macro, syntax, notation, axiom, sorry.
-/
import Derived.Test.YtmdphaagbmipcaaDoorRows
import GoSem.ClaimSeven
namespace Go.Proofs.YtmdphaagbmipcaaDoor
namespace Rows

/-- THE TIED CARD OF 'eskerlaw10.ItempartBuilds'. -/
def itempartBuildsCard : Claim7 := { stood := { row := itempartBuildsRow, standIns := [], harness := (true, "9750523fcd669dd7fa8d8d0d70ca6073e419f1af66238f26be0cb97ebfd56da8"), looks := false }, kinds := [], alts := [], laidByText := true, laidKinds := [.data], laidTests := true, laidLooks := .later }
def ItempartBuildsCardSaid : Prop := Claim7.holds Tryd.pinned (.plain (OpenSpec.ofChange itempartBuildsSpec)) itempartBuildsCard

/-- THE TIED CARD OF 'eskerlaw10.ItempartTells'. -/
def itempartTellsCard : Claim7 := { stood := { row := itempartTellsRow, standIns := [], harness := (true, "9750523fcd669dd7fa8d8d0d70ca6073e419f1af66238f26be0cb97ebfd56da8"), looks := false }, kinds := [], alts := [], laidByText := true, laidKinds := [.data], laidTests := true, laidLooks := .later }
def ItempartTellsCardSaid : Prop := Claim7.holds Tryd.pinned (.plain (OpenSpec.ofChange itempartTellsSpec)) itempartTellsCard

/-- THE TIED CARD OF 'eskerlaw10.ItempartBack'. -/
def itempartBackCard : Claim7 := { stood := { row := itempartBackRow, standIns := [], harness := (true, "9750523fcd669dd7fa8d8d0d70ca6073e419f1af66238f26be0cb97ebfd56da8"), looks := false }, kinds := [], alts := [], laidByText := true, laidKinds := [.data], laidTests := true, laidLooks := .later }
def ItempartBackCardSaid : Prop := Claim7.holds Tryd.pinned (.plain (OpenSpec.ofChange itempartBackSpec)) itempartBackCard

/-- THE TIED CARD OF 'eskerlaw10.ItempartTurned'. -/
def itempartTurnedCard : Claim7 := { stood := { row := itempartTurnedRow, standIns := [], harness := (true, "9750523fcd669dd7fa8d8d0d70ca6073e419f1af66238f26be0cb97ebfd56da8"), looks := false }, kinds := [], alts := [], laidByText := true, laidKinds := [.data], laidTests := true, laidLooks := .later }
def ItempartTurnedCardSaid : Prop := Claim7.holds Tryd.pinned (.plain (OpenSpec.ofChange itempartTurnedSpec)) itempartTurnedCard

/-- THE TIED CARD OF 'eskerlaw10.ItempartParts'. -/
def itempartPartsCard : Claim7 := { stood := { row := itempartPartsRow, standIns := [], harness := (true, "9750523fcd669dd7fa8d8d0d70ca6073e419f1af66238f26be0cb97ebfd56da8"), looks := false }, kinds := [], alts := [], laidByText := true, laidKinds := [.data], laidTests := true, laidLooks := .later }
def ItempartPartsCardSaid : Prop := Claim7.holds Tryd.pinned (.plain (OpenSpec.ofChange itempartPartsSpec)) itempartPartsCard

/-- THE TIED CARD OF 'eskerlaw10.ItempartNone'. -/
def itempartNoneCard : Claim7 := { stood := { row := itempartNoneRow, standIns := [], harness := (true, "9750523fcd669dd7fa8d8d0d70ca6073e419f1af66238f26be0cb97ebfd56da8"), looks := false }, kinds := [], alts := [], laidByText := true, laidKinds := [.data], laidTests := true, laidLooks := .later }
def ItempartNoneCardSaid : Prop := Claim7.holds Tryd.pinned (.plain (OpenSpec.ofChange itempartNoneSpec)) itempartNoneCard

/-- THE SECOND FORM's CARD OF 'eskerlaw10.ItempartBuilds'. -/
def itempartBuildsUptoCard : Claim7 := { stood := { row := itempartBuildsUptoRow, standIns := [], harness := (true, "9750523fcd669dd7fa8d8d0d70ca6073e419f1af66238f26be0cb97ebfd56da8"), looks := false }, kinds := [], alts := [], laidByText := true, laidKinds := [.data], laidTests := true, laidLooks := .later }
def ItempartBuildsUptoCardSaid : Prop := Claim7.holds Tryd.pinned (.plain (OpenSpec.upto itempartBuildsSpec)) itempartBuildsUptoCard

/-- THE SECOND FORM's CARD OF 'eskerlaw10.ItempartTells'. -/
def itempartTellsUptoCard : Claim7 := { stood := { row := itempartTellsUptoRow, standIns := [], harness := (true, "9750523fcd669dd7fa8d8d0d70ca6073e419f1af66238f26be0cb97ebfd56da8"), looks := false }, kinds := [], alts := [], laidByText := true, laidKinds := [.data], laidTests := true, laidLooks := .later }
def ItempartTellsUptoCardSaid : Prop := Claim7.holds Tryd.pinned (.plain (OpenSpec.upto itempartTellsSpec)) itempartTellsUptoCard

/-- THE SECOND FORM's CARD OF 'eskerlaw10.ItempartBack'. -/
def itempartBackUptoCard : Claim7 := { stood := { row := itempartBackUptoRow, standIns := [], harness := (true, "9750523fcd669dd7fa8d8d0d70ca6073e419f1af66238f26be0cb97ebfd56da8"), looks := false }, kinds := [], alts := [], laidByText := true, laidKinds := [.data], laidTests := true, laidLooks := .later }
def ItempartBackUptoCardSaid : Prop := Claim7.holds Tryd.pinned (.plain (OpenSpec.upto itempartBackSpec)) itempartBackUptoCard

/-- THE SECOND FORM's CARD OF 'eskerlaw10.ItempartTurned'. -/
def itempartTurnedUptoCard : Claim7 := { stood := { row := itempartTurnedUptoRow, standIns := [], harness := (true, "9750523fcd669dd7fa8d8d0d70ca6073e419f1af66238f26be0cb97ebfd56da8"), looks := false }, kinds := [], alts := [], laidByText := true, laidKinds := [.data], laidTests := true, laidLooks := .later }
def ItempartTurnedUptoCardSaid : Prop := Claim7.holds Tryd.pinned (.plain (OpenSpec.upto itempartTurnedSpec)) itempartTurnedUptoCard

/-- THE SECOND FORM's CARD OF 'eskerlaw10.ItempartParts'. -/
def itempartPartsUptoCard : Claim7 := { stood := { row := itempartPartsUptoRow, standIns := [], harness := (true, "9750523fcd669dd7fa8d8d0d70ca6073e419f1af66238f26be0cb97ebfd56da8"), looks := false }, kinds := [], alts := [], laidByText := true, laidKinds := [.data], laidTests := true, laidLooks := .later }
def ItempartPartsUptoCardSaid : Prop := Claim7.holds Tryd.pinned (.plain (OpenSpec.upto itempartPartsSpec)) itempartPartsUptoCard

/-- THE SECOND FORM's CARD OF 'eskerlaw10.ItempartNone'. -/
def itempartNoneUptoCard : Claim7 := { stood := { row := itempartNoneUptoRow, standIns := [], harness := (true, "9750523fcd669dd7fa8d8d0d70ca6073e419f1af66238f26be0cb97ebfd56da8"), looks := false }, kinds := [], alts := [], laidByText := true, laidKinds := [.data], laidTests := true, laidLooks := .later }
def ItempartNoneUptoCardSaid : Prop := Claim7.holds Tryd.pinned (.plain (OpenSpec.upto itempartNoneSpec)) itempartNoneUptoCard
end Rows
end Go.Proofs.YtmdphaagbmipcaaDoor
