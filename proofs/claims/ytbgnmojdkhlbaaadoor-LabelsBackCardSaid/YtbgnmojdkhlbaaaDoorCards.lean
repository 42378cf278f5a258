/-
  DERIVED. GIVEN WITH THE SEED: THE CARDS: each row of YtbgnmojdkhlbaaaDoorRows.lean that lists a variable, with what it lists TIED to the program's text (the seventh form; the later family's looks); each row that meets fmt, with fmt's text TOLD by the authors' own Lean function (tested against real Go, not proved from fmt's source: count such statements apart). THE CARD IS WHAT COUNTS. Prove the row's statement (the work); the ties are given (YtbgnmojdkhlbaaaDoorTie.lean); close each card by the builder's one call (the guide's Derived/Test/ToyasCard.lean, 'card_holds'). Laid BY PROGRAM, IN A SANDBOX (cutbox-door.mjs). By AI agents, Wed Nov 11 2026. No macro, syntax, notation, axiom, sorry.
-/
import Derived.Test.YtbgnmojdkhlbaaaDoorRows
import GoSem.ClaimSeven
namespace Go.Proofs.YtbgnmojdkhlbaaaDoor
namespace Rows

/-- THE TIED CARD OF 'eskerlaw07.LabelsCanons'. -/
def labelsCanonsCard : Claim7 := { stood := { row := labelsCanonsRow, standIns := [], harness := (true, "c2f0d3ca527bf44c30b33168c3453117f3caf6d3997223fd0367e96c871da660"), looks := false }, kinds := [], alts := [], laidByText := true, laidKinds := [.data, .pinned], laidTests := true, laidLooks := .later }
def LabelsCanonsCardSaid : Prop := Claim7.holds Tryd.pinned (.plain (OpenSpec.ofChange labelsCanonsSpec)) labelsCanonsCard

/-- THE TIED CARD OF 'eskerlaw07.LabelsCompares'. -/
def labelsComparesCard : Claim7 := { stood := { row := labelsComparesRow, standIns := [], harness := (true, "c2f0d3ca527bf44c30b33168c3453117f3caf6d3997223fd0367e96c871da660"), looks := false }, kinds := [], alts := [], laidByText := true, laidKinds := [.data, .pinned], laidTests := true, laidLooks := .later }
def LabelsComparesCardSaid : Prop := Claim7.holds Tryd.pinned (.plain (OpenSpec.ofChange labelsComparesSpec)) labelsComparesCard

/-- THE TIED CARD OF 'eskerlaw07.LabelsOwn'. -/
def labelsOwnCard : Claim7 := { stood := { row := labelsOwnRow, standIns := [], harness := (true, "c2f0d3ca527bf44c30b33168c3453117f3caf6d3997223fd0367e96c871da660"), looks := false }, kinds := [], alts := [], laidByText := true, laidKinds := [.data, .pinned], laidTests := true, laidLooks := .later }
def LabelsOwnCardSaid : Prop := Claim7.holds Tryd.pinned (.plain (OpenSpec.ofChange labelsOwnSpec)) labelsOwnCard

/-- THE TIED CARD OF 'eskerlaw07.LabelsOrders'. -/
def labelsOrdersCard : Claim7 := { stood := { row := labelsOrdersRow, standIns := [], harness := (true, "c2f0d3ca527bf44c30b33168c3453117f3caf6d3997223fd0367e96c871da660"), looks := false }, kinds := [], alts := [], laidByText := true, laidKinds := [.data, .pinned], laidTests := true, laidLooks := .later }
def LabelsOrdersCardSaid : Prop := Claim7.holds Tryd.pinned (.plain (OpenSpec.ofChange labelsOrdersSpec)) labelsOrdersCard

/-- THE TIED CARD OF 'eskerlaw07.LabelsBytes'. -/
def labelsBytesCard : Claim7 := { stood := { row := labelsBytesRow, standIns := [], harness := (true, "c2f0d3ca527bf44c30b33168c3453117f3caf6d3997223fd0367e96c871da660"), looks := false }, kinds := [], alts := [], laidByText := true, laidKinds := [.data, .pinned], laidTests := true, laidLooks := .later }
def LabelsBytesCardSaid : Prop := Claim7.holds Tryd.pinned (.plain (OpenSpec.ofChange labelsBytesSpec)) labelsBytesCard

/-- THE TIED CARD OF 'eskerlaw07.LabelsBack'. -/
def labelsBackCard : Claim7 := { stood := { row := labelsBackRow, standIns := [], harness := (true, "c2f0d3ca527bf44c30b33168c3453117f3caf6d3997223fd0367e96c871da660"), looks := false }, kinds := [], alts := [], laidByText := true, laidKinds := [.data, .pinned], laidTests := true, laidLooks := .later }
def LabelsBackCardSaid : Prop := Claim7.holds Tryd.pinned (.plain (OpenSpec.ofChange labelsBackSpec)) labelsBackCard

/-- THE SECOND FORM's CARD OF 'eskerlaw07.LabelsCanons'. -/
def labelsCanonsUptoCard : Claim7 := { stood := { row := labelsCanonsUptoRow, standIns := [], harness := (true, "c2f0d3ca527bf44c30b33168c3453117f3caf6d3997223fd0367e96c871da660"), looks := false }, kinds := [], alts := [], laidByText := true, laidKinds := [.data, .pinned], laidTests := true, laidLooks := .later }
def LabelsCanonsUptoCardSaid : Prop := Claim7.holds Tryd.pinned (.plain (OpenSpec.upto labelsCanonsSpec)) labelsCanonsUptoCard

/-- THE SECOND FORM's CARD OF 'eskerlaw07.LabelsCompares'. -/
def labelsComparesUptoCard : Claim7 := { stood := { row := labelsComparesUptoRow, standIns := [], harness := (true, "c2f0d3ca527bf44c30b33168c3453117f3caf6d3997223fd0367e96c871da660"), looks := false }, kinds := [], alts := [], laidByText := true, laidKinds := [.data, .pinned], laidTests := true, laidLooks := .later }
def LabelsComparesUptoCardSaid : Prop := Claim7.holds Tryd.pinned (.plain (OpenSpec.upto labelsComparesSpec)) labelsComparesUptoCard

/-- THE SECOND FORM's CARD OF 'eskerlaw07.LabelsOwn'. -/
def labelsOwnUptoCard : Claim7 := { stood := { row := labelsOwnUptoRow, standIns := [], harness := (true, "c2f0d3ca527bf44c30b33168c3453117f3caf6d3997223fd0367e96c871da660"), looks := false }, kinds := [], alts := [], laidByText := true, laidKinds := [.data, .pinned], laidTests := true, laidLooks := .later }
def LabelsOwnUptoCardSaid : Prop := Claim7.holds Tryd.pinned (.plain (OpenSpec.upto labelsOwnSpec)) labelsOwnUptoCard

/-- THE SECOND FORM's CARD OF 'eskerlaw07.LabelsOrders'. -/
def labelsOrdersUptoCard : Claim7 := { stood := { row := labelsOrdersUptoRow, standIns := [], harness := (true, "c2f0d3ca527bf44c30b33168c3453117f3caf6d3997223fd0367e96c871da660"), looks := false }, kinds := [], alts := [], laidByText := true, laidKinds := [.data, .pinned], laidTests := true, laidLooks := .later }
def LabelsOrdersUptoCardSaid : Prop := Claim7.holds Tryd.pinned (.plain (OpenSpec.upto labelsOrdersSpec)) labelsOrdersUptoCard

/-- THE SECOND FORM's CARD OF 'eskerlaw07.LabelsBytes'. -/
def labelsBytesUptoCard : Claim7 := { stood := { row := labelsBytesUptoRow, standIns := [], harness := (true, "c2f0d3ca527bf44c30b33168c3453117f3caf6d3997223fd0367e96c871da660"), looks := false }, kinds := [], alts := [], laidByText := true, laidKinds := [.data, .pinned], laidTests := true, laidLooks := .later }
def LabelsBytesUptoCardSaid : Prop := Claim7.holds Tryd.pinned (.plain (OpenSpec.upto labelsBytesSpec)) labelsBytesUptoCard

/-- THE SECOND FORM's CARD OF 'eskerlaw07.LabelsBack'. -/
def labelsBackUptoCard : Claim7 := { stood := { row := labelsBackUptoRow, standIns := [], harness := (true, "c2f0d3ca527bf44c30b33168c3453117f3caf6d3997223fd0367e96c871da660"), looks := false }, kinds := [], alts := [], laidByText := true, laidKinds := [.data, .pinned], laidTests := true, laidLooks := .later }
def LabelsBackUptoCardSaid : Prop := Claim7.holds Tryd.pinned (.plain (OpenSpec.upto labelsBackSpec)) labelsBackUptoCard
end Rows
end Go.Proofs.YtbgnmojdkhlbaaaDoor
