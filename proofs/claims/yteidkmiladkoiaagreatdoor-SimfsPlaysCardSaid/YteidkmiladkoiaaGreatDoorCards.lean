/-
  DERIVED. GIVEN WITH THE SEED: THE CARDS: each row of YteidkmiladkoiaaGreatDoorRows.lean that lists a variable, with what it lists TIED to the program's text (the seventh form; the later family's looks); each row that meets fmt, with fmt's text TOLD by the authors' own Lean function (tested against real Go, not proved from fmt's source: count such statements apart). THE CARD IS WHAT COUNTS. Prove the row's statement (the work); the ties are given (YteidkmiladkoiaaGreatDoorTie.lean); close each card by the builder's one call (the guide's Derived/Test/ToyasCard.lean, 'card_holds'). Laid BY PROGRAM, IN A SANDBOX (cutbox-door.mjs). By AI agents, Wed Nov 11 2026. No macro, syntax, notation, axiom, sorry.
-/
import Derived.Test.YteidkmiladkoiaaGreatDoorRows
import GoSem.ClaimSeven
namespace Go.Proofs.YteidkmiladkoiaaGreatDoor
namespace Rows

/-- THE TIED CARD OF 'eskerlaw06.SimfsPlays'. -/
def simfsPlaysCard : Claim7 := { stood := { row := simfsPlaysRow, standIns := [], harness := (true, "e42de9c23ac26ebb7dc6bdc2d444465acc9b41632e4977b0abf24e6f4c3716b3"), looks := true }, kinds := [], alts := [], laidByText := true, laidKinds := [.data, .pinned], laidTests := true, laidLooks := .later }
def SimfsPlaysCardSaid : Prop := Claim7.holds Tryz.pinned (.plain (OpenSpec.ofChange simfsPlaysSpec)) simfsPlaysCard

/-- THE TIED CARD OF 'eskerlaw06.SimfsKeeps'. -/
def simfsKeepsCard : Claim7 := { stood := { row := simfsKeepsRow, standIns := [], harness := (true, "e42de9c23ac26ebb7dc6bdc2d444465acc9b41632e4977b0abf24e6f4c3716b3"), looks := true }, kinds := [], alts := [], laidByText := true, laidKinds := [.data, .pinned], laidTests := true, laidLooks := .later }
def SimfsKeepsCardSaid : Prop := Claim7.holds Tryz.pinned (.plain (OpenSpec.ofChange simfsKeepsSpec)) simfsKeepsCard

/-- THE TIED CARD OF 'eskerlaw06.SimfsLinks'. -/
def simfsLinksCard : Claim7 := { stood := { row := simfsLinksRow, standIns := [], harness := (true, "e42de9c23ac26ebb7dc6bdc2d444465acc9b41632e4977b0abf24e6f4c3716b3"), looks := true }, kinds := [], alts := [], laidByText := true, laidKinds := [.data, .pinned], laidTests := true, laidLooks := .later }
def SimfsLinksCardSaid : Prop := Claim7.holds Tryz.pinned (.plain (OpenSpec.ofChange simfsLinksSpec)) simfsLinksCard

/-- THE TIED CARD OF 'eskerlaw06.SimfsTwice'. -/
def simfsTwiceCard : Claim7 := { stood := { row := simfsTwiceRow, standIns := [], harness := (true, "e42de9c23ac26ebb7dc6bdc2d444465acc9b41632e4977b0abf24e6f4c3716b3"), looks := true }, kinds := [], alts := [], laidByText := true, laidKinds := [.data, .pinned], laidTests := true, laidLooks := .later }
def SimfsTwiceCardSaid : Prop := Claim7.holds Tryz.pinned (.plain (OpenSpec.ofChange simfsTwiceSpec)) simfsTwiceCard

/-- THE TIED CARD OF 'eskerlaw06.SimfsNone'. -/
def simfsNoneCard : Claim7 := { stood := { row := simfsNoneRow, standIns := [], harness := (true, "e42de9c23ac26ebb7dc6bdc2d444465acc9b41632e4977b0abf24e6f4c3716b3"), looks := true }, kinds := [], alts := [], laidByText := true, laidKinds := [.data, .pinned], laidTests := true, laidLooks := .later }
def SimfsNoneCardSaid : Prop := Claim7.holds Tryz.pinned (.plain (OpenSpec.ofChange simfsNoneSpec)) simfsNoneCard

/-- THE SECOND FORM's CARD OF 'eskerlaw06.SimfsPlays'. -/
def simfsPlaysUptoCard : Claim7 := { stood := { row := simfsPlaysUptoRow, standIns := [], harness := (true, "e42de9c23ac26ebb7dc6bdc2d444465acc9b41632e4977b0abf24e6f4c3716b3"), looks := true }, kinds := [], alts := [], laidByText := true, laidKinds := [.data, .pinned], laidTests := true, laidLooks := .later }
def SimfsPlaysUptoCardSaid : Prop := Claim7.holds Tryz.pinned (.plain (OpenSpec.upto simfsPlaysSpec)) simfsPlaysUptoCard

/-- THE SECOND FORM's CARD OF 'eskerlaw06.SimfsKeeps'. -/
def simfsKeepsUptoCard : Claim7 := { stood := { row := simfsKeepsUptoRow, standIns := [], harness := (true, "e42de9c23ac26ebb7dc6bdc2d444465acc9b41632e4977b0abf24e6f4c3716b3"), looks := true }, kinds := [], alts := [], laidByText := true, laidKinds := [.data, .pinned], laidTests := true, laidLooks := .later }
def SimfsKeepsUptoCardSaid : Prop := Claim7.holds Tryz.pinned (.plain (OpenSpec.upto simfsKeepsSpec)) simfsKeepsUptoCard

/-- THE SECOND FORM's CARD OF 'eskerlaw06.SimfsLinks'. -/
def simfsLinksUptoCard : Claim7 := { stood := { row := simfsLinksUptoRow, standIns := [], harness := (true, "e42de9c23ac26ebb7dc6bdc2d444465acc9b41632e4977b0abf24e6f4c3716b3"), looks := true }, kinds := [], alts := [], laidByText := true, laidKinds := [.data, .pinned], laidTests := true, laidLooks := .later }
def SimfsLinksUptoCardSaid : Prop := Claim7.holds Tryz.pinned (.plain (OpenSpec.upto simfsLinksSpec)) simfsLinksUptoCard

/-- THE SECOND FORM's CARD OF 'eskerlaw06.SimfsTwice'. -/
def simfsTwiceUptoCard : Claim7 := { stood := { row := simfsTwiceUptoRow, standIns := [], harness := (true, "e42de9c23ac26ebb7dc6bdc2d444465acc9b41632e4977b0abf24e6f4c3716b3"), looks := true }, kinds := [], alts := [], laidByText := true, laidKinds := [.data, .pinned], laidTests := true, laidLooks := .later }
def SimfsTwiceUptoCardSaid : Prop := Claim7.holds Tryz.pinned (.plain (OpenSpec.upto simfsTwiceSpec)) simfsTwiceUptoCard

/-- THE SECOND FORM's CARD OF 'eskerlaw06.SimfsNone'. -/
def simfsNoneUptoCard : Claim7 := { stood := { row := simfsNoneUptoRow, standIns := [], harness := (true, "e42de9c23ac26ebb7dc6bdc2d444465acc9b41632e4977b0abf24e6f4c3716b3"), looks := true }, kinds := [], alts := [], laidByText := true, laidKinds := [.data, .pinned], laidTests := true, laidLooks := .later }
def SimfsNoneUptoCardSaid : Prop := Claim7.holds Tryz.pinned (.plain (OpenSpec.upto simfsNoneSpec)) simfsNoneUptoCard
end Rows
end Go.Proofs.YteidkmiladkoiaaGreatDoor
