/-
  DERIVED. GIVEN WITH THE SEED: THE CARDS: each row of YtbnjcdjgambnhaaDoorRows.lean that lists a variable, with what it lists TIED to the program's text (the seventh form; the later family's looks); each row that meets fmt, with fmt's text TOLD by the authors' own Lean function (tested against real Go, not proved from fmt's source: count such statements apart). THE CARD IS WHAT COUNTS. Prove the row's statement (the work); the ties are given (YtbnjcdjgambnhaaDoorTie.lean); close each card by the builder's one call (the guide's Derived/Test/ToyasCard.lean, 'card_holds'). Laid BY PROGRAM, IN A SANDBOX (cutbox-door.mjs). By AI agents, Wed Nov 11 2026. No macro, syntax, notation, axiom, sorry.
-/
import Derived.Test.YtbnjcdjgambnhaaDoorRows
import GoSem.ClaimSeven
namespace Go.Proofs.YtbnjcdjgambnhaaDoor
namespace Rows

/-- THE TIED CARD OF 'eskerlaw05.FrameSums'. -/
def frameSumsCard : Claim7 := { stood := { row := frameSumsRow, standIns := [], harness := (true, "1e33bb0a793bb80f35d1427b56526076d247bc62253042da2be5e62c13294839"), looks := false }, kinds := [], alts := [], laidByText := true, laidKinds := [.data], laidTests := true, laidLooks := .later }
def FrameSumsCardSaid : Prop := Claim7.holds Tryd.pinned (.plain (OpenSpec.ofChange frameSumsSpec)) frameSumsCard

/-- THE TIED CARD OF 'eskerlaw05.FrameBack'. -/
def frameBackCard : Claim7 := { stood := { row := frameBackRow, standIns := [], harness := (true, "1e33bb0a793bb80f35d1427b56526076d247bc62253042da2be5e62c13294839"), looks := false }, kinds := [], alts := [], laidByText := true, laidKinds := [.data], laidTests := true, laidLooks := .later }
def FrameBackCardSaid : Prop := Claim7.holds Tryd.pinned (.plain (OpenSpec.ofChange frameBackSpec)) frameBackCard

/-- THE TIED CARD OF 'eskerlaw05.FrameTurned'. -/
def frameTurnedCard : Claim7 := { stood := { row := frameTurnedRow, standIns := [], harness := (true, "1e33bb0a793bb80f35d1427b56526076d247bc62253042da2be5e62c13294839"), looks := false }, kinds := [], alts := [], laidByText := true, laidKinds := [.data], laidTests := true, laidLooks := .later }
def FrameTurnedCardSaid : Prop := Claim7.holds Tryd.pinned (.plain (OpenSpec.ofChange frameTurnedSpec)) frameTurnedCard

/-- THE TIED CARD OF 'eskerlaw05.FrameOwn'. -/
def frameOwnCard : Claim7 := { stood := { row := frameOwnRow, standIns := [], harness := (true, "1e33bb0a793bb80f35d1427b56526076d247bc62253042da2be5e62c13294839"), looks := false }, kinds := [], alts := [], laidByText := true, laidKinds := [.data], laidTests := true, laidLooks := .later }
def FrameOwnCardSaid : Prop := Claim7.holds Tryd.pinned (.plain (OpenSpec.ofChange frameOwnSpec)) frameOwnCard

/-- THE TIED CARD OF 'eskerlaw05.FrameKinds'. -/
def frameKindsCard : Claim7 := { stood := { row := frameKindsRow, standIns := [], harness := (true, "1e33bb0a793bb80f35d1427b56526076d247bc62253042da2be5e62c13294839"), looks := false }, kinds := [], alts := [], laidByText := true, laidKinds := [.data], laidTests := true, laidLooks := .later }
def FrameKindsCardSaid : Prop := Claim7.holds Tryd.pinned (.plain (OpenSpec.ofChange frameKindsSpec)) frameKindsCard

/-- THE SECOND FORM's CARD OF 'eskerlaw05.FrameSums'. -/
def frameSumsUptoCard : Claim7 := { stood := { row := frameSumsUptoRow, standIns := [], harness := (true, "1e33bb0a793bb80f35d1427b56526076d247bc62253042da2be5e62c13294839"), looks := false }, kinds := [], alts := [], laidByText := true, laidKinds := [.data], laidTests := true, laidLooks := .later }
def FrameSumsUptoCardSaid : Prop := Claim7.holds Tryd.pinned (.plain (OpenSpec.upto frameSumsSpec)) frameSumsUptoCard

/-- THE SECOND FORM's CARD OF 'eskerlaw05.FrameBack'. -/
def frameBackUptoCard : Claim7 := { stood := { row := frameBackUptoRow, standIns := [], harness := (true, "1e33bb0a793bb80f35d1427b56526076d247bc62253042da2be5e62c13294839"), looks := false }, kinds := [], alts := [], laidByText := true, laidKinds := [.data], laidTests := true, laidLooks := .later }
def FrameBackUptoCardSaid : Prop := Claim7.holds Tryd.pinned (.plain (OpenSpec.upto frameBackSpec)) frameBackUptoCard

/-- THE SECOND FORM's CARD OF 'eskerlaw05.FrameTurned'. -/
def frameTurnedUptoCard : Claim7 := { stood := { row := frameTurnedUptoRow, standIns := [], harness := (true, "1e33bb0a793bb80f35d1427b56526076d247bc62253042da2be5e62c13294839"), looks := false }, kinds := [], alts := [], laidByText := true, laidKinds := [.data], laidTests := true, laidLooks := .later }
def FrameTurnedUptoCardSaid : Prop := Claim7.holds Tryd.pinned (.plain (OpenSpec.upto frameTurnedSpec)) frameTurnedUptoCard

/-- THE SECOND FORM's CARD OF 'eskerlaw05.FrameOwn'. -/
def frameOwnUptoCard : Claim7 := { stood := { row := frameOwnUptoRow, standIns := [], harness := (true, "1e33bb0a793bb80f35d1427b56526076d247bc62253042da2be5e62c13294839"), looks := false }, kinds := [], alts := [], laidByText := true, laidKinds := [.data], laidTests := true, laidLooks := .later }
def FrameOwnUptoCardSaid : Prop := Claim7.holds Tryd.pinned (.plain (OpenSpec.upto frameOwnSpec)) frameOwnUptoCard

/-- THE SECOND FORM's CARD OF 'eskerlaw05.FrameKinds'. -/
def frameKindsUptoCard : Claim7 := { stood := { row := frameKindsUptoRow, standIns := [], harness := (true, "1e33bb0a793bb80f35d1427b56526076d247bc62253042da2be5e62c13294839"), looks := false }, kinds := [], alts := [], laidByText := true, laidKinds := [.data], laidTests := true, laidLooks := .later }
def FrameKindsUptoCardSaid : Prop := Claim7.holds Tryd.pinned (.plain (OpenSpec.upto frameKindsSpec)) frameKindsUptoCard
end Rows
end Go.Proofs.YtbnjcdjgambnhaaDoor
