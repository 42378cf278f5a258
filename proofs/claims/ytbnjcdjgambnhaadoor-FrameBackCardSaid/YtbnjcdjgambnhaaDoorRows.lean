/-
  NARROWER THAN 'FOR EVERY INPUT', by the rows' own cells (each row's printed sentence says how): FrameSums: laid · FrameBack: laid · FrameTurned: laid · FrameOwn: laid · FrameKinds: laid.
  DERIVED. THE GIVEN ROWS OF THIS SEAT. 5 by the template 'for every input the law returns true; each argument reads behind the call as it read before'; 0 by the template 'total and deterministic' (their statements: YtbnjcdjgambnhaaDoorTotals.lean).
  GIVEN WITH THE SEED: the statements are not yours to turn. If you find one false, say at which input.
  Laid BY PROGRAM, IN A SANDBOX (cutbox-rows.mjs): the forced cells as the released guide's own fill.sh prints them over the translation 03aaa46cc664ddc6… (all of the seat's roots in one cut). By AI agents, Wed Nov 11 2026. No macro, syntax, notation, axiom, sorry.
-/
import Derived.Test.YtbnjcdjgambnhaaDoorChecked
import GoSem.Claim
import GoSem.ClaimJoined
import GoSem.ClaimMapViews
import Derived.JoinedTies
import Derived.KernelRfl
namespace Go.Proofs.YtbnjcdjgambnhaaDoor
/- THE CELL 'sum', in the pinned program and in every row, IS THE sha256 OF THE DUMP (.gsa) THAT YtbnjcdjgambnhaaDoorProg.lean LOADS. Nothing in Lean hashes anything: it is a label: what it is worth is what the hold of that sum in a sandbox is worth. -/
noncomputable def Tryd.pinned : Pinned := { name := "ytbnjcdjgambnhaadoor", sum := "03aaa46cc664ddc627533e0ebfd0c32c8280e99f567c5342e7bb12228cdc68ca", checked := Tryd.checked }
namespace Rows
def none {H : Type} : Left H := { results := [], args := [] }

/- WHAT THE LISTED PACKAGE-LEVEL VARIABLES READ AS WHEN THE CALL BEGINS. Each datum BY PROGRAM (the guide's laid-datum.mjs) off the statement by which the dump's own 'gosem.cut.vars' lays the variable. In a bare row this is a premise. The card (YtbnjcdjgambnhaaDoorCards.lean) ties it to the program's text. -/
def laid_esker_frame_halves {H : Type} : DataW H := .agg [.lit (.int .u32 0), .lit (.int .u32 498536548), .lit (.int .u32 997073096), .lit (.int .u32 651767980), .lit (.int .u32 1994146192), .lit (.int .u32 1802195444), .lit (.int .u32 1303535960), .lit (.int .u32 1342533948), .lit (.int .u32 3988292384), .lit (.int .u32 4027552580), .lit (.int .u32 3604390888), .lit (.int .u32 3412177804), .lit (.int .u32 2607071920), .lit (.int .u32 2262029012), .lit (.int .u32 2685067896), .lit (.int .u32 3183342108)]

/-- 'eskerlaw05.FrameSums': WHATEVER THE INPUT: true; the input reads as it did. -/
def frameSumsSpec : ChangeSpec := { name := "frameSums", fn := fun _ => fun
  | [d1, d2] => { results := [.lit (.bool true)], args := [d1, d2] }
  | _ => none }
def frameSumsRow : OpenClaim := { program := "ytbnjcdjgambnhaadoor", sum := "03aaa46cc664ddc627533e0ebfd0c32c8280e99f567c5342e7bb12228cdc68ca", func := "esker/eskerlaw05.FrameSums", spec := "frameSums", unfollowed := true, recurses := true, named := ["esker/frame.halves"], apart := false, laid := [("esker/frame.halves", laid_esker_frame_halves)] }
def FrameSumsSaid : Prop := frameSumsRow.holds Tryd.pinned (OpenSpec.ofChange frameSumsSpec)

/-- ITS FALSE NEIGHBOUR: 'it returns false'. Refute it at one input. -/
def frameSumsWrong : ChangeSpec := { name := "frameSums", fn := fun _ => fun
  | [d1, d2] => { results := [.lit (.bool false)], args := [d1, d2] }
  | _ => none }
def FrameSumsWrongFalsely : Prop := frameSumsRow.holds Tryd.pinned (OpenSpec.ofChange frameSumsWrong)

/-- 'eskerlaw05.FrameBack': WHATEVER THE INPUT: true; the input reads as it did. -/
def frameBackSpec : ChangeSpec := { name := "frameBack", fn := fun _ => fun
  | [d1, d2, d3] => { results := [.lit (.bool true)], args := [d1, d2, d3] }
  | _ => none }
def frameBackRow : OpenClaim := { program := "ytbnjcdjgambnhaadoor", sum := "03aaa46cc664ddc627533e0ebfd0c32c8280e99f567c5342e7bb12228cdc68ca", func := "esker/eskerlaw05.FrameBack", spec := "frameBack", unfollowed := true, recurses := true, named := ["esker/frame.halves"], apart := false, laid := [("esker/frame.halves", laid_esker_frame_halves)] }
def FrameBackSaid : Prop := frameBackRow.holds Tryd.pinned (OpenSpec.ofChange frameBackSpec)

/-- ITS FALSE NEIGHBOUR: 'it returns false'. Refute it at one input. -/
def frameBackWrong : ChangeSpec := { name := "frameBack", fn := fun _ => fun
  | [d1, d2, d3] => { results := [.lit (.bool false)], args := [d1, d2, d3] }
  | _ => none }
def FrameBackWrongFalsely : Prop := frameBackRow.holds Tryd.pinned (OpenSpec.ofChange frameBackWrong)

/-- 'eskerlaw05.FrameTurned': WHATEVER THE INPUT: true; the input reads as it did. -/
def frameTurnedSpec : ChangeSpec := { name := "frameTurned", fn := fun _ => fun
  | [d1, d2, d3] => { results := [.lit (.bool true)], args := [d1, d2, d3] }
  | _ => none }
def frameTurnedRow : OpenClaim := { program := "ytbnjcdjgambnhaadoor", sum := "03aaa46cc664ddc627533e0ebfd0c32c8280e99f567c5342e7bb12228cdc68ca", func := "esker/eskerlaw05.FrameTurned", spec := "frameTurned", unfollowed := true, recurses := true, named := ["esker/frame.halves"], apart := false, laid := [("esker/frame.halves", laid_esker_frame_halves)] }
def FrameTurnedSaid : Prop := frameTurnedRow.holds Tryd.pinned (OpenSpec.ofChange frameTurnedSpec)

/-- ITS FALSE NEIGHBOUR: 'it returns false'. Refute it at one input. -/
def frameTurnedWrong : ChangeSpec := { name := "frameTurned", fn := fun _ => fun
  | [d1, d2, d3] => { results := [.lit (.bool false)], args := [d1, d2, d3] }
  | _ => none }
def FrameTurnedWrongFalsely : Prop := frameTurnedRow.holds Tryd.pinned (OpenSpec.ofChange frameTurnedWrong)

/-- 'eskerlaw05.FrameOwn': WHATEVER THE INPUT: true; the input reads as it did. -/
def frameOwnSpec : ChangeSpec := { name := "frameOwn", fn := fun _ => fun
  | [d1, d2] => { results := [.lit (.bool true)], args := [d1, d2] }
  | _ => none }
def frameOwnRow : OpenClaim := { program := "ytbnjcdjgambnhaadoor", sum := "03aaa46cc664ddc627533e0ebfd0c32c8280e99f567c5342e7bb12228cdc68ca", func := "esker/eskerlaw05.FrameOwn", spec := "frameOwn", unfollowed := true, recurses := true, named := ["esker/frame.halves"], apart := false, laid := [("esker/frame.halves", laid_esker_frame_halves)] }
def FrameOwnSaid : Prop := frameOwnRow.holds Tryd.pinned (OpenSpec.ofChange frameOwnSpec)

/-- ITS FALSE NEIGHBOUR: 'it returns false'. Refute it at one input. -/
def frameOwnWrong : ChangeSpec := { name := "frameOwn", fn := fun _ => fun
  | [d1, d2] => { results := [.lit (.bool false)], args := [d1, d2] }
  | _ => none }
def FrameOwnWrongFalsely : Prop := frameOwnRow.holds Tryd.pinned (OpenSpec.ofChange frameOwnWrong)

/-- 'eskerlaw05.FrameKinds': WHATEVER THE INPUT: true; the input reads as it did. -/
def frameKindsSpec : ChangeSpec := { name := "frameKinds", fn := fun _ => fun
  | [d1, d2, d3] => { results := [.lit (.bool true)], args := [d1, d2, d3] }
  | _ => none }
def frameKindsRow : OpenClaim := { program := "ytbnjcdjgambnhaadoor", sum := "03aaa46cc664ddc627533e0ebfd0c32c8280e99f567c5342e7bb12228cdc68ca", func := "esker/eskerlaw05.FrameKinds", spec := "frameKinds", unfollowed := true, recurses := true, named := ["esker/frame.halves"], apart := false, laid := [("esker/frame.halves", laid_esker_frame_halves)] }
def FrameKindsSaid : Prop := frameKindsRow.holds Tryd.pinned (OpenSpec.ofChange frameKindsSpec)

/-- ITS FALSE NEIGHBOUR: 'it returns false'. Refute it at one input. -/
def frameKindsWrong : ChangeSpec := { name := "frameKinds", fn := fun _ => fun
  | [d1, d2, d3] => { results := [.lit (.bool false)], args := [d1, d2, d3] }
  | _ => none }
def FrameKindsWrongFalsely : Prop := frameKindsRow.holds Tryd.pinned (OpenSpec.ofChange frameKindsWrong)

/- THE SECOND FORM. 'bulk': how many values and letters a reading holds, each counted each time it is reached (what is shared counts as often as it is met; a slice's spare places count too). A statement '..UptoSaid' is the law's where the arguments, and the package variables that the reading takes, are together of bulk at most 1048576: NARROWER than '..Said'. Prove '..Said' where nothing that the law and all that it calls make is longer than what came in: it says more and counts as full. Else prove '..UptoSaid'. A law counts once. -/
mutual
def uptoBulk {H : Type} : DataW H → Nat
  | .lit (.string bytes) => bytes.length + 1
  | .lit _ => 1
  | .nil => 1
  | .ptr d => uptoBulk d + 1
  | .slice elems spare => uptoBulkAll elems + uptoBulkAll spare + 1
  | .agg parts => uptoBulkAll parts + 1
  | .iface _ d => uptoBulk d + 1
  | .map entries => uptoBulkEntries entries + 1
  | .held _ => 1
def uptoBulkAll {H : Type} : List (DataW H) → Nat
  | [] => 0
  | d :: r => uptoBulk d + uptoBulkAll r
def uptoBulkEntries {H : Type} : List (Lit × DataW H) → Nat
  | [] => 0
  | x :: r => uptoBulkEntry x + uptoBulkEntries r
def uptoBulkEntry {H : Type} : Lit × DataW H → Nat
  | (.string bytes, d) => bytes.length + uptoBulk d + 1
  | (_, d) => uptoBulk d + 1
 end
def uptoSmall : (H : Type) → List (DataW H) → Bool := fun _ ds => decide (uptoBulkAll ds ≤ 1048576)
def OpenSpec.upto (s : _root_.Go.ChangeSpec) : _root_.Go.OpenSpec := { _root_.Go.OpenSpec.ofChange s with cond := some uptoSmall }

/-- 'eskerlaw05.FrameSums', WHERE WHAT IT READS IS OF BULK AT MOST 1048576: true; the input reads as it did. -/
def frameSumsUptoRow : OpenClaim := { program := "ytbnjcdjgambnhaadoor", sum := "03aaa46cc664ddc627533e0ebfd0c32c8280e99f567c5342e7bb12228cdc68ca", func := "esker/eskerlaw05.FrameSums", spec := "frameSums", unfollowed := true, recurses := true, named := ["esker/frame.halves"], apart := false, laid := [("esker/frame.halves", laid_esker_frame_halves)], narrowed := true }
def FrameSumsUptoSaid : Prop := frameSumsUptoRow.holds Tryd.pinned (OpenSpec.upto frameSumsSpec)

/-- 'eskerlaw05.FrameBack', WHERE WHAT IT READS IS OF BULK AT MOST 1048576: true; the input reads as it did. -/
def frameBackUptoRow : OpenClaim := { program := "ytbnjcdjgambnhaadoor", sum := "03aaa46cc664ddc627533e0ebfd0c32c8280e99f567c5342e7bb12228cdc68ca", func := "esker/eskerlaw05.FrameBack", spec := "frameBack", unfollowed := true, recurses := true, named := ["esker/frame.halves"], apart := false, laid := [("esker/frame.halves", laid_esker_frame_halves)], narrowed := true }
def FrameBackUptoSaid : Prop := frameBackUptoRow.holds Tryd.pinned (OpenSpec.upto frameBackSpec)

/-- 'eskerlaw05.FrameTurned', WHERE WHAT IT READS IS OF BULK AT MOST 1048576: true; the input reads as it did. -/
def frameTurnedUptoRow : OpenClaim := { program := "ytbnjcdjgambnhaadoor", sum := "03aaa46cc664ddc627533e0ebfd0c32c8280e99f567c5342e7bb12228cdc68ca", func := "esker/eskerlaw05.FrameTurned", spec := "frameTurned", unfollowed := true, recurses := true, named := ["esker/frame.halves"], apart := false, laid := [("esker/frame.halves", laid_esker_frame_halves)], narrowed := true }
def FrameTurnedUptoSaid : Prop := frameTurnedUptoRow.holds Tryd.pinned (OpenSpec.upto frameTurnedSpec)

/-- 'eskerlaw05.FrameOwn', WHERE WHAT IT READS IS OF BULK AT MOST 1048576: true; the input reads as it did. -/
def frameOwnUptoRow : OpenClaim := { program := "ytbnjcdjgambnhaadoor", sum := "03aaa46cc664ddc627533e0ebfd0c32c8280e99f567c5342e7bb12228cdc68ca", func := "esker/eskerlaw05.FrameOwn", spec := "frameOwn", unfollowed := true, recurses := true, named := ["esker/frame.halves"], apart := false, laid := [("esker/frame.halves", laid_esker_frame_halves)], narrowed := true }
def FrameOwnUptoSaid : Prop := frameOwnUptoRow.holds Tryd.pinned (OpenSpec.upto frameOwnSpec)

/-- 'eskerlaw05.FrameKinds', WHERE WHAT IT READS IS OF BULK AT MOST 1048576: true; the input reads as it did. -/
def frameKindsUptoRow : OpenClaim := { program := "ytbnjcdjgambnhaadoor", sum := "03aaa46cc664ddc627533e0ebfd0c32c8280e99f567c5342e7bb12228cdc68ca", func := "esker/eskerlaw05.FrameKinds", spec := "frameKinds", unfollowed := true, recurses := true, named := ["esker/frame.halves"], apart := false, laid := [("esker/frame.halves", laid_esker_frame_halves)], narrowed := true }
def FrameKindsUptoSaid : Prop := frameKindsUptoRow.holds Tryd.pinned (OpenSpec.upto frameKindsSpec)

end Rows
end Go.Proofs.YtbnjcdjgambnhaaDoor
