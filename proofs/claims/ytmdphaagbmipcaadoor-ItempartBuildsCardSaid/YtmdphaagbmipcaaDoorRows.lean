/-
  NARROWER THAN 'FOR EVERY INPUT', by the rows' own cells (each row's printed sentence says how): ItempartBuilds: laid · ItempartTells: laid · ItempartBack: laid · ItempartTurned: laid · ItempartParts: laid · ItempartNone: laid.
  DERIVED. THE GIVEN ROWS OF THIS SEAT. 6 by the template 'for every input the law returns true; each argument reads behind the call as it read before'; 0 by the template 'total and deterministic' (their statements: YtmdphaagbmipcaaDoorTotals.lean).
  GIVEN WITH THE SEED: the statements are not yours to turn. If you find one false, say at which input.
  Laid BY PROGRAM, IN A SANDBOX (cutbox-rows.mjs): the forced cells as the released guide's own fill.sh prints them over the translation bbe7645d75156024… (all of the seat's roots in one cut). By AI agents, Wed Nov 11 2026. No macro, syntax, notation, axiom, sorry.
-/
import Derived.Test.YtmdphaagbmipcaaDoorChecked
import GoSem.Claim
import GoSem.ClaimJoined
import GoSem.ClaimMapViews
import Derived.JoinedTies
import Derived.KernelRfl
namespace Go.Proofs.YtmdphaagbmipcaaDoor
/- THE CELL 'sum', in the pinned program and in every row, IS THE sha256 OF THE DUMP (.gsa) THAT YtmdphaagbmipcaaDoorProg.lean LOADS. Nothing in Lean hashes anything: it is a label: what it is worth is what the hold of that sum in a sandbox is worth. -/
noncomputable def Tryd.pinned : Pinned := { name := "ytmdphaagbmipcaadoor", sum := "bbe7645d75156024642a14841692f0e975014dffe0846c896d48d91e849049f1", checked := Tryd.checked }
namespace Rows
def none {H : Type} : Left H := { results := [], args := [] }

/- WHAT THE LISTED PACKAGE-LEVEL VARIABLES READ AS WHEN THE CALL BEGINS. Each datum BY PROGRAM (the guide's laid-datum.mjs) off the statement by which the dump's own 'gosem.cut.vars' lays the variable. In a bare row this is a premise. The card (YtmdphaagbmipcaaDoorCards.lean) ties it to the program's text. -/
def laid_esker_frame_halves {H : Type} : DataW H := .agg [.lit (.int .u32 0), .lit (.int .u32 498536548), .lit (.int .u32 997073096), .lit (.int .u32 651767980), .lit (.int .u32 1994146192), .lit (.int .u32 1802195444), .lit (.int .u32 1303535960), .lit (.int .u32 1342533948), .lit (.int .u32 3988292384), .lit (.int .u32 4027552580), .lit (.int .u32 3604390888), .lit (.int .u32 3412177804), .lit (.int .u32 2607071920), .lit (.int .u32 2262029012), .lit (.int .u32 2685067896), .lit (.int .u32 3183342108)]

/-- 'eskerlaw10.ItempartBuilds': WHATEVER THE INPUT: true; the input reads as it did. -/
def itempartBuildsSpec : ChangeSpec := { name := "itempartBuilds", fn := fun _ => fun
  | [d1, d2] => { results := [.lit (.bool true)], args := [d1, d2] }
  | _ => none }
def itempartBuildsRow : OpenClaim := { program := "ytmdphaagbmipcaadoor", sum := "bbe7645d75156024642a14841692f0e975014dffe0846c896d48d91e849049f1", func := "esker/eskerlaw10.ItempartBuilds", spec := "itempartBuilds", inPlace := ["internal/bytealg.Compare"], unfollowed := true, recurses := true, named := ["esker/frame.halves"], apart := false, laid := [("esker/frame.halves", laid_esker_frame_halves)] }
def ItempartBuildsSaid : Prop := itempartBuildsRow.holds Tryd.pinned (OpenSpec.ofChange itempartBuildsSpec)

/-- ITS FALSE NEIGHBOUR: 'it returns false'. Refute it at one input. -/
def itempartBuildsWrong : ChangeSpec := { name := "itempartBuilds", fn := fun _ => fun
  | [d1, d2] => { results := [.lit (.bool false)], args := [d1, d2] }
  | _ => none }
def ItempartBuildsWrongFalsely : Prop := itempartBuildsRow.holds Tryd.pinned (OpenSpec.ofChange itempartBuildsWrong)

/-- 'eskerlaw10.ItempartTells': WHATEVER THE INPUT: true; the input reads as it did. -/
def itempartTellsSpec : ChangeSpec := { name := "itempartTells", fn := fun _ => fun
  | [d1, d2, d3] => { results := [.lit (.bool true)], args := [d1, d2, d3] }
  | _ => none }
def itempartTellsRow : OpenClaim := { program := "ytmdphaagbmipcaadoor", sum := "bbe7645d75156024642a14841692f0e975014dffe0846c896d48d91e849049f1", func := "esker/eskerlaw10.ItempartTells", spec := "itempartTells", inPlace := ["internal/bytealg.Compare"], unfollowed := true, recurses := true, named := ["esker/frame.halves"], apart := false, laid := [("esker/frame.halves", laid_esker_frame_halves)] }
def ItempartTellsSaid : Prop := itempartTellsRow.holds Tryd.pinned (OpenSpec.ofChange itempartTellsSpec)

/-- ITS FALSE NEIGHBOUR: 'it returns false'. Refute it at one input. -/
def itempartTellsWrong : ChangeSpec := { name := "itempartTells", fn := fun _ => fun
  | [d1, d2, d3] => { results := [.lit (.bool false)], args := [d1, d2, d3] }
  | _ => none }
def ItempartTellsWrongFalsely : Prop := itempartTellsRow.holds Tryd.pinned (OpenSpec.ofChange itempartTellsWrong)

/-- 'eskerlaw10.ItempartBack': WHATEVER THE INPUT: true; the input reads as it did. -/
def itempartBackSpec : ChangeSpec := { name := "itempartBack", fn := fun _ => fun
  | [d1, d2] => { results := [.lit (.bool true)], args := [d1, d2] }
  | _ => none }
def itempartBackRow : OpenClaim := { program := "ytmdphaagbmipcaadoor", sum := "bbe7645d75156024642a14841692f0e975014dffe0846c896d48d91e849049f1", func := "esker/eskerlaw10.ItempartBack", spec := "itempartBack", inPlace := ["internal/bytealg.Compare"], unfollowed := true, recurses := true, named := ["esker/frame.halves"], apart := false, laid := [("esker/frame.halves", laid_esker_frame_halves)] }
def ItempartBackSaid : Prop := itempartBackRow.holds Tryd.pinned (OpenSpec.ofChange itempartBackSpec)

/-- ITS FALSE NEIGHBOUR: 'it returns false'. Refute it at one input. -/
def itempartBackWrong : ChangeSpec := { name := "itempartBack", fn := fun _ => fun
  | [d1, d2] => { results := [.lit (.bool false)], args := [d1, d2] }
  | _ => none }
def ItempartBackWrongFalsely : Prop := itempartBackRow.holds Tryd.pinned (OpenSpec.ofChange itempartBackWrong)

/-- 'eskerlaw10.ItempartTurned': WHATEVER THE INPUT: true; the input reads as it did. -/
def itempartTurnedSpec : ChangeSpec := { name := "itempartTurned", fn := fun _ => fun
  | [d1, d2, d3] => { results := [.lit (.bool true)], args := [d1, d2, d3] }
  | _ => none }
def itempartTurnedRow : OpenClaim := { program := "ytmdphaagbmipcaadoor", sum := "bbe7645d75156024642a14841692f0e975014dffe0846c896d48d91e849049f1", func := "esker/eskerlaw10.ItempartTurned", spec := "itempartTurned", inPlace := ["internal/bytealg.Compare"], unfollowed := true, recurses := true, named := ["esker/frame.halves"], apart := false, laid := [("esker/frame.halves", laid_esker_frame_halves)] }
def ItempartTurnedSaid : Prop := itempartTurnedRow.holds Tryd.pinned (OpenSpec.ofChange itempartTurnedSpec)

/-- ITS FALSE NEIGHBOUR: 'it returns false'. Refute it at one input. -/
def itempartTurnedWrong : ChangeSpec := { name := "itempartTurned", fn := fun _ => fun
  | [d1, d2, d3] => { results := [.lit (.bool false)], args := [d1, d2, d3] }
  | _ => none }
def ItempartTurnedWrongFalsely : Prop := itempartTurnedRow.holds Tryd.pinned (OpenSpec.ofChange itempartTurnedWrong)

/-- 'eskerlaw10.ItempartParts': WHATEVER THE INPUT: true; the input reads as it did. -/
def itempartPartsSpec : ChangeSpec := { name := "itempartParts", fn := fun _ => fun
  | [d1, d2] => { results := [.lit (.bool true)], args := [d1, d2] }
  | _ => none }
def itempartPartsRow : OpenClaim := { program := "ytmdphaagbmipcaadoor", sum := "bbe7645d75156024642a14841692f0e975014dffe0846c896d48d91e849049f1", func := "esker/eskerlaw10.ItempartParts", spec := "itempartParts", inPlace := ["internal/bytealg.Compare"], unfollowed := true, recurses := true, named := ["esker/frame.halves"], apart := false, laid := [("esker/frame.halves", laid_esker_frame_halves)] }
def ItempartPartsSaid : Prop := itempartPartsRow.holds Tryd.pinned (OpenSpec.ofChange itempartPartsSpec)

/-- ITS FALSE NEIGHBOUR: 'it returns false'. Refute it at one input. -/
def itempartPartsWrong : ChangeSpec := { name := "itempartParts", fn := fun _ => fun
  | [d1, d2] => { results := [.lit (.bool false)], args := [d1, d2] }
  | _ => none }
def ItempartPartsWrongFalsely : Prop := itempartPartsRow.holds Tryd.pinned (OpenSpec.ofChange itempartPartsWrong)

/-- 'eskerlaw10.ItempartNone': WHATEVER THE INPUT: true; the input reads as it did. -/
def itempartNoneSpec : ChangeSpec := { name := "itempartNone", fn := fun _ => fun
  | [d1, d2] => { results := [.lit (.bool true)], args := [d1, d2] }
  | _ => none }
def itempartNoneRow : OpenClaim := { program := "ytmdphaagbmipcaadoor", sum := "bbe7645d75156024642a14841692f0e975014dffe0846c896d48d91e849049f1", func := "esker/eskerlaw10.ItempartNone", spec := "itempartNone", inPlace := ["internal/bytealg.Compare"], unfollowed := true, recurses := true, named := ["esker/frame.halves"], apart := false, laid := [("esker/frame.halves", laid_esker_frame_halves)] }
def ItempartNoneSaid : Prop := itempartNoneRow.holds Tryd.pinned (OpenSpec.ofChange itempartNoneSpec)

/-- ITS FALSE NEIGHBOUR: 'it returns false'. Refute it at one input. -/
def itempartNoneWrong : ChangeSpec := { name := "itempartNone", fn := fun _ => fun
  | [d1, d2] => { results := [.lit (.bool false)], args := [d1, d2] }
  | _ => none }
def ItempartNoneWrongFalsely : Prop := itempartNoneRow.holds Tryd.pinned (OpenSpec.ofChange itempartNoneWrong)

/- THE SECOND FORM. 'bulk': how many values and letters a reading holds, each counted each time it is reached (what is shared counts as often as it is met; a slice's spare places count too). A statement '..UptoSaid' is the law's where the arguments, and the package variables that the reading takes, are together of bulk at most 1048576: NARROWER than '..Said'. Prove '..Said' where nothing that the law and all that it calls make is longer than what came in: it says more and counts as full. Else prove '..UptoSaid'. A law counts once. -/
mutual
def uptoBulk {H : Type} : DataW H → Nat
  | .lit (.string bytes) => bytes.length + 1
  | .lit _ => 1
  | .nil => 1
  | .ptr d => uptoBulk d + 1
  | .slice elems spare => uptoBulkAll elems + uptoBulkAll spare + 1
  | .agg parts => uptoBulkAll parts + 1
  | .iface _ d => uptoBulk d + 1
  | .map entries => uptoBulkEntries entries + 1
  | .held _ => 1
def uptoBulkAll {H : Type} : List (DataW H) → Nat
  | [] => 0
  | d :: r => uptoBulk d + uptoBulkAll r
def uptoBulkEntries {H : Type} : List (Lit × DataW H) → Nat
  | [] => 0
  | x :: r => uptoBulkEntry x + uptoBulkEntries r
def uptoBulkEntry {H : Type} : Lit × DataW H → Nat
  | (.string bytes, d) => bytes.length + uptoBulk d + 1
  | (_, d) => uptoBulk d + 1
 end
def uptoSmall : (H : Type) → List (DataW H) → Bool := fun _ ds => decide (uptoBulkAll ds ≤ 1048576)
def OpenSpec.upto (s : _root_.Go.ChangeSpec) : _root_.Go.OpenSpec := { _root_.Go.OpenSpec.ofChange s with cond := some uptoSmall }

/-- 'eskerlaw10.ItempartBuilds', WHERE WHAT IT READS IS OF BULK AT MOST 1048576: true; the input reads as it did. -/
def itempartBuildsUptoRow : OpenClaim := { program := "ytmdphaagbmipcaadoor", sum := "bbe7645d75156024642a14841692f0e975014dffe0846c896d48d91e849049f1", func := "esker/eskerlaw10.ItempartBuilds", spec := "itempartBuilds", inPlace := ["internal/bytealg.Compare"], unfollowed := true, recurses := true, named := ["esker/frame.halves"], apart := false, laid := [("esker/frame.halves", laid_esker_frame_halves)], narrowed := true }
def ItempartBuildsUptoSaid : Prop := itempartBuildsUptoRow.holds Tryd.pinned (OpenSpec.upto itempartBuildsSpec)

/-- 'eskerlaw10.ItempartTells', WHERE WHAT IT READS IS OF BULK AT MOST 1048576: true; the input reads as it did. -/
def itempartTellsUptoRow : OpenClaim := { program := "ytmdphaagbmipcaadoor", sum := "bbe7645d75156024642a14841692f0e975014dffe0846c896d48d91e849049f1", func := "esker/eskerlaw10.ItempartTells", spec := "itempartTells", inPlace := ["internal/bytealg.Compare"], unfollowed := true, recurses := true, named := ["esker/frame.halves"], apart := false, laid := [("esker/frame.halves", laid_esker_frame_halves)], narrowed := true }
def ItempartTellsUptoSaid : Prop := itempartTellsUptoRow.holds Tryd.pinned (OpenSpec.upto itempartTellsSpec)

/-- 'eskerlaw10.ItempartBack', WHERE WHAT IT READS IS OF BULK AT MOST 1048576: true; the input reads as it did. -/
def itempartBackUptoRow : OpenClaim := { program := "ytmdphaagbmipcaadoor", sum := "bbe7645d75156024642a14841692f0e975014dffe0846c896d48d91e849049f1", func := "esker/eskerlaw10.ItempartBack", spec := "itempartBack", inPlace := ["internal/bytealg.Compare"], unfollowed := true, recurses := true, named := ["esker/frame.halves"], apart := false, laid := [("esker/frame.halves", laid_esker_frame_halves)], narrowed := true }
def ItempartBackUptoSaid : Prop := itempartBackUptoRow.holds Tryd.pinned (OpenSpec.upto itempartBackSpec)

/-- 'eskerlaw10.ItempartTurned', WHERE WHAT IT READS IS OF BULK AT MOST 1048576: true; the input reads as it did. -/
def itempartTurnedUptoRow : OpenClaim := { program := "ytmdphaagbmipcaadoor", sum := "bbe7645d75156024642a14841692f0e975014dffe0846c896d48d91e849049f1", func := "esker/eskerlaw10.ItempartTurned", spec := "itempartTurned", inPlace := ["internal/bytealg.Compare"], unfollowed := true, recurses := true, named := ["esker/frame.halves"], apart := false, laid := [("esker/frame.halves", laid_esker_frame_halves)], narrowed := true }
def ItempartTurnedUptoSaid : Prop := itempartTurnedUptoRow.holds Tryd.pinned (OpenSpec.upto itempartTurnedSpec)

/-- 'eskerlaw10.ItempartParts', WHERE WHAT IT READS IS OF BULK AT MOST 1048576: true; the input reads as it did. -/
def itempartPartsUptoRow : OpenClaim := { program := "ytmdphaagbmipcaadoor", sum := "bbe7645d75156024642a14841692f0e975014dffe0846c896d48d91e849049f1", func := "esker/eskerlaw10.ItempartParts", spec := "itempartParts", inPlace := ["internal/bytealg.Compare"], unfollowed := true, recurses := true, named := ["esker/frame.halves"], apart := false, laid := [("esker/frame.halves", laid_esker_frame_halves)], narrowed := true }
def ItempartPartsUptoSaid : Prop := itempartPartsUptoRow.holds Tryd.pinned (OpenSpec.upto itempartPartsSpec)

/-- 'eskerlaw10.ItempartNone', WHERE WHAT IT READS IS OF BULK AT MOST 1048576: true; the input reads as it did. -/
def itempartNoneUptoRow : OpenClaim := { program := "ytmdphaagbmipcaadoor", sum := "bbe7645d75156024642a14841692f0e975014dffe0846c896d48d91e849049f1", func := "esker/eskerlaw10.ItempartNone", spec := "itempartNone", inPlace := ["internal/bytealg.Compare"], unfollowed := true, recurses := true, named := ["esker/frame.halves"], apart := false, laid := [("esker/frame.halves", laid_esker_frame_halves)], narrowed := true }
def ItempartNoneUptoSaid : Prop := itempartNoneUptoRow.holds Tryd.pinned (OpenSpec.upto itempartNoneSpec)

end Rows
end Go.Proofs.YtmdphaagbmipcaaDoor
