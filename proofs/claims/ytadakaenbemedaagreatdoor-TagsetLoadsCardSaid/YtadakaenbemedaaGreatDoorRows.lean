/-
  NARROWER THAN 'FOR EVERY INPUT', by the rows' own cells (each row's printed sentence says how): TagsetFull: laid · TagsetPlays: laid · TagsetHides: laid · TagsetMerges: laid · TagsetNone: laid · TagsetLoads: laid.
  DERIVED. THE GIVEN ROWS OF THIS SEAT. 6 by the template 'for every input the law returns true; each argument reads behind the call as it read before'; 0 by the template 'total and deterministic' (their statements: YtadakaenbemedaaGreatDoorTotals.lean).
  GIVEN WITH THE SEED: the statements are not yours to turn. If you find one false, say at which input.
  Laid BY PROGRAM, IN A SANDBOX (cutbox-rows.mjs): the forced cells as the released guide's own fill.sh prints them over the translation 126961b0267ecb4e… (all of the seat's roots in one cut). By AI agents, Wed Nov 11 2026. No macro, syntax, notation, axiom, sorry.
-/
import Derived.Test.YtadakaenbemedaaGreatDoorChecked
import GoSem.Claim
import GoSem.ClaimJoined
import GoSem.ClaimMapViews
import Derived.JoinedTies
import Derived.KernelRfl
namespace Go.Proofs.YtadakaenbemedaaGreatDoor
/- THE CELL 'sum', in the pinned program and in every row, IS THE sha256 OF THE DUMP (.gsa) THAT YtadakaenbemedaaGreatDoorProg.lean LOADS. Nothing in Lean hashes anything: it is a label: what it is worth is what the hold of that sum in a sandbox is worth. -/
noncomputable def Tryz.pinned : Pinned := { name := "ytadakaenbemedaagreatdoor", sum := "126961b0267ecb4e1e7d576f6719f411e4aae5d3f298819d342ee7c156d2d229", checked := Tryz.checked }
namespace Rows
def none {H : Type} : Left H := { results := [], args := [] }

/- WHAT THE LISTED PACKAGE-LEVEL VARIABLES READ AS WHEN THE CALL BEGINS. Each datum BY PROGRAM (the guide's laid-datum.mjs) off the statement by which the dump's own 'gosem.cut.vars' lays the variable. In a bare row this is a premise. The card (YtadakaenbemedaaGreatDoorCards.lean) ties it to the program's text. -/
def laid_esker_frame_halves {H : Type} : DataW H := .agg [.lit (.int .u32 0), .lit (.int .u32 498536548), .lit (.int .u32 997073096), .lit (.int .u32 651767980), .lit (.int .u32 1994146192), .lit (.int .u32 1802195444), .lit (.int .u32 1303535960), .lit (.int .u32 1342533948), .lit (.int .u32 3988292384), .lit (.int .u32 4027552580), .lit (.int .u32 3604390888), .lit (.int .u32 3412177804), .lit (.int .u32 2607071920), .lit (.int .u32 2262029012), .lit (.int .u32 2685067896), .lit (.int .u32 3183342108)]

/-- 'eskerlaw13.TagsetFull': WHATEVER THE INPUT: true; the input reads as it did. -/
def tagsetFullSpec : ChangeSpec := { name := "tagsetFull", fn := fun _ => fun
  | [d] => { results := [.lit (.bool true)], args := [d] }
  | _ => none }
def tagsetFullRow : OpenClaim := { program := "ytadakaenbemedaagreatdoor", sum := "126961b0267ecb4e1e7d576f6719f411e4aae5d3f298819d342ee7c156d2d229", func := "esker/eskerlaw13.TagsetFull", spec := "tagsetFull", inPlace := ["internal/bytealg.Compare"], unfollowed := true, recurses := true, named := ["esker/frame.halves"], apart := false, laid := [("esker/frame.halves", laid_esker_frame_halves)] }
def TagsetFullSaid : Prop := tagsetFullRow.holds Tryz.pinned (OpenSpec.ofChange tagsetFullSpec)

/-- ITS FALSE NEIGHBOUR: 'it returns false'. Refute it at one input. -/
def tagsetFullWrong : ChangeSpec := { name := "tagsetFull", fn := fun _ => fun
  | [d] => { results := [.lit (.bool false)], args := [d] }
  | _ => none }
def TagsetFullWrongFalsely : Prop := tagsetFullRow.holds Tryz.pinned (OpenSpec.ofChange tagsetFullWrong)

/-- 'eskerlaw13.TagsetPlays': WHATEVER THE INPUT: true; the input reads as it did. -/
def tagsetPlaysSpec : ChangeSpec := { name := "tagsetPlays", fn := fun _ => fun
  | [d1, d2, d3] => { results := [.lit (.bool true)], args := [d1, d2, d3] }
  | _ => none }
def tagsetPlaysRow : OpenClaim := { program := "ytadakaenbemedaagreatdoor", sum := "126961b0267ecb4e1e7d576f6719f411e4aae5d3f298819d342ee7c156d2d229", func := "esker/eskerlaw13.TagsetPlays", spec := "tagsetPlays", inPlace := ["internal/bytealg.Compare", "slices.overlaps[*esker/itempart.Part]"], unfollowed := true, recurses := true, named := ["esker/frame.halves"], apart := false, laid := [("esker/frame.halves", laid_esker_frame_halves)] }
def TagsetPlaysSaid : Prop := tagsetPlaysRow.holds Tryz.pinned (OpenSpec.ofChange tagsetPlaysSpec)

/-- ITS FALSE NEIGHBOUR: 'it returns false'. Refute it at one input. -/
def tagsetPlaysWrong : ChangeSpec := { name := "tagsetPlays", fn := fun _ => fun
  | [d1, d2, d3] => { results := [.lit (.bool false)], args := [d1, d2, d3] }
  | _ => none }
def TagsetPlaysWrongFalsely : Prop := tagsetPlaysRow.holds Tryz.pinned (OpenSpec.ofChange tagsetPlaysWrong)

/-- 'eskerlaw13.TagsetHides': WHATEVER THE INPUT: true; the input reads as it did. -/
def tagsetHidesSpec : ChangeSpec := { name := "tagsetHides", fn := fun _ => fun
  | [d1, d2] => { results := [.lit (.bool true)], args := [d1, d2] }
  | _ => none }
def tagsetHidesRow : OpenClaim := { program := "ytadakaenbemedaagreatdoor", sum := "126961b0267ecb4e1e7d576f6719f411e4aae5d3f298819d342ee7c156d2d229", func := "esker/eskerlaw13.TagsetHides", spec := "tagsetHides", inPlace := ["internal/bytealg.Compare", "slices.overlaps[*esker/itempart.Part]"], unfollowed := true, recurses := true, named := ["esker/frame.halves"], apart := false, laid := [("esker/frame.halves", laid_esker_frame_halves)] }
def TagsetHidesSaid : Prop := tagsetHidesRow.holds Tryz.pinned (OpenSpec.ofChange tagsetHidesSpec)

/-- ITS FALSE NEIGHBOUR: 'it returns false'. Refute it at one input. -/
def tagsetHidesWrong : ChangeSpec := { name := "tagsetHides", fn := fun _ => fun
  | [d1, d2] => { results := [.lit (.bool false)], args := [d1, d2] }
  | _ => none }
def TagsetHidesWrongFalsely : Prop := tagsetHidesRow.holds Tryz.pinned (OpenSpec.ofChange tagsetHidesWrong)

/-- 'eskerlaw13.TagsetMerges': WHATEVER THE INPUT: true; the input reads as it did. -/
def tagsetMergesSpec : ChangeSpec := { name := "tagsetMerges", fn := fun _ => fun
  | [d1, d2, d3] => { results := [.lit (.bool true)], args := [d1, d2, d3] }
  | _ => none }
def tagsetMergesRow : OpenClaim := { program := "ytadakaenbemedaagreatdoor", sum := "126961b0267ecb4e1e7d576f6719f411e4aae5d3f298819d342ee7c156d2d229", func := "esker/eskerlaw13.TagsetMerges", spec := "tagsetMerges", inPlace := ["internal/bytealg.Compare", "slices.overlaps[*esker/itempart.Part]"], unfollowed := true, recurses := true, named := ["esker/frame.halves"], apart := false, laid := [("esker/frame.halves", laid_esker_frame_halves)] }
def TagsetMergesSaid : Prop := tagsetMergesRow.holds Tryz.pinned (OpenSpec.ofChange tagsetMergesSpec)

/-- ITS FALSE NEIGHBOUR: 'it returns false'. Refute it at one input. -/
def tagsetMergesWrong : ChangeSpec := { name := "tagsetMerges", fn := fun _ => fun
  | [d1, d2, d3] => { results := [.lit (.bool false)], args := [d1, d2, d3] }
  | _ => none }
def TagsetMergesWrongFalsely : Prop := tagsetMergesRow.holds Tryz.pinned (OpenSpec.ofChange tagsetMergesWrong)

/-- 'eskerlaw13.TagsetNone': WHATEVER THE INPUT: true; the input reads as it did. -/
def tagsetNoneSpec : ChangeSpec := { name := "tagsetNone", fn := fun _ => fun
  | [d1, d2] => { results := [.lit (.bool true)], args := [d1, d2] }
  | _ => none }
def tagsetNoneRow : OpenClaim := { program := "ytadakaenbemedaagreatdoor", sum := "126961b0267ecb4e1e7d576f6719f411e4aae5d3f298819d342ee7c156d2d229", func := "esker/eskerlaw13.TagsetNone", spec := "tagsetNone", inPlace := ["internal/bytealg.Compare", "slices.overlaps[*esker/itempart.Part]"], unfollowed := true, recurses := true, named := ["esker/frame.halves"], apart := false, laid := [("esker/frame.halves", laid_esker_frame_halves)] }
def TagsetNoneSaid : Prop := tagsetNoneRow.holds Tryz.pinned (OpenSpec.ofChange tagsetNoneSpec)

/-- ITS FALSE NEIGHBOUR: 'it returns false'. Refute it at one input. -/
def tagsetNoneWrong : ChangeSpec := { name := "tagsetNone", fn := fun _ => fun
  | [d1, d2] => { results := [.lit (.bool false)], args := [d1, d2] }
  | _ => none }
def TagsetNoneWrongFalsely : Prop := tagsetNoneRow.holds Tryz.pinned (OpenSpec.ofChange tagsetNoneWrong)

/-- 'eskerlaw13.TagsetLoads': WHATEVER THE INPUT: true; the input reads as it did. -/
def tagsetLoadsSpec : ChangeSpec := { name := "tagsetLoads", fn := fun _ => fun
  | [d1, d2] => { results := [.lit (.bool true)], args := [d1, d2] }
  | _ => none }
def tagsetLoadsRow : OpenClaim := { program := "ytadakaenbemedaagreatdoor", sum := "126961b0267ecb4e1e7d576f6719f411e4aae5d3f298819d342ee7c156d2d229", func := "esker/eskerlaw13.TagsetLoads", spec := "tagsetLoads", inPlace := ["internal/bytealg.Compare", "slices.overlaps[*esker/itempart.Part]"], unfollowed := true, recurses := true, named := ["esker/frame.halves"], apart := false, laid := [("esker/frame.halves", laid_esker_frame_halves)] }
def TagsetLoadsSaid : Prop := tagsetLoadsRow.holds Tryz.pinned (OpenSpec.ofChange tagsetLoadsSpec)

/-- ITS FALSE NEIGHBOUR: 'it returns false'. Refute it at one input. -/
def tagsetLoadsWrong : ChangeSpec := { name := "tagsetLoads", fn := fun _ => fun
  | [d1, d2] => { results := [.lit (.bool false)], args := [d1, d2] }
  | _ => none }
def TagsetLoadsWrongFalsely : Prop := tagsetLoadsRow.holds Tryz.pinned (OpenSpec.ofChange tagsetLoadsWrong)

/- THE SECOND FORM. 'bulk': how many values and letters a reading holds, each counted each time it is reached (what is shared counts as often as it is met; a slice's spare places count too). A statement '..UptoSaid' is the law's where the arguments, and the package variables that the reading takes, are together of bulk at most 1048576: NARROWER than '..Said'. Prove '..Said' where nothing that the law and all that it calls make is longer than what came in: it says more and counts as full. Else prove '..UptoSaid'. A law counts once. -/
mutual
def uptoBulk {H : Type} : DataW H → Nat
  | .lit (.string bytes) => bytes.length + 1
  | .lit _ => 1
  | .nil => 1
  | .ptr d => uptoBulk d + 1
  | .slice elems spare => uptoBulkAll elems + uptoBulkAll spare + 1
  | .agg parts => uptoBulkAll parts + 1
  | .iface _ d => uptoBulk d + 1
  | .map entries => uptoBulkEntries entries + 1
  | .held _ => 1
def uptoBulkAll {H : Type} : List (DataW H) → Nat
  | [] => 0
  | d :: r => uptoBulk d + uptoBulkAll r
def uptoBulkEntries {H : Type} : List (Lit × DataW H) → Nat
  | [] => 0
  | x :: r => uptoBulkEntry x + uptoBulkEntries r
def uptoBulkEntry {H : Type} : Lit × DataW H → Nat
  | (.string bytes, d) => bytes.length + uptoBulk d + 1
  | (_, d) => uptoBulk d + 1
 end
def uptoSmall : (H : Type) → List (DataW H) → Bool := fun _ ds => decide (uptoBulkAll ds ≤ 1048576)
def OpenSpec.upto (s : _root_.Go.ChangeSpec) : _root_.Go.OpenSpec := { _root_.Go.OpenSpec.ofChange s with cond := some uptoSmall }

/-- 'eskerlaw13.TagsetFull', WHERE WHAT IT READS IS OF BULK AT MOST 1048576: true; the input reads as it did. -/
def tagsetFullUptoRow : OpenClaim := { program := "ytadakaenbemedaagreatdoor", sum := "126961b0267ecb4e1e7d576f6719f411e4aae5d3f298819d342ee7c156d2d229", func := "esker/eskerlaw13.TagsetFull", spec := "tagsetFull", inPlace := ["internal/bytealg.Compare"], unfollowed := true, recurses := true, named := ["esker/frame.halves"], apart := false, laid := [("esker/frame.halves", laid_esker_frame_halves)], narrowed := true }
def TagsetFullUptoSaid : Prop := tagsetFullUptoRow.holds Tryz.pinned (OpenSpec.upto tagsetFullSpec)

/-- 'eskerlaw13.TagsetPlays', WHERE WHAT IT READS IS OF BULK AT MOST 1048576: true; the input reads as it did. -/
def tagsetPlaysUptoRow : OpenClaim := { program := "ytadakaenbemedaagreatdoor", sum := "126961b0267ecb4e1e7d576f6719f411e4aae5d3f298819d342ee7c156d2d229", func := "esker/eskerlaw13.TagsetPlays", spec := "tagsetPlays", inPlace := ["internal/bytealg.Compare", "slices.overlaps[*esker/itempart.Part]"], unfollowed := true, recurses := true, named := ["esker/frame.halves"], apart := false, laid := [("esker/frame.halves", laid_esker_frame_halves)], narrowed := true }
def TagsetPlaysUptoSaid : Prop := tagsetPlaysUptoRow.holds Tryz.pinned (OpenSpec.upto tagsetPlaysSpec)

/-- 'eskerlaw13.TagsetHides', WHERE WHAT IT READS IS OF BULK AT MOST 1048576: true; the input reads as it did. -/
def tagsetHidesUptoRow : OpenClaim := { program := "ytadakaenbemedaagreatdoor", sum := "126961b0267ecb4e1e7d576f6719f411e4aae5d3f298819d342ee7c156d2d229", func := "esker/eskerlaw13.TagsetHides", spec := "tagsetHides", inPlace := ["internal/bytealg.Compare", "slices.overlaps[*esker/itempart.Part]"], unfollowed := true, recurses := true, named := ["esker/frame.halves"], apart := false, laid := [("esker/frame.halves", laid_esker_frame_halves)], narrowed := true }
def TagsetHidesUptoSaid : Prop := tagsetHidesUptoRow.holds Tryz.pinned (OpenSpec.upto tagsetHidesSpec)

/-- 'eskerlaw13.TagsetMerges', WHERE WHAT IT READS IS OF BULK AT MOST 1048576: true; the input reads as it did. -/
def tagsetMergesUptoRow : OpenClaim := { program := "ytadakaenbemedaagreatdoor", sum := "126961b0267ecb4e1e7d576f6719f411e4aae5d3f298819d342ee7c156d2d229", func := "esker/eskerlaw13.TagsetMerges", spec := "tagsetMerges", inPlace := ["internal/bytealg.Compare", "slices.overlaps[*esker/itempart.Part]"], unfollowed := true, recurses := true, named := ["esker/frame.halves"], apart := false, laid := [("esker/frame.halves", laid_esker_frame_halves)], narrowed := true }
def TagsetMergesUptoSaid : Prop := tagsetMergesUptoRow.holds Tryz.pinned (OpenSpec.upto tagsetMergesSpec)

/-- 'eskerlaw13.TagsetNone', WHERE WHAT IT READS IS OF BULK AT MOST 1048576: true; the input reads as it did. -/
def tagsetNoneUptoRow : OpenClaim := { program := "ytadakaenbemedaagreatdoor", sum := "126961b0267ecb4e1e7d576f6719f411e4aae5d3f298819d342ee7c156d2d229", func := "esker/eskerlaw13.TagsetNone", spec := "tagsetNone", inPlace := ["internal/bytealg.Compare", "slices.overlaps[*esker/itempart.Part]"], unfollowed := true, recurses := true, named := ["esker/frame.halves"], apart := false, laid := [("esker/frame.halves", laid_esker_frame_halves)], narrowed := true }
def TagsetNoneUptoSaid : Prop := tagsetNoneUptoRow.holds Tryz.pinned (OpenSpec.upto tagsetNoneSpec)

/-- 'eskerlaw13.TagsetLoads', WHERE WHAT IT READS IS OF BULK AT MOST 1048576: true; the input reads as it did. -/
def tagsetLoadsUptoRow : OpenClaim := { program := "ytadakaenbemedaagreatdoor", sum := "126961b0267ecb4e1e7d576f6719f411e4aae5d3f298819d342ee7c156d2d229", func := "esker/eskerlaw13.TagsetLoads", spec := "tagsetLoads", inPlace := ["internal/bytealg.Compare", "slices.overlaps[*esker/itempart.Part]"], unfollowed := true, recurses := true, named := ["esker/frame.halves"], apart := false, laid := [("esker/frame.halves", laid_esker_frame_halves)], narrowed := true }
def TagsetLoadsUptoSaid : Prop := tagsetLoadsUptoRow.holds Tryz.pinned (OpenSpec.upto tagsetLoadsSpec)

end Rows
end Go.Proofs.YtadakaenbemedaaGreatDoor
