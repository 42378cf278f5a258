/-
  NARROWER THAN 'FOR EVERY INPUT', by the rows' own cells (each row's printed sentence says how): IndexDays: laid · IndexLoads: laid · IndexOne: laid · IndexDrops: laid · IndexHides: laid · IndexPlays: laid.
  DERIVED. THE GIVEN ROWS OF THIS SEAT. 6 by the template 'for every input the law returns true; each argument reads behind the call as it read before'; 0 by the template 'total and deterministic' (their statements: YtalmnodgjjcefaaGreatDoorTotals.lean).
  GIVEN WITH THE SEED: the statements are not yours to turn. If you find one false, say at which input.
  Laid BY PROGRAM, IN A SANDBOX (cutbox-rows.mjs): the forced cells as the released guide's own fill.sh prints them over the translation a3dec5e5f9ac65b5… (all of the seat's roots in one cut). By AI agents, Wed Nov 11 2026. No macro, syntax, notation, axiom, sorry.
-/
import Derived.Test.YtalmnodgjjcefaaGreatDoorChecked
import GoSem.PinnedTables
import GoSem.Claim
import GoSem.ClaimJoined
import GoSem.ClaimMapViews
import Derived.JoinedTies
import Derived.KernelRfl
namespace Go.Proofs.YtalmnodgjjcefaaGreatDoor
/- THE CELL 'sum', in the pinned program and in every row, IS THE sha256 OF THE DUMP (.gsa) THAT YtalmnodgjjcefaaGreatDoorProg.lean LOADS. Nothing in Lean hashes anything: it is a label: what it is worth is what the hold of that sum in a sandbox is worth. -/
noncomputable def Tryz.pinned : Pinned := { name := "ytalmnodgjjcefaagreatdoor", sum := "a3dec5e5f9ac65b500b69199df14603b37baf23f8db81bf3c0f394b286e7cb7d", checked := Tryz.checked }
namespace Rows
def none {H : Type} : Left H := { results := [], args := [] }

/- WHAT THE LISTED PACKAGE-LEVEL VARIABLES READ AS WHEN THE CALL BEGINS. Each datum BY PROGRAM (the guide's laid-datum.mjs) off the statement by which the dump's own 'gosem.cut.vars' lays the variable. In a bare row this is a premise. The card (YtalmnodgjjcefaaGreatDoorCards.lean) ties it to the program's text. -/
def laid_unicode_utf8_acceptRanges {H : Type} : DataW H := .agg [.agg [.lit (.int .u8 128), .lit (.int .u8 191)], .agg [.lit (.int .u8 160), .lit (.int .u8 191)], .agg [.lit (.int .u8 128), .lit (.int .u8 159)], .agg [.lit (.int .u8 144), .lit (.int .u8 191)], .agg [.lit (.int .u8 128), .lit (.int .u8 143)], .agg [.lit (.int .u8 0), .lit (.int .u8 0)], .agg [.lit (.int .u8 0), .lit (.int .u8 0)], .agg [.lit (.int .u8 0), .lit (.int .u8 0)], .agg [.lit (.int .u8 0), .lit (.int .u8 0)], .agg [.lit (.int .u8 0), .lit (.int .u8 0)], .agg [.lit (.int .u8 0), .lit (.int .u8 0)], .agg [.lit (.int .u8 0), .lit (.int .u8 0)], .agg [.lit (.int .u8 0), .lit (.int .u8 0)], .agg [.lit (.int .u8 0), .lit (.int .u8 0)], .agg [.lit (.int .u8 0), .lit (.int .u8 0)], .agg [.lit (.int .u8 0), .lit (.int .u8 0)]]
/-- One of Go's own tables, pinned by name: the form's constant. -/
def laid_unicode_utf8_first : DataW Unit := Go.Pinned.utf8First
def laid_esker_frame_halves {H : Type} : DataW H := .agg [.lit (.int .u32 0), .lit (.int .u32 498536548), .lit (.int .u32 997073096), .lit (.int .u32 651767980), .lit (.int .u32 1994146192), .lit (.int .u32 1802195444), .lit (.int .u32 1303535960), .lit (.int .u32 1342533948), .lit (.int .u32 3988292384), .lit (.int .u32 4027552580), .lit (.int .u32 3604390888), .lit (.int .u32 3412177804), .lit (.int .u32 2607071920), .lit (.int .u32 2262029012), .lit (.int .u32 2685067896), .lit (.int .u32 3183342108)]

/-- 'eskerlaw14.IndexDays': WHATEVER THE INPUT: true; the input reads as it did. -/
def indexDaysSpec : ChangeSpec := { name := "indexDays", fn := fun _ => fun
  | [d1, d2, d3] => { results := [.lit (.bool true)], args := [d1, d2, d3] }
  | _ => none }
def indexDaysRow : OpenClaim := { program := "ytalmnodgjjcefaagreatdoor", sum := "a3dec5e5f9ac65b500b69199df14603b37baf23f8db81bf3c0f394b286e7cb7d", func := "esker/eskerlaw14.IndexDays", spec := "indexDays", inPlace := ["internal/bytealg.IndexByteString", "internal/bytealg.IndexString", "internal/bytealg.Compare"], unfollowed := true, recurses := true, named := ["unicode/utf8.first", "unicode/utf8.acceptRanges", "internal/bytealg.MaxLen"], apart := false, laid := [("unicode/utf8.acceptRanges", laid_unicode_utf8_acceptRanges), ("unicode/utf8.first", laid_unicode_utf8_first)] }
def IndexDaysSaid : Prop := indexDaysRow.holds Tryz.pinned (OpenSpec.ofChange indexDaysSpec)

/-- ITS FALSE NEIGHBOUR: 'it returns false'. Refute it at one input. -/
def indexDaysWrong : ChangeSpec := { name := "indexDays", fn := fun _ => fun
  | [d1, d2, d3] => { results := [.lit (.bool false)], args := [d1, d2, d3] }
  | _ => none }
def IndexDaysWrongFalsely : Prop := indexDaysRow.holds Tryz.pinned (OpenSpec.ofChange indexDaysWrong)

/-- 'eskerlaw14.IndexLoads': WHATEVER THE INPUT: true; the input reads as it did. -/
def indexLoadsSpec : ChangeSpec := { name := "indexLoads", fn := fun _ => fun
  | [d1, d2] => { results := [.lit (.bool true)], args := [d1, d2] }
  | _ => none }
def indexLoadsRow : OpenClaim := { program := "ytalmnodgjjcefaagreatdoor", sum := "a3dec5e5f9ac65b500b69199df14603b37baf23f8db81bf3c0f394b286e7cb7d", func := "esker/eskerlaw14.IndexLoads", spec := "indexLoads", inPlace := ["internal/bytealg.IndexByteString", "internal/bytealg.IndexString", "internal/bytealg.Compare"], unfollowed := true, recurses := true, named := ["unicode/utf8.first", "unicode/utf8.acceptRanges", "esker/frame.halves", "internal/bytealg.MaxLen"], apart := false, laid := [("unicode/utf8.acceptRanges", laid_unicode_utf8_acceptRanges), ("esker/frame.halves", laid_esker_frame_halves), ("unicode/utf8.first", laid_unicode_utf8_first)] }
def IndexLoadsSaid : Prop := indexLoadsRow.holds Tryz.pinned (OpenSpec.ofChange indexLoadsSpec)

/-- ITS FALSE NEIGHBOUR: 'it returns false'. Refute it at one input. -/
def indexLoadsWrong : ChangeSpec := { name := "indexLoads", fn := fun _ => fun
  | [d1, d2] => { results := [.lit (.bool false)], args := [d1, d2] }
  | _ => none }
def IndexLoadsWrongFalsely : Prop := indexLoadsRow.holds Tryz.pinned (OpenSpec.ofChange indexLoadsWrong)

/-- 'eskerlaw14.IndexOne': WHATEVER THE INPUT: true; the input reads as it did. -/
def indexOneSpec : ChangeSpec := { name := "indexOne", fn := fun _ => fun
  | [d1, d2] => { results := [.lit (.bool true)], args := [d1, d2] }
  | _ => none }
def indexOneRow : OpenClaim := { program := "ytalmnodgjjcefaagreatdoor", sum := "a3dec5e5f9ac65b500b69199df14603b37baf23f8db81bf3c0f394b286e7cb7d", func := "esker/eskerlaw14.IndexOne", spec := "indexOne", inPlace := ["internal/bytealg.IndexByteString", "internal/bytealg.IndexString", "internal/bytealg.Compare", "slices.overlaps[*esker/itempart.Part]"], unfollowed := true, recurses := true, named := ["unicode/utf8.first", "unicode/utf8.acceptRanges", "esker/frame.halves", "internal/bytealg.MaxLen"], apart := false, laid := [("unicode/utf8.acceptRanges", laid_unicode_utf8_acceptRanges), ("esker/frame.halves", laid_esker_frame_halves), ("unicode/utf8.first", laid_unicode_utf8_first)] }
def IndexOneSaid : Prop := indexOneRow.holds Tryz.pinned (OpenSpec.ofChange indexOneSpec)

/-- ITS FALSE NEIGHBOUR: 'it returns false'. Refute it at one input. -/
def indexOneWrong : ChangeSpec := { name := "indexOne", fn := fun _ => fun
  | [d1, d2] => { results := [.lit (.bool false)], args := [d1, d2] }
  | _ => none }
def IndexOneWrongFalsely : Prop := indexOneRow.holds Tryz.pinned (OpenSpec.ofChange indexOneWrong)

/-- 'eskerlaw14.IndexDrops': WHATEVER THE INPUT: true; the input reads as it did. -/
def indexDropsSpec : ChangeSpec := { name := "indexDrops", fn := fun _ => fun
  | [d1, d2, d3] => { results := [.lit (.bool true)], args := [d1, d2, d3] }
  | _ => none }
def indexDropsRow : OpenClaim := { program := "ytalmnodgjjcefaagreatdoor", sum := "a3dec5e5f9ac65b500b69199df14603b37baf23f8db81bf3c0f394b286e7cb7d", func := "esker/eskerlaw14.IndexDrops", spec := "indexDrops", inPlace := ["internal/bytealg.IndexByteString", "internal/bytealg.IndexString", "internal/bytealg.Compare", "slices.overlaps[*esker/itempart.Part]"], unfollowed := true, recurses := true, named := ["unicode/utf8.first", "unicode/utf8.acceptRanges", "esker/frame.halves", "internal/bytealg.MaxLen"], apart := false, laid := [("unicode/utf8.acceptRanges", laid_unicode_utf8_acceptRanges), ("esker/frame.halves", laid_esker_frame_halves), ("unicode/utf8.first", laid_unicode_utf8_first)] }
def IndexDropsSaid : Prop := indexDropsRow.holds Tryz.pinned (OpenSpec.ofChange indexDropsSpec)

/-- ITS FALSE NEIGHBOUR: 'it returns false'. Refute it at one input. -/
def indexDropsWrong : ChangeSpec := { name := "indexDrops", fn := fun _ => fun
  | [d1, d2, d3] => { results := [.lit (.bool false)], args := [d1, d2, d3] }
  | _ => none }
def IndexDropsWrongFalsely : Prop := indexDropsRow.holds Tryz.pinned (OpenSpec.ofChange indexDropsWrong)

/-- 'eskerlaw14.IndexHides': WHATEVER THE INPUT: true; the input reads as it did. -/
def indexHidesSpec : ChangeSpec := { name := "indexHides", fn := fun _ => fun
  | [d1, d2] => { results := [.lit (.bool true)], args := [d1, d2] }
  | _ => none }
def indexHidesRow : OpenClaim := { program := "ytalmnodgjjcefaagreatdoor", sum := "a3dec5e5f9ac65b500b69199df14603b37baf23f8db81bf3c0f394b286e7cb7d", func := "esker/eskerlaw14.IndexHides", spec := "indexHides", inPlace := ["internal/bytealg.IndexByteString", "internal/bytealg.IndexString", "internal/bytealg.Compare", "slices.overlaps[*esker/itempart.Part]"], unfollowed := true, recurses := true, named := ["unicode/utf8.first", "unicode/utf8.acceptRanges", "esker/frame.halves", "internal/bytealg.MaxLen"], apart := false, laid := [("unicode/utf8.acceptRanges", laid_unicode_utf8_acceptRanges), ("esker/frame.halves", laid_esker_frame_halves), ("unicode/utf8.first", laid_unicode_utf8_first)] }
def IndexHidesSaid : Prop := indexHidesRow.holds Tryz.pinned (OpenSpec.ofChange indexHidesSpec)

/-- ITS FALSE NEIGHBOUR: 'it returns false'. Refute it at one input. -/
def indexHidesWrong : ChangeSpec := { name := "indexHides", fn := fun _ => fun
  | [d1, d2] => { results := [.lit (.bool false)], args := [d1, d2] }
  | _ => none }
def IndexHidesWrongFalsely : Prop := indexHidesRow.holds Tryz.pinned (OpenSpec.ofChange indexHidesWrong)

/-- 'eskerlaw14.IndexPlays': WHATEVER THE INPUT: true; the input reads as it did. -/
def indexPlaysSpec : ChangeSpec := { name := "indexPlays", fn := fun _ => fun
  | [d1, d2] => { results := [.lit (.bool true)], args := [d1, d2] }
  | _ => none }
def indexPlaysRow : OpenClaim := { program := "ytalmnodgjjcefaagreatdoor", sum := "a3dec5e5f9ac65b500b69199df14603b37baf23f8db81bf3c0f394b286e7cb7d", func := "esker/eskerlaw14.IndexPlays", spec := "indexPlays", inPlace := ["internal/bytealg.IndexByteString", "internal/bytealg.IndexString", "internal/bytealg.Compare", "slices.overlaps[*esker/itempart.Part]"], unfollowed := true, recurses := true, named := ["unicode/utf8.first", "unicode/utf8.acceptRanges", "esker/frame.halves", "internal/bytealg.MaxLen"], apart := false, laid := [("unicode/utf8.acceptRanges", laid_unicode_utf8_acceptRanges), ("esker/frame.halves", laid_esker_frame_halves), ("unicode/utf8.first", laid_unicode_utf8_first)] }
def IndexPlaysSaid : Prop := indexPlaysRow.holds Tryz.pinned (OpenSpec.ofChange indexPlaysSpec)

/-- ITS FALSE NEIGHBOUR: 'it returns false'. Refute it at one input. -/
def indexPlaysWrong : ChangeSpec := { name := "indexPlays", fn := fun _ => fun
  | [d1, d2] => { results := [.lit (.bool false)], args := [d1, d2] }
  | _ => none }
def IndexPlaysWrongFalsely : Prop := indexPlaysRow.holds Tryz.pinned (OpenSpec.ofChange indexPlaysWrong)

/- THE SECOND FORM. 'bulk': how many values and letters a reading holds, each counted each time it is reached (what is shared counts as often as it is met; a slice's spare places count too). A statement '..UptoSaid' is the law's where the arguments, and the package variables that the reading takes, are together of bulk at most 1048576: NARROWER than '..Said'. Prove '..Said' where nothing that the law and all that it calls make is longer than what came in: it says more and counts as full. Else prove '..UptoSaid'. A law counts once. -/
mutual
def uptoBulk {H : Type} : DataW H → Nat
  | .lit (.string bytes) => bytes.length + 1
  | .lit _ => 1
  | .nil => 1
  | .ptr d => uptoBulk d + 1
  | .slice elems spare => uptoBulkAll elems + uptoBulkAll spare + 1
  | .agg parts => uptoBulkAll parts + 1
  | .iface _ d => uptoBulk d + 1
  | .map entries => uptoBulkEntries entries + 1
  | .held _ => 1
def uptoBulkAll {H : Type} : List (DataW H) → Nat
  | [] => 0
  | d :: r => uptoBulk d + uptoBulkAll r
def uptoBulkEntries {H : Type} : List (Lit × DataW H) → Nat
  | [] => 0
  | x :: r => uptoBulkEntry x + uptoBulkEntries r
def uptoBulkEntry {H : Type} : Lit × DataW H → Nat
  | (.string bytes, d) => bytes.length + uptoBulk d + 1
  | (_, d) => uptoBulk d + 1
 end
def uptoSmall : (H : Type) → List (DataW H) → Bool := fun _ ds => decide (uptoBulkAll ds ≤ 1048576)
def OpenSpec.upto (s : _root_.Go.ChangeSpec) : _root_.Go.OpenSpec := { _root_.Go.OpenSpec.ofChange s with cond := some uptoSmall }

/-- 'eskerlaw14.IndexDays', WHERE WHAT IT READS IS OF BULK AT MOST 1048576: true; the input reads as it did. -/
def indexDaysUptoRow : OpenClaim := { program := "ytalmnodgjjcefaagreatdoor", sum := "a3dec5e5f9ac65b500b69199df14603b37baf23f8db81bf3c0f394b286e7cb7d", func := "esker/eskerlaw14.IndexDays", spec := "indexDays", inPlace := ["internal/bytealg.IndexByteString", "internal/bytealg.IndexString", "internal/bytealg.Compare"], unfollowed := true, recurses := true, named := ["unicode/utf8.first", "unicode/utf8.acceptRanges", "internal/bytealg.MaxLen"], apart := false, laid := [("unicode/utf8.acceptRanges", laid_unicode_utf8_acceptRanges), ("unicode/utf8.first", laid_unicode_utf8_first)], narrowed := true }
def IndexDaysUptoSaid : Prop := indexDaysUptoRow.holds Tryz.pinned (OpenSpec.upto indexDaysSpec)

/-- 'eskerlaw14.IndexLoads', WHERE WHAT IT READS IS OF BULK AT MOST 1048576: true; the input reads as it did. -/
def indexLoadsUptoRow : OpenClaim := { program := "ytalmnodgjjcefaagreatdoor", sum := "a3dec5e5f9ac65b500b69199df14603b37baf23f8db81bf3c0f394b286e7cb7d", func := "esker/eskerlaw14.IndexLoads", spec := "indexLoads", inPlace := ["internal/bytealg.IndexByteString", "internal/bytealg.IndexString", "internal/bytealg.Compare"], unfollowed := true, recurses := true, named := ["unicode/utf8.first", "unicode/utf8.acceptRanges", "esker/frame.halves", "internal/bytealg.MaxLen"], apart := false, laid := [("unicode/utf8.acceptRanges", laid_unicode_utf8_acceptRanges), ("esker/frame.halves", laid_esker_frame_halves), ("unicode/utf8.first", laid_unicode_utf8_first)], narrowed := true }
def IndexLoadsUptoSaid : Prop := indexLoadsUptoRow.holds Tryz.pinned (OpenSpec.upto indexLoadsSpec)

/-- 'eskerlaw14.IndexOne', WHERE WHAT IT READS IS OF BULK AT MOST 1048576: true; the input reads as it did. -/
def indexOneUptoRow : OpenClaim := { program := "ytalmnodgjjcefaagreatdoor", sum := "a3dec5e5f9ac65b500b69199df14603b37baf23f8db81bf3c0f394b286e7cb7d", func := "esker/eskerlaw14.IndexOne", spec := "indexOne", inPlace := ["internal/bytealg.IndexByteString", "internal/bytealg.IndexString", "internal/bytealg.Compare", "slices.overlaps[*esker/itempart.Part]"], unfollowed := true, recurses := true, named := ["unicode/utf8.first", "unicode/utf8.acceptRanges", "esker/frame.halves", "internal/bytealg.MaxLen"], apart := false, laid := [("unicode/utf8.acceptRanges", laid_unicode_utf8_acceptRanges), ("esker/frame.halves", laid_esker_frame_halves), ("unicode/utf8.first", laid_unicode_utf8_first)], narrowed := true }
def IndexOneUptoSaid : Prop := indexOneUptoRow.holds Tryz.pinned (OpenSpec.upto indexOneSpec)

/-- 'eskerlaw14.IndexDrops', WHERE WHAT IT READS IS OF BULK AT MOST 1048576: true; the input reads as it did. -/
def indexDropsUptoRow : OpenClaim := { program := "ytalmnodgjjcefaagreatdoor", sum := "a3dec5e5f9ac65b500b69199df14603b37baf23f8db81bf3c0f394b286e7cb7d", func := "esker/eskerlaw14.IndexDrops", spec := "indexDrops", inPlace := ["internal/bytealg.IndexByteString", "internal/bytealg.IndexString", "internal/bytealg.Compare", "slices.overlaps[*esker/itempart.Part]"], unfollowed := true, recurses := true, named := ["unicode/utf8.first", "unicode/utf8.acceptRanges", "esker/frame.halves", "internal/bytealg.MaxLen"], apart := false, laid := [("unicode/utf8.acceptRanges", laid_unicode_utf8_acceptRanges), ("esker/frame.halves", laid_esker_frame_halves), ("unicode/utf8.first", laid_unicode_utf8_first)], narrowed := true }
def IndexDropsUptoSaid : Prop := indexDropsUptoRow.holds Tryz.pinned (OpenSpec.upto indexDropsSpec)

/-- 'eskerlaw14.IndexHides', WHERE WHAT IT READS IS OF BULK AT MOST 1048576: true; the input reads as it did. -/
def indexHidesUptoRow : OpenClaim := { program := "ytalmnodgjjcefaagreatdoor", sum := "a3dec5e5f9ac65b500b69199df14603b37baf23f8db81bf3c0f394b286e7cb7d", func := "esker/eskerlaw14.IndexHides", spec := "indexHides", inPlace := ["internal/bytealg.IndexByteString", "internal/bytealg.IndexString", "internal/bytealg.Compare", "slices.overlaps[*esker/itempart.Part]"], unfollowed := true, recurses := true, named := ["unicode/utf8.first", "unicode/utf8.acceptRanges", "esker/frame.halves", "internal/bytealg.MaxLen"], apart := false, laid := [("unicode/utf8.acceptRanges", laid_unicode_utf8_acceptRanges), ("esker/frame.halves", laid_esker_frame_halves), ("unicode/utf8.first", laid_unicode_utf8_first)], narrowed := true }
def IndexHidesUptoSaid : Prop := indexHidesUptoRow.holds Tryz.pinned (OpenSpec.upto indexHidesSpec)

/-- 'eskerlaw14.IndexPlays', WHERE WHAT IT READS IS OF BULK AT MOST 1048576: true; the input reads as it did. -/
def indexPlaysUptoRow : OpenClaim := { program := "ytalmnodgjjcefaagreatdoor", sum := "a3dec5e5f9ac65b500b69199df14603b37baf23f8db81bf3c0f394b286e7cb7d", func := "esker/eskerlaw14.IndexPlays", spec := "indexPlays", inPlace := ["internal/bytealg.IndexByteString", "internal/bytealg.IndexString", "internal/bytealg.Compare", "slices.overlaps[*esker/itempart.Part]"], unfollowed := true, recurses := true, named := ["unicode/utf8.first", "unicode/utf8.acceptRanges", "esker/frame.halves", "internal/bytealg.MaxLen"], apart := false, laid := [("unicode/utf8.acceptRanges", laid_unicode_utf8_acceptRanges), ("esker/frame.halves", laid_esker_frame_halves), ("unicode/utf8.first", laid_unicode_utf8_first)], narrowed := true }
def IndexPlaysUptoSaid : Prop := indexPlaysUptoRow.holds Tryz.pinned (OpenSpec.upto indexPlaysSpec)

end Rows
end Go.Proofs.YtalmnodgjjcefaaGreatDoor
