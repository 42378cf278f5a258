/-
  NARROWER THAN 'FOR EVERY INPUT', by the rows' own cells (each row's printed sentence says how): LabelsCanons: laid · LabelsCompares: laid · LabelsOwn: laid · LabelsOrders: laid · LabelsBytes: laid · LabelsBack: laid.
  DERIVED. THE GIVEN ROWS OF THIS SEAT. 6 by the template 'for every input the law returns true; each argument reads behind the call as it read before'; 0 by the template 'total and deterministic' (their statements: YtbgnmojdkhlbaaaDoorTotals.lean).
  GIVEN WITH THE SEED: the statements are not yours to turn. If you find one false, say at which input.
  Laid BY PROGRAM, IN A SANDBOX (cutbox-rows.mjs): the forced cells as the released guide's own fill.sh prints them over the translation ac810387531d37bc… (all of the seat's roots in one cut). By AI agents, Wed Nov 11 2026. No macro, syntax, notation, axiom, sorry.
-/
import Derived.Test.YtbgnmojdkhlbaaaDoorChecked
import GoSem.PinnedTables
import GoSem.Claim
import GoSem.ClaimJoined
import GoSem.ClaimMapViews
import Derived.JoinedTies
import Derived.KernelRfl
namespace Go.Proofs.YtbgnmojdkhlbaaaDoor
/- THE CELL 'sum', in the pinned program and in every row, IS THE sha256 OF THE DUMP (.gsa) THAT YtbgnmojdkhlbaaaDoorProg.lean LOADS. Nothing in Lean hashes anything: it is a label: what it is worth is what the hold of that sum in a sandbox is worth. -/
noncomputable def Tryd.pinned : Pinned := { name := "ytbgnmojdkhlbaaadoor", sum := "ac810387531d37bca8b5365e69af6d33b280f21aef26b83e941983972e6170d7", checked := Tryd.checked }
namespace Rows
def none {H : Type} : Left H := { results := [], args := [] }

/- WHAT THE LISTED PACKAGE-LEVEL VARIABLES READ AS WHEN THE CALL BEGINS. Each datum BY PROGRAM (the guide's laid-datum.mjs) off the statement by which the dump's own 'gosem.cut.vars' lays the variable. In a bare row this is a premise. The card (YtbgnmojdkhlbaaaDoorCards.lean) ties it to the program's text. -/
def laid_unicode_utf8_acceptRanges {H : Type} : DataW H := .agg [.agg [.lit (.int .u8 128), .lit (.int .u8 191)], .agg [.lit (.int .u8 160), .lit (.int .u8 191)], .agg [.lit (.int .u8 128), .lit (.int .u8 159)], .agg [.lit (.int .u8 144), .lit (.int .u8 191)], .agg [.lit (.int .u8 128), .lit (.int .u8 143)], .agg [.lit (.int .u8 0), .lit (.int .u8 0)], .agg [.lit (.int .u8 0), .lit (.int .u8 0)], .agg [.lit (.int .u8 0), .lit (.int .u8 0)], .agg [.lit (.int .u8 0), .lit (.int .u8 0)], .agg [.lit (.int .u8 0), .lit (.int .u8 0)], .agg [.lit (.int .u8 0), .lit (.int .u8 0)], .agg [.lit (.int .u8 0), .lit (.int .u8 0)], .agg [.lit (.int .u8 0), .lit (.int .u8 0)], .agg [.lit (.int .u8 0), .lit (.int .u8 0)], .agg [.lit (.int .u8 0), .lit (.int .u8 0)], .agg [.lit (.int .u8 0), .lit (.int .u8 0)]]
/-- One of Go's own tables, pinned by name: the form's constant. -/
def laid_unicode_utf8_first : DataW Unit := Go.Pinned.utf8First

/-- 'eskerlaw07.LabelsCanons': WHATEVER THE INPUT: true; the input reads as it did. -/
def labelsCanonsSpec : ChangeSpec := { name := "labelsCanons", fn := fun _ => fun
  | [d1, d2] => { results := [.lit (.bool true)], args := [d1, d2] }
  | _ => none }
def labelsCanonsRow : OpenClaim := { program := "ytbgnmojdkhlbaaadoor", sum := "ac810387531d37bca8b5365e69af6d33b280f21aef26b83e941983972e6170d7", func := "esker/eskerlaw07.LabelsCanons", spec := "labelsCanons", inPlace := ["internal/bytealg.IndexByteString", "internal/bytealg.IndexString"], unfollowed := true, recurses := true, named := ["unicode/utf8.first", "unicode/utf8.acceptRanges", "internal/bytealg.MaxLen"], apart := false, laid := [("unicode/utf8.acceptRanges", laid_unicode_utf8_acceptRanges), ("unicode/utf8.first", laid_unicode_utf8_first)] }
def LabelsCanonsSaid : Prop := labelsCanonsRow.holds Tryd.pinned (OpenSpec.ofChange labelsCanonsSpec)

/-- ITS FALSE NEIGHBOUR: 'it returns false'. Refute it at one input. -/
def labelsCanonsWrong : ChangeSpec := { name := "labelsCanons", fn := fun _ => fun
  | [d1, d2] => { results := [.lit (.bool false)], args := [d1, d2] }
  | _ => none }
def LabelsCanonsWrongFalsely : Prop := labelsCanonsRow.holds Tryd.pinned (OpenSpec.ofChange labelsCanonsWrong)

/-- 'eskerlaw07.LabelsCompares': WHATEVER THE INPUT: true; the input reads as it did. -/
def labelsComparesSpec : ChangeSpec := { name := "labelsCompares", fn := fun _ => fun
  | [d1, d2] => { results := [.lit (.bool true)], args := [d1, d2] }
  | _ => none }
def labelsComparesRow : OpenClaim := { program := "ytbgnmojdkhlbaaadoor", sum := "ac810387531d37bca8b5365e69af6d33b280f21aef26b83e941983972e6170d7", func := "esker/eskerlaw07.LabelsCompares", spec := "labelsCompares", inPlace := ["internal/bytealg.IndexByteString", "internal/bytealg.IndexString"], unfollowed := true, recurses := true, named := ["unicode/utf8.first", "unicode/utf8.acceptRanges", "internal/bytealg.MaxLen"], apart := false, laid := [("unicode/utf8.acceptRanges", laid_unicode_utf8_acceptRanges), ("unicode/utf8.first", laid_unicode_utf8_first)] }
def LabelsComparesSaid : Prop := labelsComparesRow.holds Tryd.pinned (OpenSpec.ofChange labelsComparesSpec)

/-- ITS FALSE NEIGHBOUR: 'it returns false'. Refute it at one input. -/
def labelsComparesWrong : ChangeSpec := { name := "labelsCompares", fn := fun _ => fun
  | [d1, d2] => { results := [.lit (.bool false)], args := [d1, d2] }
  | _ => none }
def LabelsComparesWrongFalsely : Prop := labelsComparesRow.holds Tryd.pinned (OpenSpec.ofChange labelsComparesWrong)

/-- 'eskerlaw07.LabelsOwn': WHATEVER THE INPUT: true; the input reads as it did. -/
def labelsOwnSpec : ChangeSpec := { name := "labelsOwn", fn := fun _ => fun
  | [d] => { results := [.lit (.bool true)], args := [d] }
  | _ => none }
def labelsOwnRow : OpenClaim := { program := "ytbgnmojdkhlbaaadoor", sum := "ac810387531d37bca8b5365e69af6d33b280f21aef26b83e941983972e6170d7", func := "esker/eskerlaw07.LabelsOwn", spec := "labelsOwn", inPlace := ["internal/bytealg.IndexByteString", "internal/bytealg.IndexString"], unfollowed := true, recurses := true, named := ["unicode/utf8.first", "unicode/utf8.acceptRanges", "internal/bytealg.MaxLen"], apart := false, laid := [("unicode/utf8.acceptRanges", laid_unicode_utf8_acceptRanges), ("unicode/utf8.first", laid_unicode_utf8_first)] }
def LabelsOwnSaid : Prop := labelsOwnRow.holds Tryd.pinned (OpenSpec.ofChange labelsOwnSpec)

/-- ITS FALSE NEIGHBOUR: 'it returns false'. Refute it at one input. -/
def labelsOwnWrong : ChangeSpec := { name := "labelsOwn", fn := fun _ => fun
  | [d] => { results := [.lit (.bool false)], args := [d] }
  | _ => none }
def LabelsOwnWrongFalsely : Prop := labelsOwnRow.holds Tryd.pinned (OpenSpec.ofChange labelsOwnWrong)

/-- 'eskerlaw07.LabelsOrders': WHATEVER THE INPUT: true; the input reads as it did. -/
def labelsOrdersSpec : ChangeSpec := { name := "labelsOrders", fn := fun _ => fun
  | [d1, d2, d3] => { results := [.lit (.bool true)], args := [d1, d2, d3] }
  | _ => none }
def labelsOrdersRow : OpenClaim := { program := "ytbgnmojdkhlbaaadoor", sum := "ac810387531d37bca8b5365e69af6d33b280f21aef26b83e941983972e6170d7", func := "esker/eskerlaw07.LabelsOrders", spec := "labelsOrders", inPlace := ["internal/bytealg.IndexByteString", "internal/bytealg.IndexString"], unfollowed := true, recurses := true, named := ["unicode/utf8.first", "unicode/utf8.acceptRanges", "internal/bytealg.MaxLen"], apart := false, laid := [("unicode/utf8.acceptRanges", laid_unicode_utf8_acceptRanges), ("unicode/utf8.first", laid_unicode_utf8_first)] }
def LabelsOrdersSaid : Prop := labelsOrdersRow.holds Tryd.pinned (OpenSpec.ofChange labelsOrdersSpec)

/-- ITS FALSE NEIGHBOUR: 'it returns false'. Refute it at one input. -/
def labelsOrdersWrong : ChangeSpec := { name := "labelsOrders", fn := fun _ => fun
  | [d1, d2, d3] => { results := [.lit (.bool false)], args := [d1, d2, d3] }
  | _ => none }
def LabelsOrdersWrongFalsely : Prop := labelsOrdersRow.holds Tryd.pinned (OpenSpec.ofChange labelsOrdersWrong)

/-- 'eskerlaw07.LabelsBytes': WHATEVER THE INPUT: true; the input reads as it did. -/
def labelsBytesSpec : ChangeSpec := { name := "labelsBytes", fn := fun _ => fun
  | [d1, d2, d3] => { results := [.lit (.bool true)], args := [d1, d2, d3] }
  | _ => none }
def labelsBytesRow : OpenClaim := { program := "ytbgnmojdkhlbaaadoor", sum := "ac810387531d37bca8b5365e69af6d33b280f21aef26b83e941983972e6170d7", func := "esker/eskerlaw07.LabelsBytes", spec := "labelsBytes", inPlace := ["internal/bytealg.IndexByteString", "internal/bytealg.IndexString"], unfollowed := true, recurses := true, named := ["unicode/utf8.first", "unicode/utf8.acceptRanges", "internal/bytealg.MaxLen"], apart := false, laid := [("unicode/utf8.acceptRanges", laid_unicode_utf8_acceptRanges), ("unicode/utf8.first", laid_unicode_utf8_first)] }
def LabelsBytesSaid : Prop := labelsBytesRow.holds Tryd.pinned (OpenSpec.ofChange labelsBytesSpec)

/-- ITS FALSE NEIGHBOUR: 'it returns false'. Refute it at one input. -/
def labelsBytesWrong : ChangeSpec := { name := "labelsBytes", fn := fun _ => fun
  | [d1, d2, d3] => { results := [.lit (.bool false)], args := [d1, d2, d3] }
  | _ => none }
def LabelsBytesWrongFalsely : Prop := labelsBytesRow.holds Tryd.pinned (OpenSpec.ofChange labelsBytesWrong)

/-- 'eskerlaw07.LabelsBack': WHATEVER THE INPUT: true; the input reads as it did. -/
def labelsBackSpec : ChangeSpec := { name := "labelsBack", fn := fun _ => fun
  | [d1, d2, d3] => { results := [.lit (.bool true)], args := [d1, d2, d3] }
  | _ => none }
def labelsBackRow : OpenClaim := { program := "ytbgnmojdkhlbaaadoor", sum := "ac810387531d37bca8b5365e69af6d33b280f21aef26b83e941983972e6170d7", func := "esker/eskerlaw07.LabelsBack", spec := "labelsBack", inPlace := ["internal/bytealg.IndexByteString", "internal/bytealg.IndexString"], unfollowed := true, recurses := true, named := ["unicode/utf8.first", "unicode/utf8.acceptRanges", "internal/bytealg.MaxLen"], apart := false, laid := [("unicode/utf8.acceptRanges", laid_unicode_utf8_acceptRanges), ("unicode/utf8.first", laid_unicode_utf8_first)] }
def LabelsBackSaid : Prop := labelsBackRow.holds Tryd.pinned (OpenSpec.ofChange labelsBackSpec)

/-- ITS FALSE NEIGHBOUR: 'it returns false'. Refute it at one input. -/
def labelsBackWrong : ChangeSpec := { name := "labelsBack", fn := fun _ => fun
  | [d1, d2, d3] => { results := [.lit (.bool false)], args := [d1, d2, d3] }
  | _ => none }
def LabelsBackWrongFalsely : Prop := labelsBackRow.holds Tryd.pinned (OpenSpec.ofChange labelsBackWrong)

/- THE SECOND FORM. 'bulk': how many values and letters a reading holds, each counted each time it is reached (what is shared counts as often as it is met; a slice's spare places count too). A statement '..UptoSaid' is the law's where the arguments, and the package variables that the reading takes, are together of bulk at most 1048576: NARROWER than '..Said'. Prove '..Said' where nothing that the law and all that it calls make is longer than what came in: it says more and counts as full. Else prove '..UptoSaid'. A law counts once. -/
mutual
def uptoBulk {H : Type} : DataW H → Nat
  | .lit (.string bytes) => bytes.length + 1
  | .lit _ => 1
  | .nil => 1
  | .ptr d => uptoBulk d + 1
  | .slice elems spare => uptoBulkAll elems + uptoBulkAll spare + 1
  | .agg parts => uptoBulkAll parts + 1
  | .iface _ d => uptoBulk d + 1
  | .map entries => uptoBulkEntries entries + 1
  | .held _ => 1
def uptoBulkAll {H : Type} : List (DataW H) → Nat
  | [] => 0
  | d :: r => uptoBulk d + uptoBulkAll r
def uptoBulkEntries {H : Type} : List (Lit × DataW H) → Nat
  | [] => 0
  | x :: r => uptoBulkEntry x + uptoBulkEntries r
def uptoBulkEntry {H : Type} : Lit × DataW H → Nat
  | (.string bytes, d) => bytes.length + uptoBulk d + 1
  | (_, d) => uptoBulk d + 1
 end
def uptoSmall : (H : Type) → List (DataW H) → Bool := fun _ ds => decide (uptoBulkAll ds ≤ 1048576)
def OpenSpec.upto (s : _root_.Go.ChangeSpec) : _root_.Go.OpenSpec := { _root_.Go.OpenSpec.ofChange s with cond := some uptoSmall }

/-- 'eskerlaw07.LabelsCanons', WHERE WHAT IT READS IS OF BULK AT MOST 1048576: true; the input reads as it did. -/
def labelsCanonsUptoRow : OpenClaim := { program := "ytbgnmojdkhlbaaadoor", sum := "ac810387531d37bca8b5365e69af6d33b280f21aef26b83e941983972e6170d7", func := "esker/eskerlaw07.LabelsCanons", spec := "labelsCanons", inPlace := ["internal/bytealg.IndexByteString", "internal/bytealg.IndexString"], unfollowed := true, recurses := true, named := ["unicode/utf8.first", "unicode/utf8.acceptRanges", "internal/bytealg.MaxLen"], apart := false, laid := [("unicode/utf8.acceptRanges", laid_unicode_utf8_acceptRanges), ("unicode/utf8.first", laid_unicode_utf8_first)], narrowed := true }
def LabelsCanonsUptoSaid : Prop := labelsCanonsUptoRow.holds Tryd.pinned (OpenSpec.upto labelsCanonsSpec)

/-- 'eskerlaw07.LabelsCompares', WHERE WHAT IT READS IS OF BULK AT MOST 1048576: true; the input reads as it did. -/
def labelsComparesUptoRow : OpenClaim := { program := "ytbgnmojdkhlbaaadoor", sum := "ac810387531d37bca8b5365e69af6d33b280f21aef26b83e941983972e6170d7", func := "esker/eskerlaw07.LabelsCompares", spec := "labelsCompares", inPlace := ["internal/bytealg.IndexByteString", "internal/bytealg.IndexString"], unfollowed := true, recurses := true, named := ["unicode/utf8.first", "unicode/utf8.acceptRanges", "internal/bytealg.MaxLen"], apart := false, laid := [("unicode/utf8.acceptRanges", laid_unicode_utf8_acceptRanges), ("unicode/utf8.first", laid_unicode_utf8_first)], narrowed := true }
def LabelsComparesUptoSaid : Prop := labelsComparesUptoRow.holds Tryd.pinned (OpenSpec.upto labelsComparesSpec)

/-- 'eskerlaw07.LabelsOwn', WHERE WHAT IT READS IS OF BULK AT MOST 1048576: true; the input reads as it did. -/
def labelsOwnUptoRow : OpenClaim := { program := "ytbgnmojdkhlbaaadoor", sum := "ac810387531d37bca8b5365e69af6d33b280f21aef26b83e941983972e6170d7", func := "esker/eskerlaw07.LabelsOwn", spec := "labelsOwn", inPlace := ["internal/bytealg.IndexByteString", "internal/bytealg.IndexString"], unfollowed := true, recurses := true, named := ["unicode/utf8.first", "unicode/utf8.acceptRanges", "internal/bytealg.MaxLen"], apart := false, laid := [("unicode/utf8.acceptRanges", laid_unicode_utf8_acceptRanges), ("unicode/utf8.first", laid_unicode_utf8_first)], narrowed := true }
def LabelsOwnUptoSaid : Prop := labelsOwnUptoRow.holds Tryd.pinned (OpenSpec.upto labelsOwnSpec)

/-- 'eskerlaw07.LabelsOrders', WHERE WHAT IT READS IS OF BULK AT MOST 1048576: true; the input reads as it did. -/
def labelsOrdersUptoRow : OpenClaim := { program := "ytbgnmojdkhlbaaadoor", sum := "ac810387531d37bca8b5365e69af6d33b280f21aef26b83e941983972e6170d7", func := "esker/eskerlaw07.LabelsOrders", spec := "labelsOrders", inPlace := ["internal/bytealg.IndexByteString", "internal/bytealg.IndexString"], unfollowed := true, recurses := true, named := ["unicode/utf8.first", "unicode/utf8.acceptRanges", "internal/bytealg.MaxLen"], apart := false, laid := [("unicode/utf8.acceptRanges", laid_unicode_utf8_acceptRanges), ("unicode/utf8.first", laid_unicode_utf8_first)], narrowed := true }
def LabelsOrdersUptoSaid : Prop := labelsOrdersUptoRow.holds Tryd.pinned (OpenSpec.upto labelsOrdersSpec)

/-- 'eskerlaw07.LabelsBytes', WHERE WHAT IT READS IS OF BULK AT MOST 1048576: true; the input reads as it did. -/
def labelsBytesUptoRow : OpenClaim := { program := "ytbgnmojdkhlbaaadoor", sum := "ac810387531d37bca8b5365e69af6d33b280f21aef26b83e941983972e6170d7", func := "esker/eskerlaw07.LabelsBytes", spec := "labelsBytes", inPlace := ["internal/bytealg.IndexByteString", "internal/bytealg.IndexString"], unfollowed := true, recurses := true, named := ["unicode/utf8.first", "unicode/utf8.acceptRanges", "internal/bytealg.MaxLen"], apart := false, laid := [("unicode/utf8.acceptRanges", laid_unicode_utf8_acceptRanges), ("unicode/utf8.first", laid_unicode_utf8_first)], narrowed := true }
def LabelsBytesUptoSaid : Prop := labelsBytesUptoRow.holds Tryd.pinned (OpenSpec.upto labelsBytesSpec)

/-- 'eskerlaw07.LabelsBack', WHERE WHAT IT READS IS OF BULK AT MOST 1048576: true; the input reads as it did. -/
def labelsBackUptoRow : OpenClaim := { program := "ytbgnmojdkhlbaaadoor", sum := "ac810387531d37bca8b5365e69af6d33b280f21aef26b83e941983972e6170d7", func := "esker/eskerlaw07.LabelsBack", spec := "labelsBack", inPlace := ["internal/bytealg.IndexByteString", "internal/bytealg.IndexString"], unfollowed := true, recurses := true, named := ["unicode/utf8.first", "unicode/utf8.acceptRanges", "internal/bytealg.MaxLen"], apart := false, laid := [("unicode/utf8.acceptRanges", laid_unicode_utf8_acceptRanges), ("unicode/utf8.first", laid_unicode_utf8_first)], narrowed := true }
def LabelsBackUptoSaid : Prop := labelsBackUptoRow.holds Tryd.pinned (OpenSpec.upto labelsBackSpec)

end Rows
end Go.Proofs.YtbgnmojdkhlbaaaDoor
