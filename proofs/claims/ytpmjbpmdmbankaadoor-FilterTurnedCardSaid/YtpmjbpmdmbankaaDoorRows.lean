/-
  NARROWER THAN 'FOR EVERY INPUT', by the rows' own cells (each row's printed sentence says how): FilterAlls: laid · FilterTurned: laid · FilterNot: laid · FilterExact: laid · FilterEmpty: laid.
  DERIVED. THE GIVEN ROWS OF THIS SEAT. 5 by the template 'for every input the law returns true; each argument reads behind the call as it read before'; 0 by the template 'total and deterministic' (their statements: YtpmjbpmdmbankaaDoorTotals.lean).
  GIVEN WITH THE SEED: the statements are not yours to turn. If you find one false, say at which input.
  Laid BY PROGRAM, IN A SANDBOX (cutbox-rows.mjs): the forced cells as the released guide's own fill.sh prints them over the translation 5040eb914bfbea39… (all of the seat's roots in one cut). By AI agents, Wed Nov 11 2026. No macro, syntax, notation, axiom, sorry.
-/
import Derived.Test.YtpmjbpmdmbankaaDoorChecked
import GoSem.PinnedTables
import GoSem.Claim
import GoSem.ClaimJoined
import GoSem.ClaimMapViews
import Derived.JoinedTies
import Derived.KernelRfl
namespace Go.Proofs.YtpmjbpmdmbankaaDoor
/- THE CELL 'sum', in the pinned program and in every row, IS THE sha256 OF THE DUMP (.gsa) THAT YtpmjbpmdmbankaaDoorProg.lean LOADS. Nothing in Lean hashes anything: it is a label: what it is worth is what the hold of that sum in a sandbox is worth. -/
noncomputable def Tryd.pinned : Pinned := { name := "ytpmjbpmdmbankaadoor", sum := "5040eb914bfbea399af711df3f0bfe82994073f3dceb82df008184a6e3514754", checked := Tryd.checked }
namespace Rows
def none {H : Type} : Left H := { results := [], args := [] }

/- WHAT THE LISTED PACKAGE-LEVEL VARIABLES READ AS WHEN THE CALL BEGINS. Each datum BY PROGRAM (the guide's laid-datum.mjs) off the statement by which the dump's own 'gosem.cut.vars' lays the variable. In a bare row this is a premise. The card (YtpmjbpmdmbankaaDoorCards.lean) ties it to the program's text. -/
def laid_unicode_utf8_acceptRanges {H : Type} : DataW H := .agg [.agg [.lit (.int .u8 128), .lit (.int .u8 191)], .agg [.lit (.int .u8 160), .lit (.int .u8 191)], .agg [.lit (.int .u8 128), .lit (.int .u8 159)], .agg [.lit (.int .u8 144), .lit (.int .u8 191)], .agg [.lit (.int .u8 128), .lit (.int .u8 143)], .agg [.lit (.int .u8 0), .lit (.int .u8 0)], .agg [.lit (.int .u8 0), .lit (.int .u8 0)], .agg [.lit (.int .u8 0), .lit (.int .u8 0)], .agg [.lit (.int .u8 0), .lit (.int .u8 0)], .agg [.lit (.int .u8 0), .lit (.int .u8 0)], .agg [.lit (.int .u8 0), .lit (.int .u8 0)], .agg [.lit (.int .u8 0), .lit (.int .u8 0)], .agg [.lit (.int .u8 0), .lit (.int .u8 0)], .agg [.lit (.int .u8 0), .lit (.int .u8 0)], .agg [.lit (.int .u8 0), .lit (.int .u8 0)], .agg [.lit (.int .u8 0), .lit (.int .u8 0)]]
/-- One of Go's own tables, pinned by name: the form's constant. -/
def laid_unicode_utf8_first : DataW Unit := Go.Pinned.utf8First

/-- 'eskerlaw08.FilterAlls': WHATEVER THE INPUT: true; the input reads as it did. -/
def filterAllsSpec : ChangeSpec := { name := "filterAlls", fn := fun _ => fun
  | [d1, d2] => { results := [.lit (.bool true)], args := [d1, d2] }
  | _ => none }
def filterAllsRow : OpenClaim := { program := "ytpmjbpmdmbankaadoor", sum := "5040eb914bfbea399af711df3f0bfe82994073f3dceb82df008184a6e3514754", func := "esker/eskerlaw08.FilterAlls", spec := "filterAlls", inPlace := ["internal/bytealg.IndexByteString", "internal/bytealg.IndexString"], unfollowed := true, recurses := true, named := ["unicode/utf8.first", "unicode/utf8.acceptRanges", "internal/bytealg.MaxLen"], apart := false, laid := [("unicode/utf8.acceptRanges", laid_unicode_utf8_acceptRanges), ("unicode/utf8.first", laid_unicode_utf8_first)] }
def FilterAllsSaid : Prop := filterAllsRow.holds Tryd.pinned (OpenSpec.ofChange filterAllsSpec)

/-- ITS FALSE NEIGHBOUR: 'it returns false'. Refute it at one input. -/
def filterAllsWrong : ChangeSpec := { name := "filterAlls", fn := fun _ => fun
  | [d1, d2] => { results := [.lit (.bool false)], args := [d1, d2] }
  | _ => none }
def FilterAllsWrongFalsely : Prop := filterAllsRow.holds Tryd.pinned (OpenSpec.ofChange filterAllsWrong)

/-- 'eskerlaw08.FilterTurned': WHATEVER THE INPUT: true; the input reads as it did. -/
def filterTurnedSpec : ChangeSpec := { name := "filterTurned", fn := fun _ => fun
  | [d1, d2, d3] => { results := [.lit (.bool true)], args := [d1, d2, d3] }
  | _ => none }
def filterTurnedRow : OpenClaim := { program := "ytpmjbpmdmbankaadoor", sum := "5040eb914bfbea399af711df3f0bfe82994073f3dceb82df008184a6e3514754", func := "esker/eskerlaw08.FilterTurned", spec := "filterTurned", inPlace := ["internal/bytealg.IndexByteString", "internal/bytealg.IndexString"], unfollowed := true, recurses := true, named := ["unicode/utf8.first", "unicode/utf8.acceptRanges", "internal/bytealg.MaxLen"], apart := false, laid := [("unicode/utf8.acceptRanges", laid_unicode_utf8_acceptRanges), ("unicode/utf8.first", laid_unicode_utf8_first)] }
def FilterTurnedSaid : Prop := filterTurnedRow.holds Tryd.pinned (OpenSpec.ofChange filterTurnedSpec)

/-- ITS FALSE NEIGHBOUR: 'it returns false'. Refute it at one input. -/
def filterTurnedWrong : ChangeSpec := { name := "filterTurned", fn := fun _ => fun
  | [d1, d2, d3] => { results := [.lit (.bool false)], args := [d1, d2, d3] }
  | _ => none }
def FilterTurnedWrongFalsely : Prop := filterTurnedRow.holds Tryd.pinned (OpenSpec.ofChange filterTurnedWrong)

/-- 'eskerlaw08.FilterNot': WHATEVER THE INPUT: true; the input reads as it did. -/
def filterNotSpec : ChangeSpec := { name := "filterNot", fn := fun _ => fun
  | [d1, d2] => { results := [.lit (.bool true)], args := [d1, d2] }
  | _ => none }
def filterNotRow : OpenClaim := { program := "ytpmjbpmdmbankaadoor", sum := "5040eb914bfbea399af711df3f0bfe82994073f3dceb82df008184a6e3514754", func := "esker/eskerlaw08.FilterNot", spec := "filterNot", inPlace := ["internal/bytealg.IndexByteString", "internal/bytealg.IndexString"], unfollowed := true, recurses := true, named := ["unicode/utf8.first", "unicode/utf8.acceptRanges", "internal/bytealg.MaxLen"], apart := false, laid := [("unicode/utf8.acceptRanges", laid_unicode_utf8_acceptRanges), ("unicode/utf8.first", laid_unicode_utf8_first)] }
def FilterNotSaid : Prop := filterNotRow.holds Tryd.pinned (OpenSpec.ofChange filterNotSpec)

/-- ITS FALSE NEIGHBOUR: 'it returns false'. Refute it at one input. -/
def filterNotWrong : ChangeSpec := { name := "filterNot", fn := fun _ => fun
  | [d1, d2] => { results := [.lit (.bool false)], args := [d1, d2] }
  | _ => none }
def FilterNotWrongFalsely : Prop := filterNotRow.holds Tryd.pinned (OpenSpec.ofChange filterNotWrong)

/-- 'eskerlaw08.FilterExact': WHATEVER THE INPUT: true; the input reads as it did. -/
def filterExactSpec : ChangeSpec := { name := "filterExact", fn := fun _ => fun
  | [d1, d2] => { results := [.lit (.bool true)], args := [d1, d2] }
  | _ => none }
def filterExactRow : OpenClaim := { program := "ytpmjbpmdmbankaadoor", sum := "5040eb914bfbea399af711df3f0bfe82994073f3dceb82df008184a6e3514754", func := "esker/eskerlaw08.FilterExact", spec := "filterExact", inPlace := ["internal/bytealg.IndexByteString", "internal/bytealg.IndexString"], unfollowed := true, recurses := true, named := ["unicode/utf8.first", "unicode/utf8.acceptRanges", "internal/bytealg.MaxLen"], apart := false, laid := [("unicode/utf8.acceptRanges", laid_unicode_utf8_acceptRanges), ("unicode/utf8.first", laid_unicode_utf8_first)] }
def FilterExactSaid : Prop := filterExactRow.holds Tryd.pinned (OpenSpec.ofChange filterExactSpec)

/-- ITS FALSE NEIGHBOUR: 'it returns false'. Refute it at one input. -/
def filterExactWrong : ChangeSpec := { name := "filterExact", fn := fun _ => fun
  | [d1, d2] => { results := [.lit (.bool false)], args := [d1, d2] }
  | _ => none }
def FilterExactWrongFalsely : Prop := filterExactRow.holds Tryd.pinned (OpenSpec.ofChange filterExactWrong)

/-- 'eskerlaw08.FilterEmpty': WHATEVER THE INPUT: true; the input reads as it did. -/
def filterEmptySpec : ChangeSpec := { name := "filterEmpty", fn := fun _ => fun
  | [d1, d2] => { results := [.lit (.bool true)], args := [d1, d2] }
  | _ => none }
def filterEmptyRow : OpenClaim := { program := "ytpmjbpmdmbankaadoor", sum := "5040eb914bfbea399af711df3f0bfe82994073f3dceb82df008184a6e3514754", func := "esker/eskerlaw08.FilterEmpty", spec := "filterEmpty", inPlace := ["internal/bytealg.IndexByteString", "internal/bytealg.IndexString"], unfollowed := true, recurses := true, named := ["unicode/utf8.first", "unicode/utf8.acceptRanges", "internal/bytealg.MaxLen"], apart := false, laid := [("unicode/utf8.acceptRanges", laid_unicode_utf8_acceptRanges), ("unicode/utf8.first", laid_unicode_utf8_first)] }
def FilterEmptySaid : Prop := filterEmptyRow.holds Tryd.pinned (OpenSpec.ofChange filterEmptySpec)

/-- ITS FALSE NEIGHBOUR: 'it returns false'. Refute it at one input. -/
def filterEmptyWrong : ChangeSpec := { name := "filterEmpty", fn := fun _ => fun
  | [d1, d2] => { results := [.lit (.bool false)], args := [d1, d2] }
  | _ => none }
def FilterEmptyWrongFalsely : Prop := filterEmptyRow.holds Tryd.pinned (OpenSpec.ofChange filterEmptyWrong)

/- THE SECOND FORM. 'bulk': how many values and letters a reading holds, each counted each time it is reached (what is shared counts as often as it is met; a slice's spare places count too). A statement '..UptoSaid' is the law's where the arguments, and the package variables that the reading takes, are together of bulk at most 1048576: NARROWER than '..Said'. Prove '..Said' where nothing that the law and all that it calls make is longer than what came in: it says more and counts as full. Else prove '..UptoSaid'. A law counts once. -/
mutual
def uptoBulk {H : Type} : DataW H → Nat
  | .lit (.string bytes) => bytes.length + 1
  | .lit _ => 1
  | .nil => 1
  | .ptr d => uptoBulk d + 1
  | .slice elems spare => uptoBulkAll elems + uptoBulkAll spare + 1
  | .agg parts => uptoBulkAll parts + 1
  | .iface _ d => uptoBulk d + 1
  | .map entries => uptoBulkEntries entries + 1
  | .held _ => 1
def uptoBulkAll {H : Type} : List (DataW H) → Nat
  | [] => 0
  | d :: r => uptoBulk d + uptoBulkAll r
def uptoBulkEntries {H : Type} : List (Lit × DataW H) → Nat
  | [] => 0
  | x :: r => uptoBulkEntry x + uptoBulkEntries r
def uptoBulkEntry {H : Type} : Lit × DataW H → Nat
  | (.string bytes, d) => bytes.length + uptoBulk d + 1
  | (_, d) => uptoBulk d + 1
 end
def uptoSmall : (H : Type) → List (DataW H) → Bool := fun _ ds => decide (uptoBulkAll ds ≤ 1048576)
def OpenSpec.upto (s : _root_.Go.ChangeSpec) : _root_.Go.OpenSpec := { _root_.Go.OpenSpec.ofChange s with cond := some uptoSmall }

/-- 'eskerlaw08.FilterAlls', WHERE WHAT IT READS IS OF BULK AT MOST 1048576: true; the input reads as it did. -/
def filterAllsUptoRow : OpenClaim := { program := "ytpmjbpmdmbankaadoor", sum := "5040eb914bfbea399af711df3f0bfe82994073f3dceb82df008184a6e3514754", func := "esker/eskerlaw08.FilterAlls", spec := "filterAlls", inPlace := ["internal/bytealg.IndexByteString", "internal/bytealg.IndexString"], unfollowed := true, recurses := true, named := ["unicode/utf8.first", "unicode/utf8.acceptRanges", "internal/bytealg.MaxLen"], apart := false, laid := [("unicode/utf8.acceptRanges", laid_unicode_utf8_acceptRanges), ("unicode/utf8.first", laid_unicode_utf8_first)], narrowed := true }
def FilterAllsUptoSaid : Prop := filterAllsUptoRow.holds Tryd.pinned (OpenSpec.upto filterAllsSpec)

/-- 'eskerlaw08.FilterTurned', WHERE WHAT IT READS IS OF BULK AT MOST 1048576: true; the input reads as it did. -/
def filterTurnedUptoRow : OpenClaim := { program := "ytpmjbpmdmbankaadoor", sum := "5040eb914bfbea399af711df3f0bfe82994073f3dceb82df008184a6e3514754", func := "esker/eskerlaw08.FilterTurned", spec := "filterTurned", inPlace := ["internal/bytealg.IndexByteString", "internal/bytealg.IndexString"], unfollowed := true, recurses := true, named := ["unicode/utf8.first", "unicode/utf8.acceptRanges", "internal/bytealg.MaxLen"], apart := false, laid := [("unicode/utf8.acceptRanges", laid_unicode_utf8_acceptRanges), ("unicode/utf8.first", laid_unicode_utf8_first)], narrowed := true }
def FilterTurnedUptoSaid : Prop := filterTurnedUptoRow.holds Tryd.pinned (OpenSpec.upto filterTurnedSpec)

/-- 'eskerlaw08.FilterNot', WHERE WHAT IT READS IS OF BULK AT MOST 1048576: true; the input reads as it did. -/
def filterNotUptoRow : OpenClaim := { program := "ytpmjbpmdmbankaadoor", sum := "5040eb914bfbea399af711df3f0bfe82994073f3dceb82df008184a6e3514754", func := "esker/eskerlaw08.FilterNot", spec := "filterNot", inPlace := ["internal/bytealg.IndexByteString", "internal/bytealg.IndexString"], unfollowed := true, recurses := true, named := ["unicode/utf8.first", "unicode/utf8.acceptRanges", "internal/bytealg.MaxLen"], apart := false, laid := [("unicode/utf8.acceptRanges", laid_unicode_utf8_acceptRanges), ("unicode/utf8.first", laid_unicode_utf8_first)], narrowed := true }
def FilterNotUptoSaid : Prop := filterNotUptoRow.holds Tryd.pinned (OpenSpec.upto filterNotSpec)

/-- 'eskerlaw08.FilterExact', WHERE WHAT IT READS IS OF BULK AT MOST 1048576: true; the input reads as it did. -/
def filterExactUptoRow : OpenClaim := { program := "ytpmjbpmdmbankaadoor", sum := "5040eb914bfbea399af711df3f0bfe82994073f3dceb82df008184a6e3514754", func := "esker/eskerlaw08.FilterExact", spec := "filterExact", inPlace := ["internal/bytealg.IndexByteString", "internal/bytealg.IndexString"], unfollowed := true, recurses := true, named := ["unicode/utf8.first", "unicode/utf8.acceptRanges", "internal/bytealg.MaxLen"], apart := false, laid := [("unicode/utf8.acceptRanges", laid_unicode_utf8_acceptRanges), ("unicode/utf8.first", laid_unicode_utf8_first)], narrowed := true }
def FilterExactUptoSaid : Prop := filterExactUptoRow.holds Tryd.pinned (OpenSpec.upto filterExactSpec)

/-- 'eskerlaw08.FilterEmpty', WHERE WHAT IT READS IS OF BULK AT MOST 1048576: true; the input reads as it did. -/
def filterEmptyUptoRow : OpenClaim := { program := "ytpmjbpmdmbankaadoor", sum := "5040eb914bfbea399af711df3f0bfe82994073f3dceb82df008184a6e3514754", func := "esker/eskerlaw08.FilterEmpty", spec := "filterEmpty", inPlace := ["internal/bytealg.IndexByteString", "internal/bytealg.IndexString"], unfollowed := true, recurses := true, named := ["unicode/utf8.first", "unicode/utf8.acceptRanges", "internal/bytealg.MaxLen"], apart := false, laid := [("unicode/utf8.acceptRanges", laid_unicode_utf8_acceptRanges), ("unicode/utf8.first", laid_unicode_utf8_first)], narrowed := true }
def FilterEmptyUptoSaid : Prop := filterEmptyUptoRow.holds Tryd.pinned (OpenSpec.upto filterEmptySpec)

end Rows
end Go.Proofs.YtpmjbpmdmbankaaDoor
