/-
  NARROWER THAN 'FOR EVERY INPUT', by the rows' own cells (each row's printed sentence says how): RowsMakes: laid · RowsParses: laid · RowsAlls: laid · RowsBack: laid · RowsOrder: laid · RowsApart: laid.
  DERIVED. THE GIVEN ROWS OF THIS SEAT. 6 by the template 'for every input the law returns true; each argument reads behind the call as it read before'; 0 by the template 'total and deterministic' (their statements: YtpjiioeodcinpaaGreatDoorTotals.lean).
  GIVEN WITH THE SEED: the statements are not yours to turn. If you find one false, say at which input.
  Laid BY PROGRAM, IN A SANDBOX (cutbox-rows.mjs): the forced cells as the released guide's own fill.sh prints them over the translation a1c0b1c65bd88fef… (all of the seat's roots in one cut). By AI agents, Wed Nov 11 2026. No macro, syntax, notation, axiom, sorry.
-/
import Derived.Test.YtpjiioeodcinpaaGreatDoorChecked
import GoSem.PinnedTables
import GoSem.Claim
import GoSem.ClaimJoined
import GoSem.ClaimMapViews
import Derived.JoinedTies
import Derived.KernelRfl
namespace Go.Proofs.YtpjiioeodcinpaaGreatDoor
/- THE CELL 'sum', in the pinned program and in every row, IS THE sha256 OF THE DUMP (.gsa) THAT YtpjiioeodcinpaaGreatDoorProg.lean LOADS. Nothing in Lean hashes anything: it is a label: what it is worth is what the hold of that sum in a sandbox is worth. -/
noncomputable def Tryz.pinned : Pinned := { name := "ytpjiioeodcinpaagreatdoor", sum := "a1c0b1c65bd88fef14d5528b05aa524201eb7373c0e6f19c5102f845847c3829", checked := Tryz.checked }
namespace Rows
def none {H : Type} : Left H := { results := [], args := [] }

/- WHAT THE LISTED PACKAGE-LEVEL VARIABLES READ AS WHEN THE CALL BEGINS. Each datum BY PROGRAM (the guide's laid-datum.mjs) off the statement by which the dump's own 'gosem.cut.vars' lays the variable. In a bare row this is a premise. The card (YtpjiioeodcinpaaGreatDoorCards.lean) ties it to the program's text. -/
def laid_unicode_utf8_acceptRanges {H : Type} : DataW H := .agg [.agg [.lit (.int .u8 128), .lit (.int .u8 191)], .agg [.lit (.int .u8 160), .lit (.int .u8 191)], .agg [.lit (.int .u8 128), .lit (.int .u8 159)], .agg [.lit (.int .u8 144), .lit (.int .u8 191)], .agg [.lit (.int .u8 128), .lit (.int .u8 143)], .agg [.lit (.int .u8 0), .lit (.int .u8 0)], .agg [.lit (.int .u8 0), .lit (.int .u8 0)], .agg [.lit (.int .u8 0), .lit (.int .u8 0)], .agg [.lit (.int .u8 0), .lit (.int .u8 0)], .agg [.lit (.int .u8 0), .lit (.int .u8 0)], .agg [.lit (.int .u8 0), .lit (.int .u8 0)], .agg [.lit (.int .u8 0), .lit (.int .u8 0)], .agg [.lit (.int .u8 0), .lit (.int .u8 0)], .agg [.lit (.int .u8 0), .lit (.int .u8 0)], .agg [.lit (.int .u8 0), .lit (.int .u8 0)], .agg [.lit (.int .u8 0), .lit (.int .u8 0)]]
/-- One of Go's own tables, pinned by name: the form's constant. -/
def laid_unicode_utf8_first : DataW Unit := Go.Pinned.utf8First

/-- 'eskerlaw12.RowsMakes': WHATEVER THE INPUT: true; the input reads as it did. -/
def rowsMakesSpec : ChangeSpec := { name := "rowsMakes", fn := fun _ => fun
  | [d] => { results := [.lit (.bool true)], args := [d] }
  | _ => none }
def rowsMakesRow : OpenClaim := { program := "ytpjiioeodcinpaagreatdoor", sum := "a1c0b1c65bd88fef14d5528b05aa524201eb7373c0e6f19c5102f845847c3829", func := "esker/eskerlaw12.RowsMakes", spec := "rowsMakes", inPlace := ["internal/bytealg.IndexByteString", "internal/bytealg.IndexString", "internal/bytealg.Compare"], unfollowed := true, recurses := true, named := ["unicode/utf8.first", "unicode/utf8.acceptRanges", "internal/bytealg.MaxLen"], apart := false, laid := [("unicode/utf8.acceptRanges", laid_unicode_utf8_acceptRanges), ("unicode/utf8.first", laid_unicode_utf8_first)] }
def RowsMakesSaid : Prop := rowsMakesRow.holds Tryz.pinned (OpenSpec.ofChange rowsMakesSpec)

/-- ITS FALSE NEIGHBOUR: 'it returns false'. Refute it at one input. -/
def rowsMakesWrong : ChangeSpec := { name := "rowsMakes", fn := fun _ => fun
  | [d] => { results := [.lit (.bool false)], args := [d] }
  | _ => none }
def RowsMakesWrongFalsely : Prop := rowsMakesRow.holds Tryz.pinned (OpenSpec.ofChange rowsMakesWrong)

/-- 'eskerlaw12.RowsParses': WHATEVER THE INPUT: true; the input reads as it did. -/
def rowsParsesSpec : ChangeSpec := { name := "rowsParses", fn := fun _ => fun
  | [d] => { results := [.lit (.bool true)], args := [d] }
  | _ => none }
def rowsParsesRow : OpenClaim := { program := "ytpjiioeodcinpaagreatdoor", sum := "a1c0b1c65bd88fef14d5528b05aa524201eb7373c0e6f19c5102f845847c3829", func := "esker/eskerlaw12.RowsParses", spec := "rowsParses", inPlace := ["internal/bytealg.IndexByteString", "internal/bytealg.IndexString", "internal/bytealg.Compare"], unfollowed := true, recurses := true, named := ["unicode/utf8.first", "unicode/utf8.acceptRanges", "internal/bytealg.MaxLen"], apart := false, laid := [("unicode/utf8.acceptRanges", laid_unicode_utf8_acceptRanges), ("unicode/utf8.first", laid_unicode_utf8_first)] }
def RowsParsesSaid : Prop := rowsParsesRow.holds Tryz.pinned (OpenSpec.ofChange rowsParsesSpec)

/-- ITS FALSE NEIGHBOUR: 'it returns false'. Refute it at one input. -/
def rowsParsesWrong : ChangeSpec := { name := "rowsParses", fn := fun _ => fun
  | [d] => { results := [.lit (.bool false)], args := [d] }
  | _ => none }
def RowsParsesWrongFalsely : Prop := rowsParsesRow.holds Tryz.pinned (OpenSpec.ofChange rowsParsesWrong)

/-- 'eskerlaw12.RowsAlls': WHATEVER THE INPUT: true; the input reads as it did. -/
def rowsAllsSpec : ChangeSpec := { name := "rowsAlls", fn := fun _ => fun
  | [d1, d2, d3] => { results := [.lit (.bool true)], args := [d1, d2, d3] }
  | _ => none }
def rowsAllsRow : OpenClaim := { program := "ytpjiioeodcinpaagreatdoor", sum := "a1c0b1c65bd88fef14d5528b05aa524201eb7373c0e6f19c5102f845847c3829", func := "esker/eskerlaw12.RowsAlls", spec := "rowsAlls", inPlace := ["internal/bytealg.IndexByteString", "internal/bytealg.IndexString", "internal/bytealg.Compare"], unfollowed := true, recurses := true, named := ["unicode/utf8.first", "unicode/utf8.acceptRanges", "internal/bytealg.MaxLen"], apart := false, laid := [("unicode/utf8.acceptRanges", laid_unicode_utf8_acceptRanges), ("unicode/utf8.first", laid_unicode_utf8_first)] }
def RowsAllsSaid : Prop := rowsAllsRow.holds Tryz.pinned (OpenSpec.ofChange rowsAllsSpec)

/-- ITS FALSE NEIGHBOUR: 'it returns false'. Refute it at one input. -/
def rowsAllsWrong : ChangeSpec := { name := "rowsAlls", fn := fun _ => fun
  | [d1, d2, d3] => { results := [.lit (.bool false)], args := [d1, d2, d3] }
  | _ => none }
def RowsAllsWrongFalsely : Prop := rowsAllsRow.holds Tryz.pinned (OpenSpec.ofChange rowsAllsWrong)

/-- 'eskerlaw12.RowsBack': WHATEVER THE INPUT: true; the input reads as it did. -/
def rowsBackSpec : ChangeSpec := { name := "rowsBack", fn := fun _ => fun
  | [d1, d2] => { results := [.lit (.bool true)], args := [d1, d2] }
  | _ => none }
def rowsBackRow : OpenClaim := { program := "ytpjiioeodcinpaagreatdoor", sum := "a1c0b1c65bd88fef14d5528b05aa524201eb7373c0e6f19c5102f845847c3829", func := "esker/eskerlaw12.RowsBack", spec := "rowsBack", inPlace := ["internal/bytealg.IndexByteString", "internal/bytealg.IndexString", "internal/bytealg.Compare"], unfollowed := true, recurses := true, named := ["unicode/utf8.first", "unicode/utf8.acceptRanges", "internal/bytealg.MaxLen"], apart := false, laid := [("unicode/utf8.acceptRanges", laid_unicode_utf8_acceptRanges), ("unicode/utf8.first", laid_unicode_utf8_first)] }
def RowsBackSaid : Prop := rowsBackRow.holds Tryz.pinned (OpenSpec.ofChange rowsBackSpec)

/-- ITS FALSE NEIGHBOUR: 'it returns false'. Refute it at one input. -/
def rowsBackWrong : ChangeSpec := { name := "rowsBack", fn := fun _ => fun
  | [d1, d2] => { results := [.lit (.bool false)], args := [d1, d2] }
  | _ => none }
def RowsBackWrongFalsely : Prop := rowsBackRow.holds Tryz.pinned (OpenSpec.ofChange rowsBackWrong)

/-- 'eskerlaw12.RowsOrder': WHATEVER THE INPUT: true; the input reads as it did. -/
def rowsOrderSpec : ChangeSpec := { name := "rowsOrder", fn := fun _ => fun
  | [d1, d2] => { results := [.lit (.bool true)], args := [d1, d2] }
  | _ => none }
def rowsOrderRow : OpenClaim := { program := "ytpjiioeodcinpaagreatdoor", sum := "a1c0b1c65bd88fef14d5528b05aa524201eb7373c0e6f19c5102f845847c3829", func := "esker/eskerlaw12.RowsOrder", spec := "rowsOrder", inPlace := ["internal/bytealg.IndexByteString", "internal/bytealg.IndexString", "internal/bytealg.Compare"], unfollowed := true, recurses := true, named := ["unicode/utf8.first", "unicode/utf8.acceptRanges", "internal/bytealg.MaxLen"], apart := false, laid := [("unicode/utf8.acceptRanges", laid_unicode_utf8_acceptRanges), ("unicode/utf8.first", laid_unicode_utf8_first)] }
def RowsOrderSaid : Prop := rowsOrderRow.holds Tryz.pinned (OpenSpec.ofChange rowsOrderSpec)

/-- ITS FALSE NEIGHBOUR: 'it returns false'. Refute it at one input. -/
def rowsOrderWrong : ChangeSpec := { name := "rowsOrder", fn := fun _ => fun
  | [d1, d2] => { results := [.lit (.bool false)], args := [d1, d2] }
  | _ => none }
def RowsOrderWrongFalsely : Prop := rowsOrderRow.holds Tryz.pinned (OpenSpec.ofChange rowsOrderWrong)

/-- 'eskerlaw12.RowsApart': WHATEVER THE INPUT: true; the input reads as it did. -/
def rowsApartSpec : ChangeSpec := { name := "rowsApart", fn := fun _ => fun
  | [d1, d2, d3] => { results := [.lit (.bool true)], args := [d1, d2, d3] }
  | _ => none }
def rowsApartRow : OpenClaim := { program := "ytpjiioeodcinpaagreatdoor", sum := "a1c0b1c65bd88fef14d5528b05aa524201eb7373c0e6f19c5102f845847c3829", func := "esker/eskerlaw12.RowsApart", spec := "rowsApart", inPlace := ["internal/bytealg.IndexByteString", "internal/bytealg.IndexString", "internal/bytealg.Compare"], unfollowed := true, recurses := true, named := ["unicode/utf8.first", "unicode/utf8.acceptRanges", "internal/bytealg.MaxLen"], apart := false, laid := [("unicode/utf8.acceptRanges", laid_unicode_utf8_acceptRanges), ("unicode/utf8.first", laid_unicode_utf8_first)] }
def RowsApartSaid : Prop := rowsApartRow.holds Tryz.pinned (OpenSpec.ofChange rowsApartSpec)

/-- ITS FALSE NEIGHBOUR: 'it returns false'. Refute it at one input. -/
def rowsApartWrong : ChangeSpec := { name := "rowsApart", fn := fun _ => fun
  | [d1, d2, d3] => { results := [.lit (.bool false)], args := [d1, d2, d3] }
  | _ => none }
def RowsApartWrongFalsely : Prop := rowsApartRow.holds Tryz.pinned (OpenSpec.ofChange rowsApartWrong)

/- THE SECOND FORM. 'bulk': how many values and letters a reading holds, each counted each time it is reached (what is shared counts as often as it is met; a slice's spare places count too). A statement '..UptoSaid' is the law's where the arguments, and the package variables that the reading takes, are together of bulk at most 1048576: NARROWER than '..Said'. Prove '..Said' where nothing that the law and all that it calls make is longer than what came in: it says more and counts as full. Else prove '..UptoSaid'. A law counts once. -/
mutual
def uptoBulk {H : Type} : DataW H → Nat
  | .lit (.string bytes) => bytes.length + 1
  | .lit _ => 1
  | .nil => 1
  | .ptr d => uptoBulk d + 1
  | .slice elems spare => uptoBulkAll elems + uptoBulkAll spare + 1
  | .agg parts => uptoBulkAll parts + 1
  | .iface _ d => uptoBulk d + 1
  | .map entries => uptoBulkEntries entries + 1
  | .held _ => 1
def uptoBulkAll {H : Type} : List (DataW H) → Nat
  | [] => 0
  | d :: r => uptoBulk d + uptoBulkAll r
def uptoBulkEntries {H : Type} : List (Lit × DataW H) → Nat
  | [] => 0
  | x :: r => uptoBulkEntry x + uptoBulkEntries r
def uptoBulkEntry {H : Type} : Lit × DataW H → Nat
  | (.string bytes, d) => bytes.length + uptoBulk d + 1
  | (_, d) => uptoBulk d + 1
 end
def uptoSmall : (H : Type) → List (DataW H) → Bool := fun _ ds => decide (uptoBulkAll ds ≤ 1048576)
def OpenSpec.upto (s : _root_.Go.ChangeSpec) : _root_.Go.OpenSpec := { _root_.Go.OpenSpec.ofChange s with cond := some uptoSmall }

/-- 'eskerlaw12.RowsMakes', WHERE WHAT IT READS IS OF BULK AT MOST 1048576: true; the input reads as it did. -/
def rowsMakesUptoRow : OpenClaim := { program := "ytpjiioeodcinpaagreatdoor", sum := "a1c0b1c65bd88fef14d5528b05aa524201eb7373c0e6f19c5102f845847c3829", func := "esker/eskerlaw12.RowsMakes", spec := "rowsMakes", inPlace := ["internal/bytealg.IndexByteString", "internal/bytealg.IndexString", "internal/bytealg.Compare"], unfollowed := true, recurses := true, named := ["unicode/utf8.first", "unicode/utf8.acceptRanges", "internal/bytealg.MaxLen"], apart := false, laid := [("unicode/utf8.acceptRanges", laid_unicode_utf8_acceptRanges), ("unicode/utf8.first", laid_unicode_utf8_first)], narrowed := true }
def RowsMakesUptoSaid : Prop := rowsMakesUptoRow.holds Tryz.pinned (OpenSpec.upto rowsMakesSpec)

/-- 'eskerlaw12.RowsParses', WHERE WHAT IT READS IS OF BULK AT MOST 1048576: true; the input reads as it did. -/
def rowsParsesUptoRow : OpenClaim := { program := "ytpjiioeodcinpaagreatdoor", sum := "a1c0b1c65bd88fef14d5528b05aa524201eb7373c0e6f19c5102f845847c3829", func := "esker/eskerlaw12.RowsParses", spec := "rowsParses", inPlace := ["internal/bytealg.IndexByteString", "internal/bytealg.IndexString", "internal/bytealg.Compare"], unfollowed := true, recurses := true, named := ["unicode/utf8.first", "unicode/utf8.acceptRanges", "internal/bytealg.MaxLen"], apart := false, laid := [("unicode/utf8.acceptRanges", laid_unicode_utf8_acceptRanges), ("unicode/utf8.first", laid_unicode_utf8_first)], narrowed := true }
def RowsParsesUptoSaid : Prop := rowsParsesUptoRow.holds Tryz.pinned (OpenSpec.upto rowsParsesSpec)

/-- 'eskerlaw12.RowsAlls', WHERE WHAT IT READS IS OF BULK AT MOST 1048576: true; the input reads as it did. -/
def rowsAllsUptoRow : OpenClaim := { program := "ytpjiioeodcinpaagreatdoor", sum := "a1c0b1c65bd88fef14d5528b05aa524201eb7373c0e6f19c5102f845847c3829", func := "esker/eskerlaw12.RowsAlls", spec := "rowsAlls", inPlace := ["internal/bytealg.IndexByteString", "internal/bytealg.IndexString", "internal/bytealg.Compare"], unfollowed := true, recurses := true, named := ["unicode/utf8.first", "unicode/utf8.acceptRanges", "internal/bytealg.MaxLen"], apart := false, laid := [("unicode/utf8.acceptRanges", laid_unicode_utf8_acceptRanges), ("unicode/utf8.first", laid_unicode_utf8_first)], narrowed := true }
def RowsAllsUptoSaid : Prop := rowsAllsUptoRow.holds Tryz.pinned (OpenSpec.upto rowsAllsSpec)

/-- 'eskerlaw12.RowsBack', WHERE WHAT IT READS IS OF BULK AT MOST 1048576: true; the input reads as it did. -/
def rowsBackUptoRow : OpenClaim := { program := "ytpjiioeodcinpaagreatdoor", sum := "a1c0b1c65bd88fef14d5528b05aa524201eb7373c0e6f19c5102f845847c3829", func := "esker/eskerlaw12.RowsBack", spec := "rowsBack", inPlace := ["internal/bytealg.IndexByteString", "internal/bytealg.IndexString", "internal/bytealg.Compare"], unfollowed := true, recurses := true, named := ["unicode/utf8.first", "unicode/utf8.acceptRanges", "internal/bytealg.MaxLen"], apart := false, laid := [("unicode/utf8.acceptRanges", laid_unicode_utf8_acceptRanges), ("unicode/utf8.first", laid_unicode_utf8_first)], narrowed := true }
def RowsBackUptoSaid : Prop := rowsBackUptoRow.holds Tryz.pinned (OpenSpec.upto rowsBackSpec)

/-- 'eskerlaw12.RowsOrder', WHERE WHAT IT READS IS OF BULK AT MOST 1048576: true; the input reads as it did. -/
def rowsOrderUptoRow : OpenClaim := { program := "ytpjiioeodcinpaagreatdoor", sum := "a1c0b1c65bd88fef14d5528b05aa524201eb7373c0e6f19c5102f845847c3829", func := "esker/eskerlaw12.RowsOrder", spec := "rowsOrder", inPlace := ["internal/bytealg.IndexByteString", "internal/bytealg.IndexString", "internal/bytealg.Compare"], unfollowed := true, recurses := true, named := ["unicode/utf8.first", "unicode/utf8.acceptRanges", "internal/bytealg.MaxLen"], apart := false, laid := [("unicode/utf8.acceptRanges", laid_unicode_utf8_acceptRanges), ("unicode/utf8.first", laid_unicode_utf8_first)], narrowed := true }
def RowsOrderUptoSaid : Prop := rowsOrderUptoRow.holds Tryz.pinned (OpenSpec.upto rowsOrderSpec)

/-- 'eskerlaw12.RowsApart', WHERE WHAT IT READS IS OF BULK AT MOST 1048576: true; the input reads as it did. -/
def rowsApartUptoRow : OpenClaim := { program := "ytpjiioeodcinpaagreatdoor", sum := "a1c0b1c65bd88fef14d5528b05aa524201eb7373c0e6f19c5102f845847c3829", func := "esker/eskerlaw12.RowsApart", spec := "rowsApart", inPlace := ["internal/bytealg.IndexByteString", "internal/bytealg.IndexString", "internal/bytealg.Compare"], unfollowed := true, recurses := true, named := ["unicode/utf8.first", "unicode/utf8.acceptRanges", "internal/bytealg.MaxLen"], apart := false, laid := [("unicode/utf8.acceptRanges", laid_unicode_utf8_acceptRanges), ("unicode/utf8.first", laid_unicode_utf8_first)], narrowed := true }
def RowsApartUptoSaid : Prop := rowsApartUptoRow.holds Tryz.pinned (OpenSpec.upto rowsApartSpec)

end Rows
end Go.Proofs.YtpjiioeodcinpaaGreatDoor
