/-
  NARROWER THAN 'FOR EVERY INPUT', by the rows' own cells (each row's printed sentence says how): SimfsPlays: laid · SimfsKeeps: laid · SimfsLinks: laid · SimfsTwice: laid · SimfsNone: laid.
  DERIVED. THE GIVEN ROWS OF THIS SEAT. 5 by the template 'for every input the law returns true; each argument reads behind the call as it read before'; 0 by the template 'total and deterministic' (their statements: YteidkmiladkoiaaGreatDoorTotals.lean).
  GIVEN WITH THE SEED: the statements are not yours to turn. If you find one false, say at which input.
  Laid BY PROGRAM, IN A SANDBOX (cutbox-rows.mjs): the forced cells as the released guide's own fill.sh prints them over the translation 27b7e87c871dec7d… (all of the seat's roots in one cut). By AI agents, Wed Nov 11 2026. No macro, syntax, notation, axiom, sorry.
-/
import Derived.Test.YteidkmiladkoiaaGreatDoorChecked
import GoSem.PinnedTables
import GoSem.Claim
import GoSem.ClaimJoined
import GoSem.ClaimMapViews
import Derived.JoinedTies
import Derived.KernelRfl
namespace Go.Proofs.YteidkmiladkoiaaGreatDoor
/- THE CELL 'sum', in the pinned program and in every row, IS THE sha256 OF THE DUMP (.gsa) THAT YteidkmiladkoiaaGreatDoorProg.lean LOADS. Nothing in Lean hashes anything: it is a label: what it is worth is what the hold of that sum in a sandbox is worth. -/
noncomputable def Tryz.pinned : Pinned := { name := "yteidkmiladkoiaagreatdoor", sum := "27b7e87c871dec7defe4287909eb29a6e011028a458b3a718d5fe1b1d1c44dc9", checked := Tryz.checked }
namespace Rows
def none {H : Type} : Left H := { results := [], args := [] }

/- WHAT THE LISTED PACKAGE-LEVEL VARIABLES READ AS WHEN THE CALL BEGINS. Each datum BY PROGRAM (the guide's laid-datum.mjs) off the statement by which the dump's own 'gosem.cut.vars' lays the variable. In a bare row this is a premise. The card (YteidkmiladkoiaaGreatDoorCards.lean) ties it to the program's text. -/
def laid_unicode_utf8_acceptRanges {H : Type} : DataW H := .agg [.agg [.lit (.int .u8 128), .lit (.int .u8 191)], .agg [.lit (.int .u8 160), .lit (.int .u8 191)], .agg [.lit (.int .u8 128), .lit (.int .u8 159)], .agg [.lit (.int .u8 144), .lit (.int .u8 191)], .agg [.lit (.int .u8 128), .lit (.int .u8 143)], .agg [.lit (.int .u8 0), .lit (.int .u8 0)], .agg [.lit (.int .u8 0), .lit (.int .u8 0)], .agg [.lit (.int .u8 0), .lit (.int .u8 0)], .agg [.lit (.int .u8 0), .lit (.int .u8 0)], .agg [.lit (.int .u8 0), .lit (.int .u8 0)], .agg [.lit (.int .u8 0), .lit (.int .u8 0)], .agg [.lit (.int .u8 0), .lit (.int .u8 0)], .agg [.lit (.int .u8 0), .lit (.int .u8 0)], .agg [.lit (.int .u8 0), .lit (.int .u8 0)], .agg [.lit (.int .u8 0), .lit (.int .u8 0)], .agg [.lit (.int .u8 0), .lit (.int .u8 0)]]
/-- One of Go's own tables, pinned by name: the form's constant. -/
def laid_unicode_utf8_first : DataW Unit := Go.Pinned.utf8First

/-- 'eskerlaw06.SimfsPlays': WHATEVER THE INPUT: true; the input reads as it did. -/
def simfsPlaysSpec : ChangeSpec := { name := "simfsPlays", fn := fun _ => fun
  | [d1, d2, d3] => { results := [.lit (.bool true)], args := [d1, d2, d3] }
  | _ => none }
def simfsPlaysRow : OpenClaim := { program := "yteidkmiladkoiaagreatdoor", sum := "27b7e87c871dec7defe4287909eb29a6e011028a458b3a718d5fe1b1d1c44dc9", func := "esker/eskerlaw06.SimfsPlays", spec := "simfsPlays", inPlace := ["internal/bytealg.IndexByteString", "internal/bytealg.IndexString", "maps.clone"], unfollowed := true, recurses := true, named := ["unicode/utf8.first", "unicode/utf8.acceptRanges", "internal/bytealg.MaxLen"], apart := false, laid := [("unicode/utf8.acceptRanges", laid_unicode_utf8_acceptRanges), ("unicode/utf8.first", laid_unicode_utf8_first)] }
def SimfsPlaysSaid : Prop := simfsPlaysRow.holds Tryz.pinned (OpenSpec.ofChange simfsPlaysSpec)

/-- ITS FALSE NEIGHBOUR: 'it returns false'. Refute it at one input. -/
def simfsPlaysWrong : ChangeSpec := { name := "simfsPlays", fn := fun _ => fun
  | [d1, d2, d3] => { results := [.lit (.bool false)], args := [d1, d2, d3] }
  | _ => none }
def SimfsPlaysWrongFalsely : Prop := simfsPlaysRow.holds Tryz.pinned (OpenSpec.ofChange simfsPlaysWrong)

/-- 'eskerlaw06.SimfsKeeps': WHATEVER THE INPUT: true; the input reads as it did. -/
def simfsKeepsSpec : ChangeSpec := { name := "simfsKeeps", fn := fun _ => fun
  | [d1, d2, d3] => { results := [.lit (.bool true)], args := [d1, d2, d3] }
  | _ => none }
def simfsKeepsRow : OpenClaim := { program := "yteidkmiladkoiaagreatdoor", sum := "27b7e87c871dec7defe4287909eb29a6e011028a458b3a718d5fe1b1d1c44dc9", func := "esker/eskerlaw06.SimfsKeeps", spec := "simfsKeeps", inPlace := ["internal/bytealg.IndexByteString", "internal/bytealg.IndexString", "maps.clone"], unfollowed := true, recurses := true, named := ["unicode/utf8.first", "unicode/utf8.acceptRanges", "internal/bytealg.MaxLen"], apart := false, laid := [("unicode/utf8.acceptRanges", laid_unicode_utf8_acceptRanges), ("unicode/utf8.first", laid_unicode_utf8_first)] }
def SimfsKeepsSaid : Prop := simfsKeepsRow.holds Tryz.pinned (OpenSpec.ofChange simfsKeepsSpec)

/-- ITS FALSE NEIGHBOUR: 'it returns false'. Refute it at one input. -/
def simfsKeepsWrong : ChangeSpec := { name := "simfsKeeps", fn := fun _ => fun
  | [d1, d2, d3] => { results := [.lit (.bool false)], args := [d1, d2, d3] }
  | _ => none }
def SimfsKeepsWrongFalsely : Prop := simfsKeepsRow.holds Tryz.pinned (OpenSpec.ofChange simfsKeepsWrong)

/-- 'eskerlaw06.SimfsLinks': WHATEVER THE INPUT: true; the input reads as it did. -/
def simfsLinksSpec : ChangeSpec := { name := "simfsLinks", fn := fun _ => fun
  | [d1, d2, d3] => { results := [.lit (.bool true)], args := [d1, d2, d3] }
  | _ => none }
def simfsLinksRow : OpenClaim := { program := "yteidkmiladkoiaagreatdoor", sum := "27b7e87c871dec7defe4287909eb29a6e011028a458b3a718d5fe1b1d1c44dc9", func := "esker/eskerlaw06.SimfsLinks", spec := "simfsLinks", inPlace := ["internal/bytealg.IndexByteString", "internal/bytealg.IndexString", "maps.clone"], unfollowed := true, recurses := true, named := ["unicode/utf8.first", "unicode/utf8.acceptRanges", "internal/bytealg.MaxLen"], apart := false, laid := [("unicode/utf8.acceptRanges", laid_unicode_utf8_acceptRanges), ("unicode/utf8.first", laid_unicode_utf8_first)] }
def SimfsLinksSaid : Prop := simfsLinksRow.holds Tryz.pinned (OpenSpec.ofChange simfsLinksSpec)

/-- ITS FALSE NEIGHBOUR: 'it returns false'. Refute it at one input. -/
def simfsLinksWrong : ChangeSpec := { name := "simfsLinks", fn := fun _ => fun
  | [d1, d2, d3] => { results := [.lit (.bool false)], args := [d1, d2, d3] }
  | _ => none }
def SimfsLinksWrongFalsely : Prop := simfsLinksRow.holds Tryz.pinned (OpenSpec.ofChange simfsLinksWrong)

/-- 'eskerlaw06.SimfsTwice': WHATEVER THE INPUT: true; the input reads as it did. -/
def simfsTwiceSpec : ChangeSpec := { name := "simfsTwice", fn := fun _ => fun
  | [d1, d2] => { results := [.lit (.bool true)], args := [d1, d2] }
  | _ => none }
def simfsTwiceRow : OpenClaim := { program := "yteidkmiladkoiaagreatdoor", sum := "27b7e87c871dec7defe4287909eb29a6e011028a458b3a718d5fe1b1d1c44dc9", func := "esker/eskerlaw06.SimfsTwice", spec := "simfsTwice", inPlace := ["internal/bytealg.IndexByteString", "internal/bytealg.IndexString", "maps.clone"], unfollowed := true, recurses := true, named := ["unicode/utf8.first", "unicode/utf8.acceptRanges", "internal/bytealg.MaxLen"], apart := false, laid := [("unicode/utf8.acceptRanges", laid_unicode_utf8_acceptRanges), ("unicode/utf8.first", laid_unicode_utf8_first)] }
def SimfsTwiceSaid : Prop := simfsTwiceRow.holds Tryz.pinned (OpenSpec.ofChange simfsTwiceSpec)

/-- ITS FALSE NEIGHBOUR: 'it returns false'. Refute it at one input. -/
def simfsTwiceWrong : ChangeSpec := { name := "simfsTwice", fn := fun _ => fun
  | [d1, d2] => { results := [.lit (.bool false)], args := [d1, d2] }
  | _ => none }
def SimfsTwiceWrongFalsely : Prop := simfsTwiceRow.holds Tryz.pinned (OpenSpec.ofChange simfsTwiceWrong)

/-- 'eskerlaw06.SimfsNone': WHATEVER THE INPUT: true; the input reads as it did. -/
def simfsNoneSpec : ChangeSpec := { name := "simfsNone", fn := fun _ => fun
  | [d1, d2, d3] => { results := [.lit (.bool true)], args := [d1, d2, d3] }
  | _ => none }
def simfsNoneRow : OpenClaim := { program := "yteidkmiladkoiaagreatdoor", sum := "27b7e87c871dec7defe4287909eb29a6e011028a458b3a718d5fe1b1d1c44dc9", func := "esker/eskerlaw06.SimfsNone", spec := "simfsNone", inPlace := ["internal/bytealg.IndexByteString", "internal/bytealg.IndexString", "maps.clone"], unfollowed := true, recurses := true, named := ["unicode/utf8.first", "unicode/utf8.acceptRanges", "internal/bytealg.MaxLen"], apart := false, laid := [("unicode/utf8.acceptRanges", laid_unicode_utf8_acceptRanges), ("unicode/utf8.first", laid_unicode_utf8_first)] }
def SimfsNoneSaid : Prop := simfsNoneRow.holds Tryz.pinned (OpenSpec.ofChange simfsNoneSpec)

/-- ITS FALSE NEIGHBOUR: 'it returns false'. Refute it at one input. -/
def simfsNoneWrong : ChangeSpec := { name := "simfsNone", fn := fun _ => fun
  | [d1, d2, d3] => { results := [.lit (.bool false)], args := [d1, d2, d3] }
  | _ => none }
def SimfsNoneWrongFalsely : Prop := simfsNoneRow.holds Tryz.pinned (OpenSpec.ofChange simfsNoneWrong)

/- THE SECOND FORM. 'bulk': how many values and letters a reading holds, each counted each time it is reached (what is shared counts as often as it is met; a slice's spare places count too). A statement '..UptoSaid' is the law's where the arguments, and the package variables that the reading takes, are together of bulk at most 1048576: NARROWER than '..Said'. Prove '..Said' where nothing that the law and all that it calls make is longer than what came in: it says more and counts as full. Else prove '..UptoSaid'. A law counts once. -/
mutual
def uptoBulk {H : Type} : DataW H → Nat
  | .lit (.string bytes) => bytes.length + 1
  | .lit _ => 1
  | .nil => 1
  | .ptr d => uptoBulk d + 1
  | .slice elems spare => uptoBulkAll elems + uptoBulkAll spare + 1
  | .agg parts => uptoBulkAll parts + 1
  | .iface _ d => uptoBulk d + 1
  | .map entries => uptoBulkEntries entries + 1
  | .held _ => 1
def uptoBulkAll {H : Type} : List (DataW H) → Nat
  | [] => 0
  | d :: r => uptoBulk d + uptoBulkAll r
def uptoBulkEntries {H : Type} : List (Lit × DataW H) → Nat
  | [] => 0
  | x :: r => uptoBulkEntry x + uptoBulkEntries r
def uptoBulkEntry {H : Type} : Lit × DataW H → Nat
  | (.string bytes, d) => bytes.length + uptoBulk d + 1
  | (_, d) => uptoBulk d + 1
 end
def uptoSmall : (H : Type) → List (DataW H) → Bool := fun _ ds => decide (uptoBulkAll ds ≤ 1048576)
def OpenSpec.upto (s : _root_.Go.ChangeSpec) : _root_.Go.OpenSpec := { _root_.Go.OpenSpec.ofChange s with cond := some uptoSmall }

/-- 'eskerlaw06.SimfsPlays', WHERE WHAT IT READS IS OF BULK AT MOST 1048576: true; the input reads as it did. -/
def simfsPlaysUptoRow : OpenClaim := { program := "yteidkmiladkoiaagreatdoor", sum := "27b7e87c871dec7defe4287909eb29a6e011028a458b3a718d5fe1b1d1c44dc9", func := "esker/eskerlaw06.SimfsPlays", spec := "simfsPlays", inPlace := ["internal/bytealg.IndexByteString", "internal/bytealg.IndexString", "maps.clone"], unfollowed := true, recurses := true, named := ["unicode/utf8.first", "unicode/utf8.acceptRanges", "internal/bytealg.MaxLen"], apart := false, laid := [("unicode/utf8.acceptRanges", laid_unicode_utf8_acceptRanges), ("unicode/utf8.first", laid_unicode_utf8_first)], narrowed := true }
def SimfsPlaysUptoSaid : Prop := simfsPlaysUptoRow.holds Tryz.pinned (OpenSpec.upto simfsPlaysSpec)

/-- 'eskerlaw06.SimfsKeeps', WHERE WHAT IT READS IS OF BULK AT MOST 1048576: true; the input reads as it did. -/
def simfsKeepsUptoRow : OpenClaim := { program := "yteidkmiladkoiaagreatdoor", sum := "27b7e87c871dec7defe4287909eb29a6e011028a458b3a718d5fe1b1d1c44dc9", func := "esker/eskerlaw06.SimfsKeeps", spec := "simfsKeeps", inPlace := ["internal/bytealg.IndexByteString", "internal/bytealg.IndexString", "maps.clone"], unfollowed := true, recurses := true, named := ["unicode/utf8.first", "unicode/utf8.acceptRanges", "internal/bytealg.MaxLen"], apart := false, laid := [("unicode/utf8.acceptRanges", laid_unicode_utf8_acceptRanges), ("unicode/utf8.first", laid_unicode_utf8_first)], narrowed := true }
def SimfsKeepsUptoSaid : Prop := simfsKeepsUptoRow.holds Tryz.pinned (OpenSpec.upto simfsKeepsSpec)

/-- 'eskerlaw06.SimfsLinks', WHERE WHAT IT READS IS OF BULK AT MOST 1048576: true; the input reads as it did. -/
def simfsLinksUptoRow : OpenClaim := { program := "yteidkmiladkoiaagreatdoor", sum := "27b7e87c871dec7defe4287909eb29a6e011028a458b3a718d5fe1b1d1c44dc9", func := "esker/eskerlaw06.SimfsLinks", spec := "simfsLinks", inPlace := ["internal/bytealg.IndexByteString", "internal/bytealg.IndexString", "maps.clone"], unfollowed := true, recurses := true, named := ["unicode/utf8.first", "unicode/utf8.acceptRanges", "internal/bytealg.MaxLen"], apart := false, laid := [("unicode/utf8.acceptRanges", laid_unicode_utf8_acceptRanges), ("unicode/utf8.first", laid_unicode_utf8_first)], narrowed := true }
def SimfsLinksUptoSaid : Prop := simfsLinksUptoRow.holds Tryz.pinned (OpenSpec.upto simfsLinksSpec)

/-- 'eskerlaw06.SimfsTwice', WHERE WHAT IT READS IS OF BULK AT MOST 1048576: true; the input reads as it did. -/
def simfsTwiceUptoRow : OpenClaim := { program := "yteidkmiladkoiaagreatdoor", sum := "27b7e87c871dec7defe4287909eb29a6e011028a458b3a718d5fe1b1d1c44dc9", func := "esker/eskerlaw06.SimfsTwice", spec := "simfsTwice", inPlace := ["internal/bytealg.IndexByteString", "internal/bytealg.IndexString", "maps.clone"], unfollowed := true, recurses := true, named := ["unicode/utf8.first", "unicode/utf8.acceptRanges", "internal/bytealg.MaxLen"], apart := false, laid := [("unicode/utf8.acceptRanges", laid_unicode_utf8_acceptRanges), ("unicode/utf8.first", laid_unicode_utf8_first)], narrowed := true }
def SimfsTwiceUptoSaid : Prop := simfsTwiceUptoRow.holds Tryz.pinned (OpenSpec.upto simfsTwiceSpec)

/-- 'eskerlaw06.SimfsNone', WHERE WHAT IT READS IS OF BULK AT MOST 1048576: true; the input reads as it did. -/
def simfsNoneUptoRow : OpenClaim := { program := "yteidkmiladkoiaagreatdoor", sum := "27b7e87c871dec7defe4287909eb29a6e011028a458b3a718d5fe1b1d1c44dc9", func := "esker/eskerlaw06.SimfsNone", spec := "simfsNone", inPlace := ["internal/bytealg.IndexByteString", "internal/bytealg.IndexString", "maps.clone"], unfollowed := true, recurses := true, named := ["unicode/utf8.first", "unicode/utf8.acceptRanges", "internal/bytealg.MaxLen"], apart := false, laid := [("unicode/utf8.acceptRanges", laid_unicode_utf8_acceptRanges), ("unicode/utf8.first", laid_unicode_utf8_first)], narrowed := true }
def SimfsNoneUptoSaid : Prop := simfsNoneUptoRow.holds Tryz.pinned (OpenSpec.upto simfsNoneSpec)

end Rows
end Go.Proofs.YteidkmiladkoiaaGreatDoor
