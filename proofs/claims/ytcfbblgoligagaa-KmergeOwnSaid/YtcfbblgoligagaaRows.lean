/-
  No cell of these rows narrows 'for every input' (looked for: loops, veiled, ifaces, maps, wideKeys, modest, calm, conditions, laid).
  DERIVED. THE GIVEN ROWS OF THIS SEAT. 6 by the template 'for every input the law returns true; each argument reads behind the call as it read before'; 0 by the template 'total and deterministic' (their statements: YtcfbblgoligagaaTotals.lean).
  GIVEN WITH THE SEED: the statements are not yours to turn. If you find one false, say at which input.
  Laid BY PROGRAM, IN A SANDBOX (cutbox-rows.mjs): the forced cells as the released guide's own fill.sh prints them over the translation 55b5a8427dedeefa… (all of the seat's roots in one cut). By AI agents, Wed Nov 11 2026. No macro, syntax, notation, axiom, sorry.
-/
import Derived.Test.YtcfbblgoligagaaChecked
import GoSem.Claim
import GoSem.ClaimJoined
import GoSem.ClaimMapViews
import Derived.JoinedTies
import Derived.KernelRfl
namespace Go.Proofs.Ytcfbblgoligagaa
/- THE CELL 'sum', in the pinned program and in every row, IS THE sha256 OF THE DUMP (.gsa) THAT YtcfbblgoligagaaProg.lean LOADS. Nothing in Lean hashes anything: it is a label: what it is worth is what the hold of that sum in a sandbox is worth. -/
noncomputable def Try.pinned : Pinned := { name := "ytcfbblgoligagaa", sum := "55b5a8427dedeefa5d07def353ee2a01fa59ca6389df767e7663464ac4af54ad", checked := Try.checked }
namespace Rows
def none {H : Type} : Left H := { results := [], args := [] }

/-- 'eskerlaw11.KmergeItems': WHATEVER THE INPUT: true; the input reads as it did. -/
def kmergeItemsSpec : ChangeSpec := { name := "kmergeItems", fn := fun _ => fun
  | [d] => { results := [.lit (.bool true)], args := [d] }
  | _ => none }
def kmergeItemsRow : OpenClaim := { program := "ytcfbblgoligagaa", sum := "55b5a8427dedeefa5d07def353ee2a01fa59ca6389df767e7663464ac4af54ad", func := "esker/eskerlaw11.KmergeItems", spec := "kmergeItems", inPlace := ["internal/bytealg.Compare"], unfollowed := true, recurses := true, apart := false }
def KmergeItemsSaid : Prop := kmergeItemsRow.holds Try.pinned (OpenSpec.ofChange kmergeItemsSpec)

/-- ITS FALSE NEIGHBOUR: 'it returns false'. Refute it at one input. -/
def kmergeItemsWrong : ChangeSpec := { name := "kmergeItems", fn := fun _ => fun
  | [d] => { results := [.lit (.bool false)], args := [d] }
  | _ => none }
def KmergeItemsWrongFalsely : Prop := kmergeItemsRow.holds Try.pinned (OpenSpec.ofChange kmergeItemsWrong)

/-- 'eskerlaw11.KmergeInts': WHATEVER THE INPUT: true; the input reads as it did. -/
def kmergeIntsSpec : ChangeSpec := { name := "kmergeInts", fn := fun _ => fun
  | [d1, d2, d3] => { results := [.lit (.bool true)], args := [d1, d2, d3] }
  | _ => none }
def kmergeIntsRow : OpenClaim := { program := "ytcfbblgoligagaa", sum := "55b5a8427dedeefa5d07def353ee2a01fa59ca6389df767e7663464ac4af54ad", func := "esker/eskerlaw11.KmergeInts", spec := "kmergeInts", inPlace := ["internal/bytealg.Compare"], unfollowed := true, recurses := true, apart := false }
def KmergeIntsSaid : Prop := kmergeIntsRow.holds Try.pinned (OpenSpec.ofChange kmergeIntsSpec)

/-- ITS FALSE NEIGHBOUR: 'it returns false'. Refute it at one input. -/
def kmergeIntsWrong : ChangeSpec := { name := "kmergeInts", fn := fun _ => fun
  | [d1, d2, d3] => { results := [.lit (.bool false)], args := [d1, d2, d3] }
  | _ => none }
def KmergeIntsWrongFalsely : Prop := kmergeIntsRow.holds Try.pinned (OpenSpec.ofChange kmergeIntsWrong)

/-- 'eskerlaw11.KmergeParts': WHATEVER THE INPUT: true; the input reads as it did. -/
def kmergePartsSpec : ChangeSpec := { name := "kmergeParts", fn := fun _ => fun
  | [d1, d2] => { results := [.lit (.bool true)], args := [d1, d2] }
  | _ => none }
def kmergePartsRow : OpenClaim := { program := "ytcfbblgoligagaa", sum := "55b5a8427dedeefa5d07def353ee2a01fa59ca6389df767e7663464ac4af54ad", func := "esker/eskerlaw11.KmergeParts", spec := "kmergeParts", inPlace := ["internal/bytealg.Compare"], unfollowed := true, recurses := true, apart := false }
def KmergePartsSaid : Prop := kmergePartsRow.holds Try.pinned (OpenSpec.ofChange kmergePartsSpec)

/-- ITS FALSE NEIGHBOUR: 'it returns false'. Refute it at one input. -/
def kmergePartsWrong : ChangeSpec := { name := "kmergeParts", fn := fun _ => fun
  | [d1, d2] => { results := [.lit (.bool false)], args := [d1, d2] }
  | _ => none }
def KmergePartsWrongFalsely : Prop := kmergePartsRow.holds Try.pinned (OpenSpec.ofChange kmergePartsWrong)

/-- 'eskerlaw11.KmergeSets': WHATEVER THE INPUT: true; the input reads as it did. -/
def kmergeSetsSpec : ChangeSpec := { name := "kmergeSets", fn := fun _ => fun
  | [d1, d2, d3] => { results := [.lit (.bool true)], args := [d1, d2, d3] }
  | _ => none }
def kmergeSetsRow : OpenClaim := { program := "ytcfbblgoligagaa", sum := "55b5a8427dedeefa5d07def353ee2a01fa59ca6389df767e7663464ac4af54ad", func := "esker/eskerlaw11.KmergeSets", spec := "kmergeSets", inPlace := ["internal/bytealg.Compare"], unfollowed := true, recurses := true, apart := false }
def KmergeSetsSaid : Prop := kmergeSetsRow.holds Try.pinned (OpenSpec.ofChange kmergeSetsSpec)

/-- ITS FALSE NEIGHBOUR: 'it returns false'. Refute it at one input. -/
def kmergeSetsWrong : ChangeSpec := { name := "kmergeSets", fn := fun _ => fun
  | [d1, d2, d3] => { results := [.lit (.bool false)], args := [d1, d2, d3] }
  | _ => none }
def KmergeSetsWrongFalsely : Prop := kmergeSetsRow.holds Try.pinned (OpenSpec.ofChange kmergeSetsWrong)

/-- 'eskerlaw11.KmergeOwn': WHATEVER THE INPUT: true; the input reads as it did. -/
def kmergeOwnSpec : ChangeSpec := { name := "kmergeOwn", fn := fun _ => fun
  | [d1, d2] => { results := [.lit (.bool true)], args := [d1, d2] }
  | _ => none }
def kmergeOwnRow : OpenClaim := { program := "ytcfbblgoligagaa", sum := "55b5a8427dedeefa5d07def353ee2a01fa59ca6389df767e7663464ac4af54ad", func := "esker/eskerlaw11.KmergeOwn", spec := "kmergeOwn", inPlace := ["internal/bytealg.Compare"], unfollowed := true, recurses := true, apart := false }
def KmergeOwnSaid : Prop := kmergeOwnRow.holds Try.pinned (OpenSpec.ofChange kmergeOwnSpec)

/-- ITS FALSE NEIGHBOUR: 'it returns false'. Refute it at one input. -/
def kmergeOwnWrong : ChangeSpec := { name := "kmergeOwn", fn := fun _ => fun
  | [d1, d2] => { results := [.lit (.bool false)], args := [d1, d2] }
  | _ => none }
def KmergeOwnWrongFalsely : Prop := kmergeOwnRow.holds Try.pinned (OpenSpec.ofChange kmergeOwnWrong)

/-- 'eskerlaw11.KmergeSplit': WHATEVER THE INPUT: true; the input reads as it did. -/
def kmergeSplitSpec : ChangeSpec := { name := "kmergeSplit", fn := fun _ => fun
  | [d1, d2] => { results := [.lit (.bool true)], args := [d1, d2] }
  | _ => none }
def kmergeSplitRow : OpenClaim := { program := "ytcfbblgoligagaa", sum := "55b5a8427dedeefa5d07def353ee2a01fa59ca6389df767e7663464ac4af54ad", func := "esker/eskerlaw11.KmergeSplit", spec := "kmergeSplit", inPlace := ["internal/bytealg.Compare"], unfollowed := true, recurses := true, apart := false }
def KmergeSplitSaid : Prop := kmergeSplitRow.holds Try.pinned (OpenSpec.ofChange kmergeSplitSpec)

/-- ITS FALSE NEIGHBOUR: 'it returns false'. Refute it at one input. -/
def kmergeSplitWrong : ChangeSpec := { name := "kmergeSplit", fn := fun _ => fun
  | [d1, d2] => { results := [.lit (.bool false)], args := [d1, d2] }
  | _ => none }
def KmergeSplitWrongFalsely : Prop := kmergeSplitRow.holds Try.pinned (OpenSpec.ofChange kmergeSplitWrong)

/- THE SECOND FORM. 'bulk': how many values and letters a reading holds, each counted each time it is reached (what is shared counts as often as it is met; a slice's spare places count too). A statement '..UptoSaid' is the law's where the arguments, and the package variables that the reading takes, are together of bulk at most 1048576: NARROWER than '..Said'. Prove '..Said' where nothing that the law and all that it calls make is longer than what came in: it says more and counts as full. Else prove '..UptoSaid'. A law counts once. -/
mutual
def uptoBulk {H : Type} : DataW H → Nat
  | .lit (.string bytes) => bytes.length + 1
  | .lit _ => 1
  | .nil => 1
  | .ptr d => uptoBulk d + 1
  | .slice elems spare => uptoBulkAll elems + uptoBulkAll spare + 1
  | .agg parts => uptoBulkAll parts + 1
  | .iface _ d => uptoBulk d + 1
  | .map entries => uptoBulkEntries entries + 1
  | .held _ => 1
def uptoBulkAll {H : Type} : List (DataW H) → Nat
  | [] => 0
  | d :: r => uptoBulk d + uptoBulkAll r
def uptoBulkEntries {H : Type} : List (Lit × DataW H) → Nat
  | [] => 0
  | x :: r => uptoBulkEntry x + uptoBulkEntries r
def uptoBulkEntry {H : Type} : Lit × DataW H → Nat
  | (.string bytes, d) => bytes.length + uptoBulk d + 1
  | (_, d) => uptoBulk d + 1
 end
def uptoSmall : (H : Type) → List (DataW H) → Bool := fun _ ds => decide (uptoBulkAll ds ≤ 1048576)
def OpenSpec.upto (s : _root_.Go.ChangeSpec) : _root_.Go.OpenSpec := { _root_.Go.OpenSpec.ofChange s with cond := some uptoSmall }

/-- 'eskerlaw11.KmergeItems', WHERE WHAT IT READS IS OF BULK AT MOST 1048576: true; the input reads as it did. -/
def kmergeItemsUptoRow : OpenClaim := { program := "ytcfbblgoligagaa", sum := "55b5a8427dedeefa5d07def353ee2a01fa59ca6389df767e7663464ac4af54ad", func := "esker/eskerlaw11.KmergeItems", spec := "kmergeItems", inPlace := ["internal/bytealg.Compare"], unfollowed := true, recurses := true, apart := false, narrowed := true }
def KmergeItemsUptoSaid : Prop := kmergeItemsUptoRow.holds Try.pinned (OpenSpec.upto kmergeItemsSpec)

/-- 'eskerlaw11.KmergeInts', WHERE WHAT IT READS IS OF BULK AT MOST 1048576: true; the input reads as it did. -/
def kmergeIntsUptoRow : OpenClaim := { program := "ytcfbblgoligagaa", sum := "55b5a8427dedeefa5d07def353ee2a01fa59ca6389df767e7663464ac4af54ad", func := "esker/eskerlaw11.KmergeInts", spec := "kmergeInts", inPlace := ["internal/bytealg.Compare"], unfollowed := true, recurses := true, apart := false, narrowed := true }
def KmergeIntsUptoSaid : Prop := kmergeIntsUptoRow.holds Try.pinned (OpenSpec.upto kmergeIntsSpec)

/-- 'eskerlaw11.KmergeParts', WHERE WHAT IT READS IS OF BULK AT MOST 1048576: true; the input reads as it did. -/
def kmergePartsUptoRow : OpenClaim := { program := "ytcfbblgoligagaa", sum := "55b5a8427dedeefa5d07def353ee2a01fa59ca6389df767e7663464ac4af54ad", func := "esker/eskerlaw11.KmergeParts", spec := "kmergeParts", inPlace := ["internal/bytealg.Compare"], unfollowed := true, recurses := true, apart := false, narrowed := true }
def KmergePartsUptoSaid : Prop := kmergePartsUptoRow.holds Try.pinned (OpenSpec.upto kmergePartsSpec)

/-- 'eskerlaw11.KmergeSets', WHERE WHAT IT READS IS OF BULK AT MOST 1048576: true; the input reads as it did. -/
def kmergeSetsUptoRow : OpenClaim := { program := "ytcfbblgoligagaa", sum := "55b5a8427dedeefa5d07def353ee2a01fa59ca6389df767e7663464ac4af54ad", func := "esker/eskerlaw11.KmergeSets", spec := "kmergeSets", inPlace := ["internal/bytealg.Compare"], unfollowed := true, recurses := true, apart := false, narrowed := true }
def KmergeSetsUptoSaid : Prop := kmergeSetsUptoRow.holds Try.pinned (OpenSpec.upto kmergeSetsSpec)

/-- 'eskerlaw11.KmergeOwn', WHERE WHAT IT READS IS OF BULK AT MOST 1048576: true; the input reads as it did. -/
def kmergeOwnUptoRow : OpenClaim := { program := "ytcfbblgoligagaa", sum := "55b5a8427dedeefa5d07def353ee2a01fa59ca6389df767e7663464ac4af54ad", func := "esker/eskerlaw11.KmergeOwn", spec := "kmergeOwn", inPlace := ["internal/bytealg.Compare"], unfollowed := true, recurses := true, apart := false, narrowed := true }
def KmergeOwnUptoSaid : Prop := kmergeOwnUptoRow.holds Try.pinned (OpenSpec.upto kmergeOwnSpec)

/-- 'eskerlaw11.KmergeSplit', WHERE WHAT IT READS IS OF BULK AT MOST 1048576: true; the input reads as it did. -/
def kmergeSplitUptoRow : OpenClaim := { program := "ytcfbblgoligagaa", sum := "55b5a8427dedeefa5d07def353ee2a01fa59ca6389df767e7663464ac4af54ad", func := "esker/eskerlaw11.KmergeSplit", spec := "kmergeSplit", inPlace := ["internal/bytealg.Compare"], unfollowed := true, recurses := true, apart := false, narrowed := true }
def KmergeSplitUptoSaid : Prop := kmergeSplitUptoRow.holds Try.pinned (OpenSpec.upto kmergeSplitSpec)

end Rows
end Go.Proofs.Ytcfbblgoligagaa
