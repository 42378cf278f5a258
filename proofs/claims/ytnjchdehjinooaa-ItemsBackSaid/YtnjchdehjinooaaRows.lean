/-
  No cell of these rows narrows 'for every input' (looked for: loops, veiled, ifaces, maps, wideKeys, modest, calm, conditions, laid).
  DERIVED. THE GIVEN ROWS OF THIS SEAT. 4 by the template 'for every input the law returns true; each argument reads behind the call as it read before'; 0 by the template 'total and deterministic' (their statements: YtnjchdehjinooaaTotals.lean).
  GIVEN WITH THE SEED: the statements are not yours to turn. If you find one false, say at which input.
  Laid BY PROGRAM, IN A SANDBOX (cutbox-rows.mjs): the forced cells as the released guide's own fill.sh prints them over the translation 4b305ceba737f65b… (all of the seat's roots in one cut). By AI agents, Wed Nov 11 2026. No macro, syntax, notation, axiom, sorry.
-/
import Derived.Test.YtnjchdehjinooaaChecked
import GoSem.Claim
import GoSem.ClaimJoined
import GoSem.ClaimMapViews
import Derived.JoinedTies
import Derived.KernelRfl
namespace Go.Proofs.Ytnjchdehjinooaa
/- THE CELL 'sum', in the pinned program and in every row, IS THE sha256 OF THE DUMP (.gsa) THAT YtnjchdehjinooaaProg.lean LOADS. Nothing in Lean hashes anything: it is a label: what it is worth is what the hold of that sum in a sandbox is worth. -/
noncomputable def Try.pinned : Pinned := { name := "ytnjchdehjinooaa", sum := "4b305ceba737f65b4d80e04d83b51fc15a0a188c9302663effdf1fd54d97fd2c", checked := Try.checked }
namespace Rows
def none {H : Type} : Left H := { results := [], args := [] }

/-- 'eskerlaw09.ItemsSeeks': WHATEVER THE INPUT: true; the input reads as it did. -/
def itemsSeeksSpec : ChangeSpec := { name := "itemsSeeks", fn := fun _ => fun
  | [d1, d2] => { results := [.lit (.bool true)], args := [d1, d2] }
  | _ => none }
def itemsSeeksRow : OpenClaim := { program := "ytnjchdehjinooaa", sum := "4b305ceba737f65b4d80e04d83b51fc15a0a188c9302663effdf1fd54d97fd2c", func := "esker/eskerlaw09.ItemsSeeks", spec := "itemsSeeks", inPlace := ["internal/bytealg.Compare"], unfollowed := true, recurses := true, apart := false }
def ItemsSeeksSaid : Prop := itemsSeeksRow.holds Try.pinned (OpenSpec.ofChange itemsSeeksSpec)

/-- ITS FALSE NEIGHBOUR: 'it returns false'. Refute it at one input. -/
def itemsSeeksWrong : ChangeSpec := { name := "itemsSeeks", fn := fun _ => fun
  | [d1, d2] => { results := [.lit (.bool false)], args := [d1, d2] }
  | _ => none }
def ItemsSeeksWrongFalsely : Prop := itemsSeeksRow.holds Try.pinned (OpenSpec.ofChange itemsSeeksWrong)

/-- 'eskerlaw09.ItemsBack': WHATEVER THE INPUT: true; the input reads as it did. -/
def itemsBackSpec : ChangeSpec := { name := "itemsBack", fn := fun _ => fun
  | [d1, d2] => { results := [.lit (.bool true)], args := [d1, d2] }
  | _ => none }
def itemsBackRow : OpenClaim := { program := "ytnjchdehjinooaa", sum := "4b305ceba737f65b4d80e04d83b51fc15a0a188c9302663effdf1fd54d97fd2c", func := "esker/eskerlaw09.ItemsBack", spec := "itemsBack", inPlace := ["internal/bytealg.Compare"], unfollowed := true, recurses := true, apart := false }
def ItemsBackSaid : Prop := itemsBackRow.holds Try.pinned (OpenSpec.ofChange itemsBackSpec)

/-- ITS FALSE NEIGHBOUR: 'it returns false'. Refute it at one input. -/
def itemsBackWrong : ChangeSpec := { name := "itemsBack", fn := fun _ => fun
  | [d1, d2] => { results := [.lit (.bool false)], args := [d1, d2] }
  | _ => none }
def ItemsBackWrongFalsely : Prop := itemsBackRow.holds Try.pinned (OpenSpec.ofChange itemsBackWrong)

/-- 'eskerlaw09.ItemsOrder': WHATEVER THE INPUT: true; the input reads as it did. -/
def itemsOrderSpec : ChangeSpec := { name := "itemsOrder", fn := fun _ => fun
  | [d1, d2] => { results := [.lit (.bool true)], args := [d1, d2] }
  | _ => none }
def itemsOrderRow : OpenClaim := { program := "ytnjchdehjinooaa", sum := "4b305ceba737f65b4d80e04d83b51fc15a0a188c9302663effdf1fd54d97fd2c", func := "esker/eskerlaw09.ItemsOrder", spec := "itemsOrder", inPlace := ["internal/bytealg.Compare"], unfollowed := true, recurses := true, apart := false }
def ItemsOrderSaid : Prop := itemsOrderRow.holds Try.pinned (OpenSpec.ofChange itemsOrderSpec)

/-- ITS FALSE NEIGHBOUR: 'it returns false'. Refute it at one input. -/
def itemsOrderWrong : ChangeSpec := { name := "itemsOrder", fn := fun _ => fun
  | [d1, d2] => { results := [.lit (.bool false)], args := [d1, d2] }
  | _ => none }
def ItemsOrderWrongFalsely : Prop := itemsOrderRow.holds Try.pinned (OpenSpec.ofChange itemsOrderWrong)

/-- 'eskerlaw09.ItemsCommon': WHATEVER THE INPUT: true; the input reads as it did. -/
def itemsCommonSpec : ChangeSpec := { name := "itemsCommon", fn := fun _ => fun
  | [d1, d2] => { results := [.lit (.bool true)], args := [d1, d2] }
  | _ => none }
def itemsCommonRow : OpenClaim := { program := "ytnjchdehjinooaa", sum := "4b305ceba737f65b4d80e04d83b51fc15a0a188c9302663effdf1fd54d97fd2c", func := "esker/eskerlaw09.ItemsCommon", spec := "itemsCommon", inPlace := ["internal/bytealg.Compare"], unfollowed := true, recurses := true, apart := false }
def ItemsCommonSaid : Prop := itemsCommonRow.holds Try.pinned (OpenSpec.ofChange itemsCommonSpec)

/-- ITS FALSE NEIGHBOUR: 'it returns false'. Refute it at one input. -/
def itemsCommonWrong : ChangeSpec := { name := "itemsCommon", fn := fun _ => fun
  | [d1, d2] => { results := [.lit (.bool false)], args := [d1, d2] }
  | _ => none }
def ItemsCommonWrongFalsely : Prop := itemsCommonRow.holds Try.pinned (OpenSpec.ofChange itemsCommonWrong)

/- THE SECOND FORM. 'bulk': how many values and letters a reading holds, each counted each time it is reached (what is shared counts as often as it is met; a slice's spare places count too). A statement '..UptoSaid' is the law's where the arguments, and the package variables that the reading takes, are together of bulk at most 1048576: NARROWER than '..Said'. Prove '..Said' where nothing that the law and all that it calls make is longer than what came in: it says more and counts as full. Else prove '..UptoSaid'. A law counts once. -/
mutual
def uptoBulk {H : Type} : DataW H → Nat
  | .lit (.string bytes) => bytes.length + 1
  | .lit _ => 1
  | .nil => 1
  | .ptr d => uptoBulk d + 1
  | .slice elems spare => uptoBulkAll elems + uptoBulkAll spare + 1
  | .agg parts => uptoBulkAll parts + 1
  | .iface _ d => uptoBulk d + 1
  | .map entries => uptoBulkEntries entries + 1
  | .held _ => 1
def uptoBulkAll {H : Type} : List (DataW H) → Nat
  | [] => 0
  | d :: r => uptoBulk d + uptoBulkAll r
def uptoBulkEntries {H : Type} : List (Lit × DataW H) → Nat
  | [] => 0
  | x :: r => uptoBulkEntry x + uptoBulkEntries r
def uptoBulkEntry {H : Type} : Lit × DataW H → Nat
  | (.string bytes, d) => bytes.length + uptoBulk d + 1
  | (_, d) => uptoBulk d + 1
 end
def uptoSmall : (H : Type) → List (DataW H) → Bool := fun _ ds => decide (uptoBulkAll ds ≤ 1048576)
def OpenSpec.upto (s : _root_.Go.ChangeSpec) : _root_.Go.OpenSpec := { _root_.Go.OpenSpec.ofChange s with cond := some uptoSmall }

/-- 'eskerlaw09.ItemsSeeks', WHERE WHAT IT READS IS OF BULK AT MOST 1048576: true; the input reads as it did. -/
def itemsSeeksUptoRow : OpenClaim := { program := "ytnjchdehjinooaa", sum := "4b305ceba737f65b4d80e04d83b51fc15a0a188c9302663effdf1fd54d97fd2c", func := "esker/eskerlaw09.ItemsSeeks", spec := "itemsSeeks", inPlace := ["internal/bytealg.Compare"], unfollowed := true, recurses := true, apart := false, narrowed := true }
def ItemsSeeksUptoSaid : Prop := itemsSeeksUptoRow.holds Try.pinned (OpenSpec.upto itemsSeeksSpec)

/-- 'eskerlaw09.ItemsBack', WHERE WHAT IT READS IS OF BULK AT MOST 1048576: true; the input reads as it did. -/
def itemsBackUptoRow : OpenClaim := { program := "ytnjchdehjinooaa", sum := "4b305ceba737f65b4d80e04d83b51fc15a0a188c9302663effdf1fd54d97fd2c", func := "esker/eskerlaw09.ItemsBack", spec := "itemsBack", inPlace := ["internal/bytealg.Compare"], unfollowed := true, recurses := true, apart := false, narrowed := true }
def ItemsBackUptoSaid : Prop := itemsBackUptoRow.holds Try.pinned (OpenSpec.upto itemsBackSpec)

/-- 'eskerlaw09.ItemsOrder', WHERE WHAT IT READS IS OF BULK AT MOST 1048576: true; the input reads as it did. -/
def itemsOrderUptoRow : OpenClaim := { program := "ytnjchdehjinooaa", sum := "4b305ceba737f65b4d80e04d83b51fc15a0a188c9302663effdf1fd54d97fd2c", func := "esker/eskerlaw09.ItemsOrder", spec := "itemsOrder", inPlace := ["internal/bytealg.Compare"], unfollowed := true, recurses := true, apart := false, narrowed := true }
def ItemsOrderUptoSaid : Prop := itemsOrderUptoRow.holds Try.pinned (OpenSpec.upto itemsOrderSpec)

/-- 'eskerlaw09.ItemsCommon', WHERE WHAT IT READS IS OF BULK AT MOST 1048576: true; the input reads as it did. -/
def itemsCommonUptoRow : OpenClaim := { program := "ytnjchdehjinooaa", sum := "4b305ceba737f65b4d80e04d83b51fc15a0a188c9302663effdf1fd54d97fd2c", func := "esker/eskerlaw09.ItemsCommon", spec := "itemsCommon", inPlace := ["internal/bytealg.Compare"], unfollowed := true, recurses := true, apart := false, narrowed := true }
def ItemsCommonUptoSaid : Prop := itemsCommonUptoRow.holds Try.pinned (OpenSpec.upto itemsCommonSpec)

end Rows
end Go.Proofs.Ytnjchdehjinooaa
