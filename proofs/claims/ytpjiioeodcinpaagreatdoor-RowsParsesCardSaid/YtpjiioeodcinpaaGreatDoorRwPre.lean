/-
  What an item has ahead of its number: plain lists.
-/
import Derived.Test.YtpjiioeodcinpaaGreatDoorRwComp
namespace Go.Proofs.YtpjiioeodcinpaaGreatDoor
open Go.RowKit

/-- An item but of Number is what it says, then its number. -/
theorem pre_of {r : RowP} (h : MayR r) (hk : r.kind ≠ 2) : ∃ P : List UInt8, ∀ j : Int, makeR { r with id := j } = P ++ four j.toNat := by
  rcases h.kinds with ⟨a | a, b, c, d⟩ | ⟨a, b, c, d⟩ | ⟨a, b, c⟩ | ⟨a, b, c, d⟩
  · exact ⟨[1] ++ marsh (sortN r.labels) ++ [0], fun j => make1 (r := { r with id := j }) a⟩
  · exact absurd a hk
  · exact ⟨[3] ++ escL r.label, fun j => make3 (r := { r with id := j }) a⟩
  · exact ⟨[4] ++ four r.day.toNat ++ escL r.label, fun j => make4 (r := { r with id := j }) a⟩
  · exact ⟨[5], fun j => make5 (r := { r with id := j }) a⟩
theorem may_id {r : RowP} (h : MayR r) {j : Int} (h1 : 1 ≤ j) (h2 : j ≤ 1073741824) : MayR { r with id := j } := ⟨h1, h2, h.day1, h.day2, h.kinds⟩
/-- What Ahead gives of a row that may be, but of Number: its item's beginning. -/
theorem ahead_pre {r : RowP} (h : MayR r) (hk : r.kind ≠ 2) : ∃ P : List UInt8, (makeR { r with id := 1 }).take ((makeR { r with id := 1 }).length - 4) = P ∧ makeR r = P ++ four r.id.toNat := by
  obtain ⟨P, hP⟩ := pre_of h hk
  refine ⟨P, ?_, hP r.id⟩
  rw [hP 1, List.length_append, four_len]
  exact List.take_left' (by omega)
theorem nolabels {r : RowP} (h : MayR r) (hn : r.labels ≠ []) : MayL r.labels := by
  rcases h.kinds with ⟨_, b, _⟩ | ⟨_, b, _⟩ | ⟨_, b, _⟩ | ⟨_, b, _⟩
  · exact b
  · exact absurd b hn
  · exact absurd b hn
  · exact absurd b hn
end Go.Proofs.YtpjiioeodcinpaaGreatDoor
