/-
  What Make tells, opened.
-/
import Derived.Test.YtpjiioeodcinpaaGreatDoorRwMake
namespace Go.Proofs.YtpjiioeodcinpaaGreatDoor
open Go.RowKit

theorem MakeOut.may {w w' : World} {r : RowP} {e : Ending} (h : MakeOut w r e w') (hm : MayR r) : ∃ A c, e = .returned (.tuple #[.slice A (makeR r).length c, .int .i64 0]) ∧ Below w.heap.size w w' ∧ (makeR r).length ≤ c ∧ OwnB w' w.heap.size (.slice A (makeR r).length c) (makeR r) := by
  obtain ⟨v, k, rfl, hb, ⟨_, rfl, ho⟩ | ⟨hn, _, _⟩⟩ := h
  · obtain ⟨A, c, rfl, hc, -, ho', -⟩ := ho.open_
    exact ⟨A, c, rfl, hb, hc, ho'⟩
  · exact absurd hm hn
theorem MakeOut.open_ {w w' : World} {r : RowP} {e : Ending} (h : MakeOut w r e w') : ∃ A n c k, e = .returned (.tuple #[.slice A n c, .int .i64 (k : Nat)]) ∧ Below w.heap.size w w' ∧ ((MayR r ∧ k = 0 ∧ n = (makeR r).length ∧ n ≤ c ∧ OwnB w' w.heap.size (.slice A n c) (makeR r)) ∨ (¬ MayR r ∧ k = 120 ∧ A = none ∧ n = 0 ∧ c = 0)) := by
  obtain ⟨v, k, rfl, hb, ⟨h1, h2, ho⟩ | ⟨h1, h2, rfl⟩⟩ := h
  · obtain ⟨A, c, rfl, hc, -, ho', -⟩ := ho.open_
    exact ⟨A, _, c, k, rfl, hb, .inl ⟨h1, h2, rfl, hc, ho'⟩⟩
  · exact ⟨none, 0, 0, k, rfl, hb, .inr ⟨h1, h2, rfl, rfl, rfl⟩⟩
end Go.Proofs.YtpjiioeodcinpaaGreatDoor
