/-
  Make and Ahead as functions: what both sides give.
-/
import Derived.Test.YtpjiioeodcinpaaGreatDoorRwAhead
namespace Go.Proofs.YtpjiioeodcinpaaGreatDoor
open Go.RowKit

/-- Bytes and an error's number. -/
def SliceOut (w : World) (L : List UInt8) (E : Nat) (e : Ending) (w' : World) : Prop := ∃ A n c, e = .returned (.tuple #[.slice A n c, .int .i64 (E : Nat)]) ∧ Below w.heap.size w w' ∧ L.length = n ∧ n ≤ c ∧ Sees w' w'.heap.size A (bv L)
open Classical in
noncomputable def mkB (r : RowP) : List UInt8 := if MayR r then makeR r else []
open Classical in
noncomputable def mkE (r : RowP) : Nat := if MayR r then 0 else 120
open Classical in
noncomputable def ahB (r : RowP) : List UInt8 := if MayR { r with id := 1 } ∧ r.kind ≠ 2 then (makeR { r with id := 1 }).take ((makeR { r with id := 1 }).length - 4) else []
open Classical in
noncomputable def ahE (r : RowP) : Nat := if MayR { r with id := 1 } ∧ r.kind ≠ 2 then 0 else 120
theorem MakeOut.same {w w' : World} {r : RowP} {e : Ending} (h : MakeOut w r e w') : SliceOut w (mkB r) (mkE r) e w' := by
  obtain ⟨v, k, rfl, hb, ⟨h1, rfl, hown⟩ | ⟨h1, rfl, rfl⟩⟩ := h
  · have hown' := hown
    obtain ⟨A, c, rfl, hc, -, -, hs⟩ := hown'.open_
    unfold mkB mkE
    rw [if_pos h1, if_pos h1]
    exact ⟨A, _, c, rfl, hb, rfl, hc, hs⟩
  · unfold mkB mkE
    rw [if_neg h1, if_neg h1]
    exact ⟨none, 0, 0, rfl, hb, rfl, Nat.le_refl _, Sees.nil _ _ _⟩
theorem AheadOut.same {w w' : World} {r : RowP} {e : Ending} (h : AheadOut w r e w') : SliceOut w (ahB r) (ahE r) e w' := by
  obtain ⟨A, n, c, k, l, rfl, hb, hl, hc, hs, ⟨h1, h2, rfl, rfl⟩ | ⟨h1, rfl, rfl⟩⟩ := h
  · unfold ahB ahE
    rw [if_pos ⟨h1, h2⟩, if_pos ⟨h1, h2⟩]
    exact ⟨A, n, c, rfl, hb, hl, hc, hs⟩
  · unfold ahB ahE
    rw [if_neg h1, if_neg h1]
    exact ⟨A, n, c, rfl, hb, hl, hc, hs⟩
theorem mk_may {r : RowP} (h : MayR r) : mkB r = makeR r ∧ mkE r = 0 := by unfold mkB mkE; rw [if_pos h, if_pos h]; exact ⟨rfl, rfl⟩
theorem mk_not {r : RowP} (h : ¬ MayR r) : mkB r = [] ∧ mkE r = 120 := by unfold mkB mkE; rw [if_neg h, if_neg h]; exact ⟨rfl, rfl⟩
end Go.Proofs.YtpjiioeodcinpaaGreatDoor
