/-
  Slices of slices of bytes.
-/
import Derived.Test.YteidkmiladkoiaaDoorStr
namespace Go.Proofs.YteidkmiladkoiaaDoor
open Go.RowKit

abbrev Item := List UInt8
/-- A slice of slices of bytes. -/
structure Sees2 (w : World) (B : Nat) (A : Option Addr) (ls : List (List UInt8)) : Prop where
  out : ∀ i (hi : i < ls.length), ∃ ad Ai ci, A = some ad ∧ ad.block < B ∧ w.cell? (ad.add i) = some (.slice Ai (ls[i]).length ci) ∧ (ls[i]).length ≤ ci ∧ Sees w B Ai (bv ls[i])
theorem Sees2.below {w w' : World} {B : Nat} {A : Option Addr} {ls : List (List UInt8)} (h : Sees2 w B A ls) (hb : Below B w w') : Sees2 w' B A ls :=
  ⟨fun i hi => by
    obtain ⟨ad, Ai, ci, h1, h2, h3, h4, h5⟩ := h.out i hi
    exact ⟨ad, Ai, ci, h1, h2, (hb.cell (by rw [add_block]; exact h2)).trans h3, h4, h5.below hb⟩⟩

theorem OwnB.drewN {w : World} {base : Nat} {v : Value} {l : List UInt8} (h : OwnB w base v l) (k : Nat) : OwnB (w.drewN k) base v l := h

end Go.Proofs.YteidkmiladkoiaaDoor
