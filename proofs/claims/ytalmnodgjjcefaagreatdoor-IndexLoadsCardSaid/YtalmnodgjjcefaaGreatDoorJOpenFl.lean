/-
  A row of filters among a law's parameters, opened.
-/
import Derived.Test.YtalmnodgjjcefaaGreatDoorJDor
namespace Go.Proofs.YtalmnodgjjcefaaGreatDoor
open Go.RowKit Go.WideShapes Go.ChangeShapes Go.ChangeAt Go.Deep Go.Joins

set_option maxRecDepth 100000 in
theorem open_filtersI {H : Type} {enc : TypeId × Value → H} {W : World} {base : Nat} {v : Value} {d : DataW H} {p : List MemPlace} (hval : Value.okWide Tryz.prog W .any base 39 v)
    (h : DataW.Trod enc Tryz.prog W 0 (fun _ => true) true 39 v d p) : ∃ A n c fs, v = .slice A n c ∧ fs.length = n ∧ n ≤ c ∧ Sees W W.heap.size A (fv fs) ∧ FitF fs := by
  obtain ⟨a, n, c, rfl⟩ := okWide_slice Tryz.underlying39 hval
  obtain ⟨fuel, hf⟩ := h
  exact filters_of_trod (by simpa [Value.cells] using hf)
end Go.Proofs.YtalmnodgjjcefaaGreatDoor
