/-
  An act over files among a law's parameters, opened.
-/
import Derived.Test.YteidkmiladkoiaaDoorOpenR
import Derived.Deep.Fields
import Derived.Lib.SmallJoins
import Derived.ChangeMaps5
namespace Go.Proofs.YteidkmiladkoiaaDoor
open Go.RowKit Go.WideShapes Go.ChangeShapes Go.ChangeAt Go.Deep Go.Joins

theorem Tryd.cellsActF : Tryd.prog.cellsOf 35 = 6 := by kernel_rfl
theorem Tryd.cellsInt : Tryd.prog.cellsOf 3 = 1 := by kernel_rfl
theorem Tryd.cellsStr : Tryd.prog.cellsOf 9 = 1 := by kernel_rfl
set_option maxRecDepth 100000 in
theorem open_actf {H : Type} {enc : TypeId × Value → H} {W : World} {base : Nat} {v : Value} {d : DataW H} {p : List MemPlace} (hval : Value.okWide Tryd.prog W .any base 35 v)
    (h : DataW.Trod enc Tryd.prog W 0 (fun _ => true) true 35 v d p) : ∃ k s1 s2 A n c l a b, v = .agg #[.int .i64 k, .string s1, .string s2, .slice A n c, .int .i64 a, .int .i64 b] ∧ l.length = n ∧ n ≤ c ∧ Sees W W.heap.size A (bv l) := by
  obtain ⟨cs, rfl, hsz⟩ := okWide_struct Tryd.underlying35 hval
  obtain ⟨l⟩ := cs
  match l, hsz.trans Tryd.cellsActF with
  | [c0, c1, c2, c3, c4, c5], _ =>
    obtain ⟨fuel, hf⟩ := h
    obtain ⟨xs, n, _, hx, _, hlen, hg⟩ := DataW.trod_struct Tryd.underlying35 hf
    match xs, hlen with
    | [y0, y1, y2, y3, y4, y5], _ =>
      have g0 : DataW.trod enc Tryd.prog W 0 (fun _ => true) true n 3 [c0] = some y0 := by have := hg 0 _ rfl; simpa [Value.cells, Tryd.cellsInt] using this
      have g1 : DataW.trod enc Tryd.prog W 0 (fun _ => true) true n 9 [c1] = some y1 := by have := hg 1 _ rfl; simpa [Value.cells, Tryd.cellsStr] using this
      have g2 : DataW.trod enc Tryd.prog W 0 (fun _ => true) true n 9 [c2] = some y2 := by have := hg 2 _ rfl; simpa [Value.cells, Tryd.cellsStr] using this
      have g3 : DataW.trod enc Tryd.prog W 0 (fun _ => true) true n 28 [c3] = some y3 := by have := hg 3 _ rfl; simpa [Value.cells, Tryd.cellsS] using this
      have g4 : DataW.trod enc Tryd.prog W 0 (fun _ => true) true n 3 [c4] = some y4 := by have := hg 4 _ rfl; simpa [Value.cells, Tryd.cellsInt] using this
      have g5 : DataW.trod enc Tryd.prog W 0 (fun _ => true) true n 3 [c5] = some y5 := by have := hg 5 _ rfl; simpa [Value.cells, Tryd.cellsInt] using this
      obtain ⟨i0, f0, _⟩ := DataW.trod_int Tryd.underlying3 g0
      obtain ⟨s1, e1, _, _⟩ := DataW.trod_string Tryd.underlying9 g1
      obtain ⟨s2, e2, _, _⟩ := DataW.trod_string Tryd.underlying9 g2
      obtain ⟨A, nn, c, ls, rfl, hl, hc, -, hS⟩ := bytes_of_trod (fun _ => rfl) g3
      obtain ⟨i4, f4, _⟩ := DataW.trod_int Tryd.underlying3 g4
      obtain ⟨i5, f5, _⟩ := DataW.trod_int Tryd.underlying3 g5
      simp at e1 e2 f0 f4 f5
      subst e1 e2 f0 f4 f5
      exact ⟨i0, s1, s2, A, nn, c, ls, i4, i5, rfl, hl, hc, hS⟩
end Go.Proofs.YteidkmiladkoiaaDoor
