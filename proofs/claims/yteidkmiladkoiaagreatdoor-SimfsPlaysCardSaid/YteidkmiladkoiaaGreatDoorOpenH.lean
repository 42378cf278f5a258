/-
  A script of acts over files among a law's parameters, opened: with bounds.
-/
import Derived.Test.YteidkmiladkoiaaGreatDoorZOpn
namespace Go.Proofs.YteidkmiladkoiaaGreatDoor
open Go.RowKit Go.WideShapes Go.ChangeShapes Go.ChangeAt Go.Deep Go.Joins

set_option maxRecDepth 100000 in
theorem open_actsH {H : Type} {enc : TypeId × Value → H} {W : World} {base : Nat} {v : Value} {d : DataW H} {p : List MemPlace} (hval : Value.okWide Tryz.prog W .any base 22 v)
    (h : DataW.Trod enc Tryz.prog W 0 (fun _ => true) true 22 v d p) : ∃ A n c ls, v = .slice A n c ∧ ls.length = n ∧ n ≤ c ∧ ActsF (fun k => k < W.heap.size) W A ls ∧ ∀ x ∈ ls, x.n ≤ 9223372036854775807 := by
  obtain ⟨a, n, c, rfl⟩ := okWide_slice Tryz.underlying22 hval
  obtain ⟨fuel, hf⟩ := h
  rcases open_slice_fields Tryz.underlying22 Tryz.underlying34 (by kernel_rfl) Tryz.cellsActF hf with ⟨hcs, hx⟩ | ⟨a', len, cap, m, D, Pl, hcs, hb, hl, hcm, hmm, hx, hi⟩
  · simp [Value.cells] at hcs
    obtain ⟨rfl, rfl, rfl⟩ := hcs
    exact ⟨none, 0, 0, [], rfl, rfl, Nat.le_refl _, ⟨fun i hi => absurd hi (by simp)⟩, fun x hx => absurd hx (by simp)⟩
  · simp [Value.cells] at hcs
    obtain ⟨rfl, rfl, rfl⟩ := hcs
    have hmc : m = c := by simpa using hmm
    have each : ∀ i, i < n → ∃ x : ActF, ∃ Ai ci, W.cell? (a'.add (i * 6)) = some (.int .i64 x.kind) ∧ W.cell? (a'.add (i * 6 + 1)) = some (.string (strOf x.path)) ∧ W.cell? (a'.add (i * 6 + 2)) = some (.string (strOf x.into)) ∧ W.cell? (a'.add (i * 6 + 3)) = some (.slice Ai x.b.length ci) ∧ W.cell? (a'.add (i * 6 + 4)) = some (.int .i64 x.n) ∧ W.cell? (a'.add (i * 6 + 5)) = some (.int .i64 x.by_) ∧ x.b.length ≤ ci ∧ Sees W W.heap.size Ai (bv x.b) ∧ x.n ≤ 9223372036854775807 := by
      intro i hin
      obtain ⟨ys, k, _, _, _, hfl⟩ := hi i (by omega)
      obtain ⟨v0, y0, h0, _, t0⟩ := hfl 0 _ rfl
      obtain ⟨v1, y1, h1, _, t1⟩ := hfl 1 _ rfl
      obtain ⟨v2, y2, h2, _, t2⟩ := hfl 2 _ rfl
      obtain ⟨v3, y3, h3, _, t3⟩ := hfl 3 _ rfl
      obtain ⟨v4, y4, h4, _, t4⟩ := hfl 4 _ rfl
      obtain ⟨v5, y5, h5, _, t5⟩ := hfl 5 _ rfl
      obtain ⟨i0, e0, _⟩ := DataW.trod_int Tryz.underlying3 t0
      obtain ⟨s1, e1, _, _⟩ := DataW.trod_string Tryz.underlying9 t1
      obtain ⟨s2, e2, _, _⟩ := DataW.trod_string Tryz.underlying9 t2
      obtain ⟨Ai, ni, ci, li, rfl, hli, hci, -, hSi⟩ := bytes_of_trod (fun _ => rfl) t3
      obtain ⟨i4, e4, wf4⟩ := DataW.trod_int Tryz.underlying3 t4
      obtain ⟨i5, e5, _⟩ := DataW.trod_int Tryz.underlying3 t5
      obtain ⟨-, hi4⟩ := bounds_i64 wf4.2
      simp at e0 e1 e2 e4 e5
      subst e0 e1 e2 e4 e5
      subst hli
      obtain ⟨p1, rfl⟩ := txt_of s1
      obtain ⟨p2, rfl⟩ := txt_of s2
      exact ⟨⟨i0, p1, p2, li, i4, i5⟩, Ai, ci, h0, h1, h2, h3, h4, h5, hci, hSi, hi4⟩
    obtain ⟨ls, hls, hp⟩ := list_of n _ each
    refine ⟨some a', n, c, ls, rfl, hls, hl, ⟨fun i hi => ?_⟩, fun x hx => ?_⟩
    rotate_left
    · obtain ⟨i, hi, rfl⟩ := List.mem_iff_getElem.1 hx
      obtain ⟨_, _, -, -, -, -, -, -, -, -, g8⟩ := hp i hi
      exact g8
    obtain ⟨Ai, ci, g0, g1, g2, g3, g4, g5, g6, g7, -⟩ := hp i hi
    have hbk : (a'.add (i * 6)).block = a'.block := add_block _ _
    refine ⟨a', Ai, ci, rfl, ?_, g0, ?_, ?_, ?_, ?_, ?_, g6, g7.toM⟩
    · have := World.block_lt_of_cell? W _ g0
      rwa [hbk] at this
    · rw [← add_fieldS a' _ 1 (by omega)]; exact g1
    · rw [← add_fieldS a' _ 2 (by omega)]; exact g2
    · rw [← add_fieldS a' _ 3 (by omega)]; exact g3
    · rw [← add_fieldS a' _ 4 (by omega)]; exact g4
    · rw [← add_fieldS a' _ 5 (by omega)]; exact g5
end Go.Proofs.YteidkmiladkoiaaGreatDoor
