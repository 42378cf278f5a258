/-
  A row among a law's parameters, opened.
-/
import Derived.Test.YtpjiioeodcinpaaGreatDoorOpenL
import Derived.Test.YtpjiioeodcinpaaGreatDoorRwPlain
namespace Go.Proofs.YtpjiioeodcinpaaGreatDoor
open Go.RowKit Go.WideShapes Go.ChangeShapes Go.ChangeAt Go.Deep Go.Joins

theorem Tryz.cellsW : Tryz.prog.cellsOf 26 = 6 := by kernel_rfl
set_option maxRecDepth 100000 in
theorem labels_of_trod {H : Type} {enc : TypeId × Value → H} {W : World} {v : Value} {fuel : Nat} {y : DataW H × List MemPlace} (hf : DataW.trod enc Tryz.prog W 0 (fun _ => true) true fuel 22 [v] = some y) :
    ∃ A n c ls, v = .slice A n c ∧ ls.length = n ∧ n ≤ c ∧ Sees W W.heap.size A (lv ls) := by
  rcases open_slice_fields Tryz.underlying22 Tryz.underlying24 (by kernel_rfl) Tryz.cellsLb hf with ⟨hcs, hx⟩ | ⟨a', len, cap, m, D, Pl, hcs, hb, hl, hcm, hmm, hx, hi⟩
  · simp at hcs
    subst hcs
    exact ⟨none, 0, 0, [], rfl, rfl, Nat.le_refl _, ⟨.inl rfl⟩⟩
  · simp at hcs
    subst hcs
    have hmc : m = cap := by simpa using hmm
    have each : ∀ i, i < len → ∃ x : Lb, W.cell? (a'.add (i * 2)) = some (.string x.1) ∧ W.cell? (a'.add (i * 2 + 1)) = some (.string x.2) := by
      intro i hin
      obtain ⟨ys, k, _, _, _, hfl⟩ := hi i (by omega)
      obtain ⟨v0, y0, h0, _, t0⟩ := hfl 0 _ rfl
      obtain ⟨v1, y1, h1, _, t1⟩ := hfl 1 _ rfl
      obtain ⟨s0, e0, _, _⟩ := DataW.trod_string Tryz.underlying9 t0
      obtain ⟨s1, e1, _, _⟩ := DataW.trod_string Tryz.underlying9 t1
      simp at e0 e1
      subst e0
      subst e1
      exact ⟨(s0, s1), h0, h1⟩
    obtain ⟨ls, hls, hp⟩ := list_of len _ each
    refine ⟨some a', len, cap, ls, rfl, hls, hl, ?_⟩
    by_cases hn : len = 0
    · subst hn
      rw [List.eq_nil_of_length_eq_zero hls]
      exact ⟨.inl rfl⟩
    · refine ⟨.inr ⟨a', rfl, ?_, ?_⟩⟩
      · have := World.block_lt_of_cell? W _ (hp 0 (by omega)).1
        rwa [add_block] at this
      · refine cells_rows W (fun x : Lb => [Value.string x.1, .string x.2]) 2 (fun _ => rfl) ls a' (fun i hi j u hu => ?_)
        obtain ⟨g0, g1⟩ := hp i hi
        match j, hu with
        | 0, hu => simp at hu; subst hu; exact g0
        | 1, hu => simp at hu; subst hu; exact g1
theorem Tryz.cellsInt : Tryz.prog.cellsOf 3 = 1 := by kernel_rfl
theorem Tryz.cellsStr : Tryz.prog.cellsOf 9 = 1 := by kernel_rfl
theorem Tryz.cellsLbs : Tryz.prog.cellsOf 22 = 1 := by kernel_rfl
set_option maxRecDepth 100000 in
theorem open_row {H : Type} {enc : TypeId × Value → H} {W : World} {base : Nat} {v : Value} {d : DataW H} {p : List MemPlace} (hval : Value.okWide Tryz.prog W .any base 26 v)
    (h : DataW.Trod enc Tryz.prog W 0 (fun _ => true) true 26 v d p) : ∃ k dd i A n c ls x1 x2, v = .agg #[.int .i64 k, .slice A n c, .string x1, .string x2, .int .i64 dd, .int .i64 i] ∧ ls.length = n ∧ n ≤ c ∧ Sees W W.heap.size A (lv ls) := by
  obtain ⟨cs, rfl, hsz⟩ := okWide_struct Tryz.underlying26 hval
  obtain ⟨l⟩ := cs
  match l, hsz.trans Tryz.cellsW with
  | [c0, c1, c2, c3, c4, c5], _ =>
    obtain ⟨fuel, hf⟩ := h
    obtain ⟨xs, n, _, hx, _, hlen, hg⟩ := DataW.trod_struct Tryz.underlying26 hf
    match xs, hlen with
    | [y0, y1, y2, y3, y4], _ =>
      have g0 : DataW.trod enc Tryz.prog W 0 (fun _ => true) true n 3 [c0] = some y0 := by have := hg 0 _ rfl; simpa [Value.cells, Tryz.cellsInt] using this
      have g1 : DataW.trod enc Tryz.prog W 0 (fun _ => true) true n 22 [c1] = some y1 := by have := hg 1 _ rfl; simpa [Value.cells, Tryz.cellsLbs] using this
      have g2 : DataW.trod enc Tryz.prog W 0 (fun _ => true) true n 24 [c2, c3] = some y2 := by have := hg 2 _ rfl; simpa [Value.cells, Tryz.cellsLb] using this
      have g3 : DataW.trod enc Tryz.prog W 0 (fun _ => true) true n 3 [c4] = some y3 := by have := hg 3 _ rfl; simpa [Value.cells, Tryz.cellsInt] using this
      have g4 : DataW.trod enc Tryz.prog W 0 (fun _ => true) true n 3 [c5] = some y4 := by have := hg 4 _ rfl; simpa [Value.cells, Tryz.cellsInt] using this
      obtain ⟨A, nn, c, ls, rfl, hl, hc, hS⟩ := labels_of_trod g1
      obtain ⟨zs, n2, _, _, _, hlen2, hg2⟩ := DataW.trod_struct Tryz.underlying24 g2
      match zs, hlen2 with
      | [z0, z1], _ =>
        have s0 : DataW.trod enc Tryz.prog W 0 (fun _ => true) true n2 9 [c2] = some z0 := by have := hg2 0 _ rfl; simpa [Tryz.cellsStr] using this
        have s1 : DataW.trod enc Tryz.prog W 0 (fun _ => true) true n2 9 [c3] = some z1 := by have := hg2 1 _ rfl; simpa [Tryz.cellsStr] using this
        obtain ⟨t0, e0, _, _⟩ := DataW.trod_string Tryz.underlying9 s0
        obtain ⟨t1, e1, _, _⟩ := DataW.trod_string Tryz.underlying9 s1
        obtain ⟨i0, f0, _⟩ := DataW.trod_int Tryz.underlying3 g0
        obtain ⟨i3, f3, _⟩ := DataW.trod_int Tryz.underlying3 g3
        obtain ⟨i4, f4, _⟩ := DataW.trod_int Tryz.underlying3 g4
        simp at e0 e1 f0 f3 f4
        subst e0 e1 f0 f3 f4
        exact ⟨i0, i3, i4, A, nn, c, ls, t0, t1, rfl, hl, hc, hS⟩
end Go.Proofs.YtpjiioeodcinpaaGreatDoor
