/-
  A slice of slices of bytes among a law's parameters, opened.
-/
import Derived.Test.YteidkmiladkoiaaDoorOpenB
import Derived.Test.YteidkmiladkoiaaDoorWords
import Derived.Deep.Slices
namespace Go.Proofs.YteidkmiladkoiaaDoor
open Go.RowKit Go.WideShapes Go.ChangeShapes Go.ChangeAt
set_option maxRecDepth 100000

theorem Tryd.cellsS : Tryd.prog.cellsOf 28 = 1 := by kernel_rfl

theorem list_of {α : Type} (n : Nat) (p : Nat → α → Prop) (h : ∀ i, i < n → ∃ x, p i x) : ∃ l : List α, l.length = n ∧ ∀ i (hi : i < l.length), p i l[i] := by
  induction n with
  | zero => exact ⟨[], rfl, fun i hi => absurd hi (by simp)⟩
  | succ n ih =>
    obtain ⟨l, hl, hp⟩ := ih fun i hi => h i (by omega)
    obtain ⟨x, hx⟩ := h n (by omega)
    refine ⟨l ++ [x], by simp [hl], fun i hi => ?_⟩
    by_cases hin : i < l.length
    · rw [List.getElem_append_left hin]
      exact hp i hin
    · have hie : i = l.length := by simp at hi; omega
      subst hie
      rw [List.getElem_append_right (Nat.le_refl _)]
      simpa [hl] using hx

theorem open_rows {H : Type} {enc : TypeId × Value → H} {W : World} {base : Nat} {v : Value} {d : DataW H} {p : List MemPlace} (hval : Value.okWide Tryd.prog W .any base 22 v)
    (h : DataW.Trod enc Tryd.prog W 0 (fun _ => true) true 22 v d p) : ∃ A n c ls, v = .slice A n c ∧ ls.length = n ∧ n ≤ c ∧ Sees2 W W.heap.size A ls := by
  obtain ⟨a, n, c, rfl⟩ := okWide_slice Tryd.underlying22 hval
  obtain ⟨fuel, hf⟩ := h
  rcases Go.Deep.open_slice Tryd.underlying22 hf with ⟨hcs, hx⟩ | ⟨a', len, cap, m, k, D, Pl, hcs, hb, hl, hm, hmm, hx, hi⟩
  · simp [Value.cells] at hcs
    obtain ⟨rfl, rfl, rfl⟩ := hcs
    exact ⟨none, 0, 0, [], rfl, rfl, Nat.le_refl _, ⟨fun i hi => absurd hi (by simp)⟩⟩
  · simp [Value.cells] at hcs
    obtain ⟨rfl, rfl, rfl⟩ := hcs
    have hmc : m = c := by simpa using hmm
    have each : ∀ i, i < n → ∃ l : List UInt8, ∃ Ai ci, a'.block < W.heap.size ∧ W.cell? (a'.add i) = some (.slice Ai l.length ci) ∧ l.length ≤ ci ∧ Sees W W.heap.size Ai (bv l) := by
      intro i hin
      obtain ⟨cs', hc, ht⟩ := hi i (by omega)
      rw [Tryd.cellsS, Nat.mul_one] at hc
      obtain ⟨_, hcl, hat⟩ := World.cells?_some hc
      match cs', hcl with
      | [u], _ =>
        have h0 := hat 0 (by omega)
        rw [add_add', Nat.add_zero] at h0
        obtain ⟨Ai, ni, ci, l, rfl, hln, hlc, -, hs⟩ := bytes_of_trod (fun _ => rfl) ht
        subst hln
        have hblk := World.block_lt_of_cell? W _ h0
        rw [add_block] at hblk
        exact ⟨l, Ai, ci, hblk, h0, hlc, hs⟩
    obtain ⟨ls, hls, hp⟩ := list_of n _ each
    refine ⟨some a', n, c, ls, rfl, hls, hl, ⟨fun i hi => ?_⟩⟩
    obtain ⟨Ai, ci, h1, h2, h3, h4⟩ := hp i hi
    exact ⟨a', Ai, ci, rfl, h1, h2, h3, h4⟩
end Go.Proofs.YteidkmiladkoiaaDoor
