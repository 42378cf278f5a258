/-
  A slice of numbers, a slice of such, a slice of slices of slices of bytes among a law's parameters, opened.
-/
import Derived.Test.YtcfbblgoligagaaOpenR
import Derived.Test.YtcfbblgoligagaaKmSees3
import Derived.Test.YtcfbblgoligagaaKmRefI
namespace Go.Proofs.Ytcfbblgoligagaa
open Go.RowKit Go.WideShapes Go.ChangeShapes Go.ChangeAt
set_option maxRecDepth 100000

theorem Try.cellsI : Try.prog.cellsOf 3 = 1 := by kernel_rfl
theorem Try.cellsII : Try.prog.cellsOf 30 = 1 := by kernel_rfl
theorem Try.cellsSS : Try.prog.cellsOf 26 = 1 := by kernel_rfl

theorem ints_of_trod {H : Type} {enc : TypeId × Value → H} {W : World} {sp : Nat → Bool} {v : Value} {fuel : Nat} {x : DataW H × List MemPlace} (hsp : ∀ b, sp b = true)
    (hf : DataW.trod enc Try.prog W 0 sp true fuel 30 [v] = some x) : ∃ A n c l, v = .slice A n c ∧ l.length = n ∧ n ≤ c ∧ Sees W W.heap.size A (KI.iv l) := by
  rcases open_ints Try.underlying30 Try.underlying3 Try.cellsI hf with ⟨hcs, hx⟩ | ⟨a', n, c, zs, hcs, _, hl, hm, hz, hx, hc, hw⟩
  · simp at hcs
    subst hcs
    exact ⟨none, 0, 0, [], rfl, rfl, Nat.le_refl _, ⟨.inl rfl⟩⟩
  · simp at hcs
    subst hcs
    have hzl : zs.length = c := by rw [hsp] at hz; simpa using hz
    refine ⟨some a', n, c, zs.take n, rfl, by simp; omega, hl, ?_⟩
    by_cases h0 : n = 0
    · subst h0; exact ⟨.inl (by simp [KI.iv])⟩
    · refine ⟨.inr ⟨a', rfl, ?_, fun j u hu => ?_⟩⟩
      · have := World.block_lt_of_cell? W _ (hc 0 (by omega))
        rwa [add_block] at this
      · have hj : j < n := by
          rcases Nat.lt_or_ge j n with h | h
          · exact h
          · rw [List.getElem?_eq_none (by simp [KI.iv]; omega)] at hu; cases hu
        rw [hc j (by omega)]
        unfold KI.iv at hu
        rw [List.getElem?_map, List.getElem?_take, if_pos hj] at hu
        rw [List.getD_eq_getElem?_getD]
        cases hzj : zs[j]? with
        | none => rw [hzj] at hu; cases hu
        | some z => rw [hzj] at hu; simpa [KI.val] using hu
theorem open_nums {H : Type} {enc : TypeId × Value → H} {W : World} {base : Nat} {v : Value} {d : DataW H} {p : List MemPlace} (hval : Value.okWide Try.prog W .any base 30 v)
    (h : DataW.Trod enc Try.prog W 0 (fun _ => true) true 30 v d p) : ∃ A n c l, v = .slice A n c ∧ l.length = n ∧ n ≤ c ∧ Sees W W.heap.size A (KI.iv l) := by
  obtain ⟨a, n, c, rfl⟩ := okWide_slice Try.underlying30 hval
  obtain ⟨fuel, hf⟩ := h
  exact ints_of_trod (fun _ => rfl) (by simpa [Value.cells] using hf)
theorem open_numrows {H : Type} {enc : TypeId × Value → H} {W : World} {base : Nat} {v : Value} {d : DataW H} {p : List MemPlace} (hval : Value.okWide Try.prog W .any base 29 v)
    (h : DataW.Trod enc Try.prog W 0 (fun _ => true) true 29 v d p) : ∃ A n c ls, v = .slice A n c ∧ ls.length = n ∧ n ≤ c ∧ KI.RowsIn (fun k => k < W.heap.size) W A ls := by
  obtain ⟨a, n, c, rfl⟩ := okWide_slice Try.underlying29 hval
  obtain ⟨fuel, hf⟩ := h
  rcases Go.Deep.open_slice Try.underlying29 hf with ⟨hcs, hx⟩ | ⟨a', len, cap, m, k, D, Pl, hcs, hb, hl, hm, hmm, hx, hi⟩
  · simp [Value.cells] at hcs
    obtain ⟨rfl, rfl, rfl⟩ := hcs
    exact ⟨none, 0, 0, [], rfl, rfl, Nat.le_refl _, ⟨fun i hi => absurd hi (by simp)⟩⟩
  · simp [Value.cells] at hcs
    obtain ⟨rfl, rfl, rfl⟩ := hcs
    have hmc : m = c := by simpa using hmm
    have each : ∀ i, i < n → ∃ l : List Int, ∃ Ai ci, a'.block < W.heap.size ∧ W.cell? (a'.add i) = some (.slice Ai l.length ci) ∧ l.length ≤ ci ∧ Sees W W.heap.size Ai (KI.iv l) := by
      intro i hin
      obtain ⟨cs', hc, ht⟩ := hi i (by omega)
      rw [Try.cellsII, Nat.mul_one] at hc
      obtain ⟨_, hcl, hat⟩ := World.cells?_some hc
      match cs', hcl with
      | [u], _ =>
        have h0 := hat 0 (by omega)
        rw [add_add', Nat.add_zero] at h0
        obtain ⟨Ai, ni, ci, l, rfl, hln, hlc, hs⟩ := ints_of_trod (fun _ => rfl) ht
        subst hln
        have hblk := World.block_lt_of_cell? W _ h0
        rw [add_block] at hblk
        exact ⟨l, Ai, ci, hblk, h0, hlc, hs⟩
    obtain ⟨ls, hls, hp⟩ := list_of n _ each
    refine ⟨some a', n, c, ls, rfl, hls, hl, ⟨fun i hi => ?_⟩⟩
    obtain ⟨Ai, ci, h1, h2, h3, h4⟩ := hp i hi
    exact ⟨a', Ai, ci, rfl, h1, h2, h3, h4.toM, fun x _ => ⟨trivial⟩⟩
theorem rows_of_trod {H : Type} {enc : TypeId × Value → H} {W : World} {v : Value} {fuel : Nat} {x : DataW H × List MemPlace}
    (hf : DataW.trod enc Try.prog W 0 (fun _ => true) true fuel 26 [v] = some x) : ∃ A n c ls, v = .slice A n c ∧ ls.length = n ∧ n ≤ c ∧ Sees2 W W.heap.size A ls := by
  rcases Go.Deep.open_slice Try.underlying26 hf with ⟨hcs, hx⟩ | ⟨a', len, cap, m, k, D, Pl, hcs, hb, hl, hm, hmm, hx, hi⟩
  · simp at hcs
    subst hcs
    exact ⟨none, 0, 0, [], rfl, rfl, Nat.le_refl _, ⟨fun i hi => absurd hi (by simp)⟩⟩
  · simp at hcs
    subst hcs
    have hmc : m = cap := by simpa using hmm
    have each : ∀ i, i < len → ∃ l : List UInt8, ∃ Ai ci, a'.block < W.heap.size ∧ W.cell? (a'.add i) = some (.slice Ai l.length ci) ∧ l.length ≤ ci ∧ Sees W W.heap.size Ai (bv l) := by
      intro i hin
      obtain ⟨cs', hc, ht⟩ := hi i (by omega)
      rw [Try.cellsS, Nat.mul_one] at hc
      obtain ⟨_, hcl, hat⟩ := World.cells?_some hc
      match cs', hcl with
      | [u], _ =>
        have h0 := hat 0 (by omega)
        rw [add_add', Nat.add_zero] at h0
        obtain ⟨Ai, ni, ci, l, rfl, hln, hlc, -, hs⟩ := bytes_of_trod (fun _ => rfl) ht
        subst hln
        have hblk := World.block_lt_of_cell? W _ h0
        rw [add_block] at hblk
        exact ⟨l, Ai, ci, hblk, h0, hlc, hs⟩
    obtain ⟨ls, hls, hp⟩ := list_of len _ each
    refine ⟨some a', len, cap, ls, rfl, hls, hl, ⟨fun i hi => ?_⟩⟩
    obtain ⟨Ai, ci, h1, h2, h3, h4⟩ := hp i hi
    exact ⟨a', Ai, ci, rfl, h1, h2, h3, h4⟩
theorem open_rows3 {H : Type} {enc : TypeId × Value → H} {W : World} {base : Nat} {v : Value} {d : DataW H} {p : List MemPlace} (hval : Value.okWide Try.prog W .any base 22 v)
    (h : DataW.Trod enc Try.prog W 0 (fun _ => true) true 22 v d p) : ∃ A n c ll, v = .slice A n c ∧ ll.length = n ∧ n ≤ c ∧ Sees3 W W.heap.size A ll := by
  obtain ⟨a, n, c, rfl⟩ := okWide_slice Try.underlying22 hval
  obtain ⟨fuel, hf⟩ := h
  rcases Go.Deep.open_slice Try.underlying22 hf with ⟨hcs, hx⟩ | ⟨a', len, cap, m, k, D, Pl, hcs, hb, hl, hm, hmm, hx, hi⟩
  · simp [Value.cells] at hcs
    obtain ⟨rfl, rfl, rfl⟩ := hcs
    exact ⟨none, 0, 0, [], rfl, rfl, Nat.le_refl _, ⟨fun i hi => absurd hi (by simp)⟩⟩
  · simp [Value.cells] at hcs
    obtain ⟨rfl, rfl, rfl⟩ := hcs
    have hmc : m = c := by simpa using hmm
    have each : ∀ i, i < n → ∃ l : List Item, ∃ Ai ci, a'.block < W.heap.size ∧ W.cell? (a'.add i) = some (.slice Ai l.length ci) ∧ l.length ≤ ci ∧ Sees2 W W.heap.size Ai l := by
      intro i hin
      obtain ⟨cs', hc, ht⟩ := hi i (by omega)
      rw [Try.cellsSS, Nat.mul_one] at hc
      obtain ⟨_, hcl, hat⟩ := World.cells?_some hc
      match cs', hcl with
      | [u], _ =>
        have h0 := hat 0 (by omega)
        rw [add_add', Nat.add_zero] at h0
        obtain ⟨Ai, ni, ci, l, rfl, hln, hlc, hs⟩ := rows_of_trod ht
        subst hln
        have hblk := World.block_lt_of_cell? W _ h0
        rw [add_block] at hblk
        exact ⟨l, Ai, ci, hblk, h0, hlc, hs⟩
    obtain ⟨ll, hls, hp⟩ := list_of n _ each
    refine ⟨some a', n, c, ll, rfl, hls, hl, ⟨fun i hi => ?_⟩⟩
    obtain ⟨Ai, ci, h1, h2, h3, h4⟩ := hp i hi
    exact ⟨a', Ai, ci, rfl, h1, h2, h3, h4⟩
end Go.Proofs.Ytcfbblgoligagaa
