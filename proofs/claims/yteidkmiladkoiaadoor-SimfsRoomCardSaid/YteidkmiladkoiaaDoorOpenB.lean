/-
  A slice of bytes, and a byte, among a law's parameters, opened.
-/
import Derived.Test.YteidkmiladkoiaaDoorOpen
import Derived.Test.YteidkmiladkoiaaDoorBase
import Derived.Test.YteidkmiladkoiaaDoorPlain
namespace Go.Proofs.YteidkmiladkoiaaDoor
open Go.RowKit Go.WideShapes Go.ChangeShapes Go.ChangeAt
set_option maxRecDepth 100000

theorem Tryd.cellsB : Tryd.prog.cellsOf 5 = 1 := by kernel_rfl
theorem byte_of {n : Int} (h : (Lit.int .u8 n).wf = true) : ∃ b : UInt8, n = (b.toNat : Int) := by
  have hr : 0 ≤ n ∧ n ≤ 255 := by simpa [Lit.wf, IntKind.min, IntKind.max, IntKind.signed, IntKind.bits] using h
  exact ⟨UInt8.ofNat n.toNat, by rw [toNat_ofNat8]; omega⟩

/-- A slice of bytes, opened. -/
theorem bytes_of_trod {H : Type} {enc : TypeId × Value → H} {W : World} {sp : Nat → Bool} {v : Value} {fuel : Nat} {x : DataW H × List MemPlace} (hsp : ∀ b, sp b = true)
    (hf : DataW.trod enc Tryd.prog W 0 sp true fuel 28 [v] = some x) : ∃ A n c l, v = .slice A n c ∧ l.length = n ∧ n ≤ c ∧ n ≤ maxLen ∧ Sees W W.heap.size A (bv l) := by
  rcases open_ints Tryd.underlying28 Tryd.underlying5 Tryd.cellsB hf with ⟨hcs, hx⟩ | ⟨a', n, c, zs, hcs, _, hl, hm, hz, hx, hc, hw⟩
  · simp at hcs
    subst hcs
    exact ⟨none, 0, 0, [], rfl, rfl, Nat.le_refl _, by simp [maxLen], ⟨.inl rfl⟩⟩
  · simp at hcs
    subst hcs
    have hzl : zs.length = c := by rw [hsp] at hz; simpa using hz
    refine ⟨some a', n, c, (zs.take n).map (fun z => UInt8.ofNat z.toNat), rfl, by simp; omega, hl, by omega, ?_⟩
    have hb : bv ((zs.take n).map (fun z => UInt8.ofNat z.toNat)) = (zs.take n).map (Value.int .u8) := by
      unfold bv
      rw [List.map_map]
      refine List.map_congr_left fun z hzm => ?_
      have hwf := hw z (List.mem_of_mem_take hzm)
      have hr : 0 ≤ z ∧ z ≤ 255 := by simpa [Lit.wf, IntKind.min, IntKind.max, IntKind.signed, IntKind.bits] using hwf
      simp
      omega
    rw [hb]
    by_cases h0 : n = 0
    · subst h0; exact ⟨.inl (by simp)⟩
    · refine ⟨.inr ⟨a', rfl, ?_, fun j u hu => ?_⟩⟩
      · have := World.block_lt_of_cell? W _ (hc 0 (by omega))
        rwa [add_block] at this
      · have hj : j < n := by
          rcases Nat.lt_or_ge j n with h | h
          · exact h
          · rw [List.getElem?_eq_none (by simp; omega)] at hu; cases hu
        rw [hc j (by omega)]
        rw [List.getElem?_map, List.getElem?_take, if_pos hj] at hu
        rw [List.getD_eq_getElem?_getD]
        cases hzj : zs[j]? with
        | none => rw [hzj] at hu; cases hu
        | some z => rw [hzj] at hu; simpa using hu
theorem open_bytes {H : Type} {enc : TypeId × Value → H} {W : World} {base : Nat} {v : Value} {d : DataW H} {p : List MemPlace} (hval : Value.okWide Tryd.prog W .any base 28 v)
    (h : DataW.Trod enc Tryd.prog W 0 (fun _ => true) true 28 v d p) : ∃ A n c l, v = .slice A n c ∧ l.length = n ∧ n ≤ c ∧ n ≤ maxLen ∧ Sees W W.heap.size A (bv l) := by
  obtain ⟨a, n, c, rfl⟩ := okWide_slice Tryd.underlying28 hval
  obtain ⟨fuel, hf⟩ := h
  exact bytes_of_trod (fun _ => rfl) (by simpa [Value.cells] using hf)

end Go.Proofs.YteidkmiladkoiaaDoor
