/- A slice of numbers among a law's parameters, opened. -/
import Derived.Test.YtalmnodgjjcefaaGreatDoorCards
import Derived.Test.YtalmnodgjjcefaaGreatDoorTie
import Derived.Test.YtalmnodgjjcefaaGreatDoorQOpn
import Derived.Deep.DeepHandedRow
import Derived.Lib.LaidTab
import Derived.Test.YtalmnodgjjcefaaGreatDoorQRwE
namespace Go.Proofs.YtalmnodgjjcefaaGreatDoor
open Go.RowKit Go.WideShapes Go.ChangeShapes Go.ChangeAt
def acceptZ : List Int := [128, 191, 160, 191, 128, 159, 144, 191, 128, 143, 0, 0, 0, 0, 0, 0, 0, 0, 0, 0, 0, 0, 0, 0, 0, 0, 0, 0, 0, 0, 0, 0]
noncomputable def laidWorldOf (w : World) : World :=
 { w with heap := (w.heap.modify 3 fun
   | .cells _ t frozen => .cells (acceptZ.map (Value.int .u8)).toArray t frozen
   | o => o).modify 2 fun
   | .cells _ t frozen => .cells (Go.Pinned.utf8FirstZ.map fun (n : Nat) => Value.int .u8 (Int.ofNat n)).toArray t frozen
   | o => o }
end Go.Proofs.YtalmnodgjjcefaaGreatDoor
namespace Go.Proofs.YtalmnodgjjcefaaGreatDoor
open Go.RowKit Go.WideShapes Go.ChangeShapes Go.ChangeAt
set_option maxRecDepth 100000
theorem Tryz.cellsDay : Tryz.prog.cellsOf 3 = 1 := by kernel_rfl
theorem days_of_trod {H : Type} {enc : TypeId × Value → H} {W : World} {sp : Nat → Bool} {v : Value} {fuel : Nat} {x : DataW H × List MemPlace} (hsp : ∀ b, sp b = true)
  (hf : DataW.trod enc Tryz.prog W 0 sp true fuel 23 [v] = some x) : ∃ A n c l, v = .slice A n c ∧ l.length = n ∧ n ≤ c ∧ Sees W W.heap.size A (dv l) := by
 rcases open_ints Tryz.underlying23 Tryz.underlying3 Tryz.cellsDay hf with ⟨hcs, hx⟩ | ⟨a', n, c, zs, hcs, _, hl, hm, hz, hx, hc, hw⟩
 ·simp at hcs
  subst hcs
  exact ⟨none, 0, 0, [], rfl, rfl, Nat.le_refl _, ⟨.inl rfl⟩⟩
 ·simp at hcs
  subst hcs
  have hzl : zs.length = c := by rw [hsp] at hz; simpa using hz
  refine ⟨some a', n, c, zs.take n, rfl, by simp; omega, hl, ?_⟩
  by_cases h0 : n = 0
  ·subst h0; exact ⟨.inl (by simp [dv])⟩
  ·refine ⟨.inr ⟨a', rfl, ?_, fun j u hu => ?_⟩⟩
   ·have := World.block_lt_of_cell? W _ (hc 0 (by omega))
    rwa [add_block] at this
   ·have hj : j < n := by
     rcases Nat.lt_or_ge j n with h | h
     ·exact h
     ·rw [List.getElem?_eq_none (by simp [dv]; omega)] at hu; cases hu
    rw [hc j (by omega)]
    unfold dv at hu
    rw [List.getElem?_map, List.getElem?_take, if_pos hj] at hu
    rw [List.getD_eq_getElem?_getD]
    cases hzj : zs[j]? with
    | none => rw [hzj] at hu; cases hu
    | some z => rw [hzj] at hu; simpa [] using hu
theorem open_days {H : Type} {enc : TypeId × Value → H} {W : World} {base : Nat} {v : Value} {d : DataW H} {p : List MemPlace} (hval : Value.okWide Tryz.prog W .any base 23 v)
  (h : DataW.Trod enc Tryz.prog W 0 (fun _ => true) true 23 v d p) : ∃ A n c l, v = .slice A n c ∧ l.length = n ∧ n ≤ c ∧ Sees W W.heap.size A (dv l) := by
 obtain ⟨a, n, c, rfl⟩ := okWide_slice Tryz.underlying23 hval
 obtain ⟨fuel, hf⟩ := h
 exact days_of_trod (fun _ => rfl) (by simpa [Value.cells] using hf)
end Go.Proofs.YtalmnodgjjcefaaGreatDoor
