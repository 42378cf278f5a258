/-
  A part's items from one on: the iterator.
-/
import Derived.Test.YtmdphaagbmipcaaDoorIpAt
import Derived.Sort.LoopGhostIn
import Derived.Sort.CutIn
namespace Go.Proofs.YtmdphaagbmipcaaDoor
open Go.RowKit Go.Shelf

attribute [local go_sem] Oper.semAt_some

/-- What each block begins with. -/
def firstsB (ls : List Item) : List Item := (blk ls).map (·.headD [])
/-- The items from one on, block by block. -/
def fromY (ls : List Item) (x : Item) : List Item := ((blk ls).drop (atB (firstsB ls) x)).flatMap fun o => o.drop (firstNot x o)

abbrev Told := Item × (Option Addr × Nat)
def Told.vals (y : Told) : Array Value := #[.slice y.2.1 y.1.length y.2.2]
def FromOk (n0 : Nat) (Y : List Item) (_ : Nat → Prop) (pre : List Told) (y : Told) (W : World) : Prop :=
  SeesM (fun k => k < n0) W y.2.1 (bv y.1) ∧ y.1.length ≤ y.2.2 ∧ (pre.map (·.1) ++ [y.1]) <+: Y ∧ n0 ≤ W.heap.size

theorem from_any (p : Option Addr) (B : Option Addr) (n c : Nat) (w : World) : Calls Tryd.prog 41 #[.pointer p, .slice B n c] w fun e w' =>
    e = .returned (.func (.func 62) #[] #[.pointer (some ⟨w.heap.size, 0, none⟩), .pointer (some ⟨w.heap.size + 1, 0, none⟩)]) ∧ w' = (w.alloc (.cells #[.pointer p] 29)).alloc (.cells #[.slice B n c] 23) := by
  go_enter Tryd.func41, Tryd.ntmps41
  go_wp2
  go_ret
  exact ⟨rfl, rfl⟩

theorem blk_block {ls : List Item} {o : List Item} (h : o ∈ blk ls) : ∃ k, 8 * k < ls.length ∧ o = (ls.drop (8 * k)).take 8 := by
  obtain ⟨k, hk, e⟩ := List.mem_iff_getElem.1 h
  refine ⟨k, ?_, ?_⟩
  · have := blk_length ls; omega
  · rw [← e]; exact blk_get hk
theorem firsts_rise {ls : List Item} (h : okB ls = true) : risesB (firstsB ls) = true := by
  refine rises_of fun i hi => ?_
  have hl : (firstsB ls).length = (blk ls).length := by simp [firstsB]
  have hb := blk_length ls
  have g : ∀ j (hj : j < (firstsB ls).length), (firstsB ls)[j] = ls[8 * j]'(by omega) := fun j hj => by
    have h1 : (blk ls)[j]'(by omega) = (ls.drop (8 * j)).take 8 := blk_get (by omega)
    have h2 : (firstsB ls)[j] = ((blk ls)[j]'(by omega)).headD [] := by simp [firstsB]
    rw [h2, h1, headD_get (by rw [List.length_take, List.length_drop]; omega)]
    exact block_get (by rw [List.length_take, List.length_drop]; omega)
  rw [g, g]
  exact rises_pair (ok_parts h).1 (by omega) (by omega) (by omega)
theorem firstNot_at_most {ls : List Item} {x : Item} (hl : 0 < ls.length) : atB ls x < ls.length := by
  have h1 := firstNot_le x ls
  unfold atB foundB
  split
  · rename_i h
    rw [decide_eq_true_eq] at h
    exact h.1
  · omega
end Go.Proofs.YtmdphaagbmipcaaDoor
