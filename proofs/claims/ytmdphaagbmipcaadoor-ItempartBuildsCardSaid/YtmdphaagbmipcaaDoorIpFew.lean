/-
  Are items few, and short? That many bytes are seen where constants were laid.
-/
import Derived.Test.YtmdphaagbmipcaaDoorIpWays
namespace Go.Proofs.YtmdphaagbmipcaaDoor
open Go.RowKit

def fewB (ls : List (List UInt8)) : Bool := decide (ls.length ≤ 100) && ls.all fun l => decide (l.length ≤ 500)
theorem few_at {ls : List (List UInt8)} {k : Nat} (h : k < ls.length) : (ls.drop k).all (fun l => decide (l.length ≤ 500)) = (decide (ls[k].length ≤ 500) && (ls.drop (k + 1)).all fun l => decide (l.length ≤ 500)) := by
  rw [List.drop_eq_getElem_cons h]
  rfl
theorem few_yes {ls : List (List UInt8)} (h : fewB ls = true) : ls.length ≤ 100 ∧ ∀ i (hi : i < ls.length), ls[i].length ≤ 500 := by
  unfold fewB at h
  rw [Bool.and_eq_true, decide_eq_true_eq, List.all_eq_true] at h
  exact ⟨h.1, fun i hi => by simpa using h.2 _ (List.getElem_mem hi)⟩

set_option maxRecDepth 100000 in
set_option maxHeartbeats 400000 in
theorem few_any (A : Option Addr) (n c : Nat) (ls : List (List UInt8)) (hn : ls.length = n) (w : World) (hS : Sees2 w w.heap.size A ls) :
    Calls Tryd.prog 10 #[.slice A n c] w fun e w' => e = .returned (.bool (fewB ls)) ∧ w = w' := by
  obtain ⟨X, hX⟩ : ∃ X, fewB ls = X := ⟨_, rfl⟩
  rw [hX]
  unfold fewB at hX
  rw [hn] at hX
  by_cases h100 : 100 < n
  · have HF : Hid (X = false) := by unfold Hid; rw [← hX, decide_eq_false (by omega)]; rfl
    clear hX hn
    go_enter Tryd.func10, Tryd.ntmps10
    go_wp2
    go_ret
    rw [HF.out]
    exact ⟨rfl, rfl⟩
  rw [decide_eq_true (by omega), Bool.true_and] at hX
  have HX := Lib.hid hX
  have HN := Lib.hid hn
  clear hn hX
  go_enter Tryd.func10, Tryd.ntmps10
  go_wp2
  go_loopg [3] n (fun g i wr => ∃ k : Nat, k + g = n ∧ i = .int .i64 k ∧ Hid (X = (ls.drop k).all fun l => decide (l.length ≤ 500)) ∧ wr = w)
  case atStart => exact ⟨0, by omega, rfl, HX.out.symm, rfl⟩
  case round =>
    obtain ⟨k, hk, rfl, heq, rfl⟩ := hrel
    by_cases hlt : k < n
    · obtain ⟨ad, Ai, ci, rfl, hadB, hcell, hci, hsee⟩ := hS.out k (by have := HN.out; omega)
      have hstep := Lib.hid (heq.out.trans (few_at (ls := ls) (k := k) (by have := HN.out; omega)))
      obtain ⟨L, hL⟩ : ∃ L, ls[k]'(by have := HN.out; omega) = L := ⟨_, rfl⟩
      rw [hL] at hcell hci hsee hstep
      clear hL heq
      by_cases hb : L.length ≤ 500
      · have hT : Hid (X = (ls.drop (k + 1)).all fun l => decide (l.length ≤ 500)) := by have := hstep.out; rw [decide_eq_true hb, Bool.true_and] at this; exact this
        clear hstep
        go_wp2
        go_roundg (n - (k + 1))
        case measure => omega
        case rel => exact ⟨k + 1, by omega, by go_num, hT, rfl⟩
      · have HF : Hid (X = false) := by have := hstep.out; rw [decide_eq_false hb, Bool.false_and] at this; exact this
        clear hstep
        go_wp2
        go_ret
        rw [HF.out]
        exact ⟨rfl, rfl⟩
    · have HF : Hid (X = true) := by have := heq.out; rw [List.drop_eq_nil_of_le (by have := HN.out; omega)] at this; exact this
      clear heq
      go_wp2
      go_ret
      rw [HF.out]
      exact ⟨rfl, rfl⟩

end Go.Proofs.YtmdphaagbmipcaaDoor
