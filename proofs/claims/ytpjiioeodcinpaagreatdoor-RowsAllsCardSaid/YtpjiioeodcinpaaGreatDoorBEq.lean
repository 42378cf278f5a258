/-
  bytes.Equal.
-/
import Derived.Test.YtpjiioeodcinpaaGreatDoorLow
namespace Go.Proofs.YtpjiioeodcinpaaGreatDoor
open Go.RowKit

theorem strOf_eq (l r : List UInt8) : ((strOf l).toList == (strOf r).toList) = decide (l = r) := by
  rw [strOf_toList, strOf_toList, Bool.eq_iff_iff, beq_iff_eq, decide_eq_true_eq]

set_option maxRecDepth 100000 in
set_option maxHeartbeats 400000 in
theorem BytesEqual_any (A B : Option Addr) (n m c d : Nat) (l r : List UInt8) (hn : l.length = n) (hm : r.length = m) (w : World) (hS : Sees w w.heap.size A (bv l)) (hS2 : Sees w w.heap.size B (bv r)) :
    Calls Tryz.prog 36 #[.slice A n c, .slice B m d] w fun e w' => e = .returned (.bool (decide (l = r))) ∧ w = w' := by
  have h1 := run_str w _ A n c l hS hn
  have h2 := run_str w _ B m d r hS2 hm
  have h3 := strOf_eq l r
  generalize decide (l = r) = X at h3 ⊢
  generalize strOf l = s at h1 h3
  generalize strOf r = t at h2 h3
  clear hn hm hS hS2
  go_enter Tryz.func36, Tryz.ntmps36
  go_wp2
  go_ret
  exact ⟨rfl, rfl⟩
end Go.Proofs.YtpjiioeodcinpaaGreatDoor
