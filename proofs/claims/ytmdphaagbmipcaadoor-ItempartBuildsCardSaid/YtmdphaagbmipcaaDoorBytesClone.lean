/-
  bytes.Clone.
-/
import Derived.Test.YtmdphaagbmipcaaDoorLow
import Derived.Lib.SlBytesConst
namespace Go.Proofs.YtmdphaagbmipcaaDoor
open Go.RowKit

set_option maxRecDepth 100000 in
set_option maxHeartbeats 400000 in
theorem bytesClone_any (A : Option Addr) (n c : Nat) (l : List UInt8) (hn : l.length = n) (w : World) (h : Sees w w.heap.size A (bv l)) (hlen : l.length ≤ 1099511627776) :
    Calls Tryd.prog 42 #[.slice A n c] w (RetB w w.heap.size (.slice none 0 0) l) := by
  subst hn
  have he := fun (W : World) (a : Option Addr) (n c : Nat) => Lib.run_eql_slice_nil (P := Tryd.prog) W 23 5 a n c 0 0 Tryd.underlying23
  cases A with
  | none =>
    have hn : l = [] := by
      rcases h.out with h | ⟨ad, h, _⟩
      · simpa [bv] using h
      · cases h
    subst hn
    go_enter Tryd.func42, Tryd.ntmps42
    go_wp2
    go_ret
    exact ⟨_, rfl, OwnB.nil _ _, Onto.refl _ _⟩
  | some ad =>
    go_enter Tryd.func42, Tryd.ntmps42
    go_wp2_with (at_builtin; refine wpList_append_b rfl (.tmp 5) (.tmp 6) rfl w.heap.size (.slice (some ⟨w.heap.size, 0, none⟩) 0 0) [] (by rfl) (OwnB.new _ _ (Nat.le_refl _) [] 0 rfl _ rfl (by simp [maxLen])) w.heap.size (some ad) l.length c l (by rfl) rfl (h.alloc (Nat.le_refl _) _) (by simp; omega) (by simp) ?_; intro v1 w1 hown1 hon1)
    go_ret
    exact ⟨v1, rfl, hown1, (Onto.new _ _ _ _ _).trans hon1⟩
end Go.Proofs.YtmdphaagbmipcaaDoor
