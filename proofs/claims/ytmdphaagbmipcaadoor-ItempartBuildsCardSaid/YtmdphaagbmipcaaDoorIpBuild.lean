/-
  itempart.Build, walked.
-/
import Derived.Test.YtmdphaagbmipcaaDoorIpPlain
import Derived.Test.YtmdphaagbmipcaaDoorFrm
namespace Go.Proofs.YtmdphaagbmipcaaDoor
open Go.RowKit

/-- Two values' rows lie in different blocks. -/
def Apart2 (v x : Value) : Prop := ∀ k, v.ownBlock = some k → x.ownBlock ≠ some k
theorem Apart2.nil (x : Value) : Apart2 (.slice none 0 0) x := fun k h => by simp [Value.ownBlock] at h
theorem OwnB.beside {w w' : World} {base : Nat} {v v' x : Value} {l : List UInt8} (h : OwnB w base x l) (hon : Onto w w' v v') (ha : Apart2 v x) : OwnB w' base x l ∧ Apart2 v' x := by
  refine ⟨World.ownsRow.kept h hon.grown ?_, fun k hk => ?_⟩
  · cases hx : x.ownBlock with
    | none => exact .inl rfl
    | some k => exact .inr (fun e => ha k e.symm hx)
  · rcases hon.at_ with e | ⟨g, e, hg⟩
    · exact ha k (e ▸ hk)
    · intro hx
      have := (World.ownsRow.lt h k hx).2
      rw [e] at hk; injection hk with hk; omega
theorem Apart2.symm {v x : Value} (h : Apart2 v x) : Apart2 x v := fun k hk e => h k e hk
theorem Apart2.new {w : World} {base : Nat} {v x : Value} {l m : List UInt8} (hv : OwnB w base v l) {w' : World} (hx : OwnB w' w.heap.size x m) : Apart2 v x := fun k hk e => by
  have h1 := (World.ownsRow.lt hv k hk).2
  have h2 := (World.ownsRow.lt hx k e).1
  omega

set_option maxRecDepth 100000 in
set_option maxHeartbeats 400000 in
theorem place_any (n : Nat) (hn : n < 4294967296) (w : World) :
    Calls Tryd.prog 32 #[.int .i64 n] w (NewB w (place4 n)) := by
  have hsb : (n : Int) < 4294967296 := by omega
  have hs0 : (0 : Int) ≤ (n : Int) := by omega
  go_enter Tryd.func32, Tryd.ntmps32
  go_wp2
  go_ret
  exact ⟨_, rfl, OwnB.new w w.heap.size (Nat.le_refl _) (place4 n) 4 rfl _ (tail4_arr n _ _ _ _ (by omega) (by omega) (by omega) (by omega)) (by simp [place4, tail4, maxLen]), (Below.refl _ w).alloc (Nat.le_refl _) _⟩
end Go.Proofs.YtmdphaagbmipcaaDoor
