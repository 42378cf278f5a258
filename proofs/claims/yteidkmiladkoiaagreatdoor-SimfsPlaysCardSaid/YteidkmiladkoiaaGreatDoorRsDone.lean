/-
  An act over both.
-/
import Derived.Test.YteidkmiladkoiaaGreatDoorRsDone1
import Derived.Test.YteidkmiladkoiaaGreatDoorRsDone2
import Derived.Test.YteidkmiladkoiaaGreatDoorRsDone3
import Derived.Test.YteidkmiladkoiaaGreatDoorRsDone4
import Derived.Test.YteidkmiladkoiaaGreatDoorRsDone5
namespace Go.Proofs.YteidkmiladkoiaaGreatDoor
open Go.RowKit

/-- An act over both, whatever they hold. -/
theorem done_any {w0 w : World} {f N : Nat} {S T : FsM} {q m : Nat → Prop} (hq : ∀ k, q k → k < w.heap.size) (h0 : OwnE w0 w f S m) (hO : FsOk N S) (hP : FsOk N T) (hN : N ≤ 8000) (fu : Bool) (lf : Int) (hl0 : 0 ≤ lf) (hl1 : lf ≤ 9223372036854775807) (v : Value) (hr : RefAt (uq m q) w v T fu lf) (x : ActF) (A : Option Addr) (lb c : Nat) (hb : x.b.length = lb) (hc : lb ≤ c) (hlb : lb ≤ 200) (hs : Hold (uq m q) w A (bv x.b)) (hp : x.path.length ≤ 60) (ht : x.into.length ≤ 60) :
    Calls Tryz.prog 12 #[.pointer (some ⟨f, 0, none⟩), v, x.val A lb c] w (DoneIs w0 w f q m (S.doneM x) (T.refM fu lf x) (fuM fu x) (lfM fu lf x) (sameM S T fu lf x)) := by
  unfold FsM.doneM FsM.refM fuM lfM sameM
  by_cases h1 : fuseF x
  · simp only [if_pos h1]
    exact done_fuse hq h0 hO hP hN fu lf hl0 hl1 v hr x A lb c hb hc hlb hs hp ht h1
  · simp only [if_neg h1]
    by_cases h2 : x.kind % 16 < 15
    · simp only [h2, true_and]
      by_cases h3 : fu = true ∧ lf = 0
      · have e : ¬ (fu = true ∧ lf ≠ 0) := fun e => e.2 h3.2
        simp only [if_pos h3, if_neg e]
        exact done_spent hq h0 hO hP hN fu lf hl0 hl1 v hr x A lb c hb hc hlb hs hp ht h2 h3.1 h3.2
      · have e2 : (spentR fu lf).2 = false := by unfold spentR; split; rfl; split; rename_i a b; exact absurd ⟨by simpa using a, b⟩ h3; rfl
        have e1 : (spentR fu lf).1 = if fu = true ∧ lf ≠ 0 then lf - 1 else lf := by
          unfold spentR
          cases fu with
          | false => simp
          | true => by_cases hz : lf = 0 <;> simp [hz]
        simp only [if_neg h3, ← e1]
        have h : x.kind % 16 = 0 ∨ x.kind % 16 = 1 ∨ x.kind % 16 = 2 ∨ x.kind % 16 = 3 ∨ x.kind % 16 = 4 ∨ x.kind % 16 = 5 ∨ x.kind % 16 = 6 ∨ x.kind % 16 = 7 ∨ x.kind % 16 = 8 ∨ x.kind % 16 = 9 ∨ x.kind % 16 = 10 ∨ x.kind % 16 = 11 ∨ x.kind % 16 = 12 ∨ x.kind % 16 = 13 ∨ x.kind % 16 = 14 := by omega
        rcases h with h | h | h | h | h | h | h | h | h | h | h | h | h | h | h
        · exact done_0 hq h0 hO hP hN fu lf hl0 hl1 v hr x A lb c hb hc hlb hs hp ht h e2
        · exact done_1 hq h0 hO hP hN fu lf hl0 hl1 v hr x A lb c hb hc hlb hs hp ht h e2
        · exact done_2 hq h0 hO hP hN fu lf hl0 hl1 v hr x A lb c hb hc hlb hs hp ht h e2
        · exact done_3 hq h0 hO hP hN fu lf hl0 hl1 v hr x A lb c hb hc hlb hs hp ht h e2
        · exact done_4 hq h0 hO hP hN fu lf hl0 hl1 v hr x A lb c hb hc hlb hs hp ht h e2
        · exact done_5 hq h0 hO hP hN fu lf hl0 hl1 v hr x A lb c hb hc hlb hs hp ht h e2
        · exact done_6 hq h0 hO hP hN fu lf hl0 hl1 v hr x A lb c hb hc hlb hs hp ht h e2
        · exact done_7 hq h0 hO hP hN fu lf hl0 hl1 v hr x A lb c hb hc hlb hs hp ht h e2
        · exact done_8 hq h0 hO hP hN fu lf hl0 hl1 v hr x A lb c hb hc hlb hs hp ht h e2
        · exact done_9 hq h0 hO hP hN fu lf hl0 hl1 v hr x A lb c hb hc hlb hs hp ht h e2
        · exact done_10 hq h0 hO hP hN fu lf hl0 hl1 v hr x A lb c hb hc hlb hs hp ht h e2
        · exact done_11 hq h0 hO hP hN fu lf hl0 hl1 v hr x A lb c hb hc hlb hs hp ht h e2
        · exact done_12 hq h0 hO hP hN fu lf hl0 hl1 v hr x A lb c hb hc hlb hs hp ht h e2
        · exact done_13 hq h0 hO hP hN fu lf hl0 hl1 v hr x A lb c hb hc hlb hs hp ht h e2
        · exact done_14 hq h0 hO hP hN fu lf hl0 hl1 v hr x A lb c hb hc hlb hs hp ht h e2
    · simp only [h2, false_and, if_false]
      exact done_crash hq h0 hO hP hN fu lf hl0 hl1 v hr x A lb c hb hc hlb hs hp ht (by omega) h1
end Go.Proofs.YteidkmiladkoiaaGreatDoor
