/-
  Which of two texts is ahead; of two labels; of two rows of labels.
-/
import Derived.Test.YtbgnmojdkhlbaaaDoorLbBase
namespace Go.Proofs.YtbgnmojdkhlbaaaDoor
open Go.RowKit

/-- Which of two texts is ahead. -/
def cmpB (x y : ByteArray) : Int := if Op.bytesLess x.toList y.toList = true then -1 else if (x.toList == y.toList) = true then 0 else 1
theorem cmpB_lt {x y : ByteArray} (h : Op.bytesLess x.toList y.toList = true) : cmpB x y = -1 := if_pos h
theorem cmpB_eq {x y : ByteArray} (h : Op.bytesLess x.toList y.toList = false) (h2 : (x.toList == y.toList) = true) : cmpB x y = 0 := by
  unfold cmpB; rw [h, if_neg (by simp), if_pos h2]
theorem cmpB_gt {x y : ByteArray} (h : Op.bytesLess x.toList y.toList = false) (h2 : (x.toList == y.toList) = false) : cmpB x y = 1 := by
  unfold cmpB; rw [h, if_neg (by simp), h2, if_neg (by simp)]
theorem ret_i {a b : Int} {w : World} (h : b = a) : Ending.returned (.int .i64 a) = .returned (.int .i64 b) ∧ w = w := by rw [h]; exact ⟨rfl, rfl⟩
/-- A number, nothing else. -/
def IntOf (w : World) (i : Int) (e : Ending) (w' : World) : Prop := e = .returned (.int .i64 i) ∧ w = w'

set_option maxRecDepth 100000 in
set_option maxHeartbeats 400000 in
theorem texts_any (x y : ByteArray) (w : World) :
    Calls Tryd.prog 39 #[.string x, .string y] w (IntOf w (cmpB x y)) := by
  rcases hb : Op.bytesLess x.toList y.toList with _ | _
  · rcases he : (x.toList == y.toList) with _ | _
    · rw [cmpB_gt hb he]
      have hn : (!(x.toList == y.toList)) = true := by rw [he]; rfl
      clear he
      go_enter Tryd.func39, Tryd.ntmps39
      go_wp2
      go_ret
      exact ⟨rfl, rfl⟩
    · rw [cmpB_eq hb he]
      have hn : (!(x.toList == y.toList)) = false := by rw [he]; rfl
      clear he
      go_enter Tryd.func39, Tryd.ntmps39
      go_wp2
      go_ret
      exact ⟨rfl, rfl⟩
  · rw [cmpB_lt hb]
    go_enter Tryd.func39, Tryd.ntmps39
    go_wp2
    go_ret
    exact ⟨rfl, rfl⟩

set_option maxRecDepth 100000 in
set_option maxHeartbeats 400000 in
theorem isNaN_any (x : ByteArray) (w : World) :
    Calls Tryd.prog 46 #[.string x] w fun e w' => e = .returned (.bool false) ∧ w = w' := by
  go_enter Tryd.func46, Tryd.ntmps46
  go_wp2
  go_ret
  exact ⟨by simp, rfl⟩

set_option maxRecDepth 100000 in
set_option maxHeartbeats 400000 in
theorem cmpCompare_any (x y : ByteArray) (w : World) :
    Calls Tryd.prog 31 #[.string x, .string y] w (IntOf w (cmpB x y)) := by
  have hx := isNaN_any x w
  have hy := isNaN_any y w
  rcases hb : Op.bytesLess x.toList y.toList with _ | _
  · rcases he : (x.toList == y.toList) with _ | _
    · rw [cmpB_gt hb he]
      have hn : (!(x.toList == y.toList)) = true := by rw [he]; rfl
      clear he
      go_enter Tryd.func31, Tryd.ntmps31
      go_wp2_with fail
      refine hx.mono ?_
      rintro e w1 ⟨rfl, rfl⟩
      go_wp2_with fail
      refine hy.mono ?_
      rintro e w1 ⟨rfl, rfl⟩
      go_wp2
      go_ret
      exact ⟨rfl, rfl⟩
    · rw [cmpB_eq hb he]
      have hn : (!(x.toList == y.toList)) = false := by rw [he]; rfl
      clear he
      go_enter Tryd.func31, Tryd.ntmps31
      go_wp2_with fail
      refine hx.mono ?_
      rintro e w1 ⟨rfl, rfl⟩
      go_wp2_with fail
      refine hy.mono ?_
      rintro e w1 ⟨rfl, rfl⟩
      go_wp2
      go_ret
      exact ⟨rfl, rfl⟩
  · rw [cmpB_lt hb]
    go_enter Tryd.func31, Tryd.ntmps31
    go_wp2_with fail
    refine hx.mono ?_
    rintro e w1 ⟨rfl, rfl⟩
    go_wp2_with fail
    refine hy.mono ?_
    rintro e w1 ⟨rfl, rfl⟩
    go_wp2
    go_ret
    exact ⟨rfl, rfl⟩

/-- The first of two numbers that isn't zero. -/
def or2 (i j : Int) : Int := if i = 0 then j else i

set_option maxRecDepth 100000 in
set_option maxHeartbeats 400000 in
theorem or_any (ad : Addr) (i j : Int) (w : World) (h0 : w.cell? ad = some (.int .i64 i)) (h1 : w.cell? ⟨ad.block, ad.off + 1, none⟩ = some (.int .i64 j)) :
    Calls Tryd.prog 38 #[.slice (some ad) 2 2] w (IntOf w (or2 i j)) := by
  by_cases e : i = 0
  · have hr : or2 i j = j := if_pos e
    rw [hr]
    subst e
    clear hr
    go_enter Tryd.func38, Tryd.ntmps38
    go_wp2
    by_cases e2 : j = 0
    · subst e2
      go_loopg [8] 2 (fun g o wr => ∃ k : Nat, k + g = 2 ∧ o = .int .i64 k ∧ wr = w)
      case atStart => exact ⟨0, rfl, rfl, rfl⟩
      case round =>
        obtain ⟨k, hk, rfl, rfl⟩ := hrel
        have hk3 : k = 0 ∨ k = 1 ∨ k = 2 := by omega
        rcases hk3 with rfl | rfl | rfl
        · go_wp2
          go_roundg 1
          case measure => omega
          case rel => exact ⟨1, rfl, rfl, rfl⟩
        · go_wp2
          go_roundg 0
          case measure => omega
          case rel => exact ⟨2, rfl, rfl, rfl⟩
        · go_wp2
          go_ret
          exact ⟨rfl, rfl⟩
    · have hj : (j != 0) = true := by rw [bne_iff_ne]; exact e2
      go_loopg [8] 2 (fun g o wr => ∃ k : Nat, k + g = 2 ∧ k ≤ 1 ∧ o = .int .i64 k ∧ wr = w)
      case atStart => exact ⟨0, rfl, by omega, rfl, rfl⟩
      case round =>
        obtain ⟨k, hk, hk1, rfl, rfl⟩ := hrel
        have hk3 : k = 0 ∨ k = 1 := by omega
        rcases hk3 with rfl | rfl
        · go_wp2
          go_roundg 1
          case measure => omega
          case rel => exact ⟨1, rfl, by omega, rfl, rfl⟩
        · go_wp2
          go_ret
          exact ⟨rfl, rfl⟩
  · have hr : or2 i j = i := if_neg e
    rw [hr]
    have hj : (i != 0) = true := by rw [bne_iff_ne]; exact e
    clear hr
    go_enter Tryd.func38, Tryd.ntmps38
    go_wp2
    go_loop [8] (fun o => o = .int .i64 0) (fun _ => 0)
    case atStart => rfl
    case round =>
      subst hrel
      go_wp2
      go_ret
      exact ⟨rfl, rfl⟩
end Go.Proofs.YtbgnmojdkhlbaaaDoor
