/-
  Are labels few, and short?
-/
import Derived.Test.YtbgnmojdkhlbaaaDoorLbRefUnm
namespace Go.Proofs.YtbgnmojdkhlbaaaDoor
open Go.RowKit

structure FewP (l : List Lb) : Prop where
  len : l.length ≤ 12
  all : ∀ x ∈ l, x.1.size ≤ 50 ∧ x.2.size ≤ 50
def FewTo (l : List Lb) (k : Nat) : Prop := ∀ j (h : j < l.length), j < k → l[j].1.size ≤ 50 ∧ l[j].2.size ≤ 50
def FewOut (w : World) (ls : List Lb) (e : Ending) (w' : World) : Prop := ∃ b : Bool, (b = true → FewP ls) ∧ e = .returned (.bool b) ∧ w = w'
theorem FewOut.no {w : World} {ls : List Lb} : FewOut w ls (.returned (.bool false)) w := ⟨false, fun h => absurd h (by simp), rfl, rfl⟩

set_option maxRecDepth 100000 in
set_option maxHeartbeats 800000 in
theorem few_any (A : Option Addr) (n c : Nat) (ls : List Lb) (hn : ls.length = n) (w : World) (hS : Sees w w.heap.size A (lv ls)) :
    Calls Tryd.prog 10 #[.slice A n c] w (FewOut w ls) := by
  by_cases h12 : n ≤ 12
  · have i12 : (n : Int) ≤ 12 := by omega
    have hlen : n ≤ 1099511627776 := by omega
    have HN := Lib.hid hn
    clear hn
    go_enter Tryd.func10, Tryd.ntmps10
    go_wp2
    go_loopg [3] n (fun g i wr => ∃ k : Nat, k + g = n ∧ i = .int .i64 k ∧ FewTo ls k ∧ wr = w)
    case atStart => exact ⟨0, by omega, rfl, fun j _ h => absurd h (by omega), rfl⟩
    case round =>
      obtain ⟨k, hk, rfl, hfew, rfl⟩ := hrel
      by_cases hlt : k < n
      · have hkl : k < ls.length := by have := HN.out; omega
        obtain ⟨ad, rfl, hadB, hc0, hc1⟩ := hS.lb (k := k) hkl
        obtain ⟨x, hx⟩ : ∃ x, ls[k] = x := ⟨_, rfl⟩
        have HX := Lib.hid hx
        rw [hx] at hc0 hc1
        clear hx
        by_cases s1 : x.1.size ≤ 50
        · have s1' : (x.1.size : Int) ≤ 50 := by omega
          by_cases s2 : x.2.size ≤ 50
          · have s2' : (x.2.size : Int) ≤ 50 := by omega
            go_wp2
            go_roundg (n - (k + 1))
            case measure => omega
            case rel =>
              refine ⟨k + 1, by omega, by go_num, fun j hj hjk => ?_, rfl⟩
              by_cases e : j = k
              · subst e; rw [HX.out]; exact ⟨s1, s2⟩
              · exact hfew j hj (by omega)
          · have s2' : (50 : Int) < (x.2.size : Int) := by omega
            go_wp2
            go_ret
            exact FewOut.no
        · have s1' : (50 : Int) < (x.1.size : Int) := by omega
          go_wp2
          go_ret
          exact FewOut.no
      · have hkn : k = n := by omega
        have HF : Hid (FewP ls) := ⟨by rw [HN.out]; exact h12, fun x hx => by obtain ⟨j, hj, e⟩ := List.mem_iff_getElem.1 hx; rw [← e]; exact hfew j hj (by have := HN.out; omega)⟩
        clear HN
        subst hkn
        go_wp2
        go_ret
        exact ⟨true, fun _ => HF.out, rfl, rfl⟩
  · have i12 : (12 : Int) < (n : Int) := by omega
    clear hn
    go_enter Tryd.func10, Tryd.ntmps10
    go_wp2
    go_ret
    exact FewOut.no
end Go.Proofs.YtbgnmojdkhlbaaaDoor
