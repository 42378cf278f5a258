/-
  Are labels few, and short? A row, as the document has it.
-/
import Derived.Test.YtpjiioeodcinpaaGreatDoorRwBox
namespace Go.Proofs.YtpjiioeodcinpaaGreatDoor
open Go.RowKit

structure FewP (l : List Lb) (x1 x2 : ByteArray) : Prop where
  len : l.length ≤ 10
  x1 : x1.size ≤ 50
  x2 : x2.size ≤ 50
  all : ∀ x ∈ l, x.1.size ≤ 50 ∧ x.2.size ≤ 50
def FewTo (l : List Lb) (k : Nat) : Prop := ∀ j (h : j < l.length), j < k → l[j].1.size ≤ 50 ∧ l[j].2.size ≤ 50
def FewOut (w : World) (ls : List Lb) (x1 x2 : ByteArray) (e : Ending) (w' : World) : Prop := ∃ b : Bool, (b = true → FewP ls x1 x2) ∧ e = .returned (.bool b) ∧ Below w.heap.size w w'
theorem FewOut.no {w w' : World} {ls : List Lb} {x1 x2 : ByteArray} (hb : Below w.heap.size w w') : FewOut w ls x1 x2 (.returned (.bool false)) w' := ⟨false, fun h => absurd h (by simp), rfl, hb⟩
theorem FewP.sz {l : List Lb} {x1 x2 : ByteArray} (h : FewP l x1 x2) : (∀ x ∈ l, x.1.size ≤ 9223372036854775807) ∧ x1.size ≤ 9223372036854775807 ∧ l.length ≤ 1099511627776 :=
  ⟨fun x hx => by have := (h.all x hx).1; omega, by have := h.x1; omega, by have := h.len; omega⟩

set_option maxRecDepth 100000 in
set_option maxHeartbeats 1600000 in
theorem few_any (A : Option Addr) (n c : Nat) (ls : List Lb) (hn : ls.length = n) (x1 x2 : ByteArray) (w : World) (hS : Sees w w.heap.size A (lv ls)) :
    Calls Tryz.prog 10 #[.slice A n c, .agg #[.string x1, .string x2]] w (FewOut w ls x1 x2) := by
  obtain ⟨W1, hW1⟩ : ∃ W1, w.alloc (.cells #[.string x1, .string x2] 24) = W1 := ⟨_, rfl⟩
  have hb1 : Below w.heap.size w W1 := hW1 ▸ KI_new w _
  have f0 : W1.cell? ⟨w.heap.size, 0, none⟩ = some (.string x1) := by rw [← hW1, World.cell?_alloc_at _ _ _ _ rfl]; rfl
  have f1 : W1.cell? ⟨w.heap.size, 1, none⟩ = some (.string x2) := by rw [← hW1, World.cell?_alloc_at _ _ _ _ rfl]; rfl
  by_cases h12 : n ≤ 10
  rotate_left
  · have i12 : (10 : Int) < (n : Int) := by omega
    clear hn
    go_enter Tryz.func10, Tryz.ntmps10
    go_wp2
    go_ret
    exact FewOut.no hb1
  have i12 : (n : Int) ≤ 10 := by omega
  by_cases t1 : x1.size ≤ 50
  rotate_left
  · have t1' : (50 : Int) < (x1.size : Int) := by omega
    clear hn
    go_enter Tryz.func10, Tryz.ntmps10
    go_wp2
    go_ret
    exact FewOut.no hb1
  have t1' : (x1.size : Int) ≤ 50 := by omega
  by_cases t2 : x2.size ≤ 50
  rotate_left
  · have t2' : (50 : Int) < (x2.size : Int) := by omega
    clear hn
    go_enter Tryz.func10, Tryz.ntmps10
    go_wp2
    go_ret
    exact FewOut.no hb1
  have t2' : (x2.size : Int) ≤ 50 := by omega
  have hlen : n ≤ 1099511627776 := by omega
  have HN := Lib.hid hn
  have hS1 := (hS.below hb1).more hb1.size
  clear hn
  go_enter Tryz.func10, Tryz.ntmps10
  go_wp2
  go_loopg [5] n (fun g i wr => ∃ k : Nat, k + g = n ∧ i = .int .i64 k ∧ FewTo ls k ∧ wr = W1)
  case atStart => exact ⟨0, by omega, rfl, fun j _ h => absurd h (by omega), rfl⟩
  case round =>
    obtain ⟨k, hk, rfl, hfew, rfl⟩ := hrel
    by_cases hlt : k < n
    · have hkl : k < ls.length := by have := HN.out; omega
      obtain ⟨ad, rfl, hadB, hc0, hc1⟩ := hS1.lb (k := k) hkl
      obtain ⟨x, hx⟩ : ∃ x, ls[k] = x := ⟨_, rfl⟩
      have HX := Lib.hid hx
      rw [hx] at hc0 hc1
      clear hx
      by_cases s1 : x.1.size ≤ 50
      · have s1' : (x.1.size : Int) ≤ 50 := by omega
        by_cases s2 : x.2.size ≤ 50
        · have s2' : (x.2.size : Int) ≤ 50 := by omega
          go_wp2
          go_roundg (n - (k + 1))
          case measure => omega
          case rel =>
            refine ⟨k + 1, by omega, by go_num, fun j hj hjk => ?_, rfl⟩
            by_cases e : j = k
            · subst e; rw [HX.out]; exact ⟨s1, s2⟩
            · exact hfew j hj (by omega)
        · have s2' : (50 : Int) < (x.2.size : Int) := by omega
          go_wp2
          go_ret
          exact FewOut.no hb1
      · have s1' : (50 : Int) < (x.1.size : Int) := by omega
        go_wp2
        go_ret
        exact FewOut.no hb1
    · have HF : Hid (FewP ls x1 x2) := ⟨by rw [HN.out]; exact h12, t1, t2, fun x hx => by obtain ⟨j, hj, e⟩ := List.mem_iff_getElem.1 hx; rw [← e]; exact hfew j hj (by have := HN.out; omega)⟩
      clear HN
      go_wp2
      go_ret
      exact ⟨true, fun _ => HF.out, rfl, hb1⟩

set_option maxRecDepth 100000 in
set_option maxHeartbeats 1600000 in
theorem plain_any (A : Option Addr) (n c : Nat) (k d i : Int) (x1 x2 : ByteArray) (w : World) :
    Calls Tryz.prog 13 #[.agg #[.int .i64 k, .slice A n c, .string x1, .string x2, .int .i64 d, .int .i64 i]] w (Gives w (.agg #[.int .i64 k, .slice A n c, .string x1, .string x2, .int .i64 d, .int .i64 i])) := by
  obtain ⟨W1, hW1⟩ : ∃ W1, w.alloc (.cells #[.int .i64 k, .slice A n c, .string x1, .string x2, .int .i64 d, .int .i64 i] 26) = W1 := ⟨_, rfl⟩
  obtain ⟨W2, hW2⟩ : ∃ W2, W1.alloc (.cells #[.int .i64 0, .slice none 0 0, .string ⟨#[]⟩, .string ⟨#[]⟩, .int .i64 0, .int .i64 0] 34) = W2 := ⟨_, rfl⟩
  have hb1 : Below w.heap.size w W1 := hW1 ▸ KI_new w _
  have hb2 : Below W1.heap.size W1 W2 := hW2 ▸ KI_new W1 _
  have hs1 : w.heap.size < W1.heap.size := by rw [← hW1]; simp
  have six : SixAt W2 w.heap.size (.int .i64 k) (.slice A n c) (.string x1) (.string x2) (.int .i64 d) (.int .i64 i) := (hW1 ▸ SixAt.new w _ _ _ _ _ _ _ : SixAt W1 w.heap.size _ _ _ _ _ _).below hb2 hs1
  have six2 : SixAt W2 W1.heap.size (.int .i64 0) (.slice none 0 0) (.string ⟨#[]⟩) (.string ⟨#[]⟩) (.int .i64 0) (.int .i64 0) := hW2 ▸ SixAt.new W1 _ _ _ _ _ _ _
  obtain ⟨WF, hWF, z, hbF, -⟩ := six2.store (B := w.heap.size) (by omega) (.int .i64 k) (.slice A n c) (.string x1) (.string x2) (.int .i64 d) (.int .i64 i)
  have hbw : Below w.heap.size w WF := hb1.trans ((hb2.mono hb1.size).trans hbF)
  have HWF := Lib.hid hWF
  have HZ := Lib.hid z
  obtain ⟨c0, c1, c2, c3, c4, c5, -⟩ := six
  obtain ⟨e0, e1, e2, e3, e4, e5, f0, f1, f2, f3, f4, f5⟩ := six2
  clear hWF z hbF hb1 hb2
  go_enter Tryz.func13, Tryz.ntmps13
  go_wp2
  rw [HWF.out]
  obtain ⟨z0, z1, z2, z3, z4, z5, -⟩ := HZ.out
  exact bodyPost_ret (v := .agg #[.int .i64 k, .slice A n c, .string x1, .string x2, .int .i64 d, .int .i64 i]) (by simp [results, Tryz.results13, go_sem, z0, z1, z2, z3, z4, z5]) rfl ⟨rfl, hbw⟩
end Go.Proofs.YtpjiioeodcinpaaGreatDoor
