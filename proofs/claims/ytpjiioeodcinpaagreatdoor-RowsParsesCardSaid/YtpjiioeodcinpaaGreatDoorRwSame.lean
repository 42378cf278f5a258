/-
  The document's Same of rows, walked where they are the same.
-/
import Derived.Test.YtpjiioeodcinpaaGreatDoorRwBox
import Derived.Test.YtpjiioeodcinpaaGreatDoorLbB
namespace Go.Proofs.YtpjiioeodcinpaaGreatDoor
open Go.RowKit

set_option maxRecDepth 100000 in
set_option maxHeartbeats 1600000 in
theorem RefSameR_true (A A' : Option Addr) (n c c' : Nat) (ls : List Lb) (hn : ls.length = n) (k d i : Int) (x1 x2 : ByteArray) (w : World) (hS : Sees w w.heap.size A (lv ls)) (hT : Sees w w.heap.size A' (lv ls)) (hlen : n ≤ 1099511627776) :
    Calls Tryz.prog 18 #[.agg #[.int .i64 k, .slice A n c, .string x1, .string x2, .int .i64 d, .int .i64 i], .agg #[.int .i64 k, .slice A' n c', .string x1, .string x2, .int .i64 d, .int .i64 i]] w (Gives w (.bool true)) := by
  obtain ⟨W1, hW1⟩ : ∃ W1, w.alloc (.cells #[.int .i64 k, .slice A n c, .string x1, .string x2, .int .i64 d, .int .i64 i] 34) = W1 := ⟨_, rfl⟩
  obtain ⟨W2, hW2⟩ : ∃ W2, W1.alloc (.cells #[.int .i64 k, .slice A' n c', .string x1, .string x2, .int .i64 d, .int .i64 i] 34) = W2 := ⟨_, rfl⟩
  have hb1 : Below w.heap.size w W1 := hW1 ▸ KI_new w _
  have hb2 : Below W1.heap.size W1 W2 := hW2 ▸ KI_new W1 _
  have hs1 : w.heap.size < W1.heap.size := by rw [← hW1]; simp
  have hb02 := hb1.trans (hb2.mono hb1.size)
  have sixa : SixAt W2 w.heap.size (.int .i64 k) (.slice A n c) (.string x1) (.string x2) (.int .i64 d) (.int .i64 i) := (hW1 ▸ SixAt.new w _ _ _ _ _ _ _ : SixAt W1 w.heap.size _ _ _ _ _ _).below hb2 hs1
  have sixb : SixAt W2 W1.heap.size (.int .i64 k) (.slice A' n c') (.string x1) (.string x2) (.int .i64 d) (.int .i64 i) := hW2 ▸ SixAt.new W1 _ _ _ _ _ _ _
  have hSm := Lib.hid (SameL_any A A' n c n c' ls ls hn hn W2 ((hS.below hb02).more hb02.size) ((hT.below hb02).more hb02.size) hlen hlen)
  rw [sameLs_self] at hSm
  obtain ⟨c0, c1, c2, c3, c4, c5, -⟩ := sixa
  obtain ⟨e0, e1, e2, e3, e4, e5, -⟩ := sixb
  clear hn hb1 hb2
  go_enter Tryz.func18, Tryz.ntmps18
  go_wp2_with fail
  refine hSm.out.mono ?_
  rintro en w3 ⟨rfl, q, rfl⟩
  go_wp2_with fail
  go_ret
  exact ⟨by simp, below_d hb02 q⟩
end Go.Proofs.YtpjiioeodcinpaaGreatDoor
