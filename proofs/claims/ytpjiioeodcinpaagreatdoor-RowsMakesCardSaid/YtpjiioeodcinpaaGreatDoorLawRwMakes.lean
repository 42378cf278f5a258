/-
  The law RowsMakes, walked.
-/
import Derived.Test.YtpjiioeodcinpaaGreatDoorRwAwake
import Derived.Test.YtpjiioeodcinpaaGreatDoorRwMk
import Derived.Test.YtpjiioeodcinpaaGreatDoorRwFew
namespace Go.Proofs.YtpjiioeodcinpaaGreatDoor
open Go.RowKit

set_option maxRecDepth 100000 in
set_option maxHeartbeats 3200000 in
theorem RowsMakes_any (A : Option Addr) (n c : Nat) (ls : List Lb) (hn : ls.length = n) (k d i : Int) (x1 x2 : ByteArray) (w : World) (hS : Sees w w.heap.size A (lv ls)) :
    Calls Tryz.prog 3 #[.agg #[.int .i64 k, .slice A n c, .string x1, .string x2, .int .i64 d, .int .i64 i]] w (Gives w (.bool true)) := by
  obtain ⟨W1, hW1⟩ : ∃ W1, w.alloc (.cells #[.int .i64 k, .slice A n c, .string x1, .string x2, .int .i64 d, .int .i64 i] 26) = W1 := ⟨_, rfl⟩
  have hb1 : Below w.heap.size w W1 := hW1 ▸ KI_new w _
  have six : SixAt W1 w.heap.size (.int .i64 k) (.slice A n c) (.string x1) (.string x2) (.int .i64 d) (.int .i64 i) := hW1 ▸ SixAt.new w _ _ _ _ _ _ _
  have hs1 : w.heap.size < W1.heap.size := by rw [← hW1]; simp
  have HX := Lib.hid six
  have HN := Lib.hid hn
  have hA := Lib.hid (awake_any W1)
  clear hn six
  go_enter Tryz.func3, Tryz.ntmps3
  go_wp2_with fail
  refine hA.out.mono ?_
  rintro en w2 ⟨rfl, hb2⟩
  have b2 : Below w.heap.size w w2 := hb1.trans (hb2.mono hb1.size)
  have hF := Lib.hid (few_any A n c ls HN.out x1 x2 w2 ((hS.below b2).more b2.size))
  obtain ⟨m0, m1, m2, m3, m4, m5, -⟩ := HX.out.below hb2 hs1
  clear hA hW1
  go_wp2_with fail
  refine hF.out.mono ?_
  rintro en w3 ⟨bf, hfew, rfl, hb3'⟩
  have hb3 : Below W1.heap.size W1 w3 := hb2.trans (hb3'.mono hb2.size)
  have b3 : Below w.heap.size w w3 := hb1.trans (hb3.mono hb1.size)
  clear m0 m1 m2 m3 m4 m5
  obtain ⟨m0, m1, m2, m3, m4, m5, -⟩ := HX.out.below hb3 hs1
  clear hF
  cases bf with
  | false =>
    go_wp2
    go_ret
    exact ⟨rfl, b3⟩
  | true =>
  have HFA := Lib.hid (hfew rfl)
  clear hfew
  have hM := Lib.hid ((Make_any A n c ls HN.out k d i x1 x2 w3 ((hS.below b3).more b3.size) (HN.out ▸ HFA.out.sz.2.2) HFA.out.sz.1 HFA.out.sz.2.1).mono fun _ _ h => h.same)
  go_wp2_with fail
  refine hM.out.mono ?_
  rintro en w4 ⟨A4, n4, c4, rfl, hb4', hl4, -, hs4⟩
  have hb4 : Below W1.heap.size W1 w4 := hb3.trans (hb4'.mono hb3.size)
  have b4 : Below w.heap.size w w4 := hb1.trans (hb4.mono hb1.size)
  clear m0 m1 m2 m3 m4 m5
  obtain ⟨m0, m1, m2, m3, m4, m5, -⟩ := HX.out.below hb4 hs1
  clear hM
  have hP := Lib.hid (plain_any A n c k d i x1 x2 w4)
  go_wp2_with fail
  refine hP.out.mono ?_
  rintro en w5 ⟨rfl, hb5'⟩
  have hb5 : Below W1.heap.size W1 w5 := hb4.trans (hb5'.mono hb4.size)
  have b5 : Below w.heap.size w w5 := hb1.trans (hb5.mono hb1.size)
  clear m0 m1 m2 m3 m4 m5
  obtain ⟨m0, m1, m2, m3, m4, m5, -⟩ := HX.out.below hb5 hs1
  clear hP
  have hM := Lib.hid ((RefMakeR_any A n c ls HN.out k d i x1 x2 w5 ((hS.below b5).more b5.size) (HN.out ▸ HFA.out.sz.2.2) HFA.out.sz.1 HFA.out.sz.2.1).mono fun _ _ h => h.same)
  go_wp2_with fail
  refine hM.out.mono ?_
  rintro en w6 ⟨A6, n6, c6, rfl, hb6', hl6, -, hs6⟩
  have hb6 : Below W1.heap.size W1 w6 := hb5.trans (hb6'.mono hb5.size)
  have b6 : Below w.heap.size w w6 := hb1.trans (hb6.mono hb1.size)
  clear m0 m1 m2 m3 m4 m5
  obtain ⟨m0, m1, m2, m3, m4, m5, -⟩ := HX.out.below hb6 hs1
  clear hM
  have hM := Lib.hid ((Ahead_any A n c ls HN.out k d i x1 x2 w6 ((hS.below b6).more b6.size) (HN.out ▸ HFA.out.sz.2.2) HFA.out.sz.1 HFA.out.sz.2.1).mono fun _ _ h => h.same)
  go_wp2_with fail
  refine hM.out.mono ?_
  rintro en w7 ⟨A7, n7, c7, rfl, hb7', hl7, -, hs7⟩
  have hb7 : Below W1.heap.size W1 w7 := hb6.trans (hb7'.mono hb6.size)
  have b7 : Below w.heap.size w w7 := hb1.trans (hb7.mono hb1.size)
  clear m0 m1 m2 m3 m4 m5
  obtain ⟨m0, m1, m2, m3, m4, m5, -⟩ := HX.out.below hb7 hs1
  clear hM
  have hP := Lib.hid (plain_any A n c k d i x1 x2 w7)
  go_wp2_with fail
  refine hP.out.mono ?_
  rintro en w8 ⟨rfl, hb8'⟩
  have hb8 : Below W1.heap.size W1 w8 := hb7.trans (hb8'.mono hb7.size)
  have b8 : Below w.heap.size w w8 := hb1.trans (hb8.mono hb1.size)
  clear m0 m1 m2 m3 m4 m5
  obtain ⟨m0, m1, m2, m3, m4, m5, -⟩ := HX.out.below hb8 hs1
  clear hP
  have hM := Lib.hid ((RefAhead_any A n c ls HN.out k d i x1 x2 w8 ((hS.below b8).more b8.size) (HN.out ▸ HFA.out.sz.2.2) HFA.out.sz.1 HFA.out.sz.2.1).mono fun _ _ h => h.same)
  go_wp2_with fail
  refine hM.out.mono ?_
  rintro en w9 ⟨A9, n9, c9, rfl, hb9', hl9, -, hs9⟩
  have hb9 : Below W1.heap.size W1 w9 := hb8.trans (hb9'.mono hb8.size)
  have b9 : Below w.heap.size w w9 := hb1.trans (hb9.mono hb1.size)
  clear m0 m1 m2 m3 m4 m5
  obtain ⟨m0, m1, m2, m3, m4, m5, -⟩ := HX.out.below hb9 hs1
  clear hM
  have k4 := (((((hs4.below hb5').more hb5'.size).below hb6').more hb6'.size).below hb7').more hb7'.size
  have k4' := (((k4.below hb8').more hb8'.size).below hb9').more hb9'.size
  have k6 := (((((hs6.below hb7').more hb7'.size).below hb8').more hb8'.size).below hb9').more hb9'.size
  have k7 := (((hs7.below hb8').more hb8'.size).below hb9').more hb9'.size
  have cv1 := run_str w9 _ A4 n4 c4 _ k4' hl4
  have cv2 := run_str w9 _ A6 n6 c6 _ k6 hl6
  have cv3 := run_str w9 _ A7 n7 c7 _ k7 hl7
  have cv4 := run_str w9 _ A9 n9 c9 _ hs9 hl9
  clear k4 k4' k6 k7 hs4 hs6 hs7 hs9 hl4 hl6 hl7 hl9
  generalize strOf (mkB ⟨k, ls, (x1, x2), d, i⟩) = s1 at cv1 cv2
  generalize strOf (ahB ⟨k, ls, (x1, x2), d, i⟩) = s2 at cv3 cv4
  generalize mkE ⟨k, ls, (x1, x2), d, i⟩ = e1
  generalize ahE ⟨k, ls, (x1, x2), d, i⟩ = e2
  go_wp2_with fail
  go_ret
  exact ⟨by simp, b9⟩
end Go.Proofs.YtpjiioeodcinpaaGreatDoor
