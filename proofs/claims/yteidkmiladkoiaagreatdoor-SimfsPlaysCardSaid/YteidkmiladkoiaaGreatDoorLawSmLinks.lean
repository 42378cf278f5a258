/-
  The law SimfsLinks, walked.
-/
import Derived.Test.YteidkmiladkoiaaGreatDoorSmBehind
namespace Go.Proofs.YteidkmiladkoiaaGreatDoor
open Go.RowKit

/-- A row of acts in a later world. -/
theorem ActsF.below {w W : World} {A : Option Addr} {ls : List ActF} (h : ActsF (fun k => k < w.heap.size) w A ls) (hb : Below w.heap.size w W) : ActsF (fun k => k < W.heap.size) W A ls := ⟨fun i hi => by
  obtain ⟨ad, Ai, ci, e, hm, g0, g1, g2, g3, g4, g5, hle, hS⟩ := h.out i hi
  have hbl : (ad.add (i * 6)).block < w.heap.size := by rw [add_block]; exact hm
  exact ⟨ad, Ai, ci, e, Nat.lt_of_lt_of_le hm hb.size, (hb.cell (p := ad.add (i * 6)) hbl).trans g0, (hb.cell (p := ⟨_, _, none⟩) hbl).trans g1, (hb.cell (p := ⟨_, _, none⟩) hbl).trans g2, (hb.cell (p := ⟨_, _, none⟩) hbl).trans g3, (hb.cell (p := ⟨_, _, none⟩) hbl).trans g4, (hb.cell (p := ⟨_, _, none⟩) hbl).trans g5, hle, (hS.keep (Kept.of_below hb fun k e => e)).mono fun k e => Nat.lt_of_lt_of_le e hb.size⟩⟩

set_option maxRecDepth 100000 in
set_option maxHeartbeats 3200000 in
theorem SimfsLinks_any (A0 : Option Addr) (n0 c0 : Nat) (ls : List ActF) (h0 : ls.length = n0) (A1 : Option Addr) (n1 c1 : Nat) (b : Txt) (h1 : b.length = n1) (hc1 : n1 ≤ c1) (A2 : Option Addr) (n2 c2 : Nat) (c : Txt) (h2 : c.length = n2) (hc2 : n2 ≤ c2)
    (w : World) (hS0 : ActsF (fun k => k < w.heap.size) w A0 ls) (hS1 : Sees w w.heap.size A1 (bv b)) (hS2 : Sees w w.heap.size A2 (bv c)) :
    Calls Tryz.prog 5 #[.slice A0 n0 c0, .slice A1 n1 c1, .slice A2 n2 c2] w (Gives w (.bool true)) := by
  have hA := Lib.hid (awake_any w)
  have HS0 := Lib.hid hS0
  have HS1 := Lib.hid hS1
  have HS2 := Lib.hid hS2
  clear hS0 hS1 hS2
  go_enter Tryz.func5, Tryz.ntmps5
  go_wp2_with fail
  refine hA.out.mono ?_
  rintro en w2 ⟨rfl, hb2⟩
  clear hA
  by_cases g1 : (200 : Int) < n1
  · go_wp2
    go_ret
    exact ⟨rfl, hb2⟩
  by_cases g2 : (200 : Int) < n2
  · go_wp2
    go_ret
    exact ⟨rfl, hb2⟩
  have hbeh := Lib.hid (behind_any A0 n0 c0 ls h0 w2 (HS0.out.below hb2))
  go_wp2_with fail
  refine hbeh.out.mono ?_
  rintro e w3 ⟨f, S, m3, rfl, hB, o3⟩
  have ZB_3 := Lib.hid (Hold.of_old ((HS1.out.below hb2).more hb2.size |>.below o3.below) o3.below.size o3.lt)
  have ZC_3 := Lib.hid (Hold.of_old ((HS2.out.below hb2).more hb2.size |>.below o3.below) o3.below.size o3.lt)
  have O3 := Lib.hid o3
  obtain ⟨S1, S2, S3, S4, S5, S6, S7, S8, q1, q2, q3, q4, q5, q6, q6e, q7, q8, ⟨oo1, oo2, oo3, oo4, oo5, oo6, oo7, oo8⟩, r6, r7, u6, u7, u8⟩ := links_chain hB (b := b) (c := c) (by omega) (by omega)
  have hU := used_le oo2
  obtain ⟨U, hU0⟩ : ∃ U, S2.used = U := ⟨_, rfl⟩
  obtain ⟨L, hL0⟩ : ∃ L, (b ++ c).length = L := ⟨_, rfl⟩
  have hLb : L = n1 + n2 := by rw [← hL0, List.length_append, h1, h2]
  rw [hU0] at hU u6 u8
  rw [hL0] at u6
  rw [u6] at u7
  have hUI : (U : Int) ≤ 314572800 := by omega
  have hLI : (L : Int) ≤ 400 := by omega
  obtain ⟨V, hV⟩ : ∃ V, U + L = V := ⟨_, rfl⟩
  rw [hV] at u6 u7
  have hVI : (V : Int) = (U : Int) + (L : Int) := by omega
  have Hq1 := Lib.hid q1
  have Hq2 := Lib.hid q2
  have Hq3 := Lib.hid q3
  have Hq4 := Lib.hid q4
  have Hq5 := Lib.hid q5
  have Hq6 := Lib.hid q6
  have Hq6e := Lib.hid q6e
  have Hq7 := Lib.hid q7
  have Hq8 := Lib.hid q8
  have Hoo1 := Lib.hid oo1
  have Hoo2 := Lib.hid oo2
  have Hoo3 := Lib.hid oo3
  have Hoo4 := Lib.hid oo4
  have Hoo5 := Lib.hid oo5
  have Hoo6 := Lib.hid oo6
  have Hoo7 := Lib.hid oo7
  have Hoo8 := Lib.hid oo8
  have Hr6 := Lib.hid r6
  have Hr7 := Lib.hid r7
  have Hu6 := Lib.hid u6
  have Hu7 := Lib.hid u7
  have Hu8 := Lib.hid u8
  have HhB := Lib.hid hB
  have HhU0 := Lib.hid hU0
  have HhL0 := Lib.hid hL0
  have Hh1 := Lib.hid h1
  have Hh2 := Lib.hid h2
  clear hbeh o3 q1 q2 q3 q4 q5 q6 q6e q7 q8 oo1 oo2 oo3 oo4 oo5 oo6 oo7 oo8 r6 r7 u6 u7 u8 hB hU0 hL0 h1 h2 hU hLb hV h0 HS0 HS1 HS2
  have k3 := remove_own O3.out HhB.out.ok (by omega) nmX
  rw [Hq1.out] at k3
  generalize ((S.go (·.remove nmX)).2 : Int) = E3 at k3
  have K3 := Lib.hid k3
  clear k3
  go_wp2_with fail
  refine K3.out.mono ?_
  rintro e w4 ⟨rfl, m4, o4, st4⟩
  have O4 := Lib.hid o4
  have ZB_4 := Lib.hid (ZB_3.out.step st4)
  have ZC_4 := Lib.hid (ZC_3.out.step st4)
  clear K3 o4 st4 O3 ZB_3 ZC_3
  have k4 := remove_own O4.out Hoo1.out (by omega) nmY
  rw [Hq2.out] at k4
  generalize ((S1.go (·.remove nmY)).2 : Int) = E4 at k4
  have K4 := Lib.hid k4
  clear k4
  go_wp2_with fail
  refine K4.out.mono ?_
  rintro e w5 ⟨rfl, m5, o5, st5⟩
  have O5 := Lib.hid o5
  have ZB_5 := Lib.hid (ZB_4.out.step st5)
  have ZC_5 := Lib.hid (ZC_4.out.step st5)
  clear K4 o5 st5 O4 ZB_4 ZC_4
  have k5 := used_own O5.out Hoo2.out (by omega)
  rw [HhU0.out] at k5
  have K5 := Lib.hid k5
  clear k5
  go_wp2_with fail
  refine K5.out.mono ?_
  rintro e w6 ⟨rfl, hb6⟩
  have O6 := Lib.hid (O5.out.newB hb6)
  have ZB_6 := Lib.hid (ZB_5.out.newB hb6)
  have ZC_6 := Lib.hid (ZC_5.out.newB hb6)
  clear K5 hb6 O5 ZB_5 ZC_5
  have k6 := create_own O6.out Hoo2.out (by omega) nmX (by simp [nmX])
  rw [Hq3.out] at k6
  have K6 := Lib.hid k6
  clear k6
  go_wp2_with fail
  refine K6.out.mono ?_
  rintro e w7 ⟨rfl, m7, o7, st7⟩
  have O7 := Lib.hid o7
  have ZB_7 := Lib.hid (ZB_6.out.step st7)
  have ZC_7 := Lib.hid (ZC_6.out.step st7)
  clear K6 o7 st7 O6 ZB_6 ZC_6
  have k7 := append_own O7.out Hoo3.out (by omega) nmX A1 n1 c1 b Hh1.out hc1 (by omega) ZB_7.out
  rw [Hq4.out] at k7
  have K7 := Lib.hid k7
  clear k7
  go_wp2_with fail
  refine K7.out.mono ?_
  rintro e w8 ⟨rfl, m8, o8, st8⟩
  have O8 := Lib.hid o8
  have ZB_8 := Lib.hid (ZB_7.out.step st8)
  have ZC_8 := Lib.hid (ZC_7.out.step st8)
  clear K7 o8 st8 O7 ZB_7 ZC_7
  have k8 := link_own O8.out Hoo4.out (by omega) nmX nmY (by simp [nmY])
  rw [Hq5.out] at k8
  have K8 := Lib.hid k8
  clear k8
  go_wp2_with fail
  refine K8.out.mono ?_
  rintro e w9 ⟨rfl, m9, o9, st9⟩
  have O9 := Lib.hid o9
  have ZB_9 := Lib.hid (ZB_8.out.step st9)
  have ZC_9 := Lib.hid (ZC_8.out.step st9)
  clear K8 o9 st9 O8 ZB_8 ZC_8
  have k9 := append_own O9.out Hoo5.out (by omega) nmY A2 n2 c2 c Hh2.out hc2 (by omega) ZC_9.out
  rw [Hq6.out] at k9
  have K9 := Lib.hid k9
  clear k9
  go_wp2_with fail
  refine K9.out.mono ?_
  rintro e w10 ⟨rfl, m10, o10, st10⟩
  have O10 := Lib.hid o10
  have ZB_10 := Lib.hid (ZB_9.out.step st10)
  have ZC_10 := Lib.hid (ZC_9.out.step st10)
  clear K9 o10 st10 O9 ZB_9 ZC_9
  have k10 := read_own O10.out Hoo6.out nmX
  rw [Hr6.out] at k10
  have K10 := Lib.hid k10
  clear k10
  go_wp2_with fail
  refine K10.out.mono ?_
  rintro e w11 ⟨v11, rfl, hown11, hb11⟩
  dsimp only at hown11
  obtain ⟨A11, c11, rfl, hc11, -, -, -⟩ := hown11.open_
  dsimp only at hc11 ⊢
  have ZP_11 := Lib.hid (Hold.of_new hown11 fun k e => (O10.out.lt k e).2)
  have O11 := Lib.hid (O10.out.newB hb11)
  have ZB_11 := Lib.hid (ZB_10.out.newB hb11)
  have ZC_11 := Lib.hid (ZC_10.out.newB hb11)
  clear K10 hb11 hown11 O10 ZB_10 ZC_10
  rw [HhL0.out] at hc11 ⊢
  have k11 := used_own O11.out Hoo6.out (by omega)
  rw [Hu6.out] at k11
  have K11 := Lib.hid k11
  clear k11
  go_wp2_with fail
  refine K11.out.mono ?_
  rintro e w12 ⟨rfl, hb12⟩
  have O12 := Lib.hid (O11.out.newB hb12)
  have ZB_12 := Lib.hid (ZB_11.out.newB hb12)
  have ZC_12 := Lib.hid (ZC_11.out.newB hb12)
  have ZP_12 := Lib.hid (ZP_11.out.newB hb12)
  clear K11 hb12 O11 ZB_11 ZC_11 ZP_11
  have k12 := link_own O12.out Hoo6.out (by omega) nmX nmY (by simp [nmY])
  rw [Hq6e.out] at k12
  have K12 := Lib.hid k12
  clear k12
  go_wp2_with fail
  refine K12.out.mono ?_
  rintro e w13 ⟨rfl, m13, o13, st13⟩
  have O13 := Lib.hid o13
  have ZB_13 := Lib.hid (ZB_12.out.step st13)
  have ZC_13 := Lib.hid (ZC_12.out.step st13)
  have ZP_13 := Lib.hid (ZP_12.out.step st13)
  clear K12 o13 st13 O12 ZB_12 ZC_12 ZP_12
  have k13 := remove_own O13.out Hoo6.out (by omega) nmX
  rw [Hq7.out] at k13
  generalize ((S6.go (·.remove nmX)).2 : Int) = E13 at k13
  have K13 := Lib.hid k13
  clear k13
  go_wp2_with fail
  refine K13.out.mono ?_
  rintro e w14 ⟨rfl, m14, o14, st14⟩
  have O14 := Lib.hid o14
  have ZB_14 := Lib.hid (ZB_13.out.step st14)
  have ZC_14 := Lib.hid (ZC_13.out.step st14)
  have ZP_14 := Lib.hid (ZP_13.out.step st14)
  clear K13 o14 st14 O13 ZB_13 ZC_13 ZP_13
  have k14 := read_own O14.out Hoo7.out nmY
  rw [Hr7.out] at k14
  have K14 := Lib.hid k14
  clear k14
  go_wp2_with fail
  refine K14.out.mono ?_
  rintro e w15 ⟨v15, rfl, hown15, hb15⟩
  dsimp only at hown15
  obtain ⟨A15, c15, rfl, hc15, -, -, -⟩ := hown15.open_
  dsimp only at hc15 ⊢
  have ZQ_15 := Lib.hid (Hold.of_new hown15 fun k e => (O14.out.lt k e).2)
  have O15 := Lib.hid (O14.out.newB hb15)
  have ZB_15 := Lib.hid (ZB_14.out.newB hb15)
  have ZC_15 := Lib.hid (ZC_14.out.newB hb15)
  have ZP_15 := Lib.hid (ZP_14.out.newB hb15)
  clear K14 hb15 hown15 O14 ZB_14 ZC_14 ZP_14
  rw [HhL0.out] at hc15 ⊢
  have k15 := used_own O15.out Hoo7.out (by omega)
  rw [Hu7.out] at k15
  have K15 := Lib.hid k15
  clear k15
  go_wp2_with fail
  refine K15.out.mono ?_
  rintro e w16 ⟨rfl, hb16⟩
  have O16 := Lib.hid (O15.out.newB hb16)
  have ZB_16 := Lib.hid (ZB_15.out.newB hb16)
  have ZC_16 := Lib.hid (ZC_15.out.newB hb16)
  have ZP_16 := Lib.hid (ZP_15.out.newB hb16)
  have ZQ_16 := Lib.hid (ZQ_15.out.newB hb16)
  clear K15 hb16 O15 ZB_15 ZC_15 ZP_15 ZQ_15
  have k16 := remove_own O16.out Hoo7.out (by omega) nmY
  rw [Hq8.out] at k16
  generalize ((S7.go (·.remove nmY)).2 : Int) = E17 at k16
  have K16 := Lib.hid k16
  clear k16
  go_wp2_with fail
  refine K16.out.mono ?_
  rintro e w17 ⟨rfl, m17, o17, st17⟩
  have O17 := Lib.hid o17
  have ZB_17 := Lib.hid (ZB_16.out.step st17)
  have ZC_17 := Lib.hid (ZC_16.out.step st17)
  have ZP_17 := Lib.hid (ZP_16.out.step st17)
  have ZQ_17 := Lib.hid (ZQ_16.out.step st17)
  clear K16 o17 st17 O16 ZB_16 ZC_16 ZP_16 ZQ_16
  have k17 := used_own O17.out Hoo8.out (by omega)
  rw [Hu8.out] at k17
  have K17 := Lib.hid k17
  have cv1 := run_str w17 _ A1 n1 c1 b ZB_17.out.sees Hh1.out
  have cv2 := run_str w17 _ A2 n2 c2 c ZC_17.out.sees Hh2.out
  have cv3 := run_str w17 _ A11 L c11 (b ++ c) ZP_17.out.sees HhL0.out
  have cv4 := run_str w17 _ A15 L c15 (b ++ c) ZQ_17.out.sees HhL0.out
  rw [strOf_append] at cv3 cv4
  have sz1 := strOf_size b
  have sz2 := strOf_size c
  rw [Hh1.out] at sz1
  rw [Hh2.out] at sz2
  generalize strOf b = sb at cv1 cv3 cv4 sz1
  generalize strOf c = sc at cv2 cv3 cv4 sz2
  have zz1 : (sb.size : Int) = (n1 : Int) := by omega
  have zz2 : (sc.size : Int) = (n2 : Int) := by omega
  have HB := Lib.hid (hb2.trans (O17.out.below.mono hb2.size))
  have OO := Lib.hid O17.out.below
  clear k17 sz1 sz2 ZB_17 ZC_17 ZP_17 ZQ_17
  go_wp2_with fail
  refine K17.out.mono ?_
  rintro e wz ⟨rfl, hbz⟩
  have HZ := Lib.hid (HB.out.trans (hbz.mono HB.out.size))
  clear K17 hbz
  go_wp2
  go_ret
  exact ⟨by simp, HZ.out⟩
end Go.Proofs.YteidkmiladkoiaaGreatDoor
