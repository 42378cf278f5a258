/-
  The law ItempartBuilds, walked: any items' file is the document's, or its error; any bytes are opened as the items that it says, or refused.
-/
import Derived.Test.YtmdphaagbmipcaaDoorRfOpen
import Derived.Test.YtmdphaagbmipcaaDoorIpTurn
namespace Go.Proofs.YtmdphaagbmipcaaDoor
open Go.RowKit

set_option maxRecDepth 100000 in
set_option maxHeartbeats 3200000 in
theorem ItempartBuilds_any (A B : Option Addr) (n c m d : Nat) (ls : List Item) (b : List UInt8) (hn : ls.length = n) (hnc : n ≤ c) (hm : b.length = m) (hmd : m ≤ d) (w : World) (hS : Sees2 w w.heap.size A ls) (hSb : Sees w w.heap.size B (bv b)) (hH : Halves w) :
    Calls Tryd.prog 3 #[.slice A n c, .slice B m d] w (IsTrue w) := by
  have HN := Lib.hid hn
  have HM := Lib.hid hm
  have hg0 := hH.1
  have HH := Lib.hid hH
  obtain ⟨ck, hck⟩ : ∃ ck, buildE ls = ck := ⟨_, rfl⟩
  have HCK := Lib.hid hck
  obtain ⟨X, hX⟩ : ∃ X, (if buildE ls = 0 then fileB ls else []) = X := ⟨_, rfl⟩
  have HX := Lib.hid hX
  have hA := Lib.hid (awake_any w hH)
  clear hn hm hck hX hH
  go_enter Tryd.func3, Tryd.ntmps3
  go_wp2_with fail
  refine hA.out.mono ?_
  rintro e w1 ⟨rfl, hb1⟩
  have hs1 := hb1.size
  have hFew := few_any A n c ls HN.out w1 ((hS.below hb1).more hs1)
  obtain ⟨bf, hbf⟩ : ∃ bf, fewB ls = bf := ⟨_, rfl⟩
  rw [hbf] at hFew
  have HF := Lib.hid hbf
  clear hA hbf
  go_wp2_with fail
  refine hFew.mono ?_
  rintro e w2 ⟨rfl, rfl⟩
  clear hFew
  cases bf with
  | false =>
    go_wp2_with fail
    go_ret
    exact ⟨rfl, hb1⟩
  | true =>
  by_cases hbig : (60000 : Int) < (m : Int)
  · go_wp2_with fail
    go_ret
    exact ⟨rfl, hb1⟩
  obtain ⟨h100, -⟩ := few_yes HF.out
  have hn100 : n ≤ 100 := by have := HN.out; omega
  have hBu := Lib.hid (Build_any A n c ls HN.out hnc w1 ((hS.below hb1).more hs1) (HH.out.below hb1 hg0) (by omega))
  clear h100
  go_wp2_with fail
  refine hBu.out.mono ?_
  rintro e w3 ⟨v3, rfl, hown3, hb3⟩
  rw [HCK.out]
  rw [HX.out] at hown3
  have hb03 := hb1.trans (hb3.mono hs1)
  obtain ⟨A3, c3, rfl, -, -, -, hs3⟩ := hown3.open_
  have hBr := Lib.hid (RefBuild_any A n c ls HN.out hnc w3 ((hS.below hb03).more hb03.size) (by omega))
  clear hBu hown3
  go_wp2_with fail
  refine hBr.out.mono ?_
  rintro e w4 ⟨v4, rfl, hown4, hb4⟩
  rw [HCK.out]
  rw [HX.out] at hown4
  have hb04 := hb03.trans (hb4.mono hb03.size)
  obtain ⟨A4, c4, rfl, -, -, -, hs4⟩ := hown4.open_
  have hs34 := (hs3.below hb4).more hb4.size
  have hOp := fun ws h => Lib.hid (Open_good B m d b HM.out hmd (by omega) w4 ((hSb.below hb04).more hb04.size) (HH.out.below hb04 hg0) ws h)
  have hOn := fun h => Lib.hid (Open_bad B m d b HM.out hmd (by omega) w4 ((hSb.below hb04).more hb04.size) (HH.out.below hb04 hg0) h)
  clear hBr hown4 hs3
  cases hob : openB b with
  | none =>
    have hO := hOn hob
    have HOB := Lib.hid hob
    clear hOp hOn hob
    go_wp2_with fail
    refine hO.out.mono ?_
    rintro e w5 ⟨rfl, hb5⟩
    have hb05 := hb04.trans (hb5.mono hb04.size)
    have hR := Lib.hid (RefOpen_any B m d b HM.out hmd w5 ((hSb.below hb05).more hb05.size) (by omega))
    clear hO
    go_wp2_with fail
    refine hR.out.mono ?_
    rintro e w6 ⟨A6, n6, c6, er, l6, rfl, hb6, -, -, -, hres⟩
    have hb06 := hb05.trans (hb6.mono hb05.size)
    obtain rfl : er = 170 := by
      rcases hres with ⟨h, -⟩ | ⟨-, h, -⟩
      · rw [HOB.out] at h; cases h
      · exact h
    have hb46 := hb5.trans (hb6.mono hb5.size)
    have cv1 := run_str w6 _ A3 _ c3 X ((hs34.below hb46).more hb46.size) rfl
    have cv2 := run_str w6 _ A4 _ c4 X ((hs4.below hb46).more hb46.size) rfl
    generalize strOf X = s1 at cv1 cv2
    clear hres hR
    go_wp2_with fail
    go_ret
    exact ⟨by simp, hb06⟩
  | some ws =>
    have hO := hOp ws hob
    have HOB := Lib.hid hob
    have hwl : ws.length ≤ 2000 := (buildE_ok (open_some hob).1).1
    have HWL := Lib.hid hwl
    clear hOp hOn hob hwl
    go_wp2_with fail
    refine hO.out.mono ?_
    rintro e w5 ⟨P, rfl, hp5', hb5⟩
    have hb05 := hb04.trans (hb5.mono hb04.size)
    have hp5 : PartAt (fun k => k < w5.heap.size) w5 P ws := hp5'.mono fun k e => e.2
    have hR := Lib.hid (RefOpen_any B m d b HM.out hmd w5 ((hSb.below hb05).more hb05.size) (by omega))
    clear hO hp5'
    go_wp2_with fail
    refine hR.out.mono ?_
    rintro e w6 ⟨A6, n6, c6, er, l6, rfl, hb6, hl6, hc6, hs6, hres⟩
    have hb06 := hb05.trans (hb6.mono hb05.size)
    obtain ⟨rfl, rfl⟩ : er = 0 ∧ l6 = ws := by
      rcases hres with ⟨h, h2⟩ | ⟨h, -, -⟩
      · rw [HOB.out] at h; injection h with h; exact ⟨h2, h.symm⟩
      · rw [HOB.out] at h; cases h
    have hb46 := hb5.trans (hb6.mono hb5.size)
    have cv1 := run_str w6 _ A3 _ c3 X ((hs34.below hb46).more hb46.size) rfl
    have cv2 := run_str w6 _ A4 _ c4 X ((hs4.below hb46).more hb46.size) rfl
    generalize strOf X = s1 at cv1 cv2
    have hFr := From_part (Bx := none) (lx := 0) (dx := 0) (x := []) (hp5.later hb6) ⟨.inl rfl⟩ rfl (1073741824 : Int)
    rw [fromL_nil, List.take_of_length_le (by have := HWL.out; show l6.length ≤ 1073741824; omega)] at hFr
    have HFr := Lib.hid hFr
    have HL6 := Lib.hid hl6
    clear hres hR hFr hl6
    go_wp2_with fail
    refine HFr.out.mono ?_
    rintro e w7 hIs
    obtain ⟨A7, c7, rfl, hc7, hS7, hb7⟩ := hIs.open_
    have hsm := Same_any A7 A6 l6.length c7 n6 c6 l6 l6 rfl HL6.out w7 hS7 ((hs6.below hb7).more hb7.size) (by have := HWL.out; omega)
    unfold BoolIs at hsm
    rw [show (l6 == l6) = true from by simp] at hsm
    have HSM := Lib.hid hsm
    clear hIs HFr hsm
    go_wp2_with fail
    refine HSM.out.mono ?_
    rintro e w8 ⟨rfl, q, rfl⟩
    go_wp2_with fail
    go_ret
    exact ⟨rfl, below_d (hb06.trans (hb7.mono hb06.size)) q⟩
end Go.Proofs.YtmdphaagbmipcaaDoor
