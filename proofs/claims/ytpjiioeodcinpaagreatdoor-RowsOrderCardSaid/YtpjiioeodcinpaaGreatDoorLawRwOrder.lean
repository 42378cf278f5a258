/-
  The law RowsOrder, walked.
-/
import Derived.Test.YtpjiioeodcinpaaGreatDoorRwAwake
import Derived.Test.YtpjiioeodcinpaaGreatDoorRwMk
import Derived.Test.YtpjiioeodcinpaaGreatDoorRwFew
import Derived.Test.YtpjiioeodcinpaaGreatDoorRwOrder
namespace Go.Proofs.YtpjiioeodcinpaaGreatDoor
open Go.RowKit

theorem strOf_less (l m : List UInt8) : Op.bytesLess (strOf l).toList (strOf m).toList = Op.bytesLess l m := by rw [strOf_toList, strOf_toList]
theorem strOf_ne (l m : List UInt8) : ((strOf l).toList == (strOf m).toList) = decide (l = m) := by
  rw [strOf_toList, strOf_toList, Bool.eq_iff_iff, beq_iff_eq, decide_eq_true_eq]
theorem str_beq (x y : ByteArray) : (x.toList == y.toList) = decide (x = y) := by
  rw [Bool.eq_iff_iff, beq_iff_eq, decide_eq_true_eq]
  exact ⟨fun h => bytes_same h, fun h => by rw [h]⟩

set_option maxRecDepth 100000 in
set_option maxHeartbeats 6400000 in
theorem RowsOrder_any (A B : Option Addr) (n c n' c' : Nat) (ls ms : List Lb) (hn : ls.length = n) (hn' : ms.length = n') (k d i k' d' i' : Int) (x1 x2 y1 y2 : ByteArray) (w : World) (hS : Sees w w.heap.size A (lv ls)) (hT : Sees w w.heap.size B (lv ms)) :
    Calls Tryz.prog 7 #[.agg #[.int .i64 k, .slice A n c, .string x1, .string x2, .int .i64 d, .int .i64 i], .agg #[.int .i64 k', .slice B n' c', .string y1, .string y2, .int .i64 d', .int .i64 i']] w (Gives w (.bool true)) := by
  obtain ⟨W1, hW1⟩ : ∃ W1, w.alloc (.cells #[.int .i64 k, .slice A n c, .string x1, .string x2, .int .i64 d, .int .i64 i] 26) = W1 := ⟨_, rfl⟩
  obtain ⟨W2, hW2⟩ : ∃ W2, W1.alloc (.cells #[.int .i64 k', .slice B n' c', .string y1, .string y2, .int .i64 d', .int .i64 i'] 26) = W2 := ⟨_, rfl⟩
  have hb1 : Below w.heap.size w W1 := hW1 ▸ KI_new w _
  have hb2 : Below W1.heap.size W1 W2 := hW2 ▸ KI_new W1 _
  have hs1 : w.heap.size < W1.heap.size := by rw [← hW1]; simp
  have hs2 : W1.heap.size < W2.heap.size := by rw [← hW2]; simp
  have hs12 : w.heap.size < W2.heap.size := by omega
  have sixa : SixAt W2 w.heap.size (.int .i64 k) (.slice A n c) (.string x1) (.string x2) (.int .i64 d) (.int .i64 i) := (hW1 ▸ SixAt.new w _ _ _ _ _ _ _ : SixAt W1 w.heap.size _ _ _ _ _ _).below hb2 hs1
  have sixb : SixAt W2 W1.heap.size (.int .i64 k') (.slice B n' c') (.string y1) (.string y2) (.int .i64 d') (.int .i64 i') := hW2 ▸ SixAt.new W1 _ _ _ _ _ _ _
  have hb02 : Below w.heap.size w W2 := hb1.trans (hb2.mono hb1.size)
  have HXa := Lib.hid sixa
  have HXb := Lib.hid sixb
  have HN := Lib.hid hn
  have HN' := Lib.hid hn'
  have hA := Lib.hid (awake_any W2)
  clear hn hn' sixa sixb hb1 hb2
  go_enter Tryz.func7, Tryz.ntmps7
  go_wp2_with fail
  refine hA.out.mono ?_
  rintro en w2 ⟨rfl, hb2⟩
  have b2 : Below w.heap.size w w2 := hb02.trans (hb2.mono hb02.size)
  have hF := Lib.hid (few_any A n c ls HN.out x1 x2 w2 ((hS.below b2).more b2.size))
  obtain ⟨m0, m1, m2, m3, m4, m5, -⟩ := HXa.out.below hb2 hs12
  obtain ⟨p0, p1, p2, p3, p4, p5, -⟩ := HXb.out.below hb2 hs2
  clear hA hW1 hW2
  go_wp2_with fail
  refine hF.out.mono ?_
  rintro en w3 ⟨bf, hfew, rfl, hb3'⟩
  have hb3 : Below W2.heap.size W2 w3 := hb2.trans (hb3'.mono hb2.size)
  have b3 : Below w.heap.size w w3 := hb02.trans (hb3.mono hb02.size)
  have hG := Lib.hid (few_any B n' c' ms HN'.out y1 y2 w3 ((hT.below b3).more b3.size))
  clear m0 m1 m2 m3 m4 m5 p0 p1 p2 p3 p4 p5
  obtain ⟨m0, m1, m2, m3, m4, m5, -⟩ := HXa.out.below hb3 hs12
  obtain ⟨p0, p1, p2, p3, p4, p5, -⟩ := HXb.out.below hb3 hs2
  clear hF
  go_wp2_with fail
  refine hG.out.mono ?_
  rintro en w4 ⟨bg, hfewg, rfl, hb4'⟩
  have hb4 : Below W2.heap.size W2 w4 := hb3.trans (hb4'.mono hb3.size)
  have b4 : Below w.heap.size w w4 := hb02.trans (hb4.mono hb02.size)
  clear m0 m1 m2 m3 m4 m5 p0 p1 p2 p3 p4 p5
  obtain ⟨m0, m1, m2, m3, m4, m5, -⟩ := HXa.out.below hb4 hs12
  obtain ⟨p0, p1, p2, p3, p4, p5, -⟩ := HXb.out.below hb4 hs2
  clear hG
  cases bf with
  | false =>
    go_wp2
    go_ret
    exact ⟨rfl, b4⟩
  | true =>
  cases bg with
  | false =>
    go_wp2
    go_ret
    exact ⟨rfl, b4⟩
  | true =>
  have HFA := Lib.hid (hfew rfl)
  have HFB := Lib.hid (hfewg rfl)
  clear hfew hfewg
  by_cases hkk : k = k'
  rotate_left
  · have hkb : (k == k') = false := by rw [beq_eq_false_iff_ne]; exact hkk
    go_wp2
    go_ret
    exact ⟨rfl, b4⟩
  subst hkk
  have hM := Lib.hid (Make_any A n c ls HN.out k d i x1 x2 w4 ((hS.below b4).more b4.size) (HN.out ▸ HFA.out.sz.2.2) HFA.out.sz.1 HFA.out.sz.2.1)
  go_wp2_with fail
  refine hM.out.mono ?_
  rintro en w5 ⟨v5, k5, rfl, hb5', hres5⟩
  have hb5 : Below W2.heap.size W2 w5 := hb4.trans (hb5'.mono hb4.size)
  have b5 : Below w.heap.size w w5 := hb02.trans (hb5.mono hb02.size)
  have hM2 := Lib.hid (Make_any B n' c' ms HN'.out k d' i' y1 y2 w5 ((hT.below b5).more b5.size) (HN'.out ▸ HFB.out.sz.2.2) HFB.out.sz.1 HFB.out.sz.2.1)
  have HR5 := Lib.hid hres5
  clear m0 m1 m2 m3 m4 m5 p0 p1 p2 p3 p4 p5
  obtain ⟨m0, m1, m2, m3, m4, m5, -⟩ := HXa.out.below hb5 hs12
  obtain ⟨p0, p1, p2, p3, p4, p5, -⟩ := HXb.out.below hb5 hs2
  clear hM hres5
  go_wp2_with fail
  refine hM2.out.mono ?_
  rintro en w6 ⟨v6, k6, rfl, hb6', hres6⟩
  have hb6 : Below W2.heap.size W2 w6 := hb5.trans (hb6'.mono hb5.size)
  have b6 : Below w.heap.size w w6 := hb02.trans (hb6.mono hb02.size)
  clear m0 m1 m2 m3 m4 m5 p0 p1 p2 p3 p4 p5
  obtain ⟨m0, m1, m2, m3, m4, m5, -⟩ := HXa.out.below hb6 hs12
  obtain ⟨p0, p1, p2, p3, p4, p5, -⟩ := HXb.out.below hb6 hs2
  clear hM2
  rcases HR5.out with ⟨hma, rfl, hown5⟩ | ⟨hno, rfl, rfl⟩
  rotate_left
  · clear hno hres6
    go_wp2
    go_ret
    exact ⟨rfl, b6⟩
  rcases hres6 with ⟨hmb, rfl, hown6⟩ | ⟨hno, rfl, rfl⟩
  rotate_left
  · clear hno hown5 hma
    go_wp2
    go_ret
    exact ⟨rfl, b6⟩
  have HMA := Lib.hid hma
  have HMB := Lib.hid hmb
  obtain ⟨LA, hLA⟩ : ∃ LA, makeR ⟨k, ls, (x1, x2), d, i⟩ = LA := ⟨_, rfl⟩
  obtain ⟨LB, hLB⟩ : ∃ LB, makeR ⟨k, ms, (y1, y2), d', i'⟩ = LB := ⟨_, rfl⟩
  rw [hLA] at hown5
  rw [hLB] at hown6
  have HLA := Lib.hid hLA
  have HLB := Lib.hid hLB
  obtain ⟨A5, c5, rfl, -, -, -, hs5⟩ := hown5.open_
  obtain ⟨A6, c6, rfl, -, -, -, hs6⟩ := hown6.open_
  have hs56 := (hs5.below hb6').more hb6'.size
  have CV : ∀ W, Below w6.heap.size w6 W → Hid ((convert 29 9 (.slice A5 LA.length c5)).run Tryz.prog W = .ok (.string (strOf LA)) W ∧ (convert 29 9 (.slice A6 LB.length c6)).run Tryz.prog W = .ok (.string (strOf LB)) W) := fun W hb =>
    ⟨run_str W _ A5 _ c5 LA ((hs56.below hb).more hb.size) rfl, run_str W _ A6 _ c6 LB ((hs6.below hb).more hb.size) rfl⟩
  have hless := strOf_less LA LB
  have HCV := Lib.hid CV
  generalize strOf LA = sA at hless HCV
  generalize strOf LB = sB at hless HCV
  have HLESS := Lib.hid hless
  clear hma hmb hLA hLB hown5 hown6 hs5 hs6 hs56 hless CV HR5
  have hkind : k = 1 ∨ k = 2 ∨ k = 3 ∨ k = 4 ∨ k = 5 := by
    rcases HMA.out.kinds with ⟨a | a, _⟩ | ⟨a, _⟩ | ⟨a, _⟩ | ⟨a, _⟩ <;> simp only at a <;> omega
  rcases hkind with rfl | rfl | rfl | rfl | rfl
  · -- the labels' own
    have hma1 : MayL ls := by rcases HMA.out.kinds with ⟨_, h, _⟩ | ⟨a, _⟩ | ⟨a, _⟩ | ⟨a, _⟩; exact h; all_goals simp only at a; omega
    have hmb1 : MayL ms := by rcases HMB.out.kinds with ⟨_, h, _⟩ | ⟨a, _⟩ | ⟨a, _⟩ | ⟨a, _⟩; exact h; all_goals simp only at a; omega
    have ho := ord1 HMA.out HMB.out rfl rfl
    simp only at ho
    rw [HLA.out, HLB.out] at ho
    have hQ := Lib.hid (RefMarshal_any A n c ls HN.out w6 ((hS.below b6).more b6.size) (HN.out ▸ HFA.out.sz.2.2) HFA.out.sz.1)
    obtain ⟨MA, hMA⟩ : ∃ MA, marsh (sortN ls) = MA := ⟨_, rfl⟩
    obtain ⟨MB, hMB⟩ : ∃ MB, marsh (sortN ms) = MB := ⟨_, rfl⟩
    rw [hMA, hMB] at ho
    have HO := Lib.hid (HLESS.out.trans ho)
    have HMA1 := Lib.hid hma1
    have HMB1 := Lib.hid hmb1
    have HQA := Lib.hid hMA
    have HQB := Lib.hid hMB
    clear ho hma1 hmb1 hMA hMB
    go_wp2_with fail
    refine hQ.out.mono ?_
    rintro en w7 ⟨v7, k7, rfl, hb7', hres7⟩
    have hb7 : Below W2.heap.size W2 w7 := hb6.trans (hb7'.mono hb6.size)
    have b7 : Below w.heap.size w w7 := hb02.trans (hb7.mono hb02.size)
    rcases hres7 with ⟨-, rfl, hown7⟩ | ⟨hno, -, -⟩
    rotate_left
    · exact absurd HMA1.out hno
    rw [HQA.out] at hown7
    obtain ⟨A7, c7, rfl, -, -, -, hs7⟩ := hown7.open_
    have hQ2 := Lib.hid (RefMarshal_any B n' c' ms HN'.out w7 ((hT.below b7).more b7.size) (HN'.out ▸ HFB.out.sz.2.2) HFB.out.sz.1)
    clear m0 m1 m2 m3 m4 m5 p0 p1 p2 p3 p4 p5
    obtain ⟨m0, m1, m2, m3, m4, m5, -⟩ := HXa.out.below hb7 hs12
    obtain ⟨p0, p1, p2, p3, p4, p5, -⟩ := HXb.out.below hb7 hs2
    clear hQ hown7
    go_wp2_with fail
    refine hQ2.out.mono ?_
    rintro en w8 ⟨v8, k8, rfl, hb8', hres8⟩
    have hb8 : Below W2.heap.size W2 w8 := hb7.trans (hb8'.mono hb7.size)
    have b8 : Below w.heap.size w w8 := hb02.trans (hb8.mono hb02.size)
    rcases hres8 with ⟨-, rfl, hown8⟩ | ⟨hno, -, -⟩
    rotate_left
    · exact absurd HMB1.out hno
    rw [HQB.out] at hown8
    obtain ⟨A8, c8, rfl, -, -, -, hs8⟩ := hown8.open_
    have cv7 := run_str w8 _ A7 _ c7 MA ((hs7.below hb8').more hb8'.size) rfl
    have cv8 := run_str w8 _ A8 _ c8 MB hs8 rfl
    obtain ⟨cvA, cvB⟩ := (HCV.out w8 (hb7'.trans (hb8'.mono hb7'.size))).out
    have hne := strOf_ne MA MB
    have hml := strOf_less MA MB
    have ho := HO.out
    clear hQ2 hown8 hs7 hs8 m0 m1 m2 m3 m4 p0 p1 p2 p3 p4
    by_cases he : MA = MB
    · rw [if_pos he] at ho
      rw [decide_eq_true he] at hne
      clear hml he
      generalize strOf MA = sM at cv7 hne
      generalize strOf MB = sN at cv8 hne
      go_wp2_with fail
      go_ret
      exact ⟨by simp, b8⟩
    · rw [if_neg he] at ho
      rw [decide_eq_false he] at hne
      generalize Op.bytesLess MA MB = q at ho hml
      clear he
      generalize strOf MA = sM at cv7 hne hml
      generalize strOf MB = sN at cv8 hne hml
      go_wp2_with fail
      go_ret
      exact ⟨by simp, b8⟩
  · by_cases hii : i = i'
    · subst hii
      go_wp2
      go_ret
      exact ⟨rfl, b6⟩
    · have ho := ord2 HMA.out HMB.out rfl rfl hii
      simp only at ho
      rw [HLA.out, HLB.out] at ho
      replace ho := HLESS.out.trans ho
      have hib : (i == i') = false := by rw [beq_eq_false_iff_ne]; exact hii
      obtain ⟨cvA, cvB⟩ := (HCV.out w6 (Below.refl _ _)).out
      clear hii
      go_wp2_with fail
      go_ret
      exact ⟨by simp, b6⟩
  · have ho := ord34 HMA.out HMB.out (.inl rfl) rfl
    simp only at ho
    rw [HLA.out, HLB.out] at ho
    replace ho := HLESS.out.trans ho
    obtain ⟨cvA, cvB⟩ := (HCV.out w6 (Below.refl _ _)).out
    have e1 := str_beq x1 y1
    have e2 := str_beq x2 y2
    have HO := Lib.hid ho
    clear ho
    by_cases hv : x2 = y2 <;> by_cases hm : x1 = y1 <;> by_cases hd : d = d'
    all_goals
      have ho := HO.out
      first | rw [decide_eq_true hv] at e2 | rw [decide_eq_false hv] at e2
      first | rw [decide_eq_true hm] at e1 | rw [decide_eq_false hm] at e1
      have e3 : (d == d') = decide (d = d') := by rw [Bool.eq_iff_iff, beq_iff_eq, decide_eq_true_eq]
      first | rw [decide_eq_true hd] at e3 | rw [decide_eq_false hd] at e3
      simp only [ne_eq, hv, hm, hd, not_true_eq_false, not_false_eq_true, if_true, if_false] at ho
      clear hv hm hd HO
      go_wp2_with fail
      go_ret
      exact ⟨by simp, b6⟩
  · have ho := ord34 HMA.out HMB.out (.inr rfl) rfl
    simp only at ho
    rw [HLA.out, HLB.out] at ho
    replace ho := HLESS.out.trans ho
    obtain ⟨cvA, cvB⟩ := (HCV.out w6 (Below.refl _ _)).out
    have e1 := str_beq x1 y1
    have e2 := str_beq x2 y2
    have HO := Lib.hid ho
    clear ho
    by_cases hv : x2 = y2 <;> by_cases hm : x1 = y1 <;> by_cases hd : d = d'
    all_goals
      have ho := HO.out
      first | rw [decide_eq_true hv] at e2 | rw [decide_eq_false hv] at e2
      first | rw [decide_eq_true hm] at e1 | rw [decide_eq_false hm] at e1
      have e3 : (d == d') = decide (d = d') := by rw [Bool.eq_iff_iff, beq_iff_eq, decide_eq_true_eq]
      first | rw [decide_eq_true hd] at e3 | rw [decide_eq_false hd] at e3
      simp only [ne_eq, hv, hm, hd, not_true_eq_false, not_false_eq_true, if_true, if_false] at ho
      clear hv hm hd HO
      go_wp2_with fail
      go_ret
      exact ⟨by simp, b6⟩
  · have ho := ord5 HMA.out HMB.out rfl rfl
    simp only at ho
    rw [HLA.out, HLB.out] at ho
    replace ho := HLESS.out.trans ho
    obtain ⟨cvA, cvB⟩ := (HCV.out w6 (Below.refl _ _)).out
    go_wp2_with fail
    go_ret
    exact ⟨by simp, b6⟩
end Go.Proofs.YtpjiioeodcinpaaGreatDoor
