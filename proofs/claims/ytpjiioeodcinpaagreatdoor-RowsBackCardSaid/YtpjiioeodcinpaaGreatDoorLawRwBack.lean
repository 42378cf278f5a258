/-
  The law RowsBack, walked.
-/
import Derived.Test.YtpjiioeodcinpaaGreatDoorRwAwake
import Derived.Test.YtpjiioeodcinpaaGreatDoorRwMk
import Derived.Test.YtpjiioeodcinpaaGreatDoorRwFew
import Derived.Test.YtpjiioeodcinpaaGreatDoorRwSame
import Derived.Test.YtpjiioeodcinpaaGreatDoorRwPre
namespace Go.Proofs.YtpjiioeodcinpaaGreatDoor
open Go.RowKit

theorem may_sizes {k d i : Int} {ls : List Lb} {x1 x2 : ByteArray} {n : Nat} (h : MayR ⟨k, ls, (x1, x2), d, i⟩) (hn : ls.length = n) : (∀ x ∈ ls, x.1.size ≤ 9223372036854775807) ∧ n ≤ 1099511627776 ∧ x1.size ≤ 9223372036854775807 := by
  have hx : ∀ {x : Lb}, okL x = true → x.1.size ≤ 9223372036854775807 := fun hx => by have := okL_size hx; omega
  rcases h.kinds with ⟨_, b, c, _⟩ | ⟨_, b, c, _⟩ | ⟨_, b, c⟩ | ⟨_, b, c, _⟩ <;> simp only at b c
  · exact ⟨fun x h => hx (b.ok x h), by have := b.few; omega, by rw [show x1 = lb0.1 from congrArg Prod.fst c]; decide⟩
  · subst b; exact ⟨by simp, by simp at hn; omega, hx c⟩
  · subst b; exact ⟨by simp, by simp at hn; omega, hx c⟩
  · subst b; exact ⟨by simp, by simp at hn; omega, by rw [show x1 = lb0.1 from congrArg Prod.fst c]; decide⟩

theorem sees_set {w12 W11 w10 W13 : World} {A12 : Option Addr} {n c12 : Nat} {ls : List Lb} {v : Value} (_hs : Sees w12 w12.heap.size A12 (lv ls)) (hown : OwnL w12 W11.heap.size (.slice A12 n c12) ls) (hlt : w10.heap.size < W11.heap.size) (hW : w12.setCell ⟨w10.heap.size, 1, none⟩ v = W13) : Sees W13 W13.heap.size A12 (lv ls) := by
  have h1 : SeesM (fun j => W11.heap.size ≤ j ∧ j < w12.heap.size) w12 A12 (lv ls) := PSt.all.ownL_seesM hown
  rw [← hW]
  exact (h1.keep (keep_set w12 _ _ fun hj => by have h2 := hj.1; simp only at h2; omega)).sees fun j hj => by rw [size_set]; exact hj.2

set_option maxRecDepth 100000 in
set_option maxHeartbeats 6400000 in
theorem RowsBack_any (A B : Option Addr) (n c p cp : Nat) (ls : List Lb) (r : List UInt8) (hn : ls.length = n) (hp : r.length = p) (hpc : p ≤ cp) (k d i : Int) (x1 x2 : ByteArray) (w : World) (hS : Sees w w.heap.size A (lv ls)) (hT : Sees w w.heap.size B (bv r)) :
    Calls Tryz.prog 6 #[.agg #[.int .i64 k, .slice A n c, .string x1, .string x2, .int .i64 d, .int .i64 i], .slice B p cp] w (Gives w (.bool true)) := by
  obtain ⟨W1, hW1⟩ : ∃ W1, w.alloc (.cells #[.int .i64 k, .slice A n c, .string x1, .string x2, .int .i64 d, .int .i64 i] 26) = W1 := ⟨_, rfl⟩
  have hb1 : Below w.heap.size w W1 := hW1 ▸ KI_new w _
  have six : SixAt W1 w.heap.size (.int .i64 k) (.slice A n c) (.string x1) (.string x2) (.int .i64 d) (.int .i64 i) := hW1 ▸ SixAt.new w _ _ _ _ _ _ _
  have hs1 : w.heap.size < W1.heap.size := by rw [← hW1]; simp
  have HX := Lib.hid six
  have HN := Lib.hid hn
  have HP := Lib.hid hp
  have hA := Lib.hid (awake_any W1)
  clear hn hp six
  go_enter Tryz.func6, Tryz.ntmps6
  go_wp2_with fail
  refine hA.out.mono ?_
  rintro en w2 ⟨rfl, hb2⟩
  have b2 : Below w.heap.size w w2 := hb1.trans (hb2.mono hb1.size)
  have hF := Lib.hid (few_any A n c ls HN.out x1 x2 w2 ((hS.below b2).more b2.size))
  obtain ⟨m0, m1, m2, m3, m4, m5, -⟩ := HX.out.below hb2 hs1
  clear hA hW1
  go_wp2_with fail
  refine hF.out.mono ?_
  rintro en w3 ⟨bf, hfew, rfl, hb3'⟩
  have hb3 : Below W1.heap.size W1 w3 := hb2.trans (hb3'.mono hb2.size)
  have b3 : Below w.heap.size w w3 := hb1.trans (hb3.mono hb1.size)
  clear m0 m1 m2 m3 m4 m5
  obtain ⟨m0, m1, m2, m3, m4, m5, -⟩ := HX.out.below hb3 hs1
  clear hF
  cases bf with
  | false =>
    go_wp2
    go_ret
    exact ⟨rfl, b3⟩
  | true =>
  have HFA := Lib.hid (hfew rfl)
  clear hfew
  by_cases hp1 : p ≤ 1000
  rotate_left
  · have hp' : (1000 : Int) < (p : Int) := by omega
    go_wp2
    go_ret
    exact ⟨rfl, b3⟩
  have hp' : (p : Int) ≤ 1000 := by omega
  have hPa := Lib.hid (Parse_any B p cp r HP.out hpc w3 ((hT.below b3).more b3.size) (by omega))
  go_wp2_with fail
  refine hPa.out.mono ?_
  rintro en w4 ⟨A4, n4, c4, k4, d4, i4, z1, z2, l4, e4, rfl, hb4', hl4, -, hs4, hres4⟩
  have hb4 : Below W1.heap.size W1 w4 := hb3.trans (hb4'.mono hb3.size)
  obtain ⟨W5, hW5⟩ : ∃ W5, w4.alloc (.cells #[.int .i64 k4, .slice A4 n4 c4, .string z1, .string z2, .int .i64 d4, .int .i64 i4] 26) = W5 := ⟨_, rfl⟩
  have hb45 : Below w4.heap.size w4 W5 := hW5 ▸ KI_new w4 _
  have hb5 : Below W1.heap.size W1 W5 := hb4.trans (hb45.mono hb4.size)
  have b5 : Below w.heap.size w W5 := hb1.trans (hb5.mono hb1.size)
  have six5 : SixAt W5 w4.heap.size (.int .i64 k4) (.slice A4 n4 c4) (.string z1) (.string z2) (.int .i64 d4) (.int .i64 i4) := hW5 ▸ SixAt.new w4 _ _ _ _ _ _ _
  obtain ⟨q0, q1, q2, q3, q4, q5, -⟩ := six5
  have HL4 := Lib.hid hl4
  clear m0 m1 m2 m3 m4 m5
  obtain ⟨m0, m1, m2, m3, m4, m5, -⟩ := HX.out.below hb5 hs1
  clear hPa hl4
  rcases hres4 with ⟨rfl, hmay4, hsort4, hmk4⟩ | ⟨rfl, -, -⟩
  · have hsz4 : (∀ x ∈ l4, x.1.size ≤ 9223372036854775807) ∧ n4 ≤ 1099511627776 ∧ z1.size ≤ 9223372036854775807 := may_sizes hmay4 HL4.out
    have hM4 := Lib.hid (Make_any A4 n4 c4 l4 HL4.out k4 d4 i4 z1 z2 W5 ((hs4.below hb45).more hb45.size) hsz4.2.1 hsz4.1 hsz4.2.2)
    have HMK4 := Lib.hid hmk4
    have HMAY4 := Lib.hid hmay4
    clear hmk4 hsort4 hsz4 hmay4
    go_wp2_with fail
    refine hM4.out.mono ?_
    rintro en w6 ⟨v6, k6, rfl, hb6', hres6⟩
    have hb6 : Below W1.heap.size W1 w6 := hb5.trans (hb6'.mono hb5.size)
    have b6 : Below w.heap.size w w6 := hb1.trans (hb6.mono hb1.size)
    rcases hres6 with ⟨-, rfl, hown6⟩ | ⟨hno, -, -⟩
    rotate_left
    · exact absurd HMAY4.out hno
    rw [HMK4.out] at hown6
    obtain ⟨A6, c6, hv6, -, -, -, hs6⟩ := hown6.open_
    rw [HP.out] at hv6
    subst hv6
    have cv1 := run_str w6 _ A6 p c6 r hs6 HP.out
    have cv2 := run_str w6 _ B p cp r ((hT.below b6).more b6.size) HP.out
    generalize strOf r = sr at cv1 cv2
    clear m0 m1 m2 m3 m4 m5 q0 q1 q2 q3 q4 q5 hM4 hown6 hs6 hs4 hW5
    obtain ⟨m0, m1, m2, m3, m4, m5, -⟩ := HX.out.below hb6 hs1
    have hM := Lib.hid (Make_any A n c ls HN.out k d i x1 x2 w6 ((hS.below b6).more b6.size) (HN.out ▸ HFA.out.sz.2.2) HFA.out.sz.1 HFA.out.sz.2.1)
    go_wp2_with fail
    refine hM.out.mono ?_
    rintro en w7 ⟨v7, k7, rfl, hb7', hres7⟩
    have hb7 : Below W1.heap.size W1 w7 := hb6.trans (hb7'.mono hb6.size)
    have b7 : Below w.heap.size w w7 := hb1.trans (hb7.mono hb1.size)
    clear m0 m1 m2 m3 m4 m5 hM
    obtain ⟨m0, m1, m2, m3, m4, m5, -⟩ := HX.out.below hb7 hs1
    rcases hres7 with ⟨hma, rfl, hown7⟩ | ⟨hno, rfl, rfl⟩
    rotate_left
    · clear hno
      go_wp2_with fail
      go_ret
      exact ⟨by simp, b7⟩
    have HMA := Lib.hid hma
    have hml := make_len hma
    obtain ⟨M, hM⟩ : ∃ M, makeR ⟨k, ls, (x1, x2), d, i⟩ = M := ⟨_, rfl⟩
    rw [hM] at hown7 hml
    have HM := Lib.hid hM
    obtain ⟨A7, c7, hv7, hc7, -, -, hs7⟩ := hown7.open_
    obtain ⟨ml, hmll⟩ : ∃ ml, M.length = ml := ⟨_, rfl⟩
    rw [hmll] at hv7 hc7 hml
    subst hv7
    have HMLL := Lib.hid hmll
    have hP8 := Lib.hid (Parse_any A7 ml c7 M hmll hc7 w7 hs7 (by omega))
    clear hma hM hown7 hmll
    go_wp2_with fail
    refine hP8.out.mono ?_
    rintro en w8 ⟨A8, n8, c8, k8, d8, i8, u1, u2, l8, e8, rfl, hb8', hl8, -, hs8, hres8⟩
    obtain ⟨rfl, hcan⟩ : e8 = 0 ∧ (⟨k8, l8, (u1, u2), d8, i8⟩ : RowP) = ⟨k, sortN ls, (x1, x2), d, i⟩ := by
      rcases hres8 with ⟨h1, h2, h3, h4⟩ | ⟨-, h, -⟩
      · have h5 := make_inj h2 HMA.out (h4.trans HM.out.symm)
        unfold canonR at h5
        simp only at h5
        rw [h3] at h5
        exact ⟨h1, h5⟩
      · exact absurd HM.out (h _ HMA.out)
    obtain rfl : k8 = k := congrArg RowP.kind hcan
    obtain rfl : u1 = x1 := congrArg (fun z => (RowP.label z).1) hcan
    obtain rfl : u2 = x2 := congrArg (fun z => (RowP.label z).2) hcan
    obtain rfl : d8 = d := congrArg RowP.day hcan
    obtain rfl : i8 = i := congrArg RowP.id hcan
    obtain rfl : l8 = sortN ls := congrArg RowP.labels hcan
    have hb8 : Below W1.heap.size W1 w8 := hb7.trans (hb8'.mono hb7.size)
    rw [sortN_length, HN.out] at hl8
    subst hl8
    obtain ⟨W9, hW9⟩ : ∃ W9, w8.alloc (.cells #[.int .i64 k8, .slice A8 n c8, .string u1, .string u2, .int .i64 d8, .int .i64 i8] 26) = W9 := ⟨_, rfl⟩
    have hb89 : Below w8.heap.size w8 W9 := hW9 ▸ KI_new w8 _
    have six9 : SixAt W9 w8.heap.size (.int .i64 k8) (.slice A8 n c8) (.string u1) (.string u2) (.int .i64 d8) (.int .i64 i8) := hW9 ▸ SixAt.new w8 _ _ _ _ _ _ _
    have hs89 : w8.heap.size < W9.heap.size := by rw [← hW9]; simp
    have hb9 : Below W1.heap.size W1 W9 := hb8.trans (hb89.mono hb8.size)
    have b9 : Below w.heap.size w W9 := hb1.trans (hb9.mono hb1.size)
    have H9 := Lib.hid six9
    have hsL := ((hs8.below hb89).more hb89.size)
    have hP := Lib.hid (plain_any A n c k8 d8 i8 u1 u2 W9)
    clear m0 m1 m2 m3 m4 m5 six9 hP8 hres8 hcan
    obtain ⟨m0, m1, m2, m3, m4, m5, -⟩ := HX.out.below hb9 hs1
    go_wp2_with fail
    refine hP.out.mono ?_
    rintro en w10 ⟨rfl, hb10'⟩
    have hb10 : Below W1.heap.size W1 w10 := hb9.trans (hb10'.mono hb9.size)
    obtain ⟨W11, hW11⟩ : ∃ W11, w10.alloc (.cells #[.int .i64 k8, .slice A n c, .string u1, .string u2, .int .i64 d8, .int .i64 i8] 34) = W11 := ⟨_, rfl⟩
    have hb1011 : Below w10.heap.size w10 W11 := hW11 ▸ KI_new w10 _
    have six11 : SixAt W11 w10.heap.size (.int .i64 k8) (.slice A n c) (.string u1) (.string u2) (.int .i64 d8) (.int .i64 i8) := hW11 ▸ SixAt.new w10 _ _ _ _ _ _ _
    have hs1011 : w10.heap.size < W11.heap.size := by rw [← hW11]; simp
    have hb911 : Below W9.heap.size W9 W11 := hb10'.trans (hb1011.mono hb10'.size)
    have hb11 : Below W1.heap.size W1 W11 := hb9.trans (hb911.mono hb9.size)
    have b11 : Below w.heap.size w W11 := hb1.trans (hb11.mono hb1.size)
    have H11 := Lib.hid six11
    clear m0 m1 m2 m3 m4 m5 six11 hP
    obtain ⟨m0, m1, m2, m3, m4, m5, -⟩ := HX.out.below hb11 hs1
    by_cases hn0 : 0 < n
    · have hmayl : MayL ls := nolabels HMA.out (fun e => by have := HN.out; simp only at e; rw [e] at this; simp at this; omega)
      have HML := Lib.hid hmayl
      have hC := Lib.hid (RefCanon_any A n c ls HN.out W11 ((hS.below b11).more b11.size) (HN.out ▸ HFA.out.sz.2.2) HFA.out.sz.1)
      obtain ⟨j0, j1, j2, j3, j4, j5, j6, j7, j8, j9, ja, jb⟩ := H11.out
      clear hmayl
      go_wp2_with fail
      refine hC.out.mono ?_
      rintro en w12 ⟨v12, k12, rfl, hb12', hres12⟩
      rcases hres12 with ⟨-, rfl, hown12⟩ | ⟨hno, -, -⟩
      rotate_left
      · exact absurd HML.out hno
      obtain ⟨A12, c12, hv12, -, -, hs12⟩ := hown12.open_
      rw [sortN_length, HN.out] at hv12
      subst hv12
      have six12 := H11.out.below hb12' hs1011
      obtain ⟨W13, hW13⟩ : ∃ W13, w12.setCell ⟨w10.heap.size, 1, none⟩ (.slice A12 n c12) = W13 := ⟨_, rfl⟩
      have six13 := six12.set1 (.slice A12 n c12)
      rw [hW13] at six13
      have hb913 : Below W9.heap.size W9 W13 := by rw [← hW13]; exact (hb911.trans (hb12'.mono hb911.size)).setCell (by show _ ≤ w10.heap.size; exact hb10'.size) _
      have hb13 : Below W1.heap.size W1 W13 := hb9.trans (hb913.mono hb9.size)
      have b13 : Below w.heap.size w W13 := hb1.trans (hb13.mono hb1.size)
      have hs1013 : w10.heap.size < W13.heap.size := by have := hb12'.size; rw [← hW13]; simp; omega
      have hb713 : Below w7.heap.size w7 W13 := (hb8'.trans (hb89.mono hb8'.size)).trans (hb913.mono (by have := hb8'.size; have := hb89.size; omega))
      have hsL13 : Sees W13 W13.heap.size A12 (lv (sortN ls)) := sees_set hs12 hown12 hs1011 hW13
      have H13 := Lib.hid six13
      clear m0 m1 m2 m3 m4 m5 j0 j1 j2 j3 j4 j5 j6 j7 j8 j9 ja jb
      obtain ⟨j0, j1, j2, j3, j4, j5, j6, j7, j8, j9, ja, jb⟩ := six12
      have hAh := Lib.hid (Ahead_any A n c ls HN.out k8 d8 i8 u1 u2 W13 ((hS.below b13).more b13.size) (HN.out ▸ HFA.out.sz.2.2) HFA.out.sz.1 HFA.out.sz.2.1)
      obtain ⟨m0, m1, m2, m3, m4, m5, -⟩ := HX.out.below hb13 hs1
      go_wp2_with fail
      refine hAh.out.mono ?_
      rintro en w14 ⟨A14, n14, c14, k14, l14, rfl, hb14', hl14, hc14, hs14, hres14⟩
      have hb14 : Below W1.heap.size W1 w14 := hb13.trans (hb14'.mono hb13.size)
      have b14 : Below w.heap.size w w14 := hb1.trans (hb14.mono hb1.size)
      have H9w := Lib.hid (H9.out.below (hb913.trans (hb14'.mono hb913.size)) hs89)
      have HRw := Lib.hid (six13.below hb14' hs1013)
      have hm14 := hs7.below (((hb713)).trans (hb14'.mono (hb713).size))
      clear m0 m1 m2 m3 m4 m5 hAh
      obtain ⟨m0, m1, m2, m3, m4, m5, -⟩ := HX.out.below hb14 hs1
      have HM14 := Lib.hid hm14
      have HLT := Lib.hid (hsL13.below (hb14'.mono (Nat.le_refl _)))
      have HSL := Lib.hid hsL
      by_cases hk2 : k8 = 2
      · obtain ⟨rfl, rfl⟩ : k14 = 120 ∧ n14 = 0 := by
          rcases hres14 with ⟨-, h, -⟩ | ⟨-, h1, h2⟩
          · exact absurd hk2 h
          · exact ⟨h1, by rw [← hl14, h2]; rfl⟩
        have hkb : (k8 == 2) = true := by rw [hk2]; rfl
        clear hres14 hl14 hs14 hk2
        go_wp2_with fail
        go_quiet (fail)
        go_wp2_with fail
        have hDw : Below w14.heap.size w14 (w14.drewN nq) := below_d (Below.refl _ _) nq
        have lt9 : w8.heap.size < w14.heap.size := by have h1 := (hb913).size; have h2 := hb14'.size; omega
        have ltR : w10.heap.size < w14.heap.size := by have h1 := hs1013; have h2 := hb14'.size; omega
        have HD9 := H9w.out.below hDw lt9
        have HDR := HRw.out.below hDw ltR
        have hDs := hDw.size
        have hm400 : (ml : Int) ≤ 400 := by omega
        have HDD := Lib.hid hDw
        clear m0 m1 m2 m3 m4 m5
        generalize w14.drewN nq = wD at hDw HD9 HDR hDs HDD ⊢
        obtain ⟨g0, g1, g2, g3, g4, g5, -⟩ := HD9
        obtain ⟨f0, f1, f2, f3, f4, f5, -⟩ := HDR
        have HD9 := Lib.hid (H9w.out.below hDw lt9)
        have HDR := Lib.hid (HRw.out.below hDw ltR)
        refine wp_region_noPanic ?_
        refine wp_region_held_drew (S := fun w' => w'.cell? ⟨w8.heap.size, 0, none⟩ = some (.int .i64 k8) ∧ w'.cell? ⟨w8.heap.size, 1, none⟩ = some (.slice A8 n c8) ∧ w'.cell? ⟨w8.heap.size, 2, none⟩ = some (.string u1) ∧ w'.cell? ⟨w8.heap.size, 3, none⟩ = some (.string u2) ∧ w'.cell? ⟨w8.heap.size, 4, none⟩ = some (.int .i64 d8) ∧ w'.cell? ⟨w8.heap.size, 5, none⟩ = some (.int .i64 i8) ∧ w'.cell? ⟨w10.heap.size, 0, none⟩ = some (.int .i64 k8) ∧ w'.cell? ⟨w10.heap.size, 1, none⟩ = some (.slice A12 n c12) ∧ w'.cell? ⟨w10.heap.size, 2, none⟩ = some (.string u1) ∧ w'.cell? ⟨w10.heap.size, 3, none⟩ = some (.string u2) ∧ w'.cell? ⟨w10.heap.size, 4, none⟩ = some (.int .i64 d8) ∧ w'.cell? ⟨w10.heap.size, 5, none⟩ = some (.int .i64 i8)) (by kernel_rfl) ?_ (fun hHeld => ?_)
        · (exact ⟨g0, g1, g2, g3, g4, g5, f0, f1, f2, f3, f4, f5⟩)
        refine wpAnyH_take (i := 0) (oi := { dst := some 114, op := Op.move (Operand.tmp 14), type := 30, pos := "law.go:116", after := #[], guard := none }) (v := ?_) rfl (by kernel_rfl) (by kernel_rfl) (by kernel_rfl) (fun _ _ _ h => h) (Or.inl ⟨by rfl, ?_⟩) hHeld ?_
        rotate_left
        · (intro w' hSw; (try dsimp only at hSw); go_split_ands; go_simp; first | done | with_reducible rfl)
        try simp only [Act.put, List.setIfInBounds_toArray, List.set_cons_zero, List.set_cons_succ]
        refine wpAnyH_take (i := 1) (oi := { dst := some 115, op := Op.binOp BinOp.eql 30 (Operand.tmp 114) (Operand.const (Value.int IntKind.i64 0)) 30, type := 4, pos := "law.go:116", after := #[{ on := 0, ground := Ground.data }], guard := none }) (v := ?_) rfl (by kernel_rfl) (by kernel_rfl) (by kernel_rfl) (fun _ _ _ h => h) (Or.inl ⟨by rfl, ?_⟩) hHeld ?_
        rotate_left
        · (intro w' hSw; (try dsimp only at hSw); go_split_ands; go_simp; first | done | with_reducible rfl)
        try simp only [Act.put, List.setIfInBounds_toArray, List.set_cons_zero, List.set_cons_succ]
        refine wpAnyH_take (i := 2) (oi := { dst := some 116, op := Op.move (Operand.tmp 115), type := 4, pos := "law.go:116", after := #[{ on := 1, ground := Ground.data }], guard := none }) (v := ?_) rfl (by kernel_rfl) (by kernel_rfl) (by kernel_rfl) (fun _ _ _ h => h) (Or.inl ⟨by rfl, ?_⟩) hHeld ?_
        rotate_left
        · (intro w' hSw; (try dsimp only at hSw); go_split_ands; go_simp; first | done | with_reducible rfl)
        try simp only [Act.put, List.setIfInBounds_toArray, List.set_cons_zero, List.set_cons_succ]
        refine wpAnyH_take (i := 3) (oi := { dst := some 117, op := Op.load 26 (Operand.tmp 13), type := 26, pos := "law.go:116", after := #[{ on := 2, ground := Ground.guard }], guard := some (2, true) }) (v := ?_) rfl (by kernel_rfl) (by kernel_rfl) (by kernel_rfl) (fun _ _ _ h => h) (Or.inl ⟨by rfl, ?_⟩) hHeld ?_
        rotate_left
        · (intro w' hSw; (try dsimp only at hSw); go_split_ands; go_simp; first | done | with_reducible rfl)
        try simp only [Act.put, List.setIfInBounds_toArray, List.set_cons_zero, List.set_cons_succ]
        refine wpAnyH_take (i := 5) (oi := { dst := some 119, op := Op.load 34 (Operand.tmp 15), type := 34, pos := "law.go:116", after := #[{ on := 2, ground := Ground.guard }], guard := some (2, true) }) (v := ?_) rfl (by kernel_rfl) (by kernel_rfl) (by kernel_rfl) (fun _ _ _ h => h) (Or.inl ⟨by rfl, ?_⟩) hHeld ?_
        rotate_left
        · (intro w' hSw; (try dsimp only at hSw); go_split_ands; go_simp; first | done | with_reducible rfl)
        try simp only [Act.put, List.setIfInBounds_toArray, List.set_cons_zero, List.set_cons_succ]
        refine wpAnyH_ready (rs := [4]) (by kernel_rfl) (by simp) ?_
        refine AllReadyH.cons (o := { dst := some 118, op := Op.call { callee := Callee.value (Operand.func 13), args := #[Operand.tmp 117], argTypes := #[26] }, type := 34, pos := "law.go:116", after := #[{ on := 3, ground := Ground.data }, { on := 2, ground := Ground.chain }, { on := 2, ground := Ground.guard }], guard := some (2, true) }) rfl (fun K hK => ?_) AllReadyH.nil
        go_simp
        refine (plain_any A8 n c8 k8 d8 i8 u1 u2 wD.drew).mono ?_
        rintro en w15 ⟨rfl, hb15u⟩
        have hb15 : Below wD.heap.size wD w15 := below_undrew hb15u
        have s15 := HD9.out.below hb15 (by omega)
        have r15 := HDR.out.below hb15 (by omega)
        go_wp2_with fail
        refine hK.out _ _ ?_ ?_
        · (exact ⟨s15.c0, s15.c1, s15.c2, s15.c3, s15.c4, s15.c5, r15.c0, r15.c1, r15.c2, r15.c3, r15.c4, r15.c5⟩)
        clear hK K hHeld; intro hHeld
        try simp only [Act.put, List.setIfInBounds_toArray, List.set_cons_zero, List.set_cons_succ]
        refine wpAnyH_ready (rs := [6]) (by kernel_rfl) (by simp) ?_
        refine AllReadyH.cons (o := { dst := some 120, op := Op.call { callee := Callee.value (Operand.func 18), args := #[Operand.tmp 118, Operand.tmp 119], argTypes := #[34, 34] }, type := 4, pos := "law.go:116", after := #[{ on := 4, ground := Ground.data }, { on := 5, ground := Ground.data }, { on := 4, ground := Ground.chain }, { on := 2, ground := Ground.guard }], guard := some (2, true) }) rfl (fun K hK => ?_) AllReadyH.nil
        have hb1415 : Below w14.heap.size w14 w15 := HDD.out.trans (hb15.mono hDs)
        have hS8 := (HSL.out.below ((hb913.trans (hb14'.mono hb913.size)).trans (hb1415.mono (by have h1 := (hb913).size; have h2 := hb14'.size; omega)))).more (Nat.le_trans (by have h1 := (hb913).size; have h2 := hb14'.size; omega) hb1415.size)
        have hST := ((HLT.out.below (hb1415.mono hb14'.size)).more (Nat.le_trans hb14'.size hb1415.size))
        go_simp
        refine (RefSameR_true A8 A12 n c8 c12 (sortN ls) (by rw [sortN_length]; exact HN.out) k8 d8 i8 u1 u2 w15 hS8 hST (HN.out ▸ HFA.out.sz.2.2)).mono ?_
        rintro en w16 ⟨rfl, hb16⟩
        have s16 := s15.below hb16 (by have := hb15.size; omega)
        have r16 := r15.below hb16 (by have := hb15.size; omega)
        go_wp2_with fail
        refine hK.out _ _ ?_ ?_
        · (exact ⟨s16.c0, s16.c1, s16.c2, s16.c3, s16.c4, s16.c5, r16.c0, r16.c1, r16.c2, r16.c3, r16.c4, r16.c5⟩)
        clear hK K hHeld; intro hHeld
        try simp only [Act.put, List.setIfInBounds_toArray, List.set_cons_zero, List.set_cons_succ]
        refine wpAnyH_take (i := 7) (oi := { dst := some 121, op := Op.pick (Operand.tmp 116) (Operand.tmp 120) (Operand.const (Value.bool false)), type := 4, pos := "law.go:116", after := #[{ on := 2, ground := Ground.data }, { on := 6, ground := Ground.data }], guard := none }) (v := ?_) rfl (by kernel_rfl) (by kernel_rfl) (by kernel_rfl) (fun _ _ _ h => h) (Or.inl ⟨by rfl, ?_⟩) hHeld ?_
        rotate_left
        · (intro w' hSw; (try dsimp only at hSw); go_split_ands; go_simp; first | done | with_reducible rfl)
        try simp only [Act.put, List.setIfInBounds_toArray, List.set_cons_zero, List.set_cons_succ]
        refine wpAnyH_take (i := 8) (oi := { dst := some 122, op := Op.move (Operand.tmp 121), type := 4, pos := "law.go:116", after := #[{ on := 7, ground := Ground.data }, { on := 6, ground := Ground.chain }], guard := none }) (v := ?_) rfl (by kernel_rfl) (by kernel_rfl) (by kernel_rfl) (fun _ _ _ h => h) (Or.inl ⟨by rfl, ?_⟩) hHeld ?_
        rotate_left
        · (intro w' hSw; (try dsimp only at hSw); go_split_ands; go_simp; first | done | with_reducible rfl)
        try simp only [Act.put, List.setIfInBounds_toArray, List.set_cons_zero, List.set_cons_succ]
        refine wpAnyH_take (i := 9) (oi := { dst := some 123, op := Op.move (Operand.tmp 11), type := 29, pos := "law.go:116", after := #[{ on := 8, ground := Ground.guard }], guard := some (8, true) }) (v := ?_) rfl (by kernel_rfl) (by kernel_rfl) (by kernel_rfl) (fun _ _ _ h => h) (Or.inl ⟨by rfl, ?_⟩) hHeld ?_
        rotate_left
        · (intro w' hSw; (try dsimp only at hSw); go_split_ands; go_simp; first | done | with_reducible rfl)
        try simp only [Act.put, List.setIfInBounds_toArray, List.set_cons_zero, List.set_cons_succ]
        refine wpAnyH_take (i := 10) (oi := { dst := some 124, op := Op.call { callee := Callee.builtin Builtin.len, args := #[Operand.tmp 123], argTypes := #[29] }, type := 3, pos := "law.go:116", after := #[{ on := 9, ground := Ground.data }, { on := 8, ground := Ground.guard }], guard := some (8, true) }) (v := ?_) rfl (by kernel_rfl) (by kernel_rfl) (by kernel_rfl) (fun _ _ _ h => h) (Or.inl ⟨by rfl, ?_⟩) hHeld ?_
        rotate_left
        · (intro w' hSw; (try dsimp only at hSw); go_split_ands; go_simp; first | done | with_reducible rfl)
        try simp only [Act.put, List.setIfInBounds_toArray, List.set_cons_zero, List.set_cons_succ]
        refine wpAnyH_take (i := 11) (oi := { dst := some 125, op := Op.binOp BinOp.leq 3 (Operand.tmp 124) (Operand.const (Value.int IntKind.i64 400)) 3, type := 4, pos := "law.go:116", after := #[{ on := 10, ground := Ground.data }, { on := 8, ground := Ground.guard }], guard := some (8, true) }) (v := ?_) rfl (by kernel_rfl) (by kernel_rfl) (by kernel_rfl) (fun _ _ _ h => h) (Or.inl ⟨by rfl, ?_⟩) hHeld ?_
        rotate_left
        · (intro w' hSw; (try dsimp only at hSw); go_split_ands; go_simp; first | done | with_reducible rfl)
        try simp only [Act.put, List.setIfInBounds_toArray, List.set_cons_zero, List.set_cons_succ]
        refine wpAnyH_take (i := 12) (oi := { dst := some 126, op := Op.pick (Operand.tmp 122) (Operand.tmp 125) (Operand.const (Value.bool false)), type := 4, pos := "law.go:116", after := #[{ on := 8, ground := Ground.data }, { on := 11, ground := Ground.data }], guard := none }) (v := ?_) rfl (by kernel_rfl) (by kernel_rfl) (by kernel_rfl) (fun _ _ _ h => h) (Or.inl ⟨by rfl, ?_⟩) hHeld ?_
        rotate_left
        · (intro w' hSw; (try dsimp only at hSw); go_split_ands; go_simp; first | done | with_reducible rfl)
        try simp only [Act.put, List.setIfInBounds_toArray, List.set_cons_zero, List.set_cons_succ]
        refine wpAnyH_take (i := 13) (oi := { dst := some 4, op := Op.assign (Operand.tmp 126), type := 4, pos := "law.go:116", after := #[{ on := 12, ground := Ground.data }, { on := 8, ground := Ground.chain }, { on := 0, ground := Ground.phase }, { on := 1, ground := Ground.phase }, { on := 2, ground := Ground.phase }, { on := 3, ground := Ground.phase }, { on := 4, ground := Ground.phase }, { on := 5, ground := Ground.phase }, { on := 6, ground := Ground.phase }, { on := 7, ground := Ground.phase }, { on := 8, ground := Ground.phase }, { on := 9, ground := Ground.phase }, { on := 10, ground := Ground.phase }, { on := 11, ground := Ground.phase }, { on := 12, ground := Ground.phase }], guard := none }) (v := ?_) rfl (by kernel_rfl) (by kernel_rfl) (by kernel_rfl) (fun _ _ _ h => h) (Or.inl ⟨by rfl, ?_⟩) hHeld ?_
        rotate_left
        · (intro w' hSw; (try dsimp only at hSw); go_split_ands; go_simp; first | done | with_reducible rfl)
        try simp only [Act.put, List.setIfInBounds_toArray, List.set_cons_zero, List.set_cons_succ]
        refine wpAnyH_done (by kernel_rfl) ?_ _
        refine NoPanic.normal ?_
        have b16 : Below w.heap.size w w16 := b14.trans (((HDD.out.trans (hb15.mono hDs)).trans (hb16.mono (by have := hb15.size; omega))).mono b14.size)
        go_wp2_with fail
        go_ret
        exact ⟨by simp, b16⟩
      · obtain ⟨P, hP1, hP2⟩ := ahead_pre HMA.out hk2
        obtain ⟨rfl, hlP⟩ : k14 = 0 ∧ l14 = P := by
          rcases hres14 with ⟨-, -, h1, h2⟩ | ⟨h, -, -⟩
          · exact ⟨h1, h2.trans hP1⟩
          · exact absurd ⟨may_id HMA.out (by omega) (by omega), hk2⟩ h
        have hkb : (k8 == 2) = false := by rw [beq_eq_false_iff_ne]; exact hk2
        have hMP := HM.out.symm.trans hP2
        subst hlP
        have hlen4 : n14 + 4 = ml := by rw [← HMLL.out, hMP, List.length_append, four_len, hl14]
        have hnm : n14 < ml := by omega
        have hnc7 : n14 ≤ c7 := by omega
        have hSm : Sees w14 w7.heap.size A7 (bv l14) := by
          have h1 := HM14.out.take n14
          rw [← bv_take, hMP, List.take_left' hl14] at h1
          exact h1
        have cvm := fun q => run_str (w14.drewN q) _ A7 n14 c7 l14 (hSm.drewN q) hl14
        have cva := fun q => run_str (w14.drewN q) _ A14 n14 c14 l14 (hs14.drewN q) hl14
        generalize strOf l14 = sP at cvm cva
        have hnmi : (n14 : Int) < (ml : Int) := by omega
        clear hres14 hl14 hs14 hk2 hP1 hP2 hMP hlen4 hSm
        go_wp2_with fail
        go_quiet (fail)
        go_wp2_with fail
        have hDw : Below w14.heap.size w14 (w14.drewN nq) := below_d (Below.refl _ _) nq
        have lt9 : w8.heap.size < w14.heap.size := by have h1 := (hb913).size; have h2 := hb14'.size; omega
        have ltR : w10.heap.size < w14.heap.size := by have h1 := hs1013; have h2 := hb14'.size; omega
        have HD9 := H9w.out.below hDw lt9
        have HDR := HRw.out.below hDw ltR
        have hDs := hDw.size
        have hm400 : (ml : Int) ≤ 400 := by omega
        have HDD := Lib.hid hDw
        clear m0 m1 m2 m3 m4 m5
        generalize w14.drewN nq = wD at hDw HD9 HDR hDs HDD ⊢
        obtain ⟨g0, g1, g2, g3, g4, g5, -⟩ := HD9
        obtain ⟨f0, f1, f2, f3, f4, f5, -⟩ := HDR
        have HD9 := Lib.hid (H9w.out.below hDw lt9)
        have HDR := Lib.hid (HRw.out.below hDw ltR)
        refine wp_region_noPanic ?_
        refine wp_region_held_drew (S := fun w' => w'.cell? ⟨w8.heap.size, 0, none⟩ = some (.int .i64 k8) ∧ w'.cell? ⟨w8.heap.size, 1, none⟩ = some (.slice A8 n c8) ∧ w'.cell? ⟨w8.heap.size, 2, none⟩ = some (.string u1) ∧ w'.cell? ⟨w8.heap.size, 3, none⟩ = some (.string u2) ∧ w'.cell? ⟨w8.heap.size, 4, none⟩ = some (.int .i64 d8) ∧ w'.cell? ⟨w8.heap.size, 5, none⟩ = some (.int .i64 i8) ∧ w'.cell? ⟨w10.heap.size, 0, none⟩ = some (.int .i64 k8) ∧ w'.cell? ⟨w10.heap.size, 1, none⟩ = some (.slice A12 n c12) ∧ w'.cell? ⟨w10.heap.size, 2, none⟩ = some (.string u1) ∧ w'.cell? ⟨w10.heap.size, 3, none⟩ = some (.string u2) ∧ w'.cell? ⟨w10.heap.size, 4, none⟩ = some (.int .i64 d8) ∧ w'.cell? ⟨w10.heap.size, 5, none⟩ = some (.int .i64 i8)) (by kernel_rfl) ?_ (fun hHeld => ?_)
        · (exact ⟨g0, g1, g2, g3, g4, g5, f0, f1, f2, f3, f4, f5⟩)
        refine wpAnyH_take (i := 0) (oi := { dst := some 114, op := Op.move (Operand.tmp 14), type := 30, pos := "law.go:116", after := #[], guard := none }) (v := ?_) rfl (by kernel_rfl) (by kernel_rfl) (by kernel_rfl) (fun _ _ _ h => h) (Or.inl ⟨by rfl, ?_⟩) hHeld ?_
        rotate_left
        · (intro w' hSw; (try dsimp only at hSw); go_split_ands; go_simp; first | done | with_reducible rfl)
        try simp only [Act.put, List.setIfInBounds_toArray, List.set_cons_zero, List.set_cons_succ]
        refine wpAnyH_take (i := 1) (oi := { dst := some 115, op := Op.binOp BinOp.eql 30 (Operand.tmp 114) (Operand.const (Value.int IntKind.i64 0)) 30, type := 4, pos := "law.go:116", after := #[{ on := 0, ground := Ground.data }], guard := none }) (v := ?_) rfl (by kernel_rfl) (by kernel_rfl) (by kernel_rfl) (fun _ _ _ h => h) (Or.inl ⟨by rfl, ?_⟩) hHeld ?_
        rotate_left
        · (intro w' hSw; (try dsimp only at hSw); go_split_ands; go_simp; first | done | with_reducible rfl)
        try simp only [Act.put, List.setIfInBounds_toArray, List.set_cons_zero, List.set_cons_succ]
        refine wpAnyH_take (i := 2) (oi := { dst := some 116, op := Op.move (Operand.tmp 115), type := 4, pos := "law.go:116", after := #[{ on := 1, ground := Ground.data }], guard := none }) (v := ?_) rfl (by kernel_rfl) (by kernel_rfl) (by kernel_rfl) (fun _ _ _ h => h) (Or.inl ⟨by rfl, ?_⟩) hHeld ?_
        rotate_left
        · (intro w' hSw; (try dsimp only at hSw); go_split_ands; go_simp; first | done | with_reducible rfl)
        try simp only [Act.put, List.setIfInBounds_toArray, List.set_cons_zero, List.set_cons_succ]
        refine wpAnyH_take (i := 3) (oi := { dst := some 117, op := Op.load 26 (Operand.tmp 13), type := 26, pos := "law.go:116", after := #[{ on := 2, ground := Ground.guard }], guard := some (2, true) }) (v := ?_) rfl (by kernel_rfl) (by kernel_rfl) (by kernel_rfl) (fun _ _ _ h => h) (Or.inl ⟨by rfl, ?_⟩) hHeld ?_
        rotate_left
        · (intro w' hSw; (try dsimp only at hSw); go_split_ands; go_simp; first | done | with_reducible rfl)
        try simp only [Act.put, List.setIfInBounds_toArray, List.set_cons_zero, List.set_cons_succ]
        refine wpAnyH_take (i := 5) (oi := { dst := some 119, op := Op.load 34 (Operand.tmp 15), type := 34, pos := "law.go:116", after := #[{ on := 2, ground := Ground.guard }], guard := some (2, true) }) (v := ?_) rfl (by kernel_rfl) (by kernel_rfl) (by kernel_rfl) (fun _ _ _ h => h) (Or.inl ⟨by rfl, ?_⟩) hHeld ?_
        rotate_left
        · (intro w' hSw; (try dsimp only at hSw); go_split_ands; go_simp; first | done | with_reducible rfl)
        try simp only [Act.put, List.setIfInBounds_toArray, List.set_cons_zero, List.set_cons_succ]
        refine wpAnyH_ready (rs := [4]) (by kernel_rfl) (by simp) ?_
        refine AllReadyH.cons (o := { dst := some 118, op := Op.call { callee := Callee.value (Operand.func 13), args := #[Operand.tmp 117], argTypes := #[26] }, type := 34, pos := "law.go:116", after := #[{ on := 3, ground := Ground.data }, { on := 2, ground := Ground.chain }, { on := 2, ground := Ground.guard }], guard := some (2, true) }) rfl (fun K hK => ?_) AllReadyH.nil
        go_simp
        refine (plain_any A8 n c8 k8 d8 i8 u1 u2 wD.drew).mono ?_
        rintro en w15 ⟨rfl, hb15u⟩
        have hb15 : Below wD.heap.size wD w15 := below_undrew hb15u
        have s15 := HD9.out.below hb15 (by omega)
        have r15 := HDR.out.below hb15 (by omega)
        go_wp2_with fail
        refine hK.out _ _ ?_ ?_
        · (exact ⟨s15.c0, s15.c1, s15.c2, s15.c3, s15.c4, s15.c5, r15.c0, r15.c1, r15.c2, r15.c3, r15.c4, r15.c5⟩)
        clear hK K hHeld; intro hHeld
        try simp only [Act.put, List.setIfInBounds_toArray, List.set_cons_zero, List.set_cons_succ]
        refine wpAnyH_ready (rs := [6]) (by kernel_rfl) (by simp) ?_
        refine AllReadyH.cons (o := { dst := some 120, op := Op.call { callee := Callee.value (Operand.func 18), args := #[Operand.tmp 118, Operand.tmp 119], argTypes := #[34, 34] }, type := 4, pos := "law.go:116", after := #[{ on := 4, ground := Ground.data }, { on := 5, ground := Ground.data }, { on := 4, ground := Ground.chain }, { on := 2, ground := Ground.guard }], guard := some (2, true) }) rfl (fun K hK => ?_) AllReadyH.nil
        have hb1415 : Below w14.heap.size w14 w15 := HDD.out.trans (hb15.mono hDs)
        have hS8 := (HSL.out.below ((hb913.trans (hb14'.mono hb913.size)).trans (hb1415.mono (by have h1 := (hb913).size; have h2 := hb14'.size; omega)))).more (Nat.le_trans (by have h1 := (hb913).size; have h2 := hb14'.size; omega) hb1415.size)
        have hST := ((HLT.out.below (hb1415.mono hb14'.size)).more (Nat.le_trans hb14'.size hb1415.size))
        go_simp
        refine (RefSameR_true A8 A12 n c8 c12 (sortN ls) (by rw [sortN_length]; exact HN.out) k8 d8 i8 u1 u2 w15 hS8 hST (HN.out ▸ HFA.out.sz.2.2)).mono ?_
        rintro en w16 ⟨rfl, hb16⟩
        have s16 := s15.below hb16 (by have := hb15.size; omega)
        have r16 := r15.below hb16 (by have := hb15.size; omega)
        go_wp2_with fail
        refine hK.out _ _ ?_ ?_
        · (exact ⟨s16.c0, s16.c1, s16.c2, s16.c3, s16.c4, s16.c5, r16.c0, r16.c1, r16.c2, r16.c3, r16.c4, r16.c5⟩)
        clear hK K hHeld; intro hHeld
        try simp only [Act.put, List.setIfInBounds_toArray, List.set_cons_zero, List.set_cons_succ]
        refine wpAnyH_take (i := 7) (oi := { dst := some 121, op := Op.pick (Operand.tmp 116) (Operand.tmp 120) (Operand.const (Value.bool false)), type := 4, pos := "law.go:116", after := #[{ on := 2, ground := Ground.data }, { on := 6, ground := Ground.data }], guard := none }) (v := ?_) rfl (by kernel_rfl) (by kernel_rfl) (by kernel_rfl) (fun _ _ _ h => h) (Or.inl ⟨by rfl, ?_⟩) hHeld ?_
        rotate_left
        · (intro w' hSw; (try dsimp only at hSw); go_split_ands; go_simp; first | done | with_reducible rfl)
        try simp only [Act.put, List.setIfInBounds_toArray, List.set_cons_zero, List.set_cons_succ]
        refine wpAnyH_take (i := 8) (oi := { dst := some 122, op := Op.move (Operand.tmp 121), type := 4, pos := "law.go:116", after := #[{ on := 7, ground := Ground.data }, { on := 6, ground := Ground.chain }], guard := none }) (v := ?_) rfl (by kernel_rfl) (by kernel_rfl) (by kernel_rfl) (fun _ _ _ h => h) (Or.inl ⟨by rfl, ?_⟩) hHeld ?_
        rotate_left
        · (intro w' hSw; (try dsimp only at hSw); go_split_ands; go_simp; first | done | with_reducible rfl)
        try simp only [Act.put, List.setIfInBounds_toArray, List.set_cons_zero, List.set_cons_succ]
        refine wpAnyH_take (i := 9) (oi := { dst := some 123, op := Op.move (Operand.tmp 11), type := 29, pos := "law.go:116", after := #[{ on := 8, ground := Ground.guard }], guard := some (8, true) }) (v := ?_) rfl (by kernel_rfl) (by kernel_rfl) (by kernel_rfl) (fun _ _ _ h => h) (Or.inl ⟨by rfl, ?_⟩) hHeld ?_
        rotate_left
        · (intro w' hSw; (try dsimp only at hSw); go_split_ands; go_simp; first | done | with_reducible rfl)
        try simp only [Act.put, List.setIfInBounds_toArray, List.set_cons_zero, List.set_cons_succ]
        refine wpAnyH_take (i := 10) (oi := { dst := some 124, op := Op.call { callee := Callee.builtin Builtin.len, args := #[Operand.tmp 123], argTypes := #[29] }, type := 3, pos := "law.go:116", after := #[{ on := 9, ground := Ground.data }, { on := 8, ground := Ground.guard }], guard := some (8, true) }) (v := ?_) rfl (by kernel_rfl) (by kernel_rfl) (by kernel_rfl) (fun _ _ _ h => h) (Or.inl ⟨by rfl, ?_⟩) hHeld ?_
        rotate_left
        · (intro w' hSw; (try dsimp only at hSw); go_split_ands; go_simp; first | done | with_reducible rfl)
        try simp only [Act.put, List.setIfInBounds_toArray, List.set_cons_zero, List.set_cons_succ]
        refine wpAnyH_take (i := 11) (oi := { dst := some 125, op := Op.binOp BinOp.leq 3 (Operand.tmp 124) (Operand.const (Value.int IntKind.i64 400)) 3, type := 4, pos := "law.go:116", after := #[{ on := 10, ground := Ground.data }, { on := 8, ground := Ground.guard }], guard := some (8, true) }) (v := ?_) rfl (by kernel_rfl) (by kernel_rfl) (by kernel_rfl) (fun _ _ _ h => h) (Or.inl ⟨by rfl, ?_⟩) hHeld ?_
        rotate_left
        · (intro w' hSw; (try dsimp only at hSw); go_split_ands; go_simp; first | done | with_reducible rfl)
        try simp only [Act.put, List.setIfInBounds_toArray, List.set_cons_zero, List.set_cons_succ]
        refine wpAnyH_take (i := 12) (oi := { dst := some 126, op := Op.pick (Operand.tmp 122) (Operand.tmp 125) (Operand.const (Value.bool false)), type := 4, pos := "law.go:116", after := #[{ on := 8, ground := Ground.data }, { on := 11, ground := Ground.data }], guard := none }) (v := ?_) rfl (by kernel_rfl) (by kernel_rfl) (by kernel_rfl) (fun _ _ _ h => h) (Or.inl ⟨by rfl, ?_⟩) hHeld ?_
        rotate_left
        · (intro w' hSw; (try dsimp only at hSw); go_split_ands; go_simp; first | done | with_reducible rfl)
        try simp only [Act.put, List.setIfInBounds_toArray, List.set_cons_zero, List.set_cons_succ]
        refine wpAnyH_take (i := 13) (oi := { dst := some 4, op := Op.assign (Operand.tmp 126), type := 4, pos := "law.go:116", after := #[{ on := 12, ground := Ground.data }, { on := 8, ground := Ground.chain }, { on := 0, ground := Ground.phase }, { on := 1, ground := Ground.phase }, { on := 2, ground := Ground.phase }, { on := 3, ground := Ground.phase }, { on := 4, ground := Ground.phase }, { on := 5, ground := Ground.phase }, { on := 6, ground := Ground.phase }, { on := 7, ground := Ground.phase }, { on := 8, ground := Ground.phase }, { on := 9, ground := Ground.phase }, { on := 10, ground := Ground.phase }, { on := 11, ground := Ground.phase }, { on := 12, ground := Ground.phase }], guard := none }) (v := ?_) rfl (by kernel_rfl) (by kernel_rfl) (by kernel_rfl) (fun _ _ _ h => h) (Or.inl ⟨by rfl, ?_⟩) hHeld ?_
        rotate_left
        · (intro w' hSw; (try dsimp only at hSw); go_split_ands; go_simp; first | done | with_reducible rfl)
        try simp only [Act.put, List.setIfInBounds_toArray, List.set_cons_zero, List.set_cons_succ]
        refine wpAnyH_done (by kernel_rfl) ?_ _
        refine NoPanic.normal ?_
        have b16 : Below w.heap.size w w16 := b14.trans (((HDD.out.trans (hb15.mono hDs)).trans (hb16.mono (by have := hb15.size; omega))).mono b14.size)
        go_wp2_with fail
        go_ret
        exact ⟨by simp, b16⟩

    · have hnil : ls = [] := List.eq_nil_of_length_eq_zero (by have := HN.out; omega)
      have hb711 : Below w7.heap.size w7 W11 := (hb8'.trans (hb89.mono hb8'.size)).trans (hb911.mono (by have := hb8'.size; have := hb89.size; omega))
      have hsL11 : Sees W11 W11.heap.size A (lv (sortN ls)) := by rw [hnil]; exact Sees.nil _ _ _
      have HNIL := Lib.hid hnil
      clear m0 m1 m2 m3 m4 m5 hnil
      have hAh := Lib.hid (Ahead_any A n c ls HN.out k8 d8 i8 u1 u2 W11 ((hS.below b11).more b11.size) (HN.out ▸ HFA.out.sz.2.2) HFA.out.sz.1 HFA.out.sz.2.1)
      obtain ⟨m0, m1, m2, m3, m4, m5, -⟩ := HX.out.below hb11 hs1
      go_wp2_with fail
      refine hAh.out.mono ?_
      rintro en w14 ⟨A14, n14, c14, k14, l14, rfl, hb14', hl14, hc14, hs14, hres14⟩
      have hb14 : Below W1.heap.size W1 w14 := hb11.trans (hb14'.mono hb11.size)
      have b14 : Below w.heap.size w w14 := hb1.trans (hb14.mono hb1.size)
      have H9w := Lib.hid (H9.out.below (hb911.trans (hb14'.mono hb911.size)) hs89)
      have HRw := Lib.hid (H11.out.below hb14' hs1011)
      have hm14 := hs7.below (((hb711)).trans (hb14'.mono (hb711).size))
      clear m0 m1 m2 m3 m4 m5 hAh
      obtain ⟨m0, m1, m2, m3, m4, m5, -⟩ := HX.out.below hb14 hs1
      have HM14 := Lib.hid hm14
      have HLT := Lib.hid (hsL11.below (hb14'.mono (Nat.le_refl _)))
      have HSL := Lib.hid hsL
      by_cases hk2 : k8 = 2
      · obtain ⟨rfl, rfl⟩ : k14 = 120 ∧ n14 = 0 := by
          rcases hres14 with ⟨-, h, -⟩ | ⟨-, h1, h2⟩
          · exact absurd hk2 h
          · exact ⟨h1, by rw [← hl14, h2]; rfl⟩
        have hkb : (k8 == 2) = true := by rw [hk2]; rfl
        clear hres14 hl14 hs14 hk2
        go_wp2_with fail
        go_quiet (fail)
        go_wp2_with fail
        have hDw : Below w14.heap.size w14 (w14.drewN nq) := below_d (Below.refl _ _) nq
        have lt9 : w8.heap.size < w14.heap.size := by have h1 := (hb911).size; have h2 := hb14'.size; omega
        have ltR : w10.heap.size < w14.heap.size := by have h1 := hs1011; have h2 := hb14'.size; omega
        have HD9 := H9w.out.below hDw lt9
        have HDR := HRw.out.below hDw ltR
        have hDs := hDw.size
        have hm400 : (ml : Int) ≤ 400 := by omega
        have HDD := Lib.hid hDw
        clear m0 m1 m2 m3 m4 m5
        generalize w14.drewN nq = wD at hDw HD9 HDR hDs HDD ⊢
        obtain ⟨g0, g1, g2, g3, g4, g5, -⟩ := HD9
        obtain ⟨f0, f1, f2, f3, f4, f5, -⟩ := HDR
        have HD9 := Lib.hid (H9w.out.below hDw lt9)
        have HDR := Lib.hid (HRw.out.below hDw ltR)
        refine wp_region_noPanic ?_
        refine wp_region_held_drew (S := fun w' => w'.cell? ⟨w8.heap.size, 0, none⟩ = some (.int .i64 k8) ∧ w'.cell? ⟨w8.heap.size, 1, none⟩ = some (.slice A8 n c8) ∧ w'.cell? ⟨w8.heap.size, 2, none⟩ = some (.string u1) ∧ w'.cell? ⟨w8.heap.size, 3, none⟩ = some (.string u2) ∧ w'.cell? ⟨w8.heap.size, 4, none⟩ = some (.int .i64 d8) ∧ w'.cell? ⟨w8.heap.size, 5, none⟩ = some (.int .i64 i8) ∧ w'.cell? ⟨w10.heap.size, 0, none⟩ = some (.int .i64 k8) ∧ w'.cell? ⟨w10.heap.size, 1, none⟩ = some (.slice A n c) ∧ w'.cell? ⟨w10.heap.size, 2, none⟩ = some (.string u1) ∧ w'.cell? ⟨w10.heap.size, 3, none⟩ = some (.string u2) ∧ w'.cell? ⟨w10.heap.size, 4, none⟩ = some (.int .i64 d8) ∧ w'.cell? ⟨w10.heap.size, 5, none⟩ = some (.int .i64 i8)) (by kernel_rfl) ?_ (fun hHeld => ?_)
        · (exact ⟨g0, g1, g2, g3, g4, g5, f0, f1, f2, f3, f4, f5⟩)
        refine wpAnyH_take (i := 0) (oi := { dst := some 114, op := Op.move (Operand.tmp 14), type := 30, pos := "law.go:116", after := #[], guard := none }) (v := ?_) rfl (by kernel_rfl) (by kernel_rfl) (by kernel_rfl) (fun _ _ _ h => h) (Or.inl ⟨by rfl, ?_⟩) hHeld ?_
        rotate_left
        · (intro w' hSw; (try dsimp only at hSw); go_split_ands; go_simp; first | done | with_reducible rfl)
        try simp only [Act.put, List.setIfInBounds_toArray, List.set_cons_zero, List.set_cons_succ]
        refine wpAnyH_take (i := 1) (oi := { dst := some 115, op := Op.binOp BinOp.eql 30 (Operand.tmp 114) (Operand.const (Value.int IntKind.i64 0)) 30, type := 4, pos := "law.go:116", after := #[{ on := 0, ground := Ground.data }], guard := none }) (v := ?_) rfl (by kernel_rfl) (by kernel_rfl) (by kernel_rfl) (fun _ _ _ h => h) (Or.inl ⟨by rfl, ?_⟩) hHeld ?_
        rotate_left
        · (intro w' hSw; (try dsimp only at hSw); go_split_ands; go_simp; first | done | with_reducible rfl)
        try simp only [Act.put, List.setIfInBounds_toArray, List.set_cons_zero, List.set_cons_succ]
        refine wpAnyH_take (i := 2) (oi := { dst := some 116, op := Op.move (Operand.tmp 115), type := 4, pos := "law.go:116", after := #[{ on := 1, ground := Ground.data }], guard := none }) (v := ?_) rfl (by kernel_rfl) (by kernel_rfl) (by kernel_rfl) (fun _ _ _ h => h) (Or.inl ⟨by rfl, ?_⟩) hHeld ?_
        rotate_left
        · (intro w' hSw; (try dsimp only at hSw); go_split_ands; go_simp; first | done | with_reducible rfl)
        try simp only [Act.put, List.setIfInBounds_toArray, List.set_cons_zero, List.set_cons_succ]
        refine wpAnyH_take (i := 3) (oi := { dst := some 117, op := Op.load 26 (Operand.tmp 13), type := 26, pos := "law.go:116", after := #[{ on := 2, ground := Ground.guard }], guard := some (2, true) }) (v := ?_) rfl (by kernel_rfl) (by kernel_rfl) (by kernel_rfl) (fun _ _ _ h => h) (Or.inl ⟨by rfl, ?_⟩) hHeld ?_
        rotate_left
        · (intro w' hSw; (try dsimp only at hSw); go_split_ands; go_simp; first | done | with_reducible rfl)
        try simp only [Act.put, List.setIfInBounds_toArray, List.set_cons_zero, List.set_cons_succ]
        refine wpAnyH_take (i := 5) (oi := { dst := some 119, op := Op.load 34 (Operand.tmp 15), type := 34, pos := "law.go:116", after := #[{ on := 2, ground := Ground.guard }], guard := some (2, true) }) (v := ?_) rfl (by kernel_rfl) (by kernel_rfl) (by kernel_rfl) (fun _ _ _ h => h) (Or.inl ⟨by rfl, ?_⟩) hHeld ?_
        rotate_left
        · (intro w' hSw; (try dsimp only at hSw); go_split_ands; go_simp; first | done | with_reducible rfl)
        try simp only [Act.put, List.setIfInBounds_toArray, List.set_cons_zero, List.set_cons_succ]
        refine wpAnyH_ready (rs := [4]) (by kernel_rfl) (by simp) ?_
        refine AllReadyH.cons (o := { dst := some 118, op := Op.call { callee := Callee.value (Operand.func 13), args := #[Operand.tmp 117], argTypes := #[26] }, type := 34, pos := "law.go:116", after := #[{ on := 3, ground := Ground.data }, { on := 2, ground := Ground.chain }, { on := 2, ground := Ground.guard }], guard := some (2, true) }) rfl (fun K hK => ?_) AllReadyH.nil
        go_simp
        refine (plain_any A8 n c8 k8 d8 i8 u1 u2 wD.drew).mono ?_
        rintro en w15 ⟨rfl, hb15u⟩
        have hb15 : Below wD.heap.size wD w15 := below_undrew hb15u
        have s15 := HD9.out.below hb15 (by omega)
        have r15 := HDR.out.below hb15 (by omega)
        go_wp2_with fail
        refine hK.out _ _ ?_ ?_
        · (exact ⟨s15.c0, s15.c1, s15.c2, s15.c3, s15.c4, s15.c5, r15.c0, r15.c1, r15.c2, r15.c3, r15.c4, r15.c5⟩)
        clear hK K hHeld; intro hHeld
        try simp only [Act.put, List.setIfInBounds_toArray, List.set_cons_zero, List.set_cons_succ]
        refine wpAnyH_ready (rs := [6]) (by kernel_rfl) (by simp) ?_
        refine AllReadyH.cons (o := { dst := some 120, op := Op.call { callee := Callee.value (Operand.func 18), args := #[Operand.tmp 118, Operand.tmp 119], argTypes := #[34, 34] }, type := 4, pos := "law.go:116", after := #[{ on := 4, ground := Ground.data }, { on := 5, ground := Ground.data }, { on := 4, ground := Ground.chain }, { on := 2, ground := Ground.guard }], guard := some (2, true) }) rfl (fun K hK => ?_) AllReadyH.nil
        have hb1415 : Below w14.heap.size w14 w15 := HDD.out.trans (hb15.mono hDs)
        have hS8 := (HSL.out.below ((hb911.trans (hb14'.mono hb911.size)).trans (hb1415.mono (by have h1 := (hb911).size; have h2 := hb14'.size; omega)))).more (Nat.le_trans (by have h1 := (hb911).size; have h2 := hb14'.size; omega) hb1415.size)
        have hST := ((HLT.out.below (hb1415.mono hb14'.size)).more (Nat.le_trans hb14'.size hb1415.size))
        go_simp
        refine (RefSameR_true A8 A n c8 c (sortN ls) (by rw [sortN_length]; exact HN.out) k8 d8 i8 u1 u2 w15 hS8 hST (HN.out ▸ HFA.out.sz.2.2)).mono ?_
        rintro en w16 ⟨rfl, hb16⟩
        have s16 := s15.below hb16 (by have := hb15.size; omega)
        have r16 := r15.below hb16 (by have := hb15.size; omega)
        go_wp2_with fail
        refine hK.out _ _ ?_ ?_
        · (exact ⟨s16.c0, s16.c1, s16.c2, s16.c3, s16.c4, s16.c5, r16.c0, r16.c1, r16.c2, r16.c3, r16.c4, r16.c5⟩)
        clear hK K hHeld; intro hHeld
        try simp only [Act.put, List.setIfInBounds_toArray, List.set_cons_zero, List.set_cons_succ]
        refine wpAnyH_take (i := 7) (oi := { dst := some 121, op := Op.pick (Operand.tmp 116) (Operand.tmp 120) (Operand.const (Value.bool false)), type := 4, pos := "law.go:116", after := #[{ on := 2, ground := Ground.data }, { on := 6, ground := Ground.data }], guard := none }) (v := ?_) rfl (by kernel_rfl) (by kernel_rfl) (by kernel_rfl) (fun _ _ _ h => h) (Or.inl ⟨by rfl, ?_⟩) hHeld ?_
        rotate_left
        · (intro w' hSw; (try dsimp only at hSw); go_split_ands; go_simp; first | done | with_reducible rfl)
        try simp only [Act.put, List.setIfInBounds_toArray, List.set_cons_zero, List.set_cons_succ]
        refine wpAnyH_take (i := 8) (oi := { dst := some 122, op := Op.move (Operand.tmp 121), type := 4, pos := "law.go:116", after := #[{ on := 7, ground := Ground.data }, { on := 6, ground := Ground.chain }], guard := none }) (v := ?_) rfl (by kernel_rfl) (by kernel_rfl) (by kernel_rfl) (fun _ _ _ h => h) (Or.inl ⟨by rfl, ?_⟩) hHeld ?_
        rotate_left
        · (intro w' hSw; (try dsimp only at hSw); go_split_ands; go_simp; first | done | with_reducible rfl)
        try simp only [Act.put, List.setIfInBounds_toArray, List.set_cons_zero, List.set_cons_succ]
        refine wpAnyH_take (i := 9) (oi := { dst := some 123, op := Op.move (Operand.tmp 11), type := 29, pos := "law.go:116", after := #[{ on := 8, ground := Ground.guard }], guard := some (8, true) }) (v := ?_) rfl (by kernel_rfl) (by kernel_rfl) (by kernel_rfl) (fun _ _ _ h => h) (Or.inl ⟨by rfl, ?_⟩) hHeld ?_
        rotate_left
        · (intro w' hSw; (try dsimp only at hSw); go_split_ands; go_simp; first | done | with_reducible rfl)
        try simp only [Act.put, List.setIfInBounds_toArray, List.set_cons_zero, List.set_cons_succ]
        refine wpAnyH_take (i := 10) (oi := { dst := some 124, op := Op.call { callee := Callee.builtin Builtin.len, args := #[Operand.tmp 123], argTypes := #[29] }, type := 3, pos := "law.go:116", after := #[{ on := 9, ground := Ground.data }, { on := 8, ground := Ground.guard }], guard := some (8, true) }) (v := ?_) rfl (by kernel_rfl) (by kernel_rfl) (by kernel_rfl) (fun _ _ _ h => h) (Or.inl ⟨by rfl, ?_⟩) hHeld ?_
        rotate_left
        · (intro w' hSw; (try dsimp only at hSw); go_split_ands; go_simp; first | done | with_reducible rfl)
        try simp only [Act.put, List.setIfInBounds_toArray, List.set_cons_zero, List.set_cons_succ]
        refine wpAnyH_take (i := 11) (oi := { dst := some 125, op := Op.binOp BinOp.leq 3 (Operand.tmp 124) (Operand.const (Value.int IntKind.i64 400)) 3, type := 4, pos := "law.go:116", after := #[{ on := 10, ground := Ground.data }, { on := 8, ground := Ground.guard }], guard := some (8, true) }) (v := ?_) rfl (by kernel_rfl) (by kernel_rfl) (by kernel_rfl) (fun _ _ _ h => h) (Or.inl ⟨by rfl, ?_⟩) hHeld ?_
        rotate_left
        · (intro w' hSw; (try dsimp only at hSw); go_split_ands; go_simp; first | done | with_reducible rfl)
        try simp only [Act.put, List.setIfInBounds_toArray, List.set_cons_zero, List.set_cons_succ]
        refine wpAnyH_take (i := 12) (oi := { dst := some 126, op := Op.pick (Operand.tmp 122) (Operand.tmp 125) (Operand.const (Value.bool false)), type := 4, pos := "law.go:116", after := #[{ on := 8, ground := Ground.data }, { on := 11, ground := Ground.data }], guard := none }) (v := ?_) rfl (by kernel_rfl) (by kernel_rfl) (by kernel_rfl) (fun _ _ _ h => h) (Or.inl ⟨by rfl, ?_⟩) hHeld ?_
        rotate_left
        · (intro w' hSw; (try dsimp only at hSw); go_split_ands; go_simp; first | done | with_reducible rfl)
        try simp only [Act.put, List.setIfInBounds_toArray, List.set_cons_zero, List.set_cons_succ]
        refine wpAnyH_take (i := 13) (oi := { dst := some 4, op := Op.assign (Operand.tmp 126), type := 4, pos := "law.go:116", after := #[{ on := 12, ground := Ground.data }, { on := 8, ground := Ground.chain }, { on := 0, ground := Ground.phase }, { on := 1, ground := Ground.phase }, { on := 2, ground := Ground.phase }, { on := 3, ground := Ground.phase }, { on := 4, ground := Ground.phase }, { on := 5, ground := Ground.phase }, { on := 6, ground := Ground.phase }, { on := 7, ground := Ground.phase }, { on := 8, ground := Ground.phase }, { on := 9, ground := Ground.phase }, { on := 10, ground := Ground.phase }, { on := 11, ground := Ground.phase }, { on := 12, ground := Ground.phase }], guard := none }) (v := ?_) rfl (by kernel_rfl) (by kernel_rfl) (by kernel_rfl) (fun _ _ _ h => h) (Or.inl ⟨by rfl, ?_⟩) hHeld ?_
        rotate_left
        · (intro w' hSw; (try dsimp only at hSw); go_split_ands; go_simp; first | done | with_reducible rfl)
        try simp only [Act.put, List.setIfInBounds_toArray, List.set_cons_zero, List.set_cons_succ]
        refine wpAnyH_done (by kernel_rfl) ?_ _
        refine NoPanic.normal ?_
        have b16 : Below w.heap.size w w16 := b14.trans (((HDD.out.trans (hb15.mono hDs)).trans (hb16.mono (by have := hb15.size; omega))).mono b14.size)
        go_wp2_with fail
        go_ret
        exact ⟨by simp, b16⟩
      · obtain ⟨P, hP1, hP2⟩ := ahead_pre HMA.out hk2
        obtain ⟨rfl, hlP⟩ : k14 = 0 ∧ l14 = P := by
          rcases hres14 with ⟨-, -, h1, h2⟩ | ⟨h, -, -⟩
          · exact ⟨h1, h2.trans hP1⟩
          · exact absurd ⟨may_id HMA.out (by omega) (by omega), hk2⟩ h
        have hkb : (k8 == 2) = false := by rw [beq_eq_false_iff_ne]; exact hk2
        have hMP := HM.out.symm.trans hP2
        subst hlP
        have hlen4 : n14 + 4 = ml := by rw [← HMLL.out, hMP, List.length_append, four_len, hl14]
        have hnm : n14 < ml := by omega
        have hnc7 : n14 ≤ c7 := by omega
        have hSm : Sees w14 w7.heap.size A7 (bv l14) := by
          have h1 := HM14.out.take n14
          rw [← bv_take, hMP, List.take_left' hl14] at h1
          exact h1
        have cvm := fun q => run_str (w14.drewN q) _ A7 n14 c7 l14 (hSm.drewN q) hl14
        have cva := fun q => run_str (w14.drewN q) _ A14 n14 c14 l14 (hs14.drewN q) hl14
        generalize strOf l14 = sP at cvm cva
        have hnmi : (n14 : Int) < (ml : Int) := by omega
        clear hres14 hl14 hs14 hk2 hP1 hP2 hMP hlen4 hSm
        go_wp2_with fail
        go_quiet (fail)
        go_wp2_with fail
        have hDw : Below w14.heap.size w14 (w14.drewN nq) := below_d (Below.refl _ _) nq
        have lt9 : w8.heap.size < w14.heap.size := by have h1 := (hb911).size; have h2 := hb14'.size; omega
        have ltR : w10.heap.size < w14.heap.size := by have h1 := hs1011; have h2 := hb14'.size; omega
        have HD9 := H9w.out.below hDw lt9
        have HDR := HRw.out.below hDw ltR
        have hDs := hDw.size
        have hm400 : (ml : Int) ≤ 400 := by omega
        have HDD := Lib.hid hDw
        clear m0 m1 m2 m3 m4 m5
        generalize w14.drewN nq = wD at hDw HD9 HDR hDs HDD ⊢
        obtain ⟨g0, g1, g2, g3, g4, g5, -⟩ := HD9
        obtain ⟨f0, f1, f2, f3, f4, f5, -⟩ := HDR
        have HD9 := Lib.hid (H9w.out.below hDw lt9)
        have HDR := Lib.hid (HRw.out.below hDw ltR)
        refine wp_region_noPanic ?_
        refine wp_region_held_drew (S := fun w' => w'.cell? ⟨w8.heap.size, 0, none⟩ = some (.int .i64 k8) ∧ w'.cell? ⟨w8.heap.size, 1, none⟩ = some (.slice A8 n c8) ∧ w'.cell? ⟨w8.heap.size, 2, none⟩ = some (.string u1) ∧ w'.cell? ⟨w8.heap.size, 3, none⟩ = some (.string u2) ∧ w'.cell? ⟨w8.heap.size, 4, none⟩ = some (.int .i64 d8) ∧ w'.cell? ⟨w8.heap.size, 5, none⟩ = some (.int .i64 i8) ∧ w'.cell? ⟨w10.heap.size, 0, none⟩ = some (.int .i64 k8) ∧ w'.cell? ⟨w10.heap.size, 1, none⟩ = some (.slice A n c) ∧ w'.cell? ⟨w10.heap.size, 2, none⟩ = some (.string u1) ∧ w'.cell? ⟨w10.heap.size, 3, none⟩ = some (.string u2) ∧ w'.cell? ⟨w10.heap.size, 4, none⟩ = some (.int .i64 d8) ∧ w'.cell? ⟨w10.heap.size, 5, none⟩ = some (.int .i64 i8)) (by kernel_rfl) ?_ (fun hHeld => ?_)
        · (exact ⟨g0, g1, g2, g3, g4, g5, f0, f1, f2, f3, f4, f5⟩)
        refine wpAnyH_take (i := 0) (oi := { dst := some 114, op := Op.move (Operand.tmp 14), type := 30, pos := "law.go:116", after := #[], guard := none }) (v := ?_) rfl (by kernel_rfl) (by kernel_rfl) (by kernel_rfl) (fun _ _ _ h => h) (Or.inl ⟨by rfl, ?_⟩) hHeld ?_
        rotate_left
        · (intro w' hSw; (try dsimp only at hSw); go_split_ands; go_simp; first | done | with_reducible rfl)
        try simp only [Act.put, List.setIfInBounds_toArray, List.set_cons_zero, List.set_cons_succ]
        refine wpAnyH_take (i := 1) (oi := { dst := some 115, op := Op.binOp BinOp.eql 30 (Operand.tmp 114) (Operand.const (Value.int IntKind.i64 0)) 30, type := 4, pos := "law.go:116", after := #[{ on := 0, ground := Ground.data }], guard := none }) (v := ?_) rfl (by kernel_rfl) (by kernel_rfl) (by kernel_rfl) (fun _ _ _ h => h) (Or.inl ⟨by rfl, ?_⟩) hHeld ?_
        rotate_left
        · (intro w' hSw; (try dsimp only at hSw); go_split_ands; go_simp; first | done | with_reducible rfl)
        try simp only [Act.put, List.setIfInBounds_toArray, List.set_cons_zero, List.set_cons_succ]
        refine wpAnyH_take (i := 2) (oi := { dst := some 116, op := Op.move (Operand.tmp 115), type := 4, pos := "law.go:116", after := #[{ on := 1, ground := Ground.data }], guard := none }) (v := ?_) rfl (by kernel_rfl) (by kernel_rfl) (by kernel_rfl) (fun _ _ _ h => h) (Or.inl ⟨by rfl, ?_⟩) hHeld ?_
        rotate_left
        · (intro w' hSw; (try dsimp only at hSw); go_split_ands; go_simp; first | done | with_reducible rfl)
        try simp only [Act.put, List.setIfInBounds_toArray, List.set_cons_zero, List.set_cons_succ]
        refine wpAnyH_take (i := 3) (oi := { dst := some 117, op := Op.load 26 (Operand.tmp 13), type := 26, pos := "law.go:116", after := #[{ on := 2, ground := Ground.guard }], guard := some (2, true) }) (v := ?_) rfl (by kernel_rfl) (by kernel_rfl) (by kernel_rfl) (fun _ _ _ h => h) (Or.inl ⟨by rfl, ?_⟩) hHeld ?_
        rotate_left
        · (intro w' hSw; (try dsimp only at hSw); go_split_ands; go_simp; first | done | with_reducible rfl)
        try simp only [Act.put, List.setIfInBounds_toArray, List.set_cons_zero, List.set_cons_succ]
        refine wpAnyH_take (i := 5) (oi := { dst := some 119, op := Op.load 34 (Operand.tmp 15), type := 34, pos := "law.go:116", after := #[{ on := 2, ground := Ground.guard }], guard := some (2, true) }) (v := ?_) rfl (by kernel_rfl) (by kernel_rfl) (by kernel_rfl) (fun _ _ _ h => h) (Or.inl ⟨by rfl, ?_⟩) hHeld ?_
        rotate_left
        · (intro w' hSw; (try dsimp only at hSw); go_split_ands; go_simp; first | done | with_reducible rfl)
        try simp only [Act.put, List.setIfInBounds_toArray, List.set_cons_zero, List.set_cons_succ]
        refine wpAnyH_ready (rs := [4]) (by kernel_rfl) (by simp) ?_
        refine AllReadyH.cons (o := { dst := some 118, op := Op.call { callee := Callee.value (Operand.func 13), args := #[Operand.tmp 117], argTypes := #[26] }, type := 34, pos := "law.go:116", after := #[{ on := 3, ground := Ground.data }, { on := 2, ground := Ground.chain }, { on := 2, ground := Ground.guard }], guard := some (2, true) }) rfl (fun K hK => ?_) AllReadyH.nil
        go_simp
        refine (plain_any A8 n c8 k8 d8 i8 u1 u2 wD.drew).mono ?_
        rintro en w15 ⟨rfl, hb15u⟩
        have hb15 : Below wD.heap.size wD w15 := below_undrew hb15u
        have s15 := HD9.out.below hb15 (by omega)
        have r15 := HDR.out.below hb15 (by omega)
        go_wp2_with fail
        refine hK.out _ _ ?_ ?_
        · (exact ⟨s15.c0, s15.c1, s15.c2, s15.c3, s15.c4, s15.c5, r15.c0, r15.c1, r15.c2, r15.c3, r15.c4, r15.c5⟩)
        clear hK K hHeld; intro hHeld
        try simp only [Act.put, List.setIfInBounds_toArray, List.set_cons_zero, List.set_cons_succ]
        refine wpAnyH_ready (rs := [6]) (by kernel_rfl) (by simp) ?_
        refine AllReadyH.cons (o := { dst := some 120, op := Op.call { callee := Callee.value (Operand.func 18), args := #[Operand.tmp 118, Operand.tmp 119], argTypes := #[34, 34] }, type := 4, pos := "law.go:116", after := #[{ on := 4, ground := Ground.data }, { on := 5, ground := Ground.data }, { on := 4, ground := Ground.chain }, { on := 2, ground := Ground.guard }], guard := some (2, true) }) rfl (fun K hK => ?_) AllReadyH.nil
        have hb1415 : Below w14.heap.size w14 w15 := HDD.out.trans (hb15.mono hDs)
        have hS8 := (HSL.out.below ((hb911.trans (hb14'.mono hb911.size)).trans (hb1415.mono (by have h1 := (hb911).size; have h2 := hb14'.size; omega)))).more (Nat.le_trans (by have h1 := (hb911).size; have h2 := hb14'.size; omega) hb1415.size)
        have hST := ((HLT.out.below (hb1415.mono hb14'.size)).more (Nat.le_trans hb14'.size hb1415.size))
        go_simp
        refine (RefSameR_true A8 A n c8 c (sortN ls) (by rw [sortN_length]; exact HN.out) k8 d8 i8 u1 u2 w15 hS8 hST (HN.out ▸ HFA.out.sz.2.2)).mono ?_
        rintro en w16 ⟨rfl, hb16⟩
        have s16 := s15.below hb16 (by have := hb15.size; omega)
        have r16 := r15.below hb16 (by have := hb15.size; omega)
        go_wp2_with fail
        refine hK.out _ _ ?_ ?_
        · (exact ⟨s16.c0, s16.c1, s16.c2, s16.c3, s16.c4, s16.c5, r16.c0, r16.c1, r16.c2, r16.c3, r16.c4, r16.c5⟩)
        clear hK K hHeld; intro hHeld
        try simp only [Act.put, List.setIfInBounds_toArray, List.set_cons_zero, List.set_cons_succ]
        refine wpAnyH_take (i := 7) (oi := { dst := some 121, op := Op.pick (Operand.tmp 116) (Operand.tmp 120) (Operand.const (Value.bool false)), type := 4, pos := "law.go:116", after := #[{ on := 2, ground := Ground.data }, { on := 6, ground := Ground.data }], guard := none }) (v := ?_) rfl (by kernel_rfl) (by kernel_rfl) (by kernel_rfl) (fun _ _ _ h => h) (Or.inl ⟨by rfl, ?_⟩) hHeld ?_
        rotate_left
        · (intro w' hSw; (try dsimp only at hSw); go_split_ands; go_simp; first | done | with_reducible rfl)
        try simp only [Act.put, List.setIfInBounds_toArray, List.set_cons_zero, List.set_cons_succ]
        refine wpAnyH_take (i := 8) (oi := { dst := some 122, op := Op.move (Operand.tmp 121), type := 4, pos := "law.go:116", after := #[{ on := 7, ground := Ground.data }, { on := 6, ground := Ground.chain }], guard := none }) (v := ?_) rfl (by kernel_rfl) (by kernel_rfl) (by kernel_rfl) (fun _ _ _ h => h) (Or.inl ⟨by rfl, ?_⟩) hHeld ?_
        rotate_left
        · (intro w' hSw; (try dsimp only at hSw); go_split_ands; go_simp; first | done | with_reducible rfl)
        try simp only [Act.put, List.setIfInBounds_toArray, List.set_cons_zero, List.set_cons_succ]
        refine wpAnyH_take (i := 9) (oi := { dst := some 123, op := Op.move (Operand.tmp 11), type := 29, pos := "law.go:116", after := #[{ on := 8, ground := Ground.guard }], guard := some (8, true) }) (v := ?_) rfl (by kernel_rfl) (by kernel_rfl) (by kernel_rfl) (fun _ _ _ h => h) (Or.inl ⟨by rfl, ?_⟩) hHeld ?_
        rotate_left
        · (intro w' hSw; (try dsimp only at hSw); go_split_ands; go_simp; first | done | with_reducible rfl)
        try simp only [Act.put, List.setIfInBounds_toArray, List.set_cons_zero, List.set_cons_succ]
        refine wpAnyH_take (i := 10) (oi := { dst := some 124, op := Op.call { callee := Callee.builtin Builtin.len, args := #[Operand.tmp 123], argTypes := #[29] }, type := 3, pos := "law.go:116", after := #[{ on := 9, ground := Ground.data }, { on := 8, ground := Ground.guard }], guard := some (8, true) }) (v := ?_) rfl (by kernel_rfl) (by kernel_rfl) (by kernel_rfl) (fun _ _ _ h => h) (Or.inl ⟨by rfl, ?_⟩) hHeld ?_
        rotate_left
        · (intro w' hSw; (try dsimp only at hSw); go_split_ands; go_simp; first | done | with_reducible rfl)
        try simp only [Act.put, List.setIfInBounds_toArray, List.set_cons_zero, List.set_cons_succ]
        refine wpAnyH_take (i := 11) (oi := { dst := some 125, op := Op.binOp BinOp.leq 3 (Operand.tmp 124) (Operand.const (Value.int IntKind.i64 400)) 3, type := 4, pos := "law.go:116", after := #[{ on := 10, ground := Ground.data }, { on := 8, ground := Ground.guard }], guard := some (8, true) }) (v := ?_) rfl (by kernel_rfl) (by kernel_rfl) (by kernel_rfl) (fun _ _ _ h => h) (Or.inl ⟨by rfl, ?_⟩) hHeld ?_
        rotate_left
        · (intro w' hSw; (try dsimp only at hSw); go_split_ands; go_simp; first | done | with_reducible rfl)
        try simp only [Act.put, List.setIfInBounds_toArray, List.set_cons_zero, List.set_cons_succ]
        refine wpAnyH_take (i := 12) (oi := { dst := some 126, op := Op.pick (Operand.tmp 122) (Operand.tmp 125) (Operand.const (Value.bool false)), type := 4, pos := "law.go:116", after := #[{ on := 8, ground := Ground.data }, { on := 11, ground := Ground.data }], guard := none }) (v := ?_) rfl (by kernel_rfl) (by kernel_rfl) (by kernel_rfl) (fun _ _ _ h => h) (Or.inl ⟨by rfl, ?_⟩) hHeld ?_
        rotate_left
        · (intro w' hSw; (try dsimp only at hSw); go_split_ands; go_simp; first | done | with_reducible rfl)
        try simp only [Act.put, List.setIfInBounds_toArray, List.set_cons_zero, List.set_cons_succ]
        refine wpAnyH_take (i := 13) (oi := { dst := some 4, op := Op.assign (Operand.tmp 126), type := 4, pos := "law.go:116", after := #[{ on := 12, ground := Ground.data }, { on := 8, ground := Ground.chain }, { on := 0, ground := Ground.phase }, { on := 1, ground := Ground.phase }, { on := 2, ground := Ground.phase }, { on := 3, ground := Ground.phase }, { on := 4, ground := Ground.phase }, { on := 5, ground := Ground.phase }, { on := 6, ground := Ground.phase }, { on := 7, ground := Ground.phase }, { on := 8, ground := Ground.phase }, { on := 9, ground := Ground.phase }, { on := 10, ground := Ground.phase }, { on := 11, ground := Ground.phase }, { on := 12, ground := Ground.phase }], guard := none }) (v := ?_) rfl (by kernel_rfl) (by kernel_rfl) (by kernel_rfl) (fun _ _ _ h => h) (Or.inl ⟨by rfl, ?_⟩) hHeld ?_
        rotate_left
        · (intro w' hSw; (try dsimp only at hSw); go_split_ands; go_simp; first | done | with_reducible rfl)
        try simp only [Act.put, List.setIfInBounds_toArray, List.set_cons_zero, List.set_cons_succ]
        refine wpAnyH_done (by kernel_rfl) ?_ _
        refine NoPanic.normal ?_
        have b16 : Below w.heap.size w w16 := b14.trans (((HDD.out.trans (hb15.mono hDs)).trans (hb16.mono (by have := hb15.size; omega))).mono b14.size)
        go_wp2_with fail
        go_ret
        exact ⟨by simp, b16⟩


  · clear hs4
    have hM := Lib.hid (Make_any A n c ls HN.out k d i x1 x2 W5 ((hS.below b5).more b5.size) (HN.out ▸ HFA.out.sz.2.2) HFA.out.sz.1 HFA.out.sz.2.1)
    go_wp2_with fail
    refine hM.out.mono ?_
    rintro en w7 ⟨v7, k7, rfl, hb7', hres7⟩
    have hb7 : Below W1.heap.size W1 w7 := hb5.trans (hb7'.mono hb5.size)
    have b7 : Below w.heap.size w w7 := hb1.trans (hb7.mono hb1.size)
    clear m0 m1 m2 m3 m4 m5 hM
    obtain ⟨m0, m1, m2, m3, m4, m5, -⟩ := HX.out.below hb7 hs1
    rcases hres7 with ⟨hma, rfl, hown7⟩ | ⟨hno, rfl, rfl⟩
    rotate_left
    · clear hno
      go_wp2_with fail
      go_ret
      exact ⟨by simp, b7⟩
    have HMA := Lib.hid hma
    have hml := make_len hma
    obtain ⟨M, hM⟩ : ∃ M, makeR ⟨k, ls, (x1, x2), d, i⟩ = M := ⟨_, rfl⟩
    rw [hM] at hown7 hml
    have HM := Lib.hid hM
    obtain ⟨A7, c7, hv7, hc7, -, -, hs7⟩ := hown7.open_
    obtain ⟨ml, hmll⟩ : ∃ ml, M.length = ml := ⟨_, rfl⟩
    rw [hmll] at hv7 hc7 hml
    subst hv7
    have HMLL := Lib.hid hmll
    have hP8 := Lib.hid (Parse_any A7 ml c7 M hmll hc7 w7 hs7 (by omega))
    clear hma hM hown7 hmll
    go_wp2_with fail
    refine hP8.out.mono ?_
    rintro en w8 ⟨A8, n8, c8, k8, d8, i8, u1, u2, l8, e8, rfl, hb8', hl8, -, hs8, hres8⟩
    obtain ⟨rfl, hcan⟩ : e8 = 0 ∧ (⟨k8, l8, (u1, u2), d8, i8⟩ : RowP) = ⟨k, sortN ls, (x1, x2), d, i⟩ := by
      rcases hres8 with ⟨h1, h2, h3, h4⟩ | ⟨-, h, -⟩
      · have h5 := make_inj h2 HMA.out (h4.trans HM.out.symm)
        unfold canonR at h5
        simp only at h5
        rw [h3] at h5
        exact ⟨h1, h5⟩
      · exact absurd HM.out (h _ HMA.out)
    obtain rfl : k8 = k := congrArg RowP.kind hcan
    obtain rfl : u1 = x1 := congrArg (fun z => (RowP.label z).1) hcan
    obtain rfl : u2 = x2 := congrArg (fun z => (RowP.label z).2) hcan
    obtain rfl : d8 = d := congrArg RowP.day hcan
    obtain rfl : i8 = i := congrArg RowP.id hcan
    obtain rfl : l8 = sortN ls := congrArg RowP.labels hcan
    have hb8 : Below W1.heap.size W1 w8 := hb7.trans (hb8'.mono hb7.size)
    rw [sortN_length, HN.out] at hl8
    subst hl8
    obtain ⟨W9, hW9⟩ : ∃ W9, w8.alloc (.cells #[.int .i64 k8, .slice A8 n c8, .string u1, .string u2, .int .i64 d8, .int .i64 i8] 26) = W9 := ⟨_, rfl⟩
    have hb89 : Below w8.heap.size w8 W9 := hW9 ▸ KI_new w8 _
    have six9 : SixAt W9 w8.heap.size (.int .i64 k8) (.slice A8 n c8) (.string u1) (.string u2) (.int .i64 d8) (.int .i64 i8) := hW9 ▸ SixAt.new w8 _ _ _ _ _ _ _
    have hs89 : w8.heap.size < W9.heap.size := by rw [← hW9]; simp
    have hb9 : Below W1.heap.size W1 W9 := hb8.trans (hb89.mono hb8.size)
    have b9 : Below w.heap.size w W9 := hb1.trans (hb9.mono hb1.size)
    have H9 := Lib.hid six9
    have hsL := ((hs8.below hb89).more hb89.size)
    have hP := Lib.hid (plain_any A n c k8 d8 i8 u1 u2 W9)
    clear m0 m1 m2 m3 m4 m5 six9 hP8 hres8 hcan
    obtain ⟨m0, m1, m2, m3, m4, m5, -⟩ := HX.out.below hb9 hs1
    go_wp2_with fail
    refine hP.out.mono ?_
    rintro en w10 ⟨rfl, hb10'⟩
    have hb10 : Below W1.heap.size W1 w10 := hb9.trans (hb10'.mono hb9.size)
    obtain ⟨W11, hW11⟩ : ∃ W11, w10.alloc (.cells #[.int .i64 k8, .slice A n c, .string u1, .string u2, .int .i64 d8, .int .i64 i8] 34) = W11 := ⟨_, rfl⟩
    have hb1011 : Below w10.heap.size w10 W11 := hW11 ▸ KI_new w10 _
    have six11 : SixAt W11 w10.heap.size (.int .i64 k8) (.slice A n c) (.string u1) (.string u2) (.int .i64 d8) (.int .i64 i8) := hW11 ▸ SixAt.new w10 _ _ _ _ _ _ _
    have hs1011 : w10.heap.size < W11.heap.size := by rw [← hW11]; simp
    have hb911 : Below W9.heap.size W9 W11 := hb10'.trans (hb1011.mono hb10'.size)
    have hb11 : Below W1.heap.size W1 W11 := hb9.trans (hb911.mono hb9.size)
    have b11 : Below w.heap.size w W11 := hb1.trans (hb11.mono hb1.size)
    have H11 := Lib.hid six11
    clear m0 m1 m2 m3 m4 m5 six11 hP
    obtain ⟨m0, m1, m2, m3, m4, m5, -⟩ := HX.out.below hb11 hs1
    by_cases hn0 : 0 < n
    · have hmayl : MayL ls := nolabels HMA.out (fun e => by have := HN.out; simp only at e; rw [e] at this; simp at this; omega)
      have HML := Lib.hid hmayl
      have hC := Lib.hid (RefCanon_any A n c ls HN.out W11 ((hS.below b11).more b11.size) (HN.out ▸ HFA.out.sz.2.2) HFA.out.sz.1)
      obtain ⟨j0, j1, j2, j3, j4, j5, j6, j7, j8, j9, ja, jb⟩ := H11.out
      clear hmayl
      go_wp2_with fail
      refine hC.out.mono ?_
      rintro en w12 ⟨v12, k12, rfl, hb12', hres12⟩
      rcases hres12 with ⟨-, rfl, hown12⟩ | ⟨hno, -, -⟩
      rotate_left
      · exact absurd HML.out hno
      obtain ⟨A12, c12, hv12, -, -, hs12⟩ := hown12.open_
      rw [sortN_length, HN.out] at hv12
      subst hv12
      have six12 := H11.out.below hb12' hs1011
      obtain ⟨W13, hW13⟩ : ∃ W13, w12.setCell ⟨w10.heap.size, 1, none⟩ (.slice A12 n c12) = W13 := ⟨_, rfl⟩
      have six13 := six12.set1 (.slice A12 n c12)
      rw [hW13] at six13
      have hb913 : Below W9.heap.size W9 W13 := by rw [← hW13]; exact (hb911.trans (hb12'.mono hb911.size)).setCell (by show _ ≤ w10.heap.size; exact hb10'.size) _
      have hb13 : Below W1.heap.size W1 W13 := hb9.trans (hb913.mono hb9.size)
      have b13 : Below w.heap.size w W13 := hb1.trans (hb13.mono hb1.size)
      have hs1013 : w10.heap.size < W13.heap.size := by have := hb12'.size; rw [← hW13]; simp; omega
      have hb713 : Below w7.heap.size w7 W13 := (hb8'.trans (hb89.mono hb8'.size)).trans (hb913.mono (by have := hb8'.size; have := hb89.size; omega))
      have hsL13 : Sees W13 W13.heap.size A12 (lv (sortN ls)) := sees_set hs12 hown12 hs1011 hW13
      have H13 := Lib.hid six13
      clear m0 m1 m2 m3 m4 m5 j0 j1 j2 j3 j4 j5 j6 j7 j8 j9 ja jb
      obtain ⟨j0, j1, j2, j3, j4, j5, j6, j7, j8, j9, ja, jb⟩ := six12
      have hAh := Lib.hid (Ahead_any A n c ls HN.out k8 d8 i8 u1 u2 W13 ((hS.below b13).more b13.size) (HN.out ▸ HFA.out.sz.2.2) HFA.out.sz.1 HFA.out.sz.2.1)
      obtain ⟨m0, m1, m2, m3, m4, m5, -⟩ := HX.out.below hb13 hs1
      go_wp2_with fail
      refine hAh.out.mono ?_
      rintro en w14 ⟨A14, n14, c14, k14, l14, rfl, hb14', hl14, hc14, hs14, hres14⟩
      have hb14 : Below W1.heap.size W1 w14 := hb13.trans (hb14'.mono hb13.size)
      have b14 : Below w.heap.size w w14 := hb1.trans (hb14.mono hb1.size)
      have H9w := Lib.hid (H9.out.below (hb913.trans (hb14'.mono hb913.size)) hs89)
      have HRw := Lib.hid (six13.below hb14' hs1013)
      have hm14 := hs7.below (((hb713)).trans (hb14'.mono (hb713).size))
      clear m0 m1 m2 m3 m4 m5 hAh
      obtain ⟨m0, m1, m2, m3, m4, m5, -⟩ := HX.out.below hb14 hs1
      have HM14 := Lib.hid hm14
      have HLT := Lib.hid (hsL13.below (hb14'.mono (Nat.le_refl _)))
      have HSL := Lib.hid hsL
      by_cases hk2 : k8 = 2
      · obtain ⟨rfl, rfl⟩ : k14 = 120 ∧ n14 = 0 := by
          rcases hres14 with ⟨-, h, -⟩ | ⟨-, h1, h2⟩
          · exact absurd hk2 h
          · exact ⟨h1, by rw [← hl14, h2]; rfl⟩
        have hkb : (k8 == 2) = true := by rw [hk2]; rfl
        clear hres14 hl14 hs14 hk2
        go_wp2_with fail
        go_quiet (fail)
        go_wp2_with fail
        have hDw : Below w14.heap.size w14 (w14.drewN nq) := below_d (Below.refl _ _) nq
        have lt9 : w8.heap.size < w14.heap.size := by have h1 := (hb913).size; have h2 := hb14'.size; omega
        have ltR : w10.heap.size < w14.heap.size := by have h1 := hs1013; have h2 := hb14'.size; omega
        have HD9 := H9w.out.below hDw lt9
        have HDR := HRw.out.below hDw ltR
        have hDs := hDw.size
        have hm400 : (ml : Int) ≤ 400 := by omega
        have HDD := Lib.hid hDw
        clear m0 m1 m2 m3 m4 m5
        generalize w14.drewN nq = wD at hDw HD9 HDR hDs HDD ⊢
        obtain ⟨g0, g1, g2, g3, g4, g5, -⟩ := HD9
        obtain ⟨f0, f1, f2, f3, f4, f5, -⟩ := HDR
        have HD9 := Lib.hid (H9w.out.below hDw lt9)
        have HDR := Lib.hid (HRw.out.below hDw ltR)
        refine wp_region_noPanic ?_
        refine wp_region_held_drew (S := fun w' => w'.cell? ⟨w8.heap.size, 0, none⟩ = some (.int .i64 k8) ∧ w'.cell? ⟨w8.heap.size, 1, none⟩ = some (.slice A8 n c8) ∧ w'.cell? ⟨w8.heap.size, 2, none⟩ = some (.string u1) ∧ w'.cell? ⟨w8.heap.size, 3, none⟩ = some (.string u2) ∧ w'.cell? ⟨w8.heap.size, 4, none⟩ = some (.int .i64 d8) ∧ w'.cell? ⟨w8.heap.size, 5, none⟩ = some (.int .i64 i8) ∧ w'.cell? ⟨w10.heap.size, 0, none⟩ = some (.int .i64 k8) ∧ w'.cell? ⟨w10.heap.size, 1, none⟩ = some (.slice A12 n c12) ∧ w'.cell? ⟨w10.heap.size, 2, none⟩ = some (.string u1) ∧ w'.cell? ⟨w10.heap.size, 3, none⟩ = some (.string u2) ∧ w'.cell? ⟨w10.heap.size, 4, none⟩ = some (.int .i64 d8) ∧ w'.cell? ⟨w10.heap.size, 5, none⟩ = some (.int .i64 i8)) (by kernel_rfl) ?_ (fun hHeld => ?_)
        · (exact ⟨g0, g1, g2, g3, g4, g5, f0, f1, f2, f3, f4, f5⟩)
        refine wpAnyH_take (i := 0) (oi := { dst := some 114, op := Op.move (Operand.tmp 14), type := 30, pos := "law.go:116", after := #[], guard := none }) (v := ?_) rfl (by kernel_rfl) (by kernel_rfl) (by kernel_rfl) (fun _ _ _ h => h) (Or.inl ⟨by rfl, ?_⟩) hHeld ?_
        rotate_left
        · (intro w' hSw; (try dsimp only at hSw); go_split_ands; go_simp; first | done | with_reducible rfl)
        try simp only [Act.put, List.setIfInBounds_toArray, List.set_cons_zero, List.set_cons_succ]
        refine wpAnyH_take (i := 1) (oi := { dst := some 115, op := Op.binOp BinOp.eql 30 (Operand.tmp 114) (Operand.const (Value.int IntKind.i64 0)) 30, type := 4, pos := "law.go:116", after := #[{ on := 0, ground := Ground.data }], guard := none }) (v := ?_) rfl (by kernel_rfl) (by kernel_rfl) (by kernel_rfl) (fun _ _ _ h => h) (Or.inl ⟨by rfl, ?_⟩) hHeld ?_
        rotate_left
        · (intro w' hSw; (try dsimp only at hSw); go_split_ands; go_simp; first | done | with_reducible rfl)
        try simp only [Act.put, List.setIfInBounds_toArray, List.set_cons_zero, List.set_cons_succ]
        refine wpAnyH_take (i := 2) (oi := { dst := some 116, op := Op.move (Operand.tmp 115), type := 4, pos := "law.go:116", after := #[{ on := 1, ground := Ground.data }], guard := none }) (v := ?_) rfl (by kernel_rfl) (by kernel_rfl) (by kernel_rfl) (fun _ _ _ h => h) (Or.inl ⟨by rfl, ?_⟩) hHeld ?_
        rotate_left
        · (intro w' hSw; (try dsimp only at hSw); go_split_ands; go_simp; first | done | with_reducible rfl)
        try simp only [Act.put, List.setIfInBounds_toArray, List.set_cons_zero, List.set_cons_succ]
        refine wpAnyH_take (i := 3) (oi := { dst := some 117, op := Op.load 26 (Operand.tmp 13), type := 26, pos := "law.go:116", after := #[{ on := 2, ground := Ground.guard }], guard := some (2, true) }) (v := ?_) rfl (by kernel_rfl) (by kernel_rfl) (by kernel_rfl) (fun _ _ _ h => h) (Or.inl ⟨by rfl, ?_⟩) hHeld ?_
        rotate_left
        · (intro w' hSw; (try dsimp only at hSw); go_split_ands; go_simp; first | done | with_reducible rfl)
        try simp only [Act.put, List.setIfInBounds_toArray, List.set_cons_zero, List.set_cons_succ]
        refine wpAnyH_take (i := 5) (oi := { dst := some 119, op := Op.load 34 (Operand.tmp 15), type := 34, pos := "law.go:116", after := #[{ on := 2, ground := Ground.guard }], guard := some (2, true) }) (v := ?_) rfl (by kernel_rfl) (by kernel_rfl) (by kernel_rfl) (fun _ _ _ h => h) (Or.inl ⟨by rfl, ?_⟩) hHeld ?_
        rotate_left
        · (intro w' hSw; (try dsimp only at hSw); go_split_ands; go_simp; first | done | with_reducible rfl)
        try simp only [Act.put, List.setIfInBounds_toArray, List.set_cons_zero, List.set_cons_succ]
        refine wpAnyH_ready (rs := [4]) (by kernel_rfl) (by simp) ?_
        refine AllReadyH.cons (o := { dst := some 118, op := Op.call { callee := Callee.value (Operand.func 13), args := #[Operand.tmp 117], argTypes := #[26] }, type := 34, pos := "law.go:116", after := #[{ on := 3, ground := Ground.data }, { on := 2, ground := Ground.chain }, { on := 2, ground := Ground.guard }], guard := some (2, true) }) rfl (fun K hK => ?_) AllReadyH.nil
        go_simp
        refine (plain_any A8 n c8 k8 d8 i8 u1 u2 wD.drew).mono ?_
        rintro en w15 ⟨rfl, hb15u⟩
        have hb15 : Below wD.heap.size wD w15 := below_undrew hb15u
        have s15 := HD9.out.below hb15 (by omega)
        have r15 := HDR.out.below hb15 (by omega)
        go_wp2_with fail
        refine hK.out _ _ ?_ ?_
        · (exact ⟨s15.c0, s15.c1, s15.c2, s15.c3, s15.c4, s15.c5, r15.c0, r15.c1, r15.c2, r15.c3, r15.c4, r15.c5⟩)
        clear hK K hHeld; intro hHeld
        try simp only [Act.put, List.setIfInBounds_toArray, List.set_cons_zero, List.set_cons_succ]
        refine wpAnyH_ready (rs := [6]) (by kernel_rfl) (by simp) ?_
        refine AllReadyH.cons (o := { dst := some 120, op := Op.call { callee := Callee.value (Operand.func 18), args := #[Operand.tmp 118, Operand.tmp 119], argTypes := #[34, 34] }, type := 4, pos := "law.go:116", after := #[{ on := 4, ground := Ground.data }, { on := 5, ground := Ground.data }, { on := 4, ground := Ground.chain }, { on := 2, ground := Ground.guard }], guard := some (2, true) }) rfl (fun K hK => ?_) AllReadyH.nil
        have hb1415 : Below w14.heap.size w14 w15 := HDD.out.trans (hb15.mono hDs)
        have hS8 := (HSL.out.below ((hb913.trans (hb14'.mono hb913.size)).trans (hb1415.mono (by have h1 := (hb913).size; have h2 := hb14'.size; omega)))).more (Nat.le_trans (by have h1 := (hb913).size; have h2 := hb14'.size; omega) hb1415.size)
        have hST := ((HLT.out.below (hb1415.mono hb14'.size)).more (Nat.le_trans hb14'.size hb1415.size))
        go_simp
        refine (RefSameR_true A8 A12 n c8 c12 (sortN ls) (by rw [sortN_length]; exact HN.out) k8 d8 i8 u1 u2 w15 hS8 hST (HN.out ▸ HFA.out.sz.2.2)).mono ?_
        rintro en w16 ⟨rfl, hb16⟩
        have s16 := s15.below hb16 (by have := hb15.size; omega)
        have r16 := r15.below hb16 (by have := hb15.size; omega)
        go_wp2_with fail
        refine hK.out _ _ ?_ ?_
        · (exact ⟨s16.c0, s16.c1, s16.c2, s16.c3, s16.c4, s16.c5, r16.c0, r16.c1, r16.c2, r16.c3, r16.c4, r16.c5⟩)
        clear hK K hHeld; intro hHeld
        try simp only [Act.put, List.setIfInBounds_toArray, List.set_cons_zero, List.set_cons_succ]
        refine wpAnyH_take (i := 7) (oi := { dst := some 121, op := Op.pick (Operand.tmp 116) (Operand.tmp 120) (Operand.const (Value.bool false)), type := 4, pos := "law.go:116", after := #[{ on := 2, ground := Ground.data }, { on := 6, ground := Ground.data }], guard := none }) (v := ?_) rfl (by kernel_rfl) (by kernel_rfl) (by kernel_rfl) (fun _ _ _ h => h) (Or.inl ⟨by rfl, ?_⟩) hHeld ?_
        rotate_left
        · (intro w' hSw; (try dsimp only at hSw); go_split_ands; go_simp; first | done | with_reducible rfl)
        try simp only [Act.put, List.setIfInBounds_toArray, List.set_cons_zero, List.set_cons_succ]
        refine wpAnyH_take (i := 8) (oi := { dst := some 122, op := Op.move (Operand.tmp 121), type := 4, pos := "law.go:116", after := #[{ on := 7, ground := Ground.data }, { on := 6, ground := Ground.chain }], guard := none }) (v := ?_) rfl (by kernel_rfl) (by kernel_rfl) (by kernel_rfl) (fun _ _ _ h => h) (Or.inl ⟨by rfl, ?_⟩) hHeld ?_
        rotate_left
        · (intro w' hSw; (try dsimp only at hSw); go_split_ands; go_simp; first | done | with_reducible rfl)
        try simp only [Act.put, List.setIfInBounds_toArray, List.set_cons_zero, List.set_cons_succ]
        refine wpAnyH_take (i := 9) (oi := { dst := some 123, op := Op.move (Operand.tmp 11), type := 29, pos := "law.go:116", after := #[{ on := 8, ground := Ground.guard }], guard := some (8, true) }) (v := ?_) rfl (by kernel_rfl) (by kernel_rfl) (by kernel_rfl) (fun _ _ _ h => h) (Or.inl ⟨by rfl, ?_⟩) hHeld ?_
        rotate_left
        · (intro w' hSw; (try dsimp only at hSw); go_split_ands; go_simp; first | done | with_reducible rfl)
        try simp only [Act.put, List.setIfInBounds_toArray, List.set_cons_zero, List.set_cons_succ]
        refine wpAnyH_take (i := 10) (oi := { dst := some 124, op := Op.call { callee := Callee.builtin Builtin.len, args := #[Operand.tmp 123], argTypes := #[29] }, type := 3, pos := "law.go:116", after := #[{ on := 9, ground := Ground.data }, { on := 8, ground := Ground.guard }], guard := some (8, true) }) (v := ?_) rfl (by kernel_rfl) (by kernel_rfl) (by kernel_rfl) (fun _ _ _ h => h) (Or.inl ⟨by rfl, ?_⟩) hHeld ?_
        rotate_left
        · (intro w' hSw; (try dsimp only at hSw); go_split_ands; go_simp; first | done | with_reducible rfl)
        try simp only [Act.put, List.setIfInBounds_toArray, List.set_cons_zero, List.set_cons_succ]
        refine wpAnyH_take (i := 11) (oi := { dst := some 125, op := Op.binOp BinOp.leq 3 (Operand.tmp 124) (Operand.const (Value.int IntKind.i64 400)) 3, type := 4, pos := "law.go:116", after := #[{ on := 10, ground := Ground.data }, { on := 8, ground := Ground.guard }], guard := some (8, true) }) (v := ?_) rfl (by kernel_rfl) (by kernel_rfl) (by kernel_rfl) (fun _ _ _ h => h) (Or.inl ⟨by rfl, ?_⟩) hHeld ?_
        rotate_left
        · (intro w' hSw; (try dsimp only at hSw); go_split_ands; go_simp; first | done | with_reducible rfl)
        try simp only [Act.put, List.setIfInBounds_toArray, List.set_cons_zero, List.set_cons_succ]
        refine wpAnyH_take (i := 12) (oi := { dst := some 126, op := Op.pick (Operand.tmp 122) (Operand.tmp 125) (Operand.const (Value.bool false)), type := 4, pos := "law.go:116", after := #[{ on := 8, ground := Ground.data }, { on := 11, ground := Ground.data }], guard := none }) (v := ?_) rfl (by kernel_rfl) (by kernel_rfl) (by kernel_rfl) (fun _ _ _ h => h) (Or.inl ⟨by rfl, ?_⟩) hHeld ?_
        rotate_left
        · (intro w' hSw; (try dsimp only at hSw); go_split_ands; go_simp; first | done | with_reducible rfl)
        try simp only [Act.put, List.setIfInBounds_toArray, List.set_cons_zero, List.set_cons_succ]
        refine wpAnyH_take (i := 13) (oi := { dst := some 4, op := Op.assign (Operand.tmp 126), type := 4, pos := "law.go:116", after := #[{ on := 12, ground := Ground.data }, { on := 8, ground := Ground.chain }, { on := 0, ground := Ground.phase }, { on := 1, ground := Ground.phase }, { on := 2, ground := Ground.phase }, { on := 3, ground := Ground.phase }, { on := 4, ground := Ground.phase }, { on := 5, ground := Ground.phase }, { on := 6, ground := Ground.phase }, { on := 7, ground := Ground.phase }, { on := 8, ground := Ground.phase }, { on := 9, ground := Ground.phase }, { on := 10, ground := Ground.phase }, { on := 11, ground := Ground.phase }, { on := 12, ground := Ground.phase }], guard := none }) (v := ?_) rfl (by kernel_rfl) (by kernel_rfl) (by kernel_rfl) (fun _ _ _ h => h) (Or.inl ⟨by rfl, ?_⟩) hHeld ?_
        rotate_left
        · (intro w' hSw; (try dsimp only at hSw); go_split_ands; go_simp; first | done | with_reducible rfl)
        try simp only [Act.put, List.setIfInBounds_toArray, List.set_cons_zero, List.set_cons_succ]
        refine wpAnyH_done (by kernel_rfl) ?_ _
        refine NoPanic.normal ?_
        have b16 : Below w.heap.size w w16 := b14.trans (((HDD.out.trans (hb15.mono hDs)).trans (hb16.mono (by have := hb15.size; omega))).mono b14.size)
        go_wp2_with fail
        go_ret
        exact ⟨by simp, b16⟩
      · obtain ⟨P, hP1, hP2⟩ := ahead_pre HMA.out hk2
        obtain ⟨rfl, hlP⟩ : k14 = 0 ∧ l14 = P := by
          rcases hres14 with ⟨-, -, h1, h2⟩ | ⟨h, -, -⟩
          · exact ⟨h1, h2.trans hP1⟩
          · exact absurd ⟨may_id HMA.out (by omega) (by omega), hk2⟩ h
        have hkb : (k8 == 2) = false := by rw [beq_eq_false_iff_ne]; exact hk2
        have hMP := HM.out.symm.trans hP2
        subst hlP
        have hlen4 : n14 + 4 = ml := by rw [← HMLL.out, hMP, List.length_append, four_len, hl14]
        have hnm : n14 < ml := by omega
        have hnc7 : n14 ≤ c7 := by omega
        have hSm : Sees w14 w7.heap.size A7 (bv l14) := by
          have h1 := HM14.out.take n14
          rw [← bv_take, hMP, List.take_left' hl14] at h1
          exact h1
        have cvm := fun q => run_str (w14.drewN q) _ A7 n14 c7 l14 (hSm.drewN q) hl14
        have cva := fun q => run_str (w14.drewN q) _ A14 n14 c14 l14 (hs14.drewN q) hl14
        generalize strOf l14 = sP at cvm cva
        have hnmi : (n14 : Int) < (ml : Int) := by omega
        clear hres14 hl14 hs14 hk2 hP1 hP2 hMP hlen4 hSm
        go_wp2_with fail
        go_quiet (fail)
        go_wp2_with fail
        have hDw : Below w14.heap.size w14 (w14.drewN nq) := below_d (Below.refl _ _) nq
        have lt9 : w8.heap.size < w14.heap.size := by have h1 := (hb913).size; have h2 := hb14'.size; omega
        have ltR : w10.heap.size < w14.heap.size := by have h1 := hs1013; have h2 := hb14'.size; omega
        have HD9 := H9w.out.below hDw lt9
        have HDR := HRw.out.below hDw ltR
        have hDs := hDw.size
        have hm400 : (ml : Int) ≤ 400 := by omega
        have HDD := Lib.hid hDw
        clear m0 m1 m2 m3 m4 m5
        generalize w14.drewN nq = wD at hDw HD9 HDR hDs HDD ⊢
        obtain ⟨g0, g1, g2, g3, g4, g5, -⟩ := HD9
        obtain ⟨f0, f1, f2, f3, f4, f5, -⟩ := HDR
        have HD9 := Lib.hid (H9w.out.below hDw lt9)
        have HDR := Lib.hid (HRw.out.below hDw ltR)
        refine wp_region_noPanic ?_
        refine wp_region_held_drew (S := fun w' => w'.cell? ⟨w8.heap.size, 0, none⟩ = some (.int .i64 k8) ∧ w'.cell? ⟨w8.heap.size, 1, none⟩ = some (.slice A8 n c8) ∧ w'.cell? ⟨w8.heap.size, 2, none⟩ = some (.string u1) ∧ w'.cell? ⟨w8.heap.size, 3, none⟩ = some (.string u2) ∧ w'.cell? ⟨w8.heap.size, 4, none⟩ = some (.int .i64 d8) ∧ w'.cell? ⟨w8.heap.size, 5, none⟩ = some (.int .i64 i8) ∧ w'.cell? ⟨w10.heap.size, 0, none⟩ = some (.int .i64 k8) ∧ w'.cell? ⟨w10.heap.size, 1, none⟩ = some (.slice A12 n c12) ∧ w'.cell? ⟨w10.heap.size, 2, none⟩ = some (.string u1) ∧ w'.cell? ⟨w10.heap.size, 3, none⟩ = some (.string u2) ∧ w'.cell? ⟨w10.heap.size, 4, none⟩ = some (.int .i64 d8) ∧ w'.cell? ⟨w10.heap.size, 5, none⟩ = some (.int .i64 i8)) (by kernel_rfl) ?_ (fun hHeld => ?_)
        · (exact ⟨g0, g1, g2, g3, g4, g5, f0, f1, f2, f3, f4, f5⟩)
        refine wpAnyH_take (i := 0) (oi := { dst := some 114, op := Op.move (Operand.tmp 14), type := 30, pos := "law.go:116", after := #[], guard := none }) (v := ?_) rfl (by kernel_rfl) (by kernel_rfl) (by kernel_rfl) (fun _ _ _ h => h) (Or.inl ⟨by rfl, ?_⟩) hHeld ?_
        rotate_left
        · (intro w' hSw; (try dsimp only at hSw); go_split_ands; go_simp; first | done | with_reducible rfl)
        try simp only [Act.put, List.setIfInBounds_toArray, List.set_cons_zero, List.set_cons_succ]
        refine wpAnyH_take (i := 1) (oi := { dst := some 115, op := Op.binOp BinOp.eql 30 (Operand.tmp 114) (Operand.const (Value.int IntKind.i64 0)) 30, type := 4, pos := "law.go:116", after := #[{ on := 0, ground := Ground.data }], guard := none }) (v := ?_) rfl (by kernel_rfl) (by kernel_rfl) (by kernel_rfl) (fun _ _ _ h => h) (Or.inl ⟨by rfl, ?_⟩) hHeld ?_
        rotate_left
        · (intro w' hSw; (try dsimp only at hSw); go_split_ands; go_simp; first | done | with_reducible rfl)
        try simp only [Act.put, List.setIfInBounds_toArray, List.set_cons_zero, List.set_cons_succ]
        refine wpAnyH_take (i := 2) (oi := { dst := some 116, op := Op.move (Operand.tmp 115), type := 4, pos := "law.go:116", after := #[{ on := 1, ground := Ground.data }], guard := none }) (v := ?_) rfl (by kernel_rfl) (by kernel_rfl) (by kernel_rfl) (fun _ _ _ h => h) (Or.inl ⟨by rfl, ?_⟩) hHeld ?_
        rotate_left
        · (intro w' hSw; (try dsimp only at hSw); go_split_ands; go_simp; first | done | with_reducible rfl)
        try simp only [Act.put, List.setIfInBounds_toArray, List.set_cons_zero, List.set_cons_succ]
        refine wpAnyH_take (i := 3) (oi := { dst := some 117, op := Op.load 26 (Operand.tmp 13), type := 26, pos := "law.go:116", after := #[{ on := 2, ground := Ground.guard }], guard := some (2, true) }) (v := ?_) rfl (by kernel_rfl) (by kernel_rfl) (by kernel_rfl) (fun _ _ _ h => h) (Or.inl ⟨by rfl, ?_⟩) hHeld ?_
        rotate_left
        · (intro w' hSw; (try dsimp only at hSw); go_split_ands; go_simp; first | done | with_reducible rfl)
        try simp only [Act.put, List.setIfInBounds_toArray, List.set_cons_zero, List.set_cons_succ]
        refine wpAnyH_take (i := 5) (oi := { dst := some 119, op := Op.load 34 (Operand.tmp 15), type := 34, pos := "law.go:116", after := #[{ on := 2, ground := Ground.guard }], guard := some (2, true) }) (v := ?_) rfl (by kernel_rfl) (by kernel_rfl) (by kernel_rfl) (fun _ _ _ h => h) (Or.inl ⟨by rfl, ?_⟩) hHeld ?_
        rotate_left
        · (intro w' hSw; (try dsimp only at hSw); go_split_ands; go_simp; first | done | with_reducible rfl)
        try simp only [Act.put, List.setIfInBounds_toArray, List.set_cons_zero, List.set_cons_succ]
        refine wpAnyH_ready (rs := [4]) (by kernel_rfl) (by simp) ?_
        refine AllReadyH.cons (o := { dst := some 118, op := Op.call { callee := Callee.value (Operand.func 13), args := #[Operand.tmp 117], argTypes := #[26] }, type := 34, pos := "law.go:116", after := #[{ on := 3, ground := Ground.data }, { on := 2, ground := Ground.chain }, { on := 2, ground := Ground.guard }], guard := some (2, true) }) rfl (fun K hK => ?_) AllReadyH.nil
        go_simp
        refine (plain_any A8 n c8 k8 d8 i8 u1 u2 wD.drew).mono ?_
        rintro en w15 ⟨rfl, hb15u⟩
        have hb15 : Below wD.heap.size wD w15 := below_undrew hb15u
        have s15 := HD9.out.below hb15 (by omega)
        have r15 := HDR.out.below hb15 (by omega)
        go_wp2_with fail
        refine hK.out _ _ ?_ ?_
        · (exact ⟨s15.c0, s15.c1, s15.c2, s15.c3, s15.c4, s15.c5, r15.c0, r15.c1, r15.c2, r15.c3, r15.c4, r15.c5⟩)
        clear hK K hHeld; intro hHeld
        try simp only [Act.put, List.setIfInBounds_toArray, List.set_cons_zero, List.set_cons_succ]
        refine wpAnyH_ready (rs := [6]) (by kernel_rfl) (by simp) ?_
        refine AllReadyH.cons (o := { dst := some 120, op := Op.call { callee := Callee.value (Operand.func 18), args := #[Operand.tmp 118, Operand.tmp 119], argTypes := #[34, 34] }, type := 4, pos := "law.go:116", after := #[{ on := 4, ground := Ground.data }, { on := 5, ground := Ground.data }, { on := 4, ground := Ground.chain }, { on := 2, ground := Ground.guard }], guard := some (2, true) }) rfl (fun K hK => ?_) AllReadyH.nil
        have hb1415 : Below w14.heap.size w14 w15 := HDD.out.trans (hb15.mono hDs)
        have hS8 := (HSL.out.below ((hb913.trans (hb14'.mono hb913.size)).trans (hb1415.mono (by have h1 := (hb913).size; have h2 := hb14'.size; omega)))).more (Nat.le_trans (by have h1 := (hb913).size; have h2 := hb14'.size; omega) hb1415.size)
        have hST := ((HLT.out.below (hb1415.mono hb14'.size)).more (Nat.le_trans hb14'.size hb1415.size))
        go_simp
        refine (RefSameR_true A8 A12 n c8 c12 (sortN ls) (by rw [sortN_length]; exact HN.out) k8 d8 i8 u1 u2 w15 hS8 hST (HN.out ▸ HFA.out.sz.2.2)).mono ?_
        rintro en w16 ⟨rfl, hb16⟩
        have s16 := s15.below hb16 (by have := hb15.size; omega)
        have r16 := r15.below hb16 (by have := hb15.size; omega)
        go_wp2_with fail
        refine hK.out _ _ ?_ ?_
        · (exact ⟨s16.c0, s16.c1, s16.c2, s16.c3, s16.c4, s16.c5, r16.c0, r16.c1, r16.c2, r16.c3, r16.c4, r16.c5⟩)
        clear hK K hHeld; intro hHeld
        try simp only [Act.put, List.setIfInBounds_toArray, List.set_cons_zero, List.set_cons_succ]
        refine wpAnyH_take (i := 7) (oi := { dst := some 121, op := Op.pick (Operand.tmp 116) (Operand.tmp 120) (Operand.const (Value.bool false)), type := 4, pos := "law.go:116", after := #[{ on := 2, ground := Ground.data }, { on := 6, ground := Ground.data }], guard := none }) (v := ?_) rfl (by kernel_rfl) (by kernel_rfl) (by kernel_rfl) (fun _ _ _ h => h) (Or.inl ⟨by rfl, ?_⟩) hHeld ?_
        rotate_left
        · (intro w' hSw; (try dsimp only at hSw); go_split_ands; go_simp; first | done | with_reducible rfl)
        try simp only [Act.put, List.setIfInBounds_toArray, List.set_cons_zero, List.set_cons_succ]
        refine wpAnyH_take (i := 8) (oi := { dst := some 122, op := Op.move (Operand.tmp 121), type := 4, pos := "law.go:116", after := #[{ on := 7, ground := Ground.data }, { on := 6, ground := Ground.chain }], guard := none }) (v := ?_) rfl (by kernel_rfl) (by kernel_rfl) (by kernel_rfl) (fun _ _ _ h => h) (Or.inl ⟨by rfl, ?_⟩) hHeld ?_
        rotate_left
        · (intro w' hSw; (try dsimp only at hSw); go_split_ands; go_simp; first | done | with_reducible rfl)
        try simp only [Act.put, List.setIfInBounds_toArray, List.set_cons_zero, List.set_cons_succ]
        refine wpAnyH_take (i := 9) (oi := { dst := some 123, op := Op.move (Operand.tmp 11), type := 29, pos := "law.go:116", after := #[{ on := 8, ground := Ground.guard }], guard := some (8, true) }) (v := ?_) rfl (by kernel_rfl) (by kernel_rfl) (by kernel_rfl) (fun _ _ _ h => h) (Or.inl ⟨by rfl, ?_⟩) hHeld ?_
        rotate_left
        · (intro w' hSw; (try dsimp only at hSw); go_split_ands; go_simp; first | done | with_reducible rfl)
        try simp only [Act.put, List.setIfInBounds_toArray, List.set_cons_zero, List.set_cons_succ]
        refine wpAnyH_take (i := 10) (oi := { dst := some 124, op := Op.call { callee := Callee.builtin Builtin.len, args := #[Operand.tmp 123], argTypes := #[29] }, type := 3, pos := "law.go:116", after := #[{ on := 9, ground := Ground.data }, { on := 8, ground := Ground.guard }], guard := some (8, true) }) (v := ?_) rfl (by kernel_rfl) (by kernel_rfl) (by kernel_rfl) (fun _ _ _ h => h) (Or.inl ⟨by rfl, ?_⟩) hHeld ?_
        rotate_left
        · (intro w' hSw; (try dsimp only at hSw); go_split_ands; go_simp; first | done | with_reducible rfl)
        try simp only [Act.put, List.setIfInBounds_toArray, List.set_cons_zero, List.set_cons_succ]
        refine wpAnyH_take (i := 11) (oi := { dst := some 125, op := Op.binOp BinOp.leq 3 (Operand.tmp 124) (Operand.const (Value.int IntKind.i64 400)) 3, type := 4, pos := "law.go:116", after := #[{ on := 10, ground := Ground.data }, { on := 8, ground := Ground.guard }], guard := some (8, true) }) (v := ?_) rfl (by kernel_rfl) (by kernel_rfl) (by kernel_rfl) (fun _ _ _ h => h) (Or.inl ⟨by rfl, ?_⟩) hHeld ?_
        rotate_left
        · (intro w' hSw; (try dsimp only at hSw); go_split_ands; go_simp; first | done | with_reducible rfl)
        try simp only [Act.put, List.setIfInBounds_toArray, List.set_cons_zero, List.set_cons_succ]
        refine wpAnyH_take (i := 12) (oi := { dst := some 126, op := Op.pick (Operand.tmp 122) (Operand.tmp 125) (Operand.const (Value.bool false)), type := 4, pos := "law.go:116", after := #[{ on := 8, ground := Ground.data }, { on := 11, ground := Ground.data }], guard := none }) (v := ?_) rfl (by kernel_rfl) (by kernel_rfl) (by kernel_rfl) (fun _ _ _ h => h) (Or.inl ⟨by rfl, ?_⟩) hHeld ?_
        rotate_left
        · (intro w' hSw; (try dsimp only at hSw); go_split_ands; go_simp; first | done | with_reducible rfl)
        try simp only [Act.put, List.setIfInBounds_toArray, List.set_cons_zero, List.set_cons_succ]
        refine wpAnyH_take (i := 13) (oi := { dst := some 4, op := Op.assign (Operand.tmp 126), type := 4, pos := "law.go:116", after := #[{ on := 12, ground := Ground.data }, { on := 8, ground := Ground.chain }, { on := 0, ground := Ground.phase }, { on := 1, ground := Ground.phase }, { on := 2, ground := Ground.phase }, { on := 3, ground := Ground.phase }, { on := 4, ground := Ground.phase }, { on := 5, ground := Ground.phase }, { on := 6, ground := Ground.phase }, { on := 7, ground := Ground.phase }, { on := 8, ground := Ground.phase }, { on := 9, ground := Ground.phase }, { on := 10, ground := Ground.phase }, { on := 11, ground := Ground.phase }, { on := 12, ground := Ground.phase }], guard := none }) (v := ?_) rfl (by kernel_rfl) (by kernel_rfl) (by kernel_rfl) (fun _ _ _ h => h) (Or.inl ⟨by rfl, ?_⟩) hHeld ?_
        rotate_left
        · (intro w' hSw; (try dsimp only at hSw); go_split_ands; go_simp; first | done | with_reducible rfl)
        try simp only [Act.put, List.setIfInBounds_toArray, List.set_cons_zero, List.set_cons_succ]
        refine wpAnyH_done (by kernel_rfl) ?_ _
        refine NoPanic.normal ?_
        have b16 : Below w.heap.size w w16 := b14.trans (((HDD.out.trans (hb15.mono hDs)).trans (hb16.mono (by have := hb15.size; omega))).mono b14.size)
        go_wp2_with fail
        go_ret
        exact ⟨by simp, b16⟩

    · have hnil : ls = [] := List.eq_nil_of_length_eq_zero (by have := HN.out; omega)
      have hb711 : Below w7.heap.size w7 W11 := (hb8'.trans (hb89.mono hb8'.size)).trans (hb911.mono (by have := hb8'.size; have := hb89.size; omega))
      have hsL11 : Sees W11 W11.heap.size A (lv (sortN ls)) := by rw [hnil]; exact Sees.nil _ _ _
      have HNIL := Lib.hid hnil
      clear m0 m1 m2 m3 m4 m5 hnil
      have hAh := Lib.hid (Ahead_any A n c ls HN.out k8 d8 i8 u1 u2 W11 ((hS.below b11).more b11.size) (HN.out ▸ HFA.out.sz.2.2) HFA.out.sz.1 HFA.out.sz.2.1)
      obtain ⟨m0, m1, m2, m3, m4, m5, -⟩ := HX.out.below hb11 hs1
      go_wp2_with fail
      refine hAh.out.mono ?_
      rintro en w14 ⟨A14, n14, c14, k14, l14, rfl, hb14', hl14, hc14, hs14, hres14⟩
      have hb14 : Below W1.heap.size W1 w14 := hb11.trans (hb14'.mono hb11.size)
      have b14 : Below w.heap.size w w14 := hb1.trans (hb14.mono hb1.size)
      have H9w := Lib.hid (H9.out.below (hb911.trans (hb14'.mono hb911.size)) hs89)
      have HRw := Lib.hid (H11.out.below hb14' hs1011)
      have hm14 := hs7.below (((hb711)).trans (hb14'.mono (hb711).size))
      clear m0 m1 m2 m3 m4 m5 hAh
      obtain ⟨m0, m1, m2, m3, m4, m5, -⟩ := HX.out.below hb14 hs1
      have HM14 := Lib.hid hm14
      have HLT := Lib.hid (hsL11.below (hb14'.mono (Nat.le_refl _)))
      have HSL := Lib.hid hsL
      by_cases hk2 : k8 = 2
      · obtain ⟨rfl, rfl⟩ : k14 = 120 ∧ n14 = 0 := by
          rcases hres14 with ⟨-, h, -⟩ | ⟨-, h1, h2⟩
          · exact absurd hk2 h
          · exact ⟨h1, by rw [← hl14, h2]; rfl⟩
        have hkb : (k8 == 2) = true := by rw [hk2]; rfl
        clear hres14 hl14 hs14 hk2
        go_wp2_with fail
        go_quiet (fail)
        go_wp2_with fail
        have hDw : Below w14.heap.size w14 (w14.drewN nq) := below_d (Below.refl _ _) nq
        have lt9 : w8.heap.size < w14.heap.size := by have h1 := (hb911).size; have h2 := hb14'.size; omega
        have ltR : w10.heap.size < w14.heap.size := by have h1 := hs1011; have h2 := hb14'.size; omega
        have HD9 := H9w.out.below hDw lt9
        have HDR := HRw.out.below hDw ltR
        have hDs := hDw.size
        have hm400 : (ml : Int) ≤ 400 := by omega
        have HDD := Lib.hid hDw
        clear m0 m1 m2 m3 m4 m5
        generalize w14.drewN nq = wD at hDw HD9 HDR hDs HDD ⊢
        obtain ⟨g0, g1, g2, g3, g4, g5, -⟩ := HD9
        obtain ⟨f0, f1, f2, f3, f4, f5, -⟩ := HDR
        have HD9 := Lib.hid (H9w.out.below hDw lt9)
        have HDR := Lib.hid (HRw.out.below hDw ltR)
        refine wp_region_noPanic ?_
        refine wp_region_held_drew (S := fun w' => w'.cell? ⟨w8.heap.size, 0, none⟩ = some (.int .i64 k8) ∧ w'.cell? ⟨w8.heap.size, 1, none⟩ = some (.slice A8 n c8) ∧ w'.cell? ⟨w8.heap.size, 2, none⟩ = some (.string u1) ∧ w'.cell? ⟨w8.heap.size, 3, none⟩ = some (.string u2) ∧ w'.cell? ⟨w8.heap.size, 4, none⟩ = some (.int .i64 d8) ∧ w'.cell? ⟨w8.heap.size, 5, none⟩ = some (.int .i64 i8) ∧ w'.cell? ⟨w10.heap.size, 0, none⟩ = some (.int .i64 k8) ∧ w'.cell? ⟨w10.heap.size, 1, none⟩ = some (.slice A n c) ∧ w'.cell? ⟨w10.heap.size, 2, none⟩ = some (.string u1) ∧ w'.cell? ⟨w10.heap.size, 3, none⟩ = some (.string u2) ∧ w'.cell? ⟨w10.heap.size, 4, none⟩ = some (.int .i64 d8) ∧ w'.cell? ⟨w10.heap.size, 5, none⟩ = some (.int .i64 i8)) (by kernel_rfl) ?_ (fun hHeld => ?_)
        · (exact ⟨g0, g1, g2, g3, g4, g5, f0, f1, f2, f3, f4, f5⟩)
        refine wpAnyH_take (i := 0) (oi := { dst := some 114, op := Op.move (Operand.tmp 14), type := 30, pos := "law.go:116", after := #[], guard := none }) (v := ?_) rfl (by kernel_rfl) (by kernel_rfl) (by kernel_rfl) (fun _ _ _ h => h) (Or.inl ⟨by rfl, ?_⟩) hHeld ?_
        rotate_left
        · (intro w' hSw; (try dsimp only at hSw); go_split_ands; go_simp; first | done | with_reducible rfl)
        try simp only [Act.put, List.setIfInBounds_toArray, List.set_cons_zero, List.set_cons_succ]
        refine wpAnyH_take (i := 1) (oi := { dst := some 115, op := Op.binOp BinOp.eql 30 (Operand.tmp 114) (Operand.const (Value.int IntKind.i64 0)) 30, type := 4, pos := "law.go:116", after := #[{ on := 0, ground := Ground.data }], guard := none }) (v := ?_) rfl (by kernel_rfl) (by kernel_rfl) (by kernel_rfl) (fun _ _ _ h => h) (Or.inl ⟨by rfl, ?_⟩) hHeld ?_
        rotate_left
        · (intro w' hSw; (try dsimp only at hSw); go_split_ands; go_simp; first | done | with_reducible rfl)
        try simp only [Act.put, List.setIfInBounds_toArray, List.set_cons_zero, List.set_cons_succ]
        refine wpAnyH_take (i := 2) (oi := { dst := some 116, op := Op.move (Operand.tmp 115), type := 4, pos := "law.go:116", after := #[{ on := 1, ground := Ground.data }], guard := none }) (v := ?_) rfl (by kernel_rfl) (by kernel_rfl) (by kernel_rfl) (fun _ _ _ h => h) (Or.inl ⟨by rfl, ?_⟩) hHeld ?_
        rotate_left
        · (intro w' hSw; (try dsimp only at hSw); go_split_ands; go_simp; first | done | with_reducible rfl)
        try simp only [Act.put, List.setIfInBounds_toArray, List.set_cons_zero, List.set_cons_succ]
        refine wpAnyH_take (i := 3) (oi := { dst := some 117, op := Op.load 26 (Operand.tmp 13), type := 26, pos := "law.go:116", after := #[{ on := 2, ground := Ground.guard }], guard := some (2, true) }) (v := ?_) rfl (by kernel_rfl) (by kernel_rfl) (by kernel_rfl) (fun _ _ _ h => h) (Or.inl ⟨by rfl, ?_⟩) hHeld ?_
        rotate_left
        · (intro w' hSw; (try dsimp only at hSw); go_split_ands; go_simp; first | done | with_reducible rfl)
        try simp only [Act.put, List.setIfInBounds_toArray, List.set_cons_zero, List.set_cons_succ]
        refine wpAnyH_take (i := 5) (oi := { dst := some 119, op := Op.load 34 (Operand.tmp 15), type := 34, pos := "law.go:116", after := #[{ on := 2, ground := Ground.guard }], guard := some (2, true) }) (v := ?_) rfl (by kernel_rfl) (by kernel_rfl) (by kernel_rfl) (fun _ _ _ h => h) (Or.inl ⟨by rfl, ?_⟩) hHeld ?_
        rotate_left
        · (intro w' hSw; (try dsimp only at hSw); go_split_ands; go_simp; first | done | with_reducible rfl)
        try simp only [Act.put, List.setIfInBounds_toArray, List.set_cons_zero, List.set_cons_succ]
        refine wpAnyH_ready (rs := [4]) (by kernel_rfl) (by simp) ?_
        refine AllReadyH.cons (o := { dst := some 118, op := Op.call { callee := Callee.value (Operand.func 13), args := #[Operand.tmp 117], argTypes := #[26] }, type := 34, pos := "law.go:116", after := #[{ on := 3, ground := Ground.data }, { on := 2, ground := Ground.chain }, { on := 2, ground := Ground.guard }], guard := some (2, true) }) rfl (fun K hK => ?_) AllReadyH.nil
        go_simp
        refine (plain_any A8 n c8 k8 d8 i8 u1 u2 wD.drew).mono ?_
        rintro en w15 ⟨rfl, hb15u⟩
        have hb15 : Below wD.heap.size wD w15 := below_undrew hb15u
        have s15 := HD9.out.below hb15 (by omega)
        have r15 := HDR.out.below hb15 (by omega)
        go_wp2_with fail
        refine hK.out _ _ ?_ ?_
        · (exact ⟨s15.c0, s15.c1, s15.c2, s15.c3, s15.c4, s15.c5, r15.c0, r15.c1, r15.c2, r15.c3, r15.c4, r15.c5⟩)
        clear hK K hHeld; intro hHeld
        try simp only [Act.put, List.setIfInBounds_toArray, List.set_cons_zero, List.set_cons_succ]
        refine wpAnyH_ready (rs := [6]) (by kernel_rfl) (by simp) ?_
        refine AllReadyH.cons (o := { dst := some 120, op := Op.call { callee := Callee.value (Operand.func 18), args := #[Operand.tmp 118, Operand.tmp 119], argTypes := #[34, 34] }, type := 4, pos := "law.go:116", after := #[{ on := 4, ground := Ground.data }, { on := 5, ground := Ground.data }, { on := 4, ground := Ground.chain }, { on := 2, ground := Ground.guard }], guard := some (2, true) }) rfl (fun K hK => ?_) AllReadyH.nil
        have hb1415 : Below w14.heap.size w14 w15 := HDD.out.trans (hb15.mono hDs)
        have hS8 := (HSL.out.below ((hb911.trans (hb14'.mono hb911.size)).trans (hb1415.mono (by have h1 := (hb911).size; have h2 := hb14'.size; omega)))).more (Nat.le_trans (by have h1 := (hb911).size; have h2 := hb14'.size; omega) hb1415.size)
        have hST := ((HLT.out.below (hb1415.mono hb14'.size)).more (Nat.le_trans hb14'.size hb1415.size))
        go_simp
        refine (RefSameR_true A8 A n c8 c (sortN ls) (by rw [sortN_length]; exact HN.out) k8 d8 i8 u1 u2 w15 hS8 hST (HN.out ▸ HFA.out.sz.2.2)).mono ?_
        rintro en w16 ⟨rfl, hb16⟩
        have s16 := s15.below hb16 (by have := hb15.size; omega)
        have r16 := r15.below hb16 (by have := hb15.size; omega)
        go_wp2_with fail
        refine hK.out _ _ ?_ ?_
        · (exact ⟨s16.c0, s16.c1, s16.c2, s16.c3, s16.c4, s16.c5, r16.c0, r16.c1, r16.c2, r16.c3, r16.c4, r16.c5⟩)
        clear hK K hHeld; intro hHeld
        try simp only [Act.put, List.setIfInBounds_toArray, List.set_cons_zero, List.set_cons_succ]
        refine wpAnyH_take (i := 7) (oi := { dst := some 121, op := Op.pick (Operand.tmp 116) (Operand.tmp 120) (Operand.const (Value.bool false)), type := 4, pos := "law.go:116", after := #[{ on := 2, ground := Ground.data }, { on := 6, ground := Ground.data }], guard := none }) (v := ?_) rfl (by kernel_rfl) (by kernel_rfl) (by kernel_rfl) (fun _ _ _ h => h) (Or.inl ⟨by rfl, ?_⟩) hHeld ?_
        rotate_left
        · (intro w' hSw; (try dsimp only at hSw); go_split_ands; go_simp; first | done | with_reducible rfl)
        try simp only [Act.put, List.setIfInBounds_toArray, List.set_cons_zero, List.set_cons_succ]
        refine wpAnyH_take (i := 8) (oi := { dst := some 122, op := Op.move (Operand.tmp 121), type := 4, pos := "law.go:116", after := #[{ on := 7, ground := Ground.data }, { on := 6, ground := Ground.chain }], guard := none }) (v := ?_) rfl (by kernel_rfl) (by kernel_rfl) (by kernel_rfl) (fun _ _ _ h => h) (Or.inl ⟨by rfl, ?_⟩) hHeld ?_
        rotate_left
        · (intro w' hSw; (try dsimp only at hSw); go_split_ands; go_simp; first | done | with_reducible rfl)
        try simp only [Act.put, List.setIfInBounds_toArray, List.set_cons_zero, List.set_cons_succ]
        refine wpAnyH_take (i := 9) (oi := { dst := some 123, op := Op.move (Operand.tmp 11), type := 29, pos := "law.go:116", after := #[{ on := 8, ground := Ground.guard }], guard := some (8, true) }) (v := ?_) rfl (by kernel_rfl) (by kernel_rfl) (by kernel_rfl) (fun _ _ _ h => h) (Or.inl ⟨by rfl, ?_⟩) hHeld ?_
        rotate_left
        · (intro w' hSw; (try dsimp only at hSw); go_split_ands; go_simp; first | done | with_reducible rfl)
        try simp only [Act.put, List.setIfInBounds_toArray, List.set_cons_zero, List.set_cons_succ]
        refine wpAnyH_take (i := 10) (oi := { dst := some 124, op := Op.call { callee := Callee.builtin Builtin.len, args := #[Operand.tmp 123], argTypes := #[29] }, type := 3, pos := "law.go:116", after := #[{ on := 9, ground := Ground.data }, { on := 8, ground := Ground.guard }], guard := some (8, true) }) (v := ?_) rfl (by kernel_rfl) (by kernel_rfl) (by kernel_rfl) (fun _ _ _ h => h) (Or.inl ⟨by rfl, ?_⟩) hHeld ?_
        rotate_left
        · (intro w' hSw; (try dsimp only at hSw); go_split_ands; go_simp; first | done | with_reducible rfl)
        try simp only [Act.put, List.setIfInBounds_toArray, List.set_cons_zero, List.set_cons_succ]
        refine wpAnyH_take (i := 11) (oi := { dst := some 125, op := Op.binOp BinOp.leq 3 (Operand.tmp 124) (Operand.const (Value.int IntKind.i64 400)) 3, type := 4, pos := "law.go:116", after := #[{ on := 10, ground := Ground.data }, { on := 8, ground := Ground.guard }], guard := some (8, true) }) (v := ?_) rfl (by kernel_rfl) (by kernel_rfl) (by kernel_rfl) (fun _ _ _ h => h) (Or.inl ⟨by rfl, ?_⟩) hHeld ?_
        rotate_left
        · (intro w' hSw; (try dsimp only at hSw); go_split_ands; go_simp; first | done | with_reducible rfl)
        try simp only [Act.put, List.setIfInBounds_toArray, List.set_cons_zero, List.set_cons_succ]
        refine wpAnyH_take (i := 12) (oi := { dst := some 126, op := Op.pick (Operand.tmp 122) (Operand.tmp 125) (Operand.const (Value.bool false)), type := 4, pos := "law.go:116", after := #[{ on := 8, ground := Ground.data }, { on := 11, ground := Ground.data }], guard := none }) (v := ?_) rfl (by kernel_rfl) (by kernel_rfl) (by kernel_rfl) (fun _ _ _ h => h) (Or.inl ⟨by rfl, ?_⟩) hHeld ?_
        rotate_left
        · (intro w' hSw; (try dsimp only at hSw); go_split_ands; go_simp; first | done | with_reducible rfl)
        try simp only [Act.put, List.setIfInBounds_toArray, List.set_cons_zero, List.set_cons_succ]
        refine wpAnyH_take (i := 13) (oi := { dst := some 4, op := Op.assign (Operand.tmp 126), type := 4, pos := "law.go:116", after := #[{ on := 12, ground := Ground.data }, { on := 8, ground := Ground.chain }, { on := 0, ground := Ground.phase }, { on := 1, ground := Ground.phase }, { on := 2, ground := Ground.phase }, { on := 3, ground := Ground.phase }, { on := 4, ground := Ground.phase }, { on := 5, ground := Ground.phase }, { on := 6, ground := Ground.phase }, { on := 7, ground := Ground.phase }, { on := 8, ground := Ground.phase }, { on := 9, ground := Ground.phase }, { on := 10, ground := Ground.phase }, { on := 11, ground := Ground.phase }, { on := 12, ground := Ground.phase }], guard := none }) (v := ?_) rfl (by kernel_rfl) (by kernel_rfl) (by kernel_rfl) (fun _ _ _ h => h) (Or.inl ⟨by rfl, ?_⟩) hHeld ?_
        rotate_left
        · (intro w' hSw; (try dsimp only at hSw); go_split_ands; go_simp; first | done | with_reducible rfl)
        try simp only [Act.put, List.setIfInBounds_toArray, List.set_cons_zero, List.set_cons_succ]
        refine wpAnyH_done (by kernel_rfl) ?_ _
        refine NoPanic.normal ?_
        have b16 : Below w.heap.size w w16 := b14.trans (((HDD.out.trans (hb15.mono hDs)).trans (hb16.mono (by have := hb15.size; omega))).mono b14.size)
        go_wp2_with fail
        go_ret
        exact ⟨by simp, b16⟩
      · obtain ⟨P, hP1, hP2⟩ := ahead_pre HMA.out hk2
        obtain ⟨rfl, hlP⟩ : k14 = 0 ∧ l14 = P := by
          rcases hres14 with ⟨-, -, h1, h2⟩ | ⟨h, -, -⟩
          · exact ⟨h1, h2.trans hP1⟩
          · exact absurd ⟨may_id HMA.out (by omega) (by omega), hk2⟩ h
        have hkb : (k8 == 2) = false := by rw [beq_eq_false_iff_ne]; exact hk2
        have hMP := HM.out.symm.trans hP2
        subst hlP
        have hlen4 : n14 + 4 = ml := by rw [← HMLL.out, hMP, List.length_append, four_len, hl14]
        have hnm : n14 < ml := by omega
        have hnc7 : n14 ≤ c7 := by omega
        have hSm : Sees w14 w7.heap.size A7 (bv l14) := by
          have h1 := HM14.out.take n14
          rw [← bv_take, hMP, List.take_left' hl14] at h1
          exact h1
        have cvm := fun q => run_str (w14.drewN q) _ A7 n14 c7 l14 (hSm.drewN q) hl14
        have cva := fun q => run_str (w14.drewN q) _ A14 n14 c14 l14 (hs14.drewN q) hl14
        generalize strOf l14 = sP at cvm cva
        have hnmi : (n14 : Int) < (ml : Int) := by omega
        clear hres14 hl14 hs14 hk2 hP1 hP2 hMP hlen4 hSm
        go_wp2_with fail
        go_quiet (fail)
        go_wp2_with fail
        have hDw : Below w14.heap.size w14 (w14.drewN nq) := below_d (Below.refl _ _) nq
        have lt9 : w8.heap.size < w14.heap.size := by have h1 := (hb911).size; have h2 := hb14'.size; omega
        have ltR : w10.heap.size < w14.heap.size := by have h1 := hs1011; have h2 := hb14'.size; omega
        have HD9 := H9w.out.below hDw lt9
        have HDR := HRw.out.below hDw ltR
        have hDs := hDw.size
        have hm400 : (ml : Int) ≤ 400 := by omega
        have HDD := Lib.hid hDw
        clear m0 m1 m2 m3 m4 m5
        generalize w14.drewN nq = wD at hDw HD9 HDR hDs HDD ⊢
        obtain ⟨g0, g1, g2, g3, g4, g5, -⟩ := HD9
        obtain ⟨f0, f1, f2, f3, f4, f5, -⟩ := HDR
        have HD9 := Lib.hid (H9w.out.below hDw lt9)
        have HDR := Lib.hid (HRw.out.below hDw ltR)
        refine wp_region_noPanic ?_
        refine wp_region_held_drew (S := fun w' => w'.cell? ⟨w8.heap.size, 0, none⟩ = some (.int .i64 k8) ∧ w'.cell? ⟨w8.heap.size, 1, none⟩ = some (.slice A8 n c8) ∧ w'.cell? ⟨w8.heap.size, 2, none⟩ = some (.string u1) ∧ w'.cell? ⟨w8.heap.size, 3, none⟩ = some (.string u2) ∧ w'.cell? ⟨w8.heap.size, 4, none⟩ = some (.int .i64 d8) ∧ w'.cell? ⟨w8.heap.size, 5, none⟩ = some (.int .i64 i8) ∧ w'.cell? ⟨w10.heap.size, 0, none⟩ = some (.int .i64 k8) ∧ w'.cell? ⟨w10.heap.size, 1, none⟩ = some (.slice A n c) ∧ w'.cell? ⟨w10.heap.size, 2, none⟩ = some (.string u1) ∧ w'.cell? ⟨w10.heap.size, 3, none⟩ = some (.string u2) ∧ w'.cell? ⟨w10.heap.size, 4, none⟩ = some (.int .i64 d8) ∧ w'.cell? ⟨w10.heap.size, 5, none⟩ = some (.int .i64 i8)) (by kernel_rfl) ?_ (fun hHeld => ?_)
        · (exact ⟨g0, g1, g2, g3, g4, g5, f0, f1, f2, f3, f4, f5⟩)
        refine wpAnyH_take (i := 0) (oi := { dst := some 114, op := Op.move (Operand.tmp 14), type := 30, pos := "law.go:116", after := #[], guard := none }) (v := ?_) rfl (by kernel_rfl) (by kernel_rfl) (by kernel_rfl) (fun _ _ _ h => h) (Or.inl ⟨by rfl, ?_⟩) hHeld ?_
        rotate_left
        · (intro w' hSw; (try dsimp only at hSw); go_split_ands; go_simp; first | done | with_reducible rfl)
        try simp only [Act.put, List.setIfInBounds_toArray, List.set_cons_zero, List.set_cons_succ]
        refine wpAnyH_take (i := 1) (oi := { dst := some 115, op := Op.binOp BinOp.eql 30 (Operand.tmp 114) (Operand.const (Value.int IntKind.i64 0)) 30, type := 4, pos := "law.go:116", after := #[{ on := 0, ground := Ground.data }], guard := none }) (v := ?_) rfl (by kernel_rfl) (by kernel_rfl) (by kernel_rfl) (fun _ _ _ h => h) (Or.inl ⟨by rfl, ?_⟩) hHeld ?_
        rotate_left
        · (intro w' hSw; (try dsimp only at hSw); go_split_ands; go_simp; first | done | with_reducible rfl)
        try simp only [Act.put, List.setIfInBounds_toArray, List.set_cons_zero, List.set_cons_succ]
        refine wpAnyH_take (i := 2) (oi := { dst := some 116, op := Op.move (Operand.tmp 115), type := 4, pos := "law.go:116", after := #[{ on := 1, ground := Ground.data }], guard := none }) (v := ?_) rfl (by kernel_rfl) (by kernel_rfl) (by kernel_rfl) (fun _ _ _ h => h) (Or.inl ⟨by rfl, ?_⟩) hHeld ?_
        rotate_left
        · (intro w' hSw; (try dsimp only at hSw); go_split_ands; go_simp; first | done | with_reducible rfl)
        try simp only [Act.put, List.setIfInBounds_toArray, List.set_cons_zero, List.set_cons_succ]
        refine wpAnyH_take (i := 3) (oi := { dst := some 117, op := Op.load 26 (Operand.tmp 13), type := 26, pos := "law.go:116", after := #[{ on := 2, ground := Ground.guard }], guard := some (2, true) }) (v := ?_) rfl (by kernel_rfl) (by kernel_rfl) (by kernel_rfl) (fun _ _ _ h => h) (Or.inl ⟨by rfl, ?_⟩) hHeld ?_
        rotate_left
        · (intro w' hSw; (try dsimp only at hSw); go_split_ands; go_simp; first | done | with_reducible rfl)
        try simp only [Act.put, List.setIfInBounds_toArray, List.set_cons_zero, List.set_cons_succ]
        refine wpAnyH_take (i := 5) (oi := { dst := some 119, op := Op.load 34 (Operand.tmp 15), type := 34, pos := "law.go:116", after := #[{ on := 2, ground := Ground.guard }], guard := some (2, true) }) (v := ?_) rfl (by kernel_rfl) (by kernel_rfl) (by kernel_rfl) (fun _ _ _ h => h) (Or.inl ⟨by rfl, ?_⟩) hHeld ?_
        rotate_left
        · (intro w' hSw; (try dsimp only at hSw); go_split_ands; go_simp; first | done | with_reducible rfl)
        try simp only [Act.put, List.setIfInBounds_toArray, List.set_cons_zero, List.set_cons_succ]
        refine wpAnyH_ready (rs := [4]) (by kernel_rfl) (by simp) ?_
        refine AllReadyH.cons (o := { dst := some 118, op := Op.call { callee := Callee.value (Operand.func 13), args := #[Operand.tmp 117], argTypes := #[26] }, type := 34, pos := "law.go:116", after := #[{ on := 3, ground := Ground.data }, { on := 2, ground := Ground.chain }, { on := 2, ground := Ground.guard }], guard := some (2, true) }) rfl (fun K hK => ?_) AllReadyH.nil
        go_simp
        refine (plain_any A8 n c8 k8 d8 i8 u1 u2 wD.drew).mono ?_
        rintro en w15 ⟨rfl, hb15u⟩
        have hb15 : Below wD.heap.size wD w15 := below_undrew hb15u
        have s15 := HD9.out.below hb15 (by omega)
        have r15 := HDR.out.below hb15 (by omega)
        go_wp2_with fail
        refine hK.out _ _ ?_ ?_
        · (exact ⟨s15.c0, s15.c1, s15.c2, s15.c3, s15.c4, s15.c5, r15.c0, r15.c1, r15.c2, r15.c3, r15.c4, r15.c5⟩)
        clear hK K hHeld; intro hHeld
        try simp only [Act.put, List.setIfInBounds_toArray, List.set_cons_zero, List.set_cons_succ]
        refine wpAnyH_ready (rs := [6]) (by kernel_rfl) (by simp) ?_
        refine AllReadyH.cons (o := { dst := some 120, op := Op.call { callee := Callee.value (Operand.func 18), args := #[Operand.tmp 118, Operand.tmp 119], argTypes := #[34, 34] }, type := 4, pos := "law.go:116", after := #[{ on := 4, ground := Ground.data }, { on := 5, ground := Ground.data }, { on := 4, ground := Ground.chain }, { on := 2, ground := Ground.guard }], guard := some (2, true) }) rfl (fun K hK => ?_) AllReadyH.nil
        have hb1415 : Below w14.heap.size w14 w15 := HDD.out.trans (hb15.mono hDs)
        have hS8 := (HSL.out.below ((hb911.trans (hb14'.mono hb911.size)).trans (hb1415.mono (by have h1 := (hb911).size; have h2 := hb14'.size; omega)))).more (Nat.le_trans (by have h1 := (hb911).size; have h2 := hb14'.size; omega) hb1415.size)
        have hST := ((HLT.out.below (hb1415.mono hb14'.size)).more (Nat.le_trans hb14'.size hb1415.size))
        go_simp
        refine (RefSameR_true A8 A n c8 c (sortN ls) (by rw [sortN_length]; exact HN.out) k8 d8 i8 u1 u2 w15 hS8 hST (HN.out ▸ HFA.out.sz.2.2)).mono ?_
        rintro en w16 ⟨rfl, hb16⟩
        have s16 := s15.below hb16 (by have := hb15.size; omega)
        have r16 := r15.below hb16 (by have := hb15.size; omega)
        go_wp2_with fail
        refine hK.out _ _ ?_ ?_
        · (exact ⟨s16.c0, s16.c1, s16.c2, s16.c3, s16.c4, s16.c5, r16.c0, r16.c1, r16.c2, r16.c3, r16.c4, r16.c5⟩)
        clear hK K hHeld; intro hHeld
        try simp only [Act.put, List.setIfInBounds_toArray, List.set_cons_zero, List.set_cons_succ]
        refine wpAnyH_take (i := 7) (oi := { dst := some 121, op := Op.pick (Operand.tmp 116) (Operand.tmp 120) (Operand.const (Value.bool false)), type := 4, pos := "law.go:116", after := #[{ on := 2, ground := Ground.data }, { on := 6, ground := Ground.data }], guard := none }) (v := ?_) rfl (by kernel_rfl) (by kernel_rfl) (by kernel_rfl) (fun _ _ _ h => h) (Or.inl ⟨by rfl, ?_⟩) hHeld ?_
        rotate_left
        · (intro w' hSw; (try dsimp only at hSw); go_split_ands; go_simp; first | done | with_reducible rfl)
        try simp only [Act.put, List.setIfInBounds_toArray, List.set_cons_zero, List.set_cons_succ]
        refine wpAnyH_take (i := 8) (oi := { dst := some 122, op := Op.move (Operand.tmp 121), type := 4, pos := "law.go:116", after := #[{ on := 7, ground := Ground.data }, { on := 6, ground := Ground.chain }], guard := none }) (v := ?_) rfl (by kernel_rfl) (by kernel_rfl) (by kernel_rfl) (fun _ _ _ h => h) (Or.inl ⟨by rfl, ?_⟩) hHeld ?_
        rotate_left
        · (intro w' hSw; (try dsimp only at hSw); go_split_ands; go_simp; first | done | with_reducible rfl)
        try simp only [Act.put, List.setIfInBounds_toArray, List.set_cons_zero, List.set_cons_succ]
        refine wpAnyH_take (i := 9) (oi := { dst := some 123, op := Op.move (Operand.tmp 11), type := 29, pos := "law.go:116", after := #[{ on := 8, ground := Ground.guard }], guard := some (8, true) }) (v := ?_) rfl (by kernel_rfl) (by kernel_rfl) (by kernel_rfl) (fun _ _ _ h => h) (Or.inl ⟨by rfl, ?_⟩) hHeld ?_
        rotate_left
        · (intro w' hSw; (try dsimp only at hSw); go_split_ands; go_simp; first | done | with_reducible rfl)
        try simp only [Act.put, List.setIfInBounds_toArray, List.set_cons_zero, List.set_cons_succ]
        refine wpAnyH_take (i := 10) (oi := { dst := some 124, op := Op.call { callee := Callee.builtin Builtin.len, args := #[Operand.tmp 123], argTypes := #[29] }, type := 3, pos := "law.go:116", after := #[{ on := 9, ground := Ground.data }, { on := 8, ground := Ground.guard }], guard := some (8, true) }) (v := ?_) rfl (by kernel_rfl) (by kernel_rfl) (by kernel_rfl) (fun _ _ _ h => h) (Or.inl ⟨by rfl, ?_⟩) hHeld ?_
        rotate_left
        · (intro w' hSw; (try dsimp only at hSw); go_split_ands; go_simp; first | done | with_reducible rfl)
        try simp only [Act.put, List.setIfInBounds_toArray, List.set_cons_zero, List.set_cons_succ]
        refine wpAnyH_take (i := 11) (oi := { dst := some 125, op := Op.binOp BinOp.leq 3 (Operand.tmp 124) (Operand.const (Value.int IntKind.i64 400)) 3, type := 4, pos := "law.go:116", after := #[{ on := 10, ground := Ground.data }, { on := 8, ground := Ground.guard }], guard := some (8, true) }) (v := ?_) rfl (by kernel_rfl) (by kernel_rfl) (by kernel_rfl) (fun _ _ _ h => h) (Or.inl ⟨by rfl, ?_⟩) hHeld ?_
        rotate_left
        · (intro w' hSw; (try dsimp only at hSw); go_split_ands; go_simp; first | done | with_reducible rfl)
        try simp only [Act.put, List.setIfInBounds_toArray, List.set_cons_zero, List.set_cons_succ]
        refine wpAnyH_take (i := 12) (oi := { dst := some 126, op := Op.pick (Operand.tmp 122) (Operand.tmp 125) (Operand.const (Value.bool false)), type := 4, pos := "law.go:116", after := #[{ on := 8, ground := Ground.data }, { on := 11, ground := Ground.data }], guard := none }) (v := ?_) rfl (by kernel_rfl) (by kernel_rfl) (by kernel_rfl) (fun _ _ _ h => h) (Or.inl ⟨by rfl, ?_⟩) hHeld ?_
        rotate_left
        · (intro w' hSw; (try dsimp only at hSw); go_split_ands; go_simp; first | done | with_reducible rfl)
        try simp only [Act.put, List.setIfInBounds_toArray, List.set_cons_zero, List.set_cons_succ]
        refine wpAnyH_take (i := 13) (oi := { dst := some 4, op := Op.assign (Operand.tmp 126), type := 4, pos := "law.go:116", after := #[{ on := 12, ground := Ground.data }, { on := 8, ground := Ground.chain }, { on := 0, ground := Ground.phase }, { on := 1, ground := Ground.phase }, { on := 2, ground := Ground.phase }, { on := 3, ground := Ground.phase }, { on := 4, ground := Ground.phase }, { on := 5, ground := Ground.phase }, { on := 6, ground := Ground.phase }, { on := 7, ground := Ground.phase }, { on := 8, ground := Ground.phase }, { on := 9, ground := Ground.phase }, { on := 10, ground := Ground.phase }, { on := 11, ground := Ground.phase }, { on := 12, ground := Ground.phase }], guard := none }) (v := ?_) rfl (by kernel_rfl) (by kernel_rfl) (by kernel_rfl) (fun _ _ _ h => h) (Or.inl ⟨by rfl, ?_⟩) hHeld ?_
        rotate_left
        · (intro w' hSw; (try dsimp only at hSw); go_split_ands; go_simp; first | done | with_reducible rfl)
        try simp only [Act.put, List.setIfInBounds_toArray, List.set_cons_zero, List.set_cons_succ]
        refine wpAnyH_done (by kernel_rfl) ?_ _
        refine NoPanic.normal ?_
        have b16 : Below w.heap.size w w16 := b14.trans (((HDD.out.trans (hb15.mono hDs)).trans (hb16.mono (by have := hb15.size; omega))).mono b14.size)
        go_wp2_with fail
        go_ret
        exact ⟨by simp, b16⟩


end Go.Proofs.YtpjiioeodcinpaaGreatDoor
