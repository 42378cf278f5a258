/-
  The law RowsApart, walked.
-/
import Derived.Test.YtpjiioeodcinpaaGreatDoorRwAwake
import Derived.Test.YtpjiioeodcinpaaGreatDoorRwApart
namespace Go.Proofs.YtpjiioeodcinpaaGreatDoor
open Go.RowKit KB

theorem apart_facts {ls : List Lb} {i d : Int} (h : ∀ q ∈ wants ls [d, d], MayR (rowOf ls i q)) : MayL ls ∧ ∃ iN dN : Nat, i = (iN : Int) ∧ d = (dN : Int) ∧ iN < 4294967296 ∧ 1 ≤ iN ∧ iN ≤ 1073741824 ∧ dN ≤ 2147483647 := by
  have h1 := h ⟨1, true, lb0, 0⟩ (by simp [wants])
  have hl : MayL ls := by
    rcases h1.kinds with ⟨_, b, _⟩ | ⟨a, _⟩ | ⟨a, _⟩ | ⟨a, _⟩
    · exact b
    · exact absurd (show (1 : Int) = 3 from a) (by decide)
    · exact absurd (show (1 : Int) = 4 from a) (by decide)
    · exact absurd (show (1 : Int) = 5 from a) (by decide)
  have i1 := h1.id1
  have i2 := h1.id2
  simp only [rowOf] at i1 i2
  have hpos := hl.some
  obtain ⟨x, hx⟩ : ∃ x, x ∈ ls := ⟨ls[0], List.getElem_mem (by omega)⟩
  have h4 := h ⟨4, false, x, d⟩ (by unfold wants perL; exact List.mem_append.2 (.inr (List.mem_flatMap.2 ⟨x, hx, by simp⟩)))
  have d1 := h4.day1
  have d2 := h4.day2
  simp only [rowOf] at d1 d2
  exact ⟨hl, i.toNat, d.toNat, by omega, by omega, by omega, by omega, by omega, by omega⟩

theorem ext_take (s : ByteArray) (n : Nat) : (s.extract 0 n).toList = s.toList.take n := by
  rw [Lib.toList_data, Lib.toList_data, ByteArray.data_extract]
  simp
theorem ext_beq (s : ByteArray) (n : Nat) (P : List UInt8) {y : List UInt8} (h : s.toList = y) : ((s.extract 0 n).toList == (strOf P).toList) = decide (y.take n = P) := by
  rw [ext_take, strOf_toList, h, Bool.eq_iff_iff, beq_iff_eq, decide_eq_true_eq]

set_option maxRecDepth 100000 in
set_option maxHeartbeats 6400000 in
theorem RowsApart_any (A : Option Addr) (n c : Nat) (ls : List Lb) (hn : ls.length = n) (i d : Int) (w : World) (hS : Sees w w.heap.size A (lv ls)) :
    Calls Tryz.prog 8 #[.slice A n c, .int .i64 i, .int .i64 d] w (Gives w (.bool true)) := by
  have HN := Lib.hid hn
  have hA := Lib.hid (awake_any w)
  clear hn
  go_enter Tryz.func8, Tryz.ntmps8
  go_wp2_with fail
  refine hA.out.mono ?_
  rintro en w2 ⟨rfl, b2⟩
  have hF := Lib.hid (few_any A n c ls HN.out ⟨#[]⟩ ⟨#[]⟩ w2 ((hS.below b2).more b2.size))
  clear hA
  go_wp2_with fail
  refine hF.out.mono ?_
  rintro en w3 ⟨bf, hfew, rfl, hb3'⟩
  have b3 : Below w.heap.size w w3 := b2.trans (hb3'.mono b2.size)
  clear hF
  cases bf with
  | false =>
    go_wp2
    go_ret
    exact ⟨rfl, b3⟩
  | true =>
  have HFA := Lib.hid (hfew rfl)
  clear hfew
  obtain ⟨W4, hW4⟩ : ∃ W4, w3.alloc (.cells #[.int .i64 d, .int .i64 d] 3) = W4 := ⟨_, rfl⟩
  have hb34 : Below w3.heap.size w3 W4 := hW4 ▸ KI_new w3 _
  have b4 : Below w.heap.size w W4 := b3.trans (hb34.mono b3.size)
  have hs34 : w3.heap.size < W4.heap.size := by rw [← hW4]; simp
  have hSd : Sees W4 W4.heap.size (some ⟨w3.heap.size, 0, none⟩) (dv [d, d]) := by
    have h1 : Sees W4 (w3.heap.size + 1) (some ⟨w3.heap.size, 0, none⟩) (dv [d, d]) := hW4 ▸ sees_cells w3 _ rfl _ _ _ rfl
    exact h1.more (by omega)
  have hAl := Lib.hid (All_any A (some ⟨w3.heap.size, 0, none⟩) n c 2 2 ls [d, d] HN.out rfl i W4 ((hS.below b4).more b4.size) hSd (by have := HFA.out.len; have := HN.out; omega) (by omega) HFA.out.sz.1)
  clear hSd
  go_wp2_with fail
  refine hAl.out.mono ?_
  rintro en w5 ⟨A5, n5, c5, k5, L5, rfl, hb5', hr5, hres5⟩
  have b5 : Below w.heap.size w w5 := b4.trans (hb5'.mono b4.size)
  clear hAl hW4
  rcases hres5 with ⟨hall, rfl, hL5⟩ | ⟨hno, rfl, rfl⟩
  rotate_left
  · obtain rfl : n5 = 0 := hr5.len.symm
    clear hno hr5
    go_wp2_with fail
    go_ret
    exact ⟨rfl, b5⟩
  obtain ⟨hml, iN, dN, rfl, rfl, hi4, hi1, hi2, hd2⟩ := apart_facts hall
  have hperm := apart_perm hml.dist iN dN
  rw [← hL5] at hperm
  have hlen5 : n5 = 2 + 2 * n := by rw [← hr5.len, hperm.length_eq, once_len, HN.out]
  have HPERM := Lib.hid hperm
  have HML := Lib.hid hml
  have HR5 := Lib.hid hr5
  have hrow : ∀ y ∈ L5, ∃ r, MayR r ∧ makeR r = y ∧ r.id = (iN : Int) := by
    intro y hy
    rw [hL5] at hy
    obtain ⟨q, hq, rfl⟩ := List.mem_map.1 ((uniqL_mem (lt := ahead) ordr _ _).1 hy)
    exact ⟨_, hall q hq, rfl, rfl⟩
  have HROW := Lib.hid hrow
  have hn10 : n ≤ 10 := by have := HFA.out.len; have := HN.out; omega
  have hmul : (n5 : Int) = 2 + 2 * (n : Int) := by omega
  have HLEN := Lib.hid hlen5
  clear hperm hml hr5 hall hL5 hlen5 hrow
  go_wp2_with fail
  go_loopg [11] n (fun g z wr => ∃ k : Nat, k + g = n ∧ z = .int .i64 k ∧ Below w5.heap.size w5 wr)
  case atStart => exact ⟨0, by omega, rfl, Below.refl _ _⟩
  case round =>
    obtain ⟨k, hk, rfl, hbr⟩ := hrel
    have hsr := hbr.size
    have br := b5.trans (hbr.mono b5.size)
    by_cases hlt : k < n
    · have hkl : k < ls.length := by have := HN.out; omega
      obtain ⟨ad, rfl, hadB, hc0, hc1⟩ := ((hS.below br).more br.size).lb (k := k) hkl
      have hxm : ls[k] ∈ ls := List.getElem_mem hkl
      generalize ls[k] = x at hc0 hc1 hxm
      obtain ⟨x1, x2⟩ := x
      have hok := HML.out.ok _ hxm
      have hox := okL_size hok
      simp only at hox hc0 hc1
      have hT := Lib.hid (Ahead_any none 0 0 [] rfl 3 0 0 x1 x2 wr (Sees.nil _ _ _) (by omega) (by simp) (by omega))
      have HXM := Lib.hid hxm
      have HOK := Lib.hid hok
      have hcells := fun W (hb : Below wr.heap.size wr W) => And.intro ((hb.cell (by rw [add_block]; exact hadB)).trans hc0) ((hb.cell (p := ⟨(ad.add (k * 2)).block, (ad.add (k * 2)).off + 1, none⟩) (by rw [add_block]; exact hadB)).trans hc1)
      have HCE := Lib.hid hcells
      have jn : (k : Int) < (n : Int) := by omega
      clear hxm hok hcells hox
      go_wp2_with fail
      refine hT.out.mono ?_
      rintro en w6 ⟨A6, n6, c6, k6, l6, rfl, hb6, hl6, hc6, hs6, hres6⟩
      obtain ⟨rfl, rfl⟩ : k6 = 0 ∧ l6 = tagP (x1, x2) := by
        have hm : MayR ⟨3, [], (x1, x2), 0, 1⟩ := ⟨by simp only; omega, by simp only; omega, by simp only; omega, by simp only; omega, .inr (.inl ⟨rfl, rfl, HOK.out, rfl⟩)⟩
        rcases hres6 with ⟨-, -, h1, h2⟩ | ⟨h, -, -⟩
        · refine ⟨h1, h2.trans ?_⟩
          rw [show makeR { (⟨3, [], (x1, x2), 0, 0⟩ : RowP) with id := 1 } = tagP (x1, x2) ++ four 1 from make3 (r := ⟨3, [], (x1, x2), 0, 1⟩) rfl, List.length_append, four_len]
          exact List.take_left' (by omega)
        · exact absurd ⟨hm, by show (3 : Int) ≠ 2; decide⟩ h
      obtain ⟨e0, e1⟩ := HCE.out w6 hb6
      have hO := Lib.hid (Ahead_any none 0 0 [] rfl 4 dN 0 x1 x2 w6 (Sees.nil _ _ _) (by omega) (by simp) (by have := okL_size HOK.out; simp only at this; omega))
      clear hT hres6 hc0 hc1
      go_wp2_with fail
      refine hO.out.mono ?_
      rintro en w7 ⟨A7, n7, c7, k7, l7, rfl, hb7, hl7, hc7, hs7, hres7⟩
      obtain ⟨rfl, rfl⟩ : k7 = 0 ∧ l7 = onP dN (x1, x2) := by
        have hm : MayR ⟨4, [], (x1, x2), dN, 1⟩ := ⟨by simp only; omega, by simp only; omega, by simp only; omega, by simp only; omega, .inr (.inr (.inl ⟨rfl, rfl, HOK.out⟩))⟩
        rcases hres7 with ⟨-, -, h1, h2⟩ | ⟨h, -, -⟩
        · refine ⟨h1, h2.trans ?_⟩
          rw [show makeR { (⟨4, [], (x1, x2), (dN : Int), 0⟩ : RowP) with id := 1 } = onP dN (x1, x2) ++ four 1 from make4 (r := ⟨4, [], (x1, x2), (dN : Int), 1⟩) rfl, List.length_append, four_len]
          exact List.take_left' (by omega)
        · exact absurd ⟨hm, by show (4 : Int) ≠ 2; decide⟩ h
      clear hO hres7 e0 e1
      have hb67 : Below wr.heap.size wr w7 := hb6.trans (hb7.mono hb6.size)
      have hs6' := (hs6.below hb7).more hb7.size
      have b7 : Below w5.heap.size w5 w7 := hbr.trans (hb67.mono hsr)
      obtain ⟨wo, rfl⟩ : ∃ wo : World, wo = wr := ⟨_, rfl⟩
      go_wp2_with fail
      go_loopg [16, 17] n5 (fun g f z wq => ∃ j : Nat, j + g = n5 ∧ z = .int .i64 j ∧ f = .int .i64 ((L5.take j).countP (hit dN (x1, x2)) : Nat) ∧ Below w7.heap.size w7 wq)
      case atStart => exact ⟨0, by omega, rfl, by simp, Below.refl _ _⟩
      case round =>
        obtain ⟨j, hj, rfl, rfl, hbq⟩ := hrel
        have bq : Below w5.heap.size w5 wr := b7.trans (hbq.mono b7.size)
        by_cases hjl : j < n5
        · have hjL : j < L5.length := by have := HR5.out.len; omega
          obtain ⟨ad5, Ay, cy, rfl, hadB5, hcell5, hcy, hsee⟩ := (HR5.out.below bq).sees.out j hjL
          have htk : L5.take (j + 1) = L5.take j ++ [L5[j]] := by rw [List.take_add_one, List.getElem?_eq_getElem hjL]; rfl
          obtain ⟨r, hmr, hmk, hid⟩ := HROW.out _ (List.getElem_mem hjL)
          generalize L5[j] = y at hcell5 hcy hsee htk hmk
          have hyl := make_len hmr
          rw [hmk] at hyl
          obtain ⟨yl, hyll⟩ : ∃ yl, y.length = yl := ⟨_, rfl⟩
          rw [hyll] at hcell5 hcy hyl
          have hP := Lib.hid (Parse_any Ay yl cy y hyll hcy wr hsee (by omega))
          have HTK := Lib.hid htk
          have HYL := Lib.hid hyll
          have HMK := Lib.hid hmk
          have HMR := Lib.hid hmr
          have HID := Lib.hid hid
          have jn5 : (j : Int) < (n5 : Int) := by omega
          clear htk hyll hmk hmr hid
          go_wp2_with fail
          refine hP.out.mono ?_
          rintro en w8 ⟨A8, n8, c8, k8, d8, i8, u1, u2, l8, e8, rfl, hb8, -, -, -, hres8⟩
          obtain ⟨rfl, rfl⟩ : e8 = 0 ∧ i8 = (iN : Int) := by
            rcases hres8 with ⟨h1, h2, h3, h4⟩ | ⟨-, h, -⟩
            · have h5 := make_inj h2 HMR.out (h4.trans HMK.out.symm)
              exact ⟨h1, (congrArg RowP.id h5).trans HID.out⟩
            · exact absurd HMK.out (h _ HMR.out)
          obtain ⟨W9, hW9⟩ : ∃ W9, w8.alloc (.cells #[.int .i64 k8, .slice A8 n8 c8, .string u1, .string u2, .int .i64 d8, .int .i64 iN] 26) = W9 := ⟨_, rfl⟩
          have hb89 : Below w8.heap.size w8 W9 := hW9 ▸ KI_new w8 _
          have six9 : SixAt W9 w8.heap.size (.int .i64 k8) (.slice A8 n8 c8) (.string u1) (.string u2) (.int .i64 d8) (.int .i64 iN) := hW9 ▸ SixAt.new w8 _ _ _ _ _ _ _
          have hbq9 : Below wr.heap.size wr W9 := hb8.trans (hb89.mono hb8.size)
          have hc59 := (hbq9.cell (by rw [add_block]; exact hadB5)).trans hcell5
          have cvy := run_str W9 _ Ay yl cy y ((hsee.below hbq9).more hbq9.size) HYL.out
          obtain ⟨m0, m1, m2, m3, m4, m5, -⟩ := six9
          have hstl := strOf_size y
          have hstt := strOf_toList y
          rw [HYL.out] at hstl
          clear hP hres8
          obtain ⟨sY, hsY⟩ : ∃ sY, strOf y = sY := ⟨_, rfl⟩
          rw [hsY] at cvy hstl hstt
          have HSY := Lib.hid hstt
          clear hsY
          go_wp2_with fail
          have cvt := fun q => run_str (W9.drewN q) _ A6 n6 c6 _ ((((hs6'.below hbq).more hbq.size).below hbq9).more hbq9.size |>.drewN q) hl6
          have cvo := fun q => run_str (W9.drewN q) _ A7 n7 c7 _ ((((hs7.below hbq).more hbq.size).below hbq9).more hbq9.size |>.drewN q) hl7
          have hB1 : ((sY.extract 0 n6).toList == (strOf (tagP (x1, x2))).toList) = decide (y.take n6 = tagP (x1, x2)) := ext_beq _ _ _ HSY.out
          have hB2 : ((sY.extract 0 n7).toList == (strOf (onP dN (x1, x2))).toList) = decide (y.take n7 = onP dN (x1, x2)) := ext_beq _ _ _ HSY.out
          have hhit : hit dN (x1, x2) y = ((decide (n6 ≤ yl) && decide (y.take n6 = tagP (x1, x2))) || (decide (n7 ≤ yl) && decide (y.take n7 = onP dN (x1, x2)))) := by
            unfold hit begins
            rw [hl6, hl7, HYL.out]
          generalize decide (y.take n6 = tagP (x1, x2)) = B1 at hB1 hhit
          generalize decide (y.take n7 = onP dN (x1, x2)) = B2 at hB2 hhit
          generalize strOf (tagP (x1, x2)) = sT at cvt hB1
          generalize strOf (onP dN (x1, x2)) = sO at cvo hB2
          have hcb : (L5.take j).countP (hit dN (x1, x2)) ≤ 22 := by
            have h5 : (L5.take j).countP (hit dN (x1, x2)) ≤ (L5.take j).length := List.countP_le_length
            rw [List.length_take] at h5
            omega
          have HH := Lib.hid hhit
          clear hhit hstt
          by_cases h1 : n6 ≤ yl
          · have h1' : (n6 : Int) ≤ (yl : Int) := by omega
            cases B1 with
            | true =>
              have HHIT : Hid (hit dN (x1, x2) y = true) := by unfold Hid; rw [HH.out, decide_eq_true h1]; rfl
              go_quiet (fail)
              go_wp2_with fail
              go_roundg (n5 - (j + 1))
              case measure => omega
              case rel => exact ⟨j + 1, by omega, by go_num, by rw [HTK.out, List.countP_append, List.countP_singleton, HHIT.out]; first | rfl | (go_num; done) | (simp; done) | (simp [IntKind.wrap_i64]; omega), (hbq.trans (hbq9.mono hbq.size)).trans (below_d (Below.refl _ _) nq |>.mono (by have := hbq.size; have := hbq9.size; omega))⟩
            | false =>
              by_cases h2 : n7 ≤ yl
              · have h2' : (n7 : Int) ≤ (yl : Int) := by omega
                have HHIT : Hid (hit dN (x1, x2) y = B2) := by unfold Hid; rw [HH.out, decide_eq_true h2]; simp
                cases B2 with
                | true =>
                  go_quiet (fail)
                  go_wp2_with fail
                  go_roundg (n5 - (j + 1))
                  case measure => omega
                  case rel => exact ⟨j + 1, by omega, by go_num, by rw [HTK.out, List.countP_append, List.countP_singleton, HHIT.out]; first | rfl | (go_num; done) | (simp; done) | (simp [IntKind.wrap_i64]; omega), (hbq.trans (hbq9.mono hbq.size)).trans (below_d (Below.refl _ _) nq |>.mono (by have := hbq.size; have := hbq9.size; omega))⟩
                | false =>
                  go_quiet (fail)
                  go_wp2_with fail
                  go_roundg (n5 - (j + 1))
                  case measure => omega
                  case rel => exact ⟨j + 1, by omega, by go_num, by rw [HTK.out, List.countP_append, List.countP_singleton, HHIT.out]; first | rfl | (go_num; done) | (simp; done) | (simp [IntKind.wrap_i64]; omega), (hbq.trans (hbq9.mono hbq.size)).trans (below_d (Below.refl _ _) nq |>.mono (by have := hbq.size; have := hbq9.size; omega))⟩
              · have h2' : (yl : Int) < (n7 : Int) := by omega
                have HHIT : Hid (hit dN (x1, x2) y = false) := by unfold Hid; rw [HH.out, decide_eq_false h2]; simp
                go_quiet (fail)
                go_wp2_with fail
                go_roundg (n5 - (j + 1))
                case measure => omega
                case rel => exact ⟨j + 1, by omega, by go_num, by rw [HTK.out, List.countP_append, List.countP_singleton, HHIT.out]; first | rfl | (go_num; done) | (simp; done) | (simp [IntKind.wrap_i64]; omega), (hbq.trans (hbq9.mono hbq.size)).trans (below_d (Below.refl _ _) nq |>.mono (by have := hbq.size; have := hbq9.size; omega))⟩
          · have h1' : (yl : Int) < (n6 : Int) := by omega
            by_cases h2 : n7 ≤ yl
            · have h2' : (n7 : Int) ≤ (yl : Int) := by omega
              have HHIT : Hid (hit dN (x1, x2) y = B2) := by unfold Hid; rw [HH.out, decide_eq_true h2, decide_eq_false h1]; simp
              cases B2 with
              | true =>
                go_quiet (fail)
                go_wp2_with fail
                go_roundg (n5 - (j + 1))
                case measure => omega
                case rel => exact ⟨j + 1, by omega, by go_num, by rw [HTK.out, List.countP_append, List.countP_singleton, HHIT.out]; first | rfl | (go_num; done) | (simp; done) | (simp [IntKind.wrap_i64]; omega), (hbq.trans (hbq9.mono hbq.size)).trans (below_d (Below.refl _ _) nq |>.mono (by have := hbq.size; have := hbq9.size; omega))⟩
              | false =>
                go_quiet (fail)
                go_wp2_with fail
                go_roundg (n5 - (j + 1))
                case measure => omega
                case rel => exact ⟨j + 1, by omega, by go_num, by rw [HTK.out, List.countP_append, List.countP_singleton, HHIT.out]; first | rfl | (go_num; done) | (simp; done) | (simp [IntKind.wrap_i64]; omega), (hbq.trans (hbq9.mono hbq.size)).trans (below_d (Below.refl _ _) nq |>.mono (by have := hbq.size; have := hbq9.size; omega))⟩
            · have h2' : (yl : Int) < (n7 : Int) := by omega
              have HHIT : Hid (hit dN (x1, x2) y = false) := by unfold Hid; rw [HH.out, decide_eq_false h2, decide_eq_false h1]; simp
              go_quiet (fail)
              go_wp2_with fail
              go_roundg (n5 - (j + 1))
              case measure => omega
              case rel => exact ⟨j + 1, by omega, by go_num, by rw [HTK.out, List.countP_append, List.countP_singleton, HHIT.out]; first | rfl | (go_num; done) | (simp; done) | (simp [IntKind.wrap_i64]; omega), (hbq.trans (hbq9.mono hbq.size)).trans (below_d (Below.refl _ _) nq |>.mono (by have := hbq.size; have := hbq9.size; omega))⟩
        · have hcount : (L5.take j).countP (hit dN (x1, x2)) = 2 := by
            rw [List.take_of_length_le (by have := HR5.out.len; omega), HPERM.out.countP_eq, count_once HML.out.dist iN dN HXM.out]
          rw [hcount]
          clear hcount
          go_wp2_with fail
          go_roundg (n - (k + 1))
          case measure => omega
          case rel => exact ⟨k + 1, by omega, by go_num, b7.trans (hbq.mono b7.size)⟩
    · go_wp2
      go_ret
      exact ⟨rfl, br⟩
end Go.Proofs.YtpjiioeodcinpaaGreatDoor
