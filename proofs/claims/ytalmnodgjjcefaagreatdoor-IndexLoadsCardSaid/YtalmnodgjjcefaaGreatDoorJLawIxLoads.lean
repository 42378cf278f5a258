/-
  IndexLoads: an index that is loaded from its files finds what it found, as far as it was flushed; one that is none has nothing: walked.
-/
import Derived.Test.YtalmnodgjjcefaaGreatDoorJIxNilC
import Derived.Test.YtalmnodgjjcefaaGreatDoorJIxLoad
import Derived.Test.YtalmnodgjjcefaaGreatDoorJIxLawP
import Derived.Deep.CutBlock
namespace Go.Proofs.YtalmnodgjjcefaaGreatDoor
open Go.RowKit Go.Maps

theorem flush_no {s : SetM} (h : s.flush.2.2 = false) (hf : s.fs.length ≤ 99) : s.mem = [] ∧ s.flush.1 = s := by
  unfold SetM.flush at h ⊢
  by_cases hm : s.mem.length = 0 ∨ 100 ≤ s.fs.length
  · rw [if_pos hm]
    exact ⟨List.eq_nil_of_length_eq_zero (by omega), rfl⟩
  · rw [if_neg hm] at h
    cases h
theorem flush_yes {s : SetM} (h : s.flush.2.2 = true) : s.flush.1 = ⟨[], s.fs ++ [s.mem]⟩ ∧ s.flush.2.1 = fileB s.mem := by
  unfold SetM.flush at h ⊢
  by_cases hm : s.mem.length = 0 ∨ 100 ≤ s.fs.length
  · rw [if_pos hm] at h
    cases h
  · rw [if_neg hm]
    exact ⟨rfl, rfl⟩
/-- The index, its files in a slice. -/
structure LdAt (n0 k : Nat) (w : World) (P : Nat) (v : Value) (n : Nat) : Prop where
  out : ∃ m q s X, LdSt n0 (14 * k) m q w P v s X ∧ s.fs.length = n
  le : n ≤ k
theorem LdAt.below {n0 k P n : Nat} {w w' : World} {v : Value} (h : LdAt n0 k w P v n) (hb : Below w.heap.size w w') : LdAt n0 k w' P v n := by
  obtain ⟨m, q, s, X, h1, h2⟩ := h.out
  exact ⟨⟨m, q, s, X, h1.below hb, h2⟩, h.le⟩
theorem LdAt.slice {n0 k P n : Nat} {w : World} {v : Value} (h : LdAt n0 k w P v n) : ∃ A c, v = .slice A n c := by
  obtain ⟨m, q, s, X, h1, h2⟩ := h.out
  obtain ⟨A, c, hv, -, -⟩ := h1.row.sees2
  rw [List.length_map, h2] at hv
  exact ⟨A, c, hv⟩
theorem ActL.at_ {n0 M k P n : Nat} {q m : Nat → Prop} {w w' : World} {v : Value} {s : SetM} (h : ActL n0 M q m w P v s w') (hM : M ≤ 14 * k) (hn : s.fs.length = n) (hk : n ≤ k) : LdAt n0 k w' P v n ∧ Below n0 w w' := by
  obtain ⟨m', s', X', h1, h2, h3⟩ := h
  exact ⟨⟨⟨m', q, s', X', h1.more hM, by rw [h2]; exact hn⟩, hk⟩, h3⟩

set_option maxRecDepth 100000 in
set_option maxHeartbeats 6400000 in
theorem IndexLoads_any (A : Option Addr) (n c : Nat) (ls : List ActI) (hn : ls.length = n) (Af : Option Addr) (nf cf : Nat) (fs : List Flt) (hf : fs.length = nf) (hfit : FitF fs) (w : World) (hS : ActsI (fun k => k < w.heap.size) w A ls) (hF : Sees w w.heap.size Af (fv fs)) (hH : Halves w) :
    Calls Tryz.prog 4 #[.slice A n c, .slice Af nf cf] w (Gives w (.bool true)) := by
  obtain ⟨ti, hti, hz0, hz1, hz2⟩ := info_parts Tryz.sinfo
  have hAw := Lib.hid (awake_any w)
  have HN := Lib.hid hn
  have HF := Lib.hid hf
  have HFT := Lib.hid hfit
  have HH := Lib.hid hH
  clear hn hf hfit hH
  go_enter Tryz.func4, Tryz.ntmps4
  go_wp2_with fail
  refine hAw.out.mono ?_
  rintro e w1 ⟨rfl, hb1⟩
  have hFw := Lib.hid (few_any _ A n c ls HN.out w1 (hS.below hb1))
  have hz1' := hb1.size
  clear hAw
  go_wp2_with fail
  refine hFw.out.mono ?_
  rintro e w1' ⟨small, hsm, rfl, rfl⟩
  clear hFw
  cases small with
  | false =>
    clear hsm
    go_wp2
    go_ret
    exact ⟨rfl, hb1⟩
  | true =>
    have hfew := hsm rfl
    have hn25 : n ≤ 25 := by have := hfew.len; have := HN.out; omega
    have HFW := Lib.hid hfew
    clear hsm hfew
    by_cases h4 : (4 : Int) < (nf : Int)
    · go_wp2
      go_ret
      exact ⟨rfl, hb1⟩
    have hnf4 : nf ≤ 4 := by omega
    have hj := Lib.hid (job_any ⟨#[120]⟩ w1)
    go_wp2_with fail
    refine hj.out.mono ?_
    rintro e w2 ⟨rfl, -, hb2, -⟩
    have hb12 : Below w1.heap.size w1 w2 := hb2
    have ha := Lib.hid (addI_nil (some ⟨w1.heap.size, 0, none⟩) 1 1 1 w2)
    clear hj hb2
    go_wp2_with fail
    refine ha.out.mono ?_
    rintro e w3 ⟨rfl, hb3⟩
    have hb13 : Below w1.heap.size w1 w3 := hb12.trans (hb3.mono hb12.size)
    have hfn := Lib.hid (findI_nil Af nf cf w3)
    clear ha hb3 hb12
    go_wp2_with fail
    refine hfn.out.mono ?_
    rintro e w4 ⟨rfl, hb4⟩
    have hb14 : Below w1.heap.size w1 w4 := hb13.trans (hb4.mono hb13.size)
    have hx := Lib.hid (nextI_nil w4)
    clear hfn hb4 hb13
    go_wp2_with fail
    refine hx.out.mono ?_
    rintro e w5 ⟨rfl, hb5⟩
    have hb15 : Below w1.heap.size w1 w5 := hb14.trans (hb5.mono hb14.size)
    have hd := Lib.hid (dropI_nil 1 w5)
    clear hx hb5 hb14
    go_wp2_with fail
    refine hd.out.mono ?_
    rintro e w6 ⟨rfl, hb6⟩
    have hb16 : Below w1.heap.size w1 w6 := hb15.trans (hb6.mono hb15.size)
    have hg := Lib.hid (gone_nil w6 1)
    clear hd hb6 hb15
    go_wp2_with fail
    refine hg.out.mono ?_
    rintro e w7 ⟨rfl, hb7⟩
    have hb17 : Below w1.heap.size w1 w7 := hb16.trans (hb7.mono hb16.size)
    have hnm := Lib.hid (names_nil w7)
    clear hg hb7 hb16
    go_wp2_with fail
    refine hnm.out.mono ?_
    rintro e w8 ⟨A8, c8, rfl, -, -, -, hb8⟩
    have hb18 : Below w1.heap.size w1 w8 := hb17.trans (hb8.mono hb17.size)
    have hvl := Lib.hid (values_nil w8 ⟨#[106, 111, 98]⟩)
    clear hnm hb8 hb17
    go_wp2_with fail
    refine hvl.out.mono ?_
    rintro e w9 ⟨A9, c9, rfl, -, -, -, hb9⟩
    have hb19 : Below w1.heap.size w1 w9 := hb18.trans (hb9.mono hb18.size)
    have hfr := Lib.hid (freshI_nil w9)
    clear hvl hb9 hb18
    go_wp2_with fail
    refine hfr.out.mono ?_
    rintro e wa ⟨rfl, hba⟩
    have hb1a : Below w1.heap.size w1 wa := hb19.trans (hba.mono hb19.size)
    have hpt := Lib.hid (partsI_nil wa)
    clear hfr hba hb19
    go_wp2_with fail
    refine hpt.out.mono ?_
    rintro e wb ⟨rfl, hbb⟩
    have hb1b : Below w1.heap.size w1 wb := hb1a.trans (hbb.mono hb1a.size)
    have hNa := Lib.hid (new_live wb)
    clear hpt hbb hb1a
    go_wp2_with fail
    refine hNa.out.mono ?_
    rintro e w3 ⟨P, rfl, hL, hb3⟩
    have hb13 : Below w1.heap.size w1 w3 := hb1b.trans (hb3.mono hb1b.size)
    have hLd : LdAt wb.heap.size 0 w3 P (.slice none 0 0) 0 := ⟨⟨_, fun _ => False, SetM.new, [], ⟨hL, FilesAt.nil _ _, fun k e => e.elim, fun k e => e.1, fun k e => e.elim, hb3.size⟩, rfl⟩, Nat.le_refl _⟩
    have HLD := Lib.hid hLd
    have hsb := hb1b.size
    have hb03 : Below wb.heap.size wb w3 := hb3
    clear hNa hL hb3 hLd
    go_wp2
    go_loopg [13, 14] n (fun g v i wr => ∃ (k j : Nat), k + g = n ∧ i = .int .i64 (k : Int) ∧ Hid (LdAt wb.heap.size k wr P v j) ∧ Below wb.heap.size wb wr)
    case atStart => exact ⟨0, 0, by omega, rfl, HLD.out, hb03⟩
    case round =>
      obtain ⟨k, j, hk, rfl, hld, hbr⟩ := hrel
      have hbs := hbr.size
      obtain ⟨Av, cv, hv⟩ := hld.out.slice
      subst hv
      have hb1r : Below w1.heap.size w1 wr := hb1b.trans (hbr.mono hsb)
      have hbwr : Below w.heap.size w wr := hb1.trans (hb1r.mono hb1.size)
      by_cases hlt : k < n
      · have hkl : k < ls.length := by have := HN.out; omega
        obtain ⟨ad, Ai, ci, rfl, had, g0, g1, g2, g3, g4, hci, hsl⟩ := (hS.below hbwr).out k hkl
        have hfl := HFW.out.all _ (List.getElem_mem hkl)
        obtain ⟨y, hy⟩ : ∃ y, ls[k] = y := ⟨_, rfl⟩
        rw [hy] at g0 g1 g2 g3 g4 hci hsl hfl
        obtain ⟨kd, L, dd, aa, bb⟩ := y
        simp only at g0 g1 g2 g3 g4 hci hsl hfl
        obtain ⟨nl, hnl⟩ : ∃ nl, L.length = nl := ⟨_, rfl⟩
        rw [hnl] at g1 hci
        have hn8 : nl ≤ 8 := by have := hfl.1; omega
        have hLs : ∀ x ∈ L, x.1.size ≤ 9223372036854775807 := fun x hx => by have := (hfl.2 x hx).1; omega
        have hz := and7 kd
        obtain ⟨wx, hwx⟩ : ∃ wx, wr.alloc (.cells #[.int .i64 kd, .slice Ai nl ci, .int .i64 dd, .int .i64 aa, .int .i64 bb] 27) = wx := ⟨_, rfl⟩
        have hb1x : Below wr.heap.size wr wx := by rw [← hwx]; exact (Below.refl _ wr).alloc (Nat.le_refl _) _
        have hact : AskAt wx wr.heap.size (.int .i64 kd) (.slice Ai nl ci) (.int .i64 dd) (.int .i64 aa) (.int .i64 bb) := by rw [← hwx]; exact AskAt.new _ _ _ _ _ _ _
        have hbx : Below wb.heap.size wb wx := hbr.trans (hb1x.mono hbs)
        have hbwx : Below w.heap.size w wx := hbwr.trans (hb1x.mono hbwr.size)
        have hsx : Sees wx wx.heap.size Ai (lv L) := ((hsl.sees (B := w.heap.size) fun k e => e).below (hb1x.mono hbwr.size)).more hbwx.size
        have hjk := hld.out.le
        obtain ⟨m, q, s, X, hst, hj⟩ := (hld.out.below hb1x).out
        have HST := Lib.hid hst
        have HJ := Lib.hid hj
        have HH2 := Lib.hid (HH.out.below hbwx HH.out.1)
        have hk25 : k ≤ 24 := by omega
        obtain ⟨m8, hm8⟩ : ∃ m : Int, kd % 8 = m := ⟨_, rfl⟩
        have hm8r : 0 ≤ m8 ∧ m8 < 8 := by omega
        rw [hm8] at hz
        obtain ⟨c0, c1, c2, c3, c4⟩ := hact
        by_cases h4k : m8 < 4
        · have hA := Lib.hid (HST.out.add (by omega) Ai nl ci L hnl hsx (by omega) hLs dd)
          clear hsl hfl hy hnl hLs hst hj hld hsx
          go_wp2_with fail
          refine hA.out.mono ?_
          rintro e w4 ⟨⟨v4, rfl⟩, ha⟩
          have hfin := Lib.hid (ha.at_ (k := k + 1) (by omega) HJ.out (by omega))
          clear hA ha
          go_wp2
          go_roundg (n - (k + 1))
          case measure => omega
          case rel => exact ⟨k + 1, j, by omega, by go_num, hfin.out.1, hbx.trans hfin.out.2⟩
        · by_cases h4e : m8 = 4
          · subst h4e
            have hA := Lib.hid (HST.out.drop (by omega) aa)
            clear hsl hfl hy hnl hLs hst hj hld hsx
            go_wp2_with fail
            refine hA.out.mono ?_
            rintro e w4 ⟨⟨v4, rfl⟩, ha⟩
            have hfin := Lib.hid (ha.at_ (k := k + 1) (by omega) HJ.out (by omega))
            clear hA ha
            go_wp2
            go_roundg (n - (k + 1))
            case measure => omega
            case rel => exact ⟨k + 1, j, by omega, by go_num, hfin.out.1, hbx.trans hfin.out.2⟩
          · have hA := Lib.hid (flush_live HST.out.live (by omega) HH2.out)
            obtain ⟨bis, hbis⟩ : ∃ b, s.flush.2.2 = b := ⟨_, rfl⟩
            obtain ⟨lf, hlf⟩ : ∃ l, s.flush.2.1.length = l := ⟨_, rfl⟩
            rw [hbis, hlf] at hA
            have HBI := Lib.hid hbis
            have HLF := Lib.hid hlf
            clear hsl hfl hy hnl hLs hst hj hld hsx hbis hlf
            go_wp2_with fail
            refine hA.out.mono ?_
            rintro e w4 ⟨A4, c4', rfl, hc4, m', hL4, ht4, hnew4, hsee4⟩
            cases bis with
            | false =>
              obtain ⟨-, e1⟩ := flush_no HBI.out (by have := HJ.out; omega)
              rw [e1] at hL4
              have hst4 := HST.out.step hL4 ht4 hnew4 rfl
              have hfin : Hid (LdAt wb.heap.size (k + 1) w4 P (.slice Av j cv) j ∧ Below wb.heap.size wx w4) := ⟨⟨⟨_, _, _, _, hst4.more (by omega), HJ.out⟩, by omega⟩, HST.out.bel ht4⟩
              clear hA hL4 ht4 hnew4 hsee4 hst4 e1
              go_wp2
              go_roundg (n - (k + 1))
              case measure => omega
              case rel => exact ⟨k + 1, j, by omega, by go_num, hfin.out.1, hbx.trans hfin.out.2⟩
            | true =>
              obtain ⟨e1, e2⟩ := flush_yes HBI.out
              rw [e1] at hL4
              rw [e2] at hsee4
              have hlf2 := HLF.out
              rw [e2] at hlf2
              obtain ⟨vs, r1, r2, r3⟩ := HST.out.row.out
              rw [List.length_map, HJ.out] at r1
              have o4 := ownsRow_kept r1 fun i e => ht4.block i (HST.out.sep i (r2 i e)).1 (HST.out.sep i (r2 i e)).2
              have hs4 := ht4.size
              have HC4 := Lib.hid hc4
              have HL4 := Lib.hid hL4
              have HT4 := Lib.hid ht4
              have HNW4 := Lib.hid hnew4
              have HSE4 := Lib.hid hsee4
              have HR2 := Lib.hid r2
              have HR3 := Lib.hid r3
              have HLF2 := Lib.hid hlf2
              clear hA hL4 ht4 hnew4 hsee4 e1 e2 hc4 r1 r2 r3 hlf2
              go_wp2_with (at_builtin; go_loud (refine wpList_append_v rfl (.tmp 131) (.tmp 133) 47 rfl 48 ti _ 1 24 Tryz.underlying47 hti hz0 hz1 hz2 rfl (by omega) 0 _ j vs (by rfl) (World.ownsRow.alloc o4 _) (w4.heap.size + 1) (some ⟨w4.heap.size, 0, none⟩) 1 1 [.slice A4 lf c4'] (by rfl) rfl (sees_cell w4 _ rfl _ _) (fun u hu => by simp at hu; subst hu; rfl) (by simp only [maxLen]; omega) (by omega) (by omega) ?_); go_loud (intro v5 w5 hown5 hon5; have HO5 := Lib.hid hown5; have HN5 := Lib.hid hon5; clear hown5 hon5))
              go_roundg (n - (k + 1))
              case measure => omega
              case rel =>
                have hpt := HST.out.put HL4.out HT4.out HNW4.out rfl HSE4.out (by rw [HLF2.out]; exact HC4.out) HR3.out HR2.out ((Below.refl _ w4).alloc (Nat.le_refl _) _) (by rw [HJ.out, HLF2.out]; exact HO5.out) HN5.out
                exact ⟨k + 1, j + 1, by omega, by go_num, ⟨⟨_, _, _, _, hpt.1.more (by omega), by rw [List.length_append, HJ.out]; rfl⟩, by omega⟩, hbx.trans hpt.2⟩
      · have hN350 : 14 * k ≤ 350 := by omega
        have hjk := hld.out.le
        obtain ⟨m, q, s, X, hst, hj⟩ := hld.out.out
        have HST := Lib.hid hst
        have HJ := Lib.hid hj
        have hHr := HH.out.below hbwr HH.out.1
        have hA := Lib.hid (flush_live HST.out.live (by omega) hHr)
        obtain ⟨bis, hbis⟩ : ∃ b, s.flush.2.2 = b := ⟨_, rfl⟩
        obtain ⟨lf, hlf⟩ : ∃ l, s.flush.2.1.length = l := ⟨_, rfl⟩
        rw [hbis, hlf] at hA
        have HBI := Lib.hid hbis
        have HLF := Lib.hid hlf
        clear hst hj hld hbis hlf hHr
        go_wp2_with fail
        refine hA.out.mono ?_
        rintro e w4 ⟨A4, c4', rfl, hc4, m', hL4, ht4, hnew4, hsee4⟩
        have hb4 : Below wb.heap.size wb w4 := hbr.trans (HST.out.bel ht4)
        clear hA
        go_upto_if 140 with fail
        go_cut [13] (fun t wx => ∃ (Av : Option Addr) (cv nF : Nat) (s : SetM), t = .slice Av nF cv ∧ Hid (s.mem = [] ∧ s.fs.length = nF ∧ ∃ m q X, LdSt wb.heap.size 350 m q wx P (.slice Av nF cv) s X) ∧ nF ≤ 26 ∧ Below wb.heap.size wb wx)
        case first =>
          cases bis with
          | false =>
            obtain ⟨e0, e1⟩ := flush_no HBI.out (by have := HJ.out; omega)
            rw [e1] at hL4
            have hfin := Lib.hid ((HST.out.step hL4 ht4 hnew4 rfl).more hN350)
            have HE0 := Lib.hid e0
            clear hL4 ht4 hnew4 hsee4 e0 e1
            go_wp2_with fail
            go_meet
            exact ⟨Av, cv, j, s, rfl, ⟨HE0.out, HJ.out, _, _, _, hfin.out⟩, by omega, hb4⟩
          | true =>
            obtain ⟨e1, e2⟩ := flush_yes HBI.out
            rw [e1] at hL4
            rw [e2] at hsee4
            have hlf2 := HLF.out
            rw [e2] at hlf2
            obtain ⟨vs, r1, r2, r3⟩ := HST.out.row.out
            rw [List.length_map, HJ.out] at r1
            have o4 := ownsRow_kept r1 fun i e => ht4.block i (HST.out.sep i (r2 i e)).1 (HST.out.sep i (r2 i e)).2
            have hs4 := ht4.size
            have HC4 := Lib.hid hc4
            have HL4 := Lib.hid hL4
            have HT4 := Lib.hid ht4
            have HNW4 := Lib.hid hnew4
            have HSE4 := Lib.hid hsee4
            have HR2 := Lib.hid r2
            have HR3 := Lib.hid r3
            have HLF2 := Lib.hid hlf2
            clear hL4 ht4 hnew4 hsee4 e1 e2 hc4 r1 r2 r3 hlf2
            go_wp2_with (at_builtin; go_loud (refine wpList_append_v rfl (.tmp 141) (.tmp 143) 47 rfl 48 ti _ 1 24 Tryz.underlying47 hti hz0 hz1 hz2 rfl (by omega) 0 _ j vs (by rfl) (World.ownsRow.alloc o4 _) (w4.heap.size + 1) (some ⟨w4.heap.size, 0, none⟩) 1 1 [.slice A4 lf c4'] (by rfl) rfl (sees_cell w4 _ rfl _ _) (fun u hu => by simp at hu; subst hu; rfl) (by simp only [maxLen]; omega) (by omega) (by omega) ?_); go_loud (intro v5 w5 hown5 hon5; have hpt := Lib.hid (HST.out.put HL4.out HT4.out HNW4.out rfl HSE4.out (by rw [HLF2.out]; exact HC4.out) HR3.out HR2.out ((Below.refl _ w4).alloc (Nat.le_refl _) _) (by rw [HJ.out, HLF2.out]; exact hown5) hon5); have hop := hpt.out.1.row.sees2; rw [List.length_map, List.length_append, HJ.out] at hop; obtain ⟨A5, d5, hv5, -, -⟩ := hop; subst hv5; clear hown5 hon5))
            go_meet
            exact ⟨A5, d5, j + 1, _, rfl, ⟨rfl, by rw [List.length_append, HJ.out]; rfl, _, _, _, hpt.out.1.more hN350⟩, by omega, hbr.trans hpt.out.2⟩
        case rest =>
          obtain ⟨Av2, cv2, nF, s2, rfl, hs2, hnF, hbc⟩ := hcut
          obtain ⟨hmem, hfl, m2, q2, X2, hst2⟩ := hs2.out
          have hse : s2 = ⟨[], s2.fs⟩ := by cases s2; simp only at hmem; subst hmem; rfl
          have hb1c : Below w1.heap.size w1 wc := hb1b.trans (hbc.mono hsb)
          have hbwc : Below w.heap.size w wc := hb1.trans (hb1c.mono hb1.size)
          obtain ⟨Av3, cv3, hve, -, hse2⟩ := hst2.row.sees2
          rw [List.length_map, hfl] at hve
          injection hve with he1 he2 he3
          subst he1
          subst he3
          clear he2
          have hfit2 : SetFit ⟨[], s2.fs⟩ := by rw [← hse]; exact hst2.live.fit (by omega)
          have hinv2 : Inv (SetM.mk [] s2.fs).all X2 := by rw [← hse]; exact hst2.live.inv
          have hLo := Lib.hid (ixLoad_any Av2 nF cv2 s2.fs hst2.live.ok.files hfl (by omega) hfit2 hinv2 wc (hse2.sees fun k e => (hst2.sep k e).1) (HH.out.below hbwc HH.out.1))
          have HST2 := Lib.hid hst2
          have HSE := Lib.hid hse
          have HFL := Lib.hid hfl
          clear hst2 hs2 hmem hfl hse hse2 hfit2 hinv2 hL4 ht4 hnew4 hsee4 hc4 hb4
          go_wp2_with fail
          refine hLo.out.mono ?_
          rintro e w5 ⟨hb5, P2, rfl, hix⟩
          have hT : Two wb.heap.size 350 350 (fun _ => False) w5 P P2 X2 X2 :=
            ⟨⟨m2, _, s2, ⟨[], s2.fs⟩, HST2.out.live.below hb5, ⟨hix, by rw [← HSE.out]; exact HST2.out.live.ok, by rw [← HSE.out]; exact HST2.out.live.tot, by rw [← HSE.out]; exact HST2.out.live.inv, HST2.out.live.few⟩, fun k e e' => by have h1 := HST2.out.live.ix.lt k e; have h2 := e'.1; omega, HST2.out.old, fun k e => by have h1 := e.1; have := hbc.size; omega, fun k e => e.elim⟩, by have := hbc.size; have := hb5.size; omega, fun k e => e.elim⟩
          have HIX := Lib.hid hix
          have HT := Lib.hid hT
          have hbw5 : Below w.heap.size w w5 := hbwc.trans (hb5.mono hbwc.size)
          have hfew2 := HST2.out.live.few
          obtain ⟨er, her⟩ : ∃ er, checkF fs = er := ⟨_, rfl⟩
          obtain ⟨L1, hL1⟩ : ∃ l, (if er = 0 then idsX X2 (fitX fs) else []) = l := ⟨_, rfl⟩
          have hlen1 : L1.length ≤ 400 := by
            rw [← hL1]
            split
            · exact Nat.le_trans (idsX_len _ _) (by omega)
            · simp
          have HFI : Hid (∀ (Pa Pb : Nat) (W : World), Two wb.heap.size 350 350 (fun _ => False) W Pa Pb X2 X2 → Below w.heap.size w W → Calls Tryz.prog 16 #[.pointer (some ⟨Pa, 0, none⟩), .slice Af nf cf] W fun e w' => ∃ A n c, e = .returned (.tuple #[.slice A n c, .int .i64 (er : Nat)]) ∧ Below W.heap.size W w' ∧ L1.length = n ∧ Sees w' w'.heap.size A (KI.iv L1)) := fun Pa Pb W h hb => by
            have := h.find (by omega) Af nf cf fs HF.out HFT.out ((hF.below hb).more hb.size) (by omega)
            rw [her] at this
            rw [← hL1]
            exact this.mono fun _ _ e => e.same
          have hA := Lib.hid (HFI.out _ _ w5 HT.out hbw5)
          clear hLo hix hT her hL1 HST2 HSE
          go_wp2_with fail
          refine hA.out.mono ?_
          rintro e w6 ⟨A6, n6, c6, rfl, hb6, hl6, hs6⟩
          have HT6 := Lib.hid (HT.out.below hb6)
          have hbw6 := hbw5.trans (hb6.mono hbw5.size)
          have HIX6 := Lib.hid (HIX.out.below hb6)
          have hB := Lib.hid (HFI.out _ _ w6 HT6.out.swap hbw6)
          clear hA HT HIX
          go_wp2_with fail
          refine hB.out.mono ?_
          rintro e w7 ⟨A7, n7, c7, rfl, hb7, hl7, hs7⟩
          rw [hl6] at hl7
          subst hl7
          have HT7 := Lib.hid (HT6.out.below hb7)
          have hbw7 := hbw6.trans (hb7.mono hbw6.size)
          have HIX7 := Lib.hid (HIX6.out.below hb7)
          have hS := Lib.hid ((KI.SameI_any A6 A7 n6 c6 n6 c7 L1 L1 hl6 hl6 w7 ((hs6.below hb7).more hb7.size) hs7 (by omega)).mono fun e w' h => BoolIs.gives h)
          rw [beq_self_eq_true L1] at hS
          clear hB HT6 HIX6 hs6 hs7 hb6 hb7
          go_wp2_with fail
          refine hS.out.mono ?_
          rintro e w8 ⟨rfl, hb8⟩
          have HT8 := Lib.hid (HT7.out.below hb8)
          have hbw8 := hbw7.trans (hb8.mono hbw7.size)
          have HIX8 := Lib.hid (HIX7.out.below hb8)
          have hX := Lib.hid (HT8.out.next (by omega))
          obtain ⟨XL, hXL⟩ : ∃ x : Int, ((X2.length + 1 : Nat) : Int) = x := ⟨_, rfl⟩
          rw [hXL] at hX
          have HXL := Lib.hid hXL
          clear hS HT7 HIX7 hb8 hXL
          go_wp2_with fail
          refine hX.out.mono ?_
          rintro e w9 ⟨rfl, hb9⟩
          have HT9 := Lib.hid (HT8.out.below hb9)
          have hbw9 := hbw8.trans (hb9.mono hbw8.size)
          have HIX9 := Lib.hid (HIX8.out.below hb9)
          have hX := Lib.hid (HT9.out.swap.next (by omega))
          rw [HXL.out] at hX
          clear HT8 HIX8 hb9
          go_wp2_with fail
          refine hX.out.mono ?_
          rintro e wa ⟨rfl, hba⟩
          have HTa := Lib.hid (HT9.out.below hba)
          have hbwa := hbw9.trans (hba.mono hbw9.size)
          have HIXa := Lib.hid (HIX9.out.below hba)
          obtain ⟨TN, hTN⟩ : ∃ T, textsX X2 (fun x => x.1) = T := ⟨_, rfl⟩
          have hM := Lib.hid (HTa.out.names (by omega))
          rw [hTN] at hM
          have HTN := Lib.hid hTN
          clear hX HT9 HIX9 hba hTN
          go_wp2_with fail
          refine hM.out.mono ?_
          rintro e wd ⟨Ad, cd, rfl, -, hld, hsd, hbd⟩
          have HTd := Lib.hid (HTa.out.below hbd)
          have hbwd := hbwa.trans (hbd.mono hbwa.size)
          have HIXd := Lib.hid (HIXa.out.below hbd)
          have hM := Lib.hid (HTd.out.swap.names (by omega))
          rw [HTN.out] at hM
          obtain ⟨tn, htn⟩ : ∃ t, TN.length = t := ⟨_, rfl⟩
          rw [htn] at hld ⊢
          have HTL := Lib.hid htn
          have HSD := Lib.hid (hsd.sees (B := wd.heap.size) fun k e => e.2)
          clear HTa HIXa hbd hsd htn
          go_wp2_with fail
          refine hM.out.mono ?_
          rintro e we ⟨Ae, ce, rfl, -, -, hse, hbe⟩
          rw [HTL.out]
          have HTe := Lib.hid (HTd.out.below hbe)
          have hbwe := hbwd.trans (hbe.mono hbwd.size)
          have HIXe := Lib.hid (HIXd.out.below hbe)
          have hG := Lib.hid (Strings_gives Ad Ae tn cd ce TN HTL.out we ((HSD.out.below hbe).more hbe.size) (hse.sees fun k e => e.2) (by omega))
          clear hM HTd HIXd hbe hse HSD
          go_wp2_with fail
          refine hG.out.mono ?_
          rintro e wf ⟨rfl, hbf⟩
          have hbwf := hbwe.trans (hbf.mono hbwe.size)
          have HIXf := Lib.hid (HIXe.out.below hbf)
          have hQ := Lib.hid (Ix_parts HIXf.out)
          have hfl := HFL.out
          rw [show (SetM.mk [] s2.fs).fs.length = nF from hfl] at hQ
          clear hG HTe HIXe hbf hfl
          go_wp2_with fail
          refine hQ.out.mono ?_
          rintro e wg ⟨rfl, rfl⟩
          have hQ2' : Calls Tryz.prog 22 #[.pointer (some ⟨P2, 0, none⟩)] wf fun e w' => e = .returned (.int .i64 0) ∧ wf = w' := Ix_fresh HIXf.out
          have hQ2 := Lib.hid hQ2'
          clear hQ2'
          clear hQ
          go_wp2_with fail
          refine hQ2.out.mono ?_
          rintro e wh ⟨rfl, rfl⟩
          clear hQ2
          go_wp2
          go_ret
          exact ⟨by simp, hbwf⟩
end Go.Proofs.YtalmnodgjjcefaaGreatDoor
