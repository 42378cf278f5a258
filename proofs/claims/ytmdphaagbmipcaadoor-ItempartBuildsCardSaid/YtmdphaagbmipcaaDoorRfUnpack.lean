/-
  The document's items of bytes, walked.
-/
import Derived.Test.YtmdphaagbmipcaaDoorRfPack2
import Derived.Test.YtmdphaagbmipcaaDoorRfNum
namespace Go.Proofs.YtmdphaagbmipcaaDoor
open Go.RowKit

/-- What Unpack tells. -/
def RUnpIs (w : World) (b : List UInt8) (e : Ending) (w' : World) : Prop :=
  ∃ (A : Option Addr) (c : Nat), e = .returned (.tuple #[.slice A (unpackR b).1.length c, .int .i64 ((unpackR b).2 : Nat)]) ∧ Below w.heap.size w w' ∧ (unpackR b).1.length ≤ c ∧ OwnS w' w.heap.size (.slice A (unpackR b).1.length c) (unpackR b).1
theorem RUnpIs.err {w w' : World} {b : List UInt8} {er : Nat} (h : unpackR b = ([], er)) (hb : Below w.heap.size w w') : RUnpIs w b (.returned (.tuple #[.slice none 0 0, .int .i64 (er : Nat)])) w' := by
  unfold RUnpIs
  rw [h]
  exact ⟨none, 0, rfl, hb, Nat.le_refl _, OwnS.nil _ _⟩
theorem runpack_err1 {b r : List UInt8} {u e : Nat} (h : numR b = (u, r, e)) (he : e ≠ 0) : unpackR b = ([], e) := by
  unfold unpackR; rw [h]; simp only; rw [if_pos he]
theorem runpack_err2 {b r : List UInt8} {u e : Nat} {ls : List Item} (h : numR b = (u, r, 0)) (h2 : itemsR u [] [] r = (ls, e)) (he : e ≠ 0) : unpackR b = ([], e) := by
  unfold unpackR; rw [h]; simp only; rw [h2]; rw [if_neg (by simp)]; simp only; rw [if_pos he]
theorem runpack_ok {b r : List UInt8} {u : Nat} {ls : List Item} (h : numR b = (u, r, 0)) (h2 : itemsR u [] [] r = (ls, 0)) : unpackR b = if checkN ls = 0 ∧ packB ls = b then (ls, 0) else ([], 11) := by
  unfold unpackR; rw [h]; simp only; rw [h2]; rw [if_neg (by simp)]; simp only; rw [if_neg (by simp)]
theorem items_end {acc : List Item} {p r : List UInt8} : itemsR 0 acc p r = (acc, 0) := rfl

set_option maxRecDepth 100000 in
set_option maxHeartbeats 3200000 in
theorem RefUnpack_any (A : Option Addr) (n c : Nat) (b : List UInt8) (hn : b.length = n) (hnc : n ≤ c) (w : World) (hS : Sees w w.heap.size A (bv b)) (hlen : n ≤ 1000000) :
    Calls Tryd.prog 40 #[.slice A n c] w (RUnpIs w b) := by
  have hT := Lib.hid (RefNumber9_any A n c b hn hnc w w.heap.size (Nat.le_refl _) hS (by omega))
  have HN := Lib.hid hn
  have HS := Lib.hid hS
  clear hn hS
  go_enter Tryd.func40, Tryd.ntmps40
  go_wp2_with fail
  refine hT.out.mono ?_
  rintro en w2 ⟨u, A1, n1, c1, er, rfl, ⟨q, rfl⟩, her, hok⟩
  have hbq : Below w.heap.size w (w.drewN q) := below_d (Below.refl _ _) q
  have HBQ := Lib.hid hbq
  obtain ⟨u0, r0, e0, hv⟩ : ∃ u' r' e', numR b = (u', r', e') := ⟨_, _, _, rfl⟩
  rw [hv] at her hok
  simp only at her hok
  subst her
  have HV := Lib.hid hv
  clear hv hbq hT
  by_cases he : er = 0
  rotate_left
  · have hei : ((er : Int) != 0) = true := by rw [bne_iff_ne]; omega
    have HE := Lib.hid (runpack_err1 HV.out he)
    clear he hok
    go_wp2_with fail
    go_ret2
    exact RUnpIs.err HE.out HBQ.out
  subst he
  obtain ⟨rfl, hu4, hr1, hrc1, hrs, hrl⟩ := hok rfl
  have HR1 := Lib.hid hr1
  have HRS := Lib.hid hrs
  have hn1 : n1 ≤ 1000000 := by have := HN.out; omega
  clear hok hr1 hrs hrl
  go_wp2_with fail
  go_loopg [5, 7, 8, 9] u (fun g vr vl va vi wr => ∃ (k : Nat) (Ar Ap : Option Addr) (nr cr cp : Nat) (acc : List Item) (r p : List UInt8), k + g = u ∧ vi = .int .i64 k ∧ vr = .slice Ar nr cr ∧ va = .slice Ap p.length cp ∧ p.length ≤ cp ∧ p.length ≤ 1000000 ∧ nr ≤ cr ∧ nr ≤ 1000000 ∧ Hid (r.length = nr) ∧ Hid (itemsR u [] [] r0 = itemsR (u - k) acc p r) ∧ acc.length = k ∧ OwnS wr w.heap.size vl acc ∧ Sees wr w.heap.size Ar (bv r) ∧ SeesN wr w.heap.size vl.ownBlock Ap (bv p) ∧ Below w.heap.size w wr)
  case atStart => exact ⟨0, A1, none, n1, c1, 0, [], r0, [], by omega, rfl, rfl, rfl, Nat.le_refl _, by simp, hrc1, hn1, HR1.out, rfl, rfl, OwnS.nil _ _, (HRS.out.drewN q), ⟨.inl rfl⟩, HBQ.out⟩
  case round =>
    obtain ⟨k, Ar, Ap, nr, cr, cp, acc, r, p, hk, rfl, rfl, rfl, hpc, hpl, hrc, hrl, hr, hit, hacc, hown, hsr, hsp, hbr⟩ := hrel
    have hszr := hbr.size
    by_cases hlt : k < u
    · have hT := Lib.hid (RefNumber9_any Ar nr cr r hr.out hrc wr w.heap.size hszr hsr (by omega))
      obtain ⟨g0, hg0⟩ : ∃ g0, u - k = g0 + 1 := ⟨u - k - 1, by omega⟩
      have HIT : Hid (itemsR u [] [] r0 = itemsR (g0 + 1) acc p r) := by unfold Hid; rw [hit.out, hg0]
      have HG0 : Hid (g0 = u - (k + 1)) := by unfold Hid; omega
      have HACC := Lib.hid hacc
      clear hit hg0 hacc
      go_wp2_with fail
      refine hT.out.mono ?_
      rintro en w3 ⟨x, A3, n3, c3, e3, rfl, ⟨q3, rfl⟩, he3, hok3⟩
      obtain ⟨x0, r3, e30, hv3⟩ : ∃ u' r' e', numR r = (u', r', e') := ⟨_, _, _, rfl⟩
      rw [hv3] at he3 hok3
      simp only at he3 hok3
      subst he3
      have HV3 := Lib.hid hv3
      have hbq3 : Below w.heap.size w (wr.drewN q3) := below_d hbr q3
      have HBQ3 := Lib.hid hbq3
      clear hv3 hbq3 hT
      by_cases he : e3 = 0
      rotate_left
      · have hei : ((e3 : Int) != 0) = true := by rw [bne_iff_ne]; omega
        have HE := Lib.hid (runpack_err2 HV.out (HIT.out.trans (items_err1 HV3.out he)) he)
        clear he hok3
        go_wp2_with fail
        go_ret2
        exact RUnpIs.err HE.out HBQ3.out
      subst he
      obtain ⟨rfl, hx4, hr3, hrc3, hrs3, hrl3⟩ := hok3 rfl
      have HR3 := Lib.hid hr3
      have HRS3 := Lib.hid hrs3
      have HNR := Lib.hid hr.out
      have hn3 : n3 ≤ 1000000 := by have := HNR.out; omega
      clear hok3 hr3 hrs3
      by_cases hbig : (p.length : Int) < (x : Int)
      · have HE := Lib.hid (runpack_err2 (e := 11) HV.out (HIT.out.trans (items_big HV3.out (by omega))) (by simp))
        go_wp2_with fail
        go_ret2
        exact RUnpIs.err HE.out HBQ3.out
      have hT := Lib.hid (RefNumber9_any A3 n3 c3 r3 HR3.out hrc3 (wr.drewN q3) w.heap.size hszr (HRS3.out.drewN q3) (by omega))
      go_wp2_with fail
      refine hT.out.mono ?_
      rintro en w4 ⟨y, A4, n4, c4, e4, rfl, ⟨q4, rfl⟩, he4, hok4⟩
      obtain ⟨y0, r4, e40, hv4⟩ : ∃ u' r' e', numR r3 = (u', r', e') := ⟨_, _, _, rfl⟩
      rw [hv4] at he4 hok4
      simp only at he4 hok4
      subst he4
      have HV4 := Lib.hid hv4
      have hbq4 : Below w.heap.size w (wr.drewN (q3 + q4)) := below_d hbr _
      have HBQ4 := Lib.hid hbq4
      clear hv4 hbq4 hT
      by_cases he : e4 = 0
      rotate_left
      · have hei : ((e4 : Int) != 0) = true := by rw [bne_iff_ne]; omega
        have HE := Lib.hid (runpack_err2 HV.out (HIT.out.trans (items_err2 HV3.out (by omega) HV4.out he)) he)
        clear he hok4
        go_wp2_with fail
        go_ret2
        exact RUnpIs.err HE.out HBQ4.out
      subst he
      obtain ⟨rfl, hy4, hr4, hrc4, hrs4, hrl4⟩ := hok4 rfl
      have HR4 := Lib.hid hr4
      have HRS4 := Lib.hid hrs4
      have hn4 : n4 ≤ 1000000 := by have := HR3.out; omega
      clear hok4 hr4 hrs4
      by_cases hsh : (n4 : Int) < (y : Int)
      · have HE := Lib.hid (runpack_err2 (e := 10) HV.out (HIT.out.trans (items_short HV3.out (by omega) HV4.out (by rw [HR4.out]; omega))) (by simp))
        go_wp2_with fail
        go_ret2
        exact RUnpIs.err HE.out HBQ4.out
      have HMORE := Lib.hid (HIT.out.trans (items_more HV3.out (by omega) HV4.out (by rw [HR4.out]; omega)))
      obtain ⟨I, hI⟩ : ∃ I, p.take x ++ r4.take y = I := ⟨_, rfl⟩
      have hIl : I.length = x + y := by rw [← hI, List.length_append, List.length_take, List.length_take, HR4.out]; omega
      rw [hI] at HMORE
      have HI := Lib.hid hI
      have HIL := Lib.hid hIl
      clear hI hIl
      have hxp : (x : Int) ≤ (p.length : Int) := by omega
      have hyn : (y : Int) ≤ (n4 : Int) := by omega
      have hxc : x ≤ cp := by omega
      have hyc : y ≤ c4 := by omega
      obtain ⟨w5, hw5⟩ : ∃ w5, (wr.drewN q3).drewN q4 = w5 := ⟨_, rfl⟩
      have hb5 : Below wr.heap.size wr w5 := hw5 ▸ below_d (below_d (Below.refl _ _) q3) q4
      have hs5 : wr.heap.size ≤ w5.heap.size := hb5.size
      have hw5' : wr.drewN (q3 + q4) = w5 := by rw [← hw5, World.drewN_drewN]
      have hown5 := hown.below hb5
      have hsp5 := hsp.below hb5
      have hs45 : Sees w5 w.heap.size A4 (bv r4) := by rw [← hw5]; exact HRS4.out.drewN q4
      have HS45 := Lib.hid hs45
      have HSP5 := Lib.hid hsp5
      obtain ⟨AR, hAR⟩ : ∃ AR, (if c4 = y then A4 else A4.map (fun a => a.add y)) = AR := ⟨_, rfl⟩
      have hSR : Sees w5 w.heap.size AR (bv (r4.drop y)) := by
        have h1 := hs45.cut (k := y) (cap := c4) (by rw [bv_length, HR4.out]; exact hrc4)
        simp only [Nat.mul_one, ← bv_drop] at h1
        rw [hAR] at h1
        exact h1
      have HSR := Lib.hid hSR
      have HOWN5 := Lib.hid hown5
      obtain ⟨vsO, hO1, -⟩ := hown5.out
      have hOlt := World.ownsRow.lt hO1
      have hal : acc.length ≤ 400 := by rw [HACC.out]; omega
      have HAL := Lib.hid hal
      have hb05 := hbr.trans (hb5.mono hszr)
      have hw05 := hb05.size
      clear hSR hown5 hs45 hsp5 hO1 hw5 hown hsr hsp hr hal
      go_wp2_with (first
        | (at_builtin; refine wpList_append_b rfl (.tmp 59) (.tmp 62) rfl w5.heap.size (.slice none 0 0) [] (by rfl) (OwnB.nil _ _) w5.heap.size Ap x cp (p.take x) (by rfl) (by rw [List.length_take]; omega) (by rw [bv_take]; exact HSP5.out.sees.take x) (by simp; omega) (Nat.le_refl _) ?_; intro v6 w6 hown6 hon6; rw [List.nil_append] at hown6; have hb6 : Below w5.heap.size w5 w6 := hon6.below_nil; have hs6 := hb6.size)
        | (at_builtin; refine wpList_append_b rfl (.tmp 64) (.tmp 67) rfl w5.heap.size v6 (p.take x) (by rfl) hown6 w6.heap.size A4 y c4 (r4.take y) (by rfl) (by rw [List.length_take, HR4.out]; omega) (by rw [bv_take]; exact ((HS45.out.below (hb6.mono hw05)).more (by omega)).take y) (by have := List.length_take_le x p; have := List.length_take_le y r4; omega) (by omega) ?_; intro v7 w7 hown7 hon7; rw [HI.out] at hown7; have hb7 : Below w5.heap.size w6 w7 := hon7.below hs6 hown6.block; have hs7 := hb7.size; have hb57 := hb6.trans hb7; obtain ⟨A7, c7, rfl, hc7, -, hown7', hs7I⟩ := hown7.open_; have hseN : SeesN (w7.alloc (.cells #[.slice A7 I.length c7] 23)) w.heap.size (Value.ownBlock u7) A7 (bv I) := (SeesN.of_own (hown7'.base_le hw05) rfl (Value.ownBlock u7) (fun bb hb he => by have h1 := (hOlt bb he.symm).2; have h2 := hown7'.block bb hb; omega)).below ((Below.refl _ w7).alloc (Nat.le_refl _) _); have hownS7 := (HOWN5.out.below hb57).below ((Below.refl _ w7).alloc (Nat.le_refl _) (.cells #[.slice A7 I.length c7] 23)); clear hown7)
        | (at_builtin; refine wpList_append_s rfl (.tmp 69) (.tmp 71) rfl w.heap.size u7 acc (by rfl) hownS7 ⟨w7.heap.size, 0, none⟩ 1 I A7 c7 (by rfl) (by rw [World.cell?_alloc_at _ _ _ _ rfl]; rfl) hc7 hseN (by have := HAL.out; omega) (by simp; omega) ?_; intro v8 w8 hown8 hgr8 hat8; have hb8 : Below w.heap.size w7 w8 := ((Below.refl _ w7).alloc (by omega) _).trans ((Below.refl _ _).grown hgr8 (by simp; omega) (fun bb hb => (hOlt bb hb).1)); have hb58 : Below w.heap.size w5 w8 := (hb57.mono hw05).trans hb8; have hs8I : SeesN w8 w.heap.size v8.ownBlock A7 (bv I) := hseN.kept v8.ownBlock hgr8.size (fun bb _ g1 g2 => hgr8.block bb g1 g2) (fun bb _ g1 g2 => by rcases hat8 with e | e; rw [e]; exact g2; rw [e]; intro e2; injection e2 with e2; omega))
        | fail)
      go_roundg (u - (k + 1))
      case measure => omega
      case rel =>
        refine ⟨k + 1, AR, A7, n4 - y, c4 - y, c7, acc ++ [I], r4.drop y, I, by omega, by go_num, rfl, rfl, hc7, by have := HIL.out; omega, by omega, by omega, by unfold Hid; rw [List.length_drop, HR4.out], by unfold Hid; rw [HMORE.out, HG0.out], by rw [List.length_append, HACC.out]; rfl, hown8, HSR.out.below (hb58), hs8I, hb05.trans hb58⟩
    · have hk0 : Hid (u - k = 0) := by unfold Hid; omega
      have hun : Hid (unpackR b = if checkN acc = 0 ∧ packB acc = b then (acc, 0) else ([], 11)) := by
        have h1 := hit.out
        rw [hk0.out] at h1
        exact runpack_ok HV.out (h1.trans items_end)
      have HACC := Lib.hid hacc
      obtain ⟨AO, cO, hvO, hcO, hsO⟩ := hown.open_
      obtain ⟨N, hN⟩ : ∃ N, acc.length = N := ⟨_, rfl⟩
      have hP := Lib.hid (RefPack_any AO N cO acc hN wr hsO (by omega))
      rw [hN] at hvO hcO
      subst hvO
      have HOWN := Lib.hid hown
      have HNN := Lib.hid hN
      clear hit hacc hsO hown hN
      go_wp2_with fail
      refine hP.out.mono ?_
      rintro en w3 ⟨v3, rfl, hown3, hb3⟩
      have hbw3 := hbr.trans (hb3.mono hszr)
      have hown3S := HOWN.out.below hb3
      obtain ⟨A3, c3, rfl, hc3, -, -, hs3⟩ := hown3.open_
      have hsb := (HS.out.below hbw3).more hbw3.size
      have cv3 := run_str w3 w3.heap.size A3 _ c3 _ hs3 rfl
      have cvb := run_str w3 w3.heap.size A n c b hsb HN.out
      have HS3 := Lib.hid hown3S
      clear hP hs3 hsb
      by_cases hch : checkN acc = 0
      rotate_left
      · have hci : ((checkN acc : Int) != 0) = true := by rw [bne_iff_ne]; omega
        have HE : Hid (unpackR b = ([], 11)) := by have := hun.out; rw [if_neg (fun h => hch h.1)] at this; exact this
        clear hun hch cv3
        generalize checkN acc = ck at hci ⊢
        go_wp2_with fail
        all_goals
          go_ret2
          exact RUnpIs.err HE.out hbw3
      · have HCH := Lib.hid hch
        rw [hch] at cv3 ⊢
        simp only [if_true] at cv3 ⊢
        have hE := strOf_eq (packB acc) b
        by_cases hpb : packB acc = b
        · rw [decide_eq_true hpb] at hE
          have HE : Hid (unpackR b = (acc, 0)) := by have := hun.out; rw [if_pos ⟨hch, hpb⟩] at this; exact this
          generalize strOf (packB acc) = s1 at cv3 hE
          generalize strOf b = s2 at cvb hE
          have hE' : (s1.toList != s2.toList) = false := by rw [bne, hE]; rfl
          clear hun hch hpb
          go_wp2_with fail
          go_ret2
          unfold RUnpIs
          rw [HE.out]
          simp only
          rw [HNN.out]
          exact ⟨AO, cO, rfl, hbw3, hcO, HS3.out⟩
        · rw [decide_eq_false hpb] at hE
          have HE : Hid (unpackR b = ([], 11)) := by have := hun.out; rw [if_neg (fun h => hpb h.2)] at this; exact this
          generalize strOf (packB acc) = s1 at cv3 hE
          generalize strOf b = s2 at cvb hE
          have hE' : (s1.toList != s2.toList) = true := by rw [bne, hE]; rfl
          clear hun hch hpb
          go_wp2_with fail
          go_ret2
          exact RUnpIs.err HE.out hbw3
end Go.Proofs.YtmdphaagbmipcaaDoor
