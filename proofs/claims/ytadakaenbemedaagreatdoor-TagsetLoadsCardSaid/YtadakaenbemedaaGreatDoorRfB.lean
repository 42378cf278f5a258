/-
  Several texts in one: RfNum RfUnpack RfBuild RfOpen.
-/
import Derived.Test.YtadakaenbemedaaGreatDoorRfA
import Derived.Test.YtadakaenbemedaaGreatDoorIpA
import Derived.Test.YtadakaenbemedaaGreatDoorIpE
import Derived.Deep.CutBlock
import Derived.Test.YtadakaenbemedaaGreatDoorIpD
/-
  The document's number of a row of items, walked.
-/
namespace Go.Proofs.YtadakaenbemedaaGreatDoor
open Go.RowKit

/-- What number tells. -/
def RNumIs (w : World) (B : Nat) (b : List UInt8) (e : Ending) (w' : World) : Prop :=
  ∃ (u : Nat) (A : Option Addr) (n c : Nat) (er : Nat), e = .returned (.tuple #[.int .i64 (u : Nat), .slice A n c, .int .i64 (er : Nat)]) ∧ (∃ q, w' = w.drewN q) ∧ er = (numR b).2.2 ∧
    (er = 0 → u = (numR b).1 ∧ u ≤ 400 ∧ (numR b).2.1.length = n ∧ n ≤ c ∧ Sees w B A (bv (numR b).2.1) ∧ n ≤ b.length)
theorem RNumIs.err {w w' : World} {B : Nat} {b : List UInt8} {er : Nat} (h : (numR b).2.2 = er) (h0 : er ≠ 0) {q : Nat} (hw : w' = w.drewN q) : RNumIs w B b (.returned (.tuple #[.int .i64 0, .slice none 0 0, .int .i64 (er : Nat)])) w' :=
  ⟨0, none, 0, 0, er, rfl, ⟨q, hw⟩, h.symm, fun h1 => absurd h1 h0⟩

set_option maxRecDepth 100000 in
set_option maxHeartbeats 1600000 in
theorem RefNumber9_any (A : Option Addr) (n c : Nat) (b : List UInt8) (hn : b.length = n) (hnc : n ≤ c) (w : World) (B : Nat) (hB : B ≤ w.heap.size) (hS : Sees w B A (bv b)) (hlen : n ≤ 1099511627776) :
    Calls Tryz.prog 71 #[.slice A n c] w (RNumIs w B b) := by
  have hT := Lib.hid (RefTake_any A n c b hn w (hS.more hB) (by omega))
  have hk := vtake_le b
  have hnr : numR b = if (vtake b).2.2 ≠ 0 then (0, b, (vtake b).2.2) else if 400 < (vtake b).1 then (0, b, 11) else ((vtake b).1, b.drop (vtake b).2.1, 0) := rfl
  obtain ⟨x, k, e, hv⟩ : ∃ x k e, vtake b = (x, k, e) := ⟨_, _, _, rfl⟩
  unfold TakeIs at hT
  rw [hv] at hT hk hnr
  simp only at hT hk hnr
  rw [hn] at hk
  have HF := Lib.hid hnr
  have HN := Lib.hid hn
  clear hn hnr hv
  go_enter Tryz.func71, Tryz.ntmps71
  go_wp2_with fail
  refine hT.out.mono ?_
  rintro en w2 ⟨rfl, rfl⟩
  by_cases he : e = 0
  rotate_left
  · have hei : ((e : Int) != 0) = true := by rw [bne_iff_ne]; omega
    have HE : Hid ((numR b).2.2 = e) := by have := HF.out; rw [if_pos he] at this; unfold Hid; rw [this]
    have HE0 := Lib.hid he
    clear he hT
    go_wp2_with fail
    go_ret3
    exact RNumIs.err (q := 0) HE.out HE0.out rfl
  subst he
  by_cases hx : (400 : Int) < (x : Int)
  · have HE : Hid ((numR b).2.2 = 11) := by have := HF.out; rw [if_neg (by simp), if_pos (by omega)] at this; unfold Hid; rw [this]
    clear hT
    go_wp2_with fail
    go_ret3
    exact RNumIs.err (q := 0) HE.out (by simp) rfl
  have HE : Hid (numR b = (x, b.drop k, 0)) := by have := HF.out; rw [if_neg (by simp), if_neg (by omega)] at this; exact this
  have hwx : IntKind.i64.wrap (x : Int) = (x : Int) := by rw [IntKind.wrap_i64]; omega
  obtain ⟨A2, hA2⟩ : ∃ A2, (if c = k then A else A.map (fun a => a.add k)) = A2 := ⟨_, rfl⟩
  have hS2 : Sees w B A2 (bv (b.drop k)) := by
    have h1 := hS.cut (k := k) (cap := c) (by rw [bv_length, HN.out]; exact hnc)
    simp only [Nat.mul_one, ← bv_drop] at h1
    rw [hA2] at h1
    exact h1
  have HS2 := Lib.hid hS2
  have hkn : (k : Int) ≤ (n : Int) := by omega
  have hkc : k ≤ c := by omega
  clear HF hT hS2
  go_wp2_with fail
  go_quiet (fail)
  go_wp2_with fail
  go_ret3
  refine ⟨x, A2, n - k, c - k, 0, rfl, ⟨_, rfl⟩, by rw [HE.out], fun _ => ?_⟩
  rw [HE.out]
  exact ⟨rfl, by omega, by show (b.drop k).length = _; rw [List.length_drop, HN.out], by omega, HS2.out, by rw [HN.out]; omega⟩
end Go.Proofs.YtadakaenbemedaaGreatDoor

/-
  The document's items of bytes, walked.
-/
namespace Go.Proofs.YtadakaenbemedaaGreatDoor
open Go.RowKit

/-- What Unpack tells. -/
def RUnpIs (w : World) (b : List UInt8) (e : Ending) (w' : World) : Prop :=
  ∃ (A : Option Addr) (c : Nat), e = .returned (.tuple #[.slice A (unpackR b).1.length c, .int .i64 ((unpackR b).2 : Nat)]) ∧ Below w.heap.size w w' ∧ (unpackR b).1.length ≤ c ∧ OwnS w' w.heap.size (.slice A (unpackR b).1.length c) (unpackR b).1
theorem RUnpIs.err {w w' : World} {b : List UInt8} {er : Nat} (h : unpackR b = ([], er)) (hb : Below w.heap.size w w') : RUnpIs w b (.returned (.tuple #[.slice none 0 0, .int .i64 (er : Nat)])) w' := by
  unfold RUnpIs
  rw [h]
  exact ⟨none, 0, rfl, hb, Nat.le_refl _, OwnS.nil _ _⟩
theorem runpack_err1 {b r : List UInt8} {u e : Nat} (h : numR b = (u, r, e)) (he : e ≠ 0) : unpackR b = ([], e) := by
  unfold unpackR; rw [h]; simp only; rw [if_pos he]
theorem runpack_err2 {b r : List UInt8} {u e : Nat} {ls : List Item} (h : numR b = (u, r, 0)) (h2 : itemsR u [] [] r = (ls, e)) (he : e ≠ 0) : unpackR b = ([], e) := by
  unfold unpackR; rw [h]; simp only; rw [h2]; rw [if_neg (by simp)]; simp only; rw [if_pos he]
theorem runpack_ok {b r : List UInt8} {u : Nat} {ls : List Item} (h : numR b = (u, r, 0)) (h2 : itemsR u [] [] r = (ls, 0)) : unpackR b = if checkN ls = 0 ∧ packB ls = b then (ls, 0) else ([], 11) := by
  unfold unpackR; rw [h]; simp only; rw [h2]; rw [if_neg (by simp)]; simp only; rw [if_neg (by simp)]
theorem items_end {acc : List Item} {p r : List UInt8} : itemsR 0 acc p r = (acc, 0) := rfl

set_option maxRecDepth 100000 in
set_option maxHeartbeats 3200000 in
theorem RefUnpack_any (A : Option Addr) (n c : Nat) (b : List UInt8) (hn : b.length = n) (hnc : n ≤ c) (w : World) (hS : Sees w w.heap.size A (bv b)) (hlen : n ≤ 1000000) :
    Calls Tryz.prog 46 #[.slice A n c] w (RUnpIs w b) := by
  have hT := Lib.hid (RefNumber9_any A n c b hn hnc w w.heap.size (Nat.le_refl _) hS (by omega))
  have HN := Lib.hid hn
  have HS := Lib.hid hS
  clear hn hS
  go_enter Tryz.func46, Tryz.ntmps46
  go_wp2_with fail
  refine hT.out.mono ?_
  rintro en w2 ⟨u, A1, n1, c1, er, rfl, ⟨q, rfl⟩, her, hok⟩
  have hbq : Below w.heap.size w (w.drewN q) := below_d (Below.refl _ _) q
  have HBQ := Lib.hid hbq
  obtain ⟨u0, r0, e0, hv⟩ : ∃ u' r' e', numR b = (u', r', e') := ⟨_, _, _, rfl⟩
  rw [hv] at her hok
  simp only at her hok
  subst her
  have HV := Lib.hid hv
  clear hv hbq hT
  by_cases he : er = 0
  rotate_left
  · have hei : ((er : Int) != 0) = true := by rw [bne_iff_ne]; omega
    have HE := Lib.hid (runpack_err1 HV.out he)
    clear he hok
    go_wp2_with fail
    go_ret2
    exact RUnpIs.err HE.out HBQ.out
  subst he
  obtain ⟨rfl, hu4, hr1, hrc1, hrs, hrl⟩ := hok rfl
  have HR1 := Lib.hid hr1
  have HRS := Lib.hid hrs
  have hn1 : n1 ≤ 1000000 := by have := HN.out; omega
  clear hok hr1 hrs hrl
  go_wp2_with fail
  go_loopg [5, 7, 8, 9] u (fun g vr vl va vi wr => ∃ (k : Nat) (Ar Ap : Option Addr) (nr cr cp : Nat) (acc : List Item) (r p : List UInt8), k + g = u ∧ vi = .int .i64 k ∧ vr = .slice Ar nr cr ∧ va = .slice Ap p.length cp ∧ p.length ≤ cp ∧ p.length ≤ 1000000 ∧ nr ≤ cr ∧ nr ≤ 1000000 ∧ Hid (r.length = nr) ∧ Hid (itemsR u [] [] r0 = itemsR (u - k) acc p r) ∧ acc.length = k ∧ OwnS wr w.heap.size vl acc ∧ Sees wr w.heap.size Ar (bv r) ∧ SeesN wr w.heap.size vl.ownBlock Ap (bv p) ∧ Below w.heap.size w wr)
  case atStart => exact ⟨0, A1, none, n1, c1, 0, [], r0, [], by omega, rfl, rfl, rfl, Nat.le_refl _, by simp, hrc1, hn1, HR1.out, rfl, rfl, OwnS.nil _ _, (HRS.out.drewN q), ⟨.inl rfl⟩, HBQ.out⟩
  case round =>
    obtain ⟨k, Ar, Ap, nr, cr, cp, acc, r, p, hk, rfl, rfl, rfl, hpc, hpl, hrc, hrl, hr, hit, hacc, hown, hsr, hsp, hbr⟩ := hrel
    have hszr := hbr.size
    by_cases hlt : k < u
    · have hT := Lib.hid (RefNumber9_any Ar nr cr r hr.out hrc wr w.heap.size hszr hsr (by omega))
      obtain ⟨g0, hg0⟩ : ∃ g0, u - k = g0 + 1 := ⟨u - k - 1, by omega⟩
      have HIT : Hid (itemsR u [] [] r0 = itemsR (g0 + 1) acc p r) := by unfold Hid; rw [hit.out, hg0]
      have HG0 : Hid (g0 = u - (k + 1)) := by unfold Hid; omega
      have HACC := Lib.hid hacc
      clear hit hg0 hacc
      go_wp2_with fail
      refine hT.out.mono ?_
      rintro en w3 ⟨x, A3, n3, c3, e3, rfl, ⟨q3, rfl⟩, he3, hok3⟩
      obtain ⟨x0, r3, e30, hv3⟩ : ∃ u' r' e', numR r = (u', r', e') := ⟨_, _, _, rfl⟩
      rw [hv3] at he3 hok3
      simp only at he3 hok3
      subst he3
      have HV3 := Lib.hid hv3
      have hbq3 : Below w.heap.size w (wr.drewN q3) := below_d hbr q3
      have HBQ3 := Lib.hid hbq3
      clear hv3 hbq3 hT
      by_cases he : e3 = 0
      rotate_left
      · have hei : ((e3 : Int) != 0) = true := by rw [bne_iff_ne]; omega
        have HE := Lib.hid (runpack_err2 HV.out (HIT.out.trans (items_err1 HV3.out he)) he)
        clear he hok3
        go_wp2_with fail
        go_ret2
        exact RUnpIs.err HE.out HBQ3.out
      subst he
      obtain ⟨rfl, hx4, hr3, hrc3, hrs3, hrl3⟩ := hok3 rfl
      have HR3 := Lib.hid hr3
      have HRS3 := Lib.hid hrs3
      have HNR := Lib.hid hr.out
      have hn3 : n3 ≤ 1000000 := by have := HNR.out; omega
      clear hok3 hr3 hrs3
      by_cases hbig : (p.length : Int) < (x : Int)
      · have HE := Lib.hid (runpack_err2 (e := 11) HV.out (HIT.out.trans (items_big HV3.out (by omega))) (by simp))
        go_wp2_with fail
        go_ret2
        exact RUnpIs.err HE.out HBQ3.out
      have hT := Lib.hid (RefNumber9_any A3 n3 c3 r3 HR3.out hrc3 (wr.drewN q3) w.heap.size hszr (HRS3.out.drewN q3) (by omega))
      go_wp2_with fail
      refine hT.out.mono ?_
      rintro en w4 ⟨y, A4, n4, c4, e4, rfl, ⟨q4, rfl⟩, he4, hok4⟩
      obtain ⟨y0, r4, e40, hv4⟩ : ∃ u' r' e', numR r3 = (u', r', e') := ⟨_, _, _, rfl⟩
      rw [hv4] at he4 hok4
      simp only at he4 hok4
      subst he4
      have HV4 := Lib.hid hv4
      have hbq4 : Below w.heap.size w (wr.drewN (q3 + q4)) := below_d hbr _
      have HBQ4 := Lib.hid hbq4
      clear hv4 hbq4 hT
      by_cases he : e4 = 0
      rotate_left
      · have hei : ((e4 : Int) != 0) = true := by rw [bne_iff_ne]; omega
        have HE := Lib.hid (runpack_err2 HV.out (HIT.out.trans (items_err2 HV3.out (by omega) HV4.out he)) he)
        clear he hok4
        go_wp2_with fail
        go_ret2
        exact RUnpIs.err HE.out HBQ4.out
      subst he
      obtain ⟨rfl, hy4, hr4, hrc4, hrs4, hrl4⟩ := hok4 rfl
      have HR4 := Lib.hid hr4
      have HRS4 := Lib.hid hrs4
      have hn4 : n4 ≤ 1000000 := by have := HR3.out; omega
      clear hok4 hr4 hrs4
      by_cases hsh : (n4 : Int) < (y : Int)
      · have HE := Lib.hid (runpack_err2 (e := 10) HV.out (HIT.out.trans (items_short HV3.out (by omega) HV4.out (by rw [HR4.out]; omega))) (by simp))
        go_wp2_with fail
        go_ret2
        exact RUnpIs.err HE.out HBQ4.out
      have HMORE := Lib.hid (HIT.out.trans (items_more HV3.out (by omega) HV4.out (by rw [HR4.out]; omega)))
      obtain ⟨I, hI⟩ : ∃ I, p.take x ++ r4.take y = I := ⟨_, rfl⟩
      have hIl : I.length = x + y := by rw [← hI, List.length_append, List.length_take, List.length_take, HR4.out]; omega
      rw [hI] at HMORE
      have HI := Lib.hid hI
      have HIL := Lib.hid hIl
      clear hI hIl
      have hxp : (x : Int) ≤ (p.length : Int) := by omega
      have hyn : (y : Int) ≤ (n4 : Int) := by omega
      have hxc : x ≤ cp := by omega
      have hyc : y ≤ c4 := by omega
      obtain ⟨w5, hw5⟩ : ∃ w5, (wr.drewN q3).drewN q4 = w5 := ⟨_, rfl⟩
      have hb5 : Below wr.heap.size wr w5 := hw5 ▸ below_d (below_d (Below.refl _ _) q3) q4
      have hs5 : wr.heap.size ≤ w5.heap.size := hb5.size
      have hw5' : wr.drewN (q3 + q4) = w5 := by rw [← hw5, World.drewN_drewN]
      have hown5 := hown.below hb5
      have hsp5 := hsp.below hb5
      have hs45 : Sees w5 w.heap.size A4 (bv r4) := by rw [← hw5]; exact HRS4.out.drewN q4
      have HS45 := Lib.hid hs45
      have HSP5 := Lib.hid hsp5
      obtain ⟨AR, hAR⟩ : ∃ AR, (if c4 = y then A4 else A4.map (fun a => a.add y)) = AR := ⟨_, rfl⟩
      have hSR : Sees w5 w.heap.size AR (bv (r4.drop y)) := by
        have h1 := hs45.cut (k := y) (cap := c4) (by rw [bv_length, HR4.out]; exact hrc4)
        simp only [Nat.mul_one, ← bv_drop] at h1
        rw [hAR] at h1
        exact h1
      have HSR := Lib.hid hSR
      have HOWN5 := Lib.hid hown5
      obtain ⟨vsO, hO1, -⟩ := hown5.out
      have hOlt := World.ownsRow.lt hO1
      have hal : acc.length ≤ 400 := by rw [HACC.out]; omega
      have HAL := Lib.hid hal
      have hb05 := hbr.trans (hb5.mono hszr)
      have hw05 := hb05.size
      clear hSR hown5 hs45 hsp5 hO1 hw5 hown hsr hsp hr hal
      go_wp2_with (first
        | (at_builtin; refine wpList_append_b rfl (.tmp 59) (.tmp 62) rfl w5.heap.size (.slice none 0 0) [] (by rfl) (OwnB.nil _ _) w5.heap.size Ap x cp (p.take x) (by rfl) (by rw [List.length_take]; omega) (by rw [bv_take]; exact HSP5.out.sees.take x) (by simp; omega) (Nat.le_refl _) ?_; intro v6 w6 hown6 hon6; rw [List.nil_append] at hown6; have hb6 : Below w5.heap.size w5 w6 := hon6.below_nil; have hs6 := hb6.size)
        | (at_builtin; refine wpList_append_b rfl (.tmp 64) (.tmp 67) rfl w5.heap.size v6 (p.take x) (by rfl) hown6 w6.heap.size A4 y c4 (r4.take y) (by rfl) (by rw [List.length_take, HR4.out]; omega) (by rw [bv_take]; exact ((HS45.out.below (hb6.mono hw05)).more (by omega)).take y) (by have := List.length_take_le x p; have := List.length_take_le y r4; omega) (by omega) ?_; intro v7 w7 hown7 hon7; rw [HI.out] at hown7; have hb7 : Below w5.heap.size w6 w7 := hon7.below hs6 hown6.block; have hs7 := hb7.size; have hb57 := hb6.trans hb7; obtain ⟨A7, c7, rfl, hc7, -, hown7', hs7I⟩ := hown7.open_; have hseN : SeesN (w7.alloc (.cells #[.slice A7 I.length c7] 27)) w.heap.size (Value.ownBlock u7) A7 (bv I) := (SeesN.of_own (hown7'.base_le hw05) rfl (Value.ownBlock u7) (fun bb hb he => by have h1 := (hOlt bb he.symm).2; have h2 := hown7'.block bb hb; omega)).below ((Below.refl _ w7).alloc (Nat.le_refl _) _); have hownS7 := (HOWN5.out.below hb57).below ((Below.refl _ w7).alloc (Nat.le_refl _) (.cells #[.slice A7 I.length c7] 27)); clear hown7)
        | (at_builtin; refine wpList_append_s rfl (.tmp 69) (.tmp 71) rfl w.heap.size u7 acc (by rfl) hownS7 ⟨w7.heap.size, 0, none⟩ 1 I A7 c7 (by rfl) (by rw [World.cell?_alloc_at _ _ _ _ rfl]; rfl) hc7 hseN (by have := HAL.out; omega) (by simp; omega) ?_; intro v8 w8 hown8 hgr8 hat8; have hb8 : Below w.heap.size w7 w8 := ((Below.refl _ w7).alloc (by omega) _).trans ((Below.refl _ _).grown hgr8 (by simp; omega) (fun bb hb => (hOlt bb hb).1)); have hb58 : Below w.heap.size w5 w8 := (hb57.mono hw05).trans hb8; have hs8I : SeesN w8 w.heap.size v8.ownBlock A7 (bv I) := hseN.kept v8.ownBlock hgr8.size (fun bb _ g1 g2 => hgr8.block bb g1 g2) (fun bb _ g1 g2 => by rcases hat8 with e | e; rw [e]; exact g2; rw [e]; intro e2; injection e2 with e2; omega))
        | fail)
      go_roundg (u - (k + 1))
      case measure => omega
      case rel =>
        refine ⟨k + 1, AR, A7, n4 - y, c4 - y, c7, acc ++ [I], r4.drop y, I, by omega, by go_num, rfl, rfl, hc7, by have := HIL.out; omega, by omega, by omega, by unfold Hid; rw [List.length_drop, HR4.out], by unfold Hid; rw [HMORE.out, HG0.out], by rw [List.length_append, HACC.out]; rfl, hown8, HSR.out.below (hb58), hs8I, hb05.trans hb58⟩
    · have hk0 : Hid (u - k = 0) := by unfold Hid; omega
      have hun : Hid (unpackR b = if checkN acc = 0 ∧ packB acc = b then (acc, 0) else ([], 11)) := by
        have h1 := hit.out
        rw [hk0.out] at h1
        exact runpack_ok HV.out (h1.trans items_end)
      have HACC := Lib.hid hacc
      obtain ⟨AO, cO, hvO, hcO, hsO⟩ := hown.open_
      obtain ⟨N, hN⟩ : ∃ N, acc.length = N := ⟨_, rfl⟩
      have hP := Lib.hid (RefPack_any AO N cO acc hN wr hsO (by omega))
      rw [hN] at hvO hcO
      subst hvO
      have HOWN := Lib.hid hown
      have HNN := Lib.hid hN
      clear hit hacc hsO hown hN
      go_wp2_with fail
      refine hP.out.mono ?_
      rintro en w3 ⟨v3, rfl, hown3, hb3⟩
      have hbw3 := hbr.trans (hb3.mono hszr)
      have hown3S := HOWN.out.below hb3
      obtain ⟨A3, c3, rfl, hc3, -, -, hs3⟩ := hown3.open_
      have hsb := (HS.out.below hbw3).more hbw3.size
      have cv3 := run_str w3 w3.heap.size A3 _ c3 _ hs3 rfl
      have cvb := run_str w3 w3.heap.size A n c b hsb HN.out
      have HS3 := Lib.hid hown3S
      clear hP hs3 hsb
      by_cases hch : checkN acc = 0
      rotate_left
      · have hci : ((checkN acc : Int) != 0) = true := by rw [bne_iff_ne]; omega
        have HE : Hid (unpackR b = ([], 11)) := by have := hun.out; rw [if_neg (fun h => hch h.1)] at this; exact this
        clear hun hch cv3
        generalize checkN acc = ck at hci ⊢
        go_wp2_with fail
        all_goals
          go_ret2
          exact RUnpIs.err HE.out hbw3
      · have HCH := Lib.hid hch
        rw [hch] at cv3 ⊢
        simp only [if_true] at cv3 ⊢
        have hE := strOf_eq (packB acc) b
        by_cases hpb : packB acc = b
        · rw [decide_eq_true hpb] at hE
          have HE : Hid (unpackR b = (acc, 0)) := by have := hun.out; rw [if_pos ⟨hch, hpb⟩] at this; exact this
          generalize strOf (packB acc) = s1 at cv3 hE
          generalize strOf b = s2 at cvb hE
          have hE' : (s1.toList != s2.toList) = false := by rw [bne, hE]; rfl
          clear hun hch hpb
          go_wp2_with fail
          go_ret2
          unfold RUnpIs
          rw [HE.out]
          simp only
          rw [HNN.out]
          exact ⟨AO, cO, rfl, hbw3, hcO, HS3.out⟩
        · rw [decide_eq_false hpb] at hE
          have HE : Hid (unpackR b = ([], 11)) := by have := hun.out; rw [if_neg (fun h => hpb h.2)] at this; exact this
          generalize strOf (packB acc) = s1 at cv3 hE
          generalize strOf b = s2 at cvb hE
          have hE' : (s1.toList != s2.toList) = true := by rw [bne, hE]; rfl
          clear hun hch hpb
          go_wp2_with fail
          go_ret2
          exact RUnpIs.err HE.out hbw3
end Go.Proofs.YtadakaenbemedaaGreatDoor

/-
  The document's file of items, walked.
-/
namespace Go.Proofs.YtadakaenbemedaaGreatDoor
open Go.RowKit

theorem checkR_build {ls : List Item} (h : checkR ls ≠ 0) : buildE ls = checkR ls := by
  unfold checkR at h ⊢
  unfold buildE
  split
  · rfl
  · rename_i h1
    rw [if_neg h1] at h
    split
    · rfl
    · rename_i h2
      rw [if_neg h2] at h
      exact absurd rfl h
theorem checkR_zero {ls : List Item} (h : checkR ls = 0) : ls.length ≤ 2000 ∧ 0 < ls.length ∧ okB ls = true ∧ buildE ls = if 65535 < (tabB (blk ls)).length then 2 else 0 := by
  unfold checkR at h
  unfold buildE
  split at h
  · simp at h
  · rename_i h1
    split at h
    · simp at h
    · rename_i h2
      rw [if_neg h1, if_neg h2]
      refine ⟨by omega, by have := fun e => h2 (.inl e); omega, ?_, rfl⟩
      cases ho : okB ls with
      | true => rfl
      | false => exact absurd (.inr ho) h2

set_option maxRecDepth 100000 in
set_option maxHeartbeats 6400000 in
theorem RefBuild_any (A : Option Addr) (n c : Nat) (ls : List Item) (hn : ls.length = n) (hnc : n ≤ c) (w : World) (hS : Sees2 w w.heap.size A ls) (hlen : n ≤ 1099511627776) :
    Calls Tryz.prog 47 #[.slice A n c] w (BuildIs w ls) := by
  have hC := Lib.hid (RefCheck_any A n c ls hn w hS hlen)
  have HN := Lib.hid hn
  by_cases hck : checkR ls = 0
  rotate_left
  · have HE := Lib.hid (checkR_build hck)
    obtain ⟨X, hX⟩ : ∃ X, checkR ls = X := ⟨_, rfl⟩
    rw [hX] at hC hck HE
    have hz : ((X : Int) != 0) = true := by rw [bne_iff_ne]; omega
    have HX := Lib.hid hck
    clear hn hck hX
    go_enter Tryz.func47, Tryz.ntmps47
    go_wp2_with fail
    refine hC.out.mono ?_
    rintro e w1 ⟨rfl, q, rfl⟩
    clear hC
    go_wp2_with fail
    go_ret2
    exact BuildIs.err HE.out HX.out (below_d (Below.refl _ _) q) rfl
  obtain ⟨h2000, hpos, hokB, hbe⟩ := checkR_zero hck
  rw [hck] at hC
  have hBL := blk_length ls
  have HBA0 := Lib.hid (fun j (h : j < (blk ls).length) => blk_get h)
  have hchk := blk_checks hokB
  obtain ⟨bl, hbl⟩ : ∃ bl, blk ls = bl := ⟨_, rfl⟩
  have HBLE := Lib.hid hbl
  rw [hbl] at hBL hchk hbe
  have HFIN : Hid ((if buildE ls = 0 then fileB ls else []) = if 65535 < (tabB bl).length then [] else outs bl ++ frameOf 2 (tabB bl) ++ place4 (outs bl).length) := by
    unfold Hid
    rw [hbe]
    split
    · rfl
    · rw [if_pos rfl]; unfold fileB; rw [hbl]
  have HBE := Lib.hid hbe
  obtain ⟨N, hN⟩ : ∃ N, bl.length = N := ⟨_, rfl⟩
  rw [hN, hn] at hBL
  have HNN := Lib.hid hN
  have HBA : Hid (∀ j (h : j < bl.length), bl[j] = (ls.drop (8 * j)).take 8) := fun j h => by
    have := HBA0.out j (by rw [HBLE.out]; exact h)
    simp only [HBLE.out] at this
    exact this
  have HCH := Lib.hid hchk
  have hN1 : 1 ≤ N := by omega
  have hN250 : N ≤ 250 := by omega
  have HBL := Lib.hid hBL
  have hn2000 : n ≤ 2000 := by omega
  obtain ⟨adl, hA⟩ : ∃ adl, A = some adl := by obtain ⟨adl, _, _, hA, _⟩ := hS.out 0 hpos; exact ⟨adl, hA⟩
  subst hA
  have HALL : Hid (∀ k, ∀ o ∈ bl.take k, checkN o = 0) := fun k o ho => HCH.out o (List.mem_of_mem_take ho)
  clear hn hck hbl hN hBL hchk hbe h2000 hpos hokB
  go_enter Tryz.func47, Tryz.ntmps47
  go_wp2_with fail
  refine hC.out.mono ?_
  rintro e w1 ⟨rfl, q, rfl⟩
  clear hC
  go_wp2_with fail
  go_loopg [5, 6, 7, 8] N (fun g o x mv iv wr => ∃ k m : Nat, k + g = N ∧ Hid (m = 8 * k) ∧ iv = .int .i64 m ∧ mv = .int .i64 k ∧ OwnB wr w.heap.size o (outs (bl.take k)) ∧ OwnB wr w.heap.size x (idxs 0 (bl.take k)) ∧ Apart2 x o ∧ Below w.heap.size w wr)
  case atStart => exact ⟨0, 0, by omega, rfl, rfl, rfl, OwnB.nil _ _, by simpa [idxs] using OwnB.nil _ _, Apart2.nil _, below_d (Below.refl _ _) q⟩
  case round =>
    obtain ⟨k, m, hk, hm8, rfl, rfl, hownb, hownx, hap, hbr⟩ := hrel
    have hsr := hbr.size
    have hB25 := outs_len (bl.take k) (HALL.out k)
    have hX25 := idxs_len (bl.take k) 0 (HALL.out k) (by rw [List.length_take]; omega)
    have hkl2 : (bl.take k).length ≤ k := by rw [List.length_take]; omega
    obtain ⟨Bs, hBs⟩ : ∃ Bs, outs (bl.take k) = Bs := ⟨_, rfl⟩
    obtain ⟨Xs, hXs⟩ : ∃ Xs, idxs 0 (bl.take k) = Xs := ⟨_, rfl⟩
    rw [hBs] at hownb hB25
    rw [hXs] at hownx hX25
    obtain ⟨lb, hlb⟩ : ∃ lb, Bs.length = lb := ⟨_, rfl⟩
    obtain ⟨lx, hlx⟩ : ∃ lx, Xs.length = lx := ⟨_, rfl⟩
    rw [hlb] at hB25
    rw [hlx] at hX25
    have hlb9 : lb ≤ 825000 := by omega
    have hlx9 : lx ≤ 110000 := by omega
    have HBS := Lib.hid hBs
    have HXS := Lib.hid hXs
    have HLB := Lib.hid hlb
    have HLX := Lib.hid hlx
    clear hBs hXs hlb hlx hB25 hX25 hkl2
    by_cases hlt : m < n
    · have hkN : k < N := by have := hm8.out; have := HBL.out; omega
      have hkl : k < bl.length := by rw [HNN.out]; exact hkN
      have hblk := HBA.out k hkl
      have htk := take_snoc hkl
      have hck := HCH.out _ (List.getElem_mem hkl)
      obtain ⟨o, ho⟩ : ∃ o, bl[k] = o := ⟨_, rfl⟩
      rw [ho] at hblk htk hck
      obtain ⟨te, hte⟩ : ∃ te, min (m + 8) n = te := ⟨_, rfl⟩
      have hol : o.length = te - m := by rw [hblk, List.length_take, List.length_drop, HN.out, ← hm8.out]; omega
      obtain ⟨adx, Ax, cx, hadx, hadxb, hcx, hxc, hsx⟩ := hS.out m (by rw [HN.out]; exact hlt)
      injection hadx with hadx
      subst hadx
      have hhd : o.headD [] = ls[m]'(by rw [HN.out]; exact hlt) := by
        have h1 : 0 < o.length := by rw [hol]; omega
        rw [headD_get h1]
        have := block_get (ls := ls) (k := 8 * k) (i := 0) (by rw [← hblk]; exact h1)
        simp only [Nat.add_zero, ← hm8.out] at this
        simp only [hblk, ← hm8.out]
        exact this
      obtain ⟨x0, hx0⟩ : ∃ x0, ls[m]'(by rw [HN.out]; exact hlt) = x0 := ⟨_, rfl⟩
      rw [hx0] at hcx hxc hsx hhd
      obtain ⟨xl, hxL⟩ : ∃ xl, x0.length = xl := ⟨_, rfl⟩
      rw [hxL] at hcx hxc
      have hxl4 : xl ≤ 400 := by have h1 := head_len hck; rw [hhd, hxL] at h1; exact h1
      have hso : Sees2 wr wr.heap.size (some (adl.add m)) o := by
        have h1 := (((hS.below hbr).more hsr).cut (k := m) (cap := c) (by rw [HN.out]; exact hnc)).take (te - m)
        rw [if_neg (by omega)] at h1
        have e : o = (ls.drop m).take (te - m) := by
          rw [hblk, ← hm8.out]
          by_cases h : m + 8 ≤ n
          · rw [show te - m = 8 from by omega]
          · rw [List.take_of_length_le (by rw [List.length_drop, HN.out]; omega), List.take_of_length_le (by rw [List.length_drop, HN.out]; omega)]
        rw [e]
        exact h1
      have HOL := Lib.hid hol
      have hPl := packB_len2 hck
      have hPk := Lib.hid (RefPack_any (some (adl.add m)) (te - m) (c - m) o hol wr hso (by omega))
      unfold PackIs at hPk
      rw [hck] at hPk
      simp only [if_true] at hPk
      have hfl := frB_len hck
      have hmk : Hid (makeB 1 (packB o) = frB o) := by unfold Hid makeB makeErr frB; rw [if_pos (by rw [if_neg (by omega), if_neg (by omega)])]
      have hme : Hid (makeErr 1 (packB o).length = 0) := by unfold Hid makeErr; rw [if_neg (by omega), if_neg (by omega)]
      obtain ⟨PB, hPB⟩ : ∃ PB, packB o = PB := ⟨_, rfl⟩
      rw [hPB] at hPk hPl hmk hme
      obtain ⟨FB, hFB⟩ : ∃ FB, frB o = FB := ⟨_, rfl⟩
      rw [hFB] at hmk hfl
      have hBs2 : Hid (outs (bl.take (k + 1)) = Bs ++ FB) := by unfold Hid; rw [htk, outs_append, outs_one, HBS.out, hFB]
      have hXs2 : Hid (idxs 0 (bl.take (k + 1)) = Xs ++ venc lb ++ venc xl ++ x0) := by
        unfold Hid
        rw [htk, idxs_append, idxs_one, Nat.zero_add, HBS.out, hhd, hxL, HLB.out, HXS.out]
        simp only [List.append_assoc]
      obtain ⟨lp, hlp⟩ : ∃ lp, PB.length = lp := ⟨_, rfl⟩
      rw [hlp] at hPl hme
      have HLP := Lib.hid hlp
      have hvb := venc_le4 (u := lb) (by omega)
      have hvx := venc_le2 (u := xl) (by omega)
      have hBb := fun W => Lib.hid (refBytes_any lb (by unfold Is64; omega) W)
      have hBx := fun W => Lib.hid (refBytes_any xl (by unfold Is64; omega) W)
      obtain ⟨VB, hVB⟩ : ∃ V, venc lb = V := ⟨_, rfl⟩
      obtain ⟨VX, hVX⟩ : ∃ V, venc xl = V := ⟨_, rfl⟩
      rw [hVB] at hvb hXs2
      rw [hVX] at hvx hXs2
      simp only [hVB] at hBb
      simp only [hVX] at hBx
      have HXL := Lib.hid hxL
      have hcx0 := Lib.hid hcx
      have HTE := Lib.hid hte
      have HSX := Lib.hid hsx
      have hmc : (c = m) = False := by simp; omega
      have hw8 : IntKind.i64.wrap ((m : Int) + 8) = ((m + 8 : Nat) : Int) := by rw [IntKind.wrap_i64]; omega
      obtain ⟨m8, hm88⟩ : ∃ m8, m + 8 = m8 := ⟨_, rfl⟩
      rw [hm88] at hw8
      have HM8 := Lib.hid hm88
      have hmte : (m : Int) ≤ (te : Int) := by omega
      have hten : (te : Int) ≤ (n : Int) := by omega
      have htec : te ≤ c := by omega
      have hFl := Lib.hid hfl
      have hmN : (m : Int) < (n : Int) := by omega
      clear hol hck hblk htk ho hx0 hPB hFB hlp hVB hVX hxL hhd hte hso hsx hcx hxc hm88 hfl
      have hmin : min (m8 : Int) (n : Int) = (te : Int) := by have h1 := HTE.out; have h2 := HM8.out; omega
      go_wp2_with fail
      refine hPk.out.mono ?_
      rintro en wa ⟨vp, rfl, hownp, hba⟩
      have hsa := hba.size
      obtain ⟨Ap, cp, ep, -, -, hownp', hsp⟩ := hownp.open_
      rw [HLP.out] at ep
      subst ep
      have hMk := Lib.hid (refMake_any 1 Ap lp cp PB HLP.out wa hsp (by rw [HLP.out]; omega))
      rw [hmk.out, HLP.out, hme.out] at hMk
      clear hPk hownp hownp'
      go_wp2_with fail
      refine hMk.out.mono ?_
      rintro en wf ⟨vf, rfl, hownf, hbf⟩
      have hsf := hbf.size
      obtain ⟨Af, cf, rfl, -, -, -, -⟩ := hownf.open_
      have hbrf := hba.trans (hbf.mono hsa)
      have hob := hownb.below hbrf
      have hox := hownx.below hbrf
      have hapf : Apart2 u6 (.slice Af FB.length cf) := Apart2.new (hownx.below hba) hownf
      have hapb : Apart2 u5 (.slice Af FB.length cf) := Apart2.new (hownb.below hba) hownf
      have hbwf := hbr.trans (hbrf.mono hsr)
      obtain ⟨Ab, cb, eb, -, -, -, -⟩ := hob.open_
      rw [HLB.out] at eb
      subst eb
      clear hMk hownb hownx
      go_wp2_with fail
      refine (hBb wf).out.mono ?_
      rintro en w1 ⟨v1, rfl, ho1, hb1⟩
      obtain ⟨A1, c1, rfl, hc1, -, -, hs1⟩ := ho1.open_
      have hox1 := hox.below hb1
      have hob1 := hob.below hb1
      have hof1 := hownf.below hb1
      have hbw1 : Below w.heap.size w w1 := hbwf.trans (hb1.mono hbwf.size)
      have hz1 := hbw1.size
      have hzb1 := hb1.size
      clear hox hob hownf
      go_wp2_with (at_builtin; refine wpList_append_b rfl (.tmp 47) (.tmp 51) rfl w.heap.size u6 Xs (by rfl) hox1 w1.heap.size A1 VB.length c1 VB (by rfl) rfl hs1 (by have := HLX.out; omega) hz1 ?_; intro v2 w2 ho2 hon2; have hb2 := hon2.below hz1 hox1.block; have hz2 := hb2.size; have hbw2 := hbw1.trans hb2; have hcx2 : w2.cell? (adl.add m) = some (.slice Ax xl cx) := (hbw2.cell (by rw [add_block]; exact hadxb)).trans hcx0.out)
      obtain ⟨hob2, hap2⟩ := hob1.beside hon2 hap
      obtain ⟨hof2, hapf2⟩ := hof1.beside hon2 hapf
      refine (hBx w2).out.mono ?_
      rintro en w3 ⟨v3, rfl, ho3, hb3⟩
      obtain ⟨A3, c3, rfl, hc3, -, -, hs3⟩ := ho3.open_
      have hox3 := ho2.below hb3
      have hob3 := hob2.below hb3
      have hof3 := hof2.below hb3
      have hbw3 : Below w.heap.size w w3 := hbw2.trans (hb3.mono hbw2.size)
      have hz3 := hbw3.size
      have hzb3 := hb3.size
      have hcx3 : w3.cell? (adl.add m) = some (.slice Ax xl cx) := (hbw3.cell (by rw [add_block]; exact hadxb)).trans hcx0.out
      clear hcx2
      go_wp2_with (first
        | (at_builtin; refine wpList_append_b rfl (.tmp 53) (.tmp 60) rfl w.heap.size v2 (Xs ++ VB) (by rfl) hox3 w3.heap.size A3 VX.length c3 VX (by rfl) rfl hs3 (by have := HLX.out; rw [List.length_append]; omega) hz3 ?_; intro v4 w4 ho4 hon4; have hb4 := hon4.below hz3 hox3.block; have hz4 := hb4.size; have hbw4 := hbw3.trans hb4; have hcx4 : w4.cell? (adl.add m) = some (.slice Ax xl cx) := (hbw4.cell (by rw [add_block]; exact hadxb)).trans hcx0.out; have hsx4 : Sees w4 w4.heap.size Ax (bv x0) := (HSX.out.below hbw4).more hbw4.size; obtain ⟨hob4, hap4⟩ := hob3.beside hon4 hap2; obtain ⟨hof4, hapf4⟩ := hof3.beside hon4 hapf2)
        | (at_builtin; refine wpList_append_b rfl (.tmp 62) (.tmp 66) rfl w.heap.size v4 (Xs ++ VB ++ VX) (by rfl) ho4 w4.heap.size Ax xl cx x0 (by rfl) HXL.out hsx4 (by have := HLX.out; have := HXL.out; rw [List.length_append, List.length_append]; omega) (by omega) ?_; intro v5 w5 ho5 hon5; have hb5 := hon5.below (show w.heap.size ≤ w4.heap.size from by omega) ho4.block; have hz5 := hb5.size; have hbw5 := hbw4.trans hb5; obtain ⟨hob5, hap5⟩ := hob4.beside hon5 hap4; obtain ⟨hof5, hapf5⟩ := hof4.beside hon5 hapf4; obtain ⟨_, _, ef5, _, _, _, hsf5⟩ := hof5.open_; injection ef5 with ef6 ef7 ef8; subst ef6; clear ef7 ef8)
        | (at_builtin; refine wpList_append_b rfl (.tmp 68) (.tmp 69) rfl w.heap.size (.slice Ab lb cb) Bs (by rfl) hob5 w5.heap.size Af FB.length cf FB (by rfl) rfl hsf5 (by have := HLB.out; have := hFl.out; omega) (by omega) ?_; intro v6 w6 ho6 hon6; have hb6 := hon6.below (show w.heap.size ≤ w5.heap.size from by omega) hob5.block; have hbw6 := hbw5.trans hb6; obtain ⟨hox6, hap6⟩ := ho5.beside hon6 hap5.symm)
        | fail)
      go_roundg (N - (k + 1))
      case measure => omega
      case rel => exact ⟨k + 1, m8, by omega, (by have h1 := HM8.out; have h2 := hm8.out; show _ = _; omega), by go_num, by go_num, by rw [hBs2.out]; exact ho6, by rw [hXs2.out]; exact hox6, hap6.symm, hbw6⟩
    · have hkN : Hid (k = N) := by have h1 := hm8.out; have h2 := HBL.out; unfold Hid; omega
      have htk : bl.take k = bl := List.take_of_length_le (by rw [HNN.out, hkN.out]; exact Nat.le_refl _)
      rw [htk] at HBS HXS
      have hkn2 : k ≤ 250 := by have := hkN.out; omega
      have hvn := venc_le4 (u := k) (by omega)
      have htab : tabB bl = venc k ++ Xs := by unfold tabB; rw [HNN.out, ← hkN.out, HXS.out]
      obtain ⟨VN, hVN⟩ : ∃ V, venc k = V := ⟨_, rfl⟩
      have hBn := Lib.hid (refBytes_any k (by unfold Is64; omega) wr)
      rw [hVN] at hBn hvn htab
      obtain ⟨TB, hTB⟩ : ∃ T, tabB bl = T := ⟨_, rfl⟩
      rw [hTB] at htab
      have HTB := Lib.hid hTB
      have HTAB := Lib.hid htab
      obtain ⟨lt, hlt2⟩ : ∃ lt, TB.length = lt := ⟨_, rfl⟩
      have hlt9 : lt ≤ 120000 := by rw [← hlt2, htab, List.length_append, HLX.out]; omega
      have HLT := Lib.hid hlt2
      have hmN : ¬ (m : Int) < (n : Int) := by omega
      have hfin := HFIN.out
      have hbe := HBE.out
      rw [hTB, HLT.out] at hfin hbe
      rw [HBS.out, HLB.out] at hfin
      have HFIN2 := Lib.hid hfin
      have HBE2 := Lib.hid hbe
      obtain ⟨Ab, cb, eb, -, -, -, -⟩ := hownb.open_
      rw [HLB.out] at eb
      obtain ⟨Ax, cx, ex, -, -, -, hsx⟩ := hownx.open_
      rw [HLX.out] at ex
      subst eb
      subst ex
      have HSX := Lib.hid hsx
      clear htk hVN hTB htab hlt2 hfin hbe hsx
      go_wp2_with fail
      refine hBn.out.mono ?_
      rintro en w1 ⟨v1, rfl, ho1, hb1⟩
      have hz1 := hb1.size
      have hob1 := hownb.below hb1
      have hsx1 : Sees w1 w1.heap.size Ax (bv Xs) := (HSX.out.below hb1).more hz1
      have hbw1 : Below w.heap.size w w1 := hbr.trans (hb1.mono hsr)
      have hapb1 : Apart2 (.slice Ab lb cb) v1 := Apart2.new hownb ho1
      clear hBn hownb
      go_wp2_with (at_builtin; refine wpList_append_b rfl (.tmp 78) (.tmp 79) rfl wr.heap.size v1 VN (by rfl) ho1 w1.heap.size Ax lx cx Xs (by rfl) HLX.out hsx1 (by have := HLX.out; omega) hz1 ?_; intro v2 w2 ho2 hon2; rw [← HTAB.out] at ho2; have hb2 := hon2.below hz1 ho1.block; have hz2 := hb2.size; have hbw2 := hbw1.trans (hb2.mono hsr); obtain ⟨hob2, hap2⟩ := hob1.beside hon2 hapb1.symm; obtain ⟨At, ct, et, -, -, -, hst⟩ := ho2.open_; rw [HLT.out] at et; subst et)
      have hMk := Lib.hid (refMake_any 2 At lt ct TB HLT.out w2 hst (by rw [HLT.out]; omega))
      rw [HLT.out] at hMk
      by_cases hbig : 65535 < lt
      · have hmb : Hid (makeB 2 TB = []) := by unfold Hid makeB makeErr; rw [HLT.out, if_neg (by rw [if_neg (by omega), if_pos hbig]; omega)]
        have hme : Hid (makeErr 2 lt = 2) := by unfold Hid makeErr; rw [if_neg (by omega), if_pos hbig]
        have HE : Hid (buildE ls = 2) := by have := HBE2.out; rw [if_pos hbig] at this; exact this
        rw [hmb.out, hme.out] at hMk
        go_wp2_with fail
        refine hMk.out.mono ?_
        rintro en w3 ⟨v3, rfl, -, hb3⟩
        clear hMk
        go_wp2_with fail
        go_ret2
        exact BuildIs.err HE.out (by simp) (hbw2.trans (hb3.mono hbw2.size)) rfl
      · have hmb : Hid (makeB 2 TB = frameOf 2 TB) := by unfold Hid makeB makeErr; rw [HLT.out, if_pos (by rw [if_neg (by omega), if_neg hbig])]
        have hme : Hid (makeErr 2 lt = 0) := by unfold Hid makeErr; rw [if_neg (by omega), if_neg hbig]
        have HE : Hid (buildE ls = 0) := by have := HBE2.out; rw [if_neg hbig] at this; exact this
        rw [hmb.out, hme.out] at hMk
        have hfl := frameOf_len 2 TB
        rw [HLT.out] at hfl
        have hvl := venc_le4 (u := lt) (by omega)
        obtain ⟨F2, hF2⟩ : ∃ F, frameOf 2 TB = F := ⟨_, rfl⟩
        rw [hF2] at hMk hfl
        have HF2 := Lib.hid hF2
        have hf2 : F2.length ≤ 130000 := by omega
        have HFL := Lib.hid hf2
        have HBOB := Lib.hid hob2
        clear hF2 hfl hf2 hob2
        go_wp2_with fail
        refine hMk.out.mono ?_
        rintro en w3 ⟨v3, rfl, ho3, hb3⟩
        obtain ⟨A3, c3, rfl, hc3, -, -, hs3⟩ := ho3.open_
        have hob3 := HBOB.out.below hb3
        have hbw3 : Below w.heap.size w w3 := hbw2.trans (hb3.mono hbw2.size)
        have hz3 := hbw3.size
        clear hMk
        go_wp2_with (first
          | (at_builtin; refine wpList_append_b rfl (.tmp 88) (.tmp 89) rfl w.heap.size (.slice Ab lb cb) Bs (by rfl) hob3 w3.heap.size A3 F2.length c3 F2 (by rfl) rfl hs3 (by have := HLB.out; have := HFL.out; omega) hz3 ?_; intro v4 w4 ho4 hon4; have hb4 := hon4.below hz3 hob3.block; have hz4 := hb4.size; have hbw4 := hbw3.trans hb4)
          | (at_builtin; refine wpList_append_b rfl (.tmp 91) (.tmp 106) rfl w.heap.size v4 (Bs ++ F2) (by rfl) (ho4.alloc _) (w4.heap.size + 1) _ 4 _ (tail4 lb) (by rfl) rfl (sees_new w4 (tail4 lb) _ _ (tail4_arr lb _ _ _ _ (by omega) (by omega) (by omega) (by omega))) (by have := HLB.out; have := HFL.out; rw [List.length_append]; simp [tail4]; omega) (by simp; omega) ?_; intro v5 w5 ho5 hon5)
          | fail)
        have hb5 : Below w.heap.size w w5 := hbw4.trans (((Below.refl _ w4).alloc (by omega) _).trans (hon5.below (by simp; omega) ho4.block))
        go_ret2
        refine ⟨v5, by rw [HE.out]; rfl, ?_, hb5⟩
        rw [HFIN2.out, if_neg (by omega), HF2.out]
        exact ho5
end Go.Proofs.YtadakaenbemedaaGreatDoor

/-
  The document's items of a file, walked.
-/
namespace Go.Proofs.YtadakaenbemedaaGreatDoor
open Go.RowKit

theorem rframes_fuel : ∀ (f : Nat) (r : List UInt8), r.length < f → framesL f r = framesL (r.length + 1) r
  | 0, r, h => absurd h (Nat.not_lt_zero _)
  | f + 1, r, h => by
    show (if (fnext r).2.2.2 ≠ 0 then _ else _) = (if (fnext r).2.2.2 ≠ 0 then _ else _)
    by_cases h0 : (fnext r).2.2.2 ≠ 0
    · rw [if_pos h0, if_pos h0]
    · rw [if_neg h0, if_neg h0]
      by_cases h1 : (fnext r).1 ≠ 1
      · rw [if_pos h1, if_pos h1]
      · rw [if_neg h1, if_neg h1]
        have hl := (fnext_ok (b := r) (by omega)).1
        rw [rframes_fuel f _ (by omega), rframes_fuel r.length _ hl]
theorem framesL_err {r : List UInt8} (h : (fnext r).2.2.2 ≠ 0) : framesL (r.length + 1) r = [([], (fnext r).2.2.2)] := by
  show (if (fnext r).2.2.2 ≠ 0 then _ else _) = _
  rw [if_pos h]
theorem framesL_stop {r : List UInt8} (h : (fnext r).2.2.2 = 0) (h1 : (fnext r).1 ≠ 1) : framesL (r.length + 1) r = [] := by
  show (if (fnext r).2.2.2 ≠ 0 then _ else _) = _
  rw [if_neg (by omega), if_pos h1]
theorem framesL_more {r : List UInt8} (h : (fnext r).2.2.2 = 0) (h1 : (fnext r).1 = 1) : framesL (r.length + 1) r = ((fnext r).2.1, 0) :: framesL ((fnext r).2.2.1.length + 1) (fnext r).2.2.1 := by
  show (if (fnext r).2.2.2 ≠ 0 then _ else _) = _
  rw [if_neg (by omega), if_neg (by omega), rframes_fuel r.length _ (fnext_ok h).1]
theorem unpackAll_e' {a : List (Item × Nat)} {y : Item × Nat} (h : y.2 ≠ 0) : unpackAll (a ++ [y]) = none := by
  rw [unpackAll_snoc]
  cases unpackAll a with
  | none => rfl
  | some bl => simp only; rw [if_pos h]
theorem unpackAll_u' {a : List (Item × Nat)} {y : Item × Nat} (h : (unpackR y.1).2 ≠ 0) : unpackAll (a ++ [y]) = none := by
  rw [unpackAll_snoc]
  cases unpackAll a with
  | none => rfl
  | some bl => simp only; rw [if_pos h]; split <;> rfl
theorem unpackAll_ok' {a : List (Item × Nat)} {y : Item × Nat} {bl : List (List Item)} (h0 : unpackAll a = some bl) (h1 : y.2 = 0) (h2 : (unpackR y.1).2 = 0) : unpackAll (a ++ [y]) = some (bl ++ [(unpackR y.1).1]) := by
  rw [unpackAll_snoc, h0]; simp only; rw [if_neg (by omega), if_neg (by omega)]
theorem openB_at {b : List UInt8} {bl : List (List Item)} (h : unpackAll (framesL (b.length + 1) b) = some bl) : openB b = if buildE bl.flatten = 0 ∧ fileB bl.flatten = b then some bl.flatten else none := by
  unfold openB; rw [h]
theorem openB_no {b : List UInt8} (h : unpackAll (framesL (b.length + 1) b) = none) : openB b = none := by
  unfold openB; rw [h]
theorem unpack_len {b : List UInt8} (h : (unpackR b).2 = 0) : 1 ≤ (unpackR b).1.length ∧ (unpackR b).1.length ≤ 8 := by
  have h1 : unpackAll [(b, 0)] = some [(unpackR b).1] := by simp only [unpackAll]; rw [if_neg (by simp), if_neg (by omega)]; rfl
  have h2 := (unpackAll_some _ h1).2 (unpackR b).1 (by simp)
  have h3 := check_ok h2
  exact ⟨h3.2.1, h3.1⟩

/-- Rows behind rows. -/
theorem OwnS.puts {w w' : World} {base : Nat} {v v' : Value} {ls ms : List (List UInt8)} {vs us : List Value}
    (h : ∀ i (hi : i < ls.length), ∃ Ai ci, vs[i]? = some (.slice Ai (ls[i]).length ci) ∧ (ls[i]).length ≤ ci ∧ SeesN w base v.ownBlock Ai (bv ls[i])) (hvs : vs.length = ls.length)
    (hx : ∀ i (hi : i < ms.length), ∃ Ai ci, us[i]? = some (.slice Ai (ms[i]).length ci) ∧ (ms[i]).length ≤ ci ∧ SeesN w base v.ownBlock Ai (bv ms[i]))
    (hown : w'.ownsRow base 27 1 v' (ls.length + ms.length) (vs ++ us)) (hg : w.grownBy w' v.ownBlock)
    (ho : v'.ownBlock = v.ownBlock ∨ v'.ownBlock = some w.heap.size) : OwnS w' base v' (ls ++ ms) := by
  have kp : ∀ {A : Option Addr} {xs : List Value}, SeesN w base v.ownBlock A xs → SeesN w' base v'.ownBlock A xs := fun hs =>
    hs.kept _ hg.size (fun b _ h1 h2 => hg.block b h1 (fun e => h2 e)) (fun b _ h1 h2 => by
      rcases ho with e | e
      · rw [e]; exact h2
      · rw [e]; intro e2; injection e2 with e2; omega)
  refine ⟨vs ++ us, by rw [List.length_append]; exact hown, fun i hi => ?_⟩
  by_cases hlt : i < ls.length
  · obtain ⟨Ai, ci, h3, h4, h5⟩ := h i hlt
    rw [List.getElem_append_left hlt, List.getElem?_append_left (by omega)]
    exact ⟨Ai, ci, h3, h4, kp h5⟩
  · have hi' : i - ls.length < ms.length := by rw [List.length_append] at hi; omega
    obtain ⟨Ai, ci, h3, h4, h5⟩ := hx (i - ls.length) hi'
    rw [List.getElem_append_right (by omega), List.getElem?_append_right (by omega), hvs]
    exact ⟨Ai, ci, h3, h4, kp h5⟩
/-- append of rows onto a row of rows of the call's own. -/
theorem wpList_append_ss {w : World} {ops : Array Oper} {rest : List Oper} {o : Oper} {a : Act} {Q : Exit → Act → World → Prop} (hgd : o.guard = none) (s x : Operand)
    (ho : o.op = .call { callee := .builtin .append, args := #[s, x], argTypes := #[31, 31] })
    (base : Nat) (v : Value) (ls : List (List UInt8)) (hs : a.eval s = v) (hown : OwnS w base v ls) (base2 : Nat) (A : Option Addr) (c : Nat) (ms : List (List UInt8)) (m : Nat) (hm : ms.length = m) (hx : a.eval x = .slice A m c)
    (hown2 : OwnS w base2 (.slice A m c) ms) (hm0 : 0 < m) (hbb : base ≤ base2) (hv : ∀ k, v.ownBlock = some k → k < base2)
    (hlen : ls.length ≤ 100000000) (hlen2 : m ≤ 1000) (hbase : base ≤ w.heap.size)
    (h : ∀ v' w', OwnS w' base v' (ls ++ ms) → w.grownBy w' v.ownBlock → (v'.ownBlock = v.ownBlock ∨ v'.ownBlock = some w.heap.size) → wpList Tryz.prog ops Q rest (a.put o.dst v') w') : wpList Tryz.prog ops Q (o :: rest) a w := by
  obtain ⟨i, hi, hz0, hz1, hz2⟩ := info_parts Tryz.sinfo
  obtain ⟨vs, h1, h2⟩ := hown.out
  obtain ⟨us, g1, g2⟩ := hown2.out
  have hvs : vs.length = ls.length := by have := h1.1; omega
  have hus : us.length = ms.length := by have := g1.1; omega
  obtain ⟨A', c', e', -, -, hsee⟩ := own_open g1
  injection e' with e1 e2 e3
  subst e1
  subst e3
  rcases hsee.out with e | ⟨ad, rfl, -, hcell⟩
  · rw [e] at hus; simp at hus; omega
  refine wpList_append_own_at w hgd s x 31 ho base 27 i _ 1 24 Tryz.underlying31 hi hz0 hz1 hz2 rfl (by omega) v ls.length vs hs h1 ad m c us hx (by omega) hcell
    (fun u hu => ?_) (by simp only [maxLen]; omega) (by omega) hbase
    (fun v' w' k1 k2 _ k4 => h v' w' (OwnS.puts h2 hvs (fun j hj => ?_) (by rw [hm]; exact k1) k2 k4) k2 k4)
  · obtain ⟨j, hj, rfl⟩ := List.mem_iff_getElem.1 hu
    obtain ⟨Ai, ci, h3, -, -⟩ := g2 j (by omega)
    rw [List.getElem?_eq_getElem hj] at h3
    rw [Option.some.inj h3]
    rfl
  · obtain ⟨Ai, ci, h3, h4, h5⟩ := g2 j hj
    refine ⟨Ai, ci, h3, h4, ?_⟩
    rcases h5.out with e | ⟨ad5, e, f0, f1, f3, f2⟩
    · exact ⟨.inl e⟩
    · exact ⟨.inr ⟨ad5, e, by omega, f1, fun e5 => by have := hv _ e5.symm; omega, f2⟩⟩

/-- What Open tells. -/
def ROpenIs (w : World) (b : List UInt8) (e : Ending) (w' : World) : Prop :=
  ∃ (A : Option Addr) (n c er : Nat) (ls : List Item), e = .returned (.tuple #[.slice A n c, .int .i64 (er : Nat)]) ∧ Below w.heap.size w w' ∧ ls.length = n ∧ n ≤ c ∧ Sees2 w' w'.heap.size A ls ∧ ((openB b = some ls ∧ er = 0) ∨ (openB b = none ∧ er = 170 ∧ ls = []))
theorem ROpenIs.bad {w w' : World} {b : List UInt8} (h : openB b = none) (hb : Below w.heap.size w w') : ROpenIs w b (.returned (.tuple #[.slice none 0 0, .int .i64 170])) w' :=
  ⟨none, 0, 0, 170, [], rfl, hb, rfl, Nat.le_refl _, ⟨fun i hi => absurd hi (by simp)⟩, .inr ⟨h, rfl, rfl⟩⟩

set_option maxRecDepth 100000 in
set_option maxHeartbeats 6400000 in
theorem RefOpen_any (A : Option Addr) (n c : Nat) (b : List UInt8) (hn : b.length = n) (hnc : n ≤ c) (w : World) (hS : Sees w w.heap.size A (bv b)) (hlen : n ≤ 1000000) :
    Calls Tryz.prog 27 #[.slice A n c] w (ROpenIs w b) := by
  have HN := Lib.hid hn
  have HS := Lib.hid hS
  clear hn
  go_enter Tryz.func27, Tryz.ntmps27
  go_wp2_with fail
  go_loopg [4, 5] n (fun g vl vr wr => ∃ (Ar : Option Addr) (nr cr : Nat) (r : List UInt8) (pre : List (Item × Nat)) (bl : List (List Item)), vr = .slice Ar nr cr ∧ nr ≤ cr ∧ Hid (r.length = nr) ∧ Hid (nr = g) ∧ Hid (g ≤ n) ∧ Sees wr w.heap.size Ar (bv r) ∧ Hid (framesL (b.length + 1) b = pre ++ framesL (r.length + 1) r) ∧ Hid (unpackAll pre = some bl) ∧ Hid (bl.flatten.length ≤ 8 * (n - nr)) ∧ OwnS wr w.heap.size vl bl.flatten ∧ Below w.heap.size w wr)
  case atStart => exact ⟨A, n, c, b, [], [], rfl, hnc, HN.out, rfl, Nat.le_refl _, hS, rfl, rfl, (by show _ ≤ _; simp), OwnS.nil _ _, Below.refl _ _⟩
  case round =>
    obtain ⟨Ar, nr, cr, r, pre, bl, rfl, hrc, hr, hng, hgn, hsr, hfr, hun, hbl, hown, hbr⟩ := hrel
    have hszr := hbr.size
    have hnr : nr ≤ 1000000 := by have := hng.out; have := hgn.out; omega
    have hNx := Lib.hid (RefNext_any Ar nr cr r hr.out hrc wr (hsr.more hszr) (by omega))
    have HSR := Lib.hid hsr
    have HOWN := Lib.hid hown
    obtain ⟨vsO, hO1, -⟩ := hown.out
    have hOlt := World.ownsRow.lt hO1
    clear hS hsr hown hO1
    go_wp2_with fail
    refine hNx.out.mono ?_
    rintro en w2 ⟨k, A2, n2, c2, fi, er, rfl, hb2, her, hok⟩
    have hb02 := hbr.trans (hb2.mono hszr)
    have hsz2 := hb2.size
    have HOK := Lib.hid hok
    clear hNx hok
    by_cases he : er = 0
    rotate_left
    · have hei : ((er : Int) != 0) = true := by rw [bne_iff_ne]; omega
      have HNO : Hid (openB b = none) := openB_no (by rw [hfr.out, framesL_err (by rw [← her]; exact he)]; exact unpackAll_e' (by rw [← her]; exact he))
      clear her he
      go_wp2_with fail
      go_ret2
      exact ROpenIs.bad HNO.out hb02
    subst he
    obtain ⟨hk, hn2, hnc2, hs2, hfi, hdr, hf5⟩ := HOK.out rfl
    have HER := Lib.hid her.symm
    by_cases hk1 : k = 1
    rotate_left
    · have hki : ((k : Int) != 1) = true := by rw [bne_iff_ne]; omega
      have HFR : Hid (unpackAll (framesL (b.length + 1) b) = some bl) := by unfold Hid; rw [hfr.out, framesL_stop HER.out (by rw [← hk]; exact hk1), List.append_nil]; exact hun.out
      have HOP := Lib.hid (openB_at HFR.out)
      obtain ⟨AO, cO, hvO, hcO, hsO⟩ := HOWN.out.open_
      obtain ⟨ls, hls⟩ : ∃ ls, bl.flatten = ls := ⟨_, rfl⟩
      rw [hls] at HOP hvO hcO hsO
      have hll : ls.length ≤ 8000000 := by have := hbl.out; rw [hls] at this; omega
      obtain ⟨N, hN⟩ : ∃ N, ls.length = N := ⟨_, rfl⟩
      rw [hN] at hvO hcO hll
      have hBd := Lib.hid (RefBuild_any AO N cO ls hN hcO w2 ((hsO.below hb2).more hsz2) (by omega))
      have HNN := Lib.hid hN
      have HSO := Lib.hid hsO
      subst hvO
      clear hk hk1 hn2 hs2 hfi hdr hf5 her hls hN hsO HOK
      go_wp2_with fail
      refine hBd.out.mono ?_
      rintro en w3 ⟨v3, rfl, hown3, hb3⟩
      have hb03 := hb02.trans (hb3.mono hb02.size)
      have HS3 : Hid (Sees2 w3 w3.heap.size AO ls) := (HSO.out.below (hb2.trans (hb3.mono hsz2))).more (Nat.le_trans hsz2 hb3.size)
      obtain ⟨A3, c3, rfl, hc3, -, -, hs3⟩ := hown3.open_
      have cv3 := run_str w3 w3.heap.size A3 _ c3 _ hs3 rfl
      have cvb := run_str w3 w3.heap.size A n c b ((HS.out.below hb03).more hb03.size) HN.out
      clear hBd hown3 hs3 hc3
      by_cases hbe : buildE ls = 0
      rotate_left
      · have hci : ((buildE ls : Int) != 0) = true := by rw [bne_iff_ne]; omega
        have HNO : Hid (openB b = none) := by have := HOP.out; rw [if_neg (fun h => hbe h.1)] at this; exact this
        clear hbe cv3 HOP
        generalize buildE ls = ck at hci ⊢
        go_wp2_with fail
        all_goals
          go_ret2
          exact ROpenIs.bad HNO.out hb03
      · have HBE := Lib.hid hbe
        rw [hbe] at cv3 ⊢
        simp only [if_true] at cv3 ⊢
        have hE := strOf_eq (fileB ls) b
        by_cases hpb : fileB ls = b
        · rw [decide_eq_true hpb] at hE
          have HE : Hid (openB b = some ls) := by have := HOP.out; rw [if_pos ⟨hbe, hpb⟩] at this; exact this
          generalize strOf (fileB ls) = s1 at cv3 hE
          generalize strOf b = s2 at cvb hE
          have hE' : (s1.toList != s2.toList) = false := by rw [bne, hE]; rfl
          clear hbe hpb HOP
          go_wp2_with fail
          go_ret2
          exact ⟨AO, N, cO, 0, ls, rfl, hb03, HNN.out, hcO, HS3.out, .inl ⟨HE.out, rfl⟩⟩
        · rw [decide_eq_false hpb] at hE
          have HE : Hid (openB b = none) := by have := HOP.out; rw [if_neg (fun h => hpb h.2)] at this; exact this
          generalize strOf (fileB ls) = s1 at cv3 hE
          generalize strOf b = s2 at cvb hE
          have hE' : (s1.toList != s2.toList) = true := by rw [bne, hE]; rfl
          clear hbe hpb HOP
          go_wp2_with fail
          go_ret2
          exact ROpenIs.bad HE.out hb03
    · have hki : ((k : Int) != 1) = false := by rw [hk1]; rfl
      have HMORE := Lib.hid (hfr.out.trans (congrArg (pre ++ ·) (framesL_more HER.out (by rw [← hk]; exact hk1))))
      obtain ⟨body, hbody⟩ : ∃ body, (fnext r).2.1 = body := ⟨_, rfl⟩
      rw [hbody] at hn2 hs2 HMORE
      obtain ⟨r2, hr2⟩ : ∃ r2, (fnext r).2.2.1 = r2 := ⟨_, rfl⟩
      rw [hr2] at hdr HMORE
      have hnb : n2 ≤ 1000000 := by have h1 := (fnext_ok HER.out).2; rw [hbody] at h1; have := hr.out; omega
      have hU := Lib.hid (RefUnpack_any A2 n2 c2 body hn2 hnc2 w2 hs2 hnb)
      have HDR := Lib.hid hdr
      have hfin : fi ≤ nr := by have := hr.out; omega
      clear hk hk1 hn2 hs2 hfi hdr her hbody hr2 HOK
      go_wp2_with fail
      refine hU.out.mono ?_
      rintro en w3 ⟨A3, c3, rfl, hb3, hc3, hown3⟩
      have hb03 := hb02.trans (hb3.mono hb02.size)
      have hsz3 := hb3.size
      clear hU
      by_cases hue : (unpackR body).2 = 0
      rotate_left
      · have hci : (((unpackR body).2 : Int) != 0) = true := by rw [bne_iff_ne]; omega
        have HNO : Hid (openB b = none) := openB_no (by
          rw [HMORE.out, show pre ++ (body, 0) :: framesL (r2.length + 1) r2 = (pre ++ [(body, 0)]) ++ framesL (r2.length + 1) r2 from by simp]
          exact unpackAll_bad _ _ (unpackAll_u' hue))
        clear hue
        generalize (unpackR body).2 = ck at hci ⊢
        go_wp2_with fail
        go_ret2
        exact ROpenIs.bad HNO.out hb03
      · have hul := unpack_len hue
        have hok2 := unpackAll_ok' hun.out rfl hue (y := (body, 0))
        rw [hue]
        simp only at hok2
        obtain ⟨U, hU⟩ : ∃ U, (unpackR body).1 = U := ⟨_, rfl⟩
        rw [hU] at hul hok2 hown3 hc3 ⊢
        obtain ⟨lu, hlu⟩ : ∃ lu, U.length = lu := ⟨_, rfl⟩
        rw [hlu] at hul hown3 hc3 ⊢
        have HLU := Lib.hid hlu
        have HOK2 := Lib.hid hok2
        have hown03 := HOWN.out.below (hb2.trans (hb3.mono hsz2))
        have hbl9 : bl.flatten.length ≤ 8000000 := by have := hbl.out; omega
        have HBL9 := Lib.hid hbl9
        obtain ⟨Ad, hAd⟩ : ∃ Ad, (if cr = fi then Ar else Ar.map (fun a => a.add fi)) = Ad := ⟨_, rfl⟩
        have hSD : Sees wr w.heap.size Ad (bv r2) := by
          have h1 := HSR.out.cut (k := fi) (cap := cr) (by rw [bv_length, hr.out]; exact hrc)
          simp only [Nat.mul_one, ← bv_drop] at h1
          rw [hAd, HDR.out] at h1
          exact h1
        have HSD := Lib.hid hSD
        have hfi' : (fi : Int) ≤ (nr : Int) := by omega
        have hfic : fi ≤ cr := by omega
        have HF5 := Lib.hid hf5
        clear hue hU hlu hok2 hbl9 hSD hf5
        go_wp2_with (at_builtin; refine wpList_append_ss rfl (.tmp 33) (.tmp 34) rfl w.heap.size u4 bl.flatten (by rfl) hown03 w2.heap.size A3 c3 U lu HLU.out (by rfl) hown3 (by omega) (by omega) (fun kk hkk => by have := (hOlt kk hkk).2; omega) (by have := HBL9.out; omega) (by omega) (by omega) ?_; intro v4 w4 hown4 hgr4 hat4; have hb4 : Below w.heap.size w3 w4 := (Below.refl _ _).grown hgr4 (by omega) (fun bb hb => (hOlt bb hb).1))
        go_roundg (nr - fi)
        case measure => have := hng.out; have := HF5.out; omega
        case rel =>
          have h5 := HF5.out
          refine ⟨Ad, nr - fi, cr - fi, r2, pre ++ [(body, 0)], bl ++ [U], rfl, by omega, by unfold Hid; rw [← HDR.out, List.length_drop, hr.out], rfl, by have := hng.out; have := hgn.out; unfold Hid; omega, HSD.out.below ((hb2.mono hszr).trans ((hb3.mono (by omega)).trans hb4)), by unfold Hid; rw [HMORE.out]; simp, HOK2.out, ?_, ?_, hb03.trans hb4⟩
          · have h1 := hbl.out
            have h2 := HLU.out
            have h3 := hng.out
            have h4 := hgn.out
            unfold Hid
            rw [List.flatten_append, List.length_append, List.flatten_singleton]
            omega
          · rw [List.flatten_append, List.flatten_singleton]; exact hown4
end Go.Proofs.YtadakaenbemedaaGreatDoor
