/-
  The document's items of a file, walked.
-/
import Derived.Test.YtmdphaagbmipcaaDoorRfBuild
import Derived.Test.YtmdphaagbmipcaaDoorRfNext
import Derived.Test.YtmdphaagbmipcaaDoorRfUnpack
import Derived.Test.YtmdphaagbmipcaaDoorIpOpenPlain
namespace Go.Proofs.YtmdphaagbmipcaaDoor
open Go.RowKit

theorem rframes_fuel : ∀ (f : Nat) (r : List UInt8), r.length < f → framesL f r = framesL (r.length + 1) r
  | 0, r, h => absurd h (Nat.not_lt_zero _)
  | f + 1, r, h => by
    show (if (fnext r).2.2.2 ≠ 0 then _ else _) = (if (fnext r).2.2.2 ≠ 0 then _ else _)
    by_cases h0 : (fnext r).2.2.2 ≠ 0
    · rw [if_pos h0, if_pos h0]
    · rw [if_neg h0, if_neg h0]
      by_cases h1 : (fnext r).1 ≠ 1
      · rw [if_pos h1, if_pos h1]
      · rw [if_neg h1, if_neg h1]
        have hl := (fnext_ok (b := r) (by omega)).1
        rw [rframes_fuel f _ (by omega), rframes_fuel r.length _ hl]
theorem framesL_err {r : List UInt8} (h : (fnext r).2.2.2 ≠ 0) : framesL (r.length + 1) r = [([], (fnext r).2.2.2)] := by
  show (if (fnext r).2.2.2 ≠ 0 then _ else _) = _
  rw [if_pos h]
theorem framesL_stop {r : List UInt8} (h : (fnext r).2.2.2 = 0) (h1 : (fnext r).1 ≠ 1) : framesL (r.length + 1) r = [] := by
  show (if (fnext r).2.2.2 ≠ 0 then _ else _) = _
  rw [if_neg (by omega), if_pos h1]
theorem framesL_more {r : List UInt8} (h : (fnext r).2.2.2 = 0) (h1 : (fnext r).1 = 1) : framesL (r.length + 1) r = ((fnext r).2.1, 0) :: framesL ((fnext r).2.2.1.length + 1) (fnext r).2.2.1 := by
  show (if (fnext r).2.2.2 ≠ 0 then _ else _) = _
  rw [if_neg (by omega), if_neg (by omega), rframes_fuel r.length _ (fnext_ok h).1]
theorem unpackAll_e' {a : List (Item × Nat)} {y : Item × Nat} (h : y.2 ≠ 0) : unpackAll (a ++ [y]) = none := by
  rw [unpackAll_snoc]
  cases unpackAll a with
  | none => rfl
  | some bl => simp only; rw [if_pos h]
theorem unpackAll_u' {a : List (Item × Nat)} {y : Item × Nat} (h : (unpackR y.1).2 ≠ 0) : unpackAll (a ++ [y]) = none := by
  rw [unpackAll_snoc]
  cases unpackAll a with
  | none => rfl
  | some bl => simp only; rw [if_pos h]; split <;> rfl
theorem unpackAll_ok' {a : List (Item × Nat)} {y : Item × Nat} {bl : List (List Item)} (h0 : unpackAll a = some bl) (h1 : y.2 = 0) (h2 : (unpackR y.1).2 = 0) : unpackAll (a ++ [y]) = some (bl ++ [(unpackR y.1).1]) := by
  rw [unpackAll_snoc, h0]; simp only; rw [if_neg (by omega), if_neg (by omega)]
theorem openB_at {b : List UInt8} {bl : List (List Item)} (h : unpackAll (framesL (b.length + 1) b) = some bl) : openB b = if buildE bl.flatten = 0 ∧ fileB bl.flatten = b then some bl.flatten else none := by
  unfold openB; rw [h]
theorem openB_no {b : List UInt8} (h : unpackAll (framesL (b.length + 1) b) = none) : openB b = none := by
  unfold openB; rw [h]
theorem unpack_len {b : List UInt8} (h : (unpackR b).2 = 0) : 1 ≤ (unpackR b).1.length ∧ (unpackR b).1.length ≤ 8 := by
  have h1 : unpackAll [(b, 0)] = some [(unpackR b).1] := by simp only [unpackAll]; rw [if_neg (by simp), if_neg (by omega)]; rfl
  have h2 := (unpackAll_some _ h1).2 (unpackR b).1 (by simp)
  have h3 := check_ok h2
  exact ⟨h3.2.1, h3.1⟩

/-- Rows behind rows. -/
theorem OwnS.puts {w w' : World} {base : Nat} {v v' : Value} {ls ms : List (List UInt8)} {vs us : List Value}
    (h : ∀ i (hi : i < ls.length), ∃ Ai ci, vs[i]? = some (.slice Ai (ls[i]).length ci) ∧ (ls[i]).length ≤ ci ∧ SeesN w base v.ownBlock Ai (bv ls[i])) (hvs : vs.length = ls.length)
    (hx : ∀ i (hi : i < ms.length), ∃ Ai ci, us[i]? = some (.slice Ai (ms[i]).length ci) ∧ (ms[i]).length ≤ ci ∧ SeesN w base v.ownBlock Ai (bv ms[i]))
    (hown : w'.ownsRow base 23 1 v' (ls.length + ms.length) (vs ++ us)) (hg : w.grownBy w' v.ownBlock)
    (ho : v'.ownBlock = v.ownBlock ∨ v'.ownBlock = some w.heap.size) : OwnS w' base v' (ls ++ ms) := by
  have kp : ∀ {A : Option Addr} {xs : List Value}, SeesN w base v.ownBlock A xs → SeesN w' base v'.ownBlock A xs := fun hs =>
    hs.kept _ hg.size (fun b _ h1 h2 => hg.block b h1 (fun e => h2 e)) (fun b _ h1 h2 => by
      rcases ho with e | e
      · rw [e]; exact h2
      · rw [e]; intro e2; injection e2 with e2; omega)
  refine ⟨vs ++ us, by rw [List.length_append]; exact hown, fun i hi => ?_⟩
  by_cases hlt : i < ls.length
  · obtain ⟨Ai, ci, h3, h4, h5⟩ := h i hlt
    rw [List.getElem_append_left hlt, List.getElem?_append_left (by omega)]
    exact ⟨Ai, ci, h3, h4, kp h5⟩
  · have hi' : i - ls.length < ms.length := by rw [List.length_append] at hi; omega
    obtain ⟨Ai, ci, h3, h4, h5⟩ := hx (i - ls.length) hi'
    rw [List.getElem_append_right (by omega), List.getElem?_append_right (by omega), hvs]
    exact ⟨Ai, ci, h3, h4, kp h5⟩
/-- append of rows onto a row of rows of the call's own. -/
theorem wpList_append_ss {w : World} {ops : Array Oper} {rest : List Oper} {o : Oper} {a : Act} {Q : Exit → Act → World → Prop} (hgd : o.guard = none) (s x : Operand)
    (ho : o.op = .call { callee := .builtin .append, args := #[s, x], argTypes := #[22, 22] })
    (base : Nat) (v : Value) (ls : List (List UInt8)) (hs : a.eval s = v) (hown : OwnS w base v ls) (base2 : Nat) (A : Option Addr) (c : Nat) (ms : List (List UInt8)) (m : Nat) (hm : ms.length = m) (hx : a.eval x = .slice A m c)
    (hown2 : OwnS w base2 (.slice A m c) ms) (hm0 : 0 < m) (hbb : base ≤ base2) (hv : ∀ k, v.ownBlock = some k → k < base2)
    (hlen : ls.length ≤ 100000000) (hlen2 : m ≤ 1000) (hbase : base ≤ w.heap.size)
    (h : ∀ v' w', OwnS w' base v' (ls ++ ms) → w.grownBy w' v.ownBlock → (v'.ownBlock = v.ownBlock ∨ v'.ownBlock = some w.heap.size) → wpList Tryd.prog ops Q rest (a.put o.dst v') w') : wpList Tryd.prog ops Q (o :: rest) a w := by
  obtain ⟨i, hi, hz0, hz1, hz2⟩ := info_parts Tryd.sinfo
  obtain ⟨vs, h1, h2⟩ := hown.out
  obtain ⟨us, g1, g2⟩ := hown2.out
  have hvs : vs.length = ls.length := by have := h1.1; omega
  have hus : us.length = ms.length := by have := g1.1; omega
  obtain ⟨A', c', e', -, -, hsee⟩ := own_open g1
  injection e' with e1 e2 e3
  subst e1
  subst e3
  rcases hsee.out with e | ⟨ad, rfl, -, hcell⟩
  · rw [e] at hus; simp at hus; omega
  refine wpList_append_own_at w hgd s x 22 ho base 23 i _ 1 24 Tryd.underlying22 hi hz0 hz1 hz2 rfl (by omega) v ls.length vs hs h1 ad m c us hx (by omega) hcell
    (fun u hu => ?_) (by simp only [maxLen]; omega) (by omega) hbase
    (fun v' w' k1 k2 _ k4 => h v' w' (OwnS.puts h2 hvs (fun j hj => ?_) (by rw [hm]; exact k1) k2 k4) k2 k4)
  · obtain ⟨j, hj, rfl⟩ := List.mem_iff_getElem.1 hu
    obtain ⟨Ai, ci, h3, -, -⟩ := g2 j (by omega)
    rw [List.getElem?_eq_getElem hj] at h3
    injection h3 with h3
    rw [h3]
    rfl
  · obtain ⟨Ai, ci, h3, h4, h5⟩ := g2 j hj
    refine ⟨Ai, ci, h3, h4, ?_⟩
    rcases h5.out with e | ⟨ad5, e, f0, f1, f3, f2⟩
    · exact ⟨.inl e⟩
    · exact ⟨.inr ⟨ad5, e, by omega, f1, fun e5 => by have := hv _ e5.symm; omega, f2⟩⟩

/-- What Open tells. -/
def ROpenIs (w : World) (b : List UInt8) (e : Ending) (w' : World) : Prop :=
  ∃ (A : Option Addr) (n c er : Nat) (ls : List Item), e = .returned (.tuple #[.slice A n c, .int .i64 (er : Nat)]) ∧ Below w.heap.size w w' ∧ ls.length = n ∧ n ≤ c ∧ Sees2 w' w'.heap.size A ls ∧ ((openB b = some ls ∧ er = 0) ∨ (openB b = none ∧ er = 170 ∧ ls = []))
theorem ROpenIs.bad {w w' : World} {b : List UInt8} (h : openB b = none) (hb : Below w.heap.size w w') : ROpenIs w b (.returned (.tuple #[.slice none 0 0, .int .i64 170])) w' :=
  ⟨none, 0, 0, 170, [], rfl, hb, rfl, Nat.le_refl _, ⟨fun i hi => absurd hi (by simp)⟩, .inr ⟨h, rfl, rfl⟩⟩

set_option maxRecDepth 100000 in
set_option maxHeartbeats 6400000 in
theorem RefOpen_any (A : Option Addr) (n c : Nat) (b : List UInt8) (hn : b.length = n) (hnc : n ≤ c) (w : World) (hS : Sees w w.heap.size A (bv b)) (hlen : n ≤ 1000000) :
    Calls Tryd.prog 14 #[.slice A n c] w (ROpenIs w b) := by
  have HN := Lib.hid hn
  have HS := Lib.hid hS
  clear hn
  go_enter Tryd.func14, Tryd.ntmps14
  go_wp2_with fail
  go_loopg [4, 5] n (fun g vl vr wr => ∃ (Ar : Option Addr) (nr cr : Nat) (r : List UInt8) (pre : List (Item × Nat)) (bl : List (List Item)), vr = .slice Ar nr cr ∧ nr ≤ cr ∧ Hid (r.length = nr) ∧ Hid (nr = g) ∧ Hid (g ≤ n) ∧ Sees wr w.heap.size Ar (bv r) ∧ Hid (framesL (b.length + 1) b = pre ++ framesL (r.length + 1) r) ∧ Hid (unpackAll pre = some bl) ∧ Hid (bl.flatten.length ≤ 8 * (n - nr)) ∧ OwnS wr w.heap.size vl bl.flatten ∧ Below w.heap.size w wr)
  case atStart => exact ⟨A, n, c, b, [], [], rfl, hnc, HN.out, rfl, Nat.le_refl _, hS, rfl, rfl, (by show _ ≤ _; simp), OwnS.nil _ _, Below.refl _ _⟩
  case round =>
    obtain ⟨Ar, nr, cr, r, pre, bl, rfl, hrc, hr, hng, hgn, hsr, hfr, hun, hbl, hown, hbr⟩ := hrel
    have hszr := hbr.size
    have hnr : nr ≤ 1000000 := by have := hng.out; have := hgn.out; omega
    have hNx := Lib.hid (RefNext_any Ar nr cr r hr.out hrc wr (hsr.more hszr) (by omega))
    have HSR := Lib.hid hsr
    have HOWN := Lib.hid hown
    obtain ⟨vsO, hO1, -⟩ := hown.out
    have hOlt := World.ownsRow.lt hO1
    clear hS hsr hown hO1
    go_wp2_with fail
    refine hNx.out.mono ?_
    rintro en w2 ⟨k, A2, n2, c2, fi, er, rfl, hb2, her, hok⟩
    have hb02 := hbr.trans (hb2.mono hszr)
    have hsz2 := hb2.size
    have HOK := Lib.hid hok
    clear hNx hok
    by_cases he : er = 0
    rotate_left
    · have hei : ((er : Int) != 0) = true := by rw [bne_iff_ne]; omega
      have HNO : Hid (openB b = none) := openB_no (by rw [hfr.out, framesL_err (by rw [← her]; exact he)]; exact unpackAll_e' (by rw [← her]; exact he))
      clear her he
      go_wp2_with fail
      go_ret2
      exact ROpenIs.bad HNO.out hb02
    subst he
    obtain ⟨hk, hn2, hnc2, hs2, hfi, hdr, hf5⟩ := HOK.out rfl
    have HER := Lib.hid her.symm
    by_cases hk1 : k = 1
    rotate_left
    · have hki : ((k : Int) != 1) = true := by rw [bne_iff_ne]; omega
      have HFR : Hid (unpackAll (framesL (b.length + 1) b) = some bl) := by unfold Hid; rw [hfr.out, framesL_stop HER.out (by rw [← hk]; exact hk1), List.append_nil]; exact hun.out
      have HOP := Lib.hid (openB_at HFR.out)
      obtain ⟨AO, cO, hvO, hcO, hsO⟩ := HOWN.out.open_
      obtain ⟨ls, hls⟩ : ∃ ls, bl.flatten = ls := ⟨_, rfl⟩
      rw [hls] at HOP hvO hcO hsO
      have hll : ls.length ≤ 8000000 := by have := hbl.out; rw [hls] at this; omega
      obtain ⟨N, hN⟩ : ∃ N, ls.length = N := ⟨_, rfl⟩
      rw [hN] at hvO hcO hll
      have hBd := Lib.hid (RefBuild_any AO N cO ls hN hcO w2 ((hsO.below hb2).more hsz2) (by omega))
      have HNN := Lib.hid hN
      have HSO := Lib.hid hsO
      subst hvO
      clear hk hk1 hn2 hs2 hfi hdr hf5 her hls hN hsO HOK
      go_wp2_with fail
      refine hBd.out.mono ?_
      rintro en w3 ⟨v3, rfl, hown3, hb3⟩
      have hb03 := hb02.trans (hb3.mono hb02.size)
      have HS3 : Hid (Sees2 w3 w3.heap.size AO ls) := (HSO.out.below (hb2.trans (hb3.mono hsz2))).more (Nat.le_trans hsz2 hb3.size)
      obtain ⟨A3, c3, rfl, hc3, -, -, hs3⟩ := hown3.open_
      have cv3 := run_str w3 w3.heap.size A3 _ c3 _ hs3 rfl
      have cvb := run_str w3 w3.heap.size A n c b ((HS.out.below hb03).more hb03.size) HN.out
      clear hBd hown3 hs3 hc3
      by_cases hbe : buildE ls = 0
      rotate_left
      · have hci : ((buildE ls : Int) != 0) = true := by rw [bne_iff_ne]; omega
        have HNO : Hid (openB b = none) := by have := HOP.out; rw [if_neg (fun h => hbe h.1)] at this; exact this
        clear hbe cv3 HOP
        generalize buildE ls = ck at hci ⊢
        go_wp2_with fail
        all_goals
          go_ret2
          exact ROpenIs.bad HNO.out hb03
      · have HBE := Lib.hid hbe
        rw [hbe] at cv3 ⊢
        simp only [if_true] at cv3 ⊢
        have hE := strOf_eq (fileB ls) b
        by_cases hpb : fileB ls = b
        · rw [decide_eq_true hpb] at hE
          have HE : Hid (openB b = some ls) := by have := HOP.out; rw [if_pos ⟨hbe, hpb⟩] at this; exact this
          generalize strOf (fileB ls) = s1 at cv3 hE
          generalize strOf b = s2 at cvb hE
          have hE' : (s1.toList != s2.toList) = false := by rw [bne, hE]; rfl
          clear hbe hpb HOP
          go_wp2_with fail
          go_ret2
          exact ⟨AO, N, cO, 0, ls, rfl, hb03, HNN.out, hcO, HS3.out, .inl ⟨HE.out, rfl⟩⟩
        · rw [decide_eq_false hpb] at hE
          have HE : Hid (openB b = none) := by have := HOP.out; rw [if_neg (fun h => hpb h.2)] at this; exact this
          generalize strOf (fileB ls) = s1 at cv3 hE
          generalize strOf b = s2 at cvb hE
          have hE' : (s1.toList != s2.toList) = true := by rw [bne, hE]; rfl
          clear hbe hpb HOP
          go_wp2_with fail
          go_ret2
          exact ROpenIs.bad HE.out hb03
    · have hki : ((k : Int) != 1) = false := by rw [hk1]; rfl
      have HMORE := Lib.hid (hfr.out.trans (congrArg (pre ++ ·) (framesL_more HER.out (by rw [← hk]; exact hk1))))
      obtain ⟨body, hbody⟩ : ∃ body, (fnext r).2.1 = body := ⟨_, rfl⟩
      rw [hbody] at hn2 hs2 HMORE
      obtain ⟨r2, hr2⟩ : ∃ r2, (fnext r).2.2.1 = r2 := ⟨_, rfl⟩
      rw [hr2] at hdr HMORE
      have hnb : n2 ≤ 1000000 := by have h1 := (fnext_ok HER.out).2; rw [hbody] at h1; have := hr.out; omega
      have hU := Lib.hid (RefUnpack_any A2 n2 c2 body hn2 hnc2 w2 hs2 hnb)
      have HDR := Lib.hid hdr
      have hfin : fi ≤ nr := by have := hr.out; omega
      clear hk hk1 hn2 hs2 hfi hdr her hbody hr2 HOK
      go_wp2_with fail
      refine hU.out.mono ?_
      rintro en w3 ⟨A3, c3, rfl, hb3, hc3, hown3⟩
      have hb03 := hb02.trans (hb3.mono hb02.size)
      have hsz3 := hb3.size
      clear hU
      by_cases hue : (unpackR body).2 = 0
      rotate_left
      · have hci : (((unpackR body).2 : Int) != 0) = true := by rw [bne_iff_ne]; omega
        have HNO : Hid (openB b = none) := openB_no (by
          rw [HMORE.out, show pre ++ (body, 0) :: framesL (r2.length + 1) r2 = (pre ++ [(body, 0)]) ++ framesL (r2.length + 1) r2 from by simp]
          exact unpackAll_bad _ _ (unpackAll_u' hue))
        clear hue
        generalize (unpackR body).2 = ck at hci ⊢
        go_wp2_with fail
        go_ret2
        exact ROpenIs.bad HNO.out hb03
      · have hul := unpack_len hue
        have hok2 := unpackAll_ok' hun.out rfl hue (y := (body, 0))
        rw [hue]
        simp only at hok2
        obtain ⟨U, hU⟩ : ∃ U, (unpackR body).1 = U := ⟨_, rfl⟩
        rw [hU] at hul hok2 hown3 hc3 ⊢
        obtain ⟨lu, hlu⟩ : ∃ lu, U.length = lu := ⟨_, rfl⟩
        rw [hlu] at hul hown3 hc3 ⊢
        have HLU := Lib.hid hlu
        have HOK2 := Lib.hid hok2
        have hown03 := HOWN.out.below (hb2.trans (hb3.mono hsz2))
        have hbl9 : bl.flatten.length ≤ 8000000 := by have := hbl.out; omega
        have HBL9 := Lib.hid hbl9
        obtain ⟨Ad, hAd⟩ : ∃ Ad, (if cr = fi then Ar else Ar.map (fun a => a.add fi)) = Ad := ⟨_, rfl⟩
        have hSD : Sees wr w.heap.size Ad (bv r2) := by
          have h1 := HSR.out.cut (k := fi) (cap := cr) (by rw [bv_length, hr.out]; exact hrc)
          simp only [Nat.mul_one, ← bv_drop] at h1
          rw [hAd, HDR.out] at h1
          exact h1
        have HSD := Lib.hid hSD
        have hfi' : (fi : Int) ≤ (nr : Int) := by omega
        have hfic : fi ≤ cr := by omega
        have HF5 := Lib.hid hf5
        clear hue hU hlu hok2 hbl9 hSD hf5
        go_wp2_with (at_builtin; refine wpList_append_ss rfl (.tmp 33) (.tmp 34) rfl w.heap.size u4 bl.flatten (by rfl) hown03 w2.heap.size A3 c3 U lu HLU.out (by rfl) hown3 (by omega) (by omega) (fun kk hkk => by have := (hOlt kk hkk).2; omega) (by have := HBL9.out; omega) (by omega) (by omega) ?_; intro v4 w4 hown4 hgr4 hat4; have hb4 : Below w.heap.size w3 w4 := (Below.refl _ _).grown hgr4 (by omega) (fun bb hb => (hOlt bb hb).1))
        go_roundg (nr - fi)
        case measure => have := hng.out; have := HF5.out; omega
        case rel =>
          have h5 := HF5.out
          refine ⟨Ad, nr - fi, cr - fi, r2, pre ++ [(body, 0)], bl ++ [U], rfl, by omega, by unfold Hid; rw [← HDR.out, List.length_drop, hr.out], rfl, by have := hng.out; have := hgn.out; unfold Hid; omega, HSD.out.below ((hb2.mono hszr).trans ((hb3.mono (by omega)).trans hb4)), by unfold Hid; rw [HMORE.out]; simp, HOK2.out, ?_, ?_, hb03.trans hb4⟩
          · have h1 := hbl.out
            have h2 := HLU.out
            have h3 := hng.out
            have h4 := hgn.out
            unfold Hid
            rw [List.flatten_append, List.length_append, List.flatten_singleton]
            omega
          · rw [List.flatten_append, List.flatten_singleton]; exact hown4
end Go.Proofs.YtmdphaagbmipcaaDoor
