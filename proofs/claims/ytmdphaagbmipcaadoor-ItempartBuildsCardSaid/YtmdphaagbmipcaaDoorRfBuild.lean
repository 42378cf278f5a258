/-
  The document's file of items, walked.
-/
import Derived.Test.YtmdphaagbmipcaaDoorRfPack2
import Derived.Test.YtmdphaagbmipcaaDoorIpBuild2
import Derived.Test.YtmdphaagbmipcaaDoorIpRef
import Derived.Deep.CutBlock
namespace Go.Proofs.YtmdphaagbmipcaaDoor
open Go.RowKit

theorem checkR_build {ls : List Item} (h : checkR ls ≠ 0) : buildE ls = checkR ls := by
  unfold checkR at h ⊢
  unfold buildE
  split
  · rfl
  · rename_i h1
    rw [if_neg h1] at h
    split
    · rfl
    · rename_i h2
      rw [if_neg h2] at h
      exact absurd rfl h
theorem checkR_zero {ls : List Item} (h : checkR ls = 0) : ls.length ≤ 2000 ∧ 0 < ls.length ∧ okB ls = true ∧ buildE ls = if 65535 < (tabB (blk ls)).length then 2 else 0 := by
  unfold checkR at h
  unfold buildE
  split at h
  · simp at h
  · rename_i h1
    split at h
    · simp at h
    · rename_i h2
      rw [if_neg h1, if_neg h2]
      refine ⟨by omega, by have := fun e => h2 (.inl e); omega, ?_, rfl⟩
      cases ho : okB ls with
      | true => rfl
      | false => exact absurd (.inr ho) h2

set_option maxRecDepth 100000 in
set_option maxHeartbeats 6400000 in
theorem RefBuild_any (A : Option Addr) (n c : Nat) (ls : List Item) (hn : ls.length = n) (hnc : n ≤ c) (w : World) (hS : Sees2 w w.heap.size A ls) (hlen : n ≤ 1099511627776) :
    Calls Tryd.prog 12 #[.slice A n c] w (BuildIs w ls) := by
  have hC := Lib.hid (RefCheck_any A n c ls hn w hS hlen)
  have HN := Lib.hid hn
  by_cases hck : checkR ls = 0
  rotate_left
  · have HE := Lib.hid (checkR_build hck)
    obtain ⟨X, hX⟩ : ∃ X, checkR ls = X := ⟨_, rfl⟩
    rw [hX] at hC hck HE
    have hz : ((X : Int) != 0) = true := by rw [bne_iff_ne]; omega
    have HX := Lib.hid hck
    clear hn hck hX
    go_enter Tryd.func12, Tryd.ntmps12
    go_wp2_with fail
    refine hC.out.mono ?_
    rintro e w1 ⟨rfl, q, rfl⟩
    clear hC
    go_wp2_with fail
    go_ret2
    exact BuildIs.err HE.out HX.out (below_d (Below.refl _ _) q) rfl
  obtain ⟨h2000, hpos, hokB, hbe⟩ := checkR_zero hck
  rw [hck] at hC
  have hBL := blk_length ls
  have HBA0 := Lib.hid (fun j (h : j < (blk ls).length) => blk_get h)
  have hchk := blk_checks hokB
  obtain ⟨bl, hbl⟩ : ∃ bl, blk ls = bl := ⟨_, rfl⟩
  have HBLE := Lib.hid hbl
  rw [hbl] at hBL hchk hbe
  have HFIN : Hid ((if buildE ls = 0 then fileB ls else []) = if 65535 < (tabB bl).length then [] else outs bl ++ frameOf 2 (tabB bl) ++ place4 (outs bl).length) := by
    unfold Hid
    rw [hbe]
    split
    · rfl
    · rw [if_pos rfl]; unfold fileB; rw [hbl]
  have HBE := Lib.hid hbe
  obtain ⟨N, hN⟩ : ∃ N, bl.length = N := ⟨_, rfl⟩
  rw [hN, hn] at hBL
  have HNN := Lib.hid hN
  have HBA : Hid (∀ j (h : j < bl.length), bl[j] = (ls.drop (8 * j)).take 8) := fun j h => by
    have := HBA0.out j (by rw [HBLE.out]; exact h)
    simp only [HBLE.out] at this
    exact this
  have HCH := Lib.hid hchk
  have hN1 : 1 ≤ N := by omega
  have hN250 : N ≤ 250 := by omega
  have HBL := Lib.hid hBL
  have hn2000 : n ≤ 2000 := by omega
  obtain ⟨adl, hA⟩ : ∃ adl, A = some adl := by obtain ⟨adl, _, _, hA, _⟩ := hS.out 0 hpos; exact ⟨adl, hA⟩
  subst hA
  have HALL : Hid (∀ k, ∀ o ∈ bl.take k, checkN o = 0) := fun k o ho => HCH.out o (List.mem_of_mem_take ho)
  clear hn hck hbl hN hBL hchk hbe h2000 hpos hokB
  go_enter Tryd.func12, Tryd.ntmps12
  go_wp2_with fail
  refine hC.out.mono ?_
  rintro e w1 ⟨rfl, q, rfl⟩
  clear hC
  go_wp2_with fail
  go_loopg [5, 6, 7, 8] N (fun g o x mv iv wr => ∃ k m : Nat, k + g = N ∧ Hid (m = 8 * k) ∧ iv = .int .i64 m ∧ mv = .int .i64 k ∧ OwnB wr w.heap.size o (outs (bl.take k)) ∧ OwnB wr w.heap.size x (idxs 0 (bl.take k)) ∧ Apart2 x o ∧ Below w.heap.size w wr)
  case atStart => exact ⟨0, 0, by omega, rfl, rfl, rfl, OwnB.nil _ _, by simpa [idxs] using OwnB.nil _ _, Apart2.nil _, below_d (Below.refl _ _) q⟩
  case round =>
    obtain ⟨k, m, hk, hm8, rfl, rfl, hownb, hownx, hap, hbr⟩ := hrel
    have hsr := hbr.size
    have hB25 := outs_len (bl.take k) (HALL.out k)
    have hX25 := idxs_len (bl.take k) 0 (HALL.out k) (by rw [List.length_take]; omega)
    have hkl2 : (bl.take k).length ≤ k := by rw [List.length_take]; omega
    obtain ⟨Bs, hBs⟩ : ∃ Bs, outs (bl.take k) = Bs := ⟨_, rfl⟩
    obtain ⟨Xs, hXs⟩ : ∃ Xs, idxs 0 (bl.take k) = Xs := ⟨_, rfl⟩
    rw [hBs] at hownb hB25
    rw [hXs] at hownx hX25
    obtain ⟨lb, hlb⟩ : ∃ lb, Bs.length = lb := ⟨_, rfl⟩
    obtain ⟨lx, hlx⟩ : ∃ lx, Xs.length = lx := ⟨_, rfl⟩
    rw [hlb] at hB25
    rw [hlx] at hX25
    have hlb9 : lb ≤ 825000 := by omega
    have hlx9 : lx ≤ 110000 := by omega
    have HBS := Lib.hid hBs
    have HXS := Lib.hid hXs
    have HLB := Lib.hid hlb
    have HLX := Lib.hid hlx
    clear hBs hXs hlb hlx hB25 hX25 hkl2
    by_cases hlt : m < n
    · have hkN : k < N := by have := hm8.out; have := HBL.out; omega
      have hkl : k < bl.length := by rw [HNN.out]; exact hkN
      have hblk := HBA.out k hkl
      have htk := take_snoc hkl
      have hck := HCH.out _ (List.getElem_mem hkl)
      obtain ⟨o, ho⟩ : ∃ o, bl[k] = o := ⟨_, rfl⟩
      rw [ho] at hblk htk hck
      obtain ⟨te, hte⟩ : ∃ te, min (m + 8) n = te := ⟨_, rfl⟩
      have hol : o.length = te - m := by rw [hblk, List.length_take, List.length_drop, HN.out, ← hm8.out]; omega
      obtain ⟨adx, Ax, cx, hadx, hadxb, hcx, hxc, hsx⟩ := hS.out m (by rw [HN.out]; exact hlt)
      injection hadx with hadx
      subst hadx
      have hhd : o.headD [] = ls[m]'(by rw [HN.out]; exact hlt) := by
        have h1 : 0 < o.length := by rw [hol]; omega
        rw [headD_get h1]
        have := block_get (ls := ls) (k := 8 * k) (i := 0) (by rw [← hblk]; exact h1)
        simp only [Nat.add_zero, ← hm8.out] at this
        simp only [hblk, ← hm8.out]
        exact this
      obtain ⟨x0, hx0⟩ : ∃ x0, ls[m]'(by rw [HN.out]; exact hlt) = x0 := ⟨_, rfl⟩
      rw [hx0] at hcx hxc hsx hhd
      obtain ⟨xl, hxL⟩ : ∃ xl, x0.length = xl := ⟨_, rfl⟩
      rw [hxL] at hcx hxc
      have hxl4 : xl ≤ 400 := by have h1 := head_len hck; rw [hhd, hxL] at h1; exact h1
      have hso : Sees2 wr wr.heap.size (some (adl.add m)) o := by
        have h1 := (((hS.below hbr).more hsr).cut (k := m) (cap := c) (by rw [HN.out]; exact hnc)).take (te - m)
        rw [if_neg (by omega)] at h1
        have e : o = (ls.drop m).take (te - m) := by
          rw [hblk, ← hm8.out]
          by_cases h : m + 8 ≤ n
          · rw [show te - m = 8 from by omega]
          · rw [List.take_of_length_le (by rw [List.length_drop, HN.out]; omega), List.take_of_length_le (by rw [List.length_drop, HN.out]; omega)]
        rw [e]
        exact h1
      have HOL := Lib.hid hol
      have hPl := packB_len2 hck
      have hPk := Lib.hid (RefPack_any (some (adl.add m)) (te - m) (c - m) o hol wr hso (by omega))
      unfold PackIs at hPk
      rw [hck] at hPk
      simp only [if_true] at hPk
      have hfl := frB_len hck
      have hmk : Hid (makeB 1 (packB o) = frB o) := by unfold Hid makeB makeErr frB; rw [if_pos (by rw [if_neg (by omega), if_neg (by omega)])]
      have hme : Hid (makeErr 1 (packB o).length = 0) := by unfold Hid makeErr; rw [if_neg (by omega), if_neg (by omega)]
      obtain ⟨PB, hPB⟩ : ∃ PB, packB o = PB := ⟨_, rfl⟩
      rw [hPB] at hPk hPl hmk hme
      obtain ⟨FB, hFB⟩ : ∃ FB, frB o = FB := ⟨_, rfl⟩
      rw [hFB] at hmk hfl
      have hBs2 : Hid (outs (bl.take (k + 1)) = Bs ++ FB) := by unfold Hid; rw [htk, outs_append, outs_one, HBS.out, hFB]
      have hXs2 : Hid (idxs 0 (bl.take (k + 1)) = Xs ++ venc lb ++ venc xl ++ x0) := by
        unfold Hid
        rw [htk, idxs_append, idxs_one, Nat.zero_add, HBS.out, hhd, hxL, HLB.out, HXS.out]
        simp only [List.append_assoc]
      obtain ⟨lp, hlp⟩ : ∃ lp, PB.length = lp := ⟨_, rfl⟩
      rw [hlp] at hPl hme
      have HLP := Lib.hid hlp
      have hvb := venc_le4 (u := lb) (by omega)
      have hvx := venc_le2 (u := xl) (by omega)
      have hBb := fun W => Lib.hid (refBytes_any lb (by unfold Is64; omega) W)
      have hBx := fun W => Lib.hid (refBytes_any xl (by unfold Is64; omega) W)
      obtain ⟨VB, hVB⟩ : ∃ V, venc lb = V := ⟨_, rfl⟩
      obtain ⟨VX, hVX⟩ : ∃ V, venc xl = V := ⟨_, rfl⟩
      rw [hVB] at hvb hXs2
      rw [hVX] at hvx hXs2
      simp only [hVB] at hBb
      simp only [hVX] at hBx
      have HXL := Lib.hid hxL
      have hcx0 := Lib.hid hcx
      have HTE := Lib.hid hte
      have HSX := Lib.hid hsx
      have hmc : (c = m) = False := by simp; omega
      have hw8 : IntKind.i64.wrap ((m : Int) + 8) = ((m + 8 : Nat) : Int) := by rw [IntKind.wrap_i64]; omega
      obtain ⟨m8, hm88⟩ : ∃ m8, m + 8 = m8 := ⟨_, rfl⟩
      rw [hm88] at hw8
      have HM8 := Lib.hid hm88
      have hmte : (m : Int) ≤ (te : Int) := by omega
      have hten : (te : Int) ≤ (n : Int) := by omega
      have htec : te ≤ c := by omega
      have hFl := Lib.hid hfl
      have hmN : (m : Int) < (n : Int) := by omega
      clear hol hck hblk htk ho hx0 hPB hFB hlp hVB hVX hxL hhd hte hso hsx hcx hxc hm88 hfl
      have hmin : min (m8 : Int) (n : Int) = (te : Int) := by have h1 := HTE.out; have h2 := HM8.out; omega
      go_wp2_with fail
      refine hPk.out.mono ?_
      rintro en wa ⟨vp, rfl, hownp, hba⟩
      have hsa := hba.size
      obtain ⟨Ap, cp, ep, -, -, hownp', hsp⟩ := hownp.open_
      rw [HLP.out] at ep
      subst ep
      have hMk := Lib.hid (refMake_any 1 Ap lp cp PB HLP.out wa hsp (by rw [HLP.out]; omega))
      rw [hmk.out, HLP.out, hme.out] at hMk
      clear hPk hownp hownp'
      go_wp2_with fail
      refine hMk.out.mono ?_
      rintro en wf ⟨vf, rfl, hownf, hbf⟩
      have hsf := hbf.size
      obtain ⟨Af, cf, rfl, -, -, -, -⟩ := hownf.open_
      have hbrf := hba.trans (hbf.mono hsa)
      have hob := hownb.below hbrf
      have hox := hownx.below hbrf
      have hapf : Apart2 u6 (.slice Af FB.length cf) := Apart2.new (hownx.below hba) hownf
      have hapb : Apart2 u5 (.slice Af FB.length cf) := Apart2.new (hownb.below hba) hownf
      have hbwf := hbr.trans (hbrf.mono hsr)
      obtain ⟨Ab, cb, eb, -, -, -, -⟩ := hob.open_
      rw [HLB.out] at eb
      subst eb
      clear hMk hownb hownx
      go_wp2_with fail
      refine (hBb wf).out.mono ?_
      rintro en w1 ⟨v1, rfl, ho1, hb1⟩
      obtain ⟨A1, c1, rfl, hc1, -, -, hs1⟩ := ho1.open_
      have hox1 := hox.below hb1
      have hob1 := hob.below hb1
      have hof1 := hownf.below hb1
      have hbw1 : Below w.heap.size w w1 := hbwf.trans (hb1.mono hbwf.size)
      have hz1 := hbw1.size
      have hzb1 := hb1.size
      clear hox hob hownf
      go_wp2_with (at_builtin; refine wpList_append_b rfl (.tmp 47) (.tmp 51) rfl w.heap.size u6 Xs (by rfl) hox1 w1.heap.size A1 VB.length c1 VB (by rfl) rfl hs1 (by have := HLX.out; omega) hz1 ?_; intro v2 w2 ho2 hon2; have hb2 := hon2.below hz1 hox1.block; have hz2 := hb2.size; have hbw2 := hbw1.trans hb2; have hcx2 : w2.cell? (adl.add m) = some (.slice Ax xl cx) := (hbw2.cell (by rw [add_block]; exact hadxb)).trans hcx0.out)
      obtain ⟨hob2, hap2⟩ := hob1.beside hon2 hap
      obtain ⟨hof2, hapf2⟩ := hof1.beside hon2 hapf
      refine (hBx w2).out.mono ?_
      rintro en w3 ⟨v3, rfl, ho3, hb3⟩
      obtain ⟨A3, c3, rfl, hc3, -, -, hs3⟩ := ho3.open_
      have hox3 := ho2.below hb3
      have hob3 := hob2.below hb3
      have hof3 := hof2.below hb3
      have hbw3 : Below w.heap.size w w3 := hbw2.trans (hb3.mono hbw2.size)
      have hz3 := hbw3.size
      have hzb3 := hb3.size
      have hcx3 : w3.cell? (adl.add m) = some (.slice Ax xl cx) := (hbw3.cell (by rw [add_block]; exact hadxb)).trans hcx0.out
      clear hcx2
      go_wp2_with (first
        | (at_builtin; refine wpList_append_b rfl (.tmp 53) (.tmp 60) rfl w.heap.size v2 (Xs ++ VB) (by rfl) hox3 w3.heap.size A3 VX.length c3 VX (by rfl) rfl hs3 (by have := HLX.out; rw [List.length_append]; omega) hz3 ?_; intro v4 w4 ho4 hon4; have hb4 := hon4.below hz3 hox3.block; have hz4 := hb4.size; have hbw4 := hbw3.trans hb4; have hcx4 : w4.cell? (adl.add m) = some (.slice Ax xl cx) := (hbw4.cell (by rw [add_block]; exact hadxb)).trans hcx0.out; have hsx4 : Sees w4 w4.heap.size Ax (bv x0) := (HSX.out.below hbw4).more hbw4.size; obtain ⟨hob4, hap4⟩ := hob3.beside hon4 hap2; obtain ⟨hof4, hapf4⟩ := hof3.beside hon4 hapf2)
        | (at_builtin; refine wpList_append_b rfl (.tmp 62) (.tmp 66) rfl w.heap.size v4 (Xs ++ VB ++ VX) (by rfl) ho4 w4.heap.size Ax xl cx x0 (by rfl) HXL.out hsx4 (by have := HLX.out; have := HXL.out; rw [List.length_append, List.length_append]; omega) (by omega) ?_; intro v5 w5 ho5 hon5; have hb5 := hon5.below (show w.heap.size ≤ w4.heap.size from by omega) ho4.block; have hz5 := hb5.size; have hbw5 := hbw4.trans hb5; obtain ⟨hob5, hap5⟩ := hob4.beside hon5 hap4; obtain ⟨hof5, hapf5⟩ := hof4.beside hon5 hapf4; obtain ⟨_, _, ef5, _, _, _, hsf5⟩ := hof5.open_; injection ef5 with ef6 ef7 ef8; subst ef6; clear ef7 ef8)
        | (at_builtin; refine wpList_append_b rfl (.tmp 68) (.tmp 69) rfl w.heap.size (.slice Ab lb cb) Bs (by rfl) hob5 w5.heap.size Af FB.length cf FB (by rfl) rfl hsf5 (by have := HLB.out; have := hFl.out; omega) (by omega) ?_; intro v6 w6 ho6 hon6; have hb6 := hon6.below (show w.heap.size ≤ w5.heap.size from by omega) hob5.block; have hbw6 := hbw5.trans hb6; obtain ⟨hox6, hap6⟩ := ho5.beside hon6 hap5.symm)
        | fail)
      go_roundg (N - (k + 1))
      case measure => omega
      case rel => exact ⟨k + 1, m8, by omega, (by have h1 := HM8.out; have h2 := hm8.out; show _ = _; omega), by go_num, by go_num, by rw [hBs2.out]; exact ho6, by rw [hXs2.out]; exact hox6, hap6.symm, hbw6⟩
    · have hkN : Hid (k = N) := by have h1 := hm8.out; have h2 := HBL.out; unfold Hid; omega
      have htk : bl.take k = bl := List.take_of_length_le (by rw [HNN.out, hkN.out]; exact Nat.le_refl _)
      rw [htk] at HBS HXS
      have hkn2 : k ≤ 250 := by have := hkN.out; omega
      have hvn := venc_le4 (u := k) (by omega)
      have htab : tabB bl = venc k ++ Xs := by unfold tabB; rw [HNN.out, ← hkN.out, HXS.out]
      obtain ⟨VN, hVN⟩ : ∃ V, venc k = V := ⟨_, rfl⟩
      have hBn := Lib.hid (refBytes_any k (by unfold Is64; omega) wr)
      rw [hVN] at hBn hvn htab
      obtain ⟨TB, hTB⟩ : ∃ T, tabB bl = T := ⟨_, rfl⟩
      rw [hTB] at htab
      have HTB := Lib.hid hTB
      have HTAB := Lib.hid htab
      obtain ⟨lt, hlt2⟩ : ∃ lt, TB.length = lt := ⟨_, rfl⟩
      have hlt9 : lt ≤ 120000 := by rw [← hlt2, htab, List.length_append, HLX.out]; omega
      have HLT := Lib.hid hlt2
      have hmN : ¬ (m : Int) < (n : Int) := by omega
      have hfin := HFIN.out
      have hbe := HBE.out
      rw [hTB, HLT.out] at hfin hbe
      rw [HBS.out, HLB.out] at hfin
      have HFIN2 := Lib.hid hfin
      have HBE2 := Lib.hid hbe
      obtain ⟨Ab, cb, eb, -, -, -, -⟩ := hownb.open_
      rw [HLB.out] at eb
      obtain ⟨Ax, cx, ex, -, -, -, hsx⟩ := hownx.open_
      rw [HLX.out] at ex
      subst eb
      subst ex
      have HSX := Lib.hid hsx
      clear htk hVN hTB htab hlt2 hfin hbe hsx
      go_wp2_with fail
      refine hBn.out.mono ?_
      rintro en w1 ⟨v1, rfl, ho1, hb1⟩
      have hz1 := hb1.size
      have hob1 := hownb.below hb1
      have hsx1 : Sees w1 w1.heap.size Ax (bv Xs) := (HSX.out.below hb1).more hz1
      have hbw1 : Below w.heap.size w w1 := hbr.trans (hb1.mono hsr)
      have hapb1 : Apart2 (.slice Ab lb cb) v1 := Apart2.new hownb ho1
      clear hBn hownb
      go_wp2_with (at_builtin; refine wpList_append_b rfl (.tmp 78) (.tmp 79) rfl wr.heap.size v1 VN (by rfl) ho1 w1.heap.size Ax lx cx Xs (by rfl) HLX.out hsx1 (by have := HLX.out; omega) hz1 ?_; intro v2 w2 ho2 hon2; rw [← HTAB.out] at ho2; have hb2 := hon2.below hz1 ho1.block; have hz2 := hb2.size; have hbw2 := hbw1.trans (hb2.mono hsr); obtain ⟨hob2, hap2⟩ := hob1.beside hon2 hapb1.symm; obtain ⟨At, ct, et, -, -, -, hst⟩ := ho2.open_; rw [HLT.out] at et; subst et)
      have hMk := Lib.hid (refMake_any 2 At lt ct TB HLT.out w2 hst (by rw [HLT.out]; omega))
      rw [HLT.out] at hMk
      by_cases hbig : 65535 < lt
      · have hmb : Hid (makeB 2 TB = []) := by unfold Hid makeB makeErr; rw [HLT.out, if_neg (by rw [if_neg (by omega), if_pos hbig]; omega)]
        have hme : Hid (makeErr 2 lt = 2) := by unfold Hid makeErr; rw [if_neg (by omega), if_pos hbig]
        have HE : Hid (buildE ls = 2) := by have := HBE2.out; rw [if_pos hbig] at this; exact this
        rw [hmb.out, hme.out] at hMk
        go_wp2_with fail
        refine hMk.out.mono ?_
        rintro en w3 ⟨v3, rfl, -, hb3⟩
        clear hMk
        go_wp2_with fail
        go_ret2
        exact BuildIs.err HE.out (by simp) (hbw2.trans (hb3.mono hbw2.size)) rfl
      · have hmb : Hid (makeB 2 TB = frameOf 2 TB) := by unfold Hid makeB makeErr; rw [HLT.out, if_pos (by rw [if_neg (by omega), if_neg hbig])]
        have hme : Hid (makeErr 2 lt = 0) := by unfold Hid makeErr; rw [if_neg (by omega), if_neg hbig]
        have HE : Hid (buildE ls = 0) := by have := HBE2.out; rw [if_neg hbig] at this; exact this
        rw [hmb.out, hme.out] at hMk
        have hfl := frameOf_len 2 TB
        rw [HLT.out] at hfl
        have hvl := venc_le4 (u := lt) (by omega)
        obtain ⟨F2, hF2⟩ : ∃ F, frameOf 2 TB = F := ⟨_, rfl⟩
        rw [hF2] at hMk hfl
        have HF2 := Lib.hid hF2
        have hf2 : F2.length ≤ 130000 := by omega
        have HFL := Lib.hid hf2
        have HBOB := Lib.hid hob2
        clear hF2 hfl hf2 hob2
        go_wp2_with fail
        refine hMk.out.mono ?_
        rintro en w3 ⟨v3, rfl, ho3, hb3⟩
        obtain ⟨A3, c3, rfl, hc3, -, -, hs3⟩ := ho3.open_
        have hob3 := HBOB.out.below hb3
        have hbw3 : Below w.heap.size w w3 := hbw2.trans (hb3.mono hbw2.size)
        have hz3 := hbw3.size
        clear hMk
        go_wp2_with (first
          | (at_builtin; refine wpList_append_b rfl (.tmp 88) (.tmp 89) rfl w.heap.size (.slice Ab lb cb) Bs (by rfl) hob3 w3.heap.size A3 F2.length c3 F2 (by rfl) rfl hs3 (by have := HLB.out; have := HFL.out; omega) hz3 ?_; intro v4 w4 ho4 hon4; have hb4 := hon4.below hz3 hob3.block; have hz4 := hb4.size; have hbw4 := hbw3.trans hb4)
          | (at_builtin; refine wpList_append_b rfl (.tmp 91) (.tmp 106) rfl w.heap.size v4 (Bs ++ F2) (by rfl) (ho4.alloc _) (w4.heap.size + 1) _ 4 _ (tail4 lb) (by rfl) rfl (sees_new w4 (tail4 lb) _ _ (tail4_arr lb _ _ _ _ (by omega) (by omega) (by omega) (by omega))) (by have := HLB.out; have := HFL.out; rw [List.length_append]; simp [tail4]; omega) (by simp; omega) ?_; intro v5 w5 ho5 hon5)
          | fail)
        have hb5 : Below w.heap.size w w5 := hbw4.trans (((Below.refl _ w4).alloc (by omega) _).trans (hon5.below (by simp; omega) ho4.block))
        go_ret2
        refine ⟨v5, by rw [HE.out]; rfl, ?_, hb5⟩
        rw [HFIN2.out, if_neg (by omega), HF2.out]
        exact ho5
end Go.Proofs.YtmdphaagbmipcaaDoor
