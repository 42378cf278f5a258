/-
  itempart.Build, walked.
-/
import Derived.Test.YtmdphaagbmipcaaDoorIpBuild
namespace Go.Proofs.YtmdphaagbmipcaaDoor
open Go.RowKit

def BuildIs (w : World) (ls : List Item) (e : Ending) (w' : World) : Prop :=
  ∃ v, e = .returned (.tuple #[v, .int .i64 (buildE ls : Nat)]) ∧ OwnB w' w.heap.size v (if buildE ls = 0 then fileB ls else []) ∧ Below w.heap.size w w'
theorem BuildIs.err {w w' : World} {ls : List Item} {k : Nat} (h : buildE ls = k) (hk : k ≠ 0) (hb : Below w.heap.size w w') {z : Int} (hz : z = (k : Int)) : BuildIs w ls (.returned (.tuple #[.slice none 0 0, .int .i64 z])) w' := by
  subst hz; subst h
  exact ⟨_, rfl, by rw [if_neg hk]; exact OwnB.nil _ _, hb⟩
theorem buildE_bad {ls : List Item} (h : ¬ 2000 < ls.length) (ho : okB ls = false) : buildE ls = 1 := by unfold buildE; rw [if_neg h, if_pos (.inr ho)]
theorem venc_app (l : List UInt8) (u : Nat) : l ++ venc u = l ++ venc u := rfl
theorem below_undrewN {B : Nat} {w w' : World} {q : Nat} (h : Below B (w.drewN q) w') : Below B w w' := ⟨h.os, h.tape, h.output, h.size, h.block⟩
theorem sees2_three (w : World) (A1 A2 A3 : Option Addr) (n1 n2 n3 c1 c2 c3 : Nat) (l1 l2 l3 : List UInt8) (h1 : l1.length = n1) (h2 : l2.length = n2) (h3 : l3.length = n3) (hc1 : n1 ≤ c1) (hc2 : n2 ≤ c2) (hc3 : n3 ≤ c3) (hs1 : Sees w w.heap.size A1 (bv l1)) (hs2 : Sees w w.heap.size A2 (bv l2)) (hs3 : Sees w w.heap.size A3 (bv l3)) (t : TypeId) :
    Sees2 (w.alloc (.cells #[.slice A1 n1 c1, .slice A2 n2 c2, .slice A3 n3 c3] t)) (w.alloc (.cells #[.slice A1 n1 c1, .slice A2 n2 c2, .slice A3 n3 c3] t)).heap.size (some ⟨w.heap.size, 0, none⟩) [l1, l2, l3] := by
  subst h1
  subst h2
  subst h3
  refine ⟨fun i hi => ?_⟩
  match i, hi with
  | 0, _ => exact ⟨_, A1, c1, rfl, by simp, by rw [Addr.add_lit, World.cell?_alloc_at _ _ _ _ rfl]; rfl, hc1, (hs1.alloc (Nat.le_refl _) _).more (by simp)⟩
  | 1, _ => exact ⟨_, A2, c2, rfl, by simp, by rw [Addr.add_lit, World.cell?_alloc_at _ _ _ _ rfl]; rfl, hc2, (hs2.alloc (Nat.le_refl _) _).more (by simp)⟩
  | 2, _ => exact ⟨_, A3, c3, rfl, by simp, by rw [Addr.add_lit, World.cell?_alloc_at _ _ _ _ rfl]; rfl, hc3, (hs3.alloc (Nat.le_refl _) _).more (by simp)⟩

set_option maxRecDepth 100000 in
set_option maxHeartbeats 3200000 in
theorem Build_any (A : Option Addr) (n c : Nat) (ls : List Item) (hn : ls.length = n) (hnc : n ≤ c) (w : World) (hS : Sees2 w w.heap.size A ls) (hH : Halves w) (hlen : n ≤ 1099511627776) :
    Calls Tryd.prog 11 #[.slice A n c] w (BuildIs w ls) := by
  have HN := Lib.hid hn
  by_cases hbig : 2000 < n
  · have hb' : (2000 : Int) < (n : Int) := by omega
    have HE : Hid (buildE ls = 2) := by unfold Hid buildE; rw [hn, if_pos hbig]
    clear hn
    go_enter Tryd.func11, Tryd.ntmps11
    go_wp2
    go_ret2
    exact BuildIs.err HE.out (by omega) (Below.refl _ _) rfl
  have hb' : (n : Int) ≤ 2000 := by omega
  by_cases h0 : n = 0
  · have h0' : ((n : Int) == 0) = true := by rw [beq_iff_eq]; omega
    have HE : Hid (buildE ls = 1) := by unfold Hid buildE; rw [hn, if_neg hbig, if_pos (.inl h0)]
    clear hn
    go_enter Tryd.func11, Tryd.ntmps11
    go_wp2
    go_ret2
    exact BuildIs.err HE.out (by omega) (Below.refl _ _) rfl
  have h0' : ((n : Int) == 0) = false := by rw [beq_eq_false_iff_ne]; omega
  have hSp := Lib.hid (Split_any A n c ls hn hnc w hS (by omega))
  have hBL := blk_length ls
  have hBA := Lib.hid (fun j (h : j < (blk ls).length) => blk_get h)
  obtain ⟨bl, hbl⟩ : ∃ bl, blk ls = bl := ⟨_, rfl⟩
  unfold SplitIs at hSp
  rw [hbl] at hSp hBL
  have HBL := Lib.hid hbl
  rw [hn] at hBL
  obtain ⟨N, hN⟩ : ∃ N, bl.length = N := ⟨_, rfl⟩
  rw [hN] at hBL
  have HNN := Lib.hid hN
  have hN1 : 1 ≤ N := by omega
  have hN250 : N ≤ 250 := by omega
  have HBLN := Lib.hid hBL
  clear hn hbl hN hBL
  go_enter Tryd.func11, Tryd.ntmps11
  go_wp2_with fail
  refine hSp.out.mono ?_
  rintro en w2 ⟨v2, rfl, hown2, hb2⟩
  clear hSp
  have hs2 := hb2.size
  have hH2 := hH.below hb2 hH.1
  obtain ⟨AB, cB, eB, hcB, hcells⟩ := hown2.open_
  rw [HNN.out] at eB hcB
  subst eB
  have hP := Lib.hid (Put_any none 0 0 [] rfl N (by unfold Is64; omega) w2 (Sees.nil _ _ _) (by simp))
  rw [List.nil_append] at hP
  go_wp2_with fail
  refine hP.out.mono ?_
  rintro en w3 ⟨v3, rfl, hown3, hon3⟩
  clear hP
  have hb3 := hon3.below_nil
  have hs3 := hb3.size
  have hown2' := Lib.hid hown2
  have hcells' := Lib.hid hcells
  clear hown2 hcells
  go_wp2_with fail
  go_loopg [4, 6, 30] N (fun g b x i wr => ∃ k : Nat, k + g = N ∧ i = .int .i64 k ∧ OwnB wr w2.heap.size b (outs (bl.take k)) ∧ OwnB wr w2.heap.size x (venc N ++ idxs 0 (bl.take k)) ∧ Apart2 b x ∧ Below w2.heap.size w2 wr ∧ OkTo ls (8 * k) ∧ Hid (∀ o ∈ bl.take k, checkN o = 0))
  case atStart => exact ⟨0, by omega, rfl, OwnB.nil _ _, by simpa [idxs] using hown3, Apart2.nil _, hb3, OkTo.zero _, by unfold Hid; simp⟩
  case round =>
    obtain ⟨k, hk, rfl, hownb, hownx, hap, hbr, hok, hall⟩ := hrel
    have hsr := hbr.size
    have hbw : Below w.heap.size w2 wr := hbr.mono hs2
    by_cases hlt : k < N
    · have hkl : k < bl.length := by rw [HNN.out]; exact hlt
      have hk8 : 8 * k < ls.length := by have h1 := HBLN.out; have h2 := HN.out; omega
      have hgetB : ∀ j (h : j < bl.length), bl[j] = (ls.drop (8 * j)).take 8 := fun j h => by
        have := hBA.out j (by rw [HBL.out]; exact h)
        simp only [HBL.out] at this
        exact this
      have hblk := hgetB k hkl
      obtain ⟨ado, Ao, co, hado, hadob, hco, hoc, hso⟩ := hcells'.out k hkl
      have hco2 := (hbr.cell (p := ado.add k) (by rw [add_block]; exact hadob)).trans hco
      have hsoW := hso.below hbw
      have htk := take_snoc hkl
      obtain ⟨o, ho⟩ : ∃ o, bl[k] = o := ⟨_, rfl⟩
      rw [ho] at hco2 hoc hsoW hblk htk
      have hol : 1 ≤ o.length := by rw [hblk, List.length_take, List.length_drop]; omega
      have hol8 : o.length ≤ 8 := by rw [hblk, List.length_take]; omega
      have hhd := headD_get hol
      have hx0 : o[0] = ls[8 * k] := by
        have := block_get (ls := ls) (k := 8 * k) (i := 0) (by rw [← hblk]; exact hol)
        simp only [← hblk] at this
        exact this
      obtain ⟨adx, Ax, cx, hadx, hadxb, hcx, hxc, hsx⟩ := hsoW.out 0 hol
      have hcx' : wr.cell? adx = some (.slice Ax (o[0]).length cx) := by simpa [Addr.add] using hcx
      have HX0 := Lib.hid hx0
      have HHD := Lib.hid hhd
      have HO := Lib.hid hblk
      have HTK := Lib.hid htk
      obtain ⟨x0, hxx⟩ : ∃ x0, o[0] = x0 := ⟨_, rfl⟩
      rw [hxx] at hcx' hxc hsx
      have HXX := Lib.hid hxx
      obtain ⟨ol, hoL⟩ : ∃ ol, o.length = ol := ⟨_, rfl⟩
      rw [hoL] at hco2 hoc hol hol8
      have HOL := Lib.hid hoL
      obtain ⟨xl, hxL⟩ : ∃ xl, x0.length = xl := ⟨_, rfl⟩
      rw [hxL] at hcx' hxc
      have HXL := Lib.hid hxL
      clear hx0 hhd hblk htk ho hxx hoL hxL hcx hco hso
      subst hado
      subst hadx
      go_upto_region 11 with fail
      go_cut [50] (fun t wx => ∃ bo, t = .bool bo ∧ (bo = true → okB ls = false) ∧ (bo = false → ∀ (_ : 0 < k), ahead (ls[8 * k - 1]'(by omega)) ls[8 * k] = true) ∧ ∃ q, wx = wr.drewN q)
      case first =>
        by_cases hk0 : k = 0
        · subst hk0
          go_quiet (fail)
          go_wp2_with fail
          go_meet
          exact ⟨false, rfl, fun h => absurd h (by simp), fun _ h => absurd h (by omega), _, rfl⟩
        · have ik : (0 : Int) < (k : Int) := by omega
          obtain ⟨j, rfl⟩ : ∃ j, k = j + 1 := ⟨k - 1, by omega⟩
          have hjw : IntKind.i64.wrap (j : Int) = (j : Int) := by rw [IntKind.wrap_i64]; omega
          have hjN : (j : Int) < (N : Int) := by omega
          have hj0 : (0 : Int) ≤ (j : Int) := by omega
          obtain ⟨ado', Ao', co', hado', hadob', hco', hoc', hso'⟩ := hcells'.out j (by omega)
          obtain rfl := Option.some.inj hado'
          have hco2' := (hbr.cell (p := ado.add j) (by rw [add_block]; exact hadob')).trans hco'
          have hblk' := hgetB j (by omega)
          obtain ⟨o', ho'⟩ : ∃ o', bl[j]'(by omega) = o' := ⟨_, rfl⟩
          rw [ho'] at hco2' hoc' hso' hblk'
          have hol' : o'.length = 8 := by rw [hblk', List.length_take, List.length_drop]; omega
          have hx7 : o'[7] = ls[8 * (j + 1) - 1]'(by omega) := by
            have := block_get (ls := ls) (k := 8 * j) (i := 7) (by rw [← hblk']; omega)
            simp only [← hblk'] at this
            exact this
          obtain ⟨ady, Ay, cy, hady, hadyb, hcy, hyc, hsy⟩ := (hso'.below hbw).out 7 (by omega)
          obtain rfl := hady
          rw [show ady.add 7 = ⟨ady.block, ady.off + 7, none⟩ from by unfold Addr.add; rw [if_neg (by omega)]] at hcy
          have HX7 := Lib.hid hx7
          have HX0' : Hid (x0 = ls[8 * (j + 1)]) := HXX.out.symm.trans HX0.out
          obtain ⟨y, hy⟩ : ∃ y, o'[7] = y := ⟨_, rfl⟩
          rw [hy] at hcy hyc hsy
          have HY := Lib.hid hy
          rw [hol'] at hco2' hoc'
          have hCmp := fun q => Lib.hid (Compare_any Ay Ax y.length xl cy cx y x0 rfl HXL.out (wr.drewN q) ((hsy.drewN q).more (by have := hbw.size; show _ ≤ wr.heap.size; omega)) ((hsx.drewN q).more (by have := hbw.size; show _ ≤ wr.heap.size; omega)))
          have hcl := cmp_lt y x0
          obtain ⟨z, hz⟩ : ∃ z, Lib.compareBytes y x0 = z := ⟨_, rfl⟩
          rw [hz] at hcl
          simp only [hz] at hCmp
          have hah : ahead (ls[8 * (j + 1) - 1]'(by omega)) (ls[8 * (j + 1)]) = decide (z < 0) := by
            rw [← HX7.out, ← HX0'.out, HY.out, ahead_eq]
            exact decide_eq_decide.2 hcl.symm
          have HAH := Lib.hid hah
          clear hx7 hy hz hcl hah hgetB
          by_cases hz : z < 0
          · go_quiet ((refine (hCmp _).out.mono ?_; rintro e w1 ⟨rfl, rfl⟩; exact ⟨rfl, _, rfl⟩))
            go_wp2_with fail
            go_meet
            exact ⟨false, by first | rfl | (rw [decide_eq_false (show ¬ 0 ≤ z by omega)]), fun h => absurd h (by simp), fun _ _ => by rw [HAH.out]; exact decide_eq_true (by omega), _, rfl⟩
          · have hz' : 0 ≤ z := by omega
            go_quiet ((refine (hCmp _).out.mono ?_; rintro e w1 ⟨rfl, rfl⟩; exact ⟨rfl, _, rfl⟩))
            go_wp2_with fail
            go_meet
            exact ⟨true, by first | rfl | (rw [decide_eq_true (show 0 ≤ z by omega)]), fun _ => not_ok_ahead (i := 8 * (j + 1) - 1) (by omega) (by have := HAH.out; simp only [show 8 * (j + 1) - 1 + 1 = 8 * (j + 1) from by omega]; rw [this]; exact decide_eq_false (by omega)), fun h => absurd h (by simp), _, rfl⟩
      case rest =>
        obtain ⟨bo, rfl, hbt, hbf, q, rfl⟩ := hcut
        cases bo with
        | true =>
          have HE := Lib.hid (buildE_bad (by have := HN.out; omega) (hbt rfl))
          clear hbt hbf
          go_wp2_with fail
          go_ret2
          exact BuildIs.err HE.out (by omega) (hb2.trans (below_d hbw q)) rfl
        | false =>
        have hbf' := hbf rfl
        clear hbt hbf
        have hPk := Lib.hid (Pack_any (some adx) ol co o HOL.out (wr.drewN q) ((hsoW.drew q).more (by have := hbw.size; show _ ≤ wr.heap.size; omega)) (by omega))
        by_cases hck : checkN o = 0
        · have hok2 := hok.step hk8 hbf' (by rw [← HO.out]; exact hck)
          have hPl := packB_len2 hck
          unfold PackIs at hPk
          rw [hck] at hPk
          simp only [if_true] at hPk
          have hB25 := outs_len (bl.take k) hall.out
          have hX25 := idxs_len (bl.take k) 0 hall.out (by rw [List.length_take]; omega)
          have hkl2 : (bl.take k).length = k := by rw [List.length_take]; omega
          have hvN := venc_le4 (u := N) (by omega)
          rw [hkl2] at hB25 hX25
          have hall2 : Hid (∀ o ∈ bl.take (k + 1), checkN o = 0) := by
            unfold Hid
            rw [HTK.out]
            intro z hz
            rcases List.mem_append.1 hz with h | h
            · exact hall.out z h
            · rw [List.mem_singleton] at h; rw [h]; exact hck
          obtain ⟨Bs, hBs⟩ : ∃ Bs, outs (bl.take k) = Bs := ⟨_, rfl⟩
          obtain ⟨Xs, hXs⟩ : ∃ Xs, venc N ++ idxs 0 (bl.take k) = Xs := ⟨_, rfl⟩
          have hBs2 : Hid (outs (bl.take (k + 1)) = Bs ++ frB o) := by unfold Hid; rw [HTK.out, outs_append, outs_one, hBs]
          have hXs2 : Hid (venc N ++ idxs 0 (bl.take (k + 1)) = Xs ++ venc Bs.length ++ venc xl ++ x0) := by
            unfold Hid
            rw [HTK.out, idxs_append, idxs_one, Nat.zero_add, hBs, HHD.out, HXX.out, HXL.out, ← hXs]
            simp only [List.append_assoc]
          have hXl : Xs.length ≤ 200000 := by rw [← hXs, List.length_append]; omega
          rw [hBs] at hB25 hownb
          rw [hXs] at hownx
          have hmk : Hid (makeB 1 (packB o) = frB o) := by unfold Hid makeB makeErr frB; rw [if_pos (by rw [if_neg (by omega), if_neg (by omega)])]
          have hme : Hid (makeErr 1 (packB o).length = 0) := by unfold Hid makeErr; rw [if_neg (by omega), if_neg (by omega)]
          obtain ⟨PB, hPB⟩ : ∃ PB, packB o = PB := ⟨_, rfl⟩
          rw [hPB] at hPk hPl hmk hme
          have hfl := frB_len hck
          obtain ⟨FB, hFB⟩ : ∃ FB, frB o = FB := ⟨_, rfl⟩
          rw [hFB] at hmk hfl hBs2
          obtain ⟨lb, hlb⟩ : ∃ lb, Bs.length = lb := ⟨_, rfl⟩
          obtain ⟨lx, hlx⟩ : ∃ lx, Xs.length = lx := ⟨_, rfl⟩
          rw [hlb] at hB25 hXs2
          rw [hlx] at hXl
          have hxl4 : xl ≤ 400 := by have h1 := head_len hck; rw [HHD.out, HXX.out, HXL.out] at h1; exact h1
          have HLB := Lib.hid hlb
          have HLX := Lib.hid hlx
          have HOK2 := Lib.hid hok2
          have hvb := venc_le4 (u := lb) (by omega)
          have hvx := venc_le2 (u := xl) (by omega)
          clear hBs hXs hX25 hvN hPB hFB hlb hlx hok2 hck hok hbf' hkl2
          go_wp2_with fail
          refine hPk.out.mono ?_
          rintro en wa ⟨vp, rfl, hownp, hba0⟩
          clear hPk
          have hba : Below wr.heap.size wr wa := below_undrewN hba0
          have hsa := hba.size
          have hownb1 := hownb.below hba
          have hownx1 := hownx.below hba
          obtain ⟨AX, cX, eX, -, -, -, hsX⟩ := hownx1.open_
          rw [HLX.out] at eX
          obtain ⟨A4, c4, e4, -, -, -, hs4⟩ := hownb1.open_
          rw [HLB.out] at e4
          obtain ⟨lp, hlp⟩ : ∃ lp, PB.length = lp := ⟨_, rfl⟩
          obtain ⟨Ap, cp, ep, -, -, -, hsp⟩ := hownp.open_
          rw [hlp] at ep hPl hme
          have HLP := Lib.hid hlp
          subst eX
          subst e4
          subst ep
          have hcxa : wa.cell? adx = some (.slice Ax xl cx) := (hba.cell (by have := hbw.size; omega)).trans hcx'
          have hpx := Lib.hid (Put_any AX lx cX Xs HLX.out lb (by unfold Is64; omega) wa.drew (show Sees wa.drew wa.heap.size AX (bv Xs) from hsX.drew) (by rw [HLX.out]; omega))
          have hol0 : 0 < ol := hol
          have hw1 : IntKind.u64.wrap (lb : Int) = (lb : Int) := by rw [IntKind.wrap_u64]; omega
          have hw2 : IntKind.u64.wrap (xl : Int) = (xl : Int) := by rw [IntKind.wrap_u64]; omega
          have hadxa : adx.block < wa.heap.size := by have := hbw.size; omega
          clear hlp hownp hownx1 hownx hownb
          go_wp2_with fail
          refine wp_region_noPanic ?_
          refine wp_region_held_drew (S := fun w' => w'.cell? adx = some (.slice Ax xl cx)) (by kernel_rfl) ?_ (fun hHeld => ?_)
          · (exact hcxa)
          refine wpAnyH_take (i := 0) (oi := { dst := some 59, op := Op.move (Operand.tmp 6), type := 23, pos := "itempart.go:73", after := #[], guard := none }) (v := ?_) rfl (by kernel_rfl) (by kernel_rfl) (by kernel_rfl) (fun _ _ _ h => h) (Or.inl ⟨by rfl, ?_⟩) hHeld ?_
          rotate_left
          · (intro w' hSw; (try dsimp only at hSw); go_split_ands; go_simp; first | done | with_reducible rfl)
          try simp only [Act.put, List.setIfInBounds_toArray, List.set_cons_zero, List.set_cons_succ]
          refine wpAnyH_take (i := 1) (oi := { dst := some 60, op := Op.move (Operand.tmp 4), type := 23, pos := "itempart.go:73", after := #[], guard := none }) (v := ?_) rfl (by kernel_rfl) (by kernel_rfl) (by kernel_rfl) (fun _ _ _ h => h) (Or.inl ⟨by rfl, ?_⟩) hHeld ?_
          rotate_left
          · (intro w' hSw; (try dsimp only at hSw); go_split_ands; go_simp; first | done | with_reducible rfl)
          try simp only [Act.put, List.setIfInBounds_toArray, List.set_cons_zero, List.set_cons_succ]
          refine wpAnyH_take (i := 2) (oi := { dst := some 61, op := Op.call { callee := Callee.builtin Builtin.len, args := #[Operand.tmp 60], argTypes := #[23] }, type := 3, pos := "itempart.go:73", after := #[{ on := 1, ground := Ground.data }], guard := none }) (v := ?_) rfl (by kernel_rfl) (by kernel_rfl) (by kernel_rfl) (fun _ _ _ h => h) (Or.inl ⟨by rfl, ?_⟩) hHeld ?_
          rotate_left
          · (intro w' hSw; (try dsimp only at hSw); go_split_ands; go_simp; first | done | with_reducible rfl)
          try simp only [Act.put, List.setIfInBounds_toArray, List.set_cons_zero, List.set_cons_succ]
          refine wpAnyH_take (i := 3) (oi := { dst := some 62, op := Op.convert 3 50 (Operand.tmp 61), type := 50, pos := "itempart.go:73", after := #[{ on := 2, ground := Ground.data }], guard := none }) (v := ?_) rfl (by kernel_rfl) (by kernel_rfl) (by kernel_rfl) (fun _ _ _ h => h) (Or.inl ⟨by rfl, ?_⟩) hHeld ?_
          rotate_left
          · (intro w' hSw; (try dsimp only at hSw); go_split_ands; go_simp; first | done | with_reducible rfl)
          try simp only [Act.put, List.setIfInBounds_toArray, List.set_cons_zero, List.set_cons_succ]
          refine wpAnyH_take (i := 5) (oi := { dst := some 64, op := Op.move (Operand.tmp 8), type := 22, pos := "itempart.go:73", after := #[], guard := none }) (v := ?_) rfl (by kernel_rfl) (by kernel_rfl) (by kernel_rfl) (fun _ _ _ h => h) (Or.inl ⟨by rfl, ?_⟩) hHeld ?_
          rotate_left
          · (intro w' hSw; (try dsimp only at hSw); go_split_ands; go_simp; first | done | with_reducible rfl)
          try simp only [Act.put, List.setIfInBounds_toArray, List.set_cons_zero, List.set_cons_succ]
          refine wpAnyH_take (i := 6) (oi := { dst := some 65, op := Op.indexAddr 22 (Operand.tmp 64) (Operand.const (Value.int IntKind.i64 0)), type := 0, pos := "itempart.go:73", after := #[{ on := 5, ground := Ground.data }], guard := none }) (v := ?_) rfl (by kernel_rfl) (by kernel_rfl) (by kernel_rfl) (fun _ _ _ h => h) (Or.inl ⟨by rfl, ?_⟩) hHeld ?_
          rotate_left
          · (intro w' hSw; (try dsimp only at hSw); go_split_ands; go_simp; first | done | with_reducible rfl)
          try simp only [Act.put, List.setIfInBounds_toArray, List.set_cons_zero, List.set_cons_succ]
          refine wpAnyH_take (i := 7) (oi := { dst := some 66, op := Op.load 23 (Operand.tmp 65), type := 23, pos := "itempart.go:73", after := #[{ on := 6, ground := Ground.data }], guard := none }) (v := ?_) rfl (by kernel_rfl) (by kernel_rfl) (by kernel_rfl) (fun _ _ _ h => h) (Or.inl ⟨by rfl, ?_⟩) hHeld ?_
          rotate_left
          · (intro w' hSw; (try dsimp only at hSw); go_split_ands; go_simp; first | done | with_reducible rfl)
          try simp only [Act.put, List.setIfInBounds_toArray, List.set_cons_zero, List.set_cons_succ]
          refine wpAnyH_take (i := 8) (oi := { dst := some 67, op := Op.call { callee := Callee.builtin Builtin.len, args := #[Operand.tmp 66], argTypes := #[23] }, type := 3, pos := "itempart.go:73", after := #[{ on := 7, ground := Ground.data }], guard := none }) (v := ?_) rfl (by kernel_rfl) (by kernel_rfl) (by kernel_rfl) (fun _ _ _ h => h) (Or.inl ⟨by rfl, ?_⟩) hHeld ?_
          rotate_left
          · (intro w' hSw; (try dsimp only at hSw); go_split_ands; go_simp; first | done | with_reducible rfl)
          try simp only [Act.put, List.setIfInBounds_toArray, List.set_cons_zero, List.set_cons_succ]
          refine wpAnyH_take (i := 9) (oi := { dst := some 68, op := Op.convert 3 50 (Operand.tmp 67), type := 50, pos := "itempart.go:73", after := #[{ on := 8, ground := Ground.data }], guard := none }) (v := ?_) rfl (by kernel_rfl) (by kernel_rfl) (by kernel_rfl) (fun _ _ _ h => h) (Or.inl ⟨by rfl, ?_⟩) hHeld ?_
          rotate_left
          · (intro w' hSw; (try dsimp only at hSw); go_split_ands; go_simp; first | done | with_reducible rfl)
          try simp only [Act.put, List.setIfInBounds_toArray, List.set_cons_zero, List.set_cons_succ]
          refine wpAnyH_ready (rs := [4]) (by kernel_rfl) (by simp) ?_
          refine AllReadyH.cons (o := { dst := some 63, op := Op.call { callee := Callee.value (Operand.func 27), args := #[Operand.tmp 59, Operand.tmp 62], argTypes := #[23, 50] }, type := 23, pos := "itempart.go:73", after := #[{ on := 0, ground := Ground.data }, { on := 3, ground := Ground.data }], guard := none }) rfl (fun K hK => ?_) AllReadyH.nil
          go_simp
          refine hpx.out.mono ?_
          rintro en wb ⟨v5, rfl, hown5, hon5⟩
          have hbb : Below wa.heap.size wa wb := below_undrew hon5.below_nil
          obtain ⟨A5, c5, e5, -, -, -, hs5⟩ := hown5.open_
          have hl5 : (Xs ++ venc lb).length = lx + (venc lb).length := by rw [List.length_append, HLX.out]
          rw [hl5] at e5
          obtain ⟨l5, hl5'⟩ : ∃ l5, lx + (venc lb).length = l5 := ⟨_, rfl⟩
          rw [hl5'] at e5 hl5
          subst e5
          have hpx2 := Lib.hid (Put_any A5 l5 c5 (Xs ++ venc lb) hl5 xl (by unfold Is64; omega) wb hs5 (by rw [hl5]; omega))
          have hl5b : l5 ≤ 210000 := by omega
          clear hl5 hl5'
          go_wp2_with fail
          refine hK.out _ _ ?_ ?_
          · (exact (hbb.cell hadxa).trans hcxa)
          clear hK K hHeld; intro hHeld
          try simp only [Act.put, List.setIfInBounds_toArray, List.set_cons_zero, List.set_cons_succ]
          refine wpAnyH_ready (rs := [10]) (by kernel_rfl) (by simp) ?_
          refine AllReadyH.cons (o := { dst := some 69, op := Op.call { callee := Callee.value (Operand.func 27), args := #[Operand.tmp 63, Operand.tmp 68], argTypes := #[23, 50] }, type := 23, pos := "itempart.go:73", after := #[{ on := 4, ground := Ground.data }, { on := 9, ground := Ground.data }, { on := 4, ground := Ground.chain }], guard := none }) rfl (fun K hK => ?_) AllReadyH.nil
          go_simp
          refine hpx2.out.mono ?_
          rintro en wd ⟨v6, rfl, hown6, hon6⟩
          have hbd : Below wb.heap.size wb wd := hon6.below_nil
          go_wp2_with fail
          refine hK.out _ _ ?_ ?_
          · (exact ((hbb.trans (hbd.mono hbb.size)).cell hadxa).trans hcxa)
          clear hK K hHeld; intro hHeld
          try simp only [Act.put, List.setIfInBounds_toArray, List.set_cons_zero, List.set_cons_succ]
          refine wpAnyH_take (i := 11) (oi := { dst := some 6, op := Op.assign (Operand.tmp 69), type := 23, pos := "itempart.go:73", after := #[{ on := 10, ground := Ground.data }, { on := 10, ground := Ground.chain }, { on := 0, ground := Ground.phase }, { on := 1, ground := Ground.phase }, { on := 2, ground := Ground.phase }, { on := 3, ground := Ground.phase }, { on := 4, ground := Ground.phase }, { on := 5, ground := Ground.phase }, { on := 6, ground := Ground.phase }, { on := 7, ground := Ground.phase }, { on := 8, ground := Ground.phase }, { on := 9, ground := Ground.phase }, { on := 10, ground := Ground.phase }], guard := none }) (v := ?_) rfl (by kernel_rfl) (by kernel_rfl) (by kernel_rfl) (fun _ _ _ h => h) (Or.inl ⟨by rfl, ?_⟩) hHeld ?_
          rotate_left
          · (intro w' hSw; (try dsimp only at hSw); go_split_ands; go_simp; first | done | with_reducible rfl)
          try simp only [Act.put, List.setIfInBounds_toArray, List.set_cons_zero, List.set_cons_succ]
          refine wpAnyH_done (by kernel_rfl) ?_ _
          refine NoPanic.normal ?_
          have hbad : Below wa.heap.size wa wd := hbb.trans (hbd.mono hbb.size)
          have hbrd : Below wr.heap.size wr wd := hba.trans (hbad.mono hsa)
          have hsd := hbad.size
          have hcxd : wd.cell? adx = some (.slice Ax xl cx) := (hbad.cell hadxa).trans hcxa
          have hown6' := hown6.base_le (show w2.heap.size ≤ wb.heap.size from by have := hbb.size; omega)
          have hownb6 := hownb1.below hbad
          have hap6 : Apart2 v6 (.slice A4 lb c4) := (Apart2.new (hownb1.below hbb) hown6).symm
          have hl6 : (Xs ++ venc lb ++ venc xl).length ≤ 220000 := by rw [List.length_append, List.length_append, HLX.out]; omega
          have HL6 := Lib.hid hl6
          have hsxd : Sees wd wd.heap.size Ax (bv x0) := ((hsx.below (hbrd.mono (by have := hbw.size; omega))).more (by have := hbw.size; omega))
          clear hl6 hpx
          go_wp2_with (at_builtin; refine wpList_append_b rfl (.tmp 70) (.tmp 73) rfl w2.heap.size v6 _ (by rfl) hown6' wd.heap.size Ax xl cx x0 (by rfl) HXL.out hsxd (by have := HL6.out; have := HXL.out; omega) (by omega) ?_; intro v7 we hown7 hon7; have hbe := hon7.below (show w2.heap.size ≤ wd.heap.size from by omega) hown6'.block)
          obtain ⟨hownb7, hap7⟩ := hownb6.beside hon7 hap6
          have hse := hon7.size
          have hb2e : Below w2.heap.size w2 we := hbr.trans ((hbrd.mono hsr).trans hbe)
          have hspe : Sees we we.heap.size Ap (bv PB) := (hsp.below (hbad.trans (hon7.below hsd (fun k hk => Nat.le_trans hbb.size (hown6.block k hk))))).more (by omega)
          have hMk := Lib.hid (Make_any 1 Ap lp cp PB HLP.out we hspe (hH2.below hb2e (by have := hH.1; omega)) (by have := HLP.out; omega))
          rw [hmk.out, HLP.out, hme.out] at hMk
          go_wp2_with fail
          refine hMk.out.mono ?_
          rintro en wf ⟨v8, rfl, hown8, hbf⟩
          clear hMk
          have hsf := hbf.size
          obtain ⟨A8, c8, rfl, -, -, -, hs8⟩ := hown8.open_
          have hownb8 := hownb7.below hbf
          have hown7f := hown7.below hbf
          have HFL := Lib.hid hfl
          have hap8 : Apart2 (.slice A4 lb c4) v7 := hap7.symm
          go_wp2_with (at_builtin; refine wpList_append_b rfl (.tmp 80) (.tmp 81) rfl w2.heap.size (.slice A4 lb c4) Bs (by rfl) hownb8 wf.heap.size A8 _ c8 FB (by rfl) rfl hs8 (by have := HLB.out; have := HFL.out; omega) (by omega) ?_; intro v9 wg hown9 hon9; have hbg := hon9.below (show w2.heap.size ≤ wf.heap.size from by omega) hownb8.block)
          obtain ⟨hown7g, hap9⟩ := hown7f.beside hon9 hap8
          have hb2g : Below w2.heap.size w2 wg := hb2e.trans ((hbf.mono (by omega)).trans hbg)
          go_roundg (N - (k + 1))
          case measure => omega
          case rel => exact ⟨k + 1, by omega, by go_num, by rw [hBs2.out]; exact hown9, by rw [hXs2.out]; exact hown7g, hap9, hb2g, HOK2.out, hall2⟩
        · have hno := not_ok_block hk8 (by rw [← HO.out]; exact hck)
          rw [← HO.out] at hno
          unfold PackIs at hPk
          rw [hno.2] at hPk
          have HE := Lib.hid (buildE_bad (by have := HN.out; omega) hno.1)
          clear hno hck hbf'
          go_wp2_with fail
          refine hPk.out.mono ?_
          rintro en wa ⟨va, rfl, -, hba⟩
          go_wp2_with fail
          go_ret2
          exact BuildIs.err HE.out (by omega) (hb2.trans (hbw.trans ((hba.mono (by have := hbw.size; show _ ≤ wr.heap.size; omega) : Below w.heap.size (wr.drewN q) wa) |> fun h => below_undrewN h))) rfl
    · have hkN : k = N := by omega
      subst hkN
      have htk : bl.take k = bl := List.take_of_length_le (by rw [HNN.out]; exact Nat.le_refl _)
      have hall' := hall.out
      rw [htk] at hownb hownx hall'
      have hoko : okB ls = true := hok.ok (by have h1 := HBLN.out; have h2 := HN.out; omega)
      have hB25 := outs_len bl hall'
      have hX25 := idxs_len bl 0 hall' (by rw [HNN.out]; omega)
      rw [HNN.out] at hB25 hX25
      have hvN := venc_le4 (u := k) (by omega)
      have htab : Hid (tabB (blk ls) = venc k ++ idxs 0 bl) := by unfold Hid tabB; rw [HBL.out, HNN.out]
      obtain ⟨X, hX⟩ : ∃ X, venc k ++ idxs 0 bl = X := ⟨_, rfl⟩
      have hXl : X.length ≤ 110000 := by rw [← hX, List.length_append]; omega
      rw [hX] at hownx htab
      obtain ⟨Bs, hBs⟩ : ∃ Bs, outs bl = Bs := ⟨_, rfl⟩
      rw [hBs] at hownb hB25
      have HBS : Hid (outs (blk ls) = Bs) := by unfold Hid; rw [HBL.out, hBs]
      have hE : Hid (buildE ls = if 65535 < X.length then 2 else 0) := by
        unfold Hid buildE
        rw [if_neg (by rw [HN.out]; exact hbig), if_neg (by rw [HN.out, hoko]; rintro (h | h); exact h0 h; exact absurd h (by simp)), htab.out]
      have hF : Hid (fileB ls = Bs ++ frameOf 2 X ++ place4 Bs.length) := by unfold Hid fileB; rw [HBS.out, htab.out]
      obtain ⟨lx, hlx⟩ : ∃ lx, X.length = lx := ⟨_, rfl⟩
      obtain ⟨lb, hlb⟩ : ∃ lb, Bs.length = lb := ⟨_, rfl⟩
      rw [hlb] at hB25 hF
      rw [hlx] at hE hXl
      obtain ⟨AX, cX, eX, -, -, -, hsX⟩ := hownx.open_
      obtain ⟨A4, c4, e4, hc4, -, -, hs4⟩ := hownb.open_
      rw [hlx] at eX
      rw [hlb] at e4 hc4
      subst eX
      subst e4
      have hMk := Lib.hid (Make_any 2 AX lx cX X hlx wr hsX (hH2.below hbr (by have := hH.1; omega)) (by omega))
      rw [hlx] at hMk
      have HLX := Lib.hid hlx
      have HLB := Lib.hid hlb
      have hbwr : Below w.heap.size w wr := hb2.trans hbw
      clear htk hX hBs hlx hlb hX25 hvN hoko hok
      by_cases h6 : 65535 < lx
      · have hme : makeErr 2 lx = 2 := by unfold makeErr; rw [if_neg (by omega), if_pos h6]
        rw [hme] at hMk
        have HE : Hid (buildE ls = 2) := by unfold Hid; rw [hE.out, if_pos h6]
        go_wp2_with fail
        refine hMk.out.mono ?_
        rintro en wa ⟨va, rfl, -, hba⟩
        go_wp2_with fail
        go_ret2
        exact BuildIs.err HE.out (by omega) (hbwr.trans (hba.mono hbwr.size)) rfl
      · have hme : makeErr 2 lx = 0 := by unfold makeErr; rw [if_neg (by omega), if_neg h6]
        have hmb : makeB 2 X = frameOf 2 X := by unfold makeB; rw [HLX.out, hme, if_pos rfl]
        have hfl := frameOf_len 2 X
        have hvl := venc_le4 (u := lx) (by omega)
        rw [HLX.out] at hfl
        rw [hme, hmb] at hMk
        have HE : Hid (buildE ls = 0) := by unfold Hid; rw [hE.out, if_neg h6]
        obtain ⟨FX, hFX⟩ : ∃ FX, frameOf 2 X = FX := ⟨_, rfl⟩
        rw [hFX] at hMk hF hfl
        clear hme hmb hFX
        go_wp2_with fail
        refine hMk.out.mono ?_
        rintro en wa ⟨va, rfl, howna, hba⟩
        clear hMk
        have hsa := hba.size
        obtain ⟨lf, hlf⟩ : ∃ lf, FX.length = lf := ⟨_, rfl⟩
        obtain ⟨Aa, ca, ea, hca, -, -, hsFa⟩ := howna.open_
        rw [hlf] at ea hca hfl
        subst ea
        have HLF := Lib.hid hlf
        have hfl2 : lf ≤ 200000 := by omega
        clear hlf hfl
        have hPl := Lib.hid (place_any lb (by omega) wa)
        go_wp2_with fail
        refine hPl.out.mono ?_
        rintro en wb ⟨vb, rfl, hownp, hbb⟩
        clear hPl
        have hsb := hbb.size
        obtain ⟨Ap, cp, ep, hcp, -, -, hsp⟩ := hownp.open_
        have hp4 : (place4 lb).length = 4 := by simp [place4, tail4]
        rw [hp4] at ep hcp
        subst ep
        have hbrb : Below wr.heap.size wr wb := hba.trans (hbb.mono hsa)
        obtain ⟨PL, hPL⟩ : ∃ PL, place4 lb = PL := ⟨_, rfl⟩
        rw [hPL] at hsp hF hp4
        have h3 := sees2_three wb A4 Aa Ap lb lf 4 c4 ca cp Bs FX PL HLB.out HLF.out hp4 hc4 hca hcp ((hs4.below hbrb).more hbrb.size) ((hsFa.below hbb).more hsb) hsp 23
        have hall3 : ∀ i (hi : i < [Bs, FX, PL].length), ([Bs, FX, PL][i]).length ≤ 1000000 := by
          intro i hi
          match i, hi with
          | 0, _ => show Bs.length ≤ _; rw [HLB.out]; omega
          | 1, _ => show FX.length ≤ _; rw [HLF.out]; omega
          | 2, _ => show PL.length ≤ _; rw [hp4]; omega
        have hCc := Lib.hid (Concat_any (some ⟨wb.heap.size, 0, none⟩) 3 3 [Bs, FX, PL] rfl _ h3 (by omega) hall3)
        rw [show [Bs, FX, PL].flatten = Bs ++ FX ++ PL from by simp, ← hF.out] at hCc
        have hb3a : Below wb.heap.size wb (wb.alloc (.cells #[.slice A4 lb c4, .slice Aa lf ca, .slice Ap 4 cp] 23)) := (Below.refl _ wb).alloc (Nat.le_refl _) _
        clear h3 hall3 hPL hp4
        go_wp2_with fail
        refine hCc.out.mono ?_
        rintro en wc ⟨vc, rfl, hownc, honc⟩
        go_wp2_with fail
        go_ret2
        have hbc := honc.below_nil
        refine ⟨vc, by rw [HE.out]; rfl, ?_, ?_⟩
        · rw [if_pos HE.out]
          exact hownc.base_le (Nat.le_trans hbwr.size (Nat.le_trans hbrb.size hb3a.size))
        · exact hbwr.trans ((hbrb.mono hbwr.size).trans ((hb3a.trans (hbc.mono hb3a.size)).mono (Nat.le_trans hbwr.size hbrb.size)))
end Go.Proofs.YtmdphaagbmipcaaDoor
