/-
  The law KmergeParts, walked: some rows as one, and that together with what is left, are all; in any order.
-/
import Derived.Test.YtcfbblgoligagaaKmLawB
namespace Go.Proofs.Ytcfbblgoligagaa
open Go.RowKit KB

theorem parts_rest (l1 l2 : List Item) : uniqL ahead (uniqL ahead l1 ++ uniqL ahead l2) = uniqL ahead (l1 ++ l2) := uniqL_congr ordr fun x => by
  rw [List.mem_append, List.mem_append, uniqL_mem (lt := ahead) ordr, uniqL_mem (lt := ahead) ordr]
theorem parts_turned (ll : List (List Item)) : uniqL ahead ll.reverse.flatten = uniqL ahead ll.flatten := uniqL_congr ordr fun x => by
  rw [List.mem_flatten, List.mem_flatten]; simp
theorem parts_more (l1 l2 : List Item) : uniqL ahead (uniqL ahead (l1 ++ l2) ++ uniqL ahead (l1 ++ l2) ++ uniqL ahead l1) = uniqL ahead (l1 ++ l2) := uniqL_congr ordr fun x => by
  simp only [List.mem_append, uniqL_mem (lt := ahead) ordr]
  constructor
  · rintro ((h | h) | h)
    · exact h
    · exact h
    · exact .inl h
  · intro h; exact .inl (.inl h)
theorem and1023 (x : Int) : bits .and .i64 x 1023 = x % 1024 := by
  have e1 : (BitVec.ofInt 64 x).toNat % 1024 = (x % 1024).toNat := by
    rw [BitVec.toNat_ofInt]
    omega
  have hn : (BitVec.ofInt 64 x &&& BitVec.ofInt 64 1023).toNat = (x % 1024).toNat := by
    rw [BitVec.toNat_and, show (BitVec.ofInt 64 1023).toNat = 1023 from by decide, show (1023 : Nat) = 2 ^ 10 - 1 from by omega, Nat.and_two_pow_sub_one_eq_mod]
    exact e1
  show IntKind.i64.wrap ((BitVec.ofInt 64 x &&& BitVec.ofInt 64 1023).toNat : Int) = _
  rw [hn, IntKind.wrap_i64]
  omega

set_option maxRecDepth 100000 in
set_option maxHeartbeats 3200000 in
theorem KmergeParts_small (A : Option Addr) (n cn : Nat) (LL : List (List El)) (at_ : Int) (hn : LL.length = n) (hnc : n ≤ cn) (w : World) (hR : KB.RowsIn (fun k => k < w.heap.size) w A LL) (hf : fewB (keysOf LL) = true) (hS : Sees3 w w.heap.size A (keysOf LL)) :
    Calls Try.prog 5 #[.slice A n cn, .int .i64 at_] w (IsTrue w) := by
  have hnot : ∀ (x : Bool) (w : World), (Op.unary .not (.bool x)).run Try.prog w = .ok (.bool (!x)) w := fun _ _ => rfl
  have hy := few_yes hf
  have hkl : (keysOf LL).length = n := by rw [← hn]; simp [keysOf]
  have hn10 : n ≤ 10 := by omega
  have hfl : LL.flatten.length ≤ 600 := by
    have h1 := flat_few fun r hr => (hy.2 r hr).1
    rw [keysOf_flat, List.length_map] at h1
    omega
  have hsh : ∀ r ∈ LL, ∀ y ∈ r, y.1.length ≤ 1000 := fun r hr y hyr => by
    have := (hy.2 _ (List.mem_map_of_mem hr)).2 _ (List.mem_map_of_mem hyr)
    exact Nat.le_trans this (by omega)
  have hR' := fun (w' : World) (hb : Below w.heap.size w w') => ((hR.keep (Kept.of_below hb fun k e => e)).mono (fun k e => Nat.lt_of_lt_of_le e hb.size) : KB.RowsIn (fun k => k < w'.heap.size) w' A LL)
  obtain ⟨z, hz⟩ : ∃ z : Nat, at_ % 1024 = (z : Int) := ⟨(at_ % 1024).toNat, by omega⟩
  have hand : bits .and .i64 at_ 1023 = (z : Int) := by rw [and1023, hz]
  have hz9 : z < 1024 := by omega
  obtain ⟨N1, hN1⟩ : ∃ N1, n + 1 = N1 := ⟨_, rfl⟩
  have hadd : IntKind.i64.wrap ((n : Int) + 1) = (N1 : Int) := by rw [IntKind.wrap_i64]; omega
  obtain ⟨k, hk⟩ : ∃ k, z % N1 = k := ⟨_, rfl⟩
  have hkN : k < N1 := by rw [← hk]; exact Nat.mod_lt _ (by omega)
  have hkn : k ≤ n := by omega
  have hrem : (z : Int).tmod (N1 : Int) = (k : Int) := by
    rw [← hk]; rfl
  have hN0 : (N1 : Int) ≠ 0 := by omega
  have hkc : (k : Int) ≤ (cn : Int) := by omega
  have hkn' : (k : Int) ≤ (n : Int) := by omega
  have HR := Lib.hid hR'
  have HN := Lib.hid hn
  have HF := Lib.hid hf
  have HSH := Lib.hid hsh
  have HS := Lib.hid hS
  have HKL := Lib.hid hkl
  clear hR hn hf hsh hS hy hz hk hR' hkl
  go_enter Try.func5, Try.ntmps5
  go_wp2_with fail
  refine (awake_any w).mono ?_
  rintro e w1 ⟨rfl, hb1⟩
  have hsh := few_any A n cn (keysOf LL) HKL.out w1 ((HS.out.below hb1).more hb1.size)
  rw [HF.out] at hsh
  go_wp2_with fail
  refine hsh.mono ?_
  rintro e w2 ⟨rfl, rfl⟩
  clear hsh HF
  go_wp2_with fail
  refine (Items_rowsIn A n cn LL w1 (HR.out w1 hb1) HN.out (by omega) (by omega) HSH.out).mono ?_
  obtain ⟨U, hU⟩ : ∃ U, uniqL ahead (LL.flatten.map key) = U := ⟨_, rfl⟩
  rw [hU]
  have HU := Lib.hid hU
  clear hU
  rintro e w2 ⟨A2, c2, rfl, hR2, hb2⟩
  have hb02 := hb1.trans (hb2.mono hb1.size)
  have hsum : (LL.take k).flatten.length + (LL.drop k).flatten.length = LL.flatten.length := by rw [← List.length_append, ← List.flatten_append, List.take_append_drop]
  have hit := Lib.hid (Items_rowsIn A k cn (LL.take k) w2 (rowsB_take (HR.out w2 hb02) k) (by rw [List.length_take]; have := HN.out; omega) (by omega) (by omega) fun r hr => HSH.out r (List.mem_of_mem_take hr))
  obtain ⟨T, hT⟩ : ∃ T, uniqL ahead ((LL.take k).flatten.map key) = T := ⟨_, rfl⟩
  rw [hT] at hit
  have HT := Lib.hid hT
  clear hT
  go_wp2_with fail
  refine hit.out.mono ?_
  rintro e w3 ⟨A3, c3, rfl, hR3, hb3⟩
  have hb03 := hb02.trans (hb3.mono hb02.size)
  replace hR2 := hR2.below hb3
  clear hit
  obtain ⟨Ad, hAd⟩ : ∃ Ad, (if cn = k then A else A.map (fun x => x.add k)) = Ad := ⟨_, rfl⟩
  have hcut := rowsB_cut (HR.out w3 hb03) (k := k) (cap := cn) (by have := HN.out; omega)
  rw [hAd] at hcut
  obtain ⟨r, hr⟩ : ∃ r, n - k = r := ⟨_, rfl⟩
  have hsub : (n : Int) - (k : Int) = (r : Int) := by omega
  have hit := Lib.hid (Items_rowsIn Ad r (cn - k) (LL.drop k) w3 hcut (by rw [List.length_drop]; have := HN.out; omega) (by omega) (by omega) fun r hr => HSH.out r (List.mem_of_mem_drop hr))
  obtain ⟨D, hD⟩ : ∃ D, uniqL ahead ((LL.drop k).flatten.map key) = D := ⟨_, rfl⟩
  rw [hD] at hit
  have HD := Lib.hid hD
  clear hD
  go_wp2_with fail
  refine hit.out.mono ?_
  rintro e w4 ⟨A4, c4, rfl, hR4, hb4⟩
  have hb04 := hb03.trans (hb4.mono hb03.size)
  replace hR2 := hR2.below hb4
  replace hR3 := hR3.below hb4
  have hRin := HR.out w4 hb04
  have hTl : Hid (T.length ≤ 600) := by have h1 := uniqL_len (lt := ahead) ordr ((LL.take k).flatten.map key); rw [HT.out, List.length_map] at h1; unfold Hid; omega
  have hDl : Hid (D.length ≤ 600) := by have h1 := uniqL_len (lt := ahead) ordr ((LL.drop k).flatten.map key); rw [HD.out, List.length_map] at h1; unfold Hid; omega
  have hUl : Hid (U.length ≤ 600) := by have h1 := uniqL_len (lt := ahead) ordr (LL.flatten.map key); rw [HU.out, List.length_map] at h1; unfold Hid; omega
  have e1 : Hid (Ri ahead U) := by unfold Hid; rw [← HU.out]; exact uniqL_ri ordr _
  have hLk : LL.flatten.map key = (LL.take k).flatten.map key ++ (LL.drop k).flatten.map key := by rw [← List.map_append, ← List.flatten_append, List.take_append_drop]
  have e2 : Hid (uniqL ahead (T ++ D) = U) := by unfold Hid; rw [← HT.out, ← HD.out, ← HU.out, hLk]; exact parts_rest _ _
  have e3 : Hid (uniqL ahead (LL.reverse.flatten.map key) = U) := by
    unfold Hid; rw [← HU.out, ← keysOf_flat, ← keysOf_flat, show keysOf LL.reverse = (keysOf LL).reverse from by simp [keysOf]]; exact parts_turned _
  have e4 : Hid (uniqL ahead (U ++ U ++ T) = U) := by unfold Hid; rw [← HT.out, ← HU.out, hLk]; exact parts_more _ _
  clear hit hcut hAd hsub hkc hkn' hrem hand hadd hN0 hLk hsum
  go_wp2_with fail
  go_loopg [11, 12] n (fun g o i wr => ∃ (j p : Nat) (x : Int) (L : List (List El)) (Ao : Option Addr) (co : Nat), j = g ∧ p + j = n ∧ x = (j : Int) - 1 ∧ i = .int .i64 x ∧ o = .slice Ao p co ∧ Pile (fun k => k < w4.heap.size) w4.heap.size wr (.slice Ao p co) L ∧ Hid (L = (LL.drop j).reverse) ∧ Hid (L.length = p) ∧ Below w4.heap.size w4 wr)
  case atStart => exact ⟨n, 0, _, [], none, 0, rfl, by omega, rfl, by go_num, rfl, Pile.nil _ _ _ (fun _ e => e) (Nat.le_refl _), by unfold Hid; rw [List.drop_eq_nil_of_le (by have := HN.out; omega)]; rfl, rfl, Below.refl _ _⟩
  case round =>
    obtain ⟨j, p, x, L, Ao, co, hjg, hpj, hxj, rfl, rfl, hP, hL, hLp, hbr⟩ := hrel
    have hsr := hbr.size
    have hb0r := hb04.trans (hbr.mono hb04.size)
    cases j with
    | succ j =>
      obtain rfl : x = (j : Int) := by omega
      obtain ⟨ad, Ai, ci, rfl, hadm, hcell, hci, hsee, hxs⟩ := (hRin.keep (Kept.of_below hbr fun k e => e)).out j (by have := HN.out; omega)
      have hdr : (LL.drop j).reverse = (LL.drop (j + 1)).reverse ++ [LL[j]'(by have := HN.out; omega)] := by rw [List.drop_eq_getElem_cons (by have := HN.out; omega), List.reverse_cons]
      obtain ⟨u, hu⟩ : ∃ u, LL[j]'(by have := HN.out; omega) = u := ⟨_, rfl⟩
      rw [hu] at hcell hci hsee hxs hdr
      obtain ⟨lu, hlu⟩ : ∃ lu, u.length = lu := ⟨_, rfl⟩
      rw [hlu] at hcell hci
      have HLU := Lib.hid hlu
      have HDR := Lib.hid hdr
      obtain ⟨vs, hvs, hvs2⟩ := hP.out
      rw [hLp.out] at hvs
      have hvsy := hvs.alloc (.cells #[.slice Ai lu ci] 26)
      have HVS := Lib.hid hvs
      have HVS2 := Lib.hid hvs2
      have hjn : j < n := by omega
      have HXS := Lib.hid hxs
      have hsub2 : IntKind.i64.wrap ((j : Int) - 1) = (j : Int) - 1 := by rw [IntKind.wrap_i64]; omega
      clear hlu hu hdr hvs hvs2 hxj hxs hR2 hR3 hR4 hRin
      go_wp2_with (at_builtin; refine wpList_append_p rfl (.tmp 43) (.tmp 48) rfl w4.heap.size (.slice Ao p co) p vs (by rfl) hvsy _ (some ⟨wr.heap.size, 0, none⟩) (.slice Ai lu ci) (by rfl) (sees_cell wr _ rfl _ _) rfl (by omega) (by simp; omega) ?_; intro v' w5 hown5 hon5)
      have hP5 := hP.push (A1 := Ai) (c1 := ci) (x := u) (KI.below_new wr _) ((hsee.keep (Kept.of_below (KI.below_new wr _) fun k e => by omega)).mono fun k e => .inl e) (by rw [HLU.out]; exact hci) (fun y hy => HXS.out y hy) vs (by rw [hLp.out]; exact HVS.out) HVS2.out (by rw [hLp.out, HLU.out]; exact hown5) hon5
      have hL5 : (L ++ [u]).length = p + 1 := by rw [List.length_append, hLp.out]; rfl
      obtain ⟨A5, c5, hv5, hc5⟩ := hP5.slice
      rw [hL5] at hv5
      subst hv5
      have hb5 : Below w4.heap.size w4 w5 := (hbr.trans ((KI.below_new wr _).mono hsr)).trans ((Turn.onto (T := fun k => w4.heap.size ≤ k) hon5 fun k e => (World.ownsRow.lt HVS.out k e).1).below (fun j e => e) (by simp; omega))
      go_roundg j
      case measure => omega
      case rel => exact ⟨j, p + 1, _, L ++ [u], A5, c5, rfl, by omega, rfl, by go_num, rfl, hP5, by unfold Hid; rw [HDR.out, hL.out], hL5, hb5⟩
    | zero =>
      obtain rfl : x = -1 := by omega
      replace hR2 := (hR2.below hbr)
      replace hR3 := (hR3.below hbr)
      replace hR4 := (hR4.below hbr)
      have hLr : Hid (L = LL.reverse) := by unfold Hid; rw [hL.out]; rfl
      have hPR := Lib.hid (by have := hP; rw [← hLp.out] at this; exact this.rowsIn : KB.RowsIn (fun k => k < wr.heap.size) wr Ao L)
      have hp10 : p ≤ 10 := by omega
      have hg0 : ¬ (0 : Int) ≤ -1 := by omega
      have hLf : Hid (L.flatten.length ≤ 600) := by
        unfold Hid
        rw [hLr.out]
        have : LL.reverse.flatten.length = LL.flatten.length := by
          have e : LL.reverse.Perm LL := List.reverse_perm LL
          exact e.flatten.length_eq
        omega
      clear hRin hP hbr hjg hpj hxj
      go_wp2_with fail
      refine (brises hR2 e1.out).mono ?_
      rintro e w5 ⟨rfl, hb5⟩
      have hb05 := hb0r.trans (hb5.mono hb0r.size)
      have hPR5 := Lib.hid ((hPR.out.keep (Kept.of_below hb5 fun k e => e)).mono (fun k e => Nat.lt_of_lt_of_le e hb5.size) : KB.RowsIn (fun k => k < w5.heap.size) w5 Ao L)
      replace hR2 := hR2.below hb5
      replace hR3 := hR3.below hb5
      replace hR4 := hR4.below hb5
      clear hPR
      go_wp2_with fail
      refine (items_2 hR3 hR4 (by have := hTl.out; have := hDl.out; omega) _ rfl).mono ?_
      rw [e2.out]
      rintro e w6 ⟨A6, c6, rfl, hR6, hb6⟩
      have hb06 := hb05.trans (hb6.mono hb05.size)
      have hPR6 := Lib.hid ((hPR5.out.keep (Kept.of_below hb6 fun k e => e)).mono (fun k e => Nat.lt_of_lt_of_le e hb6.size) : KB.RowsIn (fun k => k < w6.heap.size) w6 Ao L)
      replace hR2 := hR2.below hb6
      replace hR3 := hR3.below hb6
      clear hPR5 hR4
      go_wp2_with fail
      refine (bsame hR6 hR2 rfl).mono ?_
      rintro e w7 ⟨rfl, hb7⟩
      have hb07 := hb06.trans (hb7.mono hb06.size)
      have hPR7 := Lib.hid ((hPR6.out.keep (Kept.of_below hb7 fun k e => e)).mono (fun k e => Nat.lt_of_lt_of_le e hb7.size) : KB.RowsIn (fun k => k < w7.heap.size) w7 Ao L)
      replace hR2 := hR2.below hb7
      replace hR3 := hR3.below hb7
      clear hPR6 hR6
      go_wp2_with fail
      refine (Items_rowsIn Ao p co L w7 hPR7.out hLp.out (by omega) (by have := hLf.out; omega) (fun r hr => HSH.out r (by rw [hLr.out] at hr; exact List.mem_reverse.1 hr))).mono ?_
      rw [show uniqL ahead (L.flatten.map key) = U from by rw [hLr.out]; exact e3.out]
      rintro e w8 ⟨A8, c8, rfl, hR8, hb8⟩
      have hb08 := hb07.trans (hb8.mono hb07.size)
      replace hR2 := hR2.below hb8
      replace hR3 := hR3.below hb8
      clear hPR7
      go_wp2_with fail
      refine (bsame hR8 hR2 rfl).mono ?_
      rintro e w9 ⟨rfl, hb9⟩
      have hb09 := hb08.trans (hb9.mono hb08.size)
      replace hR2 := hR2.below hb9
      replace hR3 := hR3.below hb9
      clear hR8
      go_wp2_with fail
      refine (items_3 hR2 hR2 hR3 (by have := hTl.out; have := hUl.out; omega) _ rfl).mono ?_
      rw [e4.out]
      rintro e wa ⟨Aa, ca, rfl, hRa, hba⟩
      have hb0a := hb09.trans (hba.mono hb09.size)
      replace hR2 := hR2.below hba
      go_wp2_with fail
      refine (bsame hRa hR2 rfl).mono ?_
      rintro e wb ⟨rfl, hbb⟩
      have hb0b := hb0a.trans (hbb.mono hb0a.size)
      go_wp2_with fail
      go_ret
      exact ⟨by simp, hb0b⟩

set_option maxRecDepth 100000 in
set_option maxHeartbeats 400000 in
theorem KmergeParts_any (A : Option Addr) (n cn : Nat) (ll : List (List Item)) (at_ : Int) (hn : ll.length = n) (hnc : n ≤ cn) (w : World) (hS : Sees3 w w.heap.size A ll) :
    Calls Try.prog 5 #[.slice A n cn, .int .i64 at_] w (IsTrue w) := by
  have hnot : ∀ (x : Bool) (w : World), (Op.unary .not (.bool x)).run Try.prog w = .ok (.bool (!x)) w := fun _ _ => rfl
  obtain ⟨s, hs⟩ : ∃ s, fewB ll = s := ⟨_, rfl⟩
  cases s with
  | true =>
    obtain ⟨LL, rfl, hR⟩ := rows_of hS
    exact KmergeParts_small A n cn LL at_ (by rw [← hn]; simp [keysOf]) hnc w hR hs hS
  | false =>
    have hsh := fun (w1 : World) (hb1 : Below w.heap.size w w1) => few_any A n cn ll hn w1 ((hS.below hb1).more hb1.size)
    rw [hs] at hsh
    have HSH := Lib.hid hsh
    clear hs hn hS hsh
    go_enter Try.func5, Try.ntmps5
    go_wp2_with fail
    refine (awake_any w).mono ?_
    rintro e w1 ⟨rfl, hb1⟩
    go_wp2_with fail
    refine (HSH.out w1 hb1).mono ?_
    rintro e w2 ⟨rfl, rfl⟩
    go_wp2_with fail
    go_ret
    exact ⟨rfl, hb1⟩
end Go.Proofs.Ytcfbblgoligagaa
