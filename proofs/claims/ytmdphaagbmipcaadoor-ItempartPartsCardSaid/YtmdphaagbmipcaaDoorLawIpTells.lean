/-
  The law ItempartTells, walked: what a file tells, of any item, from any on, of any beginning.
-/
import Derived.Test.YtmdphaagbmipcaaDoorIpRef
namespace Go.Proofs.YtmdphaagbmipcaaDoor
open Go.RowKit

theorem idxs_fit : ∀ (bl : List (List Item)) (p : Nat), p + (outs bl).length ≤ 2000000 → (∀ o ∈ bl, (o.headD []).length ≤ 400) → (idxs p bl).length ≤ 406 * bl.length
  | [], _, _, _ => by simp [idxs]
  | o :: t, p, hp, hh => by
    have e : (outs (o :: t)).length = (frB o).length + (outs t).length := by simp [outs]
    have ih := idxs_fit t (p + (frB o).length) (by omega) fun y hy => hh y (by simp [hy])
    have h0 := hh o (by simp)
    have h1 := venc_len_aux 2 p (by omega)
    have h2 := venc_len_aux 2 (o.headD []).length (by omega)
    simp only [idxs, List.length_append, List.length_cons]
    omega
theorem build_small {ls : List Item} (h : ls.length ≤ 100) (h0 : 0 < ls.length) (hk : okB ls = true) : buildE ls = 0 := by
  have ho : ∀ bl : List (List Item), (∀ o ∈ bl, checkN o = 0) → (outs bl).length ≤ 65543 * bl.length := fun bl => by
    induction bl with
    | nil => intro _; simp [outs]
    | cons o t ih =>
      intro hc
      have h5 := packB_len2 (hc o (by simp))
      have h6 := venc_len_aux 2 (packB o).length (by omega)
      have h7 := ih fun y hy => hc y (by simp [hy])
      show (frB o ++ outs t).length ≤ _
      unfold frB
      rw [frameOf_makeK 1 _ 1 rfl, List.length_append, makeK_len, List.length_cons]
      omega
  have h5 := ho (blk ls) (blk_checks hk)
  have h6 := blk_length ls
  have h7 := idxs_fit (blk ls) 0 (by omega) fun o hm => by
    obtain ⟨k, hk2, e⟩ := blk_block hm
    have hl : 0 < o.length := by rw [e, List.length_take, List.length_drop]; omega
    rw [headD_get hl]
    refine (ok_short hk _ ?_).2
    have h8 : o[0] ∈ (ls.drop (8 * k)).take 8 := by rw [← e]; exact List.getElem_mem hl
    exact List.mem_of_mem_drop (List.mem_of_mem_take h8)
  have h8 := venc_len_aux 2 (blk ls).length (by omega)
  unfold buildE
  rw [if_neg (by omega), if_neg (fun e => by rcases e with e | e; omega; rw [hk] at e; cases e), if_neg]
  unfold tabB
  rw [List.length_append]
  omega
theorem checkR_zero {ls : List Item} (h : checkR ls = 0) : 0 < ls.length ∧ okB ls = true := by
  unfold checkR at h
  split at h
  · simp at h
  · split at h
    · simp at h
    · rename_i h2
      rw [not_or] at h2
      exact ⟨by omega, by cases hk : okB ls with | true => rfl | false => exact absurd hk h2.2⟩

theorem mem_take_step {ls : List Item} {x : Item} {k : Nat} (h : k < ls.length) : decide (x ∈ ls.take (k + 1)) = (decide (x ∈ ls.take k) || (ls[k] == x)) := by
  rw [take_snoc h]
  simp only [List.mem_append, List.mem_singleton, Bool.decide_or]
  congr 1
  by_cases e : x = ls[k]
  · subst e; simp
  · rw [decide_eq_false e]
    symm
    rw [beq_eq_false_iff_ne]
    exact fun e2 => e e2.symm

set_option maxRecDepth 100000 in
set_option maxHeartbeats 3200000 in
theorem ItempartTells_small (A : Option Addr) (n c : Nat) (ls : List Item) (Bx : Option Addr) (lx dx : Nat) (x : Item) (most : Int) (hn : ls.length = n) (hnc : n ≤ c) (hxl : x.length = lx) (hf : fewB ls = true) (hlx : lx ≤ 500) (hck : checkR ls = 0) (w : World) (hS : Sees2 w w.heap.size A ls) (hx : Sees w w.heap.size Bx (bv x)) (hH : Halves w) :
    Calls Tryd.prog 4 #[.slice A n c, .slice Bx lx dx, .int .i64 most] w (IsTrue w) := by
  have hnot : ∀ (x : Bool) (w : World), (Op.unary .not (.bool x)).run Tryd.prog w = .ok (.bool (!x)) w := fun _ _ => rfl
  obtain ⟨h100, -⟩ := few_yes hf
  have hn100 : n ≤ 100 := by omega
  have hg0 := hH.1
  obtain ⟨h0, hok⟩ := checkR_zero hck
  have hb := build_small h100 h0 hok
  have hn0 : 0 < n := by omega
  obtain ⟨hF4, hF6⟩ := file_len hb h100
  have hop := open_file hb
  obtain ⟨F, hFe⟩ : ∃ F, fileB ls = F := ⟨_, rfl⟩
  obtain ⟨N, hNe⟩ : ∃ N, F.length = N := ⟨_, rfl⟩
  rw [hFe] at hop hF4 hF6
  rw [hNe] at hF4 hF6
  have HF := Lib.hid hf
  have HN := Lib.hid hn
  have HXL := Lib.hid hxl
  have HB := Lib.hid hb
  have HFE := Lib.hid hFe
  have HNE := Lib.hid hNe
  have HOP := Lib.hid hop
  have HCK := Lib.hid hck
  have HOK := Lib.hid hok
  have hadd : IntKind.i64.wrap ((n : Int) + 7) = ((n + 7 : Nat) : Int) := by rw [IntKind.wrap_i64]; omega
  have hfl : (fromL ls x).length ≤ n := by rw [← hn]; exact List.length_filter_le _ _
  obtain ⟨Y, hY⟩ : ∃ Y, (fromL ls x).take most.toNat = Y := ⟨_, rfl⟩
  have hYl : Y.length ≤ n := by rw [← hY, List.length_take]; omega
  have HY := Lib.hid hY
  obtain ⟨Z, hZ⟩ : ∃ Z, ls.filter (preB x) = Z := ⟨_, rfl⟩
  have hZl : Z.length ≤ n := by rw [← hZ, ← hn]; exact List.length_filter_le _ _
  have HZ := Lib.hid hZ
  clear hY hZ
  clear hn hf h100 hb hFe hNe hop hck hok h0 hxl
  go_enter Tryd.func4, Tryd.ntmps4
  go_wp2_with fail
  refine (awake_any w hH).mono ?_
  rintro e w1 ⟨rfl, hb1⟩
  have hs1 := hb1.size
  have hS1 := (hS.below hb1).more hs1
  have hFew := few_any A n c ls HN.out w1 hS1
  rw [HF.out] at hFew
  have hCk := RefCheck_any A n c ls HN.out w1 hS1 (by omega)
  rw [HCK.out] at hCk
  have HCk := Lib.hid hCk
  clear hCk
  go_wp2_with fail
  refine hFew.mono ?_
  rintro e w2 ⟨rfl, rfl⟩
  clear hFew
  go_wp2_with fail
  refine HCk.out.mono ?_
  rintro e w2 ⟨rfl, q2, hw2⟩
  have hb02 : Below w.heap.size w w2 := by rw [hw2]; exact below_d hb1 _
  have hS2 := (hS.below hb02).more hb02.size
  have hBu := Lib.hid (Build_good A n c ls HN.out hnc w2 hS2 (hH.below hb02 hg0) (by omega) HB.out)
  clear hw2 HCk hS1
  go_wp2_with fail
  refine hBu.out.mono ?_
  rintro e w3 ⟨v3, rfl, hown3, hb3⟩
  rw [HFE.out] at hown3
  obtain ⟨A3, c3, rfl, hc3, hm3, -, hS3⟩ := hown3.open_
  rw [HNE.out] at hc3 ⊢
  have hb03 := hb02.trans (hb3.mono hb02.size)
  have hO := Lib.hid (Open_good A3 N c3 F HNE.out hc3 (by omega) w3 hS3 (hH.below hb03 hg0) ls HOP.out)
  clear hBu hown3 hb3 hS2
  go_wp2_with fail
  refine hO.out.mono ?_
  rintro e w4 ⟨P, rfl, hp4', hb4⟩
  have hp4 : PartAt (fun k => k < w4.heap.size) w4 P ls := hp4'.mono fun k e => e.2
  have hb04 := hb03.trans (hb4.mono hb03.size)
  have hS4 := (hS.below hb04).more hb04.size
  have hx4 := (hx.below hb04).more hb04.size
  clear hO hp4'
  go_wp2
  go_loopg [13, 14] n (fun g u i wr => ∃ (k : Nat) (b : Bool), k + g = n ∧ i = .int .i64 k ∧ u = .bool b ∧ Hid (decide (x ∈ ls.take k) = b) ∧ ∃ q, wr = w4.drewN q)
  case atStart => exact ⟨0, false, by omega, rfl, rfl, by unfold Hid; simp, 0, rfl⟩
  case round =>
    obtain ⟨k, b, hk, rfl, rfl, hmem, q, rfl⟩ := hrel
    by_cases hlt : k < n
    · obtain ⟨ad, Ai, ci, rfl, hadB, hcell0, hci, hsee⟩ := hS4.out k (by have := HN.out; omega)
      have hstep := Lib.hid (mem_take_step (ls := ls) (x := x) (k := k) (by have := HN.out; omega))
      obtain ⟨L, hL⟩ : ∃ L, ls[k]'(by have := HN.out; omega) = L := ⟨_, rfl⟩
      rw [hL] at hcell0 hci hsee hstep
      rw [hmem.out] at hstep
      have hcell : (w4.drewN q).cell? (ad.add k) = some (.slice Ai L.length ci) := hcell0
      have cv1 := fun p => run_str (w4.drewN p) _ Ai L.length ci L (hsee.drewN p) rfl
      have cv2 := fun p => run_str (w4.drewN p) _ Bx lx dx x (hx4.drewN p) HXL.out
      clear hL hmem
      cases b with
      | true =>
        have hT : Hid (decide (x ∈ ls.take (k + 1)) = true) := hstep.out
        clear hstep
        go_wp2
        go_quiet (fail)
        go_wp2
        go_roundg (n - (k + 1))
        case measure => omega
        case rel => exact ⟨k + 1, true, by omega, by go_num, rfl, hT, _, rfl⟩
      | false =>
        have hble : ((strOf L).toList == (strOf x).toList) = (L == x) := by rw [strOf_toList, strOf_toList]
        obtain ⟨b, hbb⟩ : ∃ b, (L == x) = b := ⟨_, rfl⟩
        rw [hbb] at hble
        have hT : Hid (decide (x ∈ ls.take (k + 1)) = b) := by have := hstep.out; rw [hbb] at this; exact this
        clear hstep hbb
        go_wp2
        go_quiet (fail)
        go_wp2
        go_roundg (n - (k + 1))
        case measure => omega
        case rel => exact ⟨k + 1, b, by omega, by go_num, rfl, hT, _, rfl⟩
    · have hmx : Hid (decide (x ∈ ls) = b) := by have := hmem.out; rw [List.take_of_length_le (by have := HN.out; omega)] at this; exact this
      obtain ⟨W, hW⟩ : ∃ W, w4.drewN q = W := ⟨_, rfl⟩
      have hb4W : Below w4.heap.size w4 W := by rw [← hW]; exact below_d (Below.refl _ _) _
      have hpW := hp4.later hb4W
      have hb0W := hb04.trans (hb4W.mono hb04.size)
      have hSW := (hS.below hb0W).more hb0W.size
      have hxW := (hx.below hb0W).more hb0W.size
      obtain ⟨ad, A0, c0, hAd, had0, hcell0', hc0, hsee0⟩ := hSW.out 0 (by have := HN.out; omega)
      obtain ⟨j, hj⟩ : ∃ j, n - 1 = j := ⟨_, rfl⟩
      have hjn : j < n := by omega
      have hsub : IntKind.i64.wrap ((n : Int) - 1) = (j : Int) := by rw [IntKind.wrap_i64]; omega
      obtain ⟨ad', Aj, cj, hAd', hadj, hcellj, hcj, hseej⟩ := hSW.out j (by have := HN.out; omega)
      obtain rfl : ad = ad' := Option.some.inj (hAd.symm.trans hAd')
      have hcell0 : W.cell? ad = some (.slice A0 (ls[0]'(by have := HN.out; omega)).length c0) := by simpa [Addr.add] using hcell0'
      have hhd : ls.headD [] = ls[0]'(by have := HN.out; omega) := headD_get (by have := HN.out; omega)
      have hla : ls.getLastD [] = ls[j]'(by have := HN.out; omega) := by
        have e : ls ≠ [] := fun e => by have := HN.out; rw [e] at this; simp at this; omega
        rw [List.getLastD_eq_getLast?, List.getLast?_eq_some_getLast e, Option.getD_some, List.getLast_eq_getElem]
        congr 1
        have := HN.out
        omega
      obtain ⟨L0, hL0⟩ : ∃ L0, ls[0]'(by have := HN.out; omega) = L0 := ⟨_, rfl⟩
      obtain ⟨Lj, hLj⟩ : ∃ Lj, ls[j]'(by have := HN.out; omega) = Lj := ⟨_, rfl⟩
      rw [hL0] at hcell0 hc0 hsee0 hhd
      rw [hLj] at hcellj hcj hseej hla
      have HK := Lib.hid (fun w' (hb : Below W.heap.size W w') => (⟨(hb.cell had0).trans hcell0, run_str w' _ A0 L0.length c0 L0 ((hsee0.below hb).more hb.size) rfl, (hb.cell (p := ad.add j) (by rw [add_block]; exact hadj)).trans hcellj, run_str w' _ Aj Lj.length cj Lj ((hseej.below hb).more hb.size) rfl⟩ : w'.cell? ad = some (.slice A0 L0.length c0) ∧ (convert 23 9 (.slice A0 L0.length c0)).run Tryd.prog w' = .ok (.string (strOf L0)) w' ∧ w'.cell? (ad.add j) = some (.slice Aj Lj.length cj) ∧ (convert 23 9 (.slice Aj Lj.length cj)).run Tryd.prog w' = .ok (.string (strOf Lj)) w'))
      have hbD : Below W.heap.size W W.drew := below_drew (Below.refl _ _)
      have hpD := hpW.later hbD
      have hLen := Lib.hid (Len_any hpD)
      rw [HN.out] at hLen
      have hBl := Lib.hid (Blocks_any hpD)
      rw [HN.out] at hBl
      have hFi := First_any hpD fun k e => e
      rw [hhd] at hFi
      have HFi := Lib.hid hFi
      have HLA := Lib.hid hla
      have HPW := Lib.hid hpW
      have HSW := Lib.hid hSW
      have HXW := Lib.hid hxW
      have HB0 := Lib.hid hb0W
      obtain rfl := hAd
      rw [hW]
      clear hW hmem hS4 hx4 hp4 hFi hpD hhd hla hL0 hLj hj hcell0' hcell0 hcellj hsee0 hseej hSW hxW hAd' hpW hb0W
      go_wp2_with fail
      refine wp_region_noPanic ?_
      refine wp_region_held_drew (S := fun w' => w'.cell? ad = some (.slice A0 L0.length c0) ∧ (convert 23 9 (.slice A0 L0.length c0)).run Tryd.prog w' = .ok (.string (strOf L0)) w' ∧ w'.cell? (ad.add j) = some (.slice Aj Lj.length cj) ∧ (convert 23 9 (.slice Aj Lj.length cj)).run Tryd.prog w' = .ok (.string (strOf Lj)) w') (by kernel_rfl) ?_ (fun hHeld => ?_)
      · (exact HK.out _ hbD)
      refine wpAnyH_take (i := 0) (oi := { dst := some 65, op := Op.move (Operand.tmp 11), type := 29, pos := "law.go:74", after := #[], guard := none }) (v := ?_) rfl (by kernel_rfl) (by kernel_rfl) (by kernel_rfl) (fun _ _ _ h => h) (Or.inl ⟨by rfl, ?_⟩) hHeld ?_
      rotate_left
      · (intro w' hSw; (try dsimp only at hSw); go_split_ands; go_simp; first | done | with_reducible rfl)
      try simp only [Act.put, List.setIfInBounds_toArray, List.set_cons_zero, List.set_cons_succ]
      refine wpAnyH_take (i := 2) (oi := { dst := some 67, op := Op.move (Operand.tmp 0), type := 22, pos := "law.go:74", after := #[], guard := none }) (v := ?_) rfl (by kernel_rfl) (by kernel_rfl) (by kernel_rfl) (fun _ _ _ h => h) (Or.inl ⟨by rfl, ?_⟩) hHeld ?_
      rotate_left
      · (intro w' hSw; (try dsimp only at hSw); go_split_ands; go_simp; first | done | with_reducible rfl)
      try simp only [Act.put, List.setIfInBounds_toArray, List.set_cons_zero, List.set_cons_succ]
      refine wpAnyH_take (i := 3) (oi := { dst := some 68, op := Op.call { callee := Callee.builtin Builtin.len, args := #[Operand.tmp 67], argTypes := #[22] }, type := 3, pos := "law.go:74", after := #[{ on := 2, ground := Ground.data }], guard := none }) (v := ?_) rfl (by kernel_rfl) (by kernel_rfl) (by kernel_rfl) (fun _ _ _ h => h) (Or.inl ⟨by rfl, ?_⟩) hHeld ?_
      rotate_left
      · (intro w' hSw; (try dsimp only at hSw); go_split_ands; go_simp; first | done | with_reducible rfl)
      try simp only [Act.put, List.setIfInBounds_toArray, List.set_cons_zero, List.set_cons_succ]
      refine wpAnyH_ready (rs := [1]) (by kernel_rfl) (by simp) ?_
      refine AllReadyH.cons (o := { dst := some 66, op := Op.call { callee := Callee.value (Operand.func 18), args := #[Operand.tmp 65], argTypes := #[29] }, type := 3, pos := "law.go:74", after := #[{ on := 0, ground := Ground.data }], guard := none }) rfl (fun K hK => ?_) AllReadyH.nil
      go_simp
      refine hLen.out.mono ?_
      rintro en _ ⟨rfl, rfl⟩
      go_wp2_with fail
      refine hK.out _ _ ?_ ?_
      · (exact HK.out _ hbD)
      clear hK K hHeld; intro hHeld
      try simp only [Act.put, List.setIfInBounds_toArray, List.set_cons_zero, List.set_cons_succ]
      refine wpAnyH_take (i := 4) (oi := { dst := some 69, op := Op.binOp BinOp.eql 3 (Operand.tmp 66) (Operand.tmp 68) 3, type := 4, pos := "law.go:74", after := #[{ on := 1, ground := Ground.data }, { on := 3, ground := Ground.data }], guard := none }) (v := ?_) rfl (by kernel_rfl) (by kernel_rfl) (by kernel_rfl) (fun _ _ _ h => h) (Or.inl ⟨by rfl, ?_⟩) hHeld ?_
      rotate_left
      · (intro w' hSw; (try dsimp only at hSw); go_split_ands; go_simp; first | done | with_reducible rfl)
      try simp only [Act.put, List.setIfInBounds_toArray, List.set_cons_zero, List.set_cons_succ]
      refine wpAnyH_take (i := 5) (oi := { dst := some 70, op := Op.move (Operand.tmp 69), type := 4, pos := "law.go:74", after := #[{ on := 4, ground := Ground.data }, { on := 1, ground := Ground.chain }], guard := none }) (v := .bool true) rfl (by kernel_rfl) (by kernel_rfl) (by kernel_rfl) (fun _ _ _ h => h) (Or.inl ⟨by rfl, ?_⟩) hHeld ?_
      · (intro w' hSw; (try dsimp only at hSw); go_split_ands; go_simp; first | done | with_reducible rfl | simp)
      try simp only [Act.put, List.setIfInBounds_toArray, List.set_cons_zero, List.set_cons_succ]
      refine wpAnyH_take (i := 6) (oi := { dst := some 71, op := Op.move (Operand.tmp 11), type := 29, pos := "law.go:74", after := #[{ on := 5, ground := Ground.guard }], guard := some (5, true) }) (v := ?_) rfl (by kernel_rfl) (by kernel_rfl) (by kernel_rfl) (fun _ _ _ h => h) (Or.inl ⟨by rfl, ?_⟩) hHeld ?_
      rotate_left
      · (intro w' hSw; (try dsimp only at hSw); go_split_ands; go_simp; first | done | with_reducible rfl)
      try simp only [Act.put, List.setIfInBounds_toArray, List.set_cons_zero, List.set_cons_succ]
      refine wpAnyH_take (i := 8) (oi := { dst := some 73, op := Op.move (Operand.tmp 0), type := 22, pos := "law.go:74", after := #[{ on := 5, ground := Ground.guard }], guard := some (5, true) }) (v := ?_) rfl (by kernel_rfl) (by kernel_rfl) (by kernel_rfl) (fun _ _ _ h => h) (Or.inl ⟨by rfl, ?_⟩) hHeld ?_
      rotate_left
      · (intro w' hSw; (try dsimp only at hSw); go_split_ands; go_simp; first | done | with_reducible rfl)
      try simp only [Act.put, List.setIfInBounds_toArray, List.set_cons_zero, List.set_cons_succ]
      refine wpAnyH_take (i := 9) (oi := { dst := some 74, op := Op.call { callee := Callee.builtin Builtin.len, args := #[Operand.tmp 73], argTypes := #[22] }, type := 3, pos := "law.go:74", after := #[{ on := 8, ground := Ground.data }, { on := 5, ground := Ground.guard }], guard := some (5, true) }) (v := ?_) rfl (by kernel_rfl) (by kernel_rfl) (by kernel_rfl) (fun _ _ _ h => h) (Or.inl ⟨by rfl, ?_⟩) hHeld ?_
      rotate_left
      · (intro w' hSw; (try dsimp only at hSw); go_split_ands; go_simp; first | done | with_reducible rfl)
      try simp only [Act.put, List.setIfInBounds_toArray, List.set_cons_zero, List.set_cons_succ]
      refine wpAnyH_take (i := 10) (oi := { dst := some 75, op := Op.binOp BinOp.add 3 (Operand.tmp 74) (Operand.const (Value.int IntKind.i64 7)) 3, type := 3, pos := "law.go:74", after := #[{ on := 9, ground := Ground.data }, { on := 5, ground := Ground.guard }], guard := some (5, true) }) (v := ?_) rfl (by kernel_rfl) (by kernel_rfl) (by kernel_rfl) (fun _ _ _ h => h) (Or.inl ⟨by rfl, ?_⟩) hHeld ?_
      rotate_left
      · (intro w' hSw; (try dsimp only at hSw); go_split_ands; go_simp; first | done | with_reducible rfl)
      try simp only [Act.put, List.setIfInBounds_toArray, List.set_cons_zero, List.set_cons_succ]
      refine wpAnyH_take (i := 11) (oi := { dst := some 76, op := Op.binOp BinOp.quo 3 (Operand.tmp 75) (Operand.const (Value.int IntKind.i64 8)) 3, type := 3, pos := "law.go:74", after := #[{ on := 10, ground := Ground.data }, { on := 5, ground := Ground.guard }], guard := some (5, true) }) (v := ?_) rfl (by kernel_rfl) (by kernel_rfl) (by kernel_rfl) (fun _ _ _ h => h) (Or.inl ⟨by rfl, ?_⟩) hHeld ?_
      rotate_left
      · (intro w' hSw; (try dsimp only at hSw); go_split_ands; go_simp; first | done | with_reducible rfl)
      try simp only [Act.put, List.setIfInBounds_toArray, List.set_cons_zero, List.set_cons_succ]
      refine wpAnyH_ready (rs := [7]) (by kernel_rfl) (by simp) ?_
      refine AllReadyH.cons (o := { dst := some 72, op := Op.call { callee := Callee.value (Operand.func 19), args := #[Operand.tmp 71], argTypes := #[29] }, type := 3, pos := "law.go:74", after := #[{ on := 6, ground := Ground.data }, { on := 5, ground := Ground.chain }, { on := 5, ground := Ground.guard }], guard := some (5, true) }) rfl (fun K hK => ?_) AllReadyH.nil
      go_simp
      refine hBl.out.mono ?_
      rintro en _ ⟨rfl, rfl⟩
      go_wp2_with fail
      refine hK.out _ _ ?_ ?_
      · (exact HK.out _ hbD)
      clear hK K hHeld; intro hHeld
      try simp only [Act.put, List.setIfInBounds_toArray, List.set_cons_zero, List.set_cons_succ]
      refine wpAnyH_take (i := 12) (oi := { dst := some 77, op := Op.binOp BinOp.eql 3 (Operand.tmp 72) (Operand.tmp 76) 3, type := 4, pos := "law.go:74", after := #[{ on := 7, ground := Ground.data }, { on := 11, ground := Ground.data }, { on := 5, ground := Ground.guard }], guard := some (5, true) }) (v := .bool true) rfl (by kernel_rfl) (by kernel_rfl) (by kernel_rfl) (fun _ _ _ h => h) (Or.inl ⟨by rfl, ?_⟩) hHeld ?_
      · (intro w' hSw; (try dsimp only at hSw); go_split_ands; go_simp; first | done | with_reducible rfl | (rw [IntKind.wrap_i64, Int.tdiv_eq_ediv_of_nonneg (by omega)]; omega))
      try simp only [Act.put, List.setIfInBounds_toArray, List.set_cons_zero, List.set_cons_succ]
      refine wpAnyH_take (i := 13) (oi := { dst := some 78, op := Op.pick (Operand.tmp 70) (Operand.tmp 77) (Operand.const (Value.bool false)), type := 4, pos := "law.go:74", after := #[{ on := 5, ground := Ground.data }, { on := 12, ground := Ground.data }], guard := none }) (v := ?_) rfl (by kernel_rfl) (by kernel_rfl) (by kernel_rfl) (fun _ _ _ h => h) (Or.inl ⟨by rfl, ?_⟩) hHeld ?_
      rotate_left
      · (intro w' hSw; (try dsimp only at hSw); go_split_ands; go_simp; first | done | with_reducible rfl)
      try simp only [Act.put, List.setIfInBounds_toArray, List.set_cons_zero, List.set_cons_succ]
      refine wpAnyH_take (i := 14) (oi := { dst := some 79, op := Op.move (Operand.tmp 78), type := 4, pos := "law.go:74", after := #[{ on := 13, ground := Ground.data }, { on := 7, ground := Ground.chain }], guard := none }) (v := .bool true) rfl (by kernel_rfl) (by kernel_rfl) (by kernel_rfl) (fun _ _ _ h => h) (Or.inl ⟨by rfl, ?_⟩) hHeld ?_
      · (intro w' hSw; (try dsimp only at hSw); go_split_ands; go_simp; first | done | with_reducible rfl | simp)
      try simp only [Act.put, List.setIfInBounds_toArray, List.set_cons_zero, List.set_cons_succ]
      refine wpAnyH_take (i := 15) (oi := { dst := some 80, op := Op.move (Operand.tmp 11), type := 29, pos := "law.go:74", after := #[{ on := 14, ground := Ground.guard }], guard := some (14, true) }) (v := ?_) rfl (by kernel_rfl) (by kernel_rfl) (by kernel_rfl) (fun _ _ _ h => h) (Or.inl ⟨by rfl, ?_⟩) hHeld ?_
      rotate_left
      · (intro w' hSw; (try dsimp only at hSw); go_split_ands; go_simp; first | done | with_reducible rfl)
      try simp only [Act.put, List.setIfInBounds_toArray, List.set_cons_zero, List.set_cons_succ]
      refine wpAnyH_take (i := 18) (oi := { dst := some 83, op := Op.move (Operand.tmp 0), type := 22, pos := "law.go:74", after := #[{ on := 14, ground := Ground.guard }], guard := some (14, true) }) (v := ?_) rfl (by kernel_rfl) (by kernel_rfl) (by kernel_rfl) (fun _ _ _ h => h) (Or.inl ⟨by rfl, ?_⟩) hHeld ?_
      rotate_left
      · (intro w' hSw; (try dsimp only at hSw); go_split_ands; go_simp; first | done | with_reducible rfl)
      try simp only [Act.put, List.setIfInBounds_toArray, List.set_cons_zero, List.set_cons_succ]
      refine wpAnyH_take (i := 19) (oi := { dst := some 84, op := Op.indexAddr 22 (Operand.tmp 83) (Operand.const (Value.int IntKind.i64 0)), type := 0, pos := "law.go:74", after := #[{ on := 18, ground := Ground.data }, { on := 14, ground := Ground.guard }], guard := some (14, true) }) (v := ?_) rfl (by kernel_rfl) (by kernel_rfl) (by kernel_rfl) (fun _ _ _ h => h) (Or.inl ⟨by rfl, ?_⟩) hHeld ?_
      rotate_left
      · (intro w' hSw; (try dsimp only at hSw); go_split_ands; go_simp; first | done | with_reducible rfl)
      try simp only [Act.put, List.setIfInBounds_toArray, List.set_cons_zero, List.set_cons_succ]
      refine wpAnyH_take (i := 20) (oi := { dst := some 85, op := Op.load 23 (Operand.tmp 84), type := 23, pos := "law.go:74", after := #[{ on := 19, ground := Ground.data }, { on := 14, ground := Ground.guard }], guard := some (14, true) }) (v := ?_) rfl (by kernel_rfl) (by kernel_rfl) (by kernel_rfl) (fun _ _ _ h => h) (Or.inl ⟨by rfl, ?_⟩) hHeld ?_
      rotate_left
      · (intro w' hSw; (try dsimp only at hSw); go_split_ands; go_simp; first | done | with_reducible rfl)
      try simp only [Act.put, List.setIfInBounds_toArray, List.set_cons_zero, List.set_cons_succ]
      refine wpAnyH_take (i := 21) (oi := { dst := some 86, op := Op.convert 23 9 (Operand.tmp 85), type := 9, pos := "law.go:74", after := #[{ on := 20, ground := Ground.data }, { on := 14, ground := Ground.guard }], guard := some (14, true) }) (v := ?_) rfl (by kernel_rfl) (by kernel_rfl) (by kernel_rfl) (fun _ _ _ h => h) (Or.inl ⟨by rfl, ?_⟩) hHeld ?_
      rotate_left
      · (intro w' hSw; (try dsimp only at hSw); go_split_ands; go_simp; first | done | with_reducible rfl)
      try simp only [Act.put, List.setIfInBounds_toArray, List.set_cons_zero, List.set_cons_succ]
      refine wpAnyH_ready (rs := [16]) (by kernel_rfl) (by simp) ?_
      refine AllReadyH.cons (o := { dst := some 81, op := Op.call { callee := Callee.value (Operand.func 20), args := #[Operand.tmp 80], argTypes := #[29] }, type := 23, pos := "law.go:74", after := #[{ on := 15, ground := Ground.data }, { on := 14, ground := Ground.chain }, { on := 14, ground := Ground.guard }], guard := some (14, true) }) rfl (fun K hK => ?_) AllReadyH.nil
      go_simp
      refine HFi.out.mono ?_
      rintro en w6 ⟨v6, rfl, hown6, hb6'⟩
      have hb6 : Below W.heap.size W w6 := hbD.trans hb6'
      obtain ⟨A6, c6, rfl, hc6, -, -, hs6⟩ := hown6.open_
      have cv6 := run_str w6 _ A6 L0.length c6 L0 hs6 rfl
      go_wp2_with fail
      refine hK.out _ _ ?_ ?_
      · (exact HK.out _ hb6)
      clear hK K hHeld; intro hHeld
      try simp only [Act.put, List.setIfInBounds_toArray, List.set_cons_zero, List.set_cons_succ]
      refine wpAnyH_ready (rs := [17]) (by kernel_rfl) (by simp) ?_
      refine AllReadyH.cons (o := { dst := some 82, op := Op.convert 23 9 (Operand.tmp 81), type := 9, pos := "law.go:74", after := #[{ on := 16, ground := Ground.data }, { on := 14, ground := Ground.guard }], guard := some (14, true) }) rfl (fun K hK => ?_) AllReadyH.nil
      go_simp
      refine hK.out _ _ ?_ ?_
      · (exact HK.out _ hb6)
      clear hK K hHeld; intro hHeld
      try simp only [Act.put, List.setIfInBounds_toArray, List.set_cons_zero, List.set_cons_succ]
      refine wpAnyH_take (i := 22) (oi := { dst := some 87, op := Op.binOp BinOp.eql 9 (Operand.tmp 82) (Operand.tmp 86) 9, type := 4, pos := "law.go:74", after := #[{ on := 17, ground := Ground.data }, { on := 21, ground := Ground.data }, { on := 14, ground := Ground.guard }], guard := some (14, true) }) (v := ?_) rfl (by kernel_rfl) (by kernel_rfl) (by kernel_rfl) (fun _ _ _ h => h) (Or.inl ⟨by rfl, ?_⟩) hHeld ?_
      rotate_left
      · (intro w' hSw; (try dsimp only at hSw); go_split_ands; go_simp; first | done | with_reducible rfl)
      try simp only [Act.put, List.setIfInBounds_toArray, List.set_cons_zero, List.set_cons_succ]
      refine wpAnyH_take (i := 23) (oi := { dst := some 88, op := Op.pick (Operand.tmp 79) (Operand.tmp 87) (Operand.const (Value.bool false)), type := 4, pos := "law.go:74", after := #[{ on := 14, ground := Ground.data }, { on := 22, ground := Ground.data }], guard := none }) (v := ?_) rfl (by kernel_rfl) (by kernel_rfl) (by kernel_rfl) (fun _ _ _ h => h) (Or.inl ⟨by rfl, ?_⟩) hHeld ?_
      rotate_left
      · (intro w' hSw; (try dsimp only at hSw); go_split_ands; go_simp; first | done | with_reducible rfl)
      try simp only [Act.put, List.setIfInBounds_toArray, List.set_cons_zero, List.set_cons_succ]
      refine wpAnyH_take (i := 24) (oi := { dst := some 89, op := Op.move (Operand.tmp 88), type := 4, pos := "law.go:74", after := #[{ on := 23, ground := Ground.data }, { on := 16, ground := Ground.chain }], guard := none }) (v := .bool true) rfl (by kernel_rfl) (by kernel_rfl) (by kernel_rfl) (fun _ _ _ h => h) (Or.inl ⟨by rfl, ?_⟩) hHeld ?_
      · (intro w' hSw; (try dsimp only at hSw); go_split_ands; go_simp; first | done | with_reducible rfl | simp)
      try simp only [Act.put, List.setIfInBounds_toArray, List.set_cons_zero, List.set_cons_succ]
      refine wpAnyH_take (i := 25) (oi := { dst := some 90, op := Op.move (Operand.tmp 11), type := 29, pos := "law.go:74", after := #[{ on := 24, ground := Ground.guard }], guard := some (24, true) }) (v := ?_) rfl (by kernel_rfl) (by kernel_rfl) (by kernel_rfl) (fun _ _ _ h => h) (Or.inl ⟨by rfl, ?_⟩) hHeld ?_
      rotate_left
      · (intro w' hSw; (try dsimp only at hSw); go_split_ands; go_simp; first | done | with_reducible rfl)
      try simp only [Act.put, List.setIfInBounds_toArray, List.set_cons_zero, List.set_cons_succ]
      refine wpAnyH_take (i := 28) (oi := { dst := some 93, op := Op.move (Operand.tmp 0), type := 22, pos := "law.go:74", after := #[{ on := 24, ground := Ground.guard }], guard := some (24, true) }) (v := ?_) rfl (by kernel_rfl) (by kernel_rfl) (by kernel_rfl) (fun _ _ _ h => h) (Or.inl ⟨by rfl, ?_⟩) hHeld ?_
      rotate_left
      · (intro w' hSw; (try dsimp only at hSw); go_split_ands; go_simp; first | done | with_reducible rfl)
      try simp only [Act.put, List.setIfInBounds_toArray, List.set_cons_zero, List.set_cons_succ]
      refine wpAnyH_take (i := 29) (oi := { dst := some 94, op := Op.move (Operand.tmp 0), type := 22, pos := "law.go:74", after := #[{ on := 24, ground := Ground.guard }], guard := some (24, true) }) (v := ?_) rfl (by kernel_rfl) (by kernel_rfl) (by kernel_rfl) (fun _ _ _ h => h) (Or.inl ⟨by rfl, ?_⟩) hHeld ?_
      rotate_left
      · (intro w' hSw; (try dsimp only at hSw); go_split_ands; go_simp; first | done | with_reducible rfl)
      try simp only [Act.put, List.setIfInBounds_toArray, List.set_cons_zero, List.set_cons_succ]
      refine wpAnyH_take (i := 30) (oi := { dst := some 95, op := Op.call { callee := Callee.builtin Builtin.len, args := #[Operand.tmp 94], argTypes := #[22] }, type := 3, pos := "law.go:74", after := #[{ on := 29, ground := Ground.data }, { on := 24, ground := Ground.guard }], guard := some (24, true) }) (v := ?_) rfl (by kernel_rfl) (by kernel_rfl) (by kernel_rfl) (fun _ _ _ h => h) (Or.inl ⟨by rfl, ?_⟩) hHeld ?_
      rotate_left
      · (intro w' hSw; (try dsimp only at hSw); go_split_ands; go_simp; first | done | with_reducible rfl)
      try simp only [Act.put, List.setIfInBounds_toArray, List.set_cons_zero, List.set_cons_succ]
      refine wpAnyH_take (i := 31) (oi := { dst := some 96, op := Op.binOp BinOp.sub 3 (Operand.tmp 95) (Operand.const (Value.int IntKind.i64 1)) 3, type := 3, pos := "law.go:74", after := #[{ on := 30, ground := Ground.data }, { on := 24, ground := Ground.guard }], guard := some (24, true) }) (v := ?_) rfl (by kernel_rfl) (by kernel_rfl) (by kernel_rfl) (fun _ _ _ h => h) (Or.inl ⟨by rfl, ?_⟩) hHeld ?_
      rotate_left
      · (intro w' hSw; (try dsimp only at hSw); go_split_ands; go_simp; first | done | with_reducible rfl)
      try simp only [Act.put, List.setIfInBounds_toArray, List.set_cons_zero, List.set_cons_succ]
      refine wpAnyH_take (i := 32) (oi := { dst := some 97, op := Op.indexAddr 22 (Operand.tmp 93) (Operand.tmp 96), type := 0, pos := "law.go:74", after := #[{ on := 28, ground := Ground.data }, { on := 31, ground := Ground.data }, { on := 24, ground := Ground.guard }], guard := some (24, true) }) (v := ?_) rfl (by kernel_rfl) (by kernel_rfl) (by kernel_rfl) (fun _ _ _ h => h) (Or.inl ⟨by rfl, ?_⟩) hHeld ?_
      rotate_left
      · (intro w' hSw; (try dsimp only at hSw); go_split_ands; go_simp; first | done | with_reducible rfl)
      try simp only [Act.put, List.setIfInBounds_toArray, List.set_cons_zero, List.set_cons_succ]
      refine wpAnyH_take (i := 33) (oi := { dst := some 98, op := Op.load 23 (Operand.tmp 97), type := 23, pos := "law.go:74", after := #[{ on := 32, ground := Ground.data }, { on := 24, ground := Ground.guard }], guard := some (24, true) }) (v := ?_) rfl (by kernel_rfl) (by kernel_rfl) (by kernel_rfl) (fun _ _ _ h => h) (Or.inl ⟨by rfl, ?_⟩) hHeld ?_
      rotate_left
      · (intro w' hSw; (try dsimp only at hSw); go_split_ands; go_simp; first | done | with_reducible rfl)
      try simp only [Act.put, List.setIfInBounds_toArray, List.set_cons_zero, List.set_cons_succ]
      refine wpAnyH_take (i := 34) (oi := { dst := some 99, op := Op.convert 23 9 (Operand.tmp 98), type := 9, pos := "law.go:74", after := #[{ on := 33, ground := Ground.data }, { on := 24, ground := Ground.guard }], guard := some (24, true) }) (v := ?_) rfl (by kernel_rfl) (by kernel_rfl) (by kernel_rfl) (fun _ _ _ h => h) (Or.inl ⟨by rfl, ?_⟩) hHeld ?_
      rotate_left
      · (intro w' hSw; (try dsimp only at hSw); go_split_ands; go_simp; first | done | with_reducible rfl)
      try simp only [Act.put, List.setIfInBounds_toArray, List.set_cons_zero, List.set_cons_succ]
      refine wpAnyH_ready (rs := [26]) (by kernel_rfl) (by simp) ?_
      refine AllReadyH.cons (o := { dst := some 91, op := Op.call { callee := Callee.value (Operand.func 21), args := #[Operand.tmp 90], argTypes := #[29] }, type := 23, pos := "law.go:74", after := #[{ on := 25, ground := Ground.data }, { on := 24, ground := Ground.chain }, { on := 24, ground := Ground.guard }], guard := some (24, true) }) rfl (fun K hK => ?_) AllReadyH.nil
      go_simp
      have hLa := Last_any (HPW.out.later hb6) fun k e => e
      rw [HLA.out] at hLa
      refine hLa.mono ?_
      rintro en w7 ⟨v7, rfl, hown7, hb7'⟩
      have hb7 : Below W.heap.size W w7 := hb6.trans (hb7'.mono hb6.size)
      obtain ⟨A7, c7, rfl, hc7, -, -, hs7⟩ := hown7.open_
      have cv7 := run_str w7 _ A7 Lj.length c7 Lj hs7 rfl
      clear hLa cv6 hs6 hown6 hown7
      go_wp2_with fail
      refine hK.out _ _ ?_ ?_
      · (exact HK.out _ hb7)
      clear hK K hHeld; intro hHeld
      try simp only [Act.put, List.setIfInBounds_toArray, List.set_cons_zero, List.set_cons_succ]
      refine wpAnyH_ready (rs := [27]) (by kernel_rfl) (by simp) ?_
      refine AllReadyH.cons (o := { dst := some 92, op := Op.convert 23 9 (Operand.tmp 91), type := 9, pos := "law.go:74", after := #[{ on := 26, ground := Ground.data }, { on := 24, ground := Ground.guard }], guard := some (24, true) }) rfl (fun K hK => ?_) AllReadyH.nil
      go_simp
      refine hK.out _ _ ?_ ?_
      · (exact HK.out _ hb7)
      clear hK K hHeld; intro hHeld
      try simp only [Act.put, List.setIfInBounds_toArray, List.set_cons_zero, List.set_cons_succ]
      refine wpAnyH_take (i := 35) (oi := { dst := some 100, op := Op.binOp BinOp.eql 9 (Operand.tmp 92) (Operand.tmp 99) 9, type := 4, pos := "law.go:74", after := #[{ on := 27, ground := Ground.data }, { on := 34, ground := Ground.data }, { on := 24, ground := Ground.guard }], guard := some (24, true) }) (v := ?_) rfl (by kernel_rfl) (by kernel_rfl) (by kernel_rfl) (fun _ _ _ h => h) (Or.inl ⟨by rfl, ?_⟩) hHeld ?_
      rotate_left
      · (intro w' hSw; (try dsimp only at hSw); go_split_ands; go_simp; first | done | with_reducible rfl)
      try simp only [Act.put, List.setIfInBounds_toArray, List.set_cons_zero, List.set_cons_succ]
      refine wpAnyH_take (i := 36) (oi := { dst := some 101, op := Op.pick (Operand.tmp 89) (Operand.tmp 100) (Operand.const (Value.bool false)), type := 4, pos := "law.go:74", after := #[{ on := 24, ground := Ground.data }, { on := 35, ground := Ground.data }], guard := none }) (v := ?_) rfl (by kernel_rfl) (by kernel_rfl) (by kernel_rfl) (fun _ _ _ h => h) (Or.inl ⟨by rfl, ?_⟩) hHeld ?_
      rotate_left
      · (intro w' hSw; (try dsimp only at hSw); go_split_ands; go_simp; first | done | with_reducible rfl)
      try simp only [Act.put, List.setIfInBounds_toArray, List.set_cons_zero, List.set_cons_succ]
      refine wpAnyH_take (i := 37) (oi := { dst := some 102, op := Op.move (Operand.tmp 101), type := 4, pos := "law.go:74", after := #[{ on := 36, ground := Ground.data }, { on := 26, ground := Ground.chain }], guard := none }) (v := .bool true) rfl (by kernel_rfl) (by kernel_rfl) (by kernel_rfl) (fun _ _ _ h => h) (Or.inl ⟨by rfl, ?_⟩) hHeld ?_
      · (intro w' hSw; (try dsimp only at hSw); go_split_ands; go_simp; first | done | with_reducible rfl | simp)
      try simp only [Act.put, List.setIfInBounds_toArray, List.set_cons_zero, List.set_cons_succ]
      refine wpAnyH_take (i := 38) (oi := { dst := some 103, op := Op.move (Operand.tmp 11), type := 29, pos := "law.go:74", after := #[{ on := 37, ground := Ground.guard }], guard := some (37, true) }) (v := ?_) rfl (by kernel_rfl) (by kernel_rfl) (by kernel_rfl) (fun _ _ _ h => h) (Or.inl ⟨by rfl, ?_⟩) hHeld ?_
      rotate_left
      · (intro w' hSw; (try dsimp only at hSw); go_split_ands; go_simp; first | done | with_reducible rfl)
      try simp only [Act.put, List.setIfInBounds_toArray, List.set_cons_zero, List.set_cons_succ]
      refine wpAnyH_take (i := 39) (oi := { dst := some 104, op := Op.move (Operand.tmp 1), type := 23, pos := "law.go:74", after := #[{ on := 37, ground := Ground.guard }], guard := some (37, true) }) (v := ?_) rfl (by kernel_rfl) (by kernel_rfl) (by kernel_rfl) (fun _ _ _ h => h) (Or.inl ⟨by rfl, ?_⟩) hHeld ?_
      rotate_left
      · (intro w' hSw; (try dsimp only at hSw); go_split_ands; go_simp; first | done | with_reducible rfl)
      try simp only [Act.put, List.setIfInBounds_toArray, List.set_cons_zero, List.set_cons_succ]
      refine wpAnyH_take (i := 41) (oi := { dst := some 106, op := Op.move (Operand.tmp 13), type := 4, pos := "law.go:74", after := #[{ on := 37, ground := Ground.guard }], guard := some (37, true) }) (v := ?_) rfl (by kernel_rfl) (by kernel_rfl) (by kernel_rfl) (fun _ _ _ h => h) (Or.inl ⟨by rfl, ?_⟩) hHeld ?_
      rotate_left
      · (intro w' hSw; (try dsimp only at hSw); go_split_ands; go_simp; first | done | with_reducible rfl)
      try simp only [Act.put, List.setIfInBounds_toArray, List.set_cons_zero, List.set_cons_succ]
      refine wpAnyH_ready (rs := [40]) (by kernel_rfl) (by simp) ?_
      refine AllReadyH.cons (o := { dst := some 105, op := Op.call { callee := Callee.value (Operand.func 22), args := #[Operand.tmp 103, Operand.tmp 104], argTypes := #[29, 23] }, type := 4, pos := "law.go:74", after := #[{ on := 38, ground := Ground.data }, { on := 39, ground := Ground.data }, { on := 37, ground := Ground.chain }, { on := 37, ground := Ground.guard }], guard := some (37, true) }) rfl (fun K hK => ?_) AllReadyH.nil
      go_simp
      have hHa := Has_part (lx := lx) (dx := dx) (HPW.out.later hb7) ((HXW.out.below hb7).more hb7.size) HXL.out
      rw [hmx.out] at hHa
      refine hHa.mono ?_
      rintro en w8 ⟨rfl, hb8'⟩
      have hb8 : Below W.heap.size W w8 := hb7.trans (hb8'.mono hb7.size)
      clear hHa cv7 hs7
      go_wp2_with fail
      refine hK.out _ _ ?_ ?_
      · (exact HK.out _ hb8)
      clear hK K hHeld; intro hHeld
      try simp only [Act.put, List.setIfInBounds_toArray, List.set_cons_zero, List.set_cons_succ]
      refine wpAnyH_take (i := 42) (oi := { dst := some 107, op := Op.binOp BinOp.eql 4 (Operand.tmp 105) (Operand.tmp 106) 4, type := 4, pos := "law.go:74", after := #[{ on := 40, ground := Ground.data }, { on := 41, ground := Ground.data }, { on := 37, ground := Ground.guard }], guard := some (37, true) }) (v := ?_) rfl (by kernel_rfl) (by kernel_rfl) (by kernel_rfl) (fun _ _ _ h => h) (Or.inl ⟨by rfl, ?_⟩) hHeld ?_
      rotate_left
      · (intro w' hSw; (try dsimp only at hSw); go_split_ands; go_simp; first | done | with_reducible rfl)
      try simp only [Act.put, List.setIfInBounds_toArray, List.set_cons_zero, List.set_cons_succ]
      refine wpAnyH_take (i := 43) (oi := { dst := some 108, op := Op.pick (Operand.tmp 102) (Operand.tmp 107) (Operand.const (Value.bool false)), type := 4, pos := "law.go:74", after := #[{ on := 37, ground := Ground.data }, { on := 42, ground := Ground.data }], guard := none }) (v := ?_) rfl (by kernel_rfl) (by kernel_rfl) (by kernel_rfl) (fun _ _ _ h => h) (Or.inl ⟨by rfl, ?_⟩) hHeld ?_
      rotate_left
      · (intro w' hSw; (try dsimp only at hSw); go_split_ands; go_simp; first | done | with_reducible rfl)
      try simp only [Act.put, List.setIfInBounds_toArray, List.set_cons_zero, List.set_cons_succ]
      refine wpAnyH_take (i := 44) (oi := { dst := some 109, op := Op.move (Operand.tmp 108), type := 4, pos := "law.go:74", after := #[{ on := 43, ground := Ground.data }, { on := 40, ground := Ground.chain }], guard := none }) (v := .bool true) rfl (by kernel_rfl) (by kernel_rfl) (by kernel_rfl) (fun _ _ _ h => h) (Or.inl ⟨by rfl, ?_⟩) hHeld ?_
      · (intro w' hSw; (try dsimp only at hSw); go_split_ands; go_simp; first | done | with_reducible rfl | simp)
      try simp only [Act.put, List.setIfInBounds_toArray, List.set_cons_zero, List.set_cons_succ]
      refine wpAnyH_take (i := 45) (oi := { dst := some 110, op := Op.move (Operand.tmp 11), type := 29, pos := "law.go:74", after := #[{ on := 44, ground := Ground.guard }], guard := some (44, true) }) (v := ?_) rfl (by kernel_rfl) (by kernel_rfl) (by kernel_rfl) (fun _ _ _ h => h) (Or.inl ⟨by rfl, ?_⟩) hHeld ?_
      rotate_left
      · (intro w' hSw; (try dsimp only at hSw); go_split_ands; go_simp; first | done | with_reducible rfl)
      try simp only [Act.put, List.setIfInBounds_toArray, List.set_cons_zero, List.set_cons_succ]
      refine wpAnyH_take (i := 46) (oi := { dst := some 111, op := Op.move (Operand.tmp 1), type := 23, pos := "law.go:74", after := #[{ on := 44, ground := Ground.guard }], guard := some (44, true) }) (v := ?_) rfl (by kernel_rfl) (by kernel_rfl) (by kernel_rfl) (fun _ _ _ h => h) (Or.inl ⟨by rfl, ?_⟩) hHeld ?_
      rotate_left
      · (intro w' hSw; (try dsimp only at hSw); go_split_ands; go_simp; first | done | with_reducible rfl)
      try simp only [Act.put, List.setIfInBounds_toArray, List.set_cons_zero, List.set_cons_succ]
      refine wpAnyH_take (i := 47) (oi := { dst := some 112, op := Op.move (Operand.tmp 2), type := 3, pos := "law.go:74", after := #[{ on := 44, ground := Ground.guard }], guard := some (44, true) }) (v := ?_) rfl (by kernel_rfl) (by kernel_rfl) (by kernel_rfl) (fun _ _ _ h => h) (Or.inl ⟨by rfl, ?_⟩) hHeld ?_
      rotate_left
      · (intro w' hSw; (try dsimp only at hSw); go_split_ands; go_simp; first | done | with_reducible rfl)
      try simp only [Act.put, List.setIfInBounds_toArray, List.set_cons_zero, List.set_cons_succ]
      refine wpAnyH_take (i := 49) (oi := { dst := some 114, op := Op.move (Operand.tmp 0), type := 22, pos := "law.go:74", after := #[{ on := 44, ground := Ground.guard }], guard := some (44, true) }) (v := ?_) rfl (by kernel_rfl) (by kernel_rfl) (by kernel_rfl) (fun _ _ _ h => h) (Or.inl ⟨by rfl, ?_⟩) hHeld ?_
      rotate_left
      · (intro w' hSw; (try dsimp only at hSw); go_split_ands; go_simp; first | done | with_reducible rfl)
      try simp only [Act.put, List.setIfInBounds_toArray, List.set_cons_zero, List.set_cons_succ]
      refine wpAnyH_take (i := 50) (oi := { dst := some 115, op := Op.move (Operand.tmp 1), type := 23, pos := "law.go:74", after := #[{ on := 44, ground := Ground.guard }], guard := some (44, true) }) (v := ?_) rfl (by kernel_rfl) (by kernel_rfl) (by kernel_rfl) (fun _ _ _ h => h) (Or.inl ⟨by rfl, ?_⟩) hHeld ?_
      rotate_left
      · (intro w' hSw; (try dsimp only at hSw); go_split_ands; go_simp; first | done | with_reducible rfl)
      try simp only [Act.put, List.setIfInBounds_toArray, List.set_cons_zero, List.set_cons_succ]
      refine wpAnyH_take (i := 51) (oi := { dst := some 116, op := Op.move (Operand.tmp 2), type := 3, pos := "law.go:74", after := #[{ on := 44, ground := Ground.guard }], guard := some (44, true) }) (v := ?_) rfl (by kernel_rfl) (by kernel_rfl) (by kernel_rfl) (fun _ _ _ h => h) (Or.inl ⟨by rfl, ?_⟩) hHeld ?_
      rotate_left
      · (intro w' hSw; (try dsimp only at hSw); go_split_ands; go_simp; first | done | with_reducible rfl)
      try simp only [Act.put, List.setIfInBounds_toArray, List.set_cons_zero, List.set_cons_succ]
      refine wpAnyH_ready (rs := [48]) (by kernel_rfl) (by simp) ?_
      refine AllReadyH.cons (o := { dst := some 113, op := Op.call { callee := Callee.value (Operand.func 16), args := #[Operand.tmp 110, Operand.tmp 111, Operand.tmp 112], argTypes := #[29, 23, 3] }, type := 22, pos := "law.go:74", after := #[{ on := 45, ground := Ground.data }, { on := 46, ground := Ground.data }, { on := 47, ground := Ground.data }, { on := 44, ground := Ground.chain }, { on := 44, ground := Ground.guard }], guard := some (44, true) }) rfl (fun K hK => ?_) AllReadyH.nil
      go_simp
      have hFr := From_part (lx := lx) (dx := dx) (HPW.out.later hb8) ((HXW.out.below hb8).more hb8.size) HXL.out most
      rw [HY.out] at hFr
      refine hFr.mono ?_
      rintro en w9 hIs
      obtain ⟨A9, c9, rfl, hc9, hS9, hb9'⟩ := hIs.open_
      have hb9 : Below W.heap.size W w9 := hb8.trans (hb9'.mono hb8.size)
      clear hIs hFr
      go_wp2_with fail
      refine hK.out _ _ ?_ ?_
      · (exact HK.out _ hb9)
      clear hK K hHeld; intro hHeld
      try simp only [Act.put, List.setIfInBounds_toArray, List.set_cons_zero, List.set_cons_succ]
      refine wpAnyH_ready (rs := [52]) (by kernel_rfl) (by simp) ?_
      refine AllReadyH.cons (o := { dst := some 117, op := Op.call { callee := Callee.value (Operand.func 23), args := #[Operand.tmp 114, Operand.tmp 115, Operand.tmp 116], argTypes := #[22, 23, 3] }, type := 22, pos := "law.go:74", after := #[{ on := 49, ground := Ground.data }, { on := 50, ground := Ground.data }, { on := 51, ground := Ground.data }, { on := 48, ground := Ground.chain }, { on := 44, ground := Ground.guard }], guard := some (44, true) }) rfl (fun K hK => ?_) AllReadyH.nil
      go_simp
      have hFr := RefFrom_any _ n c ls HN.out w9 ((HSW.out.below hb9).more hb9.size) Bx lx dx x ((HXW.out.below hb9).more hb9.size) HXL.out most (by omega)
      rw [HY.out] at hFr
      refine hFr.mono ?_
      rintro en wa ⟨va, rfl, hrowa, hba'⟩
      obtain ⟨Aa, ca, rfl, hca, hSa⟩ := hrowa.open_ hba'.size
      have hba : Below W.heap.size W wa := hb9.trans (hba'.mono hb9.size)
      clear hrowa hFr
      go_wp2_with fail
      refine hK.out _ _ ?_ ?_
      · (exact HK.out _ hba)
      clear hK K hHeld; intro hHeld
      try simp only [Act.put, List.setIfInBounds_toArray, List.set_cons_zero, List.set_cons_succ]
      refine wpAnyH_ready (rs := [53]) (by kernel_rfl) (by simp) ?_
      refine AllReadyH.cons (o := { dst := some 118, op := Op.call { callee := Callee.value (Operand.func 15), args := #[Operand.tmp 113, Operand.tmp 117], argTypes := #[22, 22] }, type := 4, pos := "law.go:74", after := #[{ on := 48, ground := Ground.data }, { on := 52, ground := Ground.data }, { on := 52, ground := Ground.chain }, { on := 44, ground := Ground.guard }], guard := some (44, true) }) rfl (fun K hK => ?_) AllReadyH.nil
      go_simp
      have hsm := Same_any A9 Aa _ c9 _ ca _ _ rfl rfl wa ((hS9.below hba').more hba'.size) hSa (by omega)
      unfold BoolIs at hsm
      rw [show (Y == Y) = true from by simp] at hsm
      refine hsm.mono ?_
      rintro en wb ⟨rfl, q1, hwb⟩
      have hbb : Below W.heap.size W wb := by rw [hwb]; exact below_d hba _
      clear hsm hwb
      go_wp2_with fail
      refine hK.out _ _ ?_ ?_
      · (exact HK.out _ hbb)
      clear hK K hHeld; intro hHeld
      try simp only [Act.put, List.setIfInBounds_toArray, List.set_cons_zero, List.set_cons_succ]
      refine wpAnyH_take (i := 54) (oi := { dst := some 119, op := Op.pick (Operand.tmp 109) (Operand.tmp 118) (Operand.const (Value.bool false)), type := 4, pos := "law.go:74", after := #[{ on := 44, ground := Ground.data }, { on := 53, ground := Ground.data }], guard := none }) (v := ?_) rfl (by kernel_rfl) (by kernel_rfl) (by kernel_rfl) (fun _ _ _ h => h) (Or.inl ⟨by rfl, ?_⟩) hHeld ?_
      rotate_left
      · (intro w' hSw; (try dsimp only at hSw); go_split_ands; go_simp; first | done | with_reducible rfl)
      try simp only [Act.put, List.setIfInBounds_toArray, List.set_cons_zero, List.set_cons_succ]
      refine wpAnyH_take (i := 55) (oi := { dst := some 120, op := Op.move (Operand.tmp 119), type := 4, pos := "law.go:74", after := #[{ on := 54, ground := Ground.data }, { on := 53, ground := Ground.chain }], guard := none }) (v := .bool true) rfl (by kernel_rfl) (by kernel_rfl) (by kernel_rfl) (fun _ _ _ h => h) (Or.inl ⟨by rfl, ?_⟩) hHeld ?_
      · (intro w' hSw; (try dsimp only at hSw); go_split_ands; go_simp; first | done | with_reducible rfl | simp)
      try simp only [Act.put, List.setIfInBounds_toArray, List.set_cons_zero, List.set_cons_succ]
      refine wpAnyH_take (i := 56) (oi := { dst := some 121, op := Op.move (Operand.tmp 11), type := 29, pos := "law.go:74", after := #[{ on := 55, ground := Ground.guard }], guard := some (55, true) }) (v := ?_) rfl (by kernel_rfl) (by kernel_rfl) (by kernel_rfl) (fun _ _ _ h => h) (Or.inl ⟨by rfl, ?_⟩) hHeld ?_
      rotate_left
      · (intro w' hSw; (try dsimp only at hSw); go_split_ands; go_simp; first | done | with_reducible rfl)
      try simp only [Act.put, List.setIfInBounds_toArray, List.set_cons_zero, List.set_cons_succ]
      refine wpAnyH_take (i := 57) (oi := { dst := some 122, op := Op.move (Operand.tmp 1), type := 23, pos := "law.go:74", after := #[{ on := 55, ground := Ground.guard }], guard := some (55, true) }) (v := ?_) rfl (by kernel_rfl) (by kernel_rfl) (by kernel_rfl) (fun _ _ _ h => h) (Or.inl ⟨by rfl, ?_⟩) hHeld ?_
      rotate_left
      · (intro w' hSw; (try dsimp only at hSw); go_split_ands; go_simp; first | done | with_reducible rfl)
      try simp only [Act.put, List.setIfInBounds_toArray, List.set_cons_zero, List.set_cons_succ]
      refine wpAnyH_take (i := 59) (oi := { dst := some 124, op := Op.move (Operand.tmp 0), type := 22, pos := "law.go:74", after := #[{ on := 55, ground := Ground.guard }], guard := some (55, true) }) (v := ?_) rfl (by kernel_rfl) (by kernel_rfl) (by kernel_rfl) (fun _ _ _ h => h) (Or.inl ⟨by rfl, ?_⟩) hHeld ?_
      rotate_left
      · (intro w' hSw; (try dsimp only at hSw); go_split_ands; go_simp; first | done | with_reducible rfl)
      try simp only [Act.put, List.setIfInBounds_toArray, List.set_cons_zero, List.set_cons_succ]
      refine wpAnyH_take (i := 60) (oi := { dst := some 125, op := Op.move (Operand.tmp 1), type := 23, pos := "law.go:74", after := #[{ on := 55, ground := Ground.guard }], guard := some (55, true) }) (v := ?_) rfl (by kernel_rfl) (by kernel_rfl) (by kernel_rfl) (fun _ _ _ h => h) (Or.inl ⟨by rfl, ?_⟩) hHeld ?_
      rotate_left
      · (intro w' hSw; (try dsimp only at hSw); go_split_ands; go_simp; first | done | with_reducible rfl)
      try simp only [Act.put, List.setIfInBounds_toArray, List.set_cons_zero, List.set_cons_succ]
      refine wpAnyH_ready (rs := [58]) (by kernel_rfl) (by simp) ?_
      refine AllReadyH.cons (o := { dst := some 123, op := Op.call { callee := Callee.value (Operand.func 24), args := #[Operand.tmp 121, Operand.tmp 122], argTypes := #[29, 23] }, type := 22, pos := "law.go:74", after := #[{ on := 56, ground := Ground.data }, { on := 57, ground := Ground.data }, { on := 55, ground := Ground.chain }, { on := 55, ground := Ground.guard }], guard := some (55, true) }) rfl (fun K hK => ?_) AllReadyH.nil
      go_simp
      have hFr := Prefix_part (lx := lx) (dx := dx) (HPW.out.later hbb) ((HXW.out.below hbb).more hbb.size) HXL.out
      rw [HZ.out] at hFr
      refine hFr.mono ?_
      rintro en wc hIs
      obtain ⟨Ac, cc, rfl, hcc, hSc, hbc'⟩ := hIs.open_
      have hbc : Below W.heap.size W wc := hbb.trans (hbc'.mono hbb.size)
      clear hIs hFr
      go_wp2_with fail
      refine hK.out _ _ ?_ ?_
      · (exact HK.out _ hbc)
      clear hK K hHeld; intro hHeld
      try simp only [Act.put, List.setIfInBounds_toArray, List.set_cons_zero, List.set_cons_succ]
      refine wpAnyH_ready (rs := [61]) (by kernel_rfl) (by simp) ?_
      refine AllReadyH.cons (o := { dst := some 126, op := Op.call { callee := Callee.value (Operand.func 25), args := #[Operand.tmp 124, Operand.tmp 125], argTypes := #[22, 23] }, type := 22, pos := "law.go:74", after := #[{ on := 59, ground := Ground.data }, { on := 60, ground := Ground.data }, { on := 58, ground := Ground.chain }, { on := 55, ground := Ground.guard }], guard := some (55, true) }) rfl (fun K hK => ?_) AllReadyH.nil
      go_simp
      have hFr := RefPrefix_any _ n c ls HN.out wc ((HSW.out.below hbc).more hbc.size) Bx lx dx x ((HXW.out.below hbc).more hbc.size) HXL.out (by omega) (by omega)
      rw [HZ.out] at hFr
      refine hFr.mono ?_
      rintro en wd ⟨vd, rfl, hrowd, hbd'⟩
      obtain ⟨Ad, cd, rfl, hcd, hSd⟩ := hrowd.open_ hbd'.size
      have hbd : Below W.heap.size W wd := hbc.trans (hbd'.mono hbc.size)
      clear hrowd hFr
      go_wp2_with fail
      refine hK.out _ _ ?_ ?_
      · (exact HK.out _ hbd)
      clear hK K hHeld; intro hHeld
      try simp only [Act.put, List.setIfInBounds_toArray, List.set_cons_zero, List.set_cons_succ]
      refine wpAnyH_ready (rs := [62]) (by kernel_rfl) (by simp) ?_
      refine AllReadyH.cons (o := { dst := some 127, op := Op.call { callee := Callee.value (Operand.func 15), args := #[Operand.tmp 123, Operand.tmp 126], argTypes := #[22, 22] }, type := 4, pos := "law.go:74", after := #[{ on := 58, ground := Ground.data }, { on := 61, ground := Ground.data }, { on := 61, ground := Ground.chain }, { on := 55, ground := Ground.guard }], guard := some (55, true) }) rfl (fun K hK => ?_) AllReadyH.nil
      go_simp
      have hsm := Same_any Ac Ad _ cc _ cd _ _ rfl rfl wd ((hSc.below hbd').more hbd'.size) hSd (by omega)
      unfold BoolIs at hsm
      rw [show (Z == Z) = true from by simp] at hsm
      refine hsm.mono ?_
      rintro en we ⟨rfl, q2, hwe⟩
      have hbe : Below W.heap.size W we := by rw [hwe]; exact below_d hbd _
      clear hsm hwe
      go_wp2_with fail
      refine hK.out _ _ ?_ ?_
      · (exact HK.out _ hbe)
      clear hK K hHeld; intro hHeld
      try simp only [Act.put, List.setIfInBounds_toArray, List.set_cons_zero, List.set_cons_succ]
      refine wpAnyH_take (i := 63) (oi := { dst := some 128, op := Op.pick (Operand.tmp 120) (Operand.tmp 127) (Operand.const (Value.bool false)), type := 4, pos := "law.go:74", after := #[{ on := 55, ground := Ground.data }, { on := 62, ground := Ground.data }], guard := none }) (v := ?_) rfl (by kernel_rfl) (by kernel_rfl) (by kernel_rfl) (fun _ _ _ h => h) (Or.inl ⟨by rfl, ?_⟩) hHeld ?_
      rotate_left
      · (intro w' hSw; (try dsimp only at hSw); go_split_ands; go_simp; first | done | with_reducible rfl)
      try simp only [Act.put, List.setIfInBounds_toArray, List.set_cons_zero, List.set_cons_succ]
      refine wpAnyH_take (i := 64) (oi := { dst := some 6, op := Op.assign (Operand.tmp 128), type := 4, pos := "law.go:74", after := ([{ on := 63, ground := Ground.data }, { on := 62, ground := Ground.chain }, { on := 0, ground := Ground.phase }, { on := 1, ground := Ground.phase }, { on := 2, ground := Ground.phase }, { on := 3, ground := Ground.phase }, { on := 4, ground := Ground.phase }, { on := 5, ground := Ground.phase }, { on := 6, ground := Ground.phase }, { on := 7, ground := Ground.phase }, { on := 8, ground := Ground.phase }, { on := 9, ground := Ground.phase }, { on := 10, ground := Ground.phase }, { on := 11, ground := Ground.phase }, { on := 12, ground := Ground.phase }, { on := 13, ground := Ground.phase }, { on := 14, ground := Ground.phase }, { on := 15, ground := Ground.phase }, { on := 16, ground := Ground.phase }, { on := 17, ground := Ground.phase }, { on := 18, ground := Ground.phase }, { on := 19, ground := Ground.phase }, { on := 20, ground := Ground.phase }, { on := 21, ground := Ground.phase }, { on := 22, ground := Ground.phase }, { on := 23, ground := Ground.phase }, { on := 24, ground := Ground.phase }, { on := 25, ground := Ground.phase }, { on := 26, ground := Ground.phase }, { on := 27, ground := Ground.phase }, { on := 28, ground := Ground.phase }, { on := 29, ground := Ground.phase }, { on := 30, ground := Ground.phase }].append [{ on := 31, ground := Ground.phase }, { on := 32, ground := Ground.phase }, { on := 33, ground := Ground.phase }, { on := 34, ground := Ground.phase }, { on := 35, ground := Ground.phase }, { on := 36, ground := Ground.phase }, { on := 37, ground := Ground.phase }, { on := 38, ground := Ground.phase }, { on := 39, ground := Ground.phase }, { on := 40, ground := Ground.phase }, { on := 41, ground := Ground.phase }, { on := 42, ground := Ground.phase }, { on := 43, ground := Ground.phase }, { on := 44, ground := Ground.phase }, { on := 45, ground := Ground.phase }, { on := 46, ground := Ground.phase }, { on := 47, ground := Ground.phase }, { on := 48, ground := Ground.phase }, { on := 49, ground := Ground.phase }, { on := 50, ground := Ground.phase }, { on := 51, ground := Ground.phase }, { on := 52, ground := Ground.phase }, { on := 53, ground := Ground.phase }, { on := 54, ground := Ground.phase }, { on := 55, ground := Ground.phase }, { on := 56, ground := Ground.phase }, { on := 57, ground := Ground.phase }, { on := 58, ground := Ground.phase }, { on := 59, ground := Ground.phase }, { on := 60, ground := Ground.phase }, { on := 61, ground := Ground.phase }, { on := 62, ground := Ground.phase }, { on := 63, ground := Ground.phase }]).toArray, guard := none }) (v := ?_) rfl (by kernel_rfl) (by kernel_rfl) (by kernel_rfl) (fun _ _ _ h => h) (Or.inl ⟨by rfl, ?_⟩) hHeld ?_
      rotate_left
      · (intro w' hSw; (try dsimp only at hSw); go_split_ands; go_simp; first | done | with_reducible rfl)
      try simp only [Act.put, List.setIfInBounds_toArray, List.set_cons_zero, List.set_cons_succ]
      refine wpAnyH_done (by kernel_rfl) ?_ _
      refine NoPanic.normal ?_
      go_wp2
      go_ret
      exact ⟨by simp, HB0.out.trans (hbe.mono HB0.out.size)⟩

set_option maxRecDepth 100000 in
set_option maxHeartbeats 400000 in
theorem ItempartTells_any (A : Option Addr) (n c : Nat) (ls : List Item) (Bx : Option Addr) (lx dx : Nat) (x : Item) (most : Int) (hn : ls.length = n) (hnc : n ≤ c) (hxl : x.length = lx) (w : World) (hS : Sees2 w w.heap.size A ls) (hx : Sees w w.heap.size Bx (bv x)) (hH : Halves w) :
    Calls Tryd.prog 4 #[.slice A n c, .slice Bx lx dx, .int .i64 most] w (IsTrue w) := by
  obtain ⟨b, hb⟩ : ∃ b, fewB ls = b := ⟨_, rfl⟩
  obtain ⟨k, hk⟩ : ∃ k, checkR ls = k := ⟨_, rfl⟩
  have hnot : ∀ (x : Bool) (w : World), (Op.unary .not (.bool x)).run Tryd.prog w = .ok (.bool (!x)) w := fun _ _ => rfl
  have hF := fun (w : World) (h : Sees2 w w.heap.size A ls) => few_any A n c ls hn w h
  have hC := fun (w : World) (h : Sees2 w w.heap.size A ls) (hle : n ≤ 1099511627776) => RefCheck_any A n c ls hn w h hle
  by_cases hy : b = true ∧ lx ≤ 500 ∧ k = 0
  · exact ItempartTells_small A n c ls Bx lx dx x most hn hnc hxl (hb.trans hy.1) hy.2.1 (hk.trans hy.2.2) w hS hx hH
  · have hn100 : b = true → n ≤ 100 := fun e => by have := (few_yes (hb.trans e)).1; omega
    rw [hb] at hF
    rw [hk] at hC
    have HF := Lib.hid hF
    have HC := Lib.hid hC
    clear hn hb hF hC hk hxl
    go_enter Tryd.func4, Tryd.ntmps4
    go_wp2_with fail
    refine (awake_any w hH).mono ?_
    rintro e w1 ⟨rfl, hb1⟩
    have hS1 := (hS.below hb1).more hb1.size
    go_wp2_with fail
    refine (HF.out w1 hS1).mono ?_
    rintro e w2 ⟨rfl, rfl⟩
    cases b with
    | true =>
      have h100 := hn100 rfl
      by_cases hlx : lx ≤ 500
      · have hk0 : k ≠ 0 := fun e => hy ⟨rfl, hlx, e⟩
        have hz : ((k : Int) != 0) = true := by rw [bne_iff_ne]; omega
        have HC1 := Lib.hid (HC.out w1 hS1 (by omega))
        clear hy hn100
        go_wp2_with fail
        refine HC1.out.mono ?_
        rintro e w2 ⟨rfl, q, rfl⟩
        go_wp2_with fail
        go_ret
        exact ⟨rfl, below_d hb1 _⟩
      · clear hy hn100
        go_wp2_with fail
        go_ret
        exact ⟨rfl, hb1⟩
    | false =>
      clear hy hn100
      go_wp2_with fail
      go_ret
      exact ⟨rfl, hb1⟩
end Go.Proofs.YtmdphaagbmipcaaDoor
