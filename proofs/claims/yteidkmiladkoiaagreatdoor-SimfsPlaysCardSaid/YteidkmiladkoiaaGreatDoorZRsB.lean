/-
  Several texts in one: RsAppend RsAct RsAct2 RsDoneP RsCrash RsDoneB SmLawP SmLawP2.
-/
import Derived.Test.YteidkmiladkoiaaGreatDoorZRsA
import Derived.Shelf.RegionOpen
import Derived.Test.YteidkmiladkoiaaGreatDoorZSmB
import Derived.Deep.CutBlock
import Derived.Deep.DeepCutAuto
/-
  The document's Append.
-/
namespace Go.Proofs.YteidkmiladkoiaaGreatDoor
open Go.RowKit

theorem strOf_append (a b : Txt) : strOf (a ++ b) = strOf a ++ strOf b := by
  have : (strOf (a ++ b)).data = (strOf a ++ strOf b).data := by simp [strOf, ByteArray.data_append]
  cases h1 : strOf (a ++ b); cases h2 : strOf a ++ strOf b; rw [h1, h2] at this; simp only at this; rw [this]

set_option maxRecDepth 100000 in
set_option maxHeartbeats 1600000 in
theorem append_r (m : Nat → Prop) (S : FsM) (fu : Bool) (lf : Int) (v : Value) (w : World) (h : RefAt m w v S fu lf) (hm : ∀ k, m k → k < w.heap.size) (h0 : S.now.length ≤ 90000) (_ : S.chg.length ≤ 90000) (hok : ∀ p n, S.look p = some n → n < S.files.length) (hfl : S.files.length ≤ 90000) (hsm : ∀ n, (S.file n).b.length ≤ 1048576) (hub : S.used ≤ 1099511627776) (p : Txt) (Ab : Option Addr) (lb cb : Nat) (b : Txt) (hbb : b.length = lb) (_ : lb ≤ cb) (hlb : lb ≤ 1000000000) (hsb0 : Hold m w Ab (bv b)) :
    Calls Tryz.prog 36 #[v, .string (strOf p), .slice Ab lb cb] w (RefIsE m w (S.append p b) fu lf) := by
  have HB := Lib.hid hbb
  obtain ⟨r, Af, nf, cf, An, nn, cn, Ak, nk, ck, Aq, nq, cq, hC7⟩ := h.seven
  obtain rfl := hC7.v_
  have C7 := Lib.hid hC7
  obtain ⟨W1, W2, m2, e1, e2, hst⟩ := start7 m w hm (.int .i64 r) (.slice Af nf cf) (.slice An nn cn) (.slice Ak nk ck) (.slice Aq nq cq) (.bool fu) (.int .i64 lf)
  have ST := Lib.hid hst
  have R2 := Lib.hid ((h.more hst.more).newB hst.b)
  have N2 := Lib.hid ((hC7.now.more hst.more).newB hst.b)
  have F2 := Lib.hid ((hC7.files.more hst.more).newB hst.b)
  have bB := hst.bB
  have bG := hst.bG
  clear h hC7 hst hm
  have hp := file_any An nn cn S.now C7.out.ln_ (by have := C7.out.ln_; omega) p W2 N2.out.sees
  have hsb2 := (hsb0.more ST.out.more).newB ST.out.b
  have hf0 := hsb0
  clear hsb0
  have hlook : S.look p = lookD S.now p := rfl
  cases hl : lookD S.now p with
  | none =>
    rw [hl] at hp
    have e0 : S.append p b = (S, 60) := by unfold FsM.append; rw [hlook, hl]
    rw [e0]
    have HP := Lib.hid hp
    have d2 := bB.cell 2 rfl
    clear hp hlook hl e0 hok hsm hbb hsb2 hf0
    go_enter Tryz.func36, Tryz.ntmps36
    go_wp2_with fail
    refine HP.out.mono ?_
    rintro e w3 ⟨rfl, rfl⟩
    clear HP d2
    obtain ⟨WF, eF, bGF, hFB, stF⟩ := bG.store7 w.heap.size (by have := ST.out.z1; omega) (.int .i64 r) (.slice Af nf cf) (.slice An nn cn) (.slice Ak nk ck) (.slice Aq nq cq) (.bool fu) (.int .i64 lf)
    have hFB' := Lib.hid hFB
    have stF' := Lib.hid stF
    have cb0 := bB.cell 0 rfl
    have cb1 := bB.cell 1 rfl
    have cb2 := bB.cell 2 rfl
    have cb3 := bB.cell 3 rfl
    have cb4 := bB.cell 4 rfl
    have cb5 := bB.cell 5 rfl
    have cb6 := bB.cell 6 rfl
    have cg0 := bG.cell 0 rfl
    have cg1 := bG.cell 1 rfl
    have cg2 := bG.cell 2 rfl
    have cg3 := bG.cell 3 rfl
    have cg4 := bG.cell 4 rfl
    have cg5 := bG.cell 5 rfl
    have cg6 := bG.cell 6 rfl
    have fg0 := bG.frozen 0
    have fg1 := bG.frozen 1
    have fg2 := bG.frozen 2
    have fg3 := bG.frozen 3
    have fg4 := bG.frozen 4
    have fg5 := bG.frozen 5
    have fg6 := bG.frozen 6
    have ce0 := bGF.cell 0 rfl
    have ce1 := bGF.cell 1 rfl
    have ce2 := bGF.cell 2 rfl
    have ce3 := bGF.cell 3 rfl
    have ce4 := bGF.cell 4 rfl
    have ce5 := bGF.cell 5 rfl
    have ce6 := bGF.cell 6 rfl
    clear hFB stF bB bG bGF
    go_wp2
    refine bodyPost_ret (v := .tuple #[.agg #[.int .i64 r, .slice Af nf cf, .slice An nn cn, .slice Ak nk ck, .slice Aq nq cq, .bool fu, .int .i64 lf], .int .i64 60]) (by simp [results, Tryz.results36, go_sem, ce0, ce1, ce2, ce3, ce4, ce5, ce6]) rfl ?_
    exact ⟨_, rfl, ((R2.out).step (stF'.out m2 ST.out.hG)).less ST.out.less, (ST.out.b).trans hFB'.out⟩
  | some n =>
    rw [hl, show gnum (some n) = (n : Int) from rfl] at hp
    have hn := hok p n (hlook.trans hl)
    have efile : S.file n = S.files[n] := by unfold FsM.file; rw [List.getD_eq_getElem?_getD, List.getElem?_eq_getElem hn]; rfl
    obtain ⟨ad, rfl, had, g1, g2⟩ := sees_flv F2.out.sees hn
    rw [← efile] at g1 g2
    have hcl0 := fun W (hW : Below W2.heap.size W2 W) => setF_r m2 S fu lf _ W (R2.out.newB hW) (fun k e => by have := ST.out.lt k e; have := hW.size; omega) n hn hfl { S.file n with b := (S.file n).b ++ b }
    have hus := fun W (hW : Below W2.heap.size W2 W) => usedR_any m2 S fu lf _ W (R2.out.newB hW) h0 hfl hsm
    have hsz := strOf_size (S.file n).b
    have hsm1 := hsm n
    have hap : S.append p b = if 1048576 < (S.file n).b.length + b.length then (S, 2) else if 0 < b.length ∧ S.room < S.used + b.length then (S, 62) else (S.setFile n { S.file n with b := (S.file n).b ++ b }, 0) := by unfold FsM.append; rw [hlook, hl]
    obtain ⟨S', hS'⟩ : ∃ T, S.setFile n { S.file n with b := (S.file n).b ++ b } = T := ⟨_, rfl⟩
    rw [hS'] at hcl0 hap
    dsimp only at hcl0
    rw [strOf_append] at hcl0
    obtain ⟨bl, hbl⟩ : ∃ l, (S.file n).b.length = l := ⟨_, rfl⟩
    obtain ⟨fb, hfb⟩ : ∃ b, strOf (S.file n).b = b := ⟨_, rfl⟩
    obtain ⟨bs, hbs⟩ : ∃ c, strOf b = c := ⟨_, rfl⟩
    obtain ⟨st0, hst0⟩ : ∃ b, ((S.file n).stays : Int) = b := ⟨_, rfl⟩
    obtain ⟨U, hU⟩ : ∃ U, S.used = U := ⟨_, rfl⟩
    rw [hU] at hus hap hub
    rw [hfb] at g1 hsz hcl0
    rw [hbs] at hcl0
    rw [hst0] at g2 hcl0
    rw [hbl] at hsz hsm1 hap
    rw [hbb] at hap
    rw [hap]
    obtain ⟨W3, e3⟩ : ∃ W3, W2.alloc (.cells #[.string ⟨#[]⟩, .int .i64 0] 80) = W3 := ⟨_, rfl⟩
    obtain ⟨W4, e4⟩ : ∃ W4, W3.setCell ⟨W2.heap.size, 0, none⟩ (.string fb) = W4 := ⟨_, rfl⟩
    obtain ⟨W5, e5⟩ : ∃ W5, W4.setCell ⟨W2.heap.size, 1, none⟩ (.int .i64 st0) = W5 := ⟨_, rfl⟩
    have x3 : Blk W3 W2.heap.size #[.string ⟨#[]⟩, .int .i64 0] 80 := e3 ▸ Blk.new W2 _ _
    have x4 : Blk W4 W2.heap.size #[.string fb, .int .i64 0] 80 := e4 ▸ x3.set_ 0 _ (by simp)
    have x5 : Blk W5 W2.heap.size #[.string fb, .int .i64 st0] 80 := e5 ▸ x4.set_ 1 _ (by simp)
    have b23 : Below W2.heap.size W2 W3 := e3 ▸ (Below.refl _ _).alloc (Nat.le_refl _) _
    have b34 : Below W2.heap.size W3 W4 := e4 ▸ (Below.refl W2.heap.size W3).setCell (p := ⟨W2.heap.size, 0, none⟩) (Nat.le_refl _) _
    have b45 : Below W2.heap.size W4 W5 := e5 ▸ (Below.refl W2.heap.size W4).setCell (p := ⟨W2.heap.size, 1, none⟩) (Nat.le_refl _) _
    have h25 := Lib.hid ((b23.trans b34).trans b45)
    have y30 := x3.cell 0 rfl
    have y31 := x3.cell 1 rfl
    have z30 := x3.frozen 0
    have y41 := x4.cell 1 rfl
    have z41 := x4.frozen 1
    have y50 := x5.cell 0 rfl
    have y51 := x5.cell 1 rfl
    have d1 := bB.cell 1 rfl
    have d2 := bB.cell 2 rfl
    have HP := Lib.hid hp
    have hni : n < nf := by have := C7.out.lf_; omega
    have hnf : nf ≤ 90000 := by have := C7.out.lf_; omega
    have hszi : (fb.size : Int) = (bl : Int) := by omega
    have hszb : (bs.size : Int) = (lb : Int) := by have := strOf_size b; rw [hbs, hbb] at this; omega
    have HBS := Lib.hid hbs
    have hsb : ∀ {W : World}, Below W2.heap.size W2 W → Hold m2 W Ab (bv b) := fun hW => hsb2.newB hW
    have hrr := C7.out.r_
    clear hp hlook hl hok hsm hn efile hbl hfb hst0 hS' F2 x3 x4 b23 b34 b45 hsz hap hU hbs hsb2 hbb hf0

    by_cases hlim : 1048576 < bl + lb
    · rw [if_pos hlim]
      have hlimi : (1048576 : Int) < (bl : Int) + (lb : Int) := by omega
      have bB5 := bB.keep (h25.out.block _ bB.lt)
      have bG5 := bG.keep (h25.out.block _ bG.lt)
      clear hcl0 hus hsb x5 hlim bB bG
      have bB := bB5
      have bG := bG5
      clear bB5 bG5
      obtain ⟨WF, eF, bGF, hFB, stF⟩ := bG.store7 w.heap.size (by have := ST.out.z1; omega) (.int .i64 r) (.slice (some ad) nf cf) (.slice An nn cn) (.slice Ak nk ck) (.slice Aq nq cq) (.bool fu) (.int .i64 lf)
      have hFB' := Lib.hid hFB
      have stF' := Lib.hid stF
      have cb0 := bB.cell 0 rfl
      have cb1 := bB.cell 1 rfl
      have cb2 := bB.cell 2 rfl
      have cb3 := bB.cell 3 rfl
      have cb4 := bB.cell 4 rfl
      have cb5 := bB.cell 5 rfl
      have cb6 := bB.cell 6 rfl
      have cg0 := bG.cell 0 rfl
      have cg1 := bG.cell 1 rfl
      have cg2 := bG.cell 2 rfl
      have cg3 := bG.cell 3 rfl
      have cg4 := bG.cell 4 rfl
      have cg5 := bG.cell 5 rfl
      have cg6 := bG.cell 6 rfl
      have fg0 := bG.frozen 0
      have fg1 := bG.frozen 1
      have fg2 := bG.frozen 2
      have fg3 := bG.frozen 3
      have fg4 := bG.frozen 4
      have fg5 := bG.frozen 5
      have fg6 := bG.frozen 6
      have ce0 := bGF.cell 0 rfl
      have ce1 := bGF.cell 1 rfl
      have ce2 := bGF.cell 2 rfl
      have ce3 := bGF.cell 3 rfl
      have ce4 := bGF.cell 4 rfl
      have ce5 := bGF.cell 5 rfl
      have ce6 := bGF.cell 6 rfl
      clear hFB stF bB bG bGF
      go_enter Tryz.func36, Tryz.ntmps36
      go_wp2_with fail
      refine HP.out.mono ?_
      rintro e w3 ⟨rfl, rfl⟩
      clear HP
      go_wp2
      refine bodyPost_ret (v := .tuple #[.agg #[.int .i64 r, .slice (some ad) nf cf, .slice An nn cn, .slice Ak nk ck, .slice Aq nq cq, .bool fu, .int .i64 lf], .int .i64 2]) (by simp [results, Tryz.results36, go_sem, ce0, ce1, ce2, ce3, ce4, ce5, ce6]) rfl ?_
      exact ⟨_, rfl, ((R2.out.newB h25.out).step (stF'.out m2 ST.out.hG)).less ST.out.less, (ST.out.b.trans (h25.out.mono (by have := ST.out.z2; omega))).trans hFB'.out⟩
    · have hlimi : (bl : Int) + (lb : Int) ≤ 1048576 := by omega
      by_cases hz : lb = 0
      · rw [if_neg hlim, if_neg (by omega)]
        have hzi : (lb : Int) ≤ 0 := by omega
        have xV : Blk W5.drew W2.heap.size #[.string fb, .int .i64 st0] 80 := ⟨x5.out⟩
        have bBV := bB.keep ((below_drew h25.out).block _ bB.lt)
        have bGV := bG.keep ((below_drew h25.out).block _ bG.lt)
        have hb8 := Lib.hid ((below_drew h25.out).trans ((Below.refl W2.heap.size W5.drew).setCell (p := ⟨W2.heap.size, 0, none⟩) (Nat.le_refl _) (.string (fb ++ bs))))
        obtain ⟨W8, e8⟩ : ∃ W8, (W5.drew).setCell ⟨W2.heap.size, 0, none⟩ (.string (fb ++ bs)) = W8 := ⟨_, rfl⟩
        rw [e8] at hb8
        have x8 : Blk W8 W2.heap.size #[.string (fb ++ bs), .int .i64 st0] 80 := e8 ▸ xV.set_ 0 _ (by simp)
        have yv0 := xV.cell 0 rfl
        have zv0 := xV.frozen 0
        have y80 := x8.cell 0 rfl
        have y81 := x8.cell 1 rfl
        have bB8 := bB.keep (hb8.out.block _ bB.lt)
        have bG8 := bG.keep (hb8.out.block _ bG.lt)
        have cb0 := bB8.cell 0 rfl
        have cb1 := bB8.cell 1 rfl
        have cb2 := bB8.cell 2 rfl
        have cb3 := bB8.cell 3 rfl
        have cb4 := bB8.cell 4 rfl
        have cb5 := bB8.cell 5 rfl
        have cb6 := bB8.cell 6 rfl
        have cv := run_str (W5.drew) _ Ab lb cb b ((hsb (below_drew h25.out)).sees) HB.out
        rw [HBS.out] at cv
        have hcl := Lib.hid (hcl0 W8 hb8.out)
        have hb6 := hb8
        clear bG bBV bGV xV x8 bB8 hcl0 hsb
        have bG := bG8
        clear bG8
        clear hz hlim hus x5 bB
        go_enter Tryz.func36, Tryz.ntmps36
        go_wp2_with fail
        refine HP.out.mono ?_
        rintro e w3 ⟨rfl, rfl⟩
        clear HP
        go_wp2_with fail
        refine wp_region_noPanic ?_
        refine wp_region_held_drew (S := fun _ => True) (by kernel_rfl) ?_ (fun hHeld => ?_)
        · (trivial)
        refine wpAnyH_take (i := 0) (oi := { dst := some 30, op := Op.move (Operand.tmp 2), type := 32, pos := "ref.go:166", after := #[], guard := none }) (v := ?_) rfl (by kernel_rfl) (by kernel_rfl) (by kernel_rfl) (fun _ _ _ h => h) (Or.inl ⟨by rfl, ?_⟩) hHeld ?_
        rotate_left
        · (intro w' hSw; (try dsimp only at hSw); go_split_ands; go_simp; first | done | with_reducible rfl)
        try simp only [Act.put, List.setIfInBounds_toArray, List.set_cons_zero, List.set_cons_succ]
        refine wpAnyH_take (i := 1) (oi := { dst := some 31, op := Op.call { callee := Callee.builtin Builtin.len, args := #[Operand.tmp 30], argTypes := #[32] }, type := 3, pos := "ref.go:166", after := #[{ on := 0, ground := Ground.data }], guard := none }) (v := ?_) rfl (by kernel_rfl) (by kernel_rfl) (by kernel_rfl) (fun _ _ _ h => h) (Or.inl ⟨by rfl, ?_⟩) hHeld ?_
        rotate_left
        · (intro w' hSw; (try dsimp only at hSw); go_split_ands; go_simp; first | done | with_reducible rfl)
        try simp only [Act.put, List.setIfInBounds_toArray, List.set_cons_zero, List.set_cons_succ]
        refine wpAnyH_take (i := 2) (oi := { dst := some 32, op := Op.binOp BinOp.gtr 3 (Operand.tmp 31) (Operand.const (Value.int IntKind.i64 0)) 3, type := 4, pos := "ref.go:166", after := #[{ on := 1, ground := Ground.data }], guard := none }) (v := (.bool false)) rfl (by kernel_rfl) (by kernel_rfl) (by kernel_rfl) (fun _ _ _ h => h) (Or.inl ⟨by rfl, ?_⟩) hHeld ?_
        · (intro w' hSw; (try dsimp only at hSw); go_split_ands; go_simp; first | done | with_reducible rfl | first | omega | (simp; done) | (simp; omega))
        try simp only [Act.put, List.setIfInBounds_toArray, List.set_cons_zero, List.set_cons_succ]
        refine wpAnyH_take (i := 3) (oi := { dst := some 33, op := Op.move (Operand.tmp 32), type := 4, pos := "ref.go:166", after := #[{ on := 2, ground := Ground.data }], guard := none }) (v := ?_) rfl (by kernel_rfl) (by kernel_rfl) (by kernel_rfl) (fun _ _ _ h => h) (Or.inl ⟨by rfl, ?_⟩) hHeld ?_
        rotate_left
        · (intro w' hSw; (try dsimp only at hSw); go_split_ands; go_simp; first | done | with_reducible rfl)
        try simp only [Act.put, List.setIfInBounds_toArray, List.set_cons_zero, List.set_cons_succ]
        refine wpAnyH_take (i := 4) (oi := { dst := some 34, op := Op.load 30 (Operand.tmp 3), type := 30, pos := "ref.go:166", after := #[{ on := 3, ground := Ground.guard }], guard := some (3, true) }) (v := undef) rfl (by kernel_rfl) (by kernel_rfl) (by kernel_rfl) (fun _ _ _ h => h) (Or.inr ⟨by rfl, rfl⟩) hHeld ?_
        try simp only [Act.put, List.setIfInBounds_toArray, List.set_cons_zero, List.set_cons_succ]
        refine wpAnyH_take (i := 5) (oi := { dst := some 35, op := Op.call { callee := Callee.value (Operand.func 16), args := #[Operand.tmp 34], argTypes := #[30] }, type := 3, pos := "ref.go:166", after := #[{ on := 4, ground := Ground.data }, { on := 3, ground := Ground.chain }, { on := 3, ground := Ground.guard }], guard := some (3, true) }) (v := undef) rfl (by kernel_rfl) (by kernel_rfl) (by kernel_rfl) (fun _ _ _ h => h) (Or.inr ⟨by rfl, rfl⟩) hHeld ?_
        try simp only [Act.put, List.setIfInBounds_toArray, List.set_cons_zero, List.set_cons_succ]
        refine wpAnyH_take (i := 6) (oi := { dst := some 36, op := Op.move (Operand.tmp 2), type := 32, pos := "ref.go:166", after := #[{ on := 3, ground := Ground.guard }], guard := some (3, true) }) (v := undef) rfl (by kernel_rfl) (by kernel_rfl) (by kernel_rfl) (fun _ _ _ h => h) (Or.inr ⟨by rfl, rfl⟩) hHeld ?_
        try simp only [Act.put, List.setIfInBounds_toArray, List.set_cons_zero, List.set_cons_succ]
        refine wpAnyH_take (i := 7) (oi := { dst := some 37, op := Op.call { callee := Callee.builtin Builtin.len, args := #[Operand.tmp 36], argTypes := #[32] }, type := 3, pos := "ref.go:166", after := #[{ on := 6, ground := Ground.data }, { on := 3, ground := Ground.guard }], guard := some (3, true) }) (v := undef) rfl (by kernel_rfl) (by kernel_rfl) (by kernel_rfl) (fun _ _ _ h => h) (Or.inr ⟨by rfl, rfl⟩) hHeld ?_
        try simp only [Act.put, List.setIfInBounds_toArray, List.set_cons_zero, List.set_cons_succ]
        refine wpAnyH_take (i := 8) (oi := { dst := some 38, op := Op.binOp BinOp.add 3 (Operand.tmp 35) (Operand.tmp 37) 3, type := 3, pos := "ref.go:166", after := #[{ on := 5, ground := Ground.data }, { on := 7, ground := Ground.data }, { on := 3, ground := Ground.guard }], guard := some (3, true) }) (v := undef) rfl (by kernel_rfl) (by kernel_rfl) (by kernel_rfl) (fun _ _ _ h => h) (Or.inr ⟨by rfl, rfl⟩) hHeld ?_
        try simp only [Act.put, List.setIfInBounds_toArray, List.set_cons_zero, List.set_cons_succ]
        refine wpAnyH_take (i := 9) (oi := { dst := some 39, op := Op.fieldAddr 30 (Operand.tmp 3) 0, type := 0, pos := "ref.go:166", after := #[{ on := 3, ground := Ground.guard }], guard := some (3, true) }) (v := undef) rfl (by kernel_rfl) (by kernel_rfl) (by kernel_rfl) (fun _ _ _ h => h) (Or.inr ⟨by rfl, rfl⟩) hHeld ?_
        try simp only [Act.put, List.setIfInBounds_toArray, List.set_cons_zero, List.set_cons_succ]
        refine wpAnyH_take (i := 10) (oi := { dst := some 40, op := Op.load 3 (Operand.tmp 39), type := 3, pos := "ref.go:166", after := #[{ on := 9, ground := Ground.data }, { on := 3, ground := Ground.guard }], guard := some (3, true) }) (v := undef) rfl (by kernel_rfl) (by kernel_rfl) (by kernel_rfl) (fun _ _ _ h => h) (Or.inr ⟨by rfl, rfl⟩) hHeld ?_
        try simp only [Act.put, List.setIfInBounds_toArray, List.set_cons_zero, List.set_cons_succ]
        refine wpAnyH_take (i := 11) (oi := { dst := some 41, op := Op.binOp BinOp.gtr 3 (Operand.tmp 38) (Operand.tmp 40) 3, type := 4, pos := "ref.go:166", after := #[{ on := 8, ground := Ground.data }, { on := 10, ground := Ground.data }, { on := 3, ground := Ground.guard }], guard := some (3, true) }) (v := undef) rfl (by kernel_rfl) (by kernel_rfl) (by kernel_rfl) (fun _ _ _ h => h) (Or.inr ⟨by rfl, rfl⟩) hHeld ?_
        try simp only [Act.put, List.setIfInBounds_toArray, List.set_cons_zero, List.set_cons_succ]
        refine wpAnyH_take (i := 12) (oi := { dst := some 42, op := Op.pick (Operand.tmp 33) (Operand.tmp 41) (Operand.const (Value.bool false)), type := 4, pos := "ref.go:166", after := #[{ on := 3, ground := Ground.data }, { on := 11, ground := Ground.data }], guard := none }) (v := ?_) rfl (by kernel_rfl) (by kernel_rfl) (by kernel_rfl) (fun _ _ _ h => h) (Or.inl ⟨by rfl, ?_⟩) hHeld ?_
        rotate_left
        · (intro w' hSw; (try dsimp only at hSw); go_split_ands; go_simp; first | done | with_reducible rfl)
        try simp only [Act.put, List.setIfInBounds_toArray, List.set_cons_zero, List.set_cons_succ]
        refine wpAnyH_done (by kernel_rfl) ?_ _
        refine NoPanic.normal ?_
        go_wp2_with fail
        refine hcl.out.mono ?_
        rintro e w4 ⟨v4, rfl, hr4, hb4⟩
        obtain ⟨r', Af', nf', cf', An', nn', cn', Ak', nk', ck', Aq', nq', cq', h7⟩ := hr4.seven
        obtain rfl := h7.v_
        have hB4 := Lib.hid ((ST.out.b.trans (hb6.out.mono (by have := ST.out.z2; omega))).trans (hb4.mono (by have := ST.out.z2; have := hb6.out.size; omega)))
        have R4 := Lib.hid hr4
        have bG4 := bG.keep (hb4.block _ bG.lt)
        clear bG hr4 h7 hb4 hcl
        have bG := bG4
        clear bG4
        obtain ⟨WF, eF, bGF, hFB, stF⟩ := bG.store7 w.heap.size (by have := ST.out.z1; omega) (.int .i64 r') (.slice Af' nf' cf') (.slice An' nn' cn') (.slice Ak' nk' ck') (.slice Aq' nq' cq') (.bool fu) (.int .i64 lf)
        have hFB' := Lib.hid hFB
        have stF' := Lib.hid stF
        have cg0 := bG.cell 0 rfl
        have cg1 := bG.cell 1 rfl
        have cg2 := bG.cell 2 rfl
        have cg3 := bG.cell 3 rfl
        have cg4 := bG.cell 4 rfl
        have cg5 := bG.cell 5 rfl
        have cg6 := bG.cell 6 rfl
        have fg0 := bG.frozen 0
        have fg1 := bG.frozen 1
        have fg2 := bG.frozen 2
        have fg3 := bG.frozen 3
        have fg4 := bG.frozen 4
        have fg5 := bG.frozen 5
        have fg6 := bG.frozen 6
        have ce0 := bGF.cell 0 rfl
        have ce1 := bGF.cell 1 rfl
        have ce2 := bGF.cell 2 rfl
        have ce3 := bGF.cell 3 rfl
        have ce4 := bGF.cell 4 rfl
        have ce5 := bGF.cell 5 rfl
        have ce6 := bGF.cell 6 rfl
        clear hFB stF bG bGF
        go_wp2
        refine bodyPost_ret (v := .tuple #[.agg #[.int .i64 r', .slice Af' nf' cf', .slice An' nn' cn', .slice Ak' nk' ck', .slice Aq' nq' cq', .bool fu, .int .i64 lf], .int .i64 0]) (by simp [results, Tryz.results36, go_sem, ce0, ce1, ce2, ce3, ce4, ce5, ce6]) rfl ?_
        exact ⟨_, rfl, ((R4.out).step (stF'.out m2 ST.out.hG)).less ST.out.less, (hB4.out).trans hFB'.out⟩
      · have hpos : (0 : Int) < (lb : Int) := by omega
        have hu5 := Lib.hid (hus W5.drew (below_drew h25.out))
        have hwu : IntKind.i64.wrap ((U : Int) + (lb : Int)) = ((U + lb : Nat) : Int) := by simp [IntKind.wrap, IntKind.signed, IntKind.bits]; omega
        obtain ⟨Q, hQ⟩ : ∃ Q, U + lb = Q := ⟨_, rfl⟩
        rw [hQ] at hwu ⊢
        have bB5 := bB.keep (h25.out.block _ bB.lt)
        have cc0 := bB5.cell 0 rfl
        have cc1 := bB5.cell 1 rfl
        have cc2 := bB5.cell 2 rfl
        have cc3 := bB5.cell 3 rfl
        have cc4 := bB5.cell 4 rfl
        have cc5 := bB5.cell 5 rfl
        have cc6 := bB5.cell 6 rfl
        have X5 := Lib.hid x5
        by_cases hroom : S.room < Q
        · rw [if_neg hlim, if_pos ⟨by omega, hroom⟩]
          have hri : r < (Q : Int) := by omega
          clear hcl0 hsb x5 hus hlim hz hroom hQ bB5
          go_enter Tryz.func36, Tryz.ntmps36
          go_wp2_with fail
          refine HP.out.mono ?_
          rintro e w3 ⟨rfl, rfl⟩
          clear HP
          go_wp2_with fail
          refine wp_region_noPanic ?_
          refine wp_region_held_drew (S := fun w' => w'.cell? ⟨w.heap.size, 0, none⟩ = some (.int .i64 r) ∧ w'.cell? ⟨w.heap.size, 1, none⟩ = some (.slice (some ad) nf cf) ∧ w'.cell? ⟨w.heap.size, 2, none⟩ = some (.slice An nn cn) ∧ w'.cell? ⟨w.heap.size, 3, none⟩ = some (.slice Ak nk ck) ∧ w'.cell? ⟨w.heap.size, 4, none⟩ = some (.slice Aq nq cq) ∧ w'.cell? ⟨w.heap.size, 5, none⟩ = some (.bool fu) ∧ w'.cell? ⟨w.heap.size, 6, none⟩ = some (.int .i64 lf)) (by kernel_rfl) ?_ (fun hHeld => ?_)
          · (exact ⟨cc0, cc1, cc2, cc3, cc4, cc5, cc6⟩)
          refine wpAnyH_take (i := 0) (oi := { dst := some 30, op := Op.move (Operand.tmp 2), type := 32, pos := "ref.go:166", after := #[], guard := none }) (v := ?_) rfl (by kernel_rfl) (by kernel_rfl) (by kernel_rfl) (fun _ _ _ h => h) (Or.inl ⟨by rfl, ?_⟩) hHeld ?_
          rotate_left
          · (intro w' hSw; (try dsimp only at hSw); go_split_ands; go_simp; first | done | with_reducible rfl)
          try simp only [Act.put, List.setIfInBounds_toArray, List.set_cons_zero, List.set_cons_succ]
          refine wpAnyH_take (i := 1) (oi := { dst := some 31, op := Op.call { callee := Callee.builtin Builtin.len, args := #[Operand.tmp 30], argTypes := #[32] }, type := 3, pos := "ref.go:166", after := #[{ on := 0, ground := Ground.data }], guard := none }) (v := ?_) rfl (by kernel_rfl) (by kernel_rfl) (by kernel_rfl) (fun _ _ _ h => h) (Or.inl ⟨by rfl, ?_⟩) hHeld ?_
          rotate_left
          · (intro w' hSw; (try dsimp only at hSw); go_split_ands; go_simp; first | done | with_reducible rfl)
          try simp only [Act.put, List.setIfInBounds_toArray, List.set_cons_zero, List.set_cons_succ]
          refine wpAnyH_take (i := 2) (oi := { dst := some 32, op := Op.binOp BinOp.gtr 3 (Operand.tmp 31) (Operand.const (Value.int IntKind.i64 0)) 3, type := 4, pos := "ref.go:166", after := #[{ on := 1, ground := Ground.data }], guard := none }) (v := (.bool true)) rfl (by kernel_rfl) (by kernel_rfl) (by kernel_rfl) (fun _ _ _ h => h) (Or.inl ⟨by rfl, ?_⟩) hHeld ?_
          · (intro w' hSw; (try dsimp only at hSw); go_split_ands; go_simp; first | done | with_reducible rfl | omega)
          try simp only [Act.put, List.setIfInBounds_toArray, List.set_cons_zero, List.set_cons_succ]
          refine wpAnyH_take (i := 3) (oi := { dst := some 33, op := Op.move (Operand.tmp 32), type := 4, pos := "ref.go:166", after := #[{ on := 2, ground := Ground.data }], guard := none }) (v := ?_) rfl (by kernel_rfl) (by kernel_rfl) (by kernel_rfl) (fun _ _ _ h => h) (Or.inl ⟨by rfl, ?_⟩) hHeld ?_
          rotate_left
          · (intro w' hSw; (try dsimp only at hSw); go_split_ands; go_simp; first | done | with_reducible rfl)
          try simp only [Act.put, List.setIfInBounds_toArray, List.set_cons_zero, List.set_cons_succ]
          refine wpAnyH_take (i := 4) (oi := { dst := some 34, op := Op.load 30 (Operand.tmp 3), type := 30, pos := "ref.go:166", after := #[{ on := 3, ground := Ground.guard }], guard := some (3, true) }) (v := ?_) rfl (by kernel_rfl) (by kernel_rfl) (by kernel_rfl) (fun _ _ _ h => h) (Or.inl ⟨by rfl, ?_⟩) hHeld ?_
          rotate_left
          · (intro w' hSw; (try dsimp only at hSw); go_split_ands; go_simp; first | done | with_reducible rfl)
          try simp only [Act.put, List.setIfInBounds_toArray, List.set_cons_zero, List.set_cons_succ]
          refine wpAnyH_take (i := 6) (oi := { dst := some 36, op := Op.move (Operand.tmp 2), type := 32, pos := "ref.go:166", after := #[{ on := 3, ground := Ground.guard }], guard := some (3, true) }) (v := ?_) rfl (by kernel_rfl) (by kernel_rfl) (by kernel_rfl) (fun _ _ _ h => h) (Or.inl ⟨by rfl, ?_⟩) hHeld ?_
          rotate_left
          · (intro w' hSw; (try dsimp only at hSw); go_split_ands; go_simp; first | done | with_reducible rfl)
          try simp only [Act.put, List.setIfInBounds_toArray, List.set_cons_zero, List.set_cons_succ]
          refine wpAnyH_take (i := 7) (oi := { dst := some 37, op := Op.call { callee := Callee.builtin Builtin.len, args := #[Operand.tmp 36], argTypes := #[32] }, type := 3, pos := "ref.go:166", after := #[{ on := 6, ground := Ground.data }, { on := 3, ground := Ground.guard }], guard := some (3, true) }) (v := ?_) rfl (by kernel_rfl) (by kernel_rfl) (by kernel_rfl) (fun _ _ _ h => h) (Or.inl ⟨by rfl, ?_⟩) hHeld ?_
          rotate_left
          · (intro w' hSw; (try dsimp only at hSw); go_split_ands; go_simp; first | done | with_reducible rfl)
          try simp only [Act.put, List.setIfInBounds_toArray, List.set_cons_zero, List.set_cons_succ]
          refine wpAnyH_take (i := 9) (oi := { dst := some 39, op := Op.fieldAddr 30 (Operand.tmp 3) 0, type := 0, pos := "ref.go:166", after := #[{ on := 3, ground := Ground.guard }], guard := some (3, true) }) (v := ?_) rfl (by kernel_rfl) (by kernel_rfl) (by kernel_rfl) (fun _ _ _ h => h) (Or.inl ⟨by rfl, ?_⟩) hHeld ?_
          rotate_left
          · (intro w' hSw; (try dsimp only at hSw); go_split_ands; go_simp; first | done | with_reducible rfl)
          try simp only [Act.put, List.setIfInBounds_toArray, List.set_cons_zero, List.set_cons_succ]
          refine wpAnyH_take (i := 10) (oi := { dst := some 40, op := Op.load 3 (Operand.tmp 39), type := 3, pos := "ref.go:166", after := #[{ on := 9, ground := Ground.data }, { on := 3, ground := Ground.guard }], guard := some (3, true) }) (v := ?_) rfl (by kernel_rfl) (by kernel_rfl) (by kernel_rfl) (fun _ _ _ h => h) (Or.inl ⟨by rfl, ?_⟩) hHeld ?_
          rotate_left
          · (intro w' hSw; (try dsimp only at hSw); go_split_ands; go_simp; first | done | with_reducible rfl)
          try simp only [Act.put, List.setIfInBounds_toArray, List.set_cons_zero, List.set_cons_succ]
          refine wpAnyH_ready (rs := [5]) (by kernel_rfl) (by simp) ?_
          refine AllReadyH.cons (o := { dst := some 35, op := Op.call { callee := Callee.value (Operand.func 16), args := #[Operand.tmp 34], argTypes := #[30] }, type := 3, pos := "ref.go:166", after := #[{ on := 4, ground := Ground.data }, { on := 3, ground := Ground.chain }, { on := 3, ground := Ground.guard }], guard := some (3, true) }) rfl (fun K hK => ?_) AllReadyH.nil
          go_simp
          refine hu5.out.mono ?_
          rintro e w7 ⟨rfl, hb7⟩
          have hltB : w.heap.size < W5.drew.heap.size := by have := bB.lt; have := h25.out.size; show _ < W5.heap.size; omega
          have k0 := (hb7.cell (p := ⟨w.heap.size, 0, none⟩) hltB).trans cc0
          have k1 := (hb7.cell (p := ⟨w.heap.size, 1, none⟩) hltB).trans cc1
          have k2 := (hb7.cell (p := ⟨w.heap.size, 2, none⟩) hltB).trans cc2
          have k3 := (hb7.cell (p := ⟨w.heap.size, 3, none⟩) hltB).trans cc3
          have k4 := (hb7.cell (p := ⟨w.heap.size, 4, none⟩) hltB).trans cc4
          have k5 := (hb7.cell (p := ⟨w.heap.size, 5, none⟩) hltB).trans cc5
          have k6 := (hb7.cell (p := ⟨w.heap.size, 6, none⟩) hltB).trans cc6
          go_wp2_with fail
          refine hK.out _ _ ?_ ?_
          · (exact ⟨k0, k1, k2, k3, k4, k5, k6⟩)
          clear hK K hHeld; intro hHeld
          try simp only [Act.put, List.setIfInBounds_toArray, List.set_cons_zero, List.set_cons_succ]
          refine wpAnyH_take (i := 8) (oi := { dst := some 38, op := Op.binOp BinOp.add 3 (Operand.tmp 35) (Operand.tmp 37) 3, type := 3, pos := "ref.go:166", after := #[{ on := 5, ground := Ground.data }, { on := 7, ground := Ground.data }, { on := 3, ground := Ground.guard }], guard := some (3, true) }) (v := ?_) rfl (by kernel_rfl) (by kernel_rfl) (by kernel_rfl) (fun _ _ _ h => h) (Or.inl ⟨by rfl, ?_⟩) hHeld ?_
          rotate_left
          · (intro w' hSw; (try dsimp only at hSw); go_split_ands; go_simp; first | done | with_reducible rfl)
          try simp only [Act.put, List.setIfInBounds_toArray, List.set_cons_zero, List.set_cons_succ]
          refine wpAnyH_take (i := 11) (oi := { dst := some 41, op := Op.binOp BinOp.gtr 3 (Operand.tmp 38) (Operand.tmp 40) 3, type := 4, pos := "ref.go:166", after := #[{ on := 8, ground := Ground.data }, { on := 10, ground := Ground.data }, { on := 3, ground := Ground.guard }], guard := some (3, true) }) (v := ?_) rfl (by kernel_rfl) (by kernel_rfl) (by kernel_rfl) (fun _ _ _ h => h) (Or.inl ⟨by rfl, ?_⟩) hHeld ?_
          rotate_left
          · (intro w' hSw; (try dsimp only at hSw); go_split_ands; go_simp; first | done | with_reducible rfl)
          try simp only [Act.put, List.setIfInBounds_toArray, List.set_cons_zero, List.set_cons_succ]
          refine wpAnyH_take (i := 12) (oi := { dst := some 42, op := Op.pick (Operand.tmp 33) (Operand.tmp 41) (Operand.const (Value.bool false)), type := 4, pos := "ref.go:166", after := #[{ on := 3, ground := Ground.data }, { on := 11, ground := Ground.data }], guard := none }) (v := ?_) rfl (by kernel_rfl) (by kernel_rfl) (by kernel_rfl) (fun _ _ _ h => h) (Or.inl ⟨by rfl, ?_⟩) hHeld ?_
          rotate_left
          · (intro w' hSw; (try dsimp only at hSw); go_split_ands; go_simp; first | done | with_reducible rfl)
          try simp only [Act.put, List.setIfInBounds_toArray, List.set_cons_zero, List.set_cons_succ]
          refine wpAnyH_done (by kernel_rfl) ?_ _
          refine NoPanic.normal ?_
          have hb27 : Below w3.heap.size w3 w7 := (below_drew h25.out).trans (hb7.mono h25.out.size)
          have xV : Blk w7 w3.heap.size #[.string fb, .int .i64 st0] 80 := X5.out.keep (hb7.block _ X5.out.lt)
          clear hb7
          have bB7 := bB.keep (hb27.block _ bB.lt)
          have bG7 := bG.keep (hb27.block _ bG.lt)
          have H27 := Lib.hid hb27
          clear bB bG xV hb27
          have bB := bB7
          have bG := bG7
          clear bB7 bG7
          obtain ⟨WF, eF, bGF, hFB, stF⟩ := bG.store7 w.heap.size (by have := ST.out.z1; omega) (.int .i64 r) (.slice (some ad) nf cf) (.slice An nn cn) (.slice Ak nk ck) (.slice Aq nq cq) (.bool fu) (.int .i64 lf)
          have hFB' := Lib.hid hFB
          have stF' := Lib.hid stF
          have cb0 := bB.cell 0 rfl
          have cb1 := bB.cell 1 rfl
          have cb2 := bB.cell 2 rfl
          have cb3 := bB.cell 3 rfl
          have cb4 := bB.cell 4 rfl
          have cb5 := bB.cell 5 rfl
          have cb6 := bB.cell 6 rfl
          have cg0 := bG.cell 0 rfl
          have cg1 := bG.cell 1 rfl
          have cg2 := bG.cell 2 rfl
          have cg3 := bG.cell 3 rfl
          have cg4 := bG.cell 4 rfl
          have cg5 := bG.cell 5 rfl
          have cg6 := bG.cell 6 rfl
          have fg0 := bG.frozen 0
          have fg1 := bG.frozen 1
          have fg2 := bG.frozen 2
          have fg3 := bG.frozen 3
          have fg4 := bG.frozen 4
          have fg5 := bG.frozen 5
          have fg6 := bG.frozen 6
          have ce0 := bGF.cell 0 rfl
          have ce1 := bGF.cell 1 rfl
          have ce2 := bGF.cell 2 rfl
          have ce3 := bGF.cell 3 rfl
          have ce4 := bGF.cell 4 rfl
          have ce5 := bGF.cell 5 rfl
          have ce6 := bGF.cell 6 rfl
          clear hFB stF bB bG bGF
          go_wp2
          refine bodyPost_ret (v := .tuple #[.agg #[.int .i64 r, .slice (some ad) nf cf, .slice An nn cn, .slice Ak nk ck, .slice Aq nq cq, .bool fu, .int .i64 lf], .int .i64 62]) (by simp [results, Tryz.results36, go_sem, ce0, ce1, ce2, ce3, ce4, ce5, ce6]) rfl ?_
          exact ⟨_, rfl, ((R2.out.newB H27.out).step (stF'.out m2 ST.out.hG)).less ST.out.less, (ST.out.b.trans (H27.out.mono (by have := ST.out.z2; omega))).trans hFB'.out⟩
        · rw [if_neg hlim, if_neg (fun e => hroom e.2)]
          have hri : (Q : Int) ≤ r := by omega
          clear x5 hus hlim hz hroom hQ bB5
          go_enter Tryz.func36, Tryz.ntmps36
          go_wp2_with fail
          refine HP.out.mono ?_
          rintro e w3 ⟨rfl, rfl⟩
          clear HP
          go_wp2_with fail
          refine wp_region_noPanic ?_
          refine wp_region_held_drew (S := fun w' => w'.cell? ⟨w.heap.size, 0, none⟩ = some (.int .i64 r) ∧ w'.cell? ⟨w.heap.size, 1, none⟩ = some (.slice (some ad) nf cf) ∧ w'.cell? ⟨w.heap.size, 2, none⟩ = some (.slice An nn cn) ∧ w'.cell? ⟨w.heap.size, 3, none⟩ = some (.slice Ak nk ck) ∧ w'.cell? ⟨w.heap.size, 4, none⟩ = some (.slice Aq nq cq) ∧ w'.cell? ⟨w.heap.size, 5, none⟩ = some (.bool fu) ∧ w'.cell? ⟨w.heap.size, 6, none⟩ = some (.int .i64 lf)) (by kernel_rfl) ?_ (fun hHeld => ?_)
          · (exact ⟨cc0, cc1, cc2, cc3, cc4, cc5, cc6⟩)
          refine wpAnyH_take (i := 0) (oi := { dst := some 30, op := Op.move (Operand.tmp 2), type := 32, pos := "ref.go:166", after := #[], guard := none }) (v := ?_) rfl (by kernel_rfl) (by kernel_rfl) (by kernel_rfl) (fun _ _ _ h => h) (Or.inl ⟨by rfl, ?_⟩) hHeld ?_
          rotate_left
          · (intro w' hSw; (try dsimp only at hSw); go_split_ands; go_simp; first | done | with_reducible rfl)
          try simp only [Act.put, List.setIfInBounds_toArray, List.set_cons_zero, List.set_cons_succ]
          refine wpAnyH_take (i := 1) (oi := { dst := some 31, op := Op.call { callee := Callee.builtin Builtin.len, args := #[Operand.tmp 30], argTypes := #[32] }, type := 3, pos := "ref.go:166", after := #[{ on := 0, ground := Ground.data }], guard := none }) (v := ?_) rfl (by kernel_rfl) (by kernel_rfl) (by kernel_rfl) (fun _ _ _ h => h) (Or.inl ⟨by rfl, ?_⟩) hHeld ?_
          rotate_left
          · (intro w' hSw; (try dsimp only at hSw); go_split_ands; go_simp; first | done | with_reducible rfl)
          try simp only [Act.put, List.setIfInBounds_toArray, List.set_cons_zero, List.set_cons_succ]
          refine wpAnyH_take (i := 2) (oi := { dst := some 32, op := Op.binOp BinOp.gtr 3 (Operand.tmp 31) (Operand.const (Value.int IntKind.i64 0)) 3, type := 4, pos := "ref.go:166", after := #[{ on := 1, ground := Ground.data }], guard := none }) (v := (.bool true)) rfl (by kernel_rfl) (by kernel_rfl) (by kernel_rfl) (fun _ _ _ h => h) (Or.inl ⟨by rfl, ?_⟩) hHeld ?_
          · (intro w' hSw; (try dsimp only at hSw); go_split_ands; go_simp; first | done | with_reducible rfl | omega)
          try simp only [Act.put, List.setIfInBounds_toArray, List.set_cons_zero, List.set_cons_succ]
          refine wpAnyH_take (i := 3) (oi := { dst := some 33, op := Op.move (Operand.tmp 32), type := 4, pos := "ref.go:166", after := #[{ on := 2, ground := Ground.data }], guard := none }) (v := ?_) rfl (by kernel_rfl) (by kernel_rfl) (by kernel_rfl) (fun _ _ _ h => h) (Or.inl ⟨by rfl, ?_⟩) hHeld ?_
          rotate_left
          · (intro w' hSw; (try dsimp only at hSw); go_split_ands; go_simp; first | done | with_reducible rfl)
          try simp only [Act.put, List.setIfInBounds_toArray, List.set_cons_zero, List.set_cons_succ]
          refine wpAnyH_take (i := 4) (oi := { dst := some 34, op := Op.load 30 (Operand.tmp 3), type := 30, pos := "ref.go:166", after := #[{ on := 3, ground := Ground.guard }], guard := some (3, true) }) (v := ?_) rfl (by kernel_rfl) (by kernel_rfl) (by kernel_rfl) (fun _ _ _ h => h) (Or.inl ⟨by rfl, ?_⟩) hHeld ?_
          rotate_left
          · (intro w' hSw; (try dsimp only at hSw); go_split_ands; go_simp; first | done | with_reducible rfl)
          try simp only [Act.put, List.setIfInBounds_toArray, List.set_cons_zero, List.set_cons_succ]
          refine wpAnyH_take (i := 6) (oi := { dst := some 36, op := Op.move (Operand.tmp 2), type := 32, pos := "ref.go:166", after := #[{ on := 3, ground := Ground.guard }], guard := some (3, true) }) (v := ?_) rfl (by kernel_rfl) (by kernel_rfl) (by kernel_rfl) (fun _ _ _ h => h) (Or.inl ⟨by rfl, ?_⟩) hHeld ?_
          rotate_left
          · (intro w' hSw; (try dsimp only at hSw); go_split_ands; go_simp; first | done | with_reducible rfl)
          try simp only [Act.put, List.setIfInBounds_toArray, List.set_cons_zero, List.set_cons_succ]
          refine wpAnyH_take (i := 7) (oi := { dst := some 37, op := Op.call { callee := Callee.builtin Builtin.len, args := #[Operand.tmp 36], argTypes := #[32] }, type := 3, pos := "ref.go:166", after := #[{ on := 6, ground := Ground.data }, { on := 3, ground := Ground.guard }], guard := some (3, true) }) (v := ?_) rfl (by kernel_rfl) (by kernel_rfl) (by kernel_rfl) (fun _ _ _ h => h) (Or.inl ⟨by rfl, ?_⟩) hHeld ?_
          rotate_left
          · (intro w' hSw; (try dsimp only at hSw); go_split_ands; go_simp; first | done | with_reducible rfl)
          try simp only [Act.put, List.setIfInBounds_toArray, List.set_cons_zero, List.set_cons_succ]
          refine wpAnyH_take (i := 9) (oi := { dst := some 39, op := Op.fieldAddr 30 (Operand.tmp 3) 0, type := 0, pos := "ref.go:166", after := #[{ on := 3, ground := Ground.guard }], guard := some (3, true) }) (v := ?_) rfl (by kernel_rfl) (by kernel_rfl) (by kernel_rfl) (fun _ _ _ h => h) (Or.inl ⟨by rfl, ?_⟩) hHeld ?_
          rotate_left
          · (intro w' hSw; (try dsimp only at hSw); go_split_ands; go_simp; first | done | with_reducible rfl)
          try simp only [Act.put, List.setIfInBounds_toArray, List.set_cons_zero, List.set_cons_succ]
          refine wpAnyH_take (i := 10) (oi := { dst := some 40, op := Op.load 3 (Operand.tmp 39), type := 3, pos := "ref.go:166", after := #[{ on := 9, ground := Ground.data }, { on := 3, ground := Ground.guard }], guard := some (3, true) }) (v := ?_) rfl (by kernel_rfl) (by kernel_rfl) (by kernel_rfl) (fun _ _ _ h => h) (Or.inl ⟨by rfl, ?_⟩) hHeld ?_
          rotate_left
          · (intro w' hSw; (try dsimp only at hSw); go_split_ands; go_simp; first | done | with_reducible rfl)
          try simp only [Act.put, List.setIfInBounds_toArray, List.set_cons_zero, List.set_cons_succ]
          refine wpAnyH_ready (rs := [5]) (by kernel_rfl) (by simp) ?_
          refine AllReadyH.cons (o := { dst := some 35, op := Op.call { callee := Callee.value (Operand.func 16), args := #[Operand.tmp 34], argTypes := #[30] }, type := 3, pos := "ref.go:166", after := #[{ on := 4, ground := Ground.data }, { on := 3, ground := Ground.chain }, { on := 3, ground := Ground.guard }], guard := some (3, true) }) rfl (fun K hK => ?_) AllReadyH.nil
          go_simp
          refine hu5.out.mono ?_
          rintro e w7 ⟨rfl, hb7⟩
          have hltB : w.heap.size < W5.drew.heap.size := by have := bB.lt; have := h25.out.size; show _ < W5.heap.size; omega
          have k0 := (hb7.cell (p := ⟨w.heap.size, 0, none⟩) hltB).trans cc0
          have k1 := (hb7.cell (p := ⟨w.heap.size, 1, none⟩) hltB).trans cc1
          have k2 := (hb7.cell (p := ⟨w.heap.size, 2, none⟩) hltB).trans cc2
          have k3 := (hb7.cell (p := ⟨w.heap.size, 3, none⟩) hltB).trans cc3
          have k4 := (hb7.cell (p := ⟨w.heap.size, 4, none⟩) hltB).trans cc4
          have k5 := (hb7.cell (p := ⟨w.heap.size, 5, none⟩) hltB).trans cc5
          have k6 := (hb7.cell (p := ⟨w.heap.size, 6, none⟩) hltB).trans cc6
          go_wp2_with fail
          refine hK.out _ _ ?_ ?_
          · (exact ⟨k0, k1, k2, k3, k4, k5, k6⟩)
          clear hK K hHeld; intro hHeld
          try simp only [Act.put, List.setIfInBounds_toArray, List.set_cons_zero, List.set_cons_succ]
          refine wpAnyH_take (i := 8) (oi := { dst := some 38, op := Op.binOp BinOp.add 3 (Operand.tmp 35) (Operand.tmp 37) 3, type := 3, pos := "ref.go:166", after := #[{ on := 5, ground := Ground.data }, { on := 7, ground := Ground.data }, { on := 3, ground := Ground.guard }], guard := some (3, true) }) (v := ?_) rfl (by kernel_rfl) (by kernel_rfl) (by kernel_rfl) (fun _ _ _ h => h) (Or.inl ⟨by rfl, ?_⟩) hHeld ?_
          rotate_left
          · (intro w' hSw; (try dsimp only at hSw); go_split_ands; go_simp; first | done | with_reducible rfl)
          try simp only [Act.put, List.setIfInBounds_toArray, List.set_cons_zero, List.set_cons_succ]
          refine wpAnyH_take (i := 11) (oi := { dst := some 41, op := Op.binOp BinOp.gtr 3 (Operand.tmp 38) (Operand.tmp 40) 3, type := 4, pos := "ref.go:166", after := #[{ on := 8, ground := Ground.data }, { on := 10, ground := Ground.data }, { on := 3, ground := Ground.guard }], guard := some (3, true) }) (v := ?_) rfl (by kernel_rfl) (by kernel_rfl) (by kernel_rfl) (fun _ _ _ h => h) (Or.inl ⟨by rfl, ?_⟩) hHeld ?_
          rotate_left
          · (intro w' hSw; (try dsimp only at hSw); go_split_ands; go_simp; first | done | with_reducible rfl)
          try simp only [Act.put, List.setIfInBounds_toArray, List.set_cons_zero, List.set_cons_succ]
          refine wpAnyH_take (i := 12) (oi := { dst := some 42, op := Op.pick (Operand.tmp 33) (Operand.tmp 41) (Operand.const (Value.bool false)), type := 4, pos := "ref.go:166", after := #[{ on := 3, ground := Ground.data }, { on := 11, ground := Ground.data }], guard := none }) (v := ?_) rfl (by kernel_rfl) (by kernel_rfl) (by kernel_rfl) (fun _ _ _ h => h) (Or.inl ⟨by rfl, ?_⟩) hHeld ?_
          rotate_left
          · (intro w' hSw; (try dsimp only at hSw); go_split_ands; go_simp; first | done | with_reducible rfl)
          try simp only [Act.put, List.setIfInBounds_toArray, List.set_cons_zero, List.set_cons_succ]
          refine wpAnyH_done (by kernel_rfl) ?_ _
          refine NoPanic.normal ?_
          have hb27 : Below w3.heap.size w3 w7 := (below_drew h25.out).trans (hb7.mono h25.out.size)
          have xV : Blk w7 w3.heap.size #[.string fb, .int .i64 st0] 80 := X5.out.keep (hb7.block _ X5.out.lt)
          clear hb7
          have bBV := bB.keep ((hb27).block _ bB.lt)
          have bGV := bG.keep ((hb27).block _ bG.lt)
          have hb8 := Lib.hid ((hb27).trans ((Below.refl w3.heap.size w7).setCell (p := ⟨w3.heap.size, 0, none⟩) (Nat.le_refl _) (.string (fb ++ bs))))
          obtain ⟨W8, e8⟩ : ∃ W8, (w7).setCell ⟨w3.heap.size, 0, none⟩ (.string (fb ++ bs)) = W8 := ⟨_, rfl⟩
          rw [e8] at hb8
          have x8 : Blk W8 w3.heap.size #[.string (fb ++ bs), .int .i64 st0] 80 := e8 ▸ xV.set_ 0 _ (by simp)
          have yv0 := xV.cell 0 rfl
          have zv0 := xV.frozen 0
          have y80 := x8.cell 0 rfl
          have y81 := x8.cell 1 rfl
          have bB8 := bB.keep (hb8.out.block _ bB.lt)
          have bG8 := bG.keep (hb8.out.block _ bG.lt)
          have cb0 := bB8.cell 0 rfl
          have cb1 := bB8.cell 1 rfl
          have cb2 := bB8.cell 2 rfl
          have cb3 := bB8.cell 3 rfl
          have cb4 := bB8.cell 4 rfl
          have cb5 := bB8.cell 5 rfl
          have cb6 := bB8.cell 6 rfl
          have cv := run_str (w7) _ Ab lb cb b ((hsb (hb27)).sees) HB.out
          rw [HBS.out] at cv
          have hcl := Lib.hid (hcl0 W8 hb8.out)
          have hb6 := hb8
          clear bG bBV bGV xV x8 bB8 hcl0 hsb
          have bG := bG8
          clear bG8
          clear hb27
          go_wp2_with fail
          refine hcl.out.mono ?_
          rintro e w4 ⟨v4, rfl, hr4, hb4⟩
          obtain ⟨r', Af', nf', cf', An', nn', cn', Ak', nk', ck', Aq', nq', cq', h7⟩ := hr4.seven
          obtain rfl := h7.v_
          have hB4 := Lib.hid ((ST.out.b.trans (hb6.out.mono (by have := ST.out.z2; omega))).trans (hb4.mono (by have := ST.out.z2; have := hb6.out.size; omega)))
          have R4 := Lib.hid hr4
          have bG4 := bG.keep (hb4.block _ bG.lt)
          clear bG hr4 h7 hb4 hcl
          have bG := bG4
          clear bG4
          obtain ⟨WF, eF, bGF, hFB, stF⟩ := bG.store7 w.heap.size (by have := ST.out.z1; omega) (.int .i64 r') (.slice Af' nf' cf') (.slice An' nn' cn') (.slice Ak' nk' ck') (.slice Aq' nq' cq') (.bool fu) (.int .i64 lf)
          have hFB' := Lib.hid hFB
          have stF' := Lib.hid stF
          have cg0 := bG.cell 0 rfl
          have cg1 := bG.cell 1 rfl
          have cg2 := bG.cell 2 rfl
          have cg3 := bG.cell 3 rfl
          have cg4 := bG.cell 4 rfl
          have cg5 := bG.cell 5 rfl
          have cg6 := bG.cell 6 rfl
          have fg0 := bG.frozen 0
          have fg1 := bG.frozen 1
          have fg2 := bG.frozen 2
          have fg3 := bG.frozen 3
          have fg4 := bG.frozen 4
          have fg5 := bG.frozen 5
          have fg6 := bG.frozen 6
          have ce0 := bGF.cell 0 rfl
          have ce1 := bGF.cell 1 rfl
          have ce2 := bGF.cell 2 rfl
          have ce3 := bGF.cell 3 rfl
          have ce4 := bGF.cell 4 rfl
          have ce5 := bGF.cell 5 rfl
          have ce6 := bGF.cell 6 rfl
          clear hFB stF bG bGF
          go_wp2
          refine bodyPost_ret (v := .tuple #[.agg #[.int .i64 r', .slice Af' nf' cf', .slice An' nn' cn', .slice Ak' nk' ck', .slice Aq' nq' cq', .bool fu, .int .i64 lf], .int .i64 0]) (by simp [results, Tryz.results36, go_sem, ce0, ce1, ce2, ce3, ce4, ce5, ce6]) rfl ?_
          exact ⟨_, rfl, ((R4.out).step (stF'.out m2 ST.out.hG)).less ST.out.less, (hB4.out).trans hFB'.out⟩
end Go.Proofs.YteidkmiladkoiaaGreatDoor

/-
  An act over files: small? over the program's files alone.
-/
namespace Go.Proofs.YteidkmiladkoiaaGreatDoor
open Go.RowKit

/-- Something that is done to files. -/
structure ActF where
  kind : Int
  path : Txt
  into : Txt
  b : Txt
  n : Int
  by_ : Int
def ActF.val (x : ActF) (A : Option Addr) (lb c : Nat) : Value := .agg #[.int .i64 x.kind, .string (strOf x.path), .string (strOf x.into), .slice A lb c, .int .i64 x.n, .int .i64 x.by_]
def fewF (x : ActF) : Bool := decide (x.path.length ≤ 60) && decide (x.into.length ≤ 60) && decide (x.b.length ≤ 200)
theorem and15 (x : Int) : bits .and .i64 x 15 = x % 16 := by
  have e1 : (BitVec.ofInt 64 x).toNat % 16 = (x % 16).toNat := by
    rw [BitVec.toNat_ofInt]
    omega
  have hn : (BitVec.ofInt 64 x &&& BitVec.ofInt 64 15).toNat = (x % 16).toNat := by
    rw [BitVec.toNat_and, show (BitVec.ofInt 64 15).toNat = 15 from by decide, show (15 : Nat) = 2 ^ 4 - 1 from by omega, Nat.and_two_pow_sub_one_eq_mod]
    exact e1
  show IntKind.i64.wrap ((BitVec.ofInt 64 x &&& BitVec.ofInt 64 15).toNat : Int) = _
  rw [hn, IntKind.wrap_i64]
  omega
/-- What an act does, where its kind is below 15. -/
def actF (x : ActF) (S : FsM) : FsM × Nat :=
  if x.kind % 16 < 3 then S.create x.path else if x.kind % 16 < 6 then S.append x.path x.b else if x.kind % 16 < 8 then S.sync x.path else if x.kind % 16 < 10 then S.rename x.path x.into
  else if x.kind % 16 < 12 then S.link x.path x.into else if x.kind % 16 < 13 then S.remove x.path else (S.settle, 0)

set_option maxRecDepth 100000 in
set_option maxHeartbeats 800000 in
theorem fewF_any (x : ActF) (A : Option Addr) (lb c : Nat) (hb : x.b.length = lb) (w : World) : Calls Tryz.prog 11 #[x.val A lb c] w fun e w' => e = .returned (.bool (fewF x)) ∧ Below w.heap.size w w' := by
  unfold ActF.val
  obtain ⟨W1, e1⟩ : ∃ W1, w.alloc (.cells #[.int .i64 x.kind, .string (strOf x.path), .string (strOf x.into), .slice A lb c, .int .i64 x.n, .int .i64 x.by_] 34) = W1 := ⟨_, rfl⟩
  have bB : Blk W1 w.heap.size #[.int .i64 x.kind, .string (strOf x.path), .string (strOf x.into), .slice A lb c, .int .i64 x.n, .int .i64 x.by_] 34 := e1 ▸ Blk.new w _ _
  have h01 : Below w.heap.size w W1 := e1 ▸ (Below.refl _ _).alloc (Nat.le_refl _) _
  have c1 := bB.cell 1 rfl
  have c2 := bB.cell 2 rfl
  have c3 := bB.cell 3 rfl
  obtain ⟨X, hX⟩ : ∃ X, fewF x = X := ⟨_, rfl⟩
  rw [hX]
  unfold fewF at hX
  have z1 : (strOf x.path).size = x.path.length := by simp [strOf, ByteArray.size]
  have z2 : (strOf x.into).size = x.into.length := by simp [strOf, ByteArray.size]
  obtain ⟨l1, hl1⟩ : ∃ l, x.path.length = l := ⟨_, rfl⟩
  obtain ⟨l2, hl2⟩ : ∃ l, x.into.length = l := ⟨_, rfl⟩
  rw [hl1] at hX z1
  rw [hl2] at hX z2
  rw [hb] at hX
  have HX := Lib.hid hX
  clear hX hl1 hl2 hb bB
  by_cases g1 : (l1 : Int) ≤ 60
  · by_cases g2 : (l2 : Int) ≤ 60
    · by_cases g3 : (lb : Int) ≤ 200
      · have hF : Hid (X = true) := by unfold Hid; rw [← HX.out, decide_eq_true (by omega), decide_eq_true (by omega), decide_eq_true (by omega)]; rfl
        go_enter Tryz.func11, Tryz.ntmps11
        go_wp2
        go_ret
        exact ⟨ret_bool (by rw [hF.out]), h01⟩
      · have hF : Hid (X = false) := by unfold Hid; rw [← HX.out, decide_eq_false (p := lb ≤ 200) (by omega), Bool.and_false]
        go_enter Tryz.func11, Tryz.ntmps11
        go_wp2
        go_ret
        exact ⟨ret_bool (by rw [hF.out]), h01⟩
    · have hF : Hid (X = false) := by unfold Hid; rw [← HX.out, decide_eq_false (p := l2 ≤ 60) (by omega), Bool.and_false, Bool.false_and]
      go_enter Tryz.func11, Tryz.ntmps11
      go_wp2
      go_ret
      exact ⟨ret_bool (by rw [hF.out]), h01⟩
  · have hF : Hid (X = false) := by unfold Hid; rw [← HX.out, decide_eq_false (p := l1 ≤ 60) (by omega), Bool.false_and, Bool.false_and]
    go_enter Tryz.func11, Tryz.ntmps11
    go_wp2
    go_ret
    exact ⟨ret_bool (by rw [hF.out]), h01⟩

set_option maxRecDepth 100000 in
set_option maxHeartbeats 1600000 in
theorem callF_0 {w0 w : World} {f N : Nat} {S : FsM} {m : Nat → Prop} (h0 : OwnE w0 w f S m) (hO : FsOk N S) (hN : N ≤ 9000) (x : ActF) (A : Option Addr) (lb c : Nat) (_ : x.b.length = lb) (_ : lb ≤ c) (_ : lb ≤ 1000000000) (hs : Hold m w A (bv x.b)) (hp : x.path.length ≤ 1000000) (_ : x.into.length ≤ 1000000) (hk : x.kind % 16 = 0) :
    Calls Tryz.prog 34 #[.pointer (some ⟨f, 0, none⟩), x.val A lb c] w fun e w' => e = .returned (.int .i64 ((S.go (actF x)).2 : Int)) ∧ Steps w0 w f (S.go (actF x)).1 m w' := by
  unfold ActF.val
  obtain ⟨W1, e1⟩ : ∃ W1, w.alloc (.cells #[.int .i64 x.kind, .string (strOf x.path), .string (strOf x.into), .slice A lb c, .int .i64 x.n, .int .i64 x.by_] 34) = W1 := ⟨_, rfl⟩
  have bB : Blk W1 w.heap.size #[.int .i64 x.kind, .string (strOf x.path), .string (strOf x.into), .slice A lb c, .int .i64 x.n, .int .i64 x.by_] 34 := e1 ▸ Blk.new w _ _
  have h01 : Below w.heap.size w W1 := e1 ▸ (Below.refl _ _).alloc (Nat.le_refl _) _
  have c0 := bB.cell 0 rfl
  have c1 := bB.cell 1 rfl
  have c2 := bB.cell 2 rfl
  have c3 := bB.cell 3 rfl
  have hand : bits .and .i64 x.kind 15 = 0 := (and15 x.kind).trans hk
  have ea : actF x = (·.create x.path) := by funext S; unfold actF; simp [hk]
  rw [ea]
  have o1 := h0.newB h01
  have h1 := hs.newB h01
  have kk := Lib.hid (create_own o1 hO (by omega) x.path hp)
  have hlt := Lib.hid h0.lt
  have H01 := Lib.hid h01
  clear bB hk ea o1 h1 h0 hO hs h01 hp
  go_enter Tryz.func34, Tryz.ntmps34
  go_wp2_with fail
  refine kk.out.mono ?_
  rintro e w2 ⟨rfl, m', h2, h3⟩
  have H2 := Lib.hid h2
  have H3 := Lib.hid (h3.before H01.out fun k e => (hlt.out k e).2)
  clear h2 h3
  go_wp2
  go_ret
  exact ⟨rfl, m', H2.out, H3.out⟩

set_option maxRecDepth 100000 in
set_option maxHeartbeats 1600000 in
theorem callF_1 {w0 w : World} {f N : Nat} {S : FsM} {m : Nat → Prop} (h0 : OwnE w0 w f S m) (hO : FsOk N S) (hN : N ≤ 9000) (x : ActF) (A : Option Addr) (lb c : Nat) (_ : x.b.length = lb) (_ : lb ≤ c) (_ : lb ≤ 1000000000) (hs : Hold m w A (bv x.b)) (hp : x.path.length ≤ 1000000) (_ : x.into.length ≤ 1000000) (hk : x.kind % 16 = 1) :
    Calls Tryz.prog 34 #[.pointer (some ⟨f, 0, none⟩), x.val A lb c] w fun e w' => e = .returned (.int .i64 ((S.go (actF x)).2 : Int)) ∧ Steps w0 w f (S.go (actF x)).1 m w' := by
  unfold ActF.val
  obtain ⟨W1, e1⟩ : ∃ W1, w.alloc (.cells #[.int .i64 x.kind, .string (strOf x.path), .string (strOf x.into), .slice A lb c, .int .i64 x.n, .int .i64 x.by_] 34) = W1 := ⟨_, rfl⟩
  have bB : Blk W1 w.heap.size #[.int .i64 x.kind, .string (strOf x.path), .string (strOf x.into), .slice A lb c, .int .i64 x.n, .int .i64 x.by_] 34 := e1 ▸ Blk.new w _ _
  have h01 : Below w.heap.size w W1 := e1 ▸ (Below.refl _ _).alloc (Nat.le_refl _) _
  have c0 := bB.cell 0 rfl
  have c1 := bB.cell 1 rfl
  have c2 := bB.cell 2 rfl
  have c3 := bB.cell 3 rfl
  have hand : bits .and .i64 x.kind 15 = 1 := (and15 x.kind).trans hk
  have ea : actF x = (·.create x.path) := by funext S; unfold actF; simp [hk]
  rw [ea]
  have o1 := h0.newB h01
  have h1 := hs.newB h01
  have kk := Lib.hid (create_own o1 hO (by omega) x.path hp)
  have hlt := Lib.hid h0.lt
  have H01 := Lib.hid h01
  clear bB hk ea o1 h1 h0 hO hs h01 hp
  go_enter Tryz.func34, Tryz.ntmps34
  go_wp2_with fail
  refine kk.out.mono ?_
  rintro e w2 ⟨rfl, m', h2, h3⟩
  have H2 := Lib.hid h2
  have H3 := Lib.hid (h3.before H01.out fun k e => (hlt.out k e).2)
  clear h2 h3
  go_wp2
  go_ret
  exact ⟨rfl, m', H2.out, H3.out⟩

set_option maxRecDepth 100000 in
set_option maxHeartbeats 1600000 in
theorem callF_2 {w0 w : World} {f N : Nat} {S : FsM} {m : Nat → Prop} (h0 : OwnE w0 w f S m) (hO : FsOk N S) (hN : N ≤ 9000) (x : ActF) (A : Option Addr) (lb c : Nat) (_ : x.b.length = lb) (_ : lb ≤ c) (_ : lb ≤ 1000000000) (hs : Hold m w A (bv x.b)) (hp : x.path.length ≤ 1000000) (_ : x.into.length ≤ 1000000) (hk : x.kind % 16 = 2) :
    Calls Tryz.prog 34 #[.pointer (some ⟨f, 0, none⟩), x.val A lb c] w fun e w' => e = .returned (.int .i64 ((S.go (actF x)).2 : Int)) ∧ Steps w0 w f (S.go (actF x)).1 m w' := by
  unfold ActF.val
  obtain ⟨W1, e1⟩ : ∃ W1, w.alloc (.cells #[.int .i64 x.kind, .string (strOf x.path), .string (strOf x.into), .slice A lb c, .int .i64 x.n, .int .i64 x.by_] 34) = W1 := ⟨_, rfl⟩
  have bB : Blk W1 w.heap.size #[.int .i64 x.kind, .string (strOf x.path), .string (strOf x.into), .slice A lb c, .int .i64 x.n, .int .i64 x.by_] 34 := e1 ▸ Blk.new w _ _
  have h01 : Below w.heap.size w W1 := e1 ▸ (Below.refl _ _).alloc (Nat.le_refl _) _
  have c0 := bB.cell 0 rfl
  have c1 := bB.cell 1 rfl
  have c2 := bB.cell 2 rfl
  have c3 := bB.cell 3 rfl
  have hand : bits .and .i64 x.kind 15 = 2 := (and15 x.kind).trans hk
  have ea : actF x = (·.create x.path) := by funext S; unfold actF; simp [hk]
  rw [ea]
  have o1 := h0.newB h01
  have h1 := hs.newB h01
  have kk := Lib.hid (create_own o1 hO (by omega) x.path hp)
  have hlt := Lib.hid h0.lt
  have H01 := Lib.hid h01
  clear bB hk ea o1 h1 h0 hO hs h01 hp
  go_enter Tryz.func34, Tryz.ntmps34
  go_wp2_with fail
  refine kk.out.mono ?_
  rintro e w2 ⟨rfl, m', h2, h3⟩
  have H2 := Lib.hid h2
  have H3 := Lib.hid (h3.before H01.out fun k e => (hlt.out k e).2)
  clear h2 h3
  go_wp2
  go_ret
  exact ⟨rfl, m', H2.out, H3.out⟩

set_option maxRecDepth 100000 in
set_option maxHeartbeats 1600000 in
theorem callF_3 {w0 w : World} {f N : Nat} {S : FsM} {m : Nat → Prop} (h0 : OwnE w0 w f S m) (hO : FsOk N S) (hN : N ≤ 9000) (x : ActF) (A : Option Addr) (lb c : Nat) (hb : x.b.length = lb) (hc : lb ≤ c) (hlb : lb ≤ 1000000000) (hs : Hold m w A (bv x.b)) (_ : x.path.length ≤ 1000000) (_ : x.into.length ≤ 1000000) (hk : x.kind % 16 = 3) :
    Calls Tryz.prog 34 #[.pointer (some ⟨f, 0, none⟩), x.val A lb c] w fun e w' => e = .returned (.int .i64 ((S.go (actF x)).2 : Int)) ∧ Steps w0 w f (S.go (actF x)).1 m w' := by
  unfold ActF.val
  obtain ⟨W1, e1⟩ : ∃ W1, w.alloc (.cells #[.int .i64 x.kind, .string (strOf x.path), .string (strOf x.into), .slice A lb c, .int .i64 x.n, .int .i64 x.by_] 34) = W1 := ⟨_, rfl⟩
  have bB : Blk W1 w.heap.size #[.int .i64 x.kind, .string (strOf x.path), .string (strOf x.into), .slice A lb c, .int .i64 x.n, .int .i64 x.by_] 34 := e1 ▸ Blk.new w _ _
  have h01 : Below w.heap.size w W1 := e1 ▸ (Below.refl _ _).alloc (Nat.le_refl _) _
  have c0 := bB.cell 0 rfl
  have c1 := bB.cell 1 rfl
  have c2 := bB.cell 2 rfl
  have c3 := bB.cell 3 rfl
  have hand : bits .and .i64 x.kind 15 = 3 := (and15 x.kind).trans hk
  have ea : actF x = (·.append x.path x.b) := by funext S; unfold actF; simp [hk]
  rw [ea]
  have o1 := h0.newB h01
  have h1 := hs.newB h01
  have kk := Lib.hid (append_own o1 hO (by omega) x.path A lb c x.b hb hc hlb h1)
  have hlt := Lib.hid h0.lt
  have H01 := Lib.hid h01
  clear bB hk ea o1 h1 h0 hO hs h01 hb
  go_enter Tryz.func34, Tryz.ntmps34
  go_wp2_with fail
  refine kk.out.mono ?_
  rintro e w2 ⟨rfl, m', h2, h3⟩
  have H2 := Lib.hid h2
  have H3 := Lib.hid (h3.before H01.out fun k e => (hlt.out k e).2)
  clear h2 h3
  go_wp2
  go_ret
  exact ⟨rfl, m', H2.out, H3.out⟩

set_option maxRecDepth 100000 in
set_option maxHeartbeats 1600000 in
theorem callF_4 {w0 w : World} {f N : Nat} {S : FsM} {m : Nat → Prop} (h0 : OwnE w0 w f S m) (hO : FsOk N S) (hN : N ≤ 9000) (x : ActF) (A : Option Addr) (lb c : Nat) (hb : x.b.length = lb) (hc : lb ≤ c) (hlb : lb ≤ 1000000000) (hs : Hold m w A (bv x.b)) (_ : x.path.length ≤ 1000000) (_ : x.into.length ≤ 1000000) (hk : x.kind % 16 = 4) :
    Calls Tryz.prog 34 #[.pointer (some ⟨f, 0, none⟩), x.val A lb c] w fun e w' => e = .returned (.int .i64 ((S.go (actF x)).2 : Int)) ∧ Steps w0 w f (S.go (actF x)).1 m w' := by
  unfold ActF.val
  obtain ⟨W1, e1⟩ : ∃ W1, w.alloc (.cells #[.int .i64 x.kind, .string (strOf x.path), .string (strOf x.into), .slice A lb c, .int .i64 x.n, .int .i64 x.by_] 34) = W1 := ⟨_, rfl⟩
  have bB : Blk W1 w.heap.size #[.int .i64 x.kind, .string (strOf x.path), .string (strOf x.into), .slice A lb c, .int .i64 x.n, .int .i64 x.by_] 34 := e1 ▸ Blk.new w _ _
  have h01 : Below w.heap.size w W1 := e1 ▸ (Below.refl _ _).alloc (Nat.le_refl _) _
  have c0 := bB.cell 0 rfl
  have c1 := bB.cell 1 rfl
  have c2 := bB.cell 2 rfl
  have c3 := bB.cell 3 rfl
  have hand : bits .and .i64 x.kind 15 = 4 := (and15 x.kind).trans hk
  have ea : actF x = (·.append x.path x.b) := by funext S; unfold actF; simp [hk]
  rw [ea]
  have o1 := h0.newB h01
  have h1 := hs.newB h01
  have kk := Lib.hid (append_own o1 hO (by omega) x.path A lb c x.b hb hc hlb h1)
  have hlt := Lib.hid h0.lt
  have H01 := Lib.hid h01
  clear bB hk ea o1 h1 h0 hO hs h01 hb
  go_enter Tryz.func34, Tryz.ntmps34
  go_wp2_with fail
  refine kk.out.mono ?_
  rintro e w2 ⟨rfl, m', h2, h3⟩
  have H2 := Lib.hid h2
  have H3 := Lib.hid (h3.before H01.out fun k e => (hlt.out k e).2)
  clear h2 h3
  go_wp2
  go_ret
  exact ⟨rfl, m', H2.out, H3.out⟩

set_option maxRecDepth 100000 in
set_option maxHeartbeats 1600000 in
theorem callF_5 {w0 w : World} {f N : Nat} {S : FsM} {m : Nat → Prop} (h0 : OwnE w0 w f S m) (hO : FsOk N S) (hN : N ≤ 9000) (x : ActF) (A : Option Addr) (lb c : Nat) (hb : x.b.length = lb) (hc : lb ≤ c) (hlb : lb ≤ 1000000000) (hs : Hold m w A (bv x.b)) (_ : x.path.length ≤ 1000000) (_ : x.into.length ≤ 1000000) (hk : x.kind % 16 = 5) :
    Calls Tryz.prog 34 #[.pointer (some ⟨f, 0, none⟩), x.val A lb c] w fun e w' => e = .returned (.int .i64 ((S.go (actF x)).2 : Int)) ∧ Steps w0 w f (S.go (actF x)).1 m w' := by
  unfold ActF.val
  obtain ⟨W1, e1⟩ : ∃ W1, w.alloc (.cells #[.int .i64 x.kind, .string (strOf x.path), .string (strOf x.into), .slice A lb c, .int .i64 x.n, .int .i64 x.by_] 34) = W1 := ⟨_, rfl⟩
  have bB : Blk W1 w.heap.size #[.int .i64 x.kind, .string (strOf x.path), .string (strOf x.into), .slice A lb c, .int .i64 x.n, .int .i64 x.by_] 34 := e1 ▸ Blk.new w _ _
  have h01 : Below w.heap.size w W1 := e1 ▸ (Below.refl _ _).alloc (Nat.le_refl _) _
  have c0 := bB.cell 0 rfl
  have c1 := bB.cell 1 rfl
  have c2 := bB.cell 2 rfl
  have c3 := bB.cell 3 rfl
  have hand : bits .and .i64 x.kind 15 = 5 := (and15 x.kind).trans hk
  have ea : actF x = (·.append x.path x.b) := by funext S; unfold actF; simp [hk]
  rw [ea]
  have o1 := h0.newB h01
  have h1 := hs.newB h01
  have kk := Lib.hid (append_own o1 hO (by omega) x.path A lb c x.b hb hc hlb h1)
  have hlt := Lib.hid h0.lt
  have H01 := Lib.hid h01
  clear bB hk ea o1 h1 h0 hO hs h01 hb
  go_enter Tryz.func34, Tryz.ntmps34
  go_wp2_with fail
  refine kk.out.mono ?_
  rintro e w2 ⟨rfl, m', h2, h3⟩
  have H2 := Lib.hid h2
  have H3 := Lib.hid (h3.before H01.out fun k e => (hlt.out k e).2)
  clear h2 h3
  go_wp2
  go_ret
  exact ⟨rfl, m', H2.out, H3.out⟩

set_option maxRecDepth 100000 in
set_option maxHeartbeats 1600000 in
theorem callF_6 {w0 w : World} {f N : Nat} {S : FsM} {m : Nat → Prop} (h0 : OwnE w0 w f S m) (hO : FsOk N S) (_ : N ≤ 9000) (x : ActF) (A : Option Addr) (lb c : Nat) (_ : x.b.length = lb) (_ : lb ≤ c) (_ : lb ≤ 1000000000) (hs : Hold m w A (bv x.b)) (_ : x.path.length ≤ 1000000) (_ : x.into.length ≤ 1000000) (hk : x.kind % 16 = 6) :
    Calls Tryz.prog 34 #[.pointer (some ⟨f, 0, none⟩), x.val A lb c] w fun e w' => e = .returned (.int .i64 ((S.go (actF x)).2 : Int)) ∧ Steps w0 w f (S.go (actF x)).1 m w' := by
  unfold ActF.val
  obtain ⟨W1, e1⟩ : ∃ W1, w.alloc (.cells #[.int .i64 x.kind, .string (strOf x.path), .string (strOf x.into), .slice A lb c, .int .i64 x.n, .int .i64 x.by_] 34) = W1 := ⟨_, rfl⟩
  have bB : Blk W1 w.heap.size #[.int .i64 x.kind, .string (strOf x.path), .string (strOf x.into), .slice A lb c, .int .i64 x.n, .int .i64 x.by_] 34 := e1 ▸ Blk.new w _ _
  have h01 : Below w.heap.size w W1 := e1 ▸ (Below.refl _ _).alloc (Nat.le_refl _) _
  have c0 := bB.cell 0 rfl
  have c1 := bB.cell 1 rfl
  have c2 := bB.cell 2 rfl
  have c3 := bB.cell 3 rfl
  have hand : bits .and .i64 x.kind 15 = 6 := (and15 x.kind).trans hk
  have ea : actF x = (·.sync x.path) := by funext S; unfold actF; simp [hk]
  rw [ea]
  have o1 := h0.newB h01
  have h1 := hs.newB h01
  have kk := Lib.hid (sync_own o1 hO x.path)
  have hlt := Lib.hid h0.lt
  have H01 := Lib.hid h01
  clear bB hk ea o1 h1 h0 hO hs h01
  go_enter Tryz.func34, Tryz.ntmps34
  go_wp2_with fail
  refine kk.out.mono ?_
  rintro e w2 ⟨rfl, m', h2, h3⟩
  have H2 := Lib.hid h2
  have H3 := Lib.hid (h3.before H01.out fun k e => (hlt.out k e).2)
  clear h2 h3
  go_wp2
  go_ret
  exact ⟨rfl, m', H2.out, H3.out⟩

set_option maxRecDepth 100000 in
set_option maxHeartbeats 1600000 in
theorem callF_7 {w0 w : World} {f N : Nat} {S : FsM} {m : Nat → Prop} (h0 : OwnE w0 w f S m) (hO : FsOk N S) (_ : N ≤ 9000) (x : ActF) (A : Option Addr) (lb c : Nat) (_ : x.b.length = lb) (_ : lb ≤ c) (_ : lb ≤ 1000000000) (hs : Hold m w A (bv x.b)) (_ : x.path.length ≤ 1000000) (_ : x.into.length ≤ 1000000) (hk : x.kind % 16 = 7) :
    Calls Tryz.prog 34 #[.pointer (some ⟨f, 0, none⟩), x.val A lb c] w fun e w' => e = .returned (.int .i64 ((S.go (actF x)).2 : Int)) ∧ Steps w0 w f (S.go (actF x)).1 m w' := by
  unfold ActF.val
  obtain ⟨W1, e1⟩ : ∃ W1, w.alloc (.cells #[.int .i64 x.kind, .string (strOf x.path), .string (strOf x.into), .slice A lb c, .int .i64 x.n, .int .i64 x.by_] 34) = W1 := ⟨_, rfl⟩
  have bB : Blk W1 w.heap.size #[.int .i64 x.kind, .string (strOf x.path), .string (strOf x.into), .slice A lb c, .int .i64 x.n, .int .i64 x.by_] 34 := e1 ▸ Blk.new w _ _
  have h01 : Below w.heap.size w W1 := e1 ▸ (Below.refl _ _).alloc (Nat.le_refl _) _
  have c0 := bB.cell 0 rfl
  have c1 := bB.cell 1 rfl
  have c2 := bB.cell 2 rfl
  have c3 := bB.cell 3 rfl
  have hand : bits .and .i64 x.kind 15 = 7 := (and15 x.kind).trans hk
  have ea : actF x = (·.sync x.path) := by funext S; unfold actF; simp [hk]
  rw [ea]
  have o1 := h0.newB h01
  have h1 := hs.newB h01
  have kk := Lib.hid (sync_own o1 hO x.path)
  have hlt := Lib.hid h0.lt
  have H01 := Lib.hid h01
  clear bB hk ea o1 h1 h0 hO hs h01
  go_enter Tryz.func34, Tryz.ntmps34
  go_wp2_with fail
  refine kk.out.mono ?_
  rintro e w2 ⟨rfl, m', h2, h3⟩
  have H2 := Lib.hid h2
  have H3 := Lib.hid (h3.before H01.out fun k e => (hlt.out k e).2)
  clear h2 h3
  go_wp2
  go_ret
  exact ⟨rfl, m', H2.out, H3.out⟩

set_option maxRecDepth 100000 in
set_option maxHeartbeats 1600000 in
theorem callF_8 {w0 w : World} {f N : Nat} {S : FsM} {m : Nat → Prop} (h0 : OwnE w0 w f S m) (hO : FsOk N S) (hN : N ≤ 9000) (x : ActF) (A : Option Addr) (lb c : Nat) (_ : x.b.length = lb) (_ : lb ≤ c) (_ : lb ≤ 1000000000) (hs : Hold m w A (bv x.b)) (_ : x.path.length ≤ 1000000) (ht : x.into.length ≤ 1000000) (hk : x.kind % 16 = 8) :
    Calls Tryz.prog 34 #[.pointer (some ⟨f, 0, none⟩), x.val A lb c] w fun e w' => e = .returned (.int .i64 ((S.go (actF x)).2 : Int)) ∧ Steps w0 w f (S.go (actF x)).1 m w' := by
  unfold ActF.val
  obtain ⟨W1, e1⟩ : ∃ W1, w.alloc (.cells #[.int .i64 x.kind, .string (strOf x.path), .string (strOf x.into), .slice A lb c, .int .i64 x.n, .int .i64 x.by_] 34) = W1 := ⟨_, rfl⟩
  have bB : Blk W1 w.heap.size #[.int .i64 x.kind, .string (strOf x.path), .string (strOf x.into), .slice A lb c, .int .i64 x.n, .int .i64 x.by_] 34 := e1 ▸ Blk.new w _ _
  have h01 : Below w.heap.size w W1 := e1 ▸ (Below.refl _ _).alloc (Nat.le_refl _) _
  have c0 := bB.cell 0 rfl
  have c1 := bB.cell 1 rfl
  have c2 := bB.cell 2 rfl
  have c3 := bB.cell 3 rfl
  have hand : bits .and .i64 x.kind 15 = 8 := (and15 x.kind).trans hk
  have ea : actF x = (·.rename x.path x.into) := by funext S; unfold actF; simp [hk]
  rw [ea]
  have o1 := h0.newB h01
  have h1 := hs.newB h01
  have kk := Lib.hid (rename_own o1 hO (by omega) x.path x.into ht)
  have hlt := Lib.hid h0.lt
  have H01 := Lib.hid h01
  clear bB hk ea o1 h1 h0 hO hs h01 ht
  go_enter Tryz.func34, Tryz.ntmps34
  go_wp2_with fail
  refine kk.out.mono ?_
  rintro e w2 ⟨rfl, m', h2, h3⟩
  have H2 := Lib.hid h2
  have H3 := Lib.hid (h3.before H01.out fun k e => (hlt.out k e).2)
  clear h2 h3
  go_wp2
  go_ret
  exact ⟨rfl, m', H2.out, H3.out⟩

set_option maxRecDepth 100000 in
set_option maxHeartbeats 1600000 in
theorem callF_9 {w0 w : World} {f N : Nat} {S : FsM} {m : Nat → Prop} (h0 : OwnE w0 w f S m) (hO : FsOk N S) (hN : N ≤ 9000) (x : ActF) (A : Option Addr) (lb c : Nat) (_ : x.b.length = lb) (_ : lb ≤ c) (_ : lb ≤ 1000000000) (hs : Hold m w A (bv x.b)) (_ : x.path.length ≤ 1000000) (ht : x.into.length ≤ 1000000) (hk : x.kind % 16 = 9) :
    Calls Tryz.prog 34 #[.pointer (some ⟨f, 0, none⟩), x.val A lb c] w fun e w' => e = .returned (.int .i64 ((S.go (actF x)).2 : Int)) ∧ Steps w0 w f (S.go (actF x)).1 m w' := by
  unfold ActF.val
  obtain ⟨W1, e1⟩ : ∃ W1, w.alloc (.cells #[.int .i64 x.kind, .string (strOf x.path), .string (strOf x.into), .slice A lb c, .int .i64 x.n, .int .i64 x.by_] 34) = W1 := ⟨_, rfl⟩
  have bB : Blk W1 w.heap.size #[.int .i64 x.kind, .string (strOf x.path), .string (strOf x.into), .slice A lb c, .int .i64 x.n, .int .i64 x.by_] 34 := e1 ▸ Blk.new w _ _
  have h01 : Below w.heap.size w W1 := e1 ▸ (Below.refl _ _).alloc (Nat.le_refl _) _
  have c0 := bB.cell 0 rfl
  have c1 := bB.cell 1 rfl
  have c2 := bB.cell 2 rfl
  have c3 := bB.cell 3 rfl
  have hand : bits .and .i64 x.kind 15 = 9 := (and15 x.kind).trans hk
  have ea : actF x = (·.rename x.path x.into) := by funext S; unfold actF; simp [hk]
  rw [ea]
  have o1 := h0.newB h01
  have h1 := hs.newB h01
  have kk := Lib.hid (rename_own o1 hO (by omega) x.path x.into ht)
  have hlt := Lib.hid h0.lt
  have H01 := Lib.hid h01
  clear bB hk ea o1 h1 h0 hO hs h01 ht
  go_enter Tryz.func34, Tryz.ntmps34
  go_wp2_with fail
  refine kk.out.mono ?_
  rintro e w2 ⟨rfl, m', h2, h3⟩
  have H2 := Lib.hid h2
  have H3 := Lib.hid (h3.before H01.out fun k e => (hlt.out k e).2)
  clear h2 h3
  go_wp2
  go_ret
  exact ⟨rfl, m', H2.out, H3.out⟩

set_option maxRecDepth 100000 in
set_option maxHeartbeats 1600000 in
theorem callF_10 {w0 w : World} {f N : Nat} {S : FsM} {m : Nat → Prop} (h0 : OwnE w0 w f S m) (hO : FsOk N S) (hN : N ≤ 9000) (x : ActF) (A : Option Addr) (lb c : Nat) (_ : x.b.length = lb) (_ : lb ≤ c) (_ : lb ≤ 1000000000) (hs : Hold m w A (bv x.b)) (_ : x.path.length ≤ 1000000) (ht : x.into.length ≤ 1000000) (hk : x.kind % 16 = 10) :
    Calls Tryz.prog 34 #[.pointer (some ⟨f, 0, none⟩), x.val A lb c] w fun e w' => e = .returned (.int .i64 ((S.go (actF x)).2 : Int)) ∧ Steps w0 w f (S.go (actF x)).1 m w' := by
  unfold ActF.val
  obtain ⟨W1, e1⟩ : ∃ W1, w.alloc (.cells #[.int .i64 x.kind, .string (strOf x.path), .string (strOf x.into), .slice A lb c, .int .i64 x.n, .int .i64 x.by_] 34) = W1 := ⟨_, rfl⟩
  have bB : Blk W1 w.heap.size #[.int .i64 x.kind, .string (strOf x.path), .string (strOf x.into), .slice A lb c, .int .i64 x.n, .int .i64 x.by_] 34 := e1 ▸ Blk.new w _ _
  have h01 : Below w.heap.size w W1 := e1 ▸ (Below.refl _ _).alloc (Nat.le_refl _) _
  have c0 := bB.cell 0 rfl
  have c1 := bB.cell 1 rfl
  have c2 := bB.cell 2 rfl
  have c3 := bB.cell 3 rfl
  have hand : bits .and .i64 x.kind 15 = 10 := (and15 x.kind).trans hk
  have ea : actF x = (·.link x.path x.into) := by funext S; unfold actF; simp [hk]
  rw [ea]
  have o1 := h0.newB h01
  have h1 := hs.newB h01
  have kk := Lib.hid (link_own o1 hO (by omega) x.path x.into ht)
  have hlt := Lib.hid h0.lt
  have H01 := Lib.hid h01
  clear bB hk ea o1 h1 h0 hO hs h01 ht
  go_enter Tryz.func34, Tryz.ntmps34
  go_wp2_with fail
  refine kk.out.mono ?_
  rintro e w2 ⟨rfl, m', h2, h3⟩
  have H2 := Lib.hid h2
  have H3 := Lib.hid (h3.before H01.out fun k e => (hlt.out k e).2)
  clear h2 h3
  go_wp2
  go_ret
  exact ⟨rfl, m', H2.out, H3.out⟩

set_option maxRecDepth 100000 in
set_option maxHeartbeats 1600000 in
theorem callF_11 {w0 w : World} {f N : Nat} {S : FsM} {m : Nat → Prop} (h0 : OwnE w0 w f S m) (hO : FsOk N S) (hN : N ≤ 9000) (x : ActF) (A : Option Addr) (lb c : Nat) (_ : x.b.length = lb) (_ : lb ≤ c) (_ : lb ≤ 1000000000) (hs : Hold m w A (bv x.b)) (_ : x.path.length ≤ 1000000) (ht : x.into.length ≤ 1000000) (hk : x.kind % 16 = 11) :
    Calls Tryz.prog 34 #[.pointer (some ⟨f, 0, none⟩), x.val A lb c] w fun e w' => e = .returned (.int .i64 ((S.go (actF x)).2 : Int)) ∧ Steps w0 w f (S.go (actF x)).1 m w' := by
  unfold ActF.val
  obtain ⟨W1, e1⟩ : ∃ W1, w.alloc (.cells #[.int .i64 x.kind, .string (strOf x.path), .string (strOf x.into), .slice A lb c, .int .i64 x.n, .int .i64 x.by_] 34) = W1 := ⟨_, rfl⟩
  have bB : Blk W1 w.heap.size #[.int .i64 x.kind, .string (strOf x.path), .string (strOf x.into), .slice A lb c, .int .i64 x.n, .int .i64 x.by_] 34 := e1 ▸ Blk.new w _ _
  have h01 : Below w.heap.size w W1 := e1 ▸ (Below.refl _ _).alloc (Nat.le_refl _) _
  have c0 := bB.cell 0 rfl
  have c1 := bB.cell 1 rfl
  have c2 := bB.cell 2 rfl
  have c3 := bB.cell 3 rfl
  have hand : bits .and .i64 x.kind 15 = 11 := (and15 x.kind).trans hk
  have ea : actF x = (·.link x.path x.into) := by funext S; unfold actF; simp [hk]
  rw [ea]
  have o1 := h0.newB h01
  have h1 := hs.newB h01
  have kk := Lib.hid (link_own o1 hO (by omega) x.path x.into ht)
  have hlt := Lib.hid h0.lt
  have H01 := Lib.hid h01
  clear bB hk ea o1 h1 h0 hO hs h01 ht
  go_enter Tryz.func34, Tryz.ntmps34
  go_wp2_with fail
  refine kk.out.mono ?_
  rintro e w2 ⟨rfl, m', h2, h3⟩
  have H2 := Lib.hid h2
  have H3 := Lib.hid (h3.before H01.out fun k e => (hlt.out k e).2)
  clear h2 h3
  go_wp2
  go_ret
  exact ⟨rfl, m', H2.out, H3.out⟩

set_option maxRecDepth 100000 in
set_option maxHeartbeats 1600000 in
theorem callF_12 {w0 w : World} {f N : Nat} {S : FsM} {m : Nat → Prop} (h0 : OwnE w0 w f S m) (hO : FsOk N S) (hN : N ≤ 9000) (x : ActF) (A : Option Addr) (lb c : Nat) (_ : x.b.length = lb) (_ : lb ≤ c) (_ : lb ≤ 1000000000) (hs : Hold m w A (bv x.b)) (_ : x.path.length ≤ 1000000) (_ : x.into.length ≤ 1000000) (hk : x.kind % 16 = 12) :
    Calls Tryz.prog 34 #[.pointer (some ⟨f, 0, none⟩), x.val A lb c] w fun e w' => e = .returned (.int .i64 ((S.go (actF x)).2 : Int)) ∧ Steps w0 w f (S.go (actF x)).1 m w' := by
  unfold ActF.val
  obtain ⟨W1, e1⟩ : ∃ W1, w.alloc (.cells #[.int .i64 x.kind, .string (strOf x.path), .string (strOf x.into), .slice A lb c, .int .i64 x.n, .int .i64 x.by_] 34) = W1 := ⟨_, rfl⟩
  have bB : Blk W1 w.heap.size #[.int .i64 x.kind, .string (strOf x.path), .string (strOf x.into), .slice A lb c, .int .i64 x.n, .int .i64 x.by_] 34 := e1 ▸ Blk.new w _ _
  have h01 : Below w.heap.size w W1 := e1 ▸ (Below.refl _ _).alloc (Nat.le_refl _) _
  have c0 := bB.cell 0 rfl
  have c1 := bB.cell 1 rfl
  have c2 := bB.cell 2 rfl
  have c3 := bB.cell 3 rfl
  have hand : bits .and .i64 x.kind 15 = 12 := (and15 x.kind).trans hk
  have ea : actF x = (·.remove x.path) := by funext S; unfold actF; simp [hk]
  rw [ea]
  have o1 := h0.newB h01
  have h1 := hs.newB h01
  have kk := Lib.hid (remove_own o1 hO (by omega) x.path)
  have hlt := Lib.hid h0.lt
  have H01 := Lib.hid h01
  clear bB hk ea o1 h1 h0 hO hs h01
  go_enter Tryz.func34, Tryz.ntmps34
  go_wp2_with fail
  refine kk.out.mono ?_
  rintro e w2 ⟨rfl, m', h2, h3⟩
  have H2 := Lib.hid h2
  have H3 := Lib.hid (h3.before H01.out fun k e => (hlt.out k e).2)
  clear h2 h3
  go_wp2
  go_ret
  exact ⟨rfl, m', H2.out, H3.out⟩

set_option maxRecDepth 100000 in
set_option maxHeartbeats 1600000 in
theorem callF_13 {w0 w : World} {f N : Nat} {S : FsM} {m : Nat → Prop} (h0 : OwnE w0 w f S m) (hO : FsOk N S) (_ : N ≤ 9000) (x : ActF) (A : Option Addr) (lb c : Nat) (_ : x.b.length = lb) (_ : lb ≤ c) (_ : lb ≤ 1000000000) (hs : Hold m w A (bv x.b)) (_ : x.path.length ≤ 1000000) (_ : x.into.length ≤ 1000000) (hk : x.kind % 16 = 13) :
    Calls Tryz.prog 34 #[.pointer (some ⟨f, 0, none⟩), x.val A lb c] w fun e w' => e = .returned (.int .i64 ((S.go (actF x)).2 : Int)) ∧ Steps w0 w f (S.go (actF x)).1 m w' := by
  unfold ActF.val
  obtain ⟨W1, e1⟩ : ∃ W1, w.alloc (.cells #[.int .i64 x.kind, .string (strOf x.path), .string (strOf x.into), .slice A lb c, .int .i64 x.n, .int .i64 x.by_] 34) = W1 := ⟨_, rfl⟩
  have bB : Blk W1 w.heap.size #[.int .i64 x.kind, .string (strOf x.path), .string (strOf x.into), .slice A lb c, .int .i64 x.n, .int .i64 x.by_] 34 := e1 ▸ Blk.new w _ _
  have h01 : Below w.heap.size w W1 := e1 ▸ (Below.refl _ _).alloc (Nat.le_refl _) _
  have c0 := bB.cell 0 rfl
  have c1 := bB.cell 1 rfl
  have c2 := bB.cell 2 rfl
  have c3 := bB.cell 3 rfl
  have hand : bits .and .i64 x.kind 15 = 13 := (and15 x.kind).trans hk
  have ea : actF x = (fun S => (S.settle, 0)) := by funext S; unfold actF; simp [hk]
  rw [ea]
  have o1 := h0.newB h01
  have h1 := hs.newB h01
  have kk := Lib.hid (syncDir_own o1 hO)
  have hlt := Lib.hid h0.lt
  have H01 := Lib.hid h01
  clear bB hk ea o1 h1 h0 hO hs h01
  go_enter Tryz.func34, Tryz.ntmps34
  go_wp2_with fail
  refine kk.out.mono ?_
  rintro e w2 ⟨rfl, m', h2, h3⟩
  have H2 := Lib.hid h2
  have H3 := Lib.hid (h3.before H01.out fun k e => (hlt.out k e).2)
  clear h2 h3
  go_wp2
  go_ret
  exact ⟨rfl, m', H2.out, H3.out⟩

set_option maxRecDepth 100000 in
set_option maxHeartbeats 1600000 in
theorem callF_14 {w0 w : World} {f N : Nat} {S : FsM} {m : Nat → Prop} (h0 : OwnE w0 w f S m) (hO : FsOk N S) (_ : N ≤ 9000) (x : ActF) (A : Option Addr) (lb c : Nat) (_ : x.b.length = lb) (_ : lb ≤ c) (_ : lb ≤ 1000000000) (hs : Hold m w A (bv x.b)) (_ : x.path.length ≤ 1000000) (_ : x.into.length ≤ 1000000) (hk : x.kind % 16 = 14) :
    Calls Tryz.prog 34 #[.pointer (some ⟨f, 0, none⟩), x.val A lb c] w fun e w' => e = .returned (.int .i64 ((S.go (actF x)).2 : Int)) ∧ Steps w0 w f (S.go (actF x)).1 m w' := by
  unfold ActF.val
  obtain ⟨W1, e1⟩ : ∃ W1, w.alloc (.cells #[.int .i64 x.kind, .string (strOf x.path), .string (strOf x.into), .slice A lb c, .int .i64 x.n, .int .i64 x.by_] 34) = W1 := ⟨_, rfl⟩
  have bB : Blk W1 w.heap.size #[.int .i64 x.kind, .string (strOf x.path), .string (strOf x.into), .slice A lb c, .int .i64 x.n, .int .i64 x.by_] 34 := e1 ▸ Blk.new w _ _
  have h01 : Below w.heap.size w W1 := e1 ▸ (Below.refl _ _).alloc (Nat.le_refl _) _
  have c0 := bB.cell 0 rfl
  have c1 := bB.cell 1 rfl
  have c2 := bB.cell 2 rfl
  have c3 := bB.cell 3 rfl
  have hand : bits .and .i64 x.kind 15 = 14 := (and15 x.kind).trans hk
  have ea : actF x = (fun S => (S.settle, 0)) := by funext S; unfold actF; simp [hk]
  rw [ea]
  have o1 := h0.newB h01
  have h1 := hs.newB h01
  have kk := Lib.hid (syncDir_own o1 hO)
  have hlt := Lib.hid h0.lt
  have H01 := Lib.hid h01
  clear bB hk ea o1 h1 h0 hO hs h01
  go_enter Tryz.func34, Tryz.ntmps34
  go_wp2_with fail
  refine kk.out.mono ?_
  rintro e w2 ⟨rfl, m', h2, h3⟩
  have H2 := Lib.hid h2
  have H3 := Lib.hid (h3.before H01.out fun k e => (hlt.out k e).2)
  clear h2 h3
  go_wp2
  go_ret
  exact ⟨rfl, m', H2.out, H3.out⟩
end Go.Proofs.YteidkmiladkoiaaGreatDoor

/-
  The law's call: any kind.
-/
namespace Go.Proofs.YteidkmiladkoiaaGreatDoor
open Go.RowKit
theorem callF_any {w0 w : World} {f N : Nat} {S : FsM} {m : Nat → Prop} (h0 : OwnE w0 w f S m) (hO : FsOk N S) (hN : N ≤ 9000) (x : ActF) (A : Option Addr) (lb c : Nat) (hb : x.b.length = lb) (hc : lb ≤ c) (hlb : lb ≤ 1000000000) (hs : Hold m w A (bv x.b)) (hp : x.path.length ≤ 1000000) (ht : x.into.length ≤ 1000000) (hk : x.kind % 16 < 15) :
    Calls Tryz.prog 34 #[.pointer (some ⟨f, 0, none⟩), x.val A lb c] w fun e w' => e = .returned (.int .i64 ((S.go (actF x)).2 : Int)) ∧ Steps w0 w f (S.go (actF x)).1 m w' := by
  have h : x.kind % 16 = 0 ∨ x.kind % 16 = 1 ∨ x.kind % 16 = 2 ∨ x.kind % 16 = 3 ∨ x.kind % 16 = 4 ∨ x.kind % 16 = 5 ∨ x.kind % 16 = 6 ∨ x.kind % 16 = 7 ∨ x.kind % 16 = 8 ∨ x.kind % 16 = 9 ∨ x.kind % 16 = 10 ∨ x.kind % 16 = 11 ∨ x.kind % 16 = 12 ∨ x.kind % 16 = 13 ∨ x.kind % 16 = 14 := by omega
  rcases h with h | h | h | h | h | h | h | h | h | h | h | h | h | h | h
  · exact callF_0 h0 hO hN x A lb c hb hc hlb hs hp ht h
  · exact callF_1 h0 hO hN x A lb c hb hc hlb hs hp ht h
  · exact callF_2 h0 hO hN x A lb c hb hc hlb hs hp ht h
  · exact callF_3 h0 hO hN x A lb c hb hc hlb hs hp ht h
  · exact callF_4 h0 hO hN x A lb c hb hc hlb hs hp ht h
  · exact callF_5 h0 hO hN x A lb c hb hc hlb hs hp ht h
  · exact callF_6 h0 hO hN x A lb c hb hc hlb hs hp ht h
  · exact callF_7 h0 hO hN x A lb c hb hc hlb hs hp ht h
  · exact callF_8 h0 hO hN x A lb c hb hc hlb hs hp ht h
  · exact callF_9 h0 hO hN x A lb c hb hc hlb hs hp ht h
  · exact callF_10 h0 hO hN x A lb c hb hc hlb hs hp ht h
  · exact callF_11 h0 hO hN x A lb c hb hc hlb hs hp ht h
  · exact callF_12 h0 hO hN x A lb c hb hc hlb hs hp ht h
  · exact callF_13 h0 hO hN x A lb c hb hc hlb hs hp ht h
  · exact callF_14 h0 hO hN x A lb c hb hc hlb hs hp ht h
/-- An act's step keeps what holds of all files. -/
theorem actF_ok {N : Nat} {S : FsM} (h : FsOk N S) (x : ActF) : FsOk (N + 4) (S.go (actF x)).1 := by
  refine go_ok h (fun T hT => ?_) (by omega)
  unfold actF
  split
  · exact hT.create _
  · split
    · exact (hT.append _ _).mono (by omega)
    · split
      · exact (hT.sync _).mono (by omega)
      · split
        · exact (hT.rename _ _).mono (by omega)
        · split
          · exact (hT.link _ _).mono (by omega)
          · split
            · exact (hT.remove _).mono (by omega)
            · exact hT.settle.mono (by omega)
end Go.Proofs.YteidkmiladkoiaaGreatDoor

/-
  An act over both: plain.
-/
namespace Go.Proofs.YteidkmiladkoiaaGreatDoor
open Go.RowKit

/-- With another fuse. -/
def FsM.fz (S : FsM) (k : Nat) : FsM := { S with fuse := k }
section
variable (S : FsM) (k : Nat)
theorem create_fz (p : Txt) : (S.fz k).create p = ((S.create p).1.fz k, (S.create p).2) := by
  have e : (S.fz k).look p = S.look p := rfl
  unfold FsM.create
  rw [e]
  split
  · rfl
  · split <;> rfl
theorem append_fz (p b : Txt) : (S.fz k).append p b = ((S.append p b).1.fz k, (S.append p b).2) := by
  unfold FsM.append
  show (match S.look p with | none => _ | some n => _) = _
  cases S.look p with
  | none => rfl
  | some n =>
    dsimp only
    show (if 1048576 < (S.file n).b.length + b.length then _ else if 0 < b.length ∧ S.room < S.used + b.length then _ else _) = _
    split
    · rfl
    · split <;> rfl
theorem sync_fz (p : Txt) : (S.fz k).sync p = ((S.sync p).1.fz k, (S.sync p).2) := by
  unfold FsM.sync
  show (match S.look p with | none => _ | some n => _) = _
  cases S.look p with
  | none => rfl
  | some n => rfl
theorem rename_fz (p q : Txt) : (S.fz k).rename p q = ((S.rename p q).1.fz k, (S.rename p q).2) := by
  unfold FsM.rename
  show (match S.look p with | none => _ | some n => _) = _
  cases S.look p with
  | none => rfl
  | some n =>
    dsimp only
    split <;> rfl
theorem link_fz (p q : Txt) : (S.fz k).link p q = ((S.link p q).1.fz k, (S.link p q).2) := by
  unfold FsM.link
  have e : (S.fz k).look q = S.look q := rfl
  rw [e]
  show (match S.look p with | none => _ | some n => _) = _
  cases S.look p with
  | none => rfl
  | some n =>
    dsimp only
    split
    · rfl
    · split <;> rfl
theorem remove_fz (p : Txt) : (S.fz k).remove p = ((S.remove p).1.fz k, (S.remove p).2) := by
  unfold FsM.remove
  show (match S.look p with | none => _ | some n => _) = _
  cases S.look p with
  | none => rfl
  | some n => rfl
theorem actF_fz (x : ActF) : actF x (S.fz k) = ((actF x S).1.fz k, (actF x S).2) := by
  unfold actF
  split
  · exact create_fz S k _
  · split
    · exact append_fz S k _ _
    · split
      · exact sync_fz S k _
      · split
        · exact rename_fz S k _ _
        · split
          · exact link_fz S k _ _
          · split
            · exact remove_fz S k _
            · rfl
end
theorem RefAt.fz {m : Nat → Prop} {w : World} {v : Value} {S : FsM} {fu : Bool} {lf : Int} (h : RefAt m w v S fu lf) (k : Nat) : RefAt m w v (S.fz k) fu lf := ⟨h.out⟩
/-- Is it a fuse? -/
def fuseF (x : ActF) : Prop := x.kind % 32 = 31
instance (x : ActF) : Decidable (fuseF x) := by unfold fuseF; infer_instance
/-- What an act makes of the program's files. -/
def FsM.doneM (S : FsM) (x : ActF) : FsM :=
  if fuseF x then S.setFuse (min x.n.toNat 1099511627776 + 1) else if x.kind % 16 < 15 then (S.go (actF x)).1 else S.crash x.n.toNat x.by_.toNat
/-- What an act makes of the document's. -/
def FsM.refM (T : FsM) (fu : Bool) (lf : Int) (x : ActF) : FsM :=
  if fuseF x then T else if x.kind % 16 < 15 then (if fu = true ∧ lf = 0 then T else (actF x T).1) else T.crash x.n.toNat x.by_.toNat
def fuM (fu : Bool) (x : ActF) : Bool := if fuseF x then true else if x.kind % 16 < 15 then fu else false
def lfM (fu : Bool) (lf : Int) (x : ActF) : Int := if fuseF x then max x.n 0 else if x.kind % 16 < 15 ∧ fu = true ∧ lf ≠ 0 then lf - 1 else lf
/-- Whether both answer the same. -/
def sameM (S T : FsM) (fu : Bool) (lf : Int) (x : ActF) : Bool :=
  if fuseF x then true else if x.kind % 16 < 15 then (if fu = true ∧ lf = 0 then decide (((S.go (actF x)).2 : Int) = 62) else decide (((S.go (actF x)).2 : Int) = ((actF x T).2 : Int))) else true
/-- The fuses of both, k steps on. -/
def FuseIs (k : Nat) (S : FsM) (fu : Bool) (lf : Int) : Prop :=
  (0 ≤ lf ∧ lf ≤ 9223372036854775807) ∧ ((fu = false ∧ S.fuse = 0) ∨ (fu = true ∧ ((S.fuse : Int) = lf + 1 ∨ (1099511627776 - (k : Int) ≤ lf ∧ 1099511627776 - (k : Int) ≤ (S.fuse : Int)))))
theorem setFuse_fz (S : FsM) (n : Nat) : S.setFuse n = S.fz n := rfl
theorem crash_fz (S : FsM) (k a b : Nat) : (S.fz k).crash a b = S.crash a b := rfl
theorem fz_fz (S : FsM) (j k : Nat) : (S.fz j).fz k = S.fz k := rfl
theorem fz_self (S : FsM) : S.fz S.fuse = S := rfl
theorem actF_fuse (x : ActF) (S : FsM) : (actF x S).1.fuse = S.fuse := by
  have := actF_fz S S.fuse x
  rw [fz_self] at this
  have h2 := congrArg Prod.fst this
  have h3 := congrArg FsM.fuse h2
  exact h3
/-- Both do the same. -/
theorem done_both {k : Nat} (hk : k ≤ 1000) {S : FsM} {fu : Bool} {lf : Int} (hF : FuseIs k S fu lf) (x : ActF) (hn : x.n ≤ 9223372036854775807) :
    sameM S S fu lf x = true ∧ (∃ j, S.doneM x = (S.refM fu lf x).fz j) ∧ FuseIs (k + 1) (S.doneM x) (fuM fu x) (lfM fu lf x) := by
  unfold sameM FsM.doneM FsM.refM fuM lfM
  by_cases h1 : fuseF x
  · simp only [if_pos h1]
    refine ⟨trivial, ⟨_, rfl⟩, ⟨by omega, by omega⟩, .inr ⟨rfl, ?_⟩⟩
    show ((min x.n.toNat 1099511627776 + 1 : Nat) : Int) = _ ∨ (_ ∧ _ ≤ ((min x.n.toNat 1099511627776 + 1 : Nat) : Int))
    omega
  · simp only [if_neg h1]
    by_cases h2 : x.kind % 16 < 15
    · simp only [h2, true_and]
      obtain ⟨hl, hF⟩ := hF
      rcases hF with ⟨rfl, h0⟩ | ⟨rfl, h0⟩
      · have e : S.spent = (S, false) := by unfold FsM.spent; rw [if_pos h0]
        have e2 : S.go (actF x) = actF x S := by unfold FsM.go; rw [e]; rfl
        rw [e2]
        have e3 := actF_fuse x S
        refine ⟨by simp, ⟨(actF x S).1.fuse, by simp [fz_self]⟩, by simpa using hl, .inl ⟨rfl, ?_⟩⟩
        show (if True then (actF x S).1 else _).fuse = 0
        rw [if_pos trivial, e3]
        exact h0
      · by_cases hz : lf = 0
        · have hf1 : S.fuse = 1 := by omega
          have e : S.spent = (S, true) := by unfold FsM.spent; rw [if_neg (by omega), if_pos hf1]
          have e2 : S.go (actF x) = (S, 62) := by unfold FsM.go; rw [e]; rfl
          rw [e2]
          simp only [hz, and_self, if_true]
          refine ⟨by simp, ⟨S.fuse, rfl⟩, by simp, .inr ⟨rfl, .inl (by simp [hf1])⟩⟩
        · have e : S.spent = (S.fz (S.fuse - 1), false) := by unfold FsM.spent; rw [if_neg (by omega), if_neg (by omega)]; rfl
          have e2 : S.go (actF x) = actF x (S.fz (S.fuse - 1)) := by unfold FsM.go; rw [e]; rfl
          rw [e2, actF_fz]
          simp only [hz, and_false, if_false, ne_eq, not_false_eq_true, and_true, if_true]
          refine ⟨by simp, ⟨S.fuse - 1, rfl⟩, by omega, .inr ⟨rfl, ?_⟩⟩
          show ((S.fuse - 1 : Nat) : Int) = _ ∨ (_ ∧ _ ≤ ((S.fuse - 1 : Nat) : Int))
          omega
    · simp only [h2, false_and, if_false]
      exact ⟨trivial, ⟨0, rfl⟩, hF.1, .inl ⟨rfl, rfl⟩⟩
/-- What holds of all files stays so. -/
theorem doneM_ok {N : Nat} {S : FsM} (h : FsOk N S) (x : ActF) : FsOk (N + 4) (S.doneM x) := by
  unfold FsM.doneM
  split
  · exact (h.setFuse (by omega)).mono (by omega)
  · split
    · exact actF_ok h x
    · exact (h.crash _ _).mono (by omega)
end Go.Proofs.YteidkmiladkoiaaGreatDoor

/-
  The document's Crash.
-/
namespace Go.Proofs.YteidkmiladkoiaaGreatDoor
open Go.RowKit

theorem strOf_take (b : Txt) (n : Nat) : (strOf b).extract 0 n = strOf (b.take n) := by
  have : ((strOf b).extract 0 n).data = (strOf (b.take n)).data := by simp [strOf, ByteArray.data_extract]
  cases h1 : (strOf b).extract 0 n; cases h2 : strOf (b.take n); rw [h1, h2] at this; simp only at this; rw [this]
/-- A cell of a row of single cells. -/
theorem sees_cell1 {w : World} {B : Nat} {A : Option Addr} {xs : List Value} (h : Sees w B A xs) {k : Nat} {u : Value} (hk : xs[k]? = some u) : ∃ ad, A = some ad ∧ ad.block < B ∧ w.cell? (ad.add k) = some u := by
  rcases h.out with h | ⟨ad, e, hb, hc⟩
  · rw [h] at hk; cases hk
  · exact ⟨ad, e, hb, hc _ _ hk⟩
/-- The paths, k changes on. -/
def dirK (S : FsM) (k : Nat) : Dir := (S.chg.take k).foldl againD S.kept
theorem dirK_next (S : FsM) (k : Nat) (hk : k < S.chg.length) : dirK S (k + 1) = againD (dirK S k) S.chg[k] := by
  unfold dirK
  rw [List.take_succ_eq_append_getElem hk, List.foldl_append]
  rfl
theorem dirK_len {N : Nat} {S : FsM} (h : FsOk N S) (k : Nat) : (dirK S k).length ≤ N := by
  have h1 := len_fold (c := S.chg.take k) (fun l hl => h.chg2 l (List.mem_of_mem_take hl)) S.kept
  have h2 : (S.chg.take k).length ≤ S.chg.length := by rw [List.length_take]; omega
  have h3 := h.many
  unfold dirK
  omega
/-- Its cut files. -/
theorem cuts_next (l : List FileM) (n k : Nat) (hk : k < l.length) : (l.take k).map (FsM.cut · n) ++ [FsM.cut l[k] n] = (l.take (k + 1)).map (FsM.cut · n) := by
  rw [List.take_succ_eq_append_getElem hk, List.map_append]
  rfl

set_option maxRecDepth 100000 in
set_option maxHeartbeats 1600000 in
theorem crash_r {N : Nat} (m : Nat → Prop) (S : FsM) (fu : Bool) (lf : Int) (v : Value) (w : World) (h : RefAt m w v S fu lf) (hm : ∀ k, m k → k < w.heap.size) (hO : FsOk N S) (hN : N ≤ 9000) (ch by_ : Int) :
    Calls Tryz.prog 42 #[v, .int .i64 ch, .int .i64 by_] w (RefIs m w (S.crash ch.toNat by_.toNat) false lf) := by
  obtain ⟨Af, cf, An, cn, Ak, ck, Aq, cq, vs, rfl, ⟨k1, k2, k3, k4⟩, s1, s2, s3, s4, s5⟩ := h.out
  have hfN := hO.filesN
  have hmany := hO.many
  obtain ⟨nf, hnf⟩ : ∃ n, S.files.length = n := ⟨_, rfl⟩
  obtain ⟨nn, hnn⟩ : ∃ n, S.now.length = n := ⟨_, rfl⟩
  obtain ⟨nk, hnk⟩ : ∃ n, S.kept.length = n := ⟨_, rfl⟩
  obtain ⟨nq, hnq⟩ : ∃ n, S.chg.length = n := ⟨_, rfl⟩
  obtain ⟨r, hr⟩ : ∃ r : Int, (S.room : Int) = r := ⟨_, rfl⟩
  rw [hnf, hnn, hnk, hnq, hr]
  rw [hnf] at k1 hfN
  rw [hnn] at k2
  rw [hnk] at k3 hmany
  rw [hnq] at k4 hmany
  have hnq0 : nq ≤ 9000 := by omega
  have hnf0 : nf ≤ 9000 := by omega
  have hD0 : Hid (∀ k, (dirK S k).length ≤ 9000) := fun k => Nat.le_trans (dirK_len hO k) hN
  have hC2 : Hid (∀ k (hk : k < S.chg.length), (S.chg[k]).length ≤ 2) := fun k hk => hO.chg2 _ (List.getElem_mem hk)
  have hFO : Hid (∀ k (hk : k < S.files.length), (S.files[k]).stays ≤ (S.files[k]).b.length ∧ (S.files[k]).b.length ≤ 1048576) := fun k hk => hO.filesOk _ (List.getElem_mem hk)
  obtain ⟨W1, W2, m2, e1, e2, hst⟩ := start7 m w hm (.int .i64 r) (.slice Af nf cf) (.slice An nn cn) (.slice Ak nk ck) (.slice Aq nq cq) (.bool fu) (.int .i64 lf)
  have ST := Lib.hid hst
  have t1 := (s1.more hst.more).newB hst.b
  have t3 := (s3.more hst.more).newB hst.b
  have t4 := (s4.more hst.more).newB hst.b
  have t5 := (s5.more hst.more).newB hst.b
  have bB2 := hst.bB
  have bG2 := hst.bG
  have d5 := bB2.cell 5 rfl
  have g5 := bB2.frozen 5
  obtain ⟨W3, e3⟩ : ∃ W3, W2.setCell ⟨w.heap.size, 5, none⟩ (.bool false) = W3 := ⟨_, rfl⟩
  have bB3 : Blk W3 w.heap.size #[.int .i64 r, .slice Af nf cf, .slice An nn cn, .slice Ak nk ck, .slice Aq nq cq, .bool false, .int .i64 lf] 30 := e3 ▸ bB2.set_ 5 _ (by simp)
  have k3' : Stp m2 W2 m2 W3 := e3 ▸ Stp.setCell m2 W2 _ _ _ hst.hB
  have b23 : Below w.heap.size W2 W3 := e3 ▸ (Below.refl w.heap.size W2).setCell (p := ⟨w.heap.size, 5, none⟩) (Nat.le_refl _) _
  have bG3 := bG2.keep (e3 ▸ Below.heap_setCell W2 ⟨w.heap.size, 5, none⟩ _ W1.heap.size (by have := hst.z1; show W1.heap.size ≠ w.heap.size; omega))
  have z3 : W3.heap.size = w.heap.size + 2 := by rw [← e3]; simp; exact hst.z2
  have d3 := bB3.cell 3 rfl
  have hltB : w.heap.size < W3.heap.size := by omega
  have ltm2 : ∀ k, m2 k → k < W3.heap.size := fun k e => by have := hst.lt k e; have := hst.z2; omega
  have T1 := Lib.hid (t1.step k3')
  have T3 := Lib.hid (t3.step k3')
  have T4 := Lib.hid (t4.step k3')
  have T5 := Lib.hid (t5.step k3')
  have LT := Lib.hid ltm2
  have H03 := Lib.hid (hst.b.trans b23)
  have BB3 := Lib.hid bB3
  have BG3 := Lib.hid bG3
  have Q4 := Lib.hid (bB3.cell 4 rfl)
  have HNF := Lib.hid hnf
  have HNK := Lib.hid hnk
  have HNQ := Lib.hid hnq
  have HR := Lib.hid hr
  have Z3 := Lib.hid z3
  have K3 := Lib.hid k3
  clear t1 t3 t4 t5 s1 s2 s3 s4 s5 k1 k2 k3 k4 bB2 bG2 k3' b23 bG3 bB3 hst ltm2 hnf hnn hnk hnq hr hO hm h hmany hfN z3
  obtain ⟨X, hX⟩ : ∃ X, dirK S ch.toNat = X := ⟨_, rfl⟩
  have HX := Lib.hid hX
  clear hX
  go_enter Tryz.func42, Tryz.ntmps42
  go_upto_block 0 with fail
  go_cut [7] (fun t wx => ∃ A n c, t = .slice A n c ∧ Hid (X.length = n ∧ n ≤ c) ∧ Hid (Hold m2 wx A (gv (gd X))) ∧ Below W3.heap.size W3 wx)
  case first =>
    go_wp2_with fail
    go_loopg [7, 8] nq (fun g l i wr => ∃ (k : Nat) (Al : Option Addr) (nl cl : Nat), k + g = nq ∧ i = .int .i64 (k : Int) ∧ l = .slice Al nl cl ∧ Hid ((dirK S k).length = nl ∧ nl ≤ cl) ∧ Hid (Hold m2 wr Al (gv (gd (dirK S k)))) ∧ Below W3.heap.size W3 wr ∧ k ≤ ch.toNat)
    case atStart => exact ⟨0, Ak, nk, ck, by omega, rfl, rfl, ⟨HNK.out, K3.out⟩, T3.out, Below.refl _ _, Nat.zero_le _⟩
    case round =>
      obtain ⟨k, Al, nl, cl, hk, rfl, rfl, hnl, hsl, hb, hkm⟩ := hrel
      have q4 : wr.cell? ⟨w.heap.size, 4, none⟩ = some (.slice Aq nq cq) := (hb.cell hltB).trans Q4.out
      have hbs := hb.size
      by_cases hlt : k < nq
      · by_cases hc : (k : Int) < ch
        · have hkl : k < S.chg.length := by have := HNQ.out; omega
          obtain ⟨Ac, cc, u1, u2, u3⟩ := T5.out.at_ k hkl
          have hdn := Lib.hid (dirK_next S k hkl)
          have hc2 := hC2.out k hkl
          obtain ⟨nc, hnc⟩ : ∃ n, (S.chg[k]).length = n := ⟨_, rfl⟩
          obtain ⟨cg, hcg⟩ : ∃ l, S.chg[k] = l := ⟨_, rfl⟩
          rw [hnc] at u1 u2 hc2
          rw [hcg] at u3 hnc hdn
          obtain ⟨ad, rfl, hbb, g1⟩ := sees_cell1 (T4.out.newB hb).sees u1
          have hcl := Lib.hid (again_r m2 Al nl cl (dirK S k) hnl.out.1 hnl.out.2 Ac nc cc cg hnc (by have := hnl.out.1; have := hD0.out k; omega) wr (fun j e => by have := LT.out j e; omega) hsl.out (u3.newB hb))
          clear u1 u2 u3 hnc hcg
          go_wp2_with fail
          refine hcl.out.mono ?_
          rintro e w2 ⟨A2, c2, rfl, hc2', hh2, hb2⟩
          rw [← hdn.out] at hc2' hh2 ⊢
          obtain ⟨n2, hn2⟩ : ∃ n2, (dirK S (k + 1)).length = n2 := ⟨_, rfl⟩
          rw [hn2] at hc2' ⊢
          have HH2 := Lib.hid hh2
          have HN2 := Lib.hid hn2
          have HC2 := Lib.hid hc2'
          clear hcl hh2 hn2 hc2'
          go_wp2
          go_roundg (nq - (k + 1))
          case measure => omega
          case rel => exact ⟨k + 1, _, _, _, by omega, by go_num, rfl, ⟨HN2.out, HC2.out⟩, HH2.out, hb.trans (hb2.mono hbs), by omega⟩
        · have hke : k = ch.toNat := by omega
          have e1 : Hid (dirK S k = X) := by unfold Hid; rw [hke]; exact HX.out
          clear hke
          go_wp2_with fail
          go_meet
          rw [e1.out] at hnl hsl
          exact ⟨_, _, _, rfl, hnl, hsl, hb⟩
      · have e1 : Hid (dirK S k = X) := by
          unfold Hid
          rw [← HX.out]
          have := HNQ.out
          unfold dirK
          rw [List.take_of_length_le (by omega), List.take_of_length_le (by omega)]
        go_wp2_with fail
        go_meet
        rw [e1.out] at hnl hsl
        exact ⟨_, _, _, rfl, hnl, hsl, hb⟩
  case rest =>
    obtain ⟨A, n, c, rfl, hn, hh, hb⟩ := hcut
    have hbs := hb.size
    have bBc := BB3.out.keep (hb.block _ BB3.out.lt)
    have bGc := BG3.out.keep (hb.block _ BG3.out.lt)
    obtain ⟨W4, e4⟩ : ∃ W4, wc.setCell ⟨w.heap.size, 2, none⟩ (.slice A n c) = W4 := ⟨_, rfl⟩
    obtain ⟨W5, e5⟩ : ∃ W5, W4.setCell ⟨w.heap.size, 3, none⟩ (.slice A n c) = W5 := ⟨_, rfl⟩
    obtain ⟨W6, e6⟩ : ∃ W6, W5.setCell ⟨w.heap.size, 4, none⟩ (.slice none 0 0) = W6 := ⟨_, rfl⟩
    have bB4 : Blk W4 w.heap.size #[.int .i64 r, .slice Af nf cf, .slice A n c, .slice Ak nk ck, .slice Aq nq cq, .bool false, .int .i64 lf] 30 := e4 ▸ bBc.set_ 2 _ (by simp)
    have bB5 : Blk W5 w.heap.size #[.int .i64 r, .slice Af nf cf, .slice A n c, .slice A n c, .slice Aq nq cq, .bool false, .int .i64 lf] 30 := e5 ▸ bB4.set_ 3 _ (by simp)
    have bB6 : Blk W6 w.heap.size #[.int .i64 r, .slice Af nf cf, .slice A n c, .slice A n c, .slice none 0 0, .bool false, .int .i64 lf] 30 := e6 ▸ bB5.set_ 4 _ (by simp)
    have x2 := bBc.cell 2 rfl
    have y2 := bBc.frozen 2
    have x3 := bB4.cell 3 rfl
    have y3 := bB4.frozen 3
    have x4 := bB5.cell 4 rfl
    have y4 := bB5.frozen 4
    have kk : Stp m2 wc m2 W6 := e6 ▸ e5 ▸ e4 ▸ ((Stp.setCell m2 wc _ _ _ ST.out.hB).trans (Stp.setCell m2 _ _ _ _ ST.out.hB)).trans (Stp.setCell m2 _ _ _ _ ST.out.hB)
    have bc6 : Below w.heap.size wc W6 := e6 ▸ e5 ▸ e4 ▸ (((Below.refl w.heap.size wc).setCell (p := ⟨w.heap.size, 2, none⟩) (Nat.le_refl _) _).setCell (p := ⟨w.heap.size, 3, none⟩) (Nat.le_refl _) _).setCell (p := ⟨w.heap.size, 4, none⟩) (Nat.le_refl _) _
    have bG6 := bGc.keep (((e6 ▸ Below.heap_setCell W5 ⟨w.heap.size, 4, none⟩ _ W1.heap.size (by have := ST.out.z1; show W1.heap.size ≠ w.heap.size; omega)).trans (e5 ▸ Below.heap_setCell W4 ⟨w.heap.size, 3, none⟩ _ W1.heap.size (by have := ST.out.z1; show W1.heap.size ≠ w.heap.size; omega))).trans (e4 ▸ Below.heap_setCell wc ⟨w.heap.size, 2, none⟩ _ W1.heap.size (by have := ST.out.z1; show W1.heap.size ≠ w.heap.size; omega)))
    have z6 : W6.heap.size = wc.heap.size := by rw [← e6, ← e5, ← e4]; simp
    have F6 := Lib.hid ((T1.out.newB hb).step kk)
    have P6 := Lib.hid (hh.out.step kk)
    have BB6 := Lib.hid bB6
    have BG6 := Lib.hid bG6
    have H06 := Lib.hid ((H03.out.trans (hb.mono (by omega))).trans bc6)
    have LT6 : Hid (∀ k, m2 k → k < W6.heap.size) := fun k e => by have := LT.out k e; omega
    have Q1 := Lib.hid (bB6.cell 1 rfl)
    have h6B : w.heap.size < W6.heap.size := by omega
    have h6le : w.heap.size ≤ W6.heap.size := by omega
    clear bBc bGc bB4 bB5 bB6 bG6 kk bc6 T1 T3 T4 T5 hh hb z6 e1 e2 e3
    go_wp2
    clear x2 x3 x4 y2 y3 y4
    go_loopg [9, 10] nf (fun g fs i wr => ∃ k : Nat, k + g = nf ∧ i = .int .i64 (k : Int) ∧ Hid (OwnF wr W6.heap.size fs ((S.files.take k).map (FsM.cut · by_.toNat))) ∧ Below W6.heap.size W6 wr)
    case atStart => exact ⟨0, by omega, rfl, OwnF.nil _ _, Below.refl _ _⟩
    case round =>
      obtain ⟨k, hk, rfl, hown, hb⟩ := hrel
      have q1 : wr.cell? ⟨w.heap.size, 1, none⟩ = some (.slice Af nf cf) := (hb.cell h6B).trans Q1.out
      have hbs := hb.size
      by_cases hlt : k < nf
      · have hkl : k < S.files.length := by have := HNF.out; omega
        obtain ⟨ad, rfl, hbb, g1, g2⟩ := sees_flv (F6.out.newB hb).sees hkl
        have hcn := Lib.hid (cuts_next S.files by_.toNat k hkl)
        obtain ⟨ok1, ok2⟩ := hFO.out k hkl
        obtain ⟨x, hx⟩ : ∃ x, S.files[k] = x := ⟨_, rfl⟩
        rw [hx] at g1 g2 hcn ok1 ok2
        have hsz := strOf_size x.b
        obtain ⟨xb, hxb⟩ : ∃ xb, strOf x.b = xb := ⟨_, rfl⟩
        obtain ⟨bl, hbl⟩ : ∃ n, x.b.length = n := ⟨_, rfl⟩
        obtain ⟨st, hst0⟩ : ∃ n, x.stays = n := ⟨_, rfl⟩
        rw [hxb] at g1 hsz
        rw [hst0] at g2 ok1
        rw [hbl] at hsz ok1 ok2
        obtain ⟨mo, hmo⟩ : ∃ n, min by_.toNat (bl - st) = n := ⟨_, rfl⟩
        have hmoI : min (max by_ 0) ((bl : Int) - (st : Int)) = (mo : Int) := by omega
        have hcut : Hid (xb.extract 0 (st + mo) = strOf (FsM.cut x by_.toNat).b ∧ (FsM.cut x by_.toNat).stays = st + mo) := by
          unfold Hid FsM.cut
          rw [← hxb, strOf_take, hbl, hst0, hmo]
          exact ⟨rfl, rfl⟩
        obtain ⟨q, hq⟩ : ∃ q, st + mo = q := ⟨_, rfl⟩
        have hqI : (st : Int) + (mo : Int) = (q : Int) := by omega
        rw [hq] at hcut
        have hqb : q ≤ bl := by omega
        obtain ⟨y, hy⟩ : ∃ y, xb.extract 0 q = y := ⟨_, rfl⟩
        have hys : y.size = q := by rw [← hy]; simp; omega
        rw [hy] at hcut
        obtain ⟨W7, e7⟩ : ∃ W7, wr.alloc (.cells #[.string xb, .int .i64 (st : Int)] 80) = W7 := ⟨_, rfl⟩
        obtain ⟨W8, e8⟩ : ∃ W8, W7.setCell ⟨wr.heap.size, 0, none⟩ (.string y) = W8 := ⟨_, rfl⟩
        obtain ⟨W9, e9⟩ : ∃ W9, W8.setCell ⟨wr.heap.size, 1, none⟩ (.int .i64 (q : Int)) = W9 := ⟨_, rfl⟩
        have bX7 : Blk W7 wr.heap.size #[.string xb, .int .i64 (st : Int)] 80 := e7 ▸ Blk.new wr _ _
        have bX8 : Blk W8 wr.heap.size #[.string y, .int .i64 (st : Int)] 80 := e8 ▸ bX7.set_ 0 _ (by simp)
        have bX9 : Blk W9 wr.heap.size #[.string y, .int .i64 (q : Int)] 80 := e9 ▸ bX8.set_ 1 _ (by simp)
        have a70 := bX7.cell 0 rfl
        have a71 := bX7.cell 1 rfl
        have f70 := bX7.frozen 0
        have a80 := bX8.cell 0 rfl
        have a81 := bX8.cell 1 rfl
        have f81 := bX8.frozen 1
        have a90 := bX9.cell 0 rfl
        have a91 := bX9.cell 1 rfl
        have h79 : Below wr.heap.size wr W9 := e9 ▸ e8 ▸ e7 ▸ (((Below.refl _ wr).alloc (Nat.le_refl _) _).setCell (p := ⟨wr.heap.size, 0, none⟩) (Nat.le_refl _) _).setCell (p := ⟨wr.heap.size, 1, none⟩) (Nat.le_refl _) _
        have hown9 := Lib.hid (OwnF.below hown.out h79)
        have H79 := Lib.hid h79
        have hcnt : Hid (((S.files.take k).map (FsM.cut · by_.toNat)).length = k) := by unfold Hid; simp; omega
        have hcs : Hid ((#[.string y, .int .i64 (q : Int)] : Array Value) = (flv [FsM.cut x by_.toNat]).toArray) := by
          show (#[.string y, .int .i64 (q : Int)] : Array Value) = (#[.string (strOf (FsM.cut x by_.toNat).b), .int .i64 ((FsM.cut x by_.toNat).stays : Int)] : Array Value)
          rw [← hcut.out.1, hcut.out.2]
        have hysI : (y.size : Int) = (q : Int) := by omega
        have hszI : (xb.size : Int) = (bl : Int) := by omega
        have h9s := h79.size
        clear bX7 bX8 bX9 h79 hown hx hxb hbl hst0 hmo hq hsz hys
        go_wp2_with (at_builtin; go_loud (refine wpList_append_f rfl (.tmp 73) (.tmp 75) rfl W6.heap.size _ ((S.files.take k).map (FsM.cut · by_.toNat)) (by rfl) (hown9.out.below ((Below.refl _ W9).alloc (Nat.le_refl _) _)) (W9.heap.size + 1) (some ⟨W9.heap.size, 0, none⟩) 1 1 [FsM.cut x by_.toNat] (by rfl) rfl (sees_cells W9 _ rfl _ _ _ hcs.out) (by have := hcnt.out; omega) (by simp; omega) ?_); go_loud (intro v10 w10 hown10 hon10; rw [hcn.out] at hown10; have hb10 : Below W6.heap.size W9 w10 := ((Below.refl _ W9).alloc (by omega) _).trans (hon10.below (by simp; omega) (own_block hown9.out)); have HOWN10 := Lib.hid hown10; have HB10 := Lib.hid (hb.trans ((H79.out.mono hbs).trans hb10)); clear hown10 hon10 hb10))
        go_roundg (nf - (k + 1))
        case measure => omega
        case rel => exact ⟨k + 1, by omega, by go_num, HOWN10.out, HB10.out⟩
      · have hke : Hid ((S.files.take k).map (FsM.cut · by_.toNat) = S.files.map (FsM.cut · by_.toNat)) := by unfold Hid; rw [List.take_of_length_le (by have := HNF.out; omega)]
        rw [hke.out] at hown
        obtain ⟨Ag, cg, rfl, hcg, hhg⟩ := own_hold (m := m2) hown.out fun j e => LT6.out j e
        rw [List.length_map, HNF.out] at hcg ⊢
        have bB8 := BB6.out.keep (hb.block _ BB6.out.lt)
        have bG8 := BG6.out.keep (hb.block _ BG6.out.lt)
        obtain ⟨W9, e9⟩ : ∃ W9, wr.setCell ⟨w.heap.size, 1, none⟩ (.slice Ag nf cg) = W9 := ⟨_, rfl⟩
        have bB9 : Blk W9 w.heap.size #[.int .i64 r, .slice Ag nf cg, .slice A n c, .slice A n c, .slice none 0 0, .bool false, .int .i64 lf] 30 := e9 ▸ bB8.set_ 1 _ (by simp)
        have k9 : Stp m2 wr m2 W9 := e9 ▸ Stp.setCell m2 wr _ _ _ ST.out.hB
        have b89 : Below w.heap.size wr W9 := e9 ▸ (Below.refl w.heap.size wr).setCell (p := ⟨w.heap.size, 1, none⟩) (Nat.le_refl _) _
        have bG9 := bG8.keep (e9 ▸ Below.heap_setCell wr ⟨w.heap.size, 1, none⟩ _ W1.heap.size (by have := ST.out.z1; show W1.heap.size ≠ w.heap.size; omega))
        have p1 := bB8.cell 1 rfl
        have p1f := bB8.frozen 1
        have R9 : Hid (RefAt m2 W9 (.agg #[.int .i64 r, .slice Ag nf cg, .slice A n c, .slice A n c, .slice none 0 0, .bool false, .int .i64 lf]) (S.crash ch.toNat by_.toNat) false lf) := by
          have hp := (P6.out.newB hb).step k9
          have hX2 : (S.crash ch.toNat by_.toNat).now = X := HX.out
          have hX3 : (S.crash ch.toNat by_.toNat).kept = X := HX.out
          have l1 : (S.crash ch.toNat by_.toNat).files.length = nf := by show (S.files.map _).length = nf; rw [List.length_map]; exact HNF.out
          have l2 : (S.crash ch.toNat by_.toNat).now.length = n := by rw [hX2]; exact hn.out.1
          have l3 : (S.crash ch.toNat by_.toNat).kept.length = n := by rw [hX3]; exact hn.out.1
          have l4 : ((S.crash ch.toNat by_.toNat).room : Int) = r := HR.out
          refine ⟨Ag, cg, A, c, A, c, none, 0, [], ?_, ⟨by rw [l1]; exact hcg, by rw [l2]; exact hn.out.2, by rw [l3]; exact hn.out.2, Nat.le_refl _⟩, hhg.step k9, by rw [hX2]; exact hp, by rw [hX3]; exact hp, ⟨⟨.inl rfl⟩⟩, ⟨rfl, fun i hi => absurd hi (by simp [FsM.crash])⟩⟩
          rw [l1, l2, l3, l4]
          rfl
        have B9 := Lib.hid ((H06.out.trans (hb.mono h6le)).trans b89)
        clear bB8 bG8 k9 b89 hcg hhg hown
        have bB := bB9
        have bG := bG9
        clear bB9 bG9 q1
        obtain ⟨WF, eF, bGF, hFB, stF⟩ := bG.store7 w.heap.size (by have := ST.out.z1; omega) (.int .i64 r) (.slice Ag nf cg) (.slice A n c) (.slice A n c) (.slice none 0 0) (.bool false) (.int .i64 lf)
        have hFB' := Lib.hid hFB
        have stF' := Lib.hid stF
        have cb0 := bB.cell 0 rfl
        have cb1 := bB.cell 1 rfl
        have cb2 := bB.cell 2 rfl
        have cb3 := bB.cell 3 rfl
        have cb4 := bB.cell 4 rfl
        have cb5 := bB.cell 5 rfl
        have cb6 := bB.cell 6 rfl
        have cg0 := bG.cell 0 rfl
        have cg1 := bG.cell 1 rfl
        have cg2 := bG.cell 2 rfl
        have cg3 := bG.cell 3 rfl
        have cg4 := bG.cell 4 rfl
        have cg5 := bG.cell 5 rfl
        have cg6 := bG.cell 6 rfl
        have fg0 := bG.frozen 0
        have fg1 := bG.frozen 1
        have fg2 := bG.frozen 2
        have fg3 := bG.frozen 3
        have fg4 := bG.frozen 4
        have fg5 := bG.frozen 5
        have fg6 := bG.frozen 6
        have ce0 := bGF.cell 0 rfl
        have ce1 := bGF.cell 1 rfl
        have ce2 := bGF.cell 2 rfl
        have ce3 := bGF.cell 3 rfl
        have ce4 := bGF.cell 4 rfl
        have ce5 := bGF.cell 5 rfl
        have ce6 := bGF.cell 6 rfl
        clear hFB stF bB bG bGF
        go_wp2
        refine bodyPost_ret (v := .agg #[.int .i64 r, .slice Ag nf cg, .slice A n c, .slice A n c, .slice none 0 0, .bool false, .int .i64 lf]) (by simp [results, Tryz.results42, go_sem, ce0, ce1, ce2, ce3, ce4, ce5, ce6]) rfl ?_
        exact ⟨_, rfl, ((R9.out).step (stF'.out m2 ST.out.hG)).less ST.out.less, (B9.out).trans hFB'.out⟩
end Go.Proofs.YteidkmiladkoiaaGreatDoor

/-
  An act over both: the state on the way.
-/
namespace Go.Proofs.YteidkmiladkoiaaGreatDoor
open Go.RowKit

/-- .. and the caller's blocks q. -/
def uq (m q : Nat → Prop) : Nat → Prop := fun k => m k ∨ q k
def extB (m : Nat → Prop) (B G : Nat) : Nat → Prop := fun k => m k ∨ k = B ∨ k = G
section
variable {w0 w W W' : World} {f : Nat} {S T : FsM} {m m0 m' R : Nat → Prop}
theorem Stp.ext (h : Stp m w m' W) (B G : Nat) : Stp (extB m B G) w (extB m' B G) W := ⟨h.turn.mono fun k _ e => .inl e, fun k e => by
  rcases e with e | e
  · rcases h.new k e with e | e
    · exact .inl (.inl e)
    · exact .inr e
  · exact .inl (.inr e)⟩
theorem Stp.uq (h : Stp m w m' W) (q : Nat → Prop) : Stp (uq m q) w (uq m' q) W := ⟨h.turn.mono fun k _ e => .inl e, fun k e => by
  rcases e with e | e
  · rcases h.new k e with e | e
    · exact .inl (.inl e)
    · exact .inr e
  · exact .inl (.inr e)⟩
theorem Stp.other (h : Stp m0 w m W) (ht : Turn R W W') (hR : ∀ k, R k → w.heap.size ≤ k) : Stp m0 w m W' :=
  ⟨h.turn.trans' ht fun j hj e => absurd (hR j e) (by omega), fun k e => by
    rcases h.new k e with e | e
    · exact .inl e
    · have := ht.size; exact .inr (by omega)⟩
theorem OwnE.other (h : OwnE w0 w f S m) (ht : Turn R w W) (hR : ∀ k, R k → ¬ m k ∧ w0.heap.size ≤ k) : OwnE w0 W f S m := by
  obtain ⟨c, F, h1, h2⟩ := h.out
  refine ⟨⟨c, F, ⟨h1.at_.turn ht fun j e => ?_, h1.low, turn_low h1.below ht fun k e => (hR k e).2⟩, h2⟩, fun k e => ?_⟩
  · by_cases hc : c j = 0
    · exact hc
    · exact absurd (h2 j hc) (hR j e).1
  · have h3 := h.lt k e
    have h4 := ht.size
    omega
end
/-- On the way: the program's files; the document's, in a box; the act; the result's cell. -/
structure DSt (w0 w : World) (B X G f : Nat) (x : ActF) (A : Option Addr) (lb c : Nat) (q m0 m : Nat → Prop) (S T : FsM) (fu : Bool) (lf : Int) (cs : Array Value) (W : World) : Prop where
  own : OwnE w0 W f S m
  ref : RefAt (extB (uq m q) B G) W (.agg cs) T fu lf
  bB : Blk W B cs 30
  bX : Blk W X #[.int .i64 x.kind, .string (strOf x.path), .string (strOf x.into), .slice A lb c, .int .i64 x.n, .int .i64 x.by_] 34
  bG : Blk W G #[.int .i64 0, .slice none 0 0, .slice none 0 0, .slice none 0 0, .slice none 0 0, .bool false, .int .i64 0] 30
  hb : Hold (extB (uq m q) B G) W A (bv x.b)
  out_ : ¬ m B ∧ ¬ m X ∧ ¬ m G
  ne : B ≠ X ∧ B ≠ G ∧ X ≠ G
  low : w0.heap.size ≤ w.heap.size ∧ w.heap.size ≤ B ∧ w.heap.size ≤ X ∧ w.heap.size ≤ G
  stp : Stp m0 w m W
  q0 : ∀ k, q k → k < w.heap.size
/-- The end of an act. -/
def DoneIs (w0 w : World) (f : Nat) (q m : Nat → Prop) (S' T' : FsM) (fu' : Bool) (lf' : Int) (b : Bool) (e : Ending) (w' : World) : Prop :=
  ∃ v m', e = .returned (.tuple #[v, .bool b]) ∧ OwnE w0 w' f S' m' ∧ Stp m w m' w' ∧ RefAt (uq m' q) w' v T' fu' lf'
section
variable {w0 w W W' : World} {B X G f lb c : Nat} {x : ActF} {A : Option Addr} {q m0 m : Nat → Prop} {S S' T T' : FsM} {fu fu' : Bool} {lf lf' : Int} {cs : Array Value}
theorem DSt.prog (h : DSt w0 w B X G f x A lb c q m0 m S T fu lf cs W) (hs : Steps w0 W f S' m W') : ∃ m', DSt w0 w B X G f x A lb c q m0 m' S' T fu lf cs W' := by
  obtain ⟨m', o', st⟩ := hs
  have out' : ∀ k, ¬ m k → k < W.heap.size → ¬ m' k := fun k h1 h2 e => by
    rcases st.new k e with e | e
    · exact h1 e
    · omega
  exact ⟨m', o', h.ref.step ((st.uq q).ext B G), h.bB.keep (st.turn.block _ h.bB.lt h.out_.1), h.bX.keep (st.turn.block _ h.bX.lt h.out_.2.1), h.bG.keep (st.turn.block _ h.bG.lt h.out_.2.2), h.hb.step ((st.uq q).ext B G),
    ⟨out' _ h.out_.1 h.bB.lt, out' _ h.out_.2.1 h.bX.lt, out' _ h.out_.2.2 h.bG.lt⟩, h.ne, h.low, h.stp.trans st, h.q0⟩
/-- New blocks only. -/
theorem DSt.newB (h : DSt w0 w B X G f x A lb c q m0 m S T fu lf cs W) (hb : Below W.heap.size W W') : DSt w0 w B X G f x A lb c q m0 m S T fu lf cs W' :=
  ⟨h.own.newB hb, h.ref.newB hb, h.bB.keep (hb.block _ h.bB.lt), h.bX.keep (hb.block _ h.bX.lt), h.bG.keep (hb.block _ h.bG.lt), h.hb.newB hb, h.out_, h.ne, h.low, h.stp.newB hb, h.q0⟩
theorem DSt.lt (h : DSt w0 w B X G f x A lb c q m0 m S T fu lf cs W) : ∀ k, extB (uq m q) B G k → k < W.heap.size := fun k e => by
  rcases e with (e | e) | e | e
  · exact (h.own.lt k e).2
  · exact Nat.lt_of_lt_of_le (h.q0 k e) h.stp.turn.size
  · rw [e]; exact h.bB.lt
  · rw [e]; exact h.bG.lt
/-- The document's files anew: into the box. -/
theorem DSt.store {a0 a1 a2 a3 a4 a5 a6 u0 u1 u2 u3 u4 u5 u6 : Value} (h : DSt w0 w B X G f x A lb c q m0 m S T fu lf #[a0, a1, a2, a3, a4, a5, a6] W) (hr : RefAt (extB (uq m q) B G) W (.agg #[u0, u1, u2, u3, u4, u5, u6]) T' fu' lf') :
    ∃ WF, (((((((W.setCell ⟨B, 0, none⟩ u0).setCell ⟨B, 1, none⟩ u1).setCell ⟨B, 2, none⟩ u2).setCell ⟨B, 3, none⟩ u3).setCell ⟨B, 4, none⟩ u4).setCell ⟨B, 5, none⟩ u5).setCell ⟨B, 6, none⟩ u6) = WF ∧
      DSt w0 w B X G f x A lb c q m0 m S T' fu' lf' #[u0, u1, u2, u3, u4, u5, u6] WF := by
  obtain ⟨WF, eF, bF, hF, stF⟩ := h.bB.store7 w.heap.size h.low.2.1 u0 u1 u2 u3 u4 u5 u6
  refine ⟨WF, eF, ?_⟩
  have s1 := stF (extB (uq m q) B G) (.inr (.inl rfl))
  have t1 := (stF (fun k => k = B) rfl).turn
  exact ⟨h.own.other t1 fun k e => by rw [e]; exact ⟨h.out_.1, Nat.le_trans h.low.1 h.low.2.1⟩, hr.step s1, bF, h.bX.keep (t1.block _ h.bX.lt fun e => h.ne.1 e.symm), h.bG.keep (t1.block _ h.bG.lt fun e => h.ne.2.1 e.symm), h.hb.step s1, h.out_, h.ne, h.low,
    h.stp.other t1 (fun k e => by rw [e]; exact h.low.2.1), h.q0⟩
/-- .. into the result. -/
theorem DSt.fin {u0 u1 u2 u3 u4 u5 u6 : Value} (h : DSt w0 w B X G f x A lb c q m0 m S T fu lf cs W) (hr : RefAt (extB (uq m q) B G) W (.agg #[u0, u1, u2, u3, u4, u5, u6]) T' fu' lf') :
    ∃ WF, (((((((W.setCell ⟨G, 0, none⟩ u0).setCell ⟨G, 1, none⟩ u1).setCell ⟨G, 2, none⟩ u2).setCell ⟨G, 3, none⟩ u3).setCell ⟨G, 4, none⟩ u4).setCell ⟨G, 5, none⟩ u5).setCell ⟨G, 6, none⟩ u6) = WF ∧
      Blk WF G #[u0, u1, u2, u3, u4, u5, u6] 30 ∧ OwnE w0 WF f S m ∧ Stp m0 w m WF ∧ RefAt (uq m q) WF (.agg #[u0, u1, u2, u3, u4, u5, u6]) T' fu' lf' := by
  obtain ⟨WF, eF, bF, hF, stF⟩ := h.bG.store7 w.heap.size h.low.2.2.2 u0 u1 u2 u3 u4 u5 u6
  have s1 := stF (extB (uq m q) B G) (.inr (.inr rfl))
  have t1 := (stF (fun k => k = G) rfl).turn
  exact ⟨WF, eF, bF, h.own.other t1 fun k e => by rw [e]; exact ⟨h.out_.2.2, Nat.le_trans h.low.1 h.low.2.2.2⟩, h.stp.other t1 (fun k e => by rw [e]; exact h.low.2.2.2), (hr.step s1).less fun k e => .inl e⟩
end
/-- Where an act begins. -/
theorem dstart {w0 w : World} {f lb c : Nat} {x : ActF} {A : Option Addr} {q m : Nat → Prop} (hq : ∀ k, q k → k < w.heap.size) {S T : FsM} {fu : Bool} {lf : Int} {a0 a1 a2 a3 a4 a5 a6 : Value} (h : OwnE w0 w f S m) (hr : RefAt (uq m q) w (.agg #[a0, a1, a2, a3, a4, a5, a6]) T fu lf) (hb : Hold (uq m q) w A (bv x.b)) :
    ∃ W1 W2 W3, w.alloc (.cells #[a0, a1, a2, a3, a4, a5, a6] 30) = W1 ∧ W1.alloc (.cells #[.int .i64 x.kind, .string (strOf x.path), .string (strOf x.into), .slice A lb c, .int .i64 x.n, .int .i64 x.by_] 34) = W2 ∧
      W2.alloc (.cells #[.int .i64 0, .slice none 0 0, .slice none 0 0, .slice none 0 0, .slice none 0 0, .bool false, .int .i64 0] 30) = W3 ∧
      DSt w0 w w.heap.size W1.heap.size W2.heap.size f x A lb c q m m S T fu lf #[a0, a1, a2, a3, a4, a5, a6] W3 := by
  obtain ⟨W1, e1⟩ : ∃ W1, w.alloc (.cells #[a0, a1, a2, a3, a4, a5, a6] 30) = W1 := ⟨_, rfl⟩
  obtain ⟨W2, e2⟩ : ∃ W2, W1.alloc (.cells #[.int .i64 x.kind, .string (strOf x.path), .string (strOf x.into), .slice A lb c, .int .i64 x.n, .int .i64 x.by_] 34) = W2 := ⟨_, rfl⟩
  obtain ⟨W3, e3⟩ : ∃ W3, W2.alloc (.cells #[.int .i64 0, .slice none 0 0, .slice none 0 0, .slice none 0 0, .slice none 0 0, .bool false, .int .i64 0] 30) = W3 := ⟨_, rfl⟩
  have z1 : W1.heap.size = w.heap.size + 1 := by rw [← e1]; simp
  have z2 : W2.heap.size = w.heap.size + 2 := by rw [← e2]; simp [z1]
  have z3 : W3.heap.size = w.heap.size + 3 := by rw [← e3]; simp [z2]
  have h01 : Below w.heap.size w W1 := e1 ▸ (Below.refl _ _).alloc (Nat.le_refl _) _
  have h12 : Below W1.heap.size W1 W2 := e2 ▸ (Below.refl _ _).alloc (Nat.le_refl _) _
  have h23 : Below W2.heap.size W2 W3 := e3 ▸ (Below.refl _ _).alloc (Nat.le_refl _) _
  have h03 : Below w.heap.size w W3 := (h01.trans (h12.mono (by omega))).trans (h23.mono (by omega))
  have bB1 : Blk W1 w.heap.size #[a0, a1, a2, a3, a4, a5, a6] 30 := e1 ▸ Blk.new w _ _
  have bX2 : Blk W2 W1.heap.size #[.int .i64 x.kind, .string (strOf x.path), .string (strOf x.into), .slice A lb c, .int .i64 x.n, .int .i64 x.by_] 34 := e2 ▸ Blk.new W1 _ _
  have bG3 : Blk W3 W2.heap.size #[.int .i64 0, .slice none 0 0, .slice none 0 0, .slice none 0 0, .slice none 0 0, .bool false, .int .i64 0] 30 := e3 ▸ Blk.new W2 _ _
  have hmore : ∀ k, extB (uq m q) w.heap.size W2.heap.size k → uq m q k ∨ w.heap.size ≤ k := fun k e => by
    rcases e with e | e | e
    · exact .inl e
    all_goals (exact .inr (by omega))
  have hlt : ∀ k, m k → k < w.heap.size := fun k e => (h.lt k e).2
  refine ⟨W1, W2, W3, e1, e2, e3, ⟨h.newB h03, (hr.more hmore).newB h03, (bB1.keep (h12.block _ (by omega))).keep (h23.block _ (by omega)), bX2.keep (h23.block _ (by omega)), bG3, (hb.more hmore).newB h03, ⟨fun e => ?_, fun e => ?_, fun e => ?_⟩, ⟨by omega, by omega, by omega⟩, ⟨h.below.size, Nat.le_refl _, by omega, by omega⟩, ?_, ?_⟩⟩
  · have := hlt _ e; omega
  · have := hlt _ e; omega
  · have := hlt _ e; omega
  · exact ⟨Turn.of_new h03, fun k e => .inl e⟩
  · exact hq
theorem and31 (x : Int) : bits .and .i64 x 31 = x % 32 := by
  have e1 : (BitVec.ofInt 64 x).toNat % 32 = (x % 32).toNat := by
    rw [BitVec.toNat_ofInt]
    omega
  have hn : (BitVec.ofInt 64 x &&& BitVec.ofInt 64 31).toNat = (x % 32).toNat := by
    rw [BitVec.toNat_and, show (BitVec.ofInt 64 31).toNat = 31 from by decide, show (31 : Nat) = 2 ^ 5 - 1 from by omega, Nat.and_two_pow_sub_one_eq_mod]
    exact e1
  show IntKind.i64.wrap ((BitVec.ofInt 64 x &&& BitVec.ofInt 64 31).toNat : Int) = _
  rw [hn, IntKind.wrap_i64]
  omega
end Go.Proofs.YteidkmiladkoiaaGreatDoor

/-
  Files behind a script, and what laws do with them: plain.
-/
namespace Go.Proofs.YteidkmiladkoiaaGreatDoor

def FsM.bytes (S : FsM) : Nat := (S.files.map fun x => x.b.length).sum
theorem sum_set : ∀ (l : List FileM) (i : Nat) (x : FileM), ((l.set i x).map fun x => x.b.length).sum ≤ (l.map fun x => x.b.length).sum + (x.b.length - (l.getD i ⟨[], 0⟩).b.length)
  | [], _, _ => by simp
  | y :: r, 0, x => by simp; omega
  | y :: r, i + 1, x => by
    have := sum_set r i x
    simp only [List.set_cons_succ, List.map_cons, List.sum_cons, List.getD_cons_succ]
    omega
theorem bytes_set (S : FsM) (i : Nat) (x : FileM) : (S.setFile i x).bytes ≤ S.bytes + (x.b.length - (S.file i).b.length) := sum_set _ _ _
theorem sum_map_le {l : List FileM} (f g : FileM → Nat) (h : ∀ x, f x ≤ g x) : (l.map f).sum ≤ (l.map g).sum := by
  induction l with
  | nil => simp
  | cons x r ih => have := h x; simp only [List.map_cons, List.sum_cons]; omega
theorem crash_bytes (S : FsM) (a b : Nat) : (S.crash a b).bytes ≤ S.bytes := by
  show ((S.files.map fun x => FsM.cut x b).map fun x => x.b.length).sum ≤ (S.files.map fun x => x.b.length).sum
  rw [List.map_map]
  exact sum_map_le _ _ fun x => by simp only [Function.comp, FsM.cut, List.length_take]; omega
theorem more_bytes (S : FsM) : S.more.bytes = S.bytes := by simp [FsM.bytes, FsM.more]
theorem actF_bytes (x : ActF) (S : FsM) : (actF x S).1.bytes ≤ S.bytes + x.b.length := by
  unfold actF
  split
  · unfold FsM.create
    split
    · exact Nat.le_add_right _ _
    · split
      · exact Nat.le_add_right _ _
      · show S.more.bytes ≤ _
        rw [more_bytes]; exact Nat.le_add_right _ _
  · split
    · unfold FsM.append
      cases S.look x.path with
      | none => exact Nat.le_add_right _ _
      | some n =>
        dsimp only
        split
        · exact Nat.le_add_right _ _
        · split
          · exact Nat.le_add_right _ _
          · exact Nat.le_trans (bytes_set S n { S.file n with b := (S.file n).b ++ x.b }) (by show _ + (((S.file n).b ++ x.b).length - _) ≤ _; rw [List.length_append]; omega)
    · split
      · unfold FsM.sync
        cases S.look x.path with
        | none => exact Nat.le_add_right _ _
        | some n =>
          exact Nat.le_trans (bytes_set S n { S.file n with stays := (S.file n).b.length }) (by show _ + ((S.file n).b.length - _) ≤ _; omega)
      · split
        · unfold FsM.rename
          cases S.look x.path with
          | none => exact Nat.le_add_right _ _
          | some n => dsimp only; split <;> exact Nat.le_add_right _ _
        · split
          · unfold FsM.link
            cases S.look x.path with
            | none => exact Nat.le_add_right _ _
            | some n =>
              dsimp only
              split
              · exact Nat.le_add_right _ _
              · split <;> exact Nat.le_add_right _ _
          · split
            · unfold FsM.remove
              cases S.look x.path <;> exact Nat.le_add_right _ _
            · exact Nat.le_add_right _ _
theorem actF_room (x : ActF) (S : FsM) : (actF x S).1.room = S.room := by
  unfold actF FsM.create FsM.append FsM.sync FsM.rename FsM.link FsM.remove
  repeat' split
  all_goals rfl
theorem sum_filter_le {α : Type} (f : α → Nat) (p : α → Bool) : ∀ l : List α, ((l.filter p).map f).sum ≤ (l.map f).sum
  | [] => by simp
  | x :: r => by
    have := sum_filter_le f p r
    rw [List.filter_cons]
    split <;> simp only [List.map_cons, List.sum_cons] <;> omega
theorem files_range (l : List FileM) : (List.range l.length).map (fun i => (l.getD i ⟨[], 0⟩).b.length) = l.map fun x => x.b.length := by
  refine List.ext_getElem (by simp) fun i h1 h2 => ?_
  simp at h1
  simp [h1]
theorem used_bytes (S : FsM) : S.used ≤ S.bytes := by
  unfold FsM.used FsM.bytes
  rw [← files_range]
  exact sum_filter_le _ _ _
/-- Files behind n steps of a script. -/
structure Beh (n : Nat) (S : FsM) : Prop where
  ok : FsOk (4 * n) S
  fuse : S.fuse = 0
  room : S.room = 100000
  bytes : S.bytes ≤ 200 * n
theorem Beh.new : Beh 0 (FsM.new 100000) := ⟨FsOk.new (by omega), rfl, rfl, Nat.le_refl _⟩
theorem Beh.mono {n m : Nat} {S : FsM} (h : Beh n S) (hm : n ≤ m) : Beh m S := ⟨h.ok.mono (by omega), h.fuse, h.room, by have := h.bytes; omega⟩
theorem go_eq {S : FsM} (h : S.fuse = 0) (act : FsM → FsM × Nat) : S.go act = act S := by
  have e : S.spent = (S, false) := by unfold FsM.spent; rw [if_pos h]
  unfold FsM.go; rw [e]; rfl
theorem few_b {x : ActF} (h : fewF x = true) : x.path.length ≤ 60 ∧ x.into.length ≤ 60 ∧ x.b.length ≤ 200 := by
  simpa [fewF, and_assoc] using h
theorem Beh.step {n : Nat} {S : FsM} (h : Beh n S) {x : ActF} (hx : fewF x = true) (hf : ¬ fuseF x) : Beh (n + 1) (S.doneM x) := by
  refine ⟨(doneM_ok h.ok x).mono (by omega), ?_, ?_, ?_⟩
  all_goals (unfold FsM.doneM; rw [if_neg hf])
  all_goals split
  · rw [go_eq h.fuse, actF_fuse]; exact h.fuse
  · rfl
  · rw [go_eq h.fuse, actF_room]; exact h.room
  · exact h.room
  · rw [go_eq h.fuse]
    have := actF_bytes x S
    have := (few_b hx).2.2
    have := h.bytes
    omega
  · have := crash_bytes S x.n.toNat x.by_.toNat
    have := h.bytes
    omega
theorem app_is {S : FsM} {p b : Txt} {n : Nat} (h0 : S.fuse = 0) (h1 : S.look p = some n) (hr : S.room = 100000) (h2 : S.bytes + b.length ≤ 100000) (h3 : (S.file n).b.length + b.length ≤ 1048576) : S.go (·.append p b) = (S.setFile n { S.file n with b := (S.file n).b ++ b }, 0) :=
  append_is h0 h1 h3 (by have := used_bytes S; omega)
theorem create_is {S : FsM} {p : Txt} (h0 : S.fuse = 0) (hr : FsM.right p = true) (h1 : S.look p = none) : S.go (·.create p) = ((S.more).change [(p, some S.files.length)], 0) := by
  rw [go_eq h0]
  unfold FsM.create
  rw [if_neg (by rw [hr]; decide), h1]
  rfl
theorem file_snoc {S : FsM} {l : List FileM} {x : FileM} (h : S.files = l ++ [x]) : S.file l.length = x := by
  unfold FsM.file; rw [h]; simp
theorem set_snoc (l : List FileM) (x y : FileM) : (l ++ [x]).set l.length y = l ++ [y] := by
  rw [List.set_append_right _ _ (Nat.le_refl _)]; simp
theorem look_change {S : FsM} (hR : RiD S.now) (g : Giv) (q : Txt) : (S.change [g]).look q = if q = g.1 then g.2 else S.look q := look_put hR g q

def nmKept : Txt := [107, 101, 112, 116]
def nmLater : Txt := [108, 97, 116, 101, 114]
def nmMore : Txt := [109, 111, 114, 101]
theorem right_kept : FsM.right nmKept = true := by kernel_rfl
theorem right_later : FsM.right nmLater = true := by kernel_rfl
/-- What is made to stay. -/
theorem keeps_chain {S : FsM} (hB : Beh 50 S) {b : Txt} (hb : b.length ≤ 200) (hK : S.look nmKept = none) (hL : S.look nmLater = none) :
    ∃ S1 S2 S3 S4 S5 S6, S.go (·.create nmKept) = (S1, 0) ∧ S1.go (·.append nmKept b) = (S2, 0) ∧ S2.go (·.sync nmKept) = (S3, 0) ∧ S3.go (fun S => (S.settle, 0)) = (S4, 0) ∧ S4.go (·.append nmKept nmMore) = (S5, 0) ∧ S5.go (·.create nmLater) = (S6, 0) ∧
      (FsOk 300 S1 ∧ FsOk 300 S2 ∧ FsOk 300 S3 ∧ FsOk 300 S4 ∧ FsOk 300 S5 ∧ FsOk 300 S6) ∧ S1.look nmLater = none ∧
      ∀ n k, (S6.crash n k).read nmKept = (b ++ nmMore.take (min k 4), 0) ∧ ((S6.crash n k).read nmLater).2 = (if 1 ≤ n then 0 else 60) ∧ (S6.crash n k).chg = [] := by
  obtain ⟨S1, e1⟩ : ∃ S1, S1 = (S.more).change [(nmKept, some S.files.length)] := ⟨_, rfl⟩
  have k1 : S.go (·.create nmKept) = (S1, 0) := by rw [e1]; exact create_is hB.fuse right_kept hK
  have o1 : FsOk 204 S1 := by have := go_ok hB.ok (act := (·.create nmKept)) (M := 204) (fun T h => (h.create _).mono (by omega)) (by omega); rwa [k1] at this
  have f1 : S1.files = S.files ++ [⟨[], 0⟩] := by rw [e1]; rfl
  have l1 : ∀ q, S1.look q = if q = nmKept then some S.files.length else S.look q := fun q => by rw [e1]; exact look_change (S := S.more) hB.ok.nowR _ q
  have b1 : S1.bytes ≤ 10000 := by have := hB.bytes; have e : S1.bytes = S.bytes := by rw [e1]; exact more_bytes S
                                   omega
  have r1 : S1.room = 100000 := by rw [e1]; exact hB.room
  have z1 : S1.fuse = 0 := by rw [e1]; exact hB.fuse
  clear e1
  have p1 : S1.look nmKept = some S.files.length := by rw [l1, if_pos rfl]
  have g1 := file_snoc f1
  have k2 := app_is (b := b) z1 p1 r1 (by omega) (by rw [g1]; show 0 + b.length ≤ _; omega)
  rw [g1] at k2
  obtain ⟨S2, e2⟩ : ∃ S2, S2 = S1.setFile S.files.length ⟨b, 0⟩ := ⟨_, rfl⟩
  have k2' : S1.go (·.append nmKept b) = (S2, 0) := by rw [k2, e2]; rfl
  have o2 : FsOk 204 S2 := by have := go_ok o1 (act := (·.append nmKept b)) (M := 204) (fun T h => (h.append _ _).mono (by omega)) (by omega); rwa [k2'] at this
  have f2 : S2.files = S.files ++ [⟨b, 0⟩] := by rw [e2]; show S1.files.set _ _ = _; rw [f1, set_snoc]
  have n2 : S2.now = S1.now := by rw [e2]; rfl
  have r2 : S2.room = 100000 := by rw [e2]; exact r1
  have z2 : S2.fuse = 0 := by rw [e2]; exact z1
  clear e2 k2
  have p2 : S2.look nmKept = some S.files.length := by unfold FsM.look; rw [n2]; exact p1
  obtain ⟨S3, e3⟩ : ∃ S3, S3 = S2.setFile S.files.length ⟨b, b.length⟩ := ⟨_, rfl⟩
  have k3 : S2.go (·.sync nmKept) = (S3, 0) := by
    rw [go_eq z2]
    unfold FsM.sync
    rw [p2]
    dsimp only
    rw [file_snoc f2, e3]
  have o3 : FsOk 204 S3 := by have := go_ok o2 (act := (·.sync nmKept)) (M := 204) (fun T h => (h.sync _).mono (by omega)) (by omega); rwa [k3] at this
  have f3 : S3.files = S.files ++ [⟨b, b.length⟩] := by rw [e3]; show S2.files.set _ _ = _; rw [f2, set_snoc]
  have n3 : S3.now = S1.now := by rw [e3]; exact n2
  have r3 : S3.room = 100000 := by rw [e3]; exact r2
  have z3 : S3.fuse = 0 := by rw [e3]; exact z2
  clear e3
  obtain ⟨S4, e4⟩ : ∃ S4, S4 = S3.settle := ⟨_, rfl⟩
  have k4 : S3.go (fun S => (S.settle, 0)) = (S4, 0) := by rw [go_eq z3, e4]
  have o4 : FsOk 204 S4 := by have := go_ok o3 (act := (fun S => (S.settle, 0))) (M := 204) (fun T h => h.settle.mono (by omega)) (by omega); rwa [k4] at this
  have f4 : S4.files = S.files ++ [⟨b, b.length⟩] := by rw [e4]; exact f3
  have n4 : S4.now = S1.now := by rw [e4]; exact n3
  have m4 : S4.kept = S1.now := by rw [e4]; exact n3
  have c4 : S4.chg = [] := by rw [e4]; rfl
  have r4 : S4.room = 100000 := by rw [e4]; exact r3
  have z4 : S4.fuse = 0 := by rw [e4]; exact z3
  clear e4
  have p4 : S4.look nmKept = some S.files.length := by unfold FsM.look; rw [n4]; exact p1
  have b4 : S4.bytes ≤ 10200 := by
    have e : S4.bytes = S.bytes + b.length := by unfold FsM.bytes; rw [f4]; simp
    have := hB.bytes; omega
  have g4 := file_snoc f4
  have k5 := app_is (b := nmMore) z4 p4 r4 (by show _ + 4 ≤ _; omega) (by rw [g4]; show b.length + 4 ≤ _; omega)
  rw [g4] at k5
  obtain ⟨S5, e5⟩ : ∃ S5, S5 = S4.setFile S.files.length ⟨b ++ nmMore, b.length⟩ := ⟨_, rfl⟩
  have k5' : S4.go (·.append nmKept nmMore) = (S5, 0) := by rw [k5, e5]
  have o5 : FsOk 204 S5 := by have := go_ok o4 (act := (·.append nmKept nmMore)) (M := 204) (fun T h => (h.append _ _).mono (by omega)) (by omega); rwa [k5'] at this
  have f5 : S5.files = S.files ++ [⟨b ++ nmMore, b.length⟩] := by rw [e5]; show S4.files.set _ _ = _; rw [f4, set_snoc]
  have n5 : S5.now = S1.now := by rw [e5]; exact n4
  have m5 : S5.kept = S1.now := by rw [e5]; exact m4
  have c5 : S5.chg = [] := by rw [e5]; exact c4
  have z5 : S5.fuse = 0 := by rw [e5]; exact z4
  clear e5 k5
  have l5 : S5.look nmLater = none := by unfold FsM.look; rw [n5]; have := l1 nmLater; rw [if_neg (by decide), hL] at this; exact this
  obtain ⟨S6, e6⟩ : ∃ S6, S6 = (S5.more).change [(nmLater, some S5.files.length)] := ⟨_, rfl⟩
  have k6 : S5.go (·.create nmLater) = (S6, 0) := by rw [e6]; exact create_is z5 right_later l5
  have o6 : FsOk 208 S6 := by have := go_ok o5 (act := (·.create nmLater)) (M := 208) (fun T h => (h.create _).mono (by omega)) (by omega); rwa [k6] at this
  refine ⟨S1, S2, S3, S4, S5, S6, k1, k2', k3, k4, k5', k6, ⟨o1.mono (by omega), o2.mono (by omega), o3.mono (by omega), o4.mono (by omega), o5.mono (by omega), o6.mono (by omega)⟩, by rw [l1, if_neg (by decide), hL], fun n k => ?_⟩
  have f6 : S6.files = S.files ++ [⟨b ++ nmMore, b.length⟩, ⟨[], 0⟩] := by rw [e6]; show S5.files ++ _ = _; rw [f5]; simp
  have m6 : S6.kept = S1.now := by rw [e6]; exact m5
  have c6 : S6.chg = [[(nmLater, some S5.files.length)]] := by rw [e6]; show S5.chg ++ _ = _; rw [c5]; rfl
  have hfile : (S6.crash n k).file S.files.length = FsM.cut ⟨b ++ nmMore, b.length⟩ k := by
    unfold FsM.file FsM.crash
    simp [f6]
  have hcut : (FsM.cut ⟨b ++ nmMore, b.length⟩ k).b = b ++ nmMore.take (min k 4) := by
    show (b ++ nmMore).take (b.length + min k ((b ++ nmMore).length - b.length)) = _
    have e : (b ++ nmMore).length - b.length = 4 := by rw [List.length_append, Nat.add_sub_cancel_left]; rfl
    rw [e, List.take_length_add_append]
  have hnow : ∀ q, (S6.crash n k).look q = if 1 ≤ n ∧ q = nmLater then some S5.files.length else S1.look q := fun q => by
    show lookD ((S6.chg.take n).foldl againD S6.kept) q = _
    rw [m6, c6]
    cases n with
    | zero => rw [if_neg (by omega)]; rfl
    | succ n =>
      rw [List.take_of_length_le (by simp)]
      show lookD (putD S1.now (nmLater, some S5.files.length)) q = _
      rw [look_put o1.nowR]
      by_cases hq : q = nmLater
      · rw [if_pos hq, if_pos ⟨by omega, hq⟩]
      · rw [if_neg hq, if_neg (fun e => hq e.2)]; rfl
  refine ⟨?_, ?_, rfl⟩
  · unfold FsM.read
    rw [hnow, if_neg (fun e => absurd e.2 (by decide)), p1]
    dsimp only
    rw [hfile, hcut]
  · unfold FsM.read
    rw [hnow]
    by_cases hn : 1 ≤ n
    · rw [if_pos ⟨hn, rfl⟩, if_pos hn]
    · rw [if_neg (fun e => hn e.1), if_neg hn, l1, if_neg (by decide), hL]
end Go.Proofs.YteidkmiladkoiaaGreatDoor

/-
  Two paths of one file; crashes that leave everything: plain.
-/
namespace Go.Proofs.YteidkmiladkoiaaGreatDoor

/-- What a path names. -/
def FsM.named (S : FsM) (i : Nat) : Bool := S.now.any fun p => decide (p.2 = i)
theorem named_iff {N : Nat} {S : FsM} (h : FsOk N S) (i : Nat) : S.named i = true ↔ ∃ p, S.look p = some i := by
  unfold FsM.named
  rw [List.any_eq_true]
  constructor
  · rintro ⟨x, hx, e⟩
    exact ⟨x.1, (look_iff h.nowR).2 (by rw [← of_decide_eq_true e]; exact hx)⟩
  · rintro ⟨p, hp⟩
    exact ⟨(p, i), look_mem hp, by simp⟩
theorem used_snoc {S T : FsM} {x : FileM} (hf : T.files = S.files ++ [x]) (hn : ∀ i, i < S.files.length → T.named i = S.named i) : T.used = S.used + if T.named S.files.length = true then x.b.length else 0 := by
  unfold FsM.used
  rw [hf, List.length_append, List.length_singleton, List.range_succ, List.filter_append, List.map_append, List.sum_append]
  congr 1
  · have e1 : ((List.range S.files.length).filter fun i => T.now.any fun p => decide (p.2 = i)) = (List.range S.files.length).filter fun i => S.now.any fun p => decide (p.2 = i) :=
      List.filter_congr fun i hi => hn i (List.mem_range.1 hi)
    rw [e1]
    congr 1
    refine List.map_congr_left fun i hi => ?_
    have hi := List.mem_range.1 (List.mem_filter.1 hi).1
    unfold FsM.file
    rw [hf, List.getD_eq_getElem?_getD, List.getElem?_append_left hi, ← List.getD_eq_getElem?_getD]
  · rw [List.filter_cons]
    have e2 := file_snoc hf
    by_cases h : T.named S.files.length = true
    · have h' : (T.now.any fun p => decide (p.2 = S.files.length)) = true := h
      rw [if_pos h, if_pos h']
      simp [e2]
    · have h' : ¬ (T.now.any fun p => decide (p.2 = S.files.length)) = true := h
      rw [if_neg h, if_neg h']
      rfl
def nmX : Txt := [120]
def nmY : Txt := [121]
theorem right_x : FsM.right nmX = true := by kernel_rfl
theorem right_y : FsM.right nmY = true := by kernel_rfl
/-- A path that is taken away. -/
theorem remove_is {N : Nat} {S : FsM} (h : FsOk N S) (h0 : S.fuse = 0) (p : Txt) : ∃ S', (S.go (·.remove p)).1 = S' ∧ S'.fuse = 0 ∧ S'.room = S.room ∧ S'.files = S.files ∧ ∀ q, S'.look q = if q = p then none else S.look q := by
  refine ⟨_, rfl, ?_⟩
  rw [go_eq h0]
  unfold FsM.remove
  cases hp : S.look p with
  | none =>
    refine ⟨h0, rfl, rfl, fun q => ?_⟩
    by_cases hq : q = p
    · rw [if_pos hq, hq]; exact hp
    · rw [if_neg hq]
  | some n => exact ⟨h0, rfl, rfl, fun q => look_change h.nowR (p, none) q⟩
theorem links_chain {S : FsM} (hB : Beh 50 S) {b c : Txt} (hb : b.length ≤ 200) (hc : c.length ≤ 200) :
    ∃ S1 S2 S3 S4 S5 S6 S7 S8, (S.go (·.remove nmX)).1 = S1 ∧ (S1.go (·.remove nmY)).1 = S2 ∧ S2.go (·.create nmX) = (S3, 0) ∧ S3.go (·.append nmX b) = (S4, 0) ∧ S4.go (·.link nmX nmY) = (S5, 0) ∧ S5.go (·.append nmY c) = (S6, 0) ∧
      S6.go (·.link nmX nmY) = (S6, 61) ∧ (S6.go (·.remove nmX)).1 = S7 ∧ (S7.go (·.remove nmY)).1 = S8 ∧
      (FsOk 300 S1 ∧ FsOk 300 S2 ∧ FsOk 300 S3 ∧ FsOk 300 S4 ∧ FsOk 300 S5 ∧ FsOk 300 S6 ∧ FsOk 300 S7 ∧ FsOk 300 S8) ∧
      S6.read nmX = (b ++ c, 0) ∧ S7.read nmY = (b ++ c, 0) ∧ S6.used = S2.used + (b ++ c).length ∧ S7.used = S6.used ∧ S8.used = S2.used := by
  obtain ⟨S1, k1, z1, r1, f1, l1⟩ := remove_is hB.ok hB.fuse nmX
  have o1 : FsOk 204 S1 := by have := go_ok hB.ok (act := (·.remove nmX)) (M := 204) (fun T h => (h.remove _).mono (by omega)) (by omega); rwa [k1] at this
  obtain ⟨S2, k2, z2, r2, f2, l2⟩ := remove_is o1 z1 nmY
  have o2 : FsOk 208 S2 := by have := go_ok o1 (act := (·.remove nmY)) (M := 208) (fun T h => (h.remove _).mono (by omega)) (by omega); rwa [k2] at this
  rw [r1, hB.room] at r2
  have b2 : S2.bytes ≤ 10000 := by have := hB.bytes; have e : S2.bytes = S.bytes := by unfold FsM.bytes; rw [f2, f1]
                                   omega
  have lx2 : S2.look nmX = none := by rw [l2, if_neg (by decide), l1, if_pos rfl]
  have ly2 : S2.look nmY = none := by rw [l2, if_pos rfl]
  clear f1 r1 l1 l2
  obtain ⟨n, hn⟩ : ∃ n, S2.files.length = n := ⟨_, rfl⟩
  -- a new file
  obtain ⟨S3, e3⟩ : ∃ S3, S3 = (S2.more).change [(nmX, some S2.files.length)] := ⟨_, rfl⟩
  have k3 : S2.go (·.create nmX) = (S3, 0) := by rw [e3]; exact create_is z2 right_x lx2
  have o3 : FsOk 212 S3 := by have := go_ok o2 (act := (·.create nmX)) (M := 212) (fun T h => (h.create _).mono (by omega)) (by omega); rwa [k3] at this
  have f3 : S3.files = S2.files ++ [⟨[], 0⟩] := by rw [e3]; rfl
  have l3 : ∀ q, S3.look q = if q = nmX then some S2.files.length else S2.look q := fun q => by rw [e3]; exact look_change (S := S2.more) o2.nowR _ q
  have b3 : S3.bytes ≤ 10000 := by have e : S3.bytes = S2.bytes := by rw [e3]; exact more_bytes S2
                                   omega
  have r3 : S3.room = 100000 := by rw [e3]; exact r2
  have z3 : S3.fuse = 0 := by rw [e3]; exact z2
  clear e3
  have p3 : S3.look nmX = some S2.files.length := by rw [l3, if_pos rfl]
  have g3 := file_snoc f3
  have k4 := app_is (b := b) z3 p3 r3 (by omega) (by rw [g3]; show 0 + b.length ≤ _; omega)
  rw [g3] at k4
  obtain ⟨S4, e4⟩ : ∃ S4, S4 = S3.setFile S2.files.length ⟨b, 0⟩ := ⟨_, rfl⟩
  have k4' : S3.go (·.append nmX b) = (S4, 0) := by rw [k4, e4]; rfl
  have o4 : FsOk 212 S4 := by have := go_ok o3 (act := (·.append nmX b)) (M := 212) (fun T h => (h.append _ _).mono (by omega)) (by omega); rwa [k4'] at this
  have f4 : S4.files = S2.files ++ [⟨b, 0⟩] := by rw [e4]; show S3.files.set _ _ = _; rw [f3, set_snoc]
  have l4 : ∀ q, S4.look q = if q = nmX then some S2.files.length else S2.look q := fun q => by rw [e4]; exact l3 q
  have r4 : S4.room = 100000 := by rw [e4]; exact r3
  have z4 : S4.fuse = 0 := by rw [e4]; exact z3
  clear e4 k4 l3
  -- its other path
  obtain ⟨S5, e5⟩ : ∃ S5, S5 = S4.change [(nmY, some S2.files.length)] := ⟨_, rfl⟩
  have k5 : S4.go (·.link nmX nmY) = (S5, 0) := by
    rw [go_eq z4]
    have e : S4.look nmY = none := by rw [l4, if_neg (by decide), ly2]
    unfold FsM.link
    rw [e, l4, if_pos rfl]
    dsimp only
    rw [if_neg (by rw [right_y]; decide), e5]
    rfl
  have o5 : FsOk 216 S5 := by have := go_ok o4 (act := (·.link nmX nmY)) (M := 216) (fun T h => (h.link _ _).mono (by omega)) (by omega); rwa [k5] at this
  have f5 : S5.files = S2.files ++ [⟨b, 0⟩] := by rw [e5]; exact f4
  have l5 : ∀ q, S5.look q = if q = nmY then some S2.files.length else if q = nmX then some S2.files.length else S2.look q := fun q => by rw [e5, look_change o4.nowR, l4]
  have r5 : S5.room = 100000 := by rw [e5]; exact r4
  have z5 : S5.fuse = 0 := by rw [e5]; exact z4
  clear e5 l4
  have b5 : S5.bytes ≤ 10200 := by
    have e : S5.bytes = S2.bytes + b.length := by unfold FsM.bytes; rw [f5]; simp
    omega
  have p5 : S5.look nmY = some S2.files.length := by rw [l5, if_pos rfl]
  have g5 := file_snoc f5
  have k6 := app_is (b := c) z5 p5 r5 (by omega) (by rw [g5]; show b.length + c.length ≤ _; omega)
  rw [g5] at k6
  obtain ⟨S6, e6⟩ : ∃ S6, S6 = S5.setFile S2.files.length ⟨b ++ c, 0⟩ := ⟨_, rfl⟩
  have k6' : S5.go (·.append nmY c) = (S6, 0) := by rw [k6, e6]
  have o6 : FsOk 216 S6 := by have := go_ok o5 (act := (·.append nmY c)) (M := 216) (fun T h => (h.append _ _).mono (by omega)) (by omega); rwa [k6'] at this
  have f6 : S6.files = S2.files ++ [⟨b ++ c, 0⟩] := by rw [e6]; show S5.files.set _ _ = _; rw [f5, set_snoc]
  have l6 : ∀ q, S6.look q = if q = nmY then some S2.files.length else if q = nmX then some S2.files.length else S2.look q := fun q => by rw [e6]; exact l5 q
  have z6 : S6.fuse = 0 := by rw [e6]; exact z5
  clear e6 k6 l5
  have k6e : S6.go (·.link nmX nmY) = (S6, 61) := by
    rw [go_eq z6]
    unfold FsM.link
    rw [l6, if_neg (by decide), if_pos rfl]
    dsimp only
    rw [if_neg (by rw [right_y]; decide), l6, if_pos rfl]
    rfl
  obtain ⟨S7, k7, z7, r7, f7, l7⟩ := remove_is o6 z6 nmX
  have o7 : FsOk 220 S7 := by have := go_ok o6 (act := (·.remove nmX)) (M := 220) (fun T h => (h.remove _).mono (by omega)) (by omega); rwa [k7] at this
  obtain ⟨S8, k8, z8, r8, f8, l8⟩ := remove_is o7 z7 nmY
  have o8 : FsOk 224 S8 := by have := go_ok o7 (act := (·.remove nmY)) (M := 224) (fun T h => (h.remove _).mono (by omega)) (by omega); rwa [k8] at this
  rw [f6] at f7
  rw [f7] at f8
  have old : ∀ {p : Txt} {i : Nat}, S2.look p = some i → p ≠ nmX ∧ p ≠ nmY := fun {p i} h => ⟨fun e => (by rw [e, lx2] at h; cases h), fun e => (by rw [e, ly2] at h; cases h)⟩
  have lowS : ∀ p, S2.look p ≠ some S2.files.length := fun p h => by have := (o2.lookP h).2; omega
  -- what is named
  have N6 : ∀ i, i < S2.files.length → S6.named i = S2.named i := fun i hi => by
    rw [Bool.eq_iff_iff, named_iff o6, named_iff o2]
    constructor
    · rintro ⟨p, hp⟩
      rw [l6] at hp
      split at hp
      · injection hp with hp; omega
      · split at hp
        · injection hp with hp; omega
        · exact ⟨p, hp⟩
    · rintro ⟨p, hp⟩
      exact ⟨p, by rw [l6, if_neg (old hp).2, if_neg (old hp).1]; exact hp⟩
  have N7 : ∀ i, i < S2.files.length → S7.named i = S2.named i := fun i hi => by
    rw [Bool.eq_iff_iff, named_iff o7, named_iff o2]
    constructor
    · rintro ⟨p, hp⟩
      rw [l7, l6] at hp
      split at hp
      · cases hp
      · split at hp
        · injection hp with hp; omega
        · first | exact ⟨p, hp⟩ | (split at hp; (injection hp with hp; omega); exact ⟨p, hp⟩)
    · rintro ⟨p, hp⟩
      exact ⟨p, by rw [l7, if_neg (old hp).1, l6, if_neg (old hp).2, if_neg (old hp).1]; exact hp⟩
  have L8 : ∀ p, S8.look p = S2.look p := fun p => by
    rw [l8]
    by_cases hy : p = nmY
    · rw [if_pos hy, hy, ly2]
    · rw [if_neg hy, l7]
      by_cases hx : p = nmX
      · rw [if_pos hx, hx, lx2]
      · rw [if_neg hx, l6, if_neg hy, if_neg hx]
  have N8 : ∀ i, S8.named i = S2.named i := fun i => by
    rw [Bool.eq_iff_iff, named_iff o8, named_iff o2]
    simp only [L8]
  have M6 : S6.named S2.files.length = true := (named_iff o6 _).2 ⟨nmY, by rw [l6, if_pos rfl]⟩
  have M7 : S7.named S2.files.length = true := (named_iff o7 _).2 ⟨nmY, by rw [l7, if_neg (by decide), l6, if_pos rfl]⟩
  have M8 : ¬ S8.named S2.files.length = true := fun e => by
    obtain ⟨p, hp⟩ := (named_iff o8 _).1 e
    rw [L8] at hp
    exact lowS p hp
  have U6 := used_snoc f6 N6
  have U7 := used_snoc f7 N7
  have U8 := used_snoc f8 fun i _ => N8 i
  rw [if_pos M6] at U6
  rw [if_pos M7] at U7
  rw [if_neg M8] at U8
  refine ⟨S1, S2, S3, S4, S5, S6, S7, S8, k1, k2, k3, k4', k5, k6', k6e, k7, k8, ⟨o1.mono (by omega), o2.mono (by omega), o3.mono (by omega), o4.mono (by omega), o5.mono (by omega), o6.mono (by omega), o7.mono (by omega), o8.mono (by omega)⟩, ?_, ?_, U6, by rw [U7, U6], U8⟩
  · unfold FsM.read
    rw [l6, if_neg (by decide), if_pos rfl]
    dsimp only
    rw [file_snoc f6]
  · unfold FsM.read
    rw [l7, if_neg (by decide), l6, if_pos rfl]
    dsimp only
    rw [file_snoc f7]
/-- The same paths, the same bytes; nothing is open. -/
structure Still (S T : FsM) : Prop where
  now : T.now = S.now
  kept : T.kept = S.now
  chg : T.chg = []
  b : T.files.map (·.b) = S.files.map (·.b)
  stays : ∀ x ∈ T.files, x.stays = x.b.length
theorem file_b {S T : FsM} (h : T.files.map (·.b) = S.files.map (·.b)) (i : Nat) : (T.file i).b = (S.file i).b := by
  have h1 : (T.files.map (·.b)).getD i [] = (S.files.map (·.b)).getD i [] := by rw [h]
  unfold FsM.file
  rw [List.getD_eq_getElem?_getD, List.getD_eq_getElem?_getD] at h1 ⊢
  rw [List.getElem?_map, List.getElem?_map] at h1
  cases e1 : T.files[i]? <;> cases e2 : S.files[i]? <;> rw [e1, e2] at h1 <;> simpa using h1
theorem Still.read {S T : FsM} (h : Still S T) (p : Txt) : T.read p = S.read p := by
  have e : T.look p = S.look p := by unfold FsM.look; rw [h.now]
  unfold FsM.read
  rw [e]
  cases S.look p with
  | none => rfl
  | some n => dsimp only; rw [file_b h.b]
theorem Still.list {S T : FsM} (h : Still S T) (p : Txt) : T.list p = S.list p := by unfold FsM.list; rw [h.now]
/-- A crash that leaves everything. -/
theorem still_first {N : Nat} {S : FsM} (h : FsOk N S) (hN : N ≤ 10000) : Still S (S.crash 1099511627776 1099511627776) := by
  have hm := h.many
  have e1 : S.chg.take 1099511627776 = S.chg := List.take_of_length_le (by omega)
  have e2 : (S.chg.take 1099511627776).foldl againD S.kept = S.now := by rw [e1]; exact h.again.symm
  refine ⟨e2, e2, rfl, ?_, fun x hx => ?_⟩
  · show (S.files.map fun x => FsM.cut x 1099511627776).map (·.b) = _
    rw [List.map_map]
    refine List.map_congr_left fun x hx => ?_
    have := h.filesOk x hx
    show x.b.take _ = x.b
    exact List.take_of_length_le (by omega)
  · obtain ⟨y, hy, rfl⟩ := List.mem_map.1 hx
    exact (cut_ok (h.filesOk y hy).1 _).1.symm
/-- .. and any crash behind it. -/
theorem Still.crash {S T : FsM} (h : Still S T) (a b : Nat) : Still S (T.crash a b) := by
  have e2 : (T.chg.take a).foldl againD T.kept = S.now := by rw [h.chg]; simpa using h.kept
  refine ⟨e2, e2, rfl, ?_, fun x hx => ?_⟩
  · show (T.files.map fun x => FsM.cut x b).map (·.b) = _
    rw [List.map_map, ← h.b]
    refine List.map_congr_left fun x hx => ?_
    have := h.stays x hx
    show x.b.take _ = x.b
    exact List.take_of_length_le (by omega)
  · obtain ⟨y, hy, rfl⟩ := List.mem_map.1 hx
    exact (cut_ok (by rw [h.stays y hy]; exact Nat.le_refl _) _).1.symm
end Go.Proofs.YteidkmiladkoiaaGreatDoor
