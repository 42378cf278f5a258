/-
  The document's frames taken off bytes, walked.
-/
import Derived.Test.YtmdphaagbmipcaaDoorRfTake
import Derived.Test.YtmdphaagbmipcaaDoorFrm
import Derived.Test.YtmdphaagbmipcaaDoorItm
namespace Go.Proofs.YtmdphaagbmipcaaDoor
open Go.RowKit

/-- What Next tells. -/
def RNextIs (w : World) (b : List UInt8) (e : Ending) (w' : World) : Prop :=
  ∃ (k : Nat) (A : Option Addr) (n c en : Nat) (er : Nat), e = .returned (.tuple #[.int .i64 (k : Nat), .slice A n c, .int .i64 (en : Nat), .int .i64 (er : Nat)]) ∧ Below w.heap.size w w' ∧ er = (fnext b).2.2.2 ∧
    (er = 0 → k = (fnext b).1 ∧ (fnext b).2.1.length = n ∧ n ≤ c ∧ Sees w' w'.heap.size A (bv (fnext b).2.1) ∧ en ≤ b.length ∧ b.drop en = (fnext b).2.2.1 ∧ 5 ≤ en)
theorem RNextIs.err {w w' : World} {b : List UInt8} {er : Nat} (h : (fnext b).2.2.2 = er) (h0 : er ≠ 0) (hb : Below w.heap.size w w') : RNextIs w b (.returned (.tuple #[.int .i64 0, .slice none 0 0, .int .i64 0, .int .i64 (er : Nat)])) w' :=
  ⟨0, none, 0, 0, 0, er, rfl, hb, h.symm, fun h1 => absurd h1 h0⟩
theorem results_tmp4 {fn : Func} {t u v x : Tmp} (h : fn.results = #[.tmp t, .tmp u, .tmp v, .tmp x]) (tmps : Array Value) (P : Program) (w : World) :
    (results fn tmps).run P w = .ok (.tuple #[tmps.getD t undef, tmps.getD u undef, tmps.getD v undef, tmps.getD x undef]) w := by
  simp [results, h]
theorem fnext_nil : (fnext []).2.2.2 = 10 := rfl
/-- fnext by what is taken. -/
theorem fnext_at {b : List UInt8} (h : 0 < b.length) (x k e : Nat) (hv : vtake (b.drop 1) = (x, k, e)) : fnext b =
    if e ≠ 0 then (0, [], [], e) else if 65535 < x then (0, [], [], 11)
    else if b.length < 1 + k + x + 4 then (0, [], [], 10)
    else if tail4 (crc (b.take (1 + k + x))) = (b.drop (1 + k + x)).take 4 then ((b[0]).toNat, (b.drop (1 + k)).take x, b.drop (1 + k + x + 4), 0)
    else (0, [], [], 50) := by
  cases b with
  | nil => simp at h
  | cons a t =>
    have hv' : vtake t = (x, k, e) := hv
    have hk : k ≤ t.length := by have := vtake_le t; rw [hv'] at this; exact this
    simp only [fnext, hv']
    by_cases h1 : e ≠ 0
    · rw [if_pos h1, if_pos h1]
    · rw [if_neg h1, if_neg h1]
      by_cases h2 : 65535 < x
      · rw [if_pos h2, if_pos h2]
      · rw [if_neg h2, if_neg h2]
        by_cases h3 : (a :: t).length < 1 + k + x + 4
        · rw [if_pos h3, if_pos (by rw [List.length_drop]; rw [List.length_cons] at h3; omega)]
        · rw [if_neg h3, if_neg (by rw [List.length_drop]; rw [List.length_cons] at h3; omega)]
          have e1 : (a :: t).take (1 + k + x + 4) = (a :: t).take (1 + k + x) ++ ((a :: t).drop (1 + k + x)).take 4 := List.take_add
          have e2 : (sealB ((a :: t).take (1 + k + x)) == (a :: t).take (1 + k + x + 4)) = decide (tail4 (crc ((a :: t).take (1 + k + x))) = ((a :: t).drop (1 + k + x)).take 4) := by
            unfold sealB
            rw [e1, Bool.eq_iff_iff, beq_iff_eq, decide_eq_true_eq]
            exact ⟨fun h => List.append_cancel_left h, fun h => by rw [h]⟩
          rw [e2]
          have e3 : (a :: t).drop (1 + k) = t.drop k := by rw [Nat.add_comm]; rfl
          have e4 : (a :: t).drop (1 + k + x + 4) = (t.drop k).drop (x + 4) := by rw [List.drop_drop, show 1 + k + x + 4 = (k + (x + 4)) + 1 from by omega]; rfl
          rw [e3, e4]
          by_cases h4 : tail4 (crc ((a :: t).take (1 + k + x))) = ((a :: t).drop (1 + k + x)).take 4
          · rw [if_pos h4, decide_eq_true h4, if_pos rfl]; rfl
          · rw [if_neg h4, decide_eq_false h4, if_neg (by simp)]
theorem strOf_eqN (l r : List UInt8) : ((strOf l).toList != (strOf r).toList) = !decide (l = r) ∧ ((strOf l).toList == (strOf r).toList) = decide (l = r) := by
  have h : ((strOf l).toList == (strOf r).toList) = decide (l = r) := by rw [strOf_toList, strOf_toList, Bool.eq_iff_iff, beq_iff_eq, decide_eq_true_eq]
  exact ⟨by rw [bne, h], h⟩

set_option maxRecDepth 100000 in
set_option maxHeartbeats 3200000 in
theorem RefNext_any (A : Option Addr) (n c : Nat) (b : List UInt8) (hn : b.length = n) (hnc : n ≤ c) (w : World) (hS : Sees w w.heap.size A (bv b)) (hlen : n ≤ 1099511627776) :
    Calls Tryd.prog 39 #[.slice A n c] w (RNextIs w b) := by
  by_cases h0 : n ≤ 0
  · have hb0 : b = [] := List.eq_nil_of_length_eq_zero (by omega)
    have HB0 := Lib.hid hb0
    have e0 : ((n : Int) == 0) = true := by rw [beq_iff_eq]; omega
    clear hn hb0
    go_enter Tryd.func39, Tryd.ntmps39
    go_wp2_with fail
    (try simp only [Exit.inBlock, Exit.then])
    refine bodyPost_ret (results_tmp4 rfl _ _ _) rfl ?_
    exact RNextIs.err (er := 10) (by rw [HB0.out]; rfl) (by simp) (Below.refl _ _)
  · have e0 : ((n : Int) == 0) = false := by rw [beq_eq_false_iff_ne]; omega
    have hb0 : 0 < b.length := by omega
    obtain ⟨ad, rfl, hadB, hc0⟩ := hS.at_ (k := 0) (by rw [bv_length]; exact hb0)
    rw [bv_get b 0 hb0] at hc0
    obtain ⟨A1, hA1⟩ : ∃ A1, (if c = 1 then some ad else some (⟨ad.block, ad.off + 1, none⟩ : Addr)) = A1 := ⟨_, rfl⟩
    have hS1 : Sees w w.heap.size A1 (bv (b.drop 1)) := by
      have h1 := hS.cut (k := 1) (cap := c) (by rw [bv_length, hn]; exact hnc)
      simp only [Nat.mul_one, ← bv_drop] at h1
      rw [show (some ad).map (fun x => x.add 1) = some (⟨ad.block, ad.off + 1, none⟩ : Addr) from by simp [Addr.add], hA1] at h1
      exact h1
    have hT := Lib.hid (RefTake_any A1 (n - 1) (c - 1) (b.drop 1) (by rw [List.length_drop, hn]) w hS1 (by omega))
    have hk := vtake_le (b.drop 1)
    rw [List.length_drop, hn] at hk
    obtain ⟨x, k, e, hv⟩ : ∃ x k e, vtake (b.drop 1) = (x, k, e) := ⟨_, _, _, rfl⟩
    have hf := fnext_at hb0 x k e hv
    unfold TakeIs at hT
    rw [hv] at hT hk
    simp only at hT hk
    have HF := Lib.hid hf
    have HN := Lib.hid hn
    have i1 : (1 : Int) ≤ (n : Int) := by omega
    clear hn hf hv
    go_enter Tryd.func39, Tryd.ntmps39
    go_wp2_with fail
    refine hT.out.mono ?_
    rintro en w2 ⟨rfl, rfl⟩
    by_cases he : e = 0
    rotate_left
    · have hei : ((e : Int) != 0) = true := by rw [bne_iff_ne]; omega
      have HE : Hid ((fnext b).2.2.2 = e) := by have := HF.out; rw [if_pos he] at this; unfold Hid; rw [this]
      have HE0 := Lib.hid he
      clear he hT
      go_wp2_with fail
      (try simp only [Exit.inBlock, Exit.then])
      refine bodyPost_ret (results_tmp4 rfl _ _ _) rfl ?_
      exact RNextIs.err HE.out HE0.out (Below.refl _ _)
    subst he
    by_cases hx : (65535 : Int) < (x : Int)
    · have HE : Hid ((fnext b).2.2.2 = 11) := by have := HF.out; rw [if_neg (by simp), if_pos (by omega)] at this; unfold Hid; rw [this]
      clear hT
      go_wp2_with fail
      (try simp only [Exit.inBlock, Exit.then])
      refine bodyPost_ret (results_tmp4 rfl _ _ _) rfl ?_
      exact RNextIs.err HE.out (by simp) (Below.refl _ _)
    obtain ⟨fr, hfr⟩ : ∃ fr, 1 + k = fr := ⟨_, rfl⟩
    have hw1 : IntKind.i64.wrap (1 + (k : Int)) = (fr : Int) := by rw [IntKind.wrap_i64]; omega
    have hwx : IntKind.i64.wrap (x : Int) = (x : Int) := by rw [IntKind.wrap_i64]; omega
    obtain ⟨te, hto⟩ : ∃ te, fr + x = te := ⟨_, rfl⟩
    have hw2 : IntKind.i64.wrap ((fr : Int) + (x : Int)) = (te : Int) := by rw [IntKind.wrap_i64]; omega
    obtain ⟨fi, hfi⟩ : ∃ fi, te + 4 = fi := ⟨_, rfl⟩
    have hw4 : IntKind.i64.wrap ((te : Int) + 4) = (fi : Int) := by rw [IntKind.wrap_i64]; omega
    rw [hfr, hto, hfi] at HF
    by_cases hsh : (n : Int) < (fi : Int)
    · have HE : Hid ((fnext b).2.2.2 = 10) := by have := HF.out; rw [if_neg (by simp), if_neg (by omega), if_pos (by rw [HN.out]; omega)] at this; unfold Hid; rw [this]
      clear hT hfr hto hfi
      go_wp2_with fail
      (try simp only [Exit.inBlock, Exit.then])
      refine bodyPost_ret (results_tmp4 rfl _ _ _) rfl ?_
      exact RNextIs.err HE.out (by simp) (Below.refl _ _)
    have HF2 : Hid (fnext b = if tail4 (crc (b.take te)) = (b.drop te).take 4 then ((b[0]).toNat, (b.drop fr).take x, b.drop fi, 0) else (0, [], [], 50)) := by
      have := HF.out; rw [if_neg (by simp), if_neg (by omega), if_neg (by rw [HN.out]; omega)] at this; exact this
    obtain ⟨z0, hz0⟩ : ∃ z0, (b[0]).toNat = z0 := ⟨_, rfl⟩
    rw [hz0] at hc0 HF2
    clear HF
    have hfn : fr ≤ te ∧ te + 4 ≤ n ∧ 1 ≤ fr := by omega
    obtain ⟨hf1, hf2, hf3⟩ := hfn
    have HTO := Lib.hid hto
    have HFI := Lib.hid hfi
    have HFR := Lib.hid hfr
    have j1 : (fr : Int) ≤ (te : Int) := by omega
    have j2 : (te : Int) ≤ (fi : Int) := by omega
    have j3 : (fi : Int) ≤ (n : Int) := by omega
    have j4 : fi ≤ c := by omega
    have j5 : te ≤ c := by omega
    have j6 : te < c := by omega
    have j7 : fr < c := by omega
    clear hfr hto hfi hk
    have hz256 : (z0 : Int) < 256 := by have := b[0].toNat_lt; omega
    clear hz0
    have hS4 : Sees w w.heap.size (some (ad.add te)) (bv ((b.drop te).take (fi - te))) := by
      have h1 := (hS.cut' te).take (fi - te)
      rw [← bv_drop, ← bv_take] at h1
      exact h1
    have cvA := run_str w w.heap.size (some (ad.add te)) (fi - te) (c - te) ((b.drop te).take (fi - te)) hS4 (by rw [List.length_take, List.length_drop, HN.out]; have := HFI.out; omega)
    have hSto : Sees w w.heap.size (some ad) (bv (b.take te)) := by
      have h1 := hS.take te
      rw [← bv_take] at h1
      exact h1
    have hTl := fun W hb => Lib.hid (refTail_any (some ad) te c (b.take te) (by rw [List.length_take, HN.out]; omega) W (hb : Sees W W.heap.size (some ad) (bv (b.take te))) (by rw [List.length_take]; omega))
    obtain ⟨s1, hs1⟩ : ∃ s1, strOf ((b.drop te).take (fi - te)) = s1 := ⟨_, rfl⟩
    rw [hs1] at cvA
    have HS1 := Lib.hid hs1
    have hl4 : Hid (fi - te = 4) := by have := HFI.out; unfold Hid; omega
    have hcv := fun (W : World) (hb : Below w.heap.size w W) => run_str W W.heap.size (some (ad.add te)) (fi - te) (c - te) ((b.drop te).take (fi - te)) ((hS4.below hb).more hb.size) (by rw [List.length_take, List.length_drop, HN.out]; have := HFI.out; omega)
    simp only [hs1] at hcv
    have HCV := Lib.hid hcv
    have hcte : (c = te) = False := by simp; omega
    have HTL := Lib.hid hTl
    clear hs1 hcv hTl hT
    go_upto_region 12 with fail
    refine wp_region_noPanic ?_
    refine wp_region_held_drew (S := fun w' => (convert 23 9 (.slice (some (ad.add te)) (fi - te) (c - te))).run Tryd.prog w' = .ok (.string s1) w') (by kernel_rfl) ?_ (fun hHeld => ?_)
    · (exact HCV.out _ (below_drew (Below.refl _ _)))
    refine wpAnyH_take (i := 0) (oi := { dst := some 37, op := Op.move (Operand.tmp 0), type := 23, pos := "ref.go:63", after := #[], guard := none }) (v := ?_) rfl (by kernel_rfl) (by kernel_rfl) (by kernel_rfl) (fun _ _ _ h => h) (Or.inl ⟨by rfl, ?_⟩) hHeld ?_
    rotate_left
    · (intro w' hSw; (try dsimp only at hSw); go_split_ands; go_simp; first | done | with_reducible rfl)
    try simp only [Act.put, List.setIfInBounds_toArray, List.set_cons_zero, List.set_cons_succ]
    refine wpAnyH_take (i := 1) (oi := { dst := some 38, op := Op.move (Operand.tmp 10), type := 3, pos := "ref.go:63", after := #[], guard := none }) (v := ?_) rfl (by kernel_rfl) (by kernel_rfl) (by kernel_rfl) (fun _ _ _ h => h) (Or.inl ⟨by rfl, ?_⟩) hHeld ?_
    rotate_left
    · (intro w' hSw; (try dsimp only at hSw); go_split_ands; go_simp; first | done | with_reducible rfl)
    try simp only [Act.put, List.setIfInBounds_toArray, List.set_cons_zero, List.set_cons_succ]
    refine wpAnyH_take (i := 2) (oi := { dst := some 39, op := Op.move (Operand.tmp 10), type := 3, pos := "ref.go:63", after := #[], guard := none }) (v := ?_) rfl (by kernel_rfl) (by kernel_rfl) (by kernel_rfl) (fun _ _ _ h => h) (Or.inl ⟨by rfl, ?_⟩) hHeld ?_
    rotate_left
    · (intro w' hSw; (try dsimp only at hSw); go_split_ands; go_simp; first | done | with_reducible rfl)
    try simp only [Act.put, List.setIfInBounds_toArray, List.set_cons_zero, List.set_cons_succ]
    refine wpAnyH_take (i := 3) (oi := { dst := some 40, op := Op.binOp BinOp.add 3 (Operand.tmp 39) (Operand.const (Value.int IntKind.i64 4)) 3, type := 3, pos := "ref.go:63", after := #[{ on := 2, ground := Ground.data }], guard := none }) (v := ?_) rfl (by kernel_rfl) (by kernel_rfl) (by kernel_rfl) (fun _ _ _ h => h) (Or.inl ⟨by rfl, ?_⟩) hHeld ?_
    rotate_left
    · (intro w' hSw; (try dsimp only at hSw); go_split_ands; go_simp; first | done | with_reducible rfl)
    try simp only [Act.put, List.setIfInBounds_toArray, List.set_cons_zero, List.set_cons_succ]
    refine wpAnyH_take (i := 4) (oi := { dst := some 41, op := Op.slice 23 (Operand.tmp 37) (some (Operand.tmp 38)) (some (Operand.tmp 40)) none, type := 23, pos := "ref.go:63", after := #[{ on := 0, ground := Ground.data }, { on := 1, ground := Ground.data }, { on := 3, ground := Ground.data }], guard := none }) (v := ?_) rfl (by kernel_rfl) (by kernel_rfl) (by kernel_rfl) (fun _ _ _ h => h) (Or.inl ⟨by rfl, ?_⟩) hHeld ?_
    rotate_left
    · (intro w' hSw; (try dsimp only at hSw); go_split_ands; go_simp; first | done | with_reducible rfl)
    try simp only [Act.put, List.setIfInBounds_toArray, List.set_cons_zero, List.set_cons_succ]
    refine wpAnyH_take (i := 5) (oi := { dst := some 42, op := Op.convert 23 9 (Operand.tmp 41), type := 9, pos := "ref.go:63", after := #[{ on := 4, ground := Ground.data }], guard := none }) (v := ?_) rfl (by kernel_rfl) (by kernel_rfl) (by kernel_rfl) (fun _ _ _ h => h) (Or.inl ⟨by rfl, ?_⟩) hHeld ?_
    rotate_left
    · (intro w' hSw; (try dsimp only at hSw); go_split_ands; go_simp; first | done | with_reducible rfl)
    try simp only [Act.put, List.setIfInBounds_toArray, List.set_cons_zero, List.set_cons_succ]
    refine wpAnyH_take (i := 6) (oi := { dst := some 43, op := Op.move (Operand.tmp 0), type := 23, pos := "ref.go:63", after := #[], guard := none }) (v := ?_) rfl (by kernel_rfl) (by kernel_rfl) (by kernel_rfl) (fun _ _ _ h => h) (Or.inl ⟨by rfl, ?_⟩) hHeld ?_
    rotate_left
    · (intro w' hSw; (try dsimp only at hSw); go_split_ands; go_simp; first | done | with_reducible rfl)
    try simp only [Act.put, List.setIfInBounds_toArray, List.set_cons_zero, List.set_cons_succ]
    refine wpAnyH_take (i := 7) (oi := { dst := some 44, op := Op.move (Operand.tmp 10), type := 3, pos := "ref.go:63", after := #[], guard := none }) (v := ?_) rfl (by kernel_rfl) (by kernel_rfl) (by kernel_rfl) (fun _ _ _ h => h) (Or.inl ⟨by rfl, ?_⟩) hHeld ?_
    rotate_left
    · (intro w' hSw; (try dsimp only at hSw); go_split_ands; go_simp; first | done | with_reducible rfl)
    try simp only [Act.put, List.setIfInBounds_toArray, List.set_cons_zero, List.set_cons_succ]
    refine wpAnyH_take (i := 8) (oi := { dst := some 45, op := Op.slice 23 (Operand.tmp 43) none (some (Operand.tmp 44)) none, type := 23, pos := "ref.go:63", after := #[{ on := 6, ground := Ground.data }, { on := 7, ground := Ground.data }], guard := none }) (v := ?_) rfl (by kernel_rfl) (by kernel_rfl) (by kernel_rfl) (fun _ _ _ h => h) (Or.inl ⟨by rfl, ?_⟩) hHeld ?_
    rotate_left
    · (intro w' hSw; (try dsimp only at hSw); go_split_ands; go_simp; first | done | with_reducible rfl)
    try simp only [Act.put, List.setIfInBounds_toArray, List.set_cons_zero, List.set_cons_succ]
    refine wpAnyH_ready (rs := [9]) (by kernel_rfl) (by simp) ?_
    refine AllReadyH.cons (o := { dst := some 46, op := Op.call { callee := Callee.value (Operand.func 55), args := #[Operand.tmp 45], argTypes := #[23] }, type := 23, pos := "ref.go:63", after := #[{ on := 8, ground := Ground.data }], guard := none }) rfl (fun K hK => ?_) AllReadyH.nil
    go_simp
    refine (HTL.out w.drew (hSto.drewN 1)).out.mono ?_
    rintro en w3 ⟨v3, rfl, hown3, hb3'⟩
    have hb3 : Below w.heap.size w w3 := below_undrew hb3'
    obtain ⟨A3, c3, rfl, hc3, -, -, hs3⟩ := hown3.open_
    go_wp2_with fail
    refine hK.out _ _ ?_ ?_
    · (exact HCV.out _ hb3)
    clear hK K hHeld; intro hHeld
    try simp only [Act.put, List.setIfInBounds_toArray, List.set_cons_zero, List.set_cons_succ]
    refine wpAnyH_ready (rs := [10]) (by kernel_rfl) (by simp) ?_
    refine AllReadyH.cons (o := { dst := some 47, op := Op.convert 23 9 (Operand.tmp 46), type := 9, pos := "ref.go:63", after := #[{ on := 9, ground := Ground.data }], guard := none }) rfl (fun K hK => ?_) AllReadyH.nil
    have cv3 := run_str w3 w3.heap.size A3 (tail4 (crc (b.take te))).length c3 (tail4 (crc (b.take te))) hs3 rfl
    obtain ⟨s2, hs2⟩ : ∃ s2, strOf (tail4 (crc (b.take te))) = s2 := ⟨_, rfl⟩
    rw [hs2] at cv3
    have HS2 := Lib.hid hs2
    clear hs2 hHeld
    go_simp
    have hHeld : True := trivial
    refine hK.out _ _ ?_ ?_
    · (exact HCV.out _ hb3)
    clear hK K hHeld; intro hHeld
    try simp only [Act.put, List.setIfInBounds_toArray, List.set_cons_zero, List.set_cons_succ]
    refine wpAnyH_take (i := 11) (oi := { dst := some 48, op := Op.binOp BinOp.neq 9 (Operand.tmp 42) (Operand.tmp 47) 9, type := 4, pos := "ref.go:63", after := #[{ on := 5, ground := Ground.data }, { on := 10, ground := Ground.data }], guard := none }) (v := ?_) rfl (by kernel_rfl) (by kernel_rfl) (by kernel_rfl) (fun _ _ _ h => h) (Or.inl ⟨by rfl, ?_⟩) hHeld ?_
    rotate_left
    · (intro w' hSw; (try dsimp only at hSw); go_split_ands; go_simp; first | done | with_reducible rfl)
    try simp only [Act.put, List.setIfInBounds_toArray, List.set_cons_zero, List.set_cons_succ]
    refine wpAnyH_done (by kernel_rfl) ?_ _
    refine NoPanic.normal ?_
    have hq := strOf_eqN ((b.drop te).take (fi - te)) (tail4 (crc (b.take te)))
    rw [HS1.out, HS2.out, hl4.out] at hq
    have hb3' : Below w.heap.size w w3 := hb3
    have hc3 : w3.cell? ad = some (.int .u8 (z0 : Int)) := (hb3.cell hadB).trans hc0
    have HB3 := Lib.hid hb3
    by_cases htl : tail4 (crc (b.take te)) = (b.drop te).take 4
    · rw [decide_eq_true htl.symm] at hq
      obtain ⟨q1, q2⟩ := hq
      have q3 : (!s1.toList == s2.toList) = false := by rw [q2]; rfl
      have hwz : IntKind.i64.wrap (z0 : Int) = (z0 : Int) := by rw [IntKind.wrap_i64]; omega
      have HE : Hid (fnext b = (z0, (b.drop fr).take x, b.drop fi, 0)) := by have := HF2.out; rw [if_pos htl] at this; exact this
      have hS6 : Sees w w.heap.size (some (ad.add fr)) (bv ((b.drop fr).take x)) := by
        have h1 := (hS.cut' fr).take x
        rw [← bv_drop, ← bv_take] at h1
        exact h1
      have HS6 := Lib.hid hS6
      have hcfr : (c = fr) = False := by simp; omega
      clear htl hHeld q1 hc0 hS6 cv3 cvA
      simp only [q2, Bool.not_true, Bool.not_false]
      go_wp2_with fail
      go_quiet (fail)
      go_wp2_with fail
      (try simp only [Exit.inBlock, Exit.then])
      refine bodyPost_ret (results_tmp4 rfl _ _ _) rfl ?_
      refine ⟨z0, some (ad.add fr), te - fr, c - fr, fi, 0, rfl, below_d HB3.out _, by rw [HE.out], fun _ => ?_⟩
      rw [HE.out]
      have h1 := HTO.out
      have h2 := HFI.out
      have h3 := HFR.out
      refine ⟨rfl, ?_, by omega, ((HS6.out.below HB3.out).more HB3.out.size).drewN _, by rw [HN.out]; omega, rfl, by omega⟩
      show ((b.drop fr).take x).length = _
      rw [List.length_take, List.length_drop, HN.out]
      omega
    · rw [decide_eq_false (fun h => htl h.symm)] at hq
      obtain ⟨q1, q2⟩ := hq
      have q3 : (!s1.toList == s2.toList) = true := by rw [q2]; rfl
      have HE : Hid ((fnext b).2.2.2 = 50) := by have := HF2.out; rw [if_neg htl] at this; unfold Hid; rw [this]
      clear htl hHeld q1 hc0 cv3 cvA
      simp only [q2, Bool.not_true, Bool.not_false]
      go_wp2_with fail
      (try simp only [Exit.inBlock, Exit.then])
      refine bodyPost_ret (results_tmp4 rfl _ _ _) rfl ?_
      exact RNextIs.err HE.out (by simp) HB3.out
end Go.Proofs.YtmdphaagbmipcaaDoor
