/-
  The law FilterNot, walked: labels are let through by a filter, or by its Not.
-/
import Derived.Test.YtpmjbpmdmbankaaDoorLawFlAlls
namespace Go.Proofs.YtpmjbpmdmbankaaDoor
open Go.RowKit

theorem one_not (a b : ByteArray) (p q : Bool) (ls : List Lb) : oneB ⟨a, b, p, !q⟩ ls = !oneB ⟨a, b, p, q⟩ ls := by
  unfold oneB
  simp only
  cases isB p (getL ls a) b <;> cases q <;> rfl
theorem one_pre (a b : ByteArray) (ls : List Lb) (h : oneB ⟨a, b, false, false⟩ ls = true) : oneB ⟨a, b, true, false⟩ ls = true := by
  unfold oneB isB at *
  simp only [Bool.false_eq_true, if_false, if_true] at *
  generalize getL ls a = v at *
  have h1 : v.toList = b.toList := by simpa using h
  have h2 : v = b := by
    apply ByteArray.ext
    apply Array.toList_inj.1
    rw [← Lib.toList_data, ← Lib.toList_data]
    exact h1
  subst h2
  unfold hasPre
  simp [ByteArray.extract_zero_size]
theorem one_every (a : ByteArray) (ls : List Lb) : oneB ⟨a, ⟨#[]⟩, true, false⟩ ls = true := by
  unfold oneB isB hasPre
  simp only [if_true]
  have : (⟨#[]⟩ : ByteArray).size = 0 := rfl
  rw [this]
  simp
theorem all_two (a b : ByteArray) (p q : Bool) (ls : List Lb) : allB [⟨a, b, p, q⟩, ⟨a, b, p, !q⟩] ls = false := by
  unfold allB
  simp only [List.all_cons, List.all_nil, one_not]
  cases oneB ⟨a, b, p, q⟩ ls <;> rfl

def notW (W1 : World) (a b : ByteArray) (p q : Bool) : World := ((((W1.alloc (.cells #[.string a, .string b, .bool p, .bool (!q)] 28)).alloc (.cells #[.string a, .string b, .bool true, .bool false] 28)).alloc (.cells #[.string a, .string b, .bool false, .bool false] 28)).alloc (.cells #[.string a, .string ⟨#[]⟩, .bool true, .bool false] 28))
theorem notW_facts (W1 : World) (a b : ByteArray) (p q : Bool) : Four (notW W1 a b p q) W1.heap.size (.string a) (.string b) (.bool p) (.bool (!q)) ∧ Four (notW W1 a b p q) (W1.heap.size + 1) (.string a) (.string b) (.bool true) (.bool false) ∧
    Four (notW W1 a b p q) (W1.heap.size + 1 + 1) (.string a) (.string b) (.bool false) (.bool false) ∧ Four (notW W1 a b p q) (W1.heap.size + 1 + 1 + 1) (.string a) (.string ⟨#[]⟩) (.bool true) (.bool false) ∧
    Below W1.heap.size W1 (notW W1 a b p q) ∧ (notW W1 a b p q).heap.size = W1.heap.size + 4 := by
  unfold notW
  refine ⟨?_, ?_, ?_, ?_, ?_, by simp⟩
  · exact (((Four.new W1 _ rfl _ _ _ _ _).below ((Below.refl (W1.heap.size + 1) _).alloc (by simp) _) (by omega)).below ((Below.refl (W1.heap.size + 2) _).alloc (by simp) _) (by omega)).below ((Below.refl (W1.heap.size + 3) _).alloc (by simp) _) (by omega)
  · exact ((Four.new _ (W1.heap.size + 1) (by simp) _ _ _ _ _).below ((Below.refl (W1.heap.size + 2) _).alloc (by simp) _) (by omega)).below ((Below.refl (W1.heap.size + 3) _).alloc (by simp) _) (by omega)
  · exact (Four.new _ (W1.heap.size + 1 + 1) (by simp) _ _ _ _ _).below ((Below.refl (W1.heap.size + 3) _).alloc (by simp) _) (by omega)
  · exact Four.new _ (W1.heap.size + 1 + 1 + 1) (by simp) _ _ _ _ _
  · exact ((((Below.refl _ W1).alloc (Nat.le_refl _) _).alloc (by simp) _).alloc (by simp; omega) _).alloc (by simp; omega) _

set_option maxRecDepth 100000 in
set_option maxHeartbeats 1600000 in
theorem FilterNot_small (f : Flt) (B : Option Addr) (m d : Nat) (ls : List Lb) (hm : ls.length = m) (hf : fewB [f] ls = true) (w : World) (hT : Sees w w.heap.size B (lv ls)) :
    Calls Tryd.prog 5 #[.agg #[.string f.name, .string f.value, .bool f.pre, .bool f.inv], .slice B m d] w (IsTrue w) := by
  have hnot : ∀ (x : Bool) (w : World), (Op.unary .not (.bool x)).run Tryd.prog w = .ok (.bool (!x)) w := fun _ _ => rfl
  obtain ⟨h10, k10, hfs, hls⟩ := few_yes hf
  have hm10 : m ≤ 10 := by omega
  have HF := Lib.hid hf
  have HM := Lib.hid hm
  clear hm hf h10 k10 hfs hls
  obtain ⟨a, b, p, q⟩ := f
  simp only
  have hb0 : Below w.heap.size w (w.alloc (.cells #[.string a, .string b, .bool p, .bool q] 28)) := (Below.refl _ w).alloc (Nat.le_refl _) _
  have h4 := Four.new w _ rfl 28 (.string a) (.string b) (.bool p) (.bool q)
  have hz0 : (w.alloc (.cells #[.string a, .string b, .bool p, .bool q] 28)).heap.size = w.heap.size + 1 := by simp
  go_enter Tryd.func5, Tryd.ntmps5
  go_wp2_with fail
  refine (awake_any _).mono ?_
  rintro e w1 ⟨rfl, hb1⟩
  have hb01 := hb0.trans (hb1.mono hb0.size)
  have h41 := h4.below hb1 (by omega)
  have hs1 : w.heap.size + 1 ≤ w1.heap.size := by have := hb1.size; omega
  have hFew := few_any (some ⟨w1.heap.size, 0, none⟩) 1 1 [⟨a, b, p, q⟩] rfl B m d ls HM.out (w1.alloc (.cells #[.string a, .string b, .bool p, .bool q] 28)) ((sees_cells w1 _ rfl _ _ (fv [⟨a, b, p, q⟩]) (by simp [fv])).more (by simp)) (((hT.below hb01).alloc hb01.size _).more (by have := hb01.size; simp; omega))
  rw [HF.out] at hFew
  have hb11 : Below w1.heap.size w1 (w1.alloc (.cells #[.string a, .string b, .bool p, .bool q] 28)) := (Below.refl _ w1).alloc (Nat.le_refl _) _
  have h42 := h41.below hb11 (by omega)
  obtain ⟨c0, c1, c2, c3⟩ := h41
  clear h4 hz0
  go_wp2_with fail
  generalize w1.alloc (.cells #[.string a, .string b, .bool p, .bool q] 28) = W1 at hFew hb11 h42 ⊢
  refine hFew.mono ?_
  clear hFew
  rintro e w2 ⟨rfl, rfl⟩
  have hbW := hb01.trans (hb11.mono hb01.size)
  have hsW : w.heap.size + 1 ≤ W1.heap.size := Nat.le_trans hs1 hb11.size
  have HC := Lib.hid h42
  obtain ⟨d0, d1, d2, d3⟩ := h42
  clear c0 c1 c2 c3 hb1 hb0 hb01 hb11 hs1
  have k1 := fun (o : Obj) (j : Nat) => World.cell?_alloc_lt W1 o ⟨w.heap.size, j, none⟩ (by simp; omega)
  have k2 := fun (o o' : Obj) (j : Nat) => World.cell?_alloc_lt (W1.alloc o) o' ⟨w.heap.size, j, none⟩ (by simp; omega)
  have k3 := fun (o o' o'' : Obj) (j : Nat) => World.cell?_alloc_lt ((W1.alloc o).alloc o') o'' ⟨w.heap.size, j, none⟩ (by simp; omega)
  have k4 := fun (o o' o'' o3 : Obj) (j : Nat) => World.cell?_alloc_lt (((W1.alloc o).alloc o').alloc o'') o3 ⟨w.heap.size, j, none⟩ (by simp; omega)
  go_wp2_with fail
  have hW2 := notW_facts W1 a b p q
  change Code.wp _ _ _ _ (notW W1 a b p q)
  obtain ⟨fN, fP, fE, fV, hb2, hz2⟩ := hW2
  have HF0 := Lib.hid (HC.out.below hb2 (by omega))
  generalize notW W1 a b p q = W at fN fP fE fV hb2 hz2 HF0 ⊢
  have r0 := Below.refl W.heap.size W
  have HF := HF0
  have HN := Lib.hid fN
  have HP := Lib.hid fP
  have HE := Lib.hid fE
  have HV := Lib.hid fV
  have hT := (hT.below (hbW.trans (hb2.mono (by omega)))).more (hbW.trans (hb2.mono (by omega))).size
  have hfin := hbW.trans (hb2.mono (by omega))
  obtain ⟨x1, hx1⟩ : ∃ x1, oneB ⟨a, b, p, q⟩ ls = x1 := ⟨_, rfl⟩
  have HX1 := Lib.hid hx1
  have HX2 : Hid (oneB ⟨a, b, p, !q⟩ ls = !x1) := by unfold Hid; rw [one_not, hx1]
  have HX5 := Lib.hid (one_every a ls)
  have HX6 := Lib.hid (all_two a b p q ls)
  have hxx : (x1 != !x1) = true := by cases x1 <;> rfl
  obtain ⟨x3, hx3⟩ : ∃ x3, oneB ⟨a, b, false, false⟩ ls = x3 := ⟨_, rfl⟩
  have HX3 := Lib.hid hx3
  clear hx1 k1 k2 k3 k4 HF0 fN fP fE fV d0 d1 d2 d3 HC hbW hb2
  cases x3
  · clear hx3
    refine wp_region_noPanic ?_
    refine wp_region_held_drew (S := fun w' => (w'.cell? ⟨w.heap.size, 0, none⟩ = some (.string a) ∧ w'.cell? ⟨w.heap.size, 1, none⟩ = some (.string b) ∧ w'.cell? ⟨w.heap.size, 2, none⟩ = some (.bool p) ∧ w'.cell? ⟨w.heap.size, 3, none⟩ = some (.bool q)) ∧ (w'.cell? ⟨W1.heap.size, 0, none⟩ = some (.string a) ∧ w'.cell? ⟨W1.heap.size, 1, none⟩ = some (.string b) ∧ w'.cell? ⟨W1.heap.size, 2, none⟩ = some (.bool p) ∧ w'.cell? ⟨W1.heap.size, 3, none⟩ = some (.bool (!q))) ∧ (w'.cell? ⟨W1.heap.size + 1, 0, none⟩ = some (.string a) ∧ w'.cell? ⟨W1.heap.size + 1, 1, none⟩ = some (.string b) ∧ w'.cell? ⟨W1.heap.size + 1, 2, none⟩ = some (.bool true) ∧ w'.cell? ⟨W1.heap.size + 1, 3, none⟩ = some (.bool false)) ∧ (w'.cell? ⟨W1.heap.size + 1 + 1, 0, none⟩ = some (.string a) ∧ w'.cell? ⟨W1.heap.size + 1 + 1, 1, none⟩ = some (.string b) ∧ w'.cell? ⟨W1.heap.size + 1 + 1, 2, none⟩ = some (.bool false) ∧ w'.cell? ⟨W1.heap.size + 1 + 1, 3, none⟩ = some (.bool false)) ∧ (w'.cell? ⟨W1.heap.size + 1 + 1 + 1, 0, none⟩ = some (.string a) ∧ w'.cell? ⟨W1.heap.size + 1 + 1 + 1, 1, none⟩ = some (.string ⟨#[]⟩) ∧ w'.cell? ⟨W1.heap.size + 1 + 1 + 1, 2, none⟩ = some (.bool true) ∧ w'.cell? ⟨W1.heap.size + 1 + 1 + 1, 3, none⟩ = some (.bool false))) (by kernel_rfl) ?_ (fun hHeld => ?_)
    · (exact ⟨HF.out, HN.out, HP.out, HE.out, HV.out⟩)
    refine wpAnyH_take (i := 0) (oi := { dst := some 34, op := Op.load 28 (Operand.tmp 2), type := 28, pos := "law.go:94", after := #[], guard := none }) (v := ?_) rfl (by kernel_rfl) (by kernel_rfl) (by kernel_rfl) (fun _ _ _ h => h) (Or.inl ⟨by rfl, ?_⟩) hHeld ?_
    rotate_left
    · (intro w' hSw; (try dsimp only at hSw); go_split_ands; go_simp; first | done | with_reducible rfl)
    try simp only [Act.put, List.setIfInBounds_toArray, List.set_cons_zero, List.set_cons_succ]
    refine wpAnyH_take (i := 1) (oi := { dst := some 35, op := Op.move (Operand.tmp 1), type := 23, pos := "law.go:94", after := #[], guard := none }) (v := ?_) rfl (by kernel_rfl) (by kernel_rfl) (by kernel_rfl) (fun _ _ _ h => h) (Or.inl ⟨by rfl, ?_⟩) hHeld ?_
    rotate_left
    · (intro w' hSw; (try dsimp only at hSw); go_split_ands; go_simp; first | done | with_reducible rfl)
    try simp only [Act.put, List.setIfInBounds_toArray, List.set_cons_zero, List.set_cons_succ]
    refine wpAnyH_take (i := 3) (oi := { dst := some 37, op := Op.load 28 (Operand.tmp 7), type := 28, pos := "law.go:94", after := #[], guard := none }) (v := ?_) rfl (by kernel_rfl) (by kernel_rfl) (by kernel_rfl) (fun _ _ _ h => h) (Or.inl ⟨by rfl, ?_⟩) hHeld ?_
    rotate_left
    · (intro w' hSw; (try dsimp only at hSw); go_split_ands; go_simp; first | done | with_reducible rfl)
    try simp only [Act.put, List.setIfInBounds_toArray, List.set_cons_zero, List.set_cons_succ]
    refine wpAnyH_take (i := 4) (oi := { dst := some 38, op := Op.move (Operand.tmp 1), type := 23, pos := "law.go:94", after := #[], guard := none }) (v := ?_) rfl (by kernel_rfl) (by kernel_rfl) (by kernel_rfl) (fun _ _ _ h => h) (Or.inl ⟨by rfl, ?_⟩) hHeld ?_
    rotate_left
    · (intro w' hSw; (try dsimp only at hSw); go_split_ands; go_simp; first | done | with_reducible rfl)
    try simp only [Act.put, List.setIfInBounds_toArray, List.set_cons_zero, List.set_cons_succ]
    refine wpAnyH_ready (rs := [2]) (by kernel_rfl) (by simp) ?_
    refine AllReadyH.cons (o := { dst := some 36, op := Op.call { callee := Callee.value (Operand.func 10), args := #[Operand.tmp 34, Operand.tmp 35], argTypes := #[28, 23] }, type := 4, pos := "law.go:94", after := #[{ on := 0, ground := Ground.data }, { on := 1, ground := Ground.data }], guard := none }) rfl (fun K hK => ?_) AllReadyH.nil
    go_simp
    refine (One_at a b (p) (q) B m d ls HM.out x1 HX1.out _ (((hT.below r0).more r0.size).drewN 1) (by omega)).mono ?_
    rintro en w1 ⟨rfl, hb1⟩
    have hb1 := below_undrew hb1
    have r1 := r0.trans (hb1.mono r0.size)
    go_wp2_with fail
    refine hK.out _ _ ?_ ?_
    · (exact ⟨HF.out.below r1 (by omega), HN.out.below r1 (by omega), HP.out.below r1 (by omega), HE.out.below r1 (by omega), HV.out.below r1 (by omega)⟩)
    clear hK K hHeld; intro hHeld
    try simp only [Act.put, List.setIfInBounds_toArray, List.set_cons_zero, List.set_cons_succ]
    refine wpAnyH_ready (rs := [5]) (by kernel_rfl) (by simp) ?_
    refine AllReadyH.cons (o := { dst := some 39, op := Op.call { callee := Callee.value (Operand.func 10), args := #[Operand.tmp 37, Operand.tmp 38], argTypes := #[28, 23] }, type := 4, pos := "law.go:94", after := #[{ on := 3, ground := Ground.data }, { on := 4, ground := Ground.data }, { on := 2, ground := Ground.chain }], guard := none }) rfl (fun K hK => ?_) AllReadyH.nil
    go_simp
    refine (One_at a b (p) (!q) B m d ls HM.out (!x1) HX2.out _ (((hT.below r1).more r1.size)) (by omega)).mono ?_
    rintro en w2 ⟨rfl, hb2⟩
    have r2 := r1.trans (hb2.mono r1.size)
    go_wp2_with fail
    refine hK.out _ _ ?_ ?_
    · (exact ⟨HF.out.below r2 (by omega), HN.out.below r2 (by omega), HP.out.below r2 (by omega), HE.out.below r2 (by omega), HV.out.below r2 (by omega)⟩)
    clear hK K hHeld; intro hHeld
    try simp only [Act.put, List.setIfInBounds_toArray, List.set_cons_zero, List.set_cons_succ]
    refine wpAnyH_take (i := 6) (oi := { dst := some 40, op := Op.binOp BinOp.neq 4 (Operand.tmp 36) (Operand.tmp 39) 4, type := 4, pos := "law.go:94", after := #[{ on := 2, ground := Ground.data }, { on := 5, ground := Ground.data }], guard := none }) (v := ?_) rfl (by kernel_rfl) (by kernel_rfl) (by kernel_rfl) (fun _ _ _ h => h) (Or.inl ⟨by rfl, ?_⟩) hHeld ?_
    rotate_left
    · (intro w' hSw; (try dsimp only at hSw); go_split_ands; go_simp; first | done | with_reducible rfl)
    try simp only [Act.put, List.setIfInBounds_toArray, List.set_cons_zero, List.set_cons_succ]
    refine wpAnyH_take (i := 7) (oi := { dst := some 41, op := Op.move (Operand.tmp 40), type := 4, pos := "law.go:94", after := #[{ on := 6, ground := Ground.data }, { on := 5, ground := Ground.chain }], guard := none }) (v := ?_) rfl (by kernel_rfl) (by kernel_rfl) (by kernel_rfl) (fun _ _ _ h => h) (Or.inl ⟨by rfl, ?_⟩) hHeld ?_
    rotate_left
    · (intro w' hSw; (try dsimp only at hSw); go_split_ands; go_simp; first | done | with_reducible rfl)
    try simp only [Act.put, List.setIfInBounds_toArray, List.set_cons_zero, List.set_cons_succ]
    refine wpAnyH_take (i := 8) (oi := { dst := some 42, op := Op.load 28 (Operand.tmp 9), type := 28, pos := "law.go:94", after := #[{ on := 7, ground := Ground.guard }], guard := some (7, true) }) (v := ?_) rfl (by kernel_rfl) (by kernel_rfl) (by kernel_rfl) (fun _ _ _ h => h) (Or.inl ⟨by rfl, ?_⟩) hHeld ?_
    rotate_left
    · (intro w' hSw; (try dsimp only at hSw); go_split_ands; go_simp; first | done | with_reducible rfl)
    try simp only [Act.put, List.setIfInBounds_toArray, List.set_cons_zero, List.set_cons_succ]
    refine wpAnyH_take (i := 9) (oi := { dst := some 43, op := Op.move (Operand.tmp 1), type := 23, pos := "law.go:94", after := #[{ on := 7, ground := Ground.guard }], guard := some (7, true) }) (v := ?_) rfl (by kernel_rfl) (by kernel_rfl) (by kernel_rfl) (fun _ _ _ h => h) (Or.inl ⟨by rfl, ?_⟩) hHeld ?_
    rotate_left
    · (intro w' hSw; (try dsimp only at hSw); go_split_ands; go_simp; first | done | with_reducible rfl)
    try simp only [Act.put, List.setIfInBounds_toArray, List.set_cons_zero, List.set_cons_succ]
    refine wpAnyH_ready (rs := [10]) (by kernel_rfl) (by simp) ?_
    refine AllReadyH.cons (o := { dst := some 44, op := Op.call { callee := Callee.value (Operand.func 10), args := #[Operand.tmp 42, Operand.tmp 43], argTypes := #[28, 23] }, type := 4, pos := "law.go:94", after := #[{ on := 8, ground := Ground.data }, { on := 9, ground := Ground.data }, { on := 7, ground := Ground.chain }, { on := 7, ground := Ground.guard }], guard := some (7, true) }) rfl (fun K hK => ?_) AllReadyH.nil
    go_simp
    refine (One_at a b (false) (false) B m d ls HM.out false HX3.out _ (((hT.below r2).more r2.size)) (by omega)).mono ?_
    rintro en w3 ⟨rfl, hb3⟩
    have r3 := r2.trans (hb3.mono r2.size)
    go_wp2_with fail
    refine hK.out _ _ ?_ ?_
    · (exact ⟨HF.out.below r3 (by omega), HN.out.below r3 (by omega), HP.out.below r3 (by omega), HE.out.below r3 (by omega), HV.out.below r3 (by omega)⟩)
    clear hK K hHeld; intro hHeld
    try simp only [Act.put, List.setIfInBounds_toArray, List.set_cons_zero, List.set_cons_succ]
    refine wpAnyH_take (i := 11) (oi := { dst := some 45, op := Op.unOp UnOp.not 4 (Operand.tmp 44), type := 4, pos := "law.go:94", after := #[{ on := 10, ground := Ground.data }, { on := 7, ground := Ground.guard }], guard := some (7, true) }) (v := ?_) rfl (by kernel_rfl) (by kernel_rfl) (by kernel_rfl) (fun _ _ _ h => h) (Or.inl ⟨by rfl, ?_⟩) hHeld ?_
    rotate_left
    · (intro w' hSw; (try dsimp only at hSw); go_split_ands; go_simp; first | done | with_reducible rfl)
    try simp only [Act.put, List.setIfInBounds_toArray, List.set_cons_zero, List.set_cons_succ]
    refine wpAnyH_take (i := 12) (oi := { dst := some 46, op := Op.move (Operand.tmp 45), type := 4, pos := "law.go:94", after := #[{ on := 11, ground := Ground.data }, { on := 10, ground := Ground.chain }, { on := 7, ground := Ground.guard }], guard := some (7, true) }) (v := ?_) rfl (by kernel_rfl) (by kernel_rfl) (by kernel_rfl) (fun _ _ _ h => h) (Or.inl ⟨by rfl, ?_⟩) hHeld ?_
    rotate_left
    · (intro w' hSw; (try dsimp only at hSw); go_split_ands; go_simp; first | done | with_reducible rfl)
    try simp only [Act.put, List.setIfInBounds_toArray, List.set_cons_zero, List.set_cons_succ]
    refine wpAnyH_take (i := 13) (oi := { dst := some 47, op := Op.load 28 (Operand.tmp 8), type := 28, pos := "law.go:94", after := #[{ on := 12, ground := Ground.guard }], guard := some (12, false) }) (v := undef) rfl (by kernel_rfl) (by kernel_rfl) (by kernel_rfl) (fun _ _ _ h => h) (Or.inr ⟨by rfl, rfl⟩) hHeld ?_
    try simp only [Act.put, List.setIfInBounds_toArray, List.set_cons_zero, List.set_cons_succ]
    refine wpAnyH_take (i := 14) (oi := { dst := some 48, op := Op.move (Operand.tmp 1), type := 23, pos := "law.go:94", after := #[{ on := 12, ground := Ground.guard }], guard := some (12, false) }) (v := undef) rfl (by kernel_rfl) (by kernel_rfl) (by kernel_rfl) (fun _ _ _ h => h) (Or.inr ⟨by rfl, rfl⟩) hHeld ?_
    try simp only [Act.put, List.setIfInBounds_toArray, List.set_cons_zero, List.set_cons_succ]
    refine wpAnyH_take (i := 15) (oi := { dst := some 49, op := Op.call { callee := Callee.value (Operand.func 10), args := #[Operand.tmp 47, Operand.tmp 48], argTypes := #[28, 23] }, type := 4, pos := "law.go:94", after := #[{ on := 13, ground := Ground.data }, { on := 14, ground := Ground.data }, { on := 12, ground := Ground.chain }, { on := 12, ground := Ground.guard }], guard := some (12, false) }) (v := undef) rfl (by kernel_rfl) (by kernel_rfl) (by kernel_rfl) (fun _ _ _ h => h) (Or.inr ⟨by rfl, rfl⟩) hHeld ?_
    try simp only [Act.put, List.setIfInBounds_toArray, List.set_cons_zero, List.set_cons_succ]
    refine wpAnyH_take (i := 16) (oi := { dst := some 50, op := Op.pick (Operand.tmp 46) (Operand.const (Value.bool true)) (Operand.tmp 49), type := 4, pos := "law.go:94", after := #[{ on := 12, ground := Ground.data }, { on := 15, ground := Ground.data }, { on := 7, ground := Ground.guard }], guard := some (7, true) }) (v := ?_) rfl (by kernel_rfl) (by kernel_rfl) (by kernel_rfl) (fun _ _ _ h => h) (Or.inl ⟨by rfl, ?_⟩) hHeld ?_
    rotate_left
    · (intro w' hSw; (try dsimp only at hSw); go_split_ands; go_simp; first | done | with_reducible rfl)
    try simp only [Act.put, List.setIfInBounds_toArray, List.set_cons_zero, List.set_cons_succ]
    refine wpAnyH_take (i := 17) (oi := { dst := some 51, op := Op.pick (Operand.tmp 41) (Operand.tmp 50) (Operand.const (Value.bool false)), type := 4, pos := "law.go:94", after := #[{ on := 7, ground := Ground.data }, { on := 16, ground := Ground.data }], guard := none }) (v := ?_) rfl (by kernel_rfl) (by kernel_rfl) (by kernel_rfl) (fun _ _ _ h => h) (Or.inl ⟨by rfl, ?_⟩) hHeld ?_
    rotate_left
    · (intro w' hSw; (try dsimp only at hSw); go_split_ands; go_simp; first | done | with_reducible rfl)
    try simp only [Act.put, List.setIfInBounds_toArray, List.set_cons_zero, List.set_cons_succ]
    refine wpAnyH_take (i := 18) (oi := { dst := some 52, op := Op.move (Operand.tmp 51), type := 4, pos := "law.go:94", after := #[{ on := 17, ground := Ground.data }, { on := 15, ground := Ground.chain }], guard := none }) (v := ?_) rfl (by kernel_rfl) (by kernel_rfl) (by kernel_rfl) (fun _ _ _ h => h) (Or.inl ⟨by rfl, ?_⟩) hHeld ?_
    rotate_left
    · (intro w' hSw; (try dsimp only at hSw); go_split_ands; go_simp; first | done | with_reducible rfl)
    try simp only [Act.put, List.setIfInBounds_toArray, List.set_cons_zero, List.set_cons_succ]
    refine wpAnyH_take (i := 19) (oi := { dst := some 53, op := Op.load 28 (Operand.tmp 10), type := 28, pos := "law.go:94", after := #[{ on := 18, ground := Ground.guard }], guard := some (18, true) }) (v := ?_) rfl (by kernel_rfl) (by kernel_rfl) (by kernel_rfl) (fun _ _ _ h => h) (Or.inl ⟨by rfl, ?_⟩) hHeld ?_
    rotate_left
    · (intro w' hSw; (try dsimp only at hSw); go_split_ands; go_simp; first | done | with_reducible rfl)
    try simp only [Act.put, List.setIfInBounds_toArray, List.set_cons_zero, List.set_cons_succ]
    refine wpAnyH_take (i := 20) (oi := { dst := some 54, op := Op.move (Operand.tmp 1), type := 23, pos := "law.go:94", after := #[{ on := 18, ground := Ground.guard }], guard := some (18, true) }) (v := ?_) rfl (by kernel_rfl) (by kernel_rfl) (by kernel_rfl) (fun _ _ _ h => h) (Or.inl ⟨by rfl, ?_⟩) hHeld ?_
    rotate_left
    · (intro w' hSw; (try dsimp only at hSw); go_split_ands; go_simp; first | done | with_reducible rfl)
    try simp only [Act.put, List.setIfInBounds_toArray, List.set_cons_zero, List.set_cons_succ]
    refine wpAnyH_ready (rs := [21]) (by kernel_rfl) (by simp) ?_
    refine AllReadyH.cons (o := { dst := some 55, op := Op.call { callee := Callee.value (Operand.func 10), args := #[Operand.tmp 53, Operand.tmp 54], argTypes := #[28, 23] }, type := 4, pos := "law.go:94", after := #[{ on := 19, ground := Ground.data }, { on := 20, ground := Ground.data }, { on := 18, ground := Ground.chain }, { on := 18, ground := Ground.guard }], guard := some (18, true) }) rfl (fun K hK => ?_) AllReadyH.nil
    go_simp
    refine (One_at a ⟨#[]⟩ (true) (false) B m d ls HM.out true HX5.out _ (((hT.below r3).more r3.size)) (by omega)).mono ?_
    rintro en w5 ⟨rfl, hb5⟩
    have r5 := r3.trans (hb5.mono r3.size)
    go_wp2_with fail
    refine hK.out _ _ ?_ ?_
    · (exact ⟨HF.out.below r5 (by omega), HN.out.below r5 (by omega), HP.out.below r5 (by omega), HE.out.below r5 (by omega), HV.out.below r5 (by omega)⟩)
    clear hK K hHeld; intro hHeld
    try simp only [Act.put, List.setIfInBounds_toArray, List.set_cons_zero, List.set_cons_succ]
    refine wpAnyH_take (i := 22) (oi := { dst := some 56, op := Op.pick (Operand.tmp 52) (Operand.tmp 55) (Operand.const (Value.bool false)), type := 4, pos := "law.go:94", after := #[{ on := 18, ground := Ground.data }, { on := 21, ground := Ground.data }], guard := none }) (v := ?_) rfl (by kernel_rfl) (by kernel_rfl) (by kernel_rfl) (fun _ _ _ h => h) (Or.inl ⟨by rfl, ?_⟩) hHeld ?_
    rotate_left
    · (intro w' hSw; (try dsimp only at hSw); go_split_ands; go_simp; first | done | with_reducible rfl)
    try simp only [Act.put, List.setIfInBounds_toArray, List.set_cons_zero, List.set_cons_succ]
    refine wpAnyH_take (i := 23) (oi := { dst := some 57, op := Op.move (Operand.tmp 56), type := 4, pos := "law.go:94", after := #[{ on := 22, ground := Ground.data }, { on := 21, ground := Ground.chain }], guard := none }) (v := ?_) rfl (by kernel_rfl) (by kernel_rfl) (by kernel_rfl) (fun _ _ _ h => h) (Or.inl ⟨by rfl, ?_⟩) hHeld ?_
    rotate_left
    · (intro w' hSw; (try dsimp only at hSw); go_split_ands; go_simp; first | done | with_reducible rfl)
    try simp only [Act.put, List.setIfInBounds_toArray, List.set_cons_zero, List.set_cons_succ]
    refine wpAnyH_take (i := 24) (oi := { dst := some 58, op := Op.load 28 (Operand.tmp 2), type := 28, pos := "law.go:94", after := #[{ on := 23, ground := Ground.guard }], guard := some (23, true) }) (v := ?_) rfl (by kernel_rfl) (by kernel_rfl) (by kernel_rfl) (fun _ _ _ h => h) (Or.inl ⟨by rfl, ?_⟩) hHeld ?_
    rotate_left
    · (intro w' hSw; (try dsimp only at hSw); go_split_ands; go_simp; first | done | with_reducible rfl)
    try simp only [Act.put, List.setIfInBounds_toArray, List.set_cons_zero, List.set_cons_succ]
    refine wpAnyH_take (i := 25) (oi := { dst := some 59, op := Op.load 28 (Operand.tmp 7), type := 28, pos := "law.go:94", after := #[{ on := 23, ground := Ground.guard }], guard := some (23, true) }) (v := ?_) rfl (by kernel_rfl) (by kernel_rfl) (by kernel_rfl) (fun _ _ _ h => h) (Or.inl ⟨by rfl, ?_⟩) hHeld ?_
    rotate_left
    · (intro w' hSw; (try dsimp only at hSw); go_split_ands; go_simp; first | done | with_reducible rfl)
    try simp only [Act.put, List.setIfInBounds_toArray, List.set_cons_zero, List.set_cons_succ]
    refine wpAnyH_take (i := 27) (oi := { dst := some 61, op := Op.move (Operand.tmp 1), type := 23, pos := "law.go:94", after := #[{ on := 23, ground := Ground.guard }], guard := some (23, true) }) (v := ?_) rfl (by kernel_rfl) (by kernel_rfl) (by kernel_rfl) (fun _ _ _ h => h) (Or.inl ⟨by rfl, ?_⟩) hHeld ?_
    rotate_left
    · (intro w' hSw; (try dsimp only at hSw); go_split_ands; go_simp; first | done | with_reducible rfl)
    try simp only [Act.put, List.setIfInBounds_toArray, List.set_cons_zero, List.set_cons_succ]
    refine wpAnyH_ready (rs := [26]) (by kernel_rfl) (by simp) ?_
    refine AllReadyH.cons (o := { dst := some 60, op := Op.buildSlice 22 2 #[(0, Operand.tmp 58), (1, Operand.tmp 59)], type := 22, pos := "law.go:94", after := #[{ on := 24, ground := Ground.data }, { on := 25, ground := Ground.data }, { on := 23, ground := Ground.guard }], guard := some (23, true) }) rfl (fun K hK => ?_) AllReadyH.nil
    go_simp
    refine hK.out _ _ ?_ ?_
    · (have r6 := r5.alloc r5.size (.cells #[.string a, .string b, .bool p, .bool q, .string a, .string b, .bool p, .bool (!q)] 28); exact ⟨HF.out.below r6 (by omega), HN.out.below r6 (by omega), HP.out.below r6 (by omega), HE.out.below r6 (by omega), HV.out.below r6 (by omega)⟩)
    clear hK K hHeld; intro hHeld
    try simp only [Act.put, List.setIfInBounds_toArray, List.set_cons_zero, List.set_cons_succ]
    refine wpAnyH_ready (rs := [28]) (by kernel_rfl) (by simp) ?_
    refine AllReadyH.cons (o := { dst := some 62, op := Op.call { callee := Callee.value (Operand.func 14), args := #[Operand.tmp 60, Operand.tmp 61], argTypes := #[22, 23] }, type := 4, pos := "law.go:94", after := #[{ on := 26, ground := Ground.data }, { on := 27, ground := Ground.data }, { on := 23, ground := Ground.chain }, { on := 23, ground := Ground.guard }], guard := some (23, true) }) rfl (fun K hK => ?_) AllReadyH.nil
    go_simp
    refine (All_at _ 2 2 [⟨a, b, p, q⟩, ⟨a, b, p, !q⟩] rfl B m d ls HM.out false HX6.out _ ((sees_cells w5 _ rfl _ _ (fv [⟨a, b, p, q⟩, ⟨a, b, p, !q⟩]) (by simp [fv])).more (by simp)) (((hT.below r5).alloc r5.size _).more (by have := r5.size; simp; omega)) (by omega) (by omega)).mono ?_
    rintro en w7 ⟨rfl, hb7⟩
    have r7 := (r5.alloc r5.size _).trans (hb7.mono (by have := r5.size; simp; omega))
    go_wp2_with fail
    refine hK.out _ _ ?_ ?_
    · (exact ⟨HF.out.below r7 (by omega), HN.out.below r7 (by omega), HP.out.below r7 (by omega), HE.out.below r7 (by omega), HV.out.below r7 (by omega)⟩)
    clear hK K hHeld; intro hHeld
    try simp only [Act.put, List.setIfInBounds_toArray, List.set_cons_zero, List.set_cons_succ]
    refine wpAnyH_take (i := 29) (oi := { dst := some 63, op := Op.unOp UnOp.not 4 (Operand.tmp 62), type := 4, pos := "law.go:94", after := #[{ on := 28, ground := Ground.data }, { on := 23, ground := Ground.guard }], guard := some (23, true) }) (v := ?_) rfl (by kernel_rfl) (by kernel_rfl) (by kernel_rfl) (fun _ _ _ h => h) (Or.inl ⟨by rfl, ?_⟩) hHeld ?_
    rotate_left
    · (intro w' hSw; (try dsimp only at hSw); go_split_ands; go_simp; first | done | with_reducible rfl)
    try simp only [Act.put, List.setIfInBounds_toArray, List.set_cons_zero, List.set_cons_succ]
    refine wpAnyH_take (i := 30) (oi := { dst := some 64, op := Op.pick (Operand.tmp 57) (Operand.tmp 63) (Operand.const (Value.bool false)), type := 4, pos := "law.go:94", after := #[{ on := 23, ground := Ground.data }, { on := 29, ground := Ground.data }], guard := none }) (v := ?_) rfl (by kernel_rfl) (by kernel_rfl) (by kernel_rfl) (fun _ _ _ h => h) (Or.inl ⟨by rfl, ?_⟩) hHeld ?_
    rotate_left
    · (intro w' hSw; (try dsimp only at hSw); go_split_ands; go_simp; first | done | with_reducible rfl)
    try simp only [Act.put, List.setIfInBounds_toArray, List.set_cons_zero, List.set_cons_succ]
    refine wpAnyH_take (i := 31) (oi := { dst := some 4, op := Op.assign (Operand.tmp 64), type := 4, pos := "law.go:94", after := #[{ on := 30, ground := Ground.data }, { on := 28, ground := Ground.chain }, { on := 0, ground := Ground.phase }, { on := 1, ground := Ground.phase }, { on := 2, ground := Ground.phase }, { on := 3, ground := Ground.phase }, { on := 4, ground := Ground.phase }, { on := 5, ground := Ground.phase }, { on := 6, ground := Ground.phase }, { on := 7, ground := Ground.phase }, { on := 8, ground := Ground.phase }, { on := 9, ground := Ground.phase }, { on := 10, ground := Ground.phase }, { on := 11, ground := Ground.phase }, { on := 12, ground := Ground.phase }, { on := 13, ground := Ground.phase }, { on := 14, ground := Ground.phase }, { on := 15, ground := Ground.phase }, { on := 16, ground := Ground.phase }, { on := 17, ground := Ground.phase }, { on := 18, ground := Ground.phase }, { on := 19, ground := Ground.phase }, { on := 20, ground := Ground.phase }, { on := 21, ground := Ground.phase }, { on := 22, ground := Ground.phase }, { on := 23, ground := Ground.phase }, { on := 24, ground := Ground.phase }, { on := 25, ground := Ground.phase }, { on := 26, ground := Ground.phase }, { on := 27, ground := Ground.phase }, { on := 28, ground := Ground.phase }, { on := 29, ground := Ground.phase }, { on := 30, ground := Ground.phase }], guard := none }) (v := ?_) rfl (by kernel_rfl) (by kernel_rfl) (by kernel_rfl) (fun _ _ _ h => h) (Or.inl ⟨by rfl, ?_⟩) hHeld ?_
    rotate_left
    · (intro w' hSw; (try dsimp only at hSw); go_split_ands; go_simp; first | done | with_reducible rfl)
    try simp only [Act.put, List.setIfInBounds_toArray, List.set_cons_zero, List.set_cons_succ]
    refine wpAnyH_done (by kernel_rfl) ?_ _
    refine NoPanic.normal ?_
    go_wp2
    go_ret
    exact ⟨rfl, hfin.trans (r7.mono hfin.size)⟩
  · have HX4 := Lib.hid (one_pre a b ls hx3)
    clear hx3
    refine wp_region_noPanic ?_
    refine wp_region_held_drew (S := fun w' => (w'.cell? ⟨w.heap.size, 0, none⟩ = some (.string a) ∧ w'.cell? ⟨w.heap.size, 1, none⟩ = some (.string b) ∧ w'.cell? ⟨w.heap.size, 2, none⟩ = some (.bool p) ∧ w'.cell? ⟨w.heap.size, 3, none⟩ = some (.bool q)) ∧ (w'.cell? ⟨W1.heap.size, 0, none⟩ = some (.string a) ∧ w'.cell? ⟨W1.heap.size, 1, none⟩ = some (.string b) ∧ w'.cell? ⟨W1.heap.size, 2, none⟩ = some (.bool p) ∧ w'.cell? ⟨W1.heap.size, 3, none⟩ = some (.bool (!q))) ∧ (w'.cell? ⟨W1.heap.size + 1, 0, none⟩ = some (.string a) ∧ w'.cell? ⟨W1.heap.size + 1, 1, none⟩ = some (.string b) ∧ w'.cell? ⟨W1.heap.size + 1, 2, none⟩ = some (.bool true) ∧ w'.cell? ⟨W1.heap.size + 1, 3, none⟩ = some (.bool false)) ∧ (w'.cell? ⟨W1.heap.size + 1 + 1, 0, none⟩ = some (.string a) ∧ w'.cell? ⟨W1.heap.size + 1 + 1, 1, none⟩ = some (.string b) ∧ w'.cell? ⟨W1.heap.size + 1 + 1, 2, none⟩ = some (.bool false) ∧ w'.cell? ⟨W1.heap.size + 1 + 1, 3, none⟩ = some (.bool false)) ∧ (w'.cell? ⟨W1.heap.size + 1 + 1 + 1, 0, none⟩ = some (.string a) ∧ w'.cell? ⟨W1.heap.size + 1 + 1 + 1, 1, none⟩ = some (.string ⟨#[]⟩) ∧ w'.cell? ⟨W1.heap.size + 1 + 1 + 1, 2, none⟩ = some (.bool true) ∧ w'.cell? ⟨W1.heap.size + 1 + 1 + 1, 3, none⟩ = some (.bool false))) (by kernel_rfl) ?_ (fun hHeld => ?_)
    · (exact ⟨HF.out, HN.out, HP.out, HE.out, HV.out⟩)
    refine wpAnyH_take (i := 0) (oi := { dst := some 34, op := Op.load 28 (Operand.tmp 2), type := 28, pos := "law.go:94", after := #[], guard := none }) (v := ?_) rfl (by kernel_rfl) (by kernel_rfl) (by kernel_rfl) (fun _ _ _ h => h) (Or.inl ⟨by rfl, ?_⟩) hHeld ?_
    rotate_left
    · (intro w' hSw; (try dsimp only at hSw); go_split_ands; go_simp; first | done | with_reducible rfl)
    try simp only [Act.put, List.setIfInBounds_toArray, List.set_cons_zero, List.set_cons_succ]
    refine wpAnyH_take (i := 1) (oi := { dst := some 35, op := Op.move (Operand.tmp 1), type := 23, pos := "law.go:94", after := #[], guard := none }) (v := ?_) rfl (by kernel_rfl) (by kernel_rfl) (by kernel_rfl) (fun _ _ _ h => h) (Or.inl ⟨by rfl, ?_⟩) hHeld ?_
    rotate_left
    · (intro w' hSw; (try dsimp only at hSw); go_split_ands; go_simp; first | done | with_reducible rfl)
    try simp only [Act.put, List.setIfInBounds_toArray, List.set_cons_zero, List.set_cons_succ]
    refine wpAnyH_take (i := 3) (oi := { dst := some 37, op := Op.load 28 (Operand.tmp 7), type := 28, pos := "law.go:94", after := #[], guard := none }) (v := ?_) rfl (by kernel_rfl) (by kernel_rfl) (by kernel_rfl) (fun _ _ _ h => h) (Or.inl ⟨by rfl, ?_⟩) hHeld ?_
    rotate_left
    · (intro w' hSw; (try dsimp only at hSw); go_split_ands; go_simp; first | done | with_reducible rfl)
    try simp only [Act.put, List.setIfInBounds_toArray, List.set_cons_zero, List.set_cons_succ]
    refine wpAnyH_take (i := 4) (oi := { dst := some 38, op := Op.move (Operand.tmp 1), type := 23, pos := "law.go:94", after := #[], guard := none }) (v := ?_) rfl (by kernel_rfl) (by kernel_rfl) (by kernel_rfl) (fun _ _ _ h => h) (Or.inl ⟨by rfl, ?_⟩) hHeld ?_
    rotate_left
    · (intro w' hSw; (try dsimp only at hSw); go_split_ands; go_simp; first | done | with_reducible rfl)
    try simp only [Act.put, List.setIfInBounds_toArray, List.set_cons_zero, List.set_cons_succ]
    refine wpAnyH_ready (rs := [2]) (by kernel_rfl) (by simp) ?_
    refine AllReadyH.cons (o := { dst := some 36, op := Op.call { callee := Callee.value (Operand.func 10), args := #[Operand.tmp 34, Operand.tmp 35], argTypes := #[28, 23] }, type := 4, pos := "law.go:94", after := #[{ on := 0, ground := Ground.data }, { on := 1, ground := Ground.data }], guard := none }) rfl (fun K hK => ?_) AllReadyH.nil
    go_simp
    refine (One_at a b (p) (q) B m d ls HM.out x1 HX1.out _ (((hT.below r0).more r0.size).drewN 1) (by omega)).mono ?_
    rintro en w1 ⟨rfl, hb1⟩
    have hb1 := below_undrew hb1
    have r1 := r0.trans (hb1.mono r0.size)
    go_wp2_with fail
    refine hK.out _ _ ?_ ?_
    · (exact ⟨HF.out.below r1 (by omega), HN.out.below r1 (by omega), HP.out.below r1 (by omega), HE.out.below r1 (by omega), HV.out.below r1 (by omega)⟩)
    clear hK K hHeld; intro hHeld
    try simp only [Act.put, List.setIfInBounds_toArray, List.set_cons_zero, List.set_cons_succ]
    refine wpAnyH_ready (rs := [5]) (by kernel_rfl) (by simp) ?_
    refine AllReadyH.cons (o := { dst := some 39, op := Op.call { callee := Callee.value (Operand.func 10), args := #[Operand.tmp 37, Operand.tmp 38], argTypes := #[28, 23] }, type := 4, pos := "law.go:94", after := #[{ on := 3, ground := Ground.data }, { on := 4, ground := Ground.data }, { on := 2, ground := Ground.chain }], guard := none }) rfl (fun K hK => ?_) AllReadyH.nil
    go_simp
    refine (One_at a b (p) (!q) B m d ls HM.out (!x1) HX2.out _ (((hT.below r1).more r1.size)) (by omega)).mono ?_
    rintro en w2 ⟨rfl, hb2⟩
    have r2 := r1.trans (hb2.mono r1.size)
    go_wp2_with fail
    refine hK.out _ _ ?_ ?_
    · (exact ⟨HF.out.below r2 (by omega), HN.out.below r2 (by omega), HP.out.below r2 (by omega), HE.out.below r2 (by omega), HV.out.below r2 (by omega)⟩)
    clear hK K hHeld; intro hHeld
    try simp only [Act.put, List.setIfInBounds_toArray, List.set_cons_zero, List.set_cons_succ]
    refine wpAnyH_take (i := 6) (oi := { dst := some 40, op := Op.binOp BinOp.neq 4 (Operand.tmp 36) (Operand.tmp 39) 4, type := 4, pos := "law.go:94", after := #[{ on := 2, ground := Ground.data }, { on := 5, ground := Ground.data }], guard := none }) (v := ?_) rfl (by kernel_rfl) (by kernel_rfl) (by kernel_rfl) (fun _ _ _ h => h) (Or.inl ⟨by rfl, ?_⟩) hHeld ?_
    rotate_left
    · (intro w' hSw; (try dsimp only at hSw); go_split_ands; go_simp; first | done | with_reducible rfl)
    try simp only [Act.put, List.setIfInBounds_toArray, List.set_cons_zero, List.set_cons_succ]
    refine wpAnyH_take (i := 7) (oi := { dst := some 41, op := Op.move (Operand.tmp 40), type := 4, pos := "law.go:94", after := #[{ on := 6, ground := Ground.data }, { on := 5, ground := Ground.chain }], guard := none }) (v := ?_) rfl (by kernel_rfl) (by kernel_rfl) (by kernel_rfl) (fun _ _ _ h => h) (Or.inl ⟨by rfl, ?_⟩) hHeld ?_
    rotate_left
    · (intro w' hSw; (try dsimp only at hSw); go_split_ands; go_simp; first | done | with_reducible rfl)
    try simp only [Act.put, List.setIfInBounds_toArray, List.set_cons_zero, List.set_cons_succ]
    refine wpAnyH_take (i := 8) (oi := { dst := some 42, op := Op.load 28 (Operand.tmp 9), type := 28, pos := "law.go:94", after := #[{ on := 7, ground := Ground.guard }], guard := some (7, true) }) (v := ?_) rfl (by kernel_rfl) (by kernel_rfl) (by kernel_rfl) (fun _ _ _ h => h) (Or.inl ⟨by rfl, ?_⟩) hHeld ?_
    rotate_left
    · (intro w' hSw; (try dsimp only at hSw); go_split_ands; go_simp; first | done | with_reducible rfl)
    try simp only [Act.put, List.setIfInBounds_toArray, List.set_cons_zero, List.set_cons_succ]
    refine wpAnyH_take (i := 9) (oi := { dst := some 43, op := Op.move (Operand.tmp 1), type := 23, pos := "law.go:94", after := #[{ on := 7, ground := Ground.guard }], guard := some (7, true) }) (v := ?_) rfl (by kernel_rfl) (by kernel_rfl) (by kernel_rfl) (fun _ _ _ h => h) (Or.inl ⟨by rfl, ?_⟩) hHeld ?_
    rotate_left
    · (intro w' hSw; (try dsimp only at hSw); go_split_ands; go_simp; first | done | with_reducible rfl)
    try simp only [Act.put, List.setIfInBounds_toArray, List.set_cons_zero, List.set_cons_succ]
    refine wpAnyH_ready (rs := [10]) (by kernel_rfl) (by simp) ?_
    refine AllReadyH.cons (o := { dst := some 44, op := Op.call { callee := Callee.value (Operand.func 10), args := #[Operand.tmp 42, Operand.tmp 43], argTypes := #[28, 23] }, type := 4, pos := "law.go:94", after := #[{ on := 8, ground := Ground.data }, { on := 9, ground := Ground.data }, { on := 7, ground := Ground.chain }, { on := 7, ground := Ground.guard }], guard := some (7, true) }) rfl (fun K hK => ?_) AllReadyH.nil
    go_simp
    refine (One_at a b (false) (false) B m d ls HM.out true HX3.out _ (((hT.below r2).more r2.size)) (by omega)).mono ?_
    rintro en w3 ⟨rfl, hb3⟩
    have r3 := r2.trans (hb3.mono r2.size)
    go_wp2_with fail
    refine hK.out _ _ ?_ ?_
    · (exact ⟨HF.out.below r3 (by omega), HN.out.below r3 (by omega), HP.out.below r3 (by omega), HE.out.below r3 (by omega), HV.out.below r3 (by omega)⟩)
    clear hK K hHeld; intro hHeld
    try simp only [Act.put, List.setIfInBounds_toArray, List.set_cons_zero, List.set_cons_succ]
    refine wpAnyH_take (i := 11) (oi := { dst := some 45, op := Op.unOp UnOp.not 4 (Operand.tmp 44), type := 4, pos := "law.go:94", after := #[{ on := 10, ground := Ground.data }, { on := 7, ground := Ground.guard }], guard := some (7, true) }) (v := ?_) rfl (by kernel_rfl) (by kernel_rfl) (by kernel_rfl) (fun _ _ _ h => h) (Or.inl ⟨by rfl, ?_⟩) hHeld ?_
    rotate_left
    · (intro w' hSw; (try dsimp only at hSw); go_split_ands; go_simp; first | done | with_reducible rfl)
    try simp only [Act.put, List.setIfInBounds_toArray, List.set_cons_zero, List.set_cons_succ]
    refine wpAnyH_take (i := 12) (oi := { dst := some 46, op := Op.move (Operand.tmp 45), type := 4, pos := "law.go:94", after := #[{ on := 11, ground := Ground.data }, { on := 10, ground := Ground.chain }, { on := 7, ground := Ground.guard }], guard := some (7, true) }) (v := ?_) rfl (by kernel_rfl) (by kernel_rfl) (by kernel_rfl) (fun _ _ _ h => h) (Or.inl ⟨by rfl, ?_⟩) hHeld ?_
    rotate_left
    · (intro w' hSw; (try dsimp only at hSw); go_split_ands; go_simp; first | done | with_reducible rfl)
    try simp only [Act.put, List.setIfInBounds_toArray, List.set_cons_zero, List.set_cons_succ]
    refine wpAnyH_take (i := 13) (oi := { dst := some 47, op := Op.load 28 (Operand.tmp 8), type := 28, pos := "law.go:94", after := #[{ on := 12, ground := Ground.guard }], guard := some (12, false) }) (v := ?_) rfl (by kernel_rfl) (by kernel_rfl) (by kernel_rfl) (fun _ _ _ h => h) (Or.inl ⟨by rfl, ?_⟩) hHeld ?_
    rotate_left
    · (intro w' hSw; (try dsimp only at hSw); go_split_ands; go_simp; first | done | with_reducible rfl)
    try simp only [Act.put, List.setIfInBounds_toArray, List.set_cons_zero, List.set_cons_succ]
    refine wpAnyH_take (i := 14) (oi := { dst := some 48, op := Op.move (Operand.tmp 1), type := 23, pos := "law.go:94", after := #[{ on := 12, ground := Ground.guard }], guard := some (12, false) }) (v := ?_) rfl (by kernel_rfl) (by kernel_rfl) (by kernel_rfl) (fun _ _ _ h => h) (Or.inl ⟨by rfl, ?_⟩) hHeld ?_
    rotate_left
    · (intro w' hSw; (try dsimp only at hSw); go_split_ands; go_simp; first | done | with_reducible rfl)
    try simp only [Act.put, List.setIfInBounds_toArray, List.set_cons_zero, List.set_cons_succ]
    refine wpAnyH_ready (rs := [15]) (by kernel_rfl) (by simp) ?_
    refine AllReadyH.cons (o := { dst := some 49, op := Op.call { callee := Callee.value (Operand.func 10), args := #[Operand.tmp 47, Operand.tmp 48], argTypes := #[28, 23] }, type := 4, pos := "law.go:94", after := #[{ on := 13, ground := Ground.data }, { on := 14, ground := Ground.data }, { on := 12, ground := Ground.chain }, { on := 12, ground := Ground.guard }], guard := some (12, false) }) rfl (fun K hK => ?_) AllReadyH.nil
    go_simp
    refine (One_at a b (true) (false) B m d ls HM.out true HX4.out _ (((hT.below r3).more r3.size)) (by omega)).mono ?_
    rintro en w4 ⟨rfl, hb4⟩
    have r4 := r3.trans (hb4.mono r3.size)
    go_wp2_with fail
    refine hK.out _ _ ?_ ?_
    · (exact ⟨HF.out.below r4 (by omega), HN.out.below r4 (by omega), HP.out.below r4 (by omega), HE.out.below r4 (by omega), HV.out.below r4 (by omega)⟩)
    clear hK K hHeld; intro hHeld
    try simp only [Act.put, List.setIfInBounds_toArray, List.set_cons_zero, List.set_cons_succ]
    refine wpAnyH_take (i := 16) (oi := { dst := some 50, op := Op.pick (Operand.tmp 46) (Operand.const (Value.bool true)) (Operand.tmp 49), type := 4, pos := "law.go:94", after := #[{ on := 12, ground := Ground.data }, { on := 15, ground := Ground.data }, { on := 7, ground := Ground.guard }], guard := some (7, true) }) (v := ?_) rfl (by kernel_rfl) (by kernel_rfl) (by kernel_rfl) (fun _ _ _ h => h) (Or.inl ⟨by rfl, ?_⟩) hHeld ?_
    rotate_left
    · (intro w' hSw; (try dsimp only at hSw); go_split_ands; go_simp; first | done | with_reducible rfl)
    try simp only [Act.put, List.setIfInBounds_toArray, List.set_cons_zero, List.set_cons_succ]
    refine wpAnyH_take (i := 17) (oi := { dst := some 51, op := Op.pick (Operand.tmp 41) (Operand.tmp 50) (Operand.const (Value.bool false)), type := 4, pos := "law.go:94", after := #[{ on := 7, ground := Ground.data }, { on := 16, ground := Ground.data }], guard := none }) (v := ?_) rfl (by kernel_rfl) (by kernel_rfl) (by kernel_rfl) (fun _ _ _ h => h) (Or.inl ⟨by rfl, ?_⟩) hHeld ?_
    rotate_left
    · (intro w' hSw; (try dsimp only at hSw); go_split_ands; go_simp; first | done | with_reducible rfl)
    try simp only [Act.put, List.setIfInBounds_toArray, List.set_cons_zero, List.set_cons_succ]
    refine wpAnyH_take (i := 18) (oi := { dst := some 52, op := Op.move (Operand.tmp 51), type := 4, pos := "law.go:94", after := #[{ on := 17, ground := Ground.data }, { on := 15, ground := Ground.chain }], guard := none }) (v := ?_) rfl (by kernel_rfl) (by kernel_rfl) (by kernel_rfl) (fun _ _ _ h => h) (Or.inl ⟨by rfl, ?_⟩) hHeld ?_
    rotate_left
    · (intro w' hSw; (try dsimp only at hSw); go_split_ands; go_simp; first | done | with_reducible rfl)
    try simp only [Act.put, List.setIfInBounds_toArray, List.set_cons_zero, List.set_cons_succ]
    refine wpAnyH_take (i := 19) (oi := { dst := some 53, op := Op.load 28 (Operand.tmp 10), type := 28, pos := "law.go:94", after := #[{ on := 18, ground := Ground.guard }], guard := some (18, true) }) (v := ?_) rfl (by kernel_rfl) (by kernel_rfl) (by kernel_rfl) (fun _ _ _ h => h) (Or.inl ⟨by rfl, ?_⟩) hHeld ?_
    rotate_left
    · (intro w' hSw; (try dsimp only at hSw); go_split_ands; go_simp; first | done | with_reducible rfl)
    try simp only [Act.put, List.setIfInBounds_toArray, List.set_cons_zero, List.set_cons_succ]
    refine wpAnyH_take (i := 20) (oi := { dst := some 54, op := Op.move (Operand.tmp 1), type := 23, pos := "law.go:94", after := #[{ on := 18, ground := Ground.guard }], guard := some (18, true) }) (v := ?_) rfl (by kernel_rfl) (by kernel_rfl) (by kernel_rfl) (fun _ _ _ h => h) (Or.inl ⟨by rfl, ?_⟩) hHeld ?_
    rotate_left
    · (intro w' hSw; (try dsimp only at hSw); go_split_ands; go_simp; first | done | with_reducible rfl)
    try simp only [Act.put, List.setIfInBounds_toArray, List.set_cons_zero, List.set_cons_succ]
    refine wpAnyH_ready (rs := [21]) (by kernel_rfl) (by simp) ?_
    refine AllReadyH.cons (o := { dst := some 55, op := Op.call { callee := Callee.value (Operand.func 10), args := #[Operand.tmp 53, Operand.tmp 54], argTypes := #[28, 23] }, type := 4, pos := "law.go:94", after := #[{ on := 19, ground := Ground.data }, { on := 20, ground := Ground.data }, { on := 18, ground := Ground.chain }, { on := 18, ground := Ground.guard }], guard := some (18, true) }) rfl (fun K hK => ?_) AllReadyH.nil
    go_simp
    refine (One_at a ⟨#[]⟩ (true) (false) B m d ls HM.out true HX5.out _ (((hT.below r4).more r4.size)) (by omega)).mono ?_
    rintro en w5 ⟨rfl, hb5⟩
    have r5 := r4.trans (hb5.mono r4.size)
    go_wp2_with fail
    refine hK.out _ _ ?_ ?_
    · (exact ⟨HF.out.below r5 (by omega), HN.out.below r5 (by omega), HP.out.below r5 (by omega), HE.out.below r5 (by omega), HV.out.below r5 (by omega)⟩)
    clear hK K hHeld; intro hHeld
    try simp only [Act.put, List.setIfInBounds_toArray, List.set_cons_zero, List.set_cons_succ]
    refine wpAnyH_take (i := 22) (oi := { dst := some 56, op := Op.pick (Operand.tmp 52) (Operand.tmp 55) (Operand.const (Value.bool false)), type := 4, pos := "law.go:94", after := #[{ on := 18, ground := Ground.data }, { on := 21, ground := Ground.data }], guard := none }) (v := ?_) rfl (by kernel_rfl) (by kernel_rfl) (by kernel_rfl) (fun _ _ _ h => h) (Or.inl ⟨by rfl, ?_⟩) hHeld ?_
    rotate_left
    · (intro w' hSw; (try dsimp only at hSw); go_split_ands; go_simp; first | done | with_reducible rfl)
    try simp only [Act.put, List.setIfInBounds_toArray, List.set_cons_zero, List.set_cons_succ]
    refine wpAnyH_take (i := 23) (oi := { dst := some 57, op := Op.move (Operand.tmp 56), type := 4, pos := "law.go:94", after := #[{ on := 22, ground := Ground.data }, { on := 21, ground := Ground.chain }], guard := none }) (v := ?_) rfl (by kernel_rfl) (by kernel_rfl) (by kernel_rfl) (fun _ _ _ h => h) (Or.inl ⟨by rfl, ?_⟩) hHeld ?_
    rotate_left
    · (intro w' hSw; (try dsimp only at hSw); go_split_ands; go_simp; first | done | with_reducible rfl)
    try simp only [Act.put, List.setIfInBounds_toArray, List.set_cons_zero, List.set_cons_succ]
    refine wpAnyH_take (i := 24) (oi := { dst := some 58, op := Op.load 28 (Operand.tmp 2), type := 28, pos := "law.go:94", after := #[{ on := 23, ground := Ground.guard }], guard := some (23, true) }) (v := ?_) rfl (by kernel_rfl) (by kernel_rfl) (by kernel_rfl) (fun _ _ _ h => h) (Or.inl ⟨by rfl, ?_⟩) hHeld ?_
    rotate_left
    · (intro w' hSw; (try dsimp only at hSw); go_split_ands; go_simp; first | done | with_reducible rfl)
    try simp only [Act.put, List.setIfInBounds_toArray, List.set_cons_zero, List.set_cons_succ]
    refine wpAnyH_take (i := 25) (oi := { dst := some 59, op := Op.load 28 (Operand.tmp 7), type := 28, pos := "law.go:94", after := #[{ on := 23, ground := Ground.guard }], guard := some (23, true) }) (v := ?_) rfl (by kernel_rfl) (by kernel_rfl) (by kernel_rfl) (fun _ _ _ h => h) (Or.inl ⟨by rfl, ?_⟩) hHeld ?_
    rotate_left
    · (intro w' hSw; (try dsimp only at hSw); go_split_ands; go_simp; first | done | with_reducible rfl)
    try simp only [Act.put, List.setIfInBounds_toArray, List.set_cons_zero, List.set_cons_succ]
    refine wpAnyH_take (i := 27) (oi := { dst := some 61, op := Op.move (Operand.tmp 1), type := 23, pos := "law.go:94", after := #[{ on := 23, ground := Ground.guard }], guard := some (23, true) }) (v := ?_) rfl (by kernel_rfl) (by kernel_rfl) (by kernel_rfl) (fun _ _ _ h => h) (Or.inl ⟨by rfl, ?_⟩) hHeld ?_
    rotate_left
    · (intro w' hSw; (try dsimp only at hSw); go_split_ands; go_simp; first | done | with_reducible rfl)
    try simp only [Act.put, List.setIfInBounds_toArray, List.set_cons_zero, List.set_cons_succ]
    refine wpAnyH_ready (rs := [26]) (by kernel_rfl) (by simp) ?_
    refine AllReadyH.cons (o := { dst := some 60, op := Op.buildSlice 22 2 #[(0, Operand.tmp 58), (1, Operand.tmp 59)], type := 22, pos := "law.go:94", after := #[{ on := 24, ground := Ground.data }, { on := 25, ground := Ground.data }, { on := 23, ground := Ground.guard }], guard := some (23, true) }) rfl (fun K hK => ?_) AllReadyH.nil
    go_simp
    refine hK.out _ _ ?_ ?_
    · (have r6 := r5.alloc r5.size (.cells #[.string a, .string b, .bool p, .bool q, .string a, .string b, .bool p, .bool (!q)] 28); exact ⟨HF.out.below r6 (by omega), HN.out.below r6 (by omega), HP.out.below r6 (by omega), HE.out.below r6 (by omega), HV.out.below r6 (by omega)⟩)
    clear hK K hHeld; intro hHeld
    try simp only [Act.put, List.setIfInBounds_toArray, List.set_cons_zero, List.set_cons_succ]
    refine wpAnyH_ready (rs := [28]) (by kernel_rfl) (by simp) ?_
    refine AllReadyH.cons (o := { dst := some 62, op := Op.call { callee := Callee.value (Operand.func 14), args := #[Operand.tmp 60, Operand.tmp 61], argTypes := #[22, 23] }, type := 4, pos := "law.go:94", after := #[{ on := 26, ground := Ground.data }, { on := 27, ground := Ground.data }, { on := 23, ground := Ground.chain }, { on := 23, ground := Ground.guard }], guard := some (23, true) }) rfl (fun K hK => ?_) AllReadyH.nil
    go_simp
    refine (All_at _ 2 2 [⟨a, b, p, q⟩, ⟨a, b, p, !q⟩] rfl B m d ls HM.out false HX6.out _ ((sees_cells w5 _ rfl _ _ (fv [⟨a, b, p, q⟩, ⟨a, b, p, !q⟩]) (by simp [fv])).more (by simp)) (((hT.below r5).alloc r5.size _).more (by have := r5.size; simp; omega)) (by omega) (by omega)).mono ?_
    rintro en w7 ⟨rfl, hb7⟩
    have r7 := (r5.alloc r5.size _).trans (hb7.mono (by have := r5.size; simp; omega))
    go_wp2_with fail
    refine hK.out _ _ ?_ ?_
    · (exact ⟨HF.out.below r7 (by omega), HN.out.below r7 (by omega), HP.out.below r7 (by omega), HE.out.below r7 (by omega), HV.out.below r7 (by omega)⟩)
    clear hK K hHeld; intro hHeld
    try simp only [Act.put, List.setIfInBounds_toArray, List.set_cons_zero, List.set_cons_succ]
    refine wpAnyH_take (i := 29) (oi := { dst := some 63, op := Op.unOp UnOp.not 4 (Operand.tmp 62), type := 4, pos := "law.go:94", after := #[{ on := 28, ground := Ground.data }, { on := 23, ground := Ground.guard }], guard := some (23, true) }) (v := ?_) rfl (by kernel_rfl) (by kernel_rfl) (by kernel_rfl) (fun _ _ _ h => h) (Or.inl ⟨by rfl, ?_⟩) hHeld ?_
    rotate_left
    · (intro w' hSw; (try dsimp only at hSw); go_split_ands; go_simp; first | done | with_reducible rfl)
    try simp only [Act.put, List.setIfInBounds_toArray, List.set_cons_zero, List.set_cons_succ]
    refine wpAnyH_take (i := 30) (oi := { dst := some 64, op := Op.pick (Operand.tmp 57) (Operand.tmp 63) (Operand.const (Value.bool false)), type := 4, pos := "law.go:94", after := #[{ on := 23, ground := Ground.data }, { on := 29, ground := Ground.data }], guard := none }) (v := ?_) rfl (by kernel_rfl) (by kernel_rfl) (by kernel_rfl) (fun _ _ _ h => h) (Or.inl ⟨by rfl, ?_⟩) hHeld ?_
    rotate_left
    · (intro w' hSw; (try dsimp only at hSw); go_split_ands; go_simp; first | done | with_reducible rfl)
    try simp only [Act.put, List.setIfInBounds_toArray, List.set_cons_zero, List.set_cons_succ]
    refine wpAnyH_take (i := 31) (oi := { dst := some 4, op := Op.assign (Operand.tmp 64), type := 4, pos := "law.go:94", after := #[{ on := 30, ground := Ground.data }, { on := 28, ground := Ground.chain }, { on := 0, ground := Ground.phase }, { on := 1, ground := Ground.phase }, { on := 2, ground := Ground.phase }, { on := 3, ground := Ground.phase }, { on := 4, ground := Ground.phase }, { on := 5, ground := Ground.phase }, { on := 6, ground := Ground.phase }, { on := 7, ground := Ground.phase }, { on := 8, ground := Ground.phase }, { on := 9, ground := Ground.phase }, { on := 10, ground := Ground.phase }, { on := 11, ground := Ground.phase }, { on := 12, ground := Ground.phase }, { on := 13, ground := Ground.phase }, { on := 14, ground := Ground.phase }, { on := 15, ground := Ground.phase }, { on := 16, ground := Ground.phase }, { on := 17, ground := Ground.phase }, { on := 18, ground := Ground.phase }, { on := 19, ground := Ground.phase }, { on := 20, ground := Ground.phase }, { on := 21, ground := Ground.phase }, { on := 22, ground := Ground.phase }, { on := 23, ground := Ground.phase }, { on := 24, ground := Ground.phase }, { on := 25, ground := Ground.phase }, { on := 26, ground := Ground.phase }, { on := 27, ground := Ground.phase }, { on := 28, ground := Ground.phase }, { on := 29, ground := Ground.phase }, { on := 30, ground := Ground.phase }], guard := none }) (v := ?_) rfl (by kernel_rfl) (by kernel_rfl) (by kernel_rfl) (fun _ _ _ h => h) (Or.inl ⟨by rfl, ?_⟩) hHeld ?_
    rotate_left
    · (intro w' hSw; (try dsimp only at hSw); go_split_ands; go_simp; first | done | with_reducible rfl)
    try simp only [Act.put, List.setIfInBounds_toArray, List.set_cons_zero, List.set_cons_succ]
    refine wpAnyH_done (by kernel_rfl) ?_ _
    refine NoPanic.normal ?_
    go_wp2
    go_ret
    exact ⟨rfl, hfin.trans (r7.mono hfin.size)⟩
end Go.Proofs.YtpmjbpmdmbankaaDoor
