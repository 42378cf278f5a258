/-
  The law FilterExact, walked: an exact filter's labels have that value.
-/
import Derived.Test.YtpmjbpmdmbankaaDoorLawFlNot
import Derived.Test.YtpmjbpmdmbankaaDoorAppend
namespace Go.Proofs.YtpmjbpmdmbankaaDoor
open Go.RowKit

theorem Tryd.finfo : (Tryd.prog.info? 28).map (fun i => (i.zero, i.size, i.bytes)) = some (some (.agg #[.string ⟨#[]⟩, .string ⟨#[]⟩, .bool false, .bool false]), 4, 40) := by kernel_rfl
theorem fv_append (a b : List Flt) : fv (a ++ b) = fv a ++ fv b := by simp [fv]
theorem fv_take (ls : List Flt) (k : Nat) : fv (ls.take k) = (fv ls).take (4 * k) := by
  induction ls generalizing k with
  | nil => simp [fv]
  | cons x t ih =>
    cases k with
    | zero => rfl
    | succ k => rw [List.take_succ_cons, show 4 * (k + 1) = 4 * k + 1 + 1 + 1 + 1 from by omega]; have := ih k; simp only [fv, List.flatMap_cons, List.cons_append, List.nil_append, List.take_succ_cons] at *; rw [this]
theorem fv_one (l : List Flt) : ∀ u ∈ fv l, u.oneCell' = true := by
  intro u hu
  simp only [fv, List.mem_flatMap] at hu
  obtain ⟨x, _, hx⟩ := hu
  simp at hx
  rcases hx with rfl | rfl | rfl | rfl <;> rfl
theorem Sees.apart {w w' : World} {g : Nat} {xs : List Value} {row : Option Nat} (h : Sees w w.heap.size (some ⟨g, 0, none⟩) xs) (hg : w.grownBy w' row) (hne : ∀ k, row = some k → k ≠ g) : Sees w' w'.heap.size (some ⟨g, 0, none⟩) xs := by
  rcases h.out with h | ⟨ad, e, hb, hc⟩
  · exact ⟨.inl h⟩
  · injection e with e
    subst e
    refine ⟨.inr ⟨_, rfl, Nat.lt_of_lt_of_le hb hg.size, fun j u hu => (World.cell?_of_block (a := (⟨g, 0, none⟩ : Addr).add j) ?_).trans (hc j u hu)⟩⟩
    rw [add_block]
    exact hg.block g hb (fun e => hne g e.symm rfl)

def jobX : Flt := ⟨⟨#[106, 111, 98]⟩, ⟨#[120]⟩, false, false⟩
theorem exactN_none : ∀ (fs : List Flt), exactN fs = fs.length → exactN (fs ++ [jobX]) = fs.length
  | [], _ => by decide +kernel
  | f :: t, h => by
    have hl := exactN_le t
    simp only [exactN, List.length_cons] at h
    split at h
    · omega
    · rename_i hf
      have ih := exactN_none t (by omega)
      simp only [List.cons_append, exactN, List.length_cons]
      rw [if_neg hf, ih]
theorem exactN_take : ∀ (fs : List Flt) (k : Nat), k ≤ exactN fs → exactN (fs.take k) = min k fs.length
  | [], k, _ => by simp [exactN]
  | f :: t, 0, _ => by simp [exactN]
  | f :: t, k + 1, h => by
    simp only [exactN] at h
    split at h
    · omega
    · rename_i hf
      have ih := exactN_take t k (by omega)
      simp only [List.take_succ_cons, exactN, List.length_cons]
      rw [if_neg hf, ih]
      omega
theorem exactN_is : ∀ (fs : List Flt) (h : exactN fs < fs.length), exactF fs[exactN fs] = true
  | f :: t, h => by
    by_cases hf : exactF f = true
    · have e : exactN (f :: t) = 0 := by simp only [exactN]; rw [if_pos hf]
      simp only [e, List.getElem_cons_zero]
      exact hf
    · have e : exactN (f :: t) = exactN t + 1 := by simp only [exactN]; rw [if_neg hf]
      simp only [e, List.getElem_cons_succ]
      exact exactN_is t (by rw [e] at h; simpa using h)
theorem exactN_drop (fs : List Flt) (h : exactN fs < fs.length) : exactN (fs.drop (exactN fs)) = 0 := by
  rw [List.drop_eq_getElem_cons h]
  simp only [exactN]
  rw [if_pos (exactN_is fs h)]

/-- Is there a label of that name and that value? -/
def hasL (x : Flt) (ls : List Lb) : Bool := ls.any fun l => l.1.toList == x.name.toList && l.2.toList == x.value.toList
theorem hasL_at {x : Flt} {ls : List Lb} {k : Nat} (h : k < ls.length) : hasL x (ls.drop k) = ((ls[k].1.toList == x.name.toList && ls[k].2.toList == x.value.toList) || hasL x (ls.drop (k + 1))) := by
  rw [List.drop_eq_getElem_cons h]
  rfl
theorem hasL_end {x : Flt} {ls : List Lb} {k : Nat} (h : ls.length ≤ k) : hasL x (ls.drop k) = false := by
  rw [List.drop_eq_nil_of_le h]
  rfl
theorem getL_has : ∀ (ls : List Lb) (x : Flt), x.value.toList ≠ [] → (getL ls x.name).toList = x.value.toList → hasL x ls = true
  | [], x, h, e => absurd (e.symm.trans (by show (⟨#[]⟩ : ByteArray).toList = []; rw [Lib.toList_data])) h
  | l :: t, x, h, e => by
    unfold hasL
    rw [List.any_cons]
    simp only [getL] at e
    by_cases hn : (l.1.toList == x.name.toList) = true
    · rw [if_pos hn] at e
      rw [hn, e]
      simp
    · rw [if_neg hn] at e
      have := getL_has t x h e
      unfold hasL at this
      rw [this, Bool.or_true]
theorem exact_has {fs : List Flt} {ls : List Lb} (h : exactN fs < fs.length) (ha : allB fs ls = true) : hasL fs[exactN fs] ls = true := by
  have he := exactN_is fs h
  have ho : oneB fs[exactN fs] ls = true := by
    unfold allB at ha
    rw [List.all_eq_true] at ha
    exact ha _ (List.getElem_mem h)
  generalize fs[exactN fs] = x at he ho
  obtain ⟨a, b, p, q⟩ := x
  unfold exactF at he
  simp only [Bool.and_eq_true, Bool.not_eq_true'] at he
  obtain ⟨rfl, rfl, hb⟩ := he
  unfold oneB isB at ho
  simp only [Bool.false_eq_true, if_false, bne_iff_ne, ne_eq, Bool.not_eq_false, beq_iff_eq] at ho
  exact getL_has ls ⟨a, b, false, false⟩ (by intro e; simp only at e; rw [e] at hb; simp at hb) ho

set_option maxRecDepth 100000 in
set_option maxHeartbeats 3200000 in
theorem FilterExact_none (A : Option Addr) (n c : Nat) (fs : List Flt) (hn : fs.length = n) (B : Option Addr) (m d : Nat) (ls : List Lb) (hm : ls.length = m) (hf : fewB fs ls = true) (hx : exactN fs = n) (w : World) (hS : Sees w w.heap.size A (fv fs)) (hT : Sees w w.heap.size B (lv ls)) :
    Calls Tryd.prog 6 #[.slice A n c, .slice B m d] w (IsTrue w) := by
  have hnot : ∀ (x : Bool) (w : World), (Op.unary .not (.bool x)).run Tryd.prog w = .ok (.bool (!x)) w := fun _ _ => rfl
  obtain ⟨i0, hi0, hz0, hz1, hz2⟩ := info_parts Tryd.finfo
  obtain ⟨h10, k10, hfs, hls⟩ := few_yes hf
  have hn10 : n ≤ 10 := by omega
  have hm10 : m ≤ 10 := by omega
  have hE : exactZ fs = -1 := by unfold exactZ; rw [if_neg (by omega)]
  have hE1 : exactZ (fs ++ [jobX]) = (n : Int) := by
    have := exactN_none fs (by omega)
    unfold exactZ
    rw [if_pos (by rw [this]; simp), this, hn]
  have HF := Lib.hid hf
  have HN := Lib.hid hn
  have HM := Lib.hid hm
  have HE := Lib.hid hE
  have HZ1 := Lib.hid hE1
  clear hn hm hf h10 k10 hfs hls hx hE hE1
  go_enter Tryd.func6, Tryd.ntmps6
  go_wp2_with fail
  refine (awake_any w).mono ?_
  rintro e w1 ⟨rfl, hb1⟩
  have hs1 := hb1.size
  have hFew := few_any A n c fs HN.out B m d ls HM.out w1 ((hS.below hb1).more hs1) ((hT.below hb1).more hs1)
  rw [HF.out] at hFew
  go_wp2_with fail
  refine hFew.mono ?_
  rintro e w2 ⟨rfl, rfl⟩
  clear hFew
  have hEx := Exact_any A n c fs HN.out w1 ((hS.below hb1).more hs1) (by omega)
  rw [HE.out] at hEx
  go_wp2_with fail
  refine hEx.mono ?_
  rintro e w2 ⟨rfl, hb2⟩
  clear hEx
  have hb02 := hb1.trans (hb2.mono hs1)
  have hn0 : (-1 : Int) < (n : Int) := by omega
  go_wp2_with fail
  have hbW : Below w2.heap.size w2 (w2.alloc (.cells #[.string ⟨#[106, 111, 98]⟩, .string ⟨#[120]⟩, .bool false, .bool false] 28)) := (Below.refl _ _).alloc (Nat.le_refl _) _
  have hX8 := Four.new w2 _ rfl 28 (.string ⟨#[106, 111, 98]⟩) (.string ⟨#[120]⟩) (.bool false) (.bool false)
  have hzW : w2.heap.size < (w2.alloc (.cells #[.string ⟨#[106, 111, 98]⟩, .string ⟨#[120]⟩, .bool false, .bool false] 28)).heap.size := by simp
  generalize w2.alloc (.cells #[.string ⟨#[106, 111, 98]⟩, .string ⟨#[120]⟩, .bool false, .bool false] 28) = W at hbW hX8 hzW ⊢
  have hfin := hb02.trans (hbW.mono hb02.size)
  have hs3 : w.heap.size ≤ W.heap.size := hfin.size
  have hS3 := hS.below hfin
  refine wp_region_noPanic ?_
  refine wp_region_held_drew (S := fun w' => w'.cell? ⟨w2.heap.size, 0, none⟩ = some (.string ⟨#[106, 111, 98]⟩) ∧ w'.cell? ⟨w2.heap.size, 1, none⟩ = some (.string ⟨#[120]⟩) ∧ w'.cell? ⟨w2.heap.size, 2, none⟩ = some (.bool false) ∧ w'.cell? ⟨w2.heap.size, 3, none⟩ = some (.bool false)) (by kernel_rfl) ?_ (fun hHeld => ?_)
  · (exact hX8)
  have r0 : Below W.heap.size W W.drew := below_drew (Below.refl _ _)
  generalize W.drew = w3_0 at r0 hHeld ⊢
  refine wpAnyH_take (i := 1) (oi := { dst := some 33, op := Op.move (Operand.tmp 0), type := 22, pos := "law.go:113", after := #[], guard := none }) (v := ?_) rfl (by kernel_rfl) (by kernel_rfl) (by kernel_rfl) (fun _ _ _ h => h) (Or.inl ⟨by rfl, ?_⟩) hHeld ?_
  rotate_left
  · (intro w' hSw; (try dsimp only at hSw); go_split_ands; go_simp; first | done | with_reducible rfl)
  try simp only [Act.put, List.setIfInBounds_toArray, List.set_cons_zero, List.set_cons_succ]
  refine wpAnyH_take (i := 3) (oi := { dst := some 35, op := Op.load 28 (Operand.tmp 8), type := 28, pos := "law.go:113", after := #[], guard := none }) (v := ?_) rfl (by kernel_rfl) (by kernel_rfl) (by kernel_rfl) (fun _ _ _ h => h) (Or.inl ⟨by rfl, ?_⟩) hHeld ?_
  rotate_left
  · (intro w' hSw; (try dsimp only at hSw); go_split_ands; go_simp; first | done | with_reducible rfl)
  try simp only [Act.put, List.setIfInBounds_toArray, List.set_cons_zero, List.set_cons_succ]
  refine wpAnyH_take (i := 7) (oi := { dst := some 39, op := Op.move (Operand.tmp 0), type := 22, pos := "law.go:113", after := #[], guard := none }) (v := ?_) rfl (by kernel_rfl) (by kernel_rfl) (by kernel_rfl) (fun _ _ _ h => h) (Or.inl ⟨by rfl, ?_⟩) hHeld ?_
  rotate_left
  · (intro w' hSw; (try dsimp only at hSw); go_split_ands; go_simp; first | done | with_reducible rfl)
  try simp only [Act.put, List.setIfInBounds_toArray, List.set_cons_zero, List.set_cons_succ]
  refine wpAnyH_take (i := 8) (oi := { dst := some 40, op := Op.call { callee := Callee.builtin Builtin.len, args := #[Operand.tmp 39], argTypes := #[22] }, type := 3, pos := "law.go:113", after := #[{ on := 7, ground := Ground.data }], guard := none }) (v := ?_) rfl (by kernel_rfl) (by kernel_rfl) (by kernel_rfl) (fun _ _ _ h => h) (Or.inl ⟨by rfl, ?_⟩) hHeld ?_
  rotate_left
  · (intro w' hSw; (try dsimp only at hSw); go_split_ands; go_simp; first | done | with_reducible rfl)
  try simp only [Act.put, List.setIfInBounds_toArray, List.set_cons_zero, List.set_cons_succ]
  refine wpAnyH_ready (rs := [0, 4]) (by kernel_rfl) (by simp) ?_
  refine AllReadyH.cons (o := { dst := some 32, op := Op.buildSlice 22 0 #[], type := 22, pos := "law.go:113", after := #[], guard := none }) rfl (fun K hK => ?_) ?_
  · go_simp
    refine hK.out _ _ ?_ ?_
    · (exact hX8.below (r0.alloc r0.size _) (by omega))
    clear hK K hHeld; intro hHeld
    try simp only [Act.put, List.setIfInBounds_toArray, List.set_cons_zero, List.set_cons_succ]
    have own1 := own_new w3_0 W.heap.size r0.size 28 4 0 [] rfl (by simp [maxLen]) #[] rfl
    have s1 : Below w3_0.heap.size w3_0 (w3_0.alloc (.cells #[] 28)) := (Below.refl _ _).alloc (Nat.le_refl _) _
    have z1 : w3_0.heap.size < (w3_0.alloc (.cells #[] 28)).heap.size := by simp
    generalize (w3_0.alloc (.cells #[] 28)) = w3_1 at hHeld s1 z1 own1 ⊢
    have r1 := r0.trans (s1.mono r0.size)
    refine wpAnyH_ready (rs := [2, 4]) (by kernel_rfl) (by simp) ?_
    refine AllReadyH.cons (o := { dst := some 34, op := Op.call { callee := Callee.builtin Builtin.append, args := #[Operand.tmp 32, Operand.tmp 33], argTypes := #[22, 22] }, type := 22, pos := "law.go:113", after := #[{ on := 0, ground := Ground.data }, { on := 1, ground := Ground.data }], guard := none }) rfl (fun K hK => ?_) ?_
    · refine step_append_v (by rfl) (.tmp 32) (.tmp 33) _ (by rfl) 28 i0 _ 4 40 Tryd.underlying22 hi0 hz0 hz1 hz2 rfl (by omega) W.heap.size (.slice (some ⟨w3_0.heap.size, 0, none⟩) 0 0) _ _ (by rfl) own1 _ A n c (fv fs) (by rfl) (by rw [fv_length, HN.out]; omega) (hS3.below (r1.mono hs3)) (fv_one _) (by simp only [maxLen]; omega) (by omega) r1.size ?_
      intro v2 w3_2 own2 on2
      have s2 : Below W.heap.size w3_1 w3_2 := on2.below r1.size (own_block own1)
      have r2 := r1.trans s2
      have z2 := on2.size
      rw [Nat.zero_add, List.nil_append] at own2
      refine hK.out _ _ ?_ ?_
      · (exact hX8.below r2 (by omega))
      clear hK K hHeld; intro hHeld
      try simp only [Act.put, List.setIfInBounds_toArray, List.set_cons_zero, List.set_cons_succ]
      refine wpAnyH_ready (rs := [4]) (by kernel_rfl) (by simp) ?_
      refine AllReadyH.cons (o := { dst := some 36, op := Op.buildSlice 22 1 #[(0, Operand.tmp 35)], type := 22, pos := "law.go:113", after := #[{ on := 3, ground := Ground.data }], guard := none }) rfl (fun K hK => ?_) AllReadyH.nil
      go_simp
      refine hK.out _ _ ?_ ?_
      · (exact hX8.below (r2.alloc r2.size _) (by omega))
      clear hK K hHeld; intro hHeld
      try simp only [Act.put, List.setIfInBounds_toArray, List.set_cons_zero, List.set_cons_succ]
      have see3 := (sees_cells w3_2 _ rfl #[.string ⟨#[106, 111, 98]⟩, .string ⟨#[120]⟩, .bool false, .bool false] 28 (fv [⟨⟨#[106, 111, 98]⟩, ⟨#[120]⟩, false, false⟩]) (by simp [fv])).more (show _ ≤ (w3_2.alloc (.cells #[.string ⟨#[106, 111, 98]⟩, .string ⟨#[120]⟩, .bool false, .bool false] 28)).heap.size from by simp)
      have s3 : Below w3_2.heap.size w3_2 (w3_2.alloc (.cells #[.string ⟨#[106, 111, 98]⟩, .string ⟨#[120]⟩, .bool false, .bool false] 28)) := (Below.refl _ _).alloc (Nat.le_refl _) _
      have z3 : w3_2.heap.size < (w3_2.alloc (.cells #[.string ⟨#[106, 111, 98]⟩, .string ⟨#[120]⟩, .bool false, .bool false] 28)).heap.size := by simp
      generalize (w3_2.alloc (.cells #[.string ⟨#[106, 111, 98]⟩, .string ⟨#[120]⟩, .bool false, .bool false] 28)) = w3_3 at hHeld s3 z3 see3 ⊢
      have r3 := r2.trans (s3.mono r2.size)
      have own3 := own_below own2 s3
      refine wpAnyH_ready (rs := [5]) (by kernel_rfl) (by simp) ?_
      refine AllReadyH.cons (o := { dst := some 37, op := Op.call { callee := Callee.builtin Builtin.append, args := #[Operand.tmp 34, Operand.tmp 36], argTypes := #[22, 22] }, type := 22, pos := "law.go:113", after := #[{ on := 2, ground := Ground.data }, { on := 4, ground := Ground.data }, { on := 2, ground := Ground.chain }], guard := none }) rfl (fun K hK => ?_) AllReadyH.nil
      refine step_append_v (by rfl) (.tmp 34) (.tmp 36) _ (by rfl) 28 i0 _ 4 40 Tryd.underlying22 hi0 hz0 hz1 hz2 rfl (by omega) W.heap.size v2 _ _ (by rfl) own3 _ (some ⟨w3_2.heap.size, 0, none⟩) 1 1 _ (by rfl) rfl (see3) (fv_one _) (by simp only [maxLen]; omega) (by omega) r3.size ?_
      intro v4 w3_4 own4 on4
      have s4 : Below W.heap.size w3_3 w3_4 := on4.below r3.size (own_block own3)
      have r4 := r3.trans s4
      have z4 := on4.size
      rw [← fv_append] at own4
      obtain ⟨A37, c37, rfl, hc37, -, hs37⟩ := own_open own4
      refine hK.out _ _ ?_ ?_
      · (exact hX8.below r4 (by omega))
      clear hK K hHeld; intro hHeld
      try simp only [Act.put, List.setIfInBounds_toArray, List.set_cons_zero, List.set_cons_succ]
      refine wpAnyH_ready (rs := [6]) (by kernel_rfl) (by simp) ?_
      refine AllReadyH.cons (o := { dst := some 38, op := Op.call { callee := Callee.value (Operand.func 16), args := #[Operand.tmp 37], argTypes := #[22] }, type := 3, pos := "law.go:113", after := #[{ on := 5, ground := Ground.data }, { on := 5, ground := Ground.chain }], guard := none }) rfl (fun K hK => ?_) AllReadyH.nil
      go_simp
      refine (Exact_at A37 (n + 1) c37 (fs ++ [⟨⟨#[106, 111, 98]⟩, ⟨#[120]⟩, false, false⟩]) (by rw [List.length_append, HN.out]; rfl) (n : Int) HZ1.out _ hs37 (by omega)).mono ?_
      rintro en w3_5 ⟨rfl, hb5⟩
      have r5 := r4.trans (hb5.mono r4.size)
      go_wp2_with fail
      refine hK.out _ _ ?_ ?_
      · (exact hX8.below r5 (by omega))
      clear hK K hHeld; intro hHeld
      try simp only [Act.put, List.setIfInBounds_toArray, List.set_cons_zero, List.set_cons_succ]
      refine wpAnyH_take (i := 9) (oi := { dst := some 41, op := Op.binOp BinOp.eql 3 (Operand.tmp 38) (Operand.tmp 40) 3, type := 4, pos := "law.go:113", after := #[{ on := 6, ground := Ground.data }, { on := 8, ground := Ground.data }], guard := none }) (v := ?_) rfl (by kernel_rfl) (by kernel_rfl) (by kernel_rfl) (fun _ _ _ h => h) (Or.inl ⟨by rfl, ?_⟩) hHeld ?_
      rotate_left
      · (intro w' hSw; (try dsimp only at hSw); go_split_ands; go_simp; first | done | with_reducible rfl)
      try simp only [Act.put, List.setIfInBounds_toArray, List.set_cons_zero, List.set_cons_succ]
      refine wpAnyH_take (i := 10) (oi := { dst := some 4, op := Op.assign (Operand.tmp 41), type := 4, pos := "law.go:113", after := #[{ on := 9, ground := Ground.data }, { on := 6, ground := Ground.chain }, { on := 0, ground := Ground.phase }, { on := 1, ground := Ground.phase }, { on := 2, ground := Ground.phase }, { on := 3, ground := Ground.phase }, { on := 4, ground := Ground.phase }, { on := 5, ground := Ground.phase }, { on := 6, ground := Ground.phase }, { on := 7, ground := Ground.phase }, { on := 8, ground := Ground.phase }, { on := 9, ground := Ground.phase }], guard := none }) (v := ?_) rfl (by kernel_rfl) (by kernel_rfl) (by kernel_rfl) (fun _ _ _ h => h) (Or.inl ⟨by rfl, ?_⟩) hHeld ?_
      rotate_left
      · (intro w' hSw; (try dsimp only at hSw); go_split_ands; go_simp; first | done | with_reducible rfl)
      try simp only [Act.put, List.setIfInBounds_toArray, List.set_cons_zero, List.set_cons_succ]
      refine wpAnyH_done (by kernel_rfl) ?_ _
      refine NoPanic.normal ?_
      go_wp2
      go_ret
      exact ⟨ret_true (by simp), hfin.trans (r5.mono hfin.size)⟩
    refine AllReadyH.cons (o := { dst := some 36, op := Op.buildSlice 22 1 #[(0, Operand.tmp 35)], type := 22, pos := "law.go:113", after := #[{ on := 3, ground := Ground.data }], guard := none }) rfl (fun K hK => ?_) AllReadyH.nil
    go_simp
    refine hK.out _ _ ?_ ?_
    · (exact hX8.below (r1.alloc r1.size _) (by omega))
    clear hK K hHeld; intro hHeld
    try simp only [Act.put, List.setIfInBounds_toArray, List.set_cons_zero, List.set_cons_succ]
    have see2 := (sees_cells w3_1 _ rfl #[.string ⟨#[106, 111, 98]⟩, .string ⟨#[120]⟩, .bool false, .bool false] 28 (fv [⟨⟨#[106, 111, 98]⟩, ⟨#[120]⟩, false, false⟩]) (by simp [fv])).more (show _ ≤ (w3_1.alloc (.cells #[.string ⟨#[106, 111, 98]⟩, .string ⟨#[120]⟩, .bool false, .bool false] 28)).heap.size from by simp)
    have s2 : Below w3_1.heap.size w3_1 (w3_1.alloc (.cells #[.string ⟨#[106, 111, 98]⟩, .string ⟨#[120]⟩, .bool false, .bool false] 28)) := (Below.refl _ _).alloc (Nat.le_refl _) _
    have z2 : w3_1.heap.size < (w3_1.alloc (.cells #[.string ⟨#[106, 111, 98]⟩, .string ⟨#[120]⟩, .bool false, .bool false] 28)).heap.size := by simp
    generalize (w3_1.alloc (.cells #[.string ⟨#[106, 111, 98]⟩, .string ⟨#[120]⟩, .bool false, .bool false] 28)) = w3_2 at hHeld s2 z2 see2 ⊢
    have r2 := r1.trans (s2.mono r1.size)
    have own2 := own_below own1 s2
    refine wpAnyH_ready (rs := [2]) (by kernel_rfl) (by simp) ?_
    refine AllReadyH.cons (o := { dst := some 34, op := Op.call { callee := Callee.builtin Builtin.append, args := #[Operand.tmp 32, Operand.tmp 33], argTypes := #[22, 22] }, type := 22, pos := "law.go:113", after := #[{ on := 0, ground := Ground.data }, { on := 1, ground := Ground.data }], guard := none }) rfl (fun K hK => ?_) AllReadyH.nil
    refine step_append_v (by rfl) (.tmp 32) (.tmp 33) _ (by rfl) 28 i0 _ 4 40 Tryd.underlying22 hi0 hz0 hz1 hz2 rfl (by omega) W.heap.size (.slice (some ⟨w3_0.heap.size, 0, none⟩) 0 0) _ _ (by rfl) own2 _ A n c (fv fs) (by rfl) (by rw [fv_length, HN.out]; omega) (hS3.below (r2.mono hs3)) (fv_one _) (by simp only [maxLen]; omega) (by omega) r2.size ?_
    intro v3 w3_3 own3 on3
    have s3 : Below W.heap.size w3_2 w3_3 := on3.below r2.size (own_block own2)
    have r3 := r2.trans s3
    have z3 := on3.size
    rw [Nat.zero_add, List.nil_append] at own3
    have see3 := see2.apart on3.grown (by intro k hk; simp [Value.ownBlock] at hk; omega)
    refine hK.out _ _ ?_ ?_
    · (exact hX8.below r3 (by omega))
    clear hK K hHeld; intro hHeld
    try simp only [Act.put, List.setIfInBounds_toArray, List.set_cons_zero, List.set_cons_succ]
    refine wpAnyH_ready (rs := [5]) (by kernel_rfl) (by simp) ?_
    refine AllReadyH.cons (o := { dst := some 37, op := Op.call { callee := Callee.builtin Builtin.append, args := #[Operand.tmp 34, Operand.tmp 36], argTypes := #[22, 22] }, type := 22, pos := "law.go:113", after := #[{ on := 2, ground := Ground.data }, { on := 4, ground := Ground.data }, { on := 2, ground := Ground.chain }], guard := none }) rfl (fun K hK => ?_) AllReadyH.nil
    refine step_append_v (by rfl) (.tmp 34) (.tmp 36) _ (by rfl) 28 i0 _ 4 40 Tryd.underlying22 hi0 hz0 hz1 hz2 rfl (by omega) W.heap.size v3 _ _ (by rfl) own3 _ (some ⟨w3_1.heap.size, 0, none⟩) 1 1 _ (by rfl) rfl (see3) (fv_one _) (by simp only [maxLen]; omega) (by omega) r3.size ?_
    intro v4 w3_4 own4 on4
    have s4 : Below W.heap.size w3_3 w3_4 := on4.below r3.size (own_block own3)
    have r4 := r3.trans s4
    have z4 := on4.size
    rw [← fv_append] at own4
    obtain ⟨A37, c37, rfl, hc37, -, hs37⟩ := own_open own4
    refine hK.out _ _ ?_ ?_
    · (exact hX8.below r4 (by omega))
    clear hK K hHeld; intro hHeld
    try simp only [Act.put, List.setIfInBounds_toArray, List.set_cons_zero, List.set_cons_succ]
    refine wpAnyH_ready (rs := [6]) (by kernel_rfl) (by simp) ?_
    refine AllReadyH.cons (o := { dst := some 38, op := Op.call { callee := Callee.value (Operand.func 16), args := #[Operand.tmp 37], argTypes := #[22] }, type := 3, pos := "law.go:113", after := #[{ on := 5, ground := Ground.data }, { on := 5, ground := Ground.chain }], guard := none }) rfl (fun K hK => ?_) AllReadyH.nil
    go_simp
    refine (Exact_at A37 (n + 1) c37 (fs ++ [⟨⟨#[106, 111, 98]⟩, ⟨#[120]⟩, false, false⟩]) (by rw [List.length_append, HN.out]; rfl) (n : Int) HZ1.out _ hs37 (by omega)).mono ?_
    rintro en w3_5 ⟨rfl, hb5⟩
    have r5 := r4.trans (hb5.mono r4.size)
    go_wp2_with fail
    refine hK.out _ _ ?_ ?_
    · (exact hX8.below r5 (by omega))
    clear hK K hHeld; intro hHeld
    try simp only [Act.put, List.setIfInBounds_toArray, List.set_cons_zero, List.set_cons_succ]
    refine wpAnyH_take (i := 9) (oi := { dst := some 41, op := Op.binOp BinOp.eql 3 (Operand.tmp 38) (Operand.tmp 40) 3, type := 4, pos := "law.go:113", after := #[{ on := 6, ground := Ground.data }, { on := 8, ground := Ground.data }], guard := none }) (v := ?_) rfl (by kernel_rfl) (by kernel_rfl) (by kernel_rfl) (fun _ _ _ h => h) (Or.inl ⟨by rfl, ?_⟩) hHeld ?_
    rotate_left
    · (intro w' hSw; (try dsimp only at hSw); go_split_ands; go_simp; first | done | with_reducible rfl)
    try simp only [Act.put, List.setIfInBounds_toArray, List.set_cons_zero, List.set_cons_succ]
    refine wpAnyH_take (i := 10) (oi := { dst := some 4, op := Op.assign (Operand.tmp 41), type := 4, pos := "law.go:113", after := #[{ on := 9, ground := Ground.data }, { on := 6, ground := Ground.chain }, { on := 0, ground := Ground.phase }, { on := 1, ground := Ground.phase }, { on := 2, ground := Ground.phase }, { on := 3, ground := Ground.phase }, { on := 4, ground := Ground.phase }, { on := 5, ground := Ground.phase }, { on := 6, ground := Ground.phase }, { on := 7, ground := Ground.phase }, { on := 8, ground := Ground.phase }, { on := 9, ground := Ground.phase }], guard := none }) (v := ?_) rfl (by kernel_rfl) (by kernel_rfl) (by kernel_rfl) (fun _ _ _ h => h) (Or.inl ⟨by rfl, ?_⟩) hHeld ?_
    rotate_left
    · (intro w' hSw; (try dsimp only at hSw); go_split_ands; go_simp; first | done | with_reducible rfl)
    try simp only [Act.put, List.setIfInBounds_toArray, List.set_cons_zero, List.set_cons_succ]
    refine wpAnyH_done (by kernel_rfl) ?_ _
    refine NoPanic.normal ?_
    go_wp2
    go_ret
    exact ⟨ret_true (by simp), hfin.trans (r5.mono hfin.size)⟩
  refine AllReadyH.cons (o := { dst := some 36, op := Op.buildSlice 22 1 #[(0, Operand.tmp 35)], type := 22, pos := "law.go:113", after := #[{ on := 3, ground := Ground.data }], guard := none }) rfl (fun K hK => ?_) AllReadyH.nil
  go_simp
  refine hK.out _ _ ?_ ?_
  · (exact hX8.below (r0.alloc r0.size _) (by omega))
  clear hK K hHeld; intro hHeld
  try simp only [Act.put, List.setIfInBounds_toArray, List.set_cons_zero, List.set_cons_succ]
  have see1 := (sees_cells w3_0 _ rfl #[.string ⟨#[106, 111, 98]⟩, .string ⟨#[120]⟩, .bool false, .bool false] 28 (fv [⟨⟨#[106, 111, 98]⟩, ⟨#[120]⟩, false, false⟩]) (by simp [fv])).more (show _ ≤ (w3_0.alloc (.cells #[.string ⟨#[106, 111, 98]⟩, .string ⟨#[120]⟩, .bool false, .bool false] 28)).heap.size from by simp)
  have s1 : Below w3_0.heap.size w3_0 (w3_0.alloc (.cells #[.string ⟨#[106, 111, 98]⟩, .string ⟨#[120]⟩, .bool false, .bool false] 28)) := (Below.refl _ _).alloc (Nat.le_refl _) _
  have z1 : w3_0.heap.size < (w3_0.alloc (.cells #[.string ⟨#[106, 111, 98]⟩, .string ⟨#[120]⟩, .bool false, .bool false] 28)).heap.size := by simp
  generalize (w3_0.alloc (.cells #[.string ⟨#[106, 111, 98]⟩, .string ⟨#[120]⟩, .bool false, .bool false] 28)) = w3_1 at hHeld s1 z1 see1 ⊢
  have r1 := r0.trans (s1.mono r0.size)
  refine wpAnyH_ready (rs := [0]) (by kernel_rfl) (by simp) ?_
  refine AllReadyH.cons (o := { dst := some 32, op := Op.buildSlice 22 0 #[], type := 22, pos := "law.go:113", after := #[], guard := none }) rfl (fun K hK => ?_) AllReadyH.nil
  go_simp
  refine hK.out _ _ ?_ ?_
  · (exact hX8.below (r1.alloc r1.size _) (by omega))
  clear hK K hHeld; intro hHeld
  try simp only [Act.put, List.setIfInBounds_toArray, List.set_cons_zero, List.set_cons_succ]
  have own2 := own_new w3_1 W.heap.size r1.size 28 4 0 [] rfl (by simp [maxLen]) #[] rfl
  have s2 : Below w3_1.heap.size w3_1 (w3_1.alloc (.cells #[] 28)) := (Below.refl _ _).alloc (Nat.le_refl _) _
  have z2 : w3_1.heap.size < (w3_1.alloc (.cells #[] 28)).heap.size := by simp
  generalize (w3_1.alloc (.cells #[] 28)) = w3_2 at hHeld s2 z2 own2 ⊢
  have r2 := r1.trans (s2.mono r1.size)
  have see2 := (see1.below s2).more s2.size
  refine wpAnyH_ready (rs := [2]) (by kernel_rfl) (by simp) ?_
  refine AllReadyH.cons (o := { dst := some 34, op := Op.call { callee := Callee.builtin Builtin.append, args := #[Operand.tmp 32, Operand.tmp 33], argTypes := #[22, 22] }, type := 22, pos := "law.go:113", after := #[{ on := 0, ground := Ground.data }, { on := 1, ground := Ground.data }], guard := none }) rfl (fun K hK => ?_) AllReadyH.nil
  refine step_append_v (by rfl) (.tmp 32) (.tmp 33) _ (by rfl) 28 i0 _ 4 40 Tryd.underlying22 hi0 hz0 hz1 hz2 rfl (by omega) W.heap.size (.slice (some ⟨w3_1.heap.size, 0, none⟩) 0 0) _ _ (by rfl) own2 _ A n c (fv fs) (by rfl) (by rw [fv_length, HN.out]; omega) (hS3.below (r2.mono hs3)) (fv_one _) (by simp only [maxLen]; omega) (by omega) r2.size ?_
  intro v3 w3_3 own3 on3
  have s3 : Below W.heap.size w3_2 w3_3 := on3.below r2.size (own_block own2)
  have r3 := r2.trans s3
  have z3 := on3.size
  rw [Nat.zero_add, List.nil_append] at own3
  have see3 := see2.apart on3.grown (by intro k hk; simp [Value.ownBlock] at hk; omega)
  refine hK.out _ _ ?_ ?_
  · (exact hX8.below r3 (by omega))
  clear hK K hHeld; intro hHeld
  try simp only [Act.put, List.setIfInBounds_toArray, List.set_cons_zero, List.set_cons_succ]
  refine wpAnyH_ready (rs := [5]) (by kernel_rfl) (by simp) ?_
  refine AllReadyH.cons (o := { dst := some 37, op := Op.call { callee := Callee.builtin Builtin.append, args := #[Operand.tmp 34, Operand.tmp 36], argTypes := #[22, 22] }, type := 22, pos := "law.go:113", after := #[{ on := 2, ground := Ground.data }, { on := 4, ground := Ground.data }, { on := 2, ground := Ground.chain }], guard := none }) rfl (fun K hK => ?_) AllReadyH.nil
  refine step_append_v (by rfl) (.tmp 34) (.tmp 36) _ (by rfl) 28 i0 _ 4 40 Tryd.underlying22 hi0 hz0 hz1 hz2 rfl (by omega) W.heap.size v3 _ _ (by rfl) own3 _ (some ⟨w3_0.heap.size, 0, none⟩) 1 1 _ (by rfl) rfl (see3) (fv_one _) (by simp only [maxLen]; omega) (by omega) r3.size ?_
  intro v4 w3_4 own4 on4
  have s4 : Below W.heap.size w3_3 w3_4 := on4.below r3.size (own_block own3)
  have r4 := r3.trans s4
  have z4 := on4.size
  rw [← fv_append] at own4
  obtain ⟨A37, c37, rfl, hc37, -, hs37⟩ := own_open own4
  refine hK.out _ _ ?_ ?_
  · (exact hX8.below r4 (by omega))
  clear hK K hHeld; intro hHeld
  try simp only [Act.put, List.setIfInBounds_toArray, List.set_cons_zero, List.set_cons_succ]
  refine wpAnyH_ready (rs := [6]) (by kernel_rfl) (by simp) ?_
  refine AllReadyH.cons (o := { dst := some 38, op := Op.call { callee := Callee.value (Operand.func 16), args := #[Operand.tmp 37], argTypes := #[22] }, type := 3, pos := "law.go:113", after := #[{ on := 5, ground := Ground.data }, { on := 5, ground := Ground.chain }], guard := none }) rfl (fun K hK => ?_) AllReadyH.nil
  go_simp
  refine (Exact_at A37 (n + 1) c37 (fs ++ [⟨⟨#[106, 111, 98]⟩, ⟨#[120]⟩, false, false⟩]) (by rw [List.length_append, HN.out]; rfl) (n : Int) HZ1.out _ hs37 (by omega)).mono ?_
  rintro en w3_5 ⟨rfl, hb5⟩
  have r5 := r4.trans (hb5.mono r4.size)
  go_wp2_with fail
  refine hK.out _ _ ?_ ?_
  · (exact hX8.below r5 (by omega))
  clear hK K hHeld; intro hHeld
  try simp only [Act.put, List.setIfInBounds_toArray, List.set_cons_zero, List.set_cons_succ]
  refine wpAnyH_take (i := 9) (oi := { dst := some 41, op := Op.binOp BinOp.eql 3 (Operand.tmp 38) (Operand.tmp 40) 3, type := 4, pos := "law.go:113", after := #[{ on := 6, ground := Ground.data }, { on := 8, ground := Ground.data }], guard := none }) (v := ?_) rfl (by kernel_rfl) (by kernel_rfl) (by kernel_rfl) (fun _ _ _ h => h) (Or.inl ⟨by rfl, ?_⟩) hHeld ?_
  rotate_left
  · (intro w' hSw; (try dsimp only at hSw); go_split_ands; go_simp; first | done | with_reducible rfl)
  try simp only [Act.put, List.setIfInBounds_toArray, List.set_cons_zero, List.set_cons_succ]
  refine wpAnyH_take (i := 10) (oi := { dst := some 4, op := Op.assign (Operand.tmp 41), type := 4, pos := "law.go:113", after := #[{ on := 9, ground := Ground.data }, { on := 6, ground := Ground.chain }, { on := 0, ground := Ground.phase }, { on := 1, ground := Ground.phase }, { on := 2, ground := Ground.phase }, { on := 3, ground := Ground.phase }, { on := 4, ground := Ground.phase }, { on := 5, ground := Ground.phase }, { on := 6, ground := Ground.phase }, { on := 7, ground := Ground.phase }, { on := 8, ground := Ground.phase }, { on := 9, ground := Ground.phase }], guard := none }) (v := ?_) rfl (by kernel_rfl) (by kernel_rfl) (by kernel_rfl) (fun _ _ _ h => h) (Or.inl ⟨by rfl, ?_⟩) hHeld ?_
  rotate_left
  · (intro w' hSw; (try dsimp only at hSw); go_split_ands; go_simp; first | done | with_reducible rfl)
  try simp only [Act.put, List.setIfInBounds_toArray, List.set_cons_zero, List.set_cons_succ]
  refine wpAnyH_done (by kernel_rfl) ?_ _
  refine NoPanic.normal ?_
  go_wp2
  go_ret
  exact ⟨ret_true (by simp), hfin.trans (r5.mono hfin.size)⟩

/-- What the loop over the labels keeps. -/
def HasRel (x : Flt) (ls : List Lb) (X : Bool) (hb : Bool) (k : Nat) : Prop := X = (hb || hasL x (ls.drop k))

set_option maxRecDepth 100000 in
set_option maxHeartbeats 3200000 in
theorem FilterExact_some (A : Option Addr) (n c : Nat) (fs : List Flt) (hn : fs.length = n) (hnc : n ≤ c) (B : Option Addr) (m d : Nat) (ls : List Lb) (hm : ls.length = m) (hf : fewB fs ls = true) (k : Nat) (hk : exactN fs = k) (hkn : k < n) (w : World) (hS : Sees w w.heap.size A (fv fs)) (hT : Sees w w.heap.size B (lv ls)) :
    Calls Tryd.prog 6 #[.slice A n c, .slice B m d] w (IsTrue w) := by
  have hnot : ∀ (x : Bool) (w : World), (Op.unary .not (.bool x)).run Tryd.prog w = .ok (.bool (!x)) w := fun _ _ => rfl
  obtain ⟨h10, k10, hfs, hls⟩ := few_yes hf
  have hn10 : n ≤ 10 := by omega
  have hm10 : m ≤ 10 := by omega
  have hE : exactZ fs = (k : Int) := by unfold exactZ; rw [hk, if_pos (by omega)]
  have hE1 : exactZ (fs.take k) = -1 := by
    have := exactN_take fs k (by omega)
    unfold exactZ
    rw [if_neg (by rw [this, List.length_take]; omega)]
  have hE2 : exactZ (fs.drop k) = 0 := by
    have := exactN_drop fs (by omega)
    rw [hk] at this
    unfold exactZ
    rw [if_pos (by rw [this, List.length_drop]; omega), this]
    rfl
  have hE3 : ∀ x, (∃ h : k < fs.length, fs[k] = x) → allB fs ls = true → hasL x ls = true := by
    rintro x ⟨h, rfl⟩ ha
    subst hk
    exact exact_has (by omega) ha
  have HF := Lib.hid hf
  have HN := Lib.hid hn
  have HM := Lib.hid hm
  have HE := Lib.hid hE
  have HZ1 := Lib.hid hE1
  have HZ2 := Lib.hid hE2
  have HZ3 := Lib.hid hE3
  clear hn hm hf h10 k10 hfs hls hk hE hE1 hE2 hE3
  go_enter Tryd.func6, Tryd.ntmps6
  go_wp2_with fail
  refine (awake_any w).mono ?_
  rintro e w1 ⟨rfl, hb1⟩
  have hs1 := hb1.size
  have hFew := few_any A n c fs HN.out B m d ls HM.out w1 ((hS.below hb1).more hs1) ((hT.below hb1).more hs1)
  rw [HF.out] at hFew
  go_wp2_with fail
  refine hFew.mono ?_
  rintro e w2 ⟨rfl, rfl⟩
  clear hFew
  have hEx := Exact_any A n c fs HN.out w1 ((hS.below hb1).more hs1) (by omega)
  rw [HE.out] at hEx
  have HEx := Lib.hid hEx
  clear hEx
  go_wp2_with fail
  refine HEx.out.mono ?_
  rintro e w2 ⟨rfl, hb2⟩
  clear HEx
  have hb02 := hb1.trans (hb2.mono hs1)
  have hs2 := hb02.size
  have g1 : (-1 : Int) ≤ (k : Int) := by omega
  have g2 : (k : Int) < (n : Int) := by omega
  have g3 : (0 : Int) ≤ (k : Int) := by omega
  obtain ⟨ad, rfl, hadB, hc0, hc1, hc2, hc3⟩ := (hS.below hb02).fl (k := k) (by have := HN.out; omega)
  have hx : ∃ h : k < fs.length, fs[k] = fs[k] := ⟨by have := HN.out; omega, rfl⟩
  obtain ⟨x, hxx⟩ : ∃ x, fs[k]'(by have := HN.out; omega) = x := ⟨_, rfl⟩
  rw [hxx] at hc0 hc1 hc2 hc3
  have HX := Lib.hid (HZ3.out x ⟨by have := HN.out; omega, hxx⟩)
  obtain ⟨hh, hhh⟩ : ∃ hh, hasL x ls = hh := ⟨_, rfl⟩
  rw [hhh] at HX
  have HH := Lib.hid hhh
  clear hxx hx HZ3 hhh
  go_wp2_with fail
  go_loopg [9, 10] m (fun g h i wr => ∃ (j : Nat) (hb : Bool), j + g = m ∧ h = .bool hb ∧ i = .int .i64 j ∧ HasRel x ls hh hb j ∧ ∃ q, wr = w2.drewN q)
  case atStart => exact ⟨0, false, by omega, rfl, rfl, HH.out.symm, 0, rfl⟩
  case round =>
    obtain ⟨j, hb, hj, rfl, rfl, heq, q, rfl⟩ := hrel
    by_cases hlt : j < m
    · obtain ⟨ad2, rfl, hadB2, e0, e1⟩ := (hT.below hb02).lb (k := j) (by have := HM.out; omega)
      have hstep : Hid (hh = (hb || _)) := Eq.trans heq (congrArg (hb || ·) (hasL_at (x := x) (ls := ls) (k := j) (by have := HM.out; omega)))
      generalize ls[j]'(by have := HM.out; omega) = y at e0 e1 hstep
      obtain ⟨b1, hb1e⟩ : ∃ b1, (y.1.toList == x.name.toList) = b1 := ⟨_, rfl⟩
      obtain ⟨b2, hb2e⟩ : ∃ b2, (y.2.toList == x.value.toList) = b2 := ⟨_, rfl⟩
      rw [hb1e, hb2e] at hstep
      have hrel2 : HasRel x ls hh (hb || (b1 && b2)) (j + 1) := by
        show hh = _
        rw [hstep.out, Bool.or_assoc]
      clear heq hstep
      cases hb <;> cases b1
      all_goals
        go_wp2_with fail
        go_quiet (fail)
        go_wp2
        go_roundg (m - (j + 1))
        case measure => omega
        case rel => exact ⟨j + 1, _, by omega, rfl, by go_num, (by simpa using hrel2), _, rfl⟩
    · have HB : Hid (hh = hb) := by
        have h1 : hh = (hb || hasL x (ls.drop j)) := heq
        rw [hasL_end (by have := HM.out; omega), Bool.or_false] at h1
        exact h1
      clear heq
      have hS4 := ((hS.below hb02).more hs2)
      have hT4 := ((hT.below hb02).more hs2)
      have hck : (c = k) = False := by simp; omega
      have g5 : (k : Int) ≤ (c : Int) := by omega
      have hP1 := Lib.hid (Exact_at (some ad) k c (fs.take k) (by rw [List.length_take, HN.out]; omega) (-1) HZ1.out (w2.drewN q) (by rw [fv_take]; exact (hS4.drewN q).take _) (by omega))
      go_wp2_with fail
      refine hP1.out.mono ?_
      rintro e w3 ⟨rfl, hb3⟩
      clear hP1
      have r3 : Below w.heap.size w w3 := (below_d hb02 q).trans (hb3.mono hs2)
      have hP2 := Lib.hid (Exact_at (some (ad.add (k * 4))) (n - k) (c - k) (fs.drop k) (by rw [List.length_drop, HN.out]) 0 HZ2.out w3 (by rw [fv_drop, show 4 * k = k * 4 from Nat.mul_comm _ _]; exact ((hS.below r3).more r3.size).cut' (k * 4)) (by omega))
      go_wp2_with fail
      refine hP2.out.mono ?_
      rintro e w4 ⟨rfl, hb4⟩
      clear hP2
      have r4 : Below w.heap.size w w4 := r3.trans (hb4.mono r3.size)
      obtain ⟨al, hal⟩ : ∃ al, allB fs ls = al := ⟨_, rfl⟩
      rw [hal] at HX
      have hP3 := Lib.hid (All_at (some ad) n c fs HN.out B m d ls HM.out al hal w4 ((hS.below r4).more r4.size) ((hT.below r4).more r4.size) (by omega) (by omega))
      clear hal
      go_wp2_with fail
      refine hP3.out.mono ?_
      rintro e w5 ⟨rfl, hb5⟩
      have r5 : Below w.heap.size w w5 := r4.trans (hb5.mono r4.size)
      cases al with
      | false =>
        go_wp2
        go_ret
        exact ⟨rfl, r5⟩
      | true =>
        have hbt : Hid (hb = true) := by have := HX.out rfl; rw [HB.out] at this; exact this
        go_wp2
        go_ret
        exact ⟨ret_true (by simpa using hbt.out), r5⟩

set_option maxRecDepth 100000 in
set_option maxHeartbeats 800000 in
theorem FilterExact_any (A : Option Addr) (n c : Nat) (fs : List Flt) (hn : fs.length = n) (hnc : n ≤ c) (B : Option Addr) (m d : Nat) (ls : List Lb) (hm : ls.length = m) (w : World) (hS : Sees w w.heap.size A (fv fs)) (hT : Sees w w.heap.size B (lv ls)) :
    Calls Tryd.prog 6 #[.slice A n c, .slice B m d] w (IsTrue w) := by
  obtain ⟨b, hb⟩ : ∃ b, fewB fs ls = b := ⟨_, rfl⟩
  cases b with
  | true =>
    have hle := exactN_le fs
    by_cases hx : exactN fs = n
    · exact FilterExact_none A n c fs hn B m d ls hm hb hx w hS hT
    · exact FilterExact_some A n c fs hn hnc B m d ls hm hb _ rfl (by omega) w hS hT
  | false =>
    have hnot : ∀ (x : Bool) (w : World), (Op.unary .not (.bool x)).run Tryd.prog w = .ok (.bool (!x)) w := fun _ _ => rfl
    have hF := fun (w : World) (h : Sees w w.heap.size A (fv fs)) (h2 : Sees w w.heap.size B (lv ls)) => few_any A n c fs hn B m d ls hm w h h2
    rw [hb] at hF
    have HF := Lib.hid hF
    clear hn hm hb hF
    go_enter Tryd.func6, Tryd.ntmps6
    go_wp2_with fail
    refine (awake_any w).mono ?_
    rintro e w1 ⟨rfl, hb1⟩
    go_wp2_with fail
    refine (HF.out w1 ((hS.below hb1).more hb1.size) ((hT.below hb1).more hb1.size)).mono ?_
    rintro e w2 ⟨rfl, rfl⟩
    go_wp2_with fail
    go_ret
    exact ⟨rfl, hb1⟩

set_option maxRecDepth 100000 in
set_option maxHeartbeats 800000 in
theorem FilterAlls_any (A : Option Addr) (n c : Nat) (fs : List Flt) (hn : fs.length = n) (B : Option Addr) (m d : Nat) (ls : List Lb) (hm : ls.length = m) (w : World) (hS : Sees w w.heap.size A (fv fs)) (hT : Sees w w.heap.size B (lv ls)) :
    Calls Tryd.prog 3 #[.slice A n c, .slice B m d] w (IsTrue w) := by
  obtain ⟨b, hb⟩ : ∃ b, fewB fs ls = b := ⟨_, rfl⟩
  cases b with
  | true => exact FilterAlls_small A n c fs hn B m d ls hm hb w hS hT
  | false =>
    have hnot : ∀ (x : Bool) (w : World), (Op.unary .not (.bool x)).run Tryd.prog w = .ok (.bool (!x)) w := fun _ _ => rfl
    have hF := fun (w : World) (h : Sees w w.heap.size A (fv fs)) (h2 : Sees w w.heap.size B (lv ls)) => few_any A n c fs hn B m d ls hm w h h2
    rw [hb] at hF
    have HF := Lib.hid hF
    clear hn hm hb hF
    go_enter Tryd.func3, Tryd.ntmps3
    go_wp2_with fail
    refine (awake_any w).mono ?_
    rintro e w1 ⟨rfl, hb1⟩
    go_wp2_with fail
    refine (HF.out w1 ((hS.below hb1).more hb1.size) ((hT.below hb1).more hb1.size)).mono ?_
    rintro e w2 ⟨rfl, rfl⟩
    go_wp2_with fail
    go_ret
    exact ⟨rfl, hb1⟩

set_option maxRecDepth 100000 in
set_option maxHeartbeats 800000 in
theorem FilterNot_any (f : Flt) (B : Option Addr) (m d : Nat) (ls : List Lb) (hm : ls.length = m) (w : World) (hT : Sees w w.heap.size B (lv ls)) :
    Calls Tryd.prog 5 #[.agg #[.string f.name, .string f.value, .bool f.pre, .bool f.inv], .slice B m d] w (IsTrue w) := by
  obtain ⟨b, hb⟩ : ∃ b, fewB [f] ls = b := ⟨_, rfl⟩
  cases b with
  | true => exact FilterNot_small f B m d ls hm hb w hT
  | false =>
    obtain ⟨a, b, p, q⟩ := f
    simp only
    have hnot : ∀ (x : Bool) (w : World), (Op.unary .not (.bool x)).run Tryd.prog w = .ok (.bool (!x)) w := fun _ _ => rfl
    have hF := fun (A : Option Addr) (w : World) (h : Sees w w.heap.size A (fv [⟨a, b, p, q⟩])) (h2 : Sees w w.heap.size B (lv ls)) => few_any A 1 1 [⟨a, b, p, q⟩] rfl B m d ls hm w h h2
    rw [hb] at hF
    have HF := Lib.hid hF
    clear hm hb hF
    have hb0 : Below w.heap.size w (w.alloc (.cells #[.string a, .string b, .bool p, .bool q] 28)) := (Below.refl _ w).alloc (Nat.le_refl _) _
    have h4 := Four.new w _ rfl 28 (.string a) (.string b) (.bool p) (.bool q)
    have hz0 : w.heap.size < (w.alloc (.cells #[.string a, .string b, .bool p, .bool q] 28)).heap.size := by simp
    go_enter Tryd.func5, Tryd.ntmps5
    go_wp2_with fail
    refine (awake_any _).mono ?_
    rintro e w1 ⟨rfl, hb1⟩
    obtain ⟨c0, c1, c2, c3⟩ := h4.below hb1 (by omega)
    have hb01 := hb0.trans (hb1.mono hb0.size)
    clear h4
    go_wp2_with fail
    refine (HF.out (some ⟨w1.heap.size, 0, none⟩) (w1.alloc (.cells #[.string a, .string b, .bool p, .bool q] 28)) ((sees_cells w1 _ rfl _ _ (fv [⟨a, b, p, q⟩]) (by simp [fv])).more (by simp)) (((hT.below hb01).alloc hb01.size _).more (by have := hb01.size; simp; omega))).mono ?_
    rintro e w2 ⟨rfl, rfl⟩
    go_wp2_with fail
    go_ret
    exact ⟨rfl, hb01.alloc hb01.size _⟩
end Go.Proofs.YtpmjbpmdmbankaaDoor
