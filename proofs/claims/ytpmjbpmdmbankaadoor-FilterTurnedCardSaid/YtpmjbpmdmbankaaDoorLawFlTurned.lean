/-
  The law FilterTurned, walked: the order of filters plays no part; more of them let no more labels through.
-/
import Derived.Test.YtpmjbpmdmbankaaDoorLawFlExact
import Derived.Deep.DeepCutAuto
namespace Go.Proofs.YtpmjbpmdmbankaaDoor
open Go.RowKit

def turnedOf (fs : List Flt) : List Flt := fs.reverse.flatMap fun x => [x, x]
theorem turned_all (fs : List Flt) (ls : List Lb) : allB (turnedOf fs) ls = allB fs ls := by
  unfold allB turnedOf
  induction fs with
  | nil => rfl
  | cons x t ih =>
    rw [List.reverse_cons, List.flatMap_append, List.all_append, ih]
    simp only [List.flatMap_cons, List.flatMap_nil, List.append_nil, List.all_cons, List.all_nil]
    cases oneB x ls <;> cases (t.all fun f => oneB f ls) <;> rfl
theorem turned_at {fs : List Flt} {k : Nat} (h : k < fs.length) : turnedOf (fs.drop k) = turnedOf (fs.drop (k + 1)) ++ [fs[k], fs[k]] := by
  unfold turnedOf
  rw [List.drop_eq_getElem_cons h, List.reverse_cons, List.flatMap_append]
  rfl
theorem turned_len (fs : List Flt) : (turnedOf fs).length = 2 * fs.length := by
  unfold turnedOf
  induction fs with
  | nil => rfl
  | cons x t ih =>
    rw [List.reverse_cons, List.flatMap_append, List.length_append, ih]
    simp
    omega
theorem allB_snoc (fs : List Flt) (f : Flt) (ls : List Lb) : allB (fs ++ [f]) ls = (allB fs ls && oneB f ls) := by
  unfold allB
  rw [List.all_append]
  simp

set_option maxRecDepth 100000 in
set_option maxHeartbeats 6400000 in
theorem FilterTurned_any (A : Option Addr) (n c : Nat) (fs : List Flt) (hn : fs.length = n) (hbig : (n + 1) * 40 ≤ 140737488355328) (f : Flt) (B : Option Addr) (m d : Nat) (ls : List Lb) (hm : ls.length = m) (w : World) (hS : Sees w w.heap.size A (fv fs)) (hT : Sees w w.heap.size B (lv ls)) :
    Calls Tryd.prog 4 #[.slice A n c, .agg #[.string f.name, .string f.value, .bool f.pre, .bool f.inv], .slice B m d] w (IsTrue w) := by
  have hnot : ∀ (x : Bool) (w : World), (Op.unary .not (.bool x)).run Tryd.prog w = .ok (.bool (!x)) w := fun _ _ => rfl
  obtain ⟨i0, hi0, hz0, hz1, hz2⟩ := info_parts Tryd.finfo
  obtain ⟨fw, hfw⟩ : ∃ fw, fewB (fs ++ [f]) ls = fw := ⟨_, rfl⟩
  have HF := Lib.hid hfw
  have HN := Lib.hid hn
  have HM := Lib.hid hm
  clear hn hm hfw
  have hb0 : Below w.heap.size w (w.alloc (.cells #[.string f.name, .string f.value, .bool f.pre, .bool f.inv] 28)) := (Below.refl _ w).alloc (Nat.le_refl _) _
  have h4 := Four.new w _ rfl 28 (.string f.name) (.string f.value) (.bool f.pre) (.bool f.inv)
  have hzb : w.heap.size < (w.alloc (.cells #[.string f.name, .string f.value, .bool f.pre, .bool f.inv] 28)).heap.size := by simp
  go_enter Tryd.func4, Tryd.ntmps4
  go_wp2_with fail
  refine (awake_any _).mono ?_
  rintro e W ⟨rfl, hb1⟩
  have hX8 := h4.below hb1 (by omega)
  have hfin := hb0.trans (hb1.mono hb0.size)
  have hs3 : w.heap.size ≤ W.heap.size := hfin.size
  have hzW : w.heap.size < W.heap.size := Nat.lt_of_lt_of_le hzb hb1.size
  have hS3 := hS.below hfin
  have hT3 := hT.below hfin
  clear h4 hb0 hb1 hzb
  go_upto_region 4 with fail
  go_cut [8] from 16 to 25 (fun t wx => t = .bool fw ∧ Below W.heap.size W wx)
  case first =>
    refine wp_region_noPanic ?_
    refine wp_region_held_drew (S := fun w' => w'.cell? ⟨w.heap.size, 0, none⟩ = some (.string f.name) ∧ w'.cell? ⟨w.heap.size, 1, none⟩ = some (.string f.value) ∧ w'.cell? ⟨w.heap.size, 2, none⟩ = some (.bool f.pre) ∧ w'.cell? ⟨w.heap.size, 3, none⟩ = some (.bool f.inv)) (by kernel_rfl) ?_ (fun hHeld => ?_)
    · (exact hX8)
    have r0 : Below W.heap.size W W.drew := below_drew (Below.refl _ _)
    generalize W.drew = wz0 at r0 hHeld ⊢
    refine wpAnyH_take (i := 1) (oi := { dst := some 17, op := Op.move (Operand.tmp 0), type := 22, pos := "law.go:62", after := #[], guard := none }) (v := ?_) rfl (by kernel_rfl) (by kernel_rfl) (by kernel_rfl) (fun _ _ _ h => h) (Or.inl ⟨by rfl, ?_⟩) hHeld ?_
    rotate_left
    · (intro w' hSw; (try dsimp only at hSw); go_split_ands; go_simp; first | done | with_reducible rfl)
    try simp only [Act.put, List.setIfInBounds_toArray, List.set_cons_zero, List.set_cons_succ]
    refine wpAnyH_take (i := 3) (oi := { dst := some 19, op := Op.load 28 (Operand.tmp 4), type := 28, pos := "law.go:62", after := #[], guard := none }) (v := ?_) rfl (by kernel_rfl) (by kernel_rfl) (by kernel_rfl) (fun _ _ _ h => h) (Or.inl ⟨by rfl, ?_⟩) hHeld ?_
    rotate_left
    · (intro w' hSw; (try dsimp only at hSw); go_split_ands; go_simp; first | done | with_reducible rfl)
    try simp only [Act.put, List.setIfInBounds_toArray, List.set_cons_zero, List.set_cons_succ]
    refine wpAnyH_take (i := 6) (oi := { dst := some 22, op := Op.move (Operand.tmp 2), type := 23, pos := "law.go:62", after := #[], guard := none }) (v := ?_) rfl (by kernel_rfl) (by kernel_rfl) (by kernel_rfl) (fun _ _ _ h => h) (Or.inl ⟨by rfl, ?_⟩) hHeld ?_
    rotate_left
    · (intro w' hSw; (try dsimp only at hSw); go_split_ands; go_simp; first | done | with_reducible rfl)
    try simp only [Act.put, List.setIfInBounds_toArray, List.set_cons_zero, List.set_cons_succ]
    refine wpAnyH_ready (rs := [0, 4]) (by kernel_rfl) (by simp) ?_
    refine AllReadyH.cons (o := { dst := some 16, op := Op.buildSlice 22 0 #[], type := 22, pos := "law.go:62", after := #[], guard := none }) rfl (fun K hK => ?_) ?_
    · go_simp
      refine hK.out _ _ ?_ ?_
      · (exact hX8.below (r0.alloc r0.size _) (by omega))
      clear hK K hHeld; intro hHeld
      try simp only [Act.put, List.setIfInBounds_toArray, List.set_cons_zero, List.set_cons_succ]
      have own1 := own_new wz0 W.heap.size r0.size 28 4 0 [] rfl (by simp [maxLen]) #[] rfl
      have s1 : Below wz0.heap.size wz0 (wz0.alloc (.cells #[] 28)) := (Below.refl _ _).alloc (Nat.le_refl _) _
      have z1 : wz0.heap.size < (wz0.alloc (.cells #[] 28)).heap.size := by simp
      generalize (wz0.alloc (.cells #[] 28)) = wz1 at hHeld s1 z1 own1 ⊢
      have r1 := r0.trans (s1.mono r0.size)
      refine wpAnyH_ready (rs := [2, 4]) (by kernel_rfl) (by simp) ?_
      refine AllReadyH.cons (o := { dst := some 18, op := Op.call { callee := Callee.builtin Builtin.append, args := #[Operand.tmp 16, Operand.tmp 17], argTypes := #[22, 22] }, type := 22, pos := "law.go:62", after := #[{ on := 0, ground := Ground.data }, { on := 1, ground := Ground.data }], guard := none }) rfl (fun K hK => ?_) ?_
      · refine step_append_v (by rfl) (.tmp 16) (.tmp 17) _ (by rfl) 28 i0 _ 4 40 Tryd.underlying22 hi0 hz0 hz1 hz2 rfl (by omega) W.heap.size (.slice (some ⟨wz0.heap.size, 0, none⟩) 0 0) _ _ (by rfl) own1 _ A n c (fv fs) (by rfl) (by rw [fv_length, HN.out]; omega) (hS3.below (r1.mono hs3)) (fv_one _) (by simp only [maxLen]; omega) (by omega) r1.size ?_
        intro v2 wz2 own2 on2
        have s2 : Below W.heap.size wz1 wz2 := on2.below r1.size (own_block own1)
        have r2 := r1.trans s2
        have z2 := on2.size
        rw [Nat.zero_add, List.nil_append] at own2
        refine hK.out _ _ ?_ ?_
        · (exact hX8.below r2 (by omega))
        clear hK K hHeld; intro hHeld
        try simp only [Act.put, List.setIfInBounds_toArray, List.set_cons_zero, List.set_cons_succ]
        refine wpAnyH_ready (rs := [4]) (by kernel_rfl) (by simp) ?_
        refine AllReadyH.cons (o := { dst := some 20, op := Op.buildSlice 22 1 #[(0, Operand.tmp 19)], type := 22, pos := "law.go:62", after := #[{ on := 3, ground := Ground.data }], guard := none }) rfl (fun K hK => ?_) AllReadyH.nil
        go_simp
        refine hK.out _ _ ?_ ?_
        · (exact hX8.below (r2.alloc r2.size _) (by omega))
        clear hK K hHeld; intro hHeld
        try simp only [Act.put, List.setIfInBounds_toArray, List.set_cons_zero, List.set_cons_succ]
        have see3 := (sees_cells wz2 _ rfl #[.string f.name, .string f.value, .bool f.pre, .bool f.inv] 28 (fv [f]) (by simp [fv])).more (show _ ≤ (wz2.alloc (.cells #[.string f.name, .string f.value, .bool f.pre, .bool f.inv] 28)).heap.size from by simp)
        have s3 : Below wz2.heap.size wz2 (wz2.alloc (.cells #[.string f.name, .string f.value, .bool f.pre, .bool f.inv] 28)) := (Below.refl _ _).alloc (Nat.le_refl _) _
        have z3 : wz2.heap.size < (wz2.alloc (.cells #[.string f.name, .string f.value, .bool f.pre, .bool f.inv] 28)).heap.size := by simp
        generalize (wz2.alloc (.cells #[.string f.name, .string f.value, .bool f.pre, .bool f.inv] 28)) = wz3 at hHeld s3 z3 see3 ⊢
        have r3 := r2.trans (s3.mono r2.size)
        have own3 := own_below own2 s3
        refine wpAnyH_ready (rs := [5]) (by kernel_rfl) (by simp) ?_
        refine AllReadyH.cons (o := { dst := some 21, op := Op.call { callee := Callee.builtin Builtin.append, args := #[Operand.tmp 18, Operand.tmp 20], argTypes := #[22, 22] }, type := 22, pos := "law.go:62", after := #[{ on := 2, ground := Ground.data }, { on := 4, ground := Ground.data }, { on := 2, ground := Ground.chain }], guard := none }) rfl (fun K hK => ?_) AllReadyH.nil
        refine step_append_v (by rfl) (.tmp 18) (.tmp 20) _ (by rfl) 28 i0 _ 4 40 Tryd.underlying22 hi0 hz0 hz1 hz2 rfl (by omega) W.heap.size v2 _ _ (by rfl) own3 _ (some ⟨wz2.heap.size, 0, none⟩) 1 1 _ (by rfl) rfl (see3) (fv_one _) (by simp only [maxLen]; omega) (by omega) r3.size ?_
        intro v4 wz4 own4 on4
        have s4 : Below W.heap.size wz3 wz4 := on4.below r3.size (own_block own3)
        have r4 := r3.trans s4
        have z4 := on4.size
        rw [← fv_append] at own4
        obtain ⟨A37, c37, rfl, hc37, -, hs37⟩ := own_open own4
        refine hK.out _ _ ?_ ?_
        · (exact hX8.below r4 (by omega))
        clear hK K hHeld; intro hHeld
        try simp only [Act.put, List.setIfInBounds_toArray, List.set_cons_zero, List.set_cons_succ]
        refine wpAnyH_ready (rs := [7]) (by kernel_rfl) (by simp) ?_
        refine AllReadyH.cons (o := { dst := some 23, op := Op.call { callee := Callee.value (Operand.func 9), args := #[Operand.tmp 21, Operand.tmp 22], argTypes := #[22, 23] }, type := 4, pos := "law.go:62", after := #[{ on := 5, ground := Ground.data }, { on := 6, ground := Ground.data }, { on := 5, ground := Ground.chain }], guard := none }) rfl (fun K hK => ?_) AllReadyH.nil
        go_simp
        refine (few_any A37 (n + 1) c37 (fs ++ [f]) (by rw [List.length_append, HN.out]; rfl) B m d ls HM.out _ hs37 ((hT3.below (r4.mono hs3)).more (Nat.le_trans hs3 r4.size))).mono ?_
        rw [HF.out]
        rintro en wz5 ⟨rfl, rfl⟩
        have r5 := r4
        go_wp2_with fail
        refine hK.out _ _ ?_ ?_
        · (exact hX8.below r5 (by omega))
        clear hK K hHeld; intro hHeld
        try simp only [Act.put, List.setIfInBounds_toArray, List.set_cons_zero, List.set_cons_succ]
        refine wpAnyH_take (i := 8) (oi := { dst := some 8, op := Op.assign (Operand.tmp 23), type := 4, pos := "law.go:62", after := #[{ on := 7, ground := Ground.data }, { on := 7, ground := Ground.chain }, { on := 0, ground := Ground.phase }, { on := 1, ground := Ground.phase }, { on := 2, ground := Ground.phase }, { on := 3, ground := Ground.phase }, { on := 4, ground := Ground.phase }, { on := 5, ground := Ground.phase }, { on := 6, ground := Ground.phase }, { on := 7, ground := Ground.phase }], guard := none }) (v := ?_) rfl (by kernel_rfl) (by kernel_rfl) (by kernel_rfl) (fun _ _ _ h => h) (Or.inl ⟨by rfl, ?_⟩) hHeld ?_
        rotate_left
        · (intro w' hSw; (try dsimp only at hSw); go_split_ands; go_simp; first | done | with_reducible rfl)
        try simp only [Act.put, List.setIfInBounds_toArray, List.set_cons_zero, List.set_cons_succ]
        refine wpAnyH_done (by kernel_rfl) ?_ _
        refine NoPanic.normal ?_
        go_wp2_with fail
        go_meet
        exact ⟨rfl, r5⟩
      refine AllReadyH.cons (o := { dst := some 20, op := Op.buildSlice 22 1 #[(0, Operand.tmp 19)], type := 22, pos := "law.go:62", after := #[{ on := 3, ground := Ground.data }], guard := none }) rfl (fun K hK => ?_) AllReadyH.nil
      go_simp
      refine hK.out _ _ ?_ ?_
      · (exact hX8.below (r1.alloc r1.size _) (by omega))
      clear hK K hHeld; intro hHeld
      try simp only [Act.put, List.setIfInBounds_toArray, List.set_cons_zero, List.set_cons_succ]
      have see2 := (sees_cells wz1 _ rfl #[.string f.name, .string f.value, .bool f.pre, .bool f.inv] 28 (fv [f]) (by simp [fv])).more (show _ ≤ (wz1.alloc (.cells #[.string f.name, .string f.value, .bool f.pre, .bool f.inv] 28)).heap.size from by simp)
      have s2 : Below wz1.heap.size wz1 (wz1.alloc (.cells #[.string f.name, .string f.value, .bool f.pre, .bool f.inv] 28)) := (Below.refl _ _).alloc (Nat.le_refl _) _
      have z2 : wz1.heap.size < (wz1.alloc (.cells #[.string f.name, .string f.value, .bool f.pre, .bool f.inv] 28)).heap.size := by simp
      generalize (wz1.alloc (.cells #[.string f.name, .string f.value, .bool f.pre, .bool f.inv] 28)) = wz2 at hHeld s2 z2 see2 ⊢
      have r2 := r1.trans (s2.mono r1.size)
      have own2 := own_below own1 s2
      refine wpAnyH_ready (rs := [2]) (by kernel_rfl) (by simp) ?_
      refine AllReadyH.cons (o := { dst := some 18, op := Op.call { callee := Callee.builtin Builtin.append, args := #[Operand.tmp 16, Operand.tmp 17], argTypes := #[22, 22] }, type := 22, pos := "law.go:62", after := #[{ on := 0, ground := Ground.data }, { on := 1, ground := Ground.data }], guard := none }) rfl (fun K hK => ?_) AllReadyH.nil
      refine step_append_v (by rfl) (.tmp 16) (.tmp 17) _ (by rfl) 28 i0 _ 4 40 Tryd.underlying22 hi0 hz0 hz1 hz2 rfl (by omega) W.heap.size (.slice (some ⟨wz0.heap.size, 0, none⟩) 0 0) _ _ (by rfl) own2 _ A n c (fv fs) (by rfl) (by rw [fv_length, HN.out]; omega) (hS3.below (r2.mono hs3)) (fv_one _) (by simp only [maxLen]; omega) (by omega) r2.size ?_
      intro v3 wz3 own3 on3
      have s3 : Below W.heap.size wz2 wz3 := on3.below r2.size (own_block own2)
      have r3 := r2.trans s3
      have z3 := on3.size
      rw [Nat.zero_add, List.nil_append] at own3
      have see3 := see2.apart on3.grown (by intro k hk; simp [Value.ownBlock] at hk; omega)
      refine hK.out _ _ ?_ ?_
      · (exact hX8.below r3 (by omega))
      clear hK K hHeld; intro hHeld
      try simp only [Act.put, List.setIfInBounds_toArray, List.set_cons_zero, List.set_cons_succ]
      refine wpAnyH_ready (rs := [5]) (by kernel_rfl) (by simp) ?_
      refine AllReadyH.cons (o := { dst := some 21, op := Op.call { callee := Callee.builtin Builtin.append, args := #[Operand.tmp 18, Operand.tmp 20], argTypes := #[22, 22] }, type := 22, pos := "law.go:62", after := #[{ on := 2, ground := Ground.data }, { on := 4, ground := Ground.data }, { on := 2, ground := Ground.chain }], guard := none }) rfl (fun K hK => ?_) AllReadyH.nil
      refine step_append_v (by rfl) (.tmp 18) (.tmp 20) _ (by rfl) 28 i0 _ 4 40 Tryd.underlying22 hi0 hz0 hz1 hz2 rfl (by omega) W.heap.size v3 _ _ (by rfl) own3 _ (some ⟨wz1.heap.size, 0, none⟩) 1 1 _ (by rfl) rfl (see3) (fv_one _) (by simp only [maxLen]; omega) (by omega) r3.size ?_
      intro v4 wz4 own4 on4
      have s4 : Below W.heap.size wz3 wz4 := on4.below r3.size (own_block own3)
      have r4 := r3.trans s4
      have z4 := on4.size
      rw [← fv_append] at own4
      obtain ⟨A37, c37, rfl, hc37, -, hs37⟩ := own_open own4
      refine hK.out _ _ ?_ ?_
      · (exact hX8.below r4 (by omega))
      clear hK K hHeld; intro hHeld
      try simp only [Act.put, List.setIfInBounds_toArray, List.set_cons_zero, List.set_cons_succ]
      refine wpAnyH_ready (rs := [7]) (by kernel_rfl) (by simp) ?_
      refine AllReadyH.cons (o := { dst := some 23, op := Op.call { callee := Callee.value (Operand.func 9), args := #[Operand.tmp 21, Operand.tmp 22], argTypes := #[22, 23] }, type := 4, pos := "law.go:62", after := #[{ on := 5, ground := Ground.data }, { on := 6, ground := Ground.data }, { on := 5, ground := Ground.chain }], guard := none }) rfl (fun K hK => ?_) AllReadyH.nil
      go_simp
      refine (few_any A37 (n + 1) c37 (fs ++ [f]) (by rw [List.length_append, HN.out]; rfl) B m d ls HM.out _ hs37 ((hT3.below (r4.mono hs3)).more (Nat.le_trans hs3 r4.size))).mono ?_
      rw [HF.out]
      rintro en wz5 ⟨rfl, rfl⟩
      have r5 := r4
      go_wp2_with fail
      refine hK.out _ _ ?_ ?_
      · (exact hX8.below r5 (by omega))
      clear hK K hHeld; intro hHeld
      try simp only [Act.put, List.setIfInBounds_toArray, List.set_cons_zero, List.set_cons_succ]
      refine wpAnyH_take (i := 8) (oi := { dst := some 8, op := Op.assign (Operand.tmp 23), type := 4, pos := "law.go:62", after := #[{ on := 7, ground := Ground.data }, { on := 7, ground := Ground.chain }, { on := 0, ground := Ground.phase }, { on := 1, ground := Ground.phase }, { on := 2, ground := Ground.phase }, { on := 3, ground := Ground.phase }, { on := 4, ground := Ground.phase }, { on := 5, ground := Ground.phase }, { on := 6, ground := Ground.phase }, { on := 7, ground := Ground.phase }], guard := none }) (v := ?_) rfl (by kernel_rfl) (by kernel_rfl) (by kernel_rfl) (fun _ _ _ h => h) (Or.inl ⟨by rfl, ?_⟩) hHeld ?_
      rotate_left
      · (intro w' hSw; (try dsimp only at hSw); go_split_ands; go_simp; first | done | with_reducible rfl)
      try simp only [Act.put, List.setIfInBounds_toArray, List.set_cons_zero, List.set_cons_succ]
      refine wpAnyH_done (by kernel_rfl) ?_ _
      refine NoPanic.normal ?_
      go_wp2_with fail
      go_meet
      exact ⟨rfl, r5⟩
    refine AllReadyH.cons (o := { dst := some 20, op := Op.buildSlice 22 1 #[(0, Operand.tmp 19)], type := 22, pos := "law.go:62", after := #[{ on := 3, ground := Ground.data }], guard := none }) rfl (fun K hK => ?_) AllReadyH.nil
    go_simp
    refine hK.out _ _ ?_ ?_
    · (exact hX8.below (r0.alloc r0.size _) (by omega))
    clear hK K hHeld; intro hHeld
    try simp only [Act.put, List.setIfInBounds_toArray, List.set_cons_zero, List.set_cons_succ]
    have see1 := (sees_cells wz0 _ rfl #[.string f.name, .string f.value, .bool f.pre, .bool f.inv] 28 (fv [f]) (by simp [fv])).more (show _ ≤ (wz0.alloc (.cells #[.string f.name, .string f.value, .bool f.pre, .bool f.inv] 28)).heap.size from by simp)
    have s1 : Below wz0.heap.size wz0 (wz0.alloc (.cells #[.string f.name, .string f.value, .bool f.pre, .bool f.inv] 28)) := (Below.refl _ _).alloc (Nat.le_refl _) _
    have z1 : wz0.heap.size < (wz0.alloc (.cells #[.string f.name, .string f.value, .bool f.pre, .bool f.inv] 28)).heap.size := by simp
    generalize (wz0.alloc (.cells #[.string f.name, .string f.value, .bool f.pre, .bool f.inv] 28)) = wz1 at hHeld s1 z1 see1 ⊢
    have r1 := r0.trans (s1.mono r0.size)
    refine wpAnyH_ready (rs := [0]) (by kernel_rfl) (by simp) ?_
    refine AllReadyH.cons (o := { dst := some 16, op := Op.buildSlice 22 0 #[], type := 22, pos := "law.go:62", after := #[], guard := none }) rfl (fun K hK => ?_) AllReadyH.nil
    go_simp
    refine hK.out _ _ ?_ ?_
    · (exact hX8.below (r1.alloc r1.size _) (by omega))
    clear hK K hHeld; intro hHeld
    try simp only [Act.put, List.setIfInBounds_toArray, List.set_cons_zero, List.set_cons_succ]
    have own2 := own_new wz1 W.heap.size r1.size 28 4 0 [] rfl (by simp [maxLen]) #[] rfl
    have s2 : Below wz1.heap.size wz1 (wz1.alloc (.cells #[] 28)) := (Below.refl _ _).alloc (Nat.le_refl _) _
    have z2 : wz1.heap.size < (wz1.alloc (.cells #[] 28)).heap.size := by simp
    generalize (wz1.alloc (.cells #[] 28)) = wz2 at hHeld s2 z2 own2 ⊢
    have r2 := r1.trans (s2.mono r1.size)
    have see2 := (see1.below s2).more s2.size
    refine wpAnyH_ready (rs := [2]) (by kernel_rfl) (by simp) ?_
    refine AllReadyH.cons (o := { dst := some 18, op := Op.call { callee := Callee.builtin Builtin.append, args := #[Operand.tmp 16, Operand.tmp 17], argTypes := #[22, 22] }, type := 22, pos := "law.go:62", after := #[{ on := 0, ground := Ground.data }, { on := 1, ground := Ground.data }], guard := none }) rfl (fun K hK => ?_) AllReadyH.nil
    refine step_append_v (by rfl) (.tmp 16) (.tmp 17) _ (by rfl) 28 i0 _ 4 40 Tryd.underlying22 hi0 hz0 hz1 hz2 rfl (by omega) W.heap.size (.slice (some ⟨wz1.heap.size, 0, none⟩) 0 0) _ _ (by rfl) own2 _ A n c (fv fs) (by rfl) (by rw [fv_length, HN.out]; omega) (hS3.below (r2.mono hs3)) (fv_one _) (by simp only [maxLen]; omega) (by omega) r2.size ?_
    intro v3 wz3 own3 on3
    have s3 : Below W.heap.size wz2 wz3 := on3.below r2.size (own_block own2)
    have r3 := r2.trans s3
    have z3 := on3.size
    rw [Nat.zero_add, List.nil_append] at own3
    have see3 := see2.apart on3.grown (by intro k hk; simp [Value.ownBlock] at hk; omega)
    refine hK.out _ _ ?_ ?_
    · (exact hX8.below r3 (by omega))
    clear hK K hHeld; intro hHeld
    try simp only [Act.put, List.setIfInBounds_toArray, List.set_cons_zero, List.set_cons_succ]
    refine wpAnyH_ready (rs := [5]) (by kernel_rfl) (by simp) ?_
    refine AllReadyH.cons (o := { dst := some 21, op := Op.call { callee := Callee.builtin Builtin.append, args := #[Operand.tmp 18, Operand.tmp 20], argTypes := #[22, 22] }, type := 22, pos := "law.go:62", after := #[{ on := 2, ground := Ground.data }, { on := 4, ground := Ground.data }, { on := 2, ground := Ground.chain }], guard := none }) rfl (fun K hK => ?_) AllReadyH.nil
    refine step_append_v (by rfl) (.tmp 18) (.tmp 20) _ (by rfl) 28 i0 _ 4 40 Tryd.underlying22 hi0 hz0 hz1 hz2 rfl (by omega) W.heap.size v3 _ _ (by rfl) own3 _ (some ⟨wz0.heap.size, 0, none⟩) 1 1 _ (by rfl) rfl (see3) (fv_one _) (by simp only [maxLen]; omega) (by omega) r3.size ?_
    intro v4 wz4 own4 on4
    have s4 : Below W.heap.size wz3 wz4 := on4.below r3.size (own_block own3)
    have r4 := r3.trans s4
    have z4 := on4.size
    rw [← fv_append] at own4
    obtain ⟨A37, c37, rfl, hc37, -, hs37⟩ := own_open own4
    refine hK.out _ _ ?_ ?_
    · (exact hX8.below r4 (by omega))
    clear hK K hHeld; intro hHeld
    try simp only [Act.put, List.setIfInBounds_toArray, List.set_cons_zero, List.set_cons_succ]
    refine wpAnyH_ready (rs := [7]) (by kernel_rfl) (by simp) ?_
    refine AllReadyH.cons (o := { dst := some 23, op := Op.call { callee := Callee.value (Operand.func 9), args := #[Operand.tmp 21, Operand.tmp 22], argTypes := #[22, 23] }, type := 4, pos := "law.go:62", after := #[{ on := 5, ground := Ground.data }, { on := 6, ground := Ground.data }, { on := 5, ground := Ground.chain }], guard := none }) rfl (fun K hK => ?_) AllReadyH.nil
    go_simp
    refine (few_any A37 (n + 1) c37 (fs ++ [f]) (by rw [List.length_append, HN.out]; rfl) B m d ls HM.out _ hs37 ((hT3.below (r4.mono hs3)).more (Nat.le_trans hs3 r4.size))).mono ?_
    rw [HF.out]
    rintro en wz5 ⟨rfl, rfl⟩
    have r5 := r4
    go_wp2_with fail
    refine hK.out _ _ ?_ ?_
    · (exact hX8.below r5 (by omega))
    clear hK K hHeld; intro hHeld
    try simp only [Act.put, List.setIfInBounds_toArray, List.set_cons_zero, List.set_cons_succ]
    refine wpAnyH_take (i := 8) (oi := { dst := some 8, op := Op.assign (Operand.tmp 23), type := 4, pos := "law.go:62", after := #[{ on := 7, ground := Ground.data }, { on := 7, ground := Ground.chain }, { on := 0, ground := Ground.phase }, { on := 1, ground := Ground.phase }, { on := 2, ground := Ground.phase }, { on := 3, ground := Ground.phase }, { on := 4, ground := Ground.phase }, { on := 5, ground := Ground.phase }, { on := 6, ground := Ground.phase }, { on := 7, ground := Ground.phase }], guard := none }) (v := ?_) rfl (by kernel_rfl) (by kernel_rfl) (by kernel_rfl) (fun _ _ _ h => h) (Or.inl ⟨by rfl, ?_⟩) hHeld ?_
    rotate_left
    · (intro w' hSw; (try dsimp only at hSw); go_split_ands; go_simp; first | done | with_reducible rfl)
    try simp only [Act.put, List.setIfInBounds_toArray, List.set_cons_zero, List.set_cons_succ]
    refine wpAnyH_done (by kernel_rfl) ?_ _
    refine NoPanic.normal ?_
    go_wp2_with fail
    go_meet
    exact ⟨rfl, r5⟩
  case rest =>
    obtain ⟨rfl, hbc⟩ := hcut
    cases fw with
    | false =>
      go_wp2_with fail
      go_ret
      exact ⟨rfl, hfin.trans (hbc.mono hs3)⟩
    | true =>
      obtain ⟨h10, k10, -, -⟩ := few_yes HF.out
      rw [List.length_append, HN.out] at h10
      have hn9 : n ≤ 9 := by simpa using h10
      have hm10 : m ≤ 10 := by have := HM.out; omega
      have hbW := hfin.trans (hbc.mono hs3)
      have hsW := hbW.size
      clear h10 k10
      have hsub : IntKind.i64.wrap ((n : Int) - 1) = (n : Int) - 1 := by rw [IntKind.wrap_i64]; omega
      go_wp2_with fail
      go_loopg [9, 10] n (fun g tv i wr => ∃ (k : Nat) (z : Int), k = g ∧ k ≤ n ∧ z = (k : Int) - 1 ∧ i = .int .i64 z ∧ wr.ownsRow wc.heap.size 28 4 tv (turnedOf (fs.drop k)).length (fv (turnedOf (fs.drop k))) ∧ Below wc.heap.size wc wr)
      case atStart => exact ⟨n, _, rfl, Nat.le_refl _, rfl, rfl, (by rw [List.drop_eq_nil_of_le (by have := HN.out; omega)]; exact World.ownsRow_nil _ _ _ 4), Below.refl _ _⟩
      case round =>
        obtain ⟨k, z, rfl, hkn, hz, rfl, hown, hbr⟩ := hrel
        have hbwr := hbW.trans (hbr.mono hsW)
        by_cases h0 : 0 < k
        · obtain ⟨j, rfl⟩ : ∃ j, k = j + 1 := ⟨k - 1, by omega⟩
          obtain rfl : z = (j : Int) := by omega
          clear hz
          have hjl : j < fs.length := by have := HN.out; omega
          have HT := Lib.hid (turned_at hjl)
          have hlen : (turnedOf (fs.drop (j + 1))).length ≤ 20 := by rw [turned_len, List.length_drop, HN.out]; omega
          obtain ⟨ad, rfl, hadB, hc0, hc1, hc2, hc3⟩ := (hS.below hbwr).fl (k := j) hjl
          generalize fs[j]'hjl = x at hc0 hc1 hc2 hc3 HT
          have hF : FourAt wr (ad.add (j * 4)) x := ⟨hc0, hc1, hc2, hc3⟩
          have hadl : (ad.add (j * 4)).block < wr.heap.size := by rw [add_block]; have := hbwr.size; omega
          have hadc : (ad.add (j * 4)).block < wc.heap.size := by rw [add_block]; omega
          generalize turnedOf (fs.drop (j + 1)) = tl at hown hlen HT
          have hjn : (j : Int) < (n : Int) := by omega
          have hj0 : (0 : Int) ≤ (j : Int) := by omega
          go_wp2_with fail
          refine wp_region_noPanic ?_
          refine wp_region_held_drew (S := fun w' => w'.cell? (ad.add (j * 4)) = some (.string x.name) ∧ w'.cell? ⟨(ad.add (j * 4)).block, (ad.add (j * 4)).off + 1, none⟩ = some (.string x.value) ∧ w'.cell? ⟨(ad.add (j * 4)).block, (ad.add (j * 4)).off + 2, none⟩ = some (.bool x.pre) ∧ w'.cell? ⟨(ad.add (j * 4)).block, (ad.add (j * 4)).off + 3, none⟩ = some (.bool x.inv)) (by kernel_rfl) ?_ (fun hHeld => ?_)
          · (exact ⟨hF.c0, hF.c1, hF.c2, hF.c3⟩)
          have r0 : Below wr.heap.size wr wr.drew := below_drew (Below.refl _ _)
          have own0 := own_below hown r0
          generalize wr.drew = wz0 at r0 hHeld own0 ⊢
          have hF0 := hF.below r0 hadl
          have hadz : (ad.add (j * 4)).block < wz0.heap.size := Nat.lt_of_lt_of_le hadl r0.size
          refine wpAnyH_take (i := 0) (oi := { dst := some 33, op := Op.move (Operand.tmp 9), type := 22, pos := "law.go:68", after := #[], guard := none }) (v := ?_) rfl (by kernel_rfl) (by kernel_rfl) (by kernel_rfl) (fun _ _ _ h => h) (Or.inl ⟨by rfl, ?_⟩) hHeld ?_
          rotate_left
          · (intro w' hSw; (try dsimp only at hSw); go_split_ands; go_simp; first | done | with_reducible rfl)
          try simp only [Act.put, List.setIfInBounds_toArray, List.set_cons_zero, List.set_cons_succ]
          refine wpAnyH_take (i := 1) (oi := { dst := some 34, op := Op.move (Operand.tmp 0), type := 22, pos := "law.go:68", after := #[], guard := none }) (v := ?_) rfl (by kernel_rfl) (by kernel_rfl) (by kernel_rfl) (fun _ _ _ h => h) (Or.inl ⟨by rfl, ?_⟩) hHeld ?_
          rotate_left
          · (intro w' hSw; (try dsimp only at hSw); go_split_ands; go_simp; first | done | with_reducible rfl)
          try simp only [Act.put, List.setIfInBounds_toArray, List.set_cons_zero, List.set_cons_succ]
          refine wpAnyH_take (i := 2) (oi := { dst := some 35, op := Op.move (Operand.tmp 10), type := 3, pos := "law.go:68", after := #[], guard := none }) (v := ?_) rfl (by kernel_rfl) (by kernel_rfl) (by kernel_rfl) (fun _ _ _ h => h) (Or.inl ⟨by rfl, ?_⟩) hHeld ?_
          rotate_left
          · (intro w' hSw; (try dsimp only at hSw); go_split_ands; go_simp; first | done | with_reducible rfl)
          try simp only [Act.put, List.setIfInBounds_toArray, List.set_cons_zero, List.set_cons_succ]
          refine wpAnyH_take (i := 3) (oi := { dst := some 36, op := Op.indexAddr 22 (Operand.tmp 34) (Operand.tmp 35), type := 0, pos := "law.go:68", after := #[{ on := 1, ground := Ground.data }, { on := 2, ground := Ground.data }], guard := none }) (v := ?_) rfl (by kernel_rfl) (by kernel_rfl) (by kernel_rfl) (fun _ _ _ h => h) (Or.inl ⟨by rfl, ?_⟩) hHeld ?_
          rotate_left
          · (intro w' hSw; (try dsimp only at hSw); go_split_ands; go_simp; first | done | with_reducible rfl)
          try simp only [Act.put, List.setIfInBounds_toArray, List.set_cons_zero, List.set_cons_succ]
          refine wpAnyH_take (i := 4) (oi := { dst := some 37, op := Op.load 28 (Operand.tmp 36), type := 28, pos := "law.go:68", after := #[{ on := 3, ground := Ground.data }], guard := none }) (v := ?_) rfl (by kernel_rfl) (by kernel_rfl) (by kernel_rfl) (fun _ _ _ h => h) (Or.inl ⟨by rfl, ?_⟩) hHeld ?_
          rotate_left
          · (intro w' hSw; (try dsimp only at hSw); go_split_ands; go_simp; first | done | with_reducible rfl)
          try simp only [Act.put, List.setIfInBounds_toArray, List.set_cons_zero, List.set_cons_succ]
          refine wpAnyH_take (i := 5) (oi := { dst := some 38, op := Op.move (Operand.tmp 0), type := 22, pos := "law.go:68", after := #[], guard := none }) (v := ?_) rfl (by kernel_rfl) (by kernel_rfl) (by kernel_rfl) (fun _ _ _ h => h) (Or.inl ⟨by rfl, ?_⟩) hHeld ?_
          rotate_left
          · (intro w' hSw; (try dsimp only at hSw); go_split_ands; go_simp; first | done | with_reducible rfl)
          try simp only [Act.put, List.setIfInBounds_toArray, List.set_cons_zero, List.set_cons_succ]
          refine wpAnyH_take (i := 6) (oi := { dst := some 39, op := Op.move (Operand.tmp 10), type := 3, pos := "law.go:68", after := #[], guard := none }) (v := ?_) rfl (by kernel_rfl) (by kernel_rfl) (by kernel_rfl) (fun _ _ _ h => h) (Or.inl ⟨by rfl, ?_⟩) hHeld ?_
          rotate_left
          · (intro w' hSw; (try dsimp only at hSw); go_split_ands; go_simp; first | done | with_reducible rfl)
          try simp only [Act.put, List.setIfInBounds_toArray, List.set_cons_zero, List.set_cons_succ]
          refine wpAnyH_take (i := 7) (oi := { dst := some 40, op := Op.indexAddr 22 (Operand.tmp 38) (Operand.tmp 39), type := 0, pos := "law.go:68", after := #[{ on := 5, ground := Ground.data }, { on := 6, ground := Ground.data }], guard := none }) (v := ?_) rfl (by kernel_rfl) (by kernel_rfl) (by kernel_rfl) (fun _ _ _ h => h) (Or.inl ⟨by rfl, ?_⟩) hHeld ?_
          rotate_left
          · (intro w' hSw; (try dsimp only at hSw); go_split_ands; go_simp; first | done | with_reducible rfl)
          try simp only [Act.put, List.setIfInBounds_toArray, List.set_cons_zero, List.set_cons_succ]
          refine wpAnyH_take (i := 8) (oi := { dst := some 41, op := Op.load 28 (Operand.tmp 40), type := 28, pos := "law.go:68", after := #[{ on := 7, ground := Ground.data }], guard := none }) (v := ?_) rfl (by kernel_rfl) (by kernel_rfl) (by kernel_rfl) (fun _ _ _ h => h) (Or.inl ⟨by rfl, ?_⟩) hHeld ?_
          rotate_left
          · (intro w' hSw; (try dsimp only at hSw); go_split_ands; go_simp; first | done | with_reducible rfl)
          try simp only [Act.put, List.setIfInBounds_toArray, List.set_cons_zero, List.set_cons_succ]
          refine wpAnyH_ready (rs := [9]) (by kernel_rfl) (by simp) ?_
          refine AllReadyH.cons (o := { dst := some 42, op := Op.buildSlice 22 2 #[(0, Operand.tmp 37), (1, Operand.tmp 41)], type := 22, pos := "law.go:68", after := #[{ on := 4, ground := Ground.data }, { on := 8, ground := Ground.data }], guard := none }) rfl (fun K hK => ?_) AllReadyH.nil
          go_simp
          refine hK.out _ _ ?_ ?_
          · (have hb := (Below.refl wz0.heap.size wz0).alloc (Nat.le_refl _) (.cells #[.string x.name, .string x.value, .bool x.pre, .bool x.inv, .string x.name, .string x.value, .bool x.pre, .bool x.inv] 28); have hG := hF0.below hb hadz; exact ⟨hG.c0, hG.c1, hG.c2, hG.c3⟩)
          clear hK K hHeld; intro hHeld
          try simp only [Act.put, List.setIfInBounds_toArray, List.set_cons_zero, List.set_cons_succ]
          have see1 := (sees_cells wz0 _ rfl #[.string x.name, .string x.value, .bool x.pre, .bool x.inv, .string x.name, .string x.value, .bool x.pre, .bool x.inv] 28 (fv [x, x]) (by simp [fv])).more (show _ ≤ (wz0.alloc (.cells #[.string x.name, .string x.value, .bool x.pre, .bool x.inv, .string x.name, .string x.value, .bool x.pre, .bool x.inv] 28)).heap.size from by simp)
          have s1 : Below wz0.heap.size wz0 (wz0.alloc (.cells #[.string x.name, .string x.value, .bool x.pre, .bool x.inv, .string x.name, .string x.value, .bool x.pre, .bool x.inv] 28)) := (Below.refl _ _).alloc (Nat.le_refl _) _
          have z1 : wz0.heap.size < (wz0.alloc (.cells #[.string x.name, .string x.value, .bool x.pre, .bool x.inv, .string x.name, .string x.value, .bool x.pre, .bool x.inv] 28)).heap.size := by simp
          generalize (wz0.alloc (.cells #[.string x.name, .string x.value, .bool x.pre, .bool x.inv, .string x.name, .string x.value, .bool x.pre, .bool x.inv] 28)) = wz1 at hHeld see1 s1 z1 ⊢
          have r1 := r0.trans (s1.mono r0.size)
          have own1 := own_below own0 s1
          refine wpAnyH_ready (rs := [10]) (by kernel_rfl) (by simp) ?_
          refine AllReadyH.cons (o := { dst := some 43, op := Op.call { callee := Callee.builtin Builtin.append, args := #[Operand.tmp 33, Operand.tmp 42], argTypes := #[22, 22] }, type := 22, pos := "law.go:68", after := #[{ on := 0, ground := Ground.data }, { on := 9, ground := Ground.data }], guard := none }) rfl (fun K hK => ?_) AllReadyH.nil
          have r1b := hbr.trans (r1.mono hbr.size)
          refine step_append_v (by rfl) (.tmp 33) (.tmp 42) _ (by rfl) 28 i0 _ 4 40 Tryd.underlying22 hi0 hz0 hz1 hz2 rfl (by omega) wc.heap.size u9 _ _ (by rfl) own1 _ (some ⟨wz0.heap.size, 0, none⟩) 2 2 _ (by rfl) rfl see1 (fv_one _) (by simp only [maxLen]; omega) (by omega) r1b.size ?_
          intro v2 wz2 own2 on2
          have s2 : Below wc.heap.size wz1 wz2 := on2.below r1b.size (own_block own1)
          have r2 := r1b.trans s2
          refine hK.out _ _ ?_ ?_
          · (have hG := (hF0.below (s1.mono (Nat.le_refl _)) hadz); have hG2 := hG.below s2 hadc; exact ⟨hG2.c0, hG2.c1, hG2.c2, hG2.c3⟩)
          clear hK K hHeld; intro hHeld
          try simp only [Act.put, List.setIfInBounds_toArray, List.set_cons_zero, List.set_cons_succ]
          refine wpAnyH_take (i := 11) (oi := { dst := some 9, op := Op.assign (Operand.tmp 43), type := 22, pos := "law.go:68", after := #[{ on := 10, ground := Ground.data }, { on := 10, ground := Ground.chain }, { on := 0, ground := Ground.phase }, { on := 1, ground := Ground.phase }, { on := 2, ground := Ground.phase }, { on := 3, ground := Ground.phase }, { on := 4, ground := Ground.phase }, { on := 5, ground := Ground.phase }, { on := 6, ground := Ground.phase }, { on := 7, ground := Ground.phase }, { on := 8, ground := Ground.phase }, { on := 9, ground := Ground.phase }, { on := 10, ground := Ground.phase }], guard := none }) (v := ?_) rfl (by kernel_rfl) (by kernel_rfl) (by kernel_rfl) (fun _ _ _ h => h) (Or.inl ⟨by rfl, ?_⟩) hHeld ?_
          rotate_left
          · (intro w' hSw; (try dsimp only at hSw); go_split_ands; go_simp; first | done | with_reducible rfl)
          try simp only [Act.put, List.setIfInBounds_toArray, List.set_cons_zero, List.set_cons_succ]
          refine wpAnyH_done (by kernel_rfl) ?_ _
          refine NoPanic.normal ?_
          go_wp2
          go_roundg j
          case measure => omega
          case rel => exact ⟨j, (j : Int) - 1, rfl, by omega, rfl, by go_num, (by rw [HT.out, fv_append, List.length_append]; exact own2), r2⟩
        · obtain rfl : k = 0 := by omega
          obtain rfl : z = -1 := by omega
          clear hz h0
          have htl : (turnedOf (fs.drop 0)).length ≤ 20 := by rw [turned_len, List.length_drop, HN.out]; omega
          have htn := Lib.hid (show turnedOf (fs.drop 0) = turnedOf fs by rw [List.drop_zero])
          rw [htn.out] at hown htl
          have hta := turned_all fs ls
          obtain ⟨is, his⟩ : ∃ is, allB fs ls = is := ⟨_, rfl⟩
          have HIs := Lib.hid his
          rw [his] at hta
          have hTu := fun (A : Option Addr) (c : Nat) (w : World) (h1 : Sees w w.heap.size A (fv (turnedOf fs))) (h2 : Sees w w.heap.size B (lv ls)) => All_at A (turnedOf fs).length c (turnedOf fs) rfl B m d ls HM.out is hta w h1 h2 (by omega) (by omega)
          have HTu := Lib.hid hTu
          obtain ⟨o, ho⟩ : ∃ o, oneB f ls = o := ⟨_, rfl⟩
          have HOo := Lib.hid ho
          obtain ⟨bo, hbo⟩ : ∃ bo, bo = (is && o) := ⟨_, rfl⟩
          have HBo : Hid (allB (fs ++ [f]) ls = bo) := by unfold Hid; rw [allB_snoc, his, ho, hbo]
          have HBb := Lib.hid hbo
          clear his hta hTu ho hbo
          obtain ⟨A9, c9, rfl, hc9, -, hs9⟩ := own_open hown
          go_wp2_with fail
          refine (All_at A n c fs HN.out B m d ls HM.out is HIs.out wr ((hS.below hbwr).more hbwr.size) ((hT.below hbwr).more hbwr.size) (by omega) (by omega)).mono ?_
          rintro e w6 ⟨rfl, hb6⟩
          have r6 := hbwr.trans (hb6.mono hbwr.size)
          have q6 := hbc.trans (hbr.mono hbc.size)
          have p6 := q6.trans (hb6.mono q6.size)
          have hX86 := hX8.below p6 hzW
          have hs36 := r6.size
          have hS36 := hS.below r6
          have hT36 := hT.below r6
          have hzW6 : w.heap.size < w6.heap.size := Nat.lt_of_lt_of_le hzW p6.size
          have hs96 := (hs9.below hb6).more hb6.size
          clear hX8 hs3 hS3 hT3
          go_upto_region 13 with fail
          go_cut [12] from 47 to 55 (fun t wx => t = .bool bo ∧ Below w6.heap.size w6 wx)
          case first =>
            refine wp_region_noPanic ?_
            refine wp_region_held_drew (S := fun w' => w'.cell? ⟨w.heap.size, 0, none⟩ = some (.string f.name) ∧ w'.cell? ⟨w.heap.size, 1, none⟩ = some (.string f.value) ∧ w'.cell? ⟨w.heap.size, 2, none⟩ = some (.bool f.pre) ∧ w'.cell? ⟨w.heap.size, 3, none⟩ = some (.bool f.inv)) (by kernel_rfl) ?_ (fun hHeld => ?_)
            · (exact hX86)
            have r0 : Below w6.heap.size w6 w6.drew := below_drew (Below.refl _ _)
            generalize w6.drew = wz0 at r0 hHeld ⊢
            refine wpAnyH_take (i := 1) (oi := { dst := some 48, op := Op.move (Operand.tmp 0), type := 22, pos := "law.go:71", after := #[], guard := none }) (v := ?_) rfl (by kernel_rfl) (by kernel_rfl) (by kernel_rfl) (fun _ _ _ h => h) (Or.inl ⟨by rfl, ?_⟩) hHeld ?_
            rotate_left
            · (intro w' hSw; (try dsimp only at hSw); go_split_ands; go_simp; first | done | with_reducible rfl)
            try simp only [Act.put, List.setIfInBounds_toArray, List.set_cons_zero, List.set_cons_succ]
            refine wpAnyH_take (i := 3) (oi := { dst := some 50, op := Op.load 28 (Operand.tmp 4), type := 28, pos := "law.go:71", after := #[], guard := none }) (v := ?_) rfl (by kernel_rfl) (by kernel_rfl) (by kernel_rfl) (fun _ _ _ h => h) (Or.inl ⟨by rfl, ?_⟩) hHeld ?_
            rotate_left
            · (intro w' hSw; (try dsimp only at hSw); go_split_ands; go_simp; first | done | with_reducible rfl)
            try simp only [Act.put, List.setIfInBounds_toArray, List.set_cons_zero, List.set_cons_succ]
            refine wpAnyH_take (i := 6) (oi := { dst := some 53, op := Op.move (Operand.tmp 2), type := 23, pos := "law.go:71", after := #[], guard := none }) (v := ?_) rfl (by kernel_rfl) (by kernel_rfl) (by kernel_rfl) (fun _ _ _ h => h) (Or.inl ⟨by rfl, ?_⟩) hHeld ?_
            rotate_left
            · (intro w' hSw; (try dsimp only at hSw); go_split_ands; go_simp; first | done | with_reducible rfl)
            try simp only [Act.put, List.setIfInBounds_toArray, List.set_cons_zero, List.set_cons_succ]
            refine wpAnyH_ready (rs := [0, 4]) (by kernel_rfl) (by simp) ?_
            refine AllReadyH.cons (o := { dst := some 47, op := Op.buildSlice 22 0 #[], type := 22, pos := "law.go:71", after := #[], guard := none }) rfl (fun K hK => ?_) ?_
            · go_simp
              refine hK.out _ _ ?_ ?_
              · (exact hX86.below (r0.alloc r0.size _) (by omega))
              clear hK K hHeld; intro hHeld
              try simp only [Act.put, List.setIfInBounds_toArray, List.set_cons_zero, List.set_cons_succ]
              have own1 := own_new wz0 w6.heap.size r0.size 28 4 0 [] rfl (by simp [maxLen]) #[] rfl
              have s1 : Below wz0.heap.size wz0 (wz0.alloc (.cells #[] 28)) := (Below.refl _ _).alloc (Nat.le_refl _) _
              have z1 : wz0.heap.size < (wz0.alloc (.cells #[] 28)).heap.size := by simp
              generalize (wz0.alloc (.cells #[] 28)) = wz1 at hHeld s1 z1 own1 ⊢
              have r1 := r0.trans (s1.mono r0.size)
              refine wpAnyH_ready (rs := [2, 4]) (by kernel_rfl) (by simp) ?_
              refine AllReadyH.cons (o := { dst := some 49, op := Op.call { callee := Callee.builtin Builtin.append, args := #[Operand.tmp 47, Operand.tmp 48], argTypes := #[22, 22] }, type := 22, pos := "law.go:71", after := #[{ on := 0, ground := Ground.data }, { on := 1, ground := Ground.data }], guard := none }) rfl (fun K hK => ?_) ?_
              · refine step_append_v (by rfl) (.tmp 47) (.tmp 48) _ (by rfl) 28 i0 _ 4 40 Tryd.underlying22 hi0 hz0 hz1 hz2 rfl (by omega) w6.heap.size (.slice (some ⟨wz0.heap.size, 0, none⟩) 0 0) _ _ (by rfl) own1 _ A n c (fv fs) (by rfl) (by rw [fv_length, HN.out]; omega) (hS36.below (r1.mono hs36)) (fv_one _) (by simp only [maxLen]; omega) (by omega) r1.size ?_
                intro v2 wz2 own2 on2
                have s2 : Below w6.heap.size wz1 wz2 := on2.below r1.size (own_block own1)
                have r2 := r1.trans s2
                have z2 := on2.size
                rw [Nat.zero_add, List.nil_append] at own2
                refine hK.out _ _ ?_ ?_
                · (exact hX86.below r2 (by omega))
                clear hK K hHeld; intro hHeld
                try simp only [Act.put, List.setIfInBounds_toArray, List.set_cons_zero, List.set_cons_succ]
                refine wpAnyH_ready (rs := [4]) (by kernel_rfl) (by simp) ?_
                refine AllReadyH.cons (o := { dst := some 51, op := Op.buildSlice 22 1 #[(0, Operand.tmp 50)], type := 22, pos := "law.go:71", after := #[{ on := 3, ground := Ground.data }], guard := none }) rfl (fun K hK => ?_) AllReadyH.nil
                go_simp
                refine hK.out _ _ ?_ ?_
                · (exact hX86.below (r2.alloc r2.size _) (by omega))
                clear hK K hHeld; intro hHeld
                try simp only [Act.put, List.setIfInBounds_toArray, List.set_cons_zero, List.set_cons_succ]
                have see3 := (sees_cells wz2 _ rfl #[.string f.name, .string f.value, .bool f.pre, .bool f.inv] 28 (fv [f]) (by simp [fv])).more (show _ ≤ (wz2.alloc (.cells #[.string f.name, .string f.value, .bool f.pre, .bool f.inv] 28)).heap.size from by simp)
                have s3 : Below wz2.heap.size wz2 (wz2.alloc (.cells #[.string f.name, .string f.value, .bool f.pre, .bool f.inv] 28)) := (Below.refl _ _).alloc (Nat.le_refl _) _
                have z3 : wz2.heap.size < (wz2.alloc (.cells #[.string f.name, .string f.value, .bool f.pre, .bool f.inv] 28)).heap.size := by simp
                generalize (wz2.alloc (.cells #[.string f.name, .string f.value, .bool f.pre, .bool f.inv] 28)) = wz3 at hHeld s3 z3 see3 ⊢
                have r3 := r2.trans (s3.mono r2.size)
                have own3 := own_below own2 s3
                refine wpAnyH_ready (rs := [5]) (by kernel_rfl) (by simp) ?_
                refine AllReadyH.cons (o := { dst := some 52, op := Op.call { callee := Callee.builtin Builtin.append, args := #[Operand.tmp 49, Operand.tmp 51], argTypes := #[22, 22] }, type := 22, pos := "law.go:71", after := #[{ on := 2, ground := Ground.data }, { on := 4, ground := Ground.data }, { on := 2, ground := Ground.chain }], guard := none }) rfl (fun K hK => ?_) AllReadyH.nil
                refine step_append_v (by rfl) (.tmp 49) (.tmp 51) _ (by rfl) 28 i0 _ 4 40 Tryd.underlying22 hi0 hz0 hz1 hz2 rfl (by omega) w6.heap.size v2 _ _ (by rfl) own3 _ (some ⟨wz2.heap.size, 0, none⟩) 1 1 _ (by rfl) rfl (see3) (fv_one _) (by simp only [maxLen]; omega) (by omega) r3.size ?_
                intro v4 wz4 own4 on4
                have s4 : Below w6.heap.size wz3 wz4 := on4.below r3.size (own_block own3)
                have r4 := r3.trans s4
                have z4 := on4.size
                rw [← fv_append] at own4
                obtain ⟨A37, c37, rfl, hc37, -, hs37⟩ := own_open own4
                refine hK.out _ _ ?_ ?_
                · (exact hX86.below r4 (by omega))
                clear hK K hHeld; intro hHeld
                try simp only [Act.put, List.setIfInBounds_toArray, List.set_cons_zero, List.set_cons_succ]
                refine wpAnyH_ready (rs := [7]) (by kernel_rfl) (by simp) ?_
                refine AllReadyH.cons (o := { dst := some 54, op := Op.call { callee := Callee.value (Operand.func 14), args := #[Operand.tmp 52, Operand.tmp 53], argTypes := #[22, 23] }, type := 4, pos := "law.go:71", after := #[{ on := 5, ground := Ground.data }, { on := 6, ground := Ground.data }, { on := 5, ground := Ground.chain }], guard := none }) rfl (fun K hK => ?_) AllReadyH.nil
                go_simp
                refine (All_at A37 (n + 1) c37 (fs ++ [f]) (by rw [List.length_append, HN.out]; rfl) B m d ls HM.out bo HBo.out _ hs37 ((hT36.below (r4.mono hs36)).more (Nat.le_trans hs36 r4.size)) (by omega) (by omega)).mono ?_
                rintro en wz5 ⟨rfl, hb5⟩
                have r5 := r4.trans (hb5.mono r4.size)
                go_wp2_with fail
                refine hK.out _ _ ?_ ?_
                · (exact hX86.below r5 (by omega))
                clear hK K hHeld; intro hHeld
                try simp only [Act.put, List.setIfInBounds_toArray, List.set_cons_zero, List.set_cons_succ]
                refine wpAnyH_take (i := 8) (oi := { dst := some 12, op := Op.assign (Operand.tmp 54), type := 4, pos := "law.go:71", after := #[{ on := 7, ground := Ground.data }, { on := 7, ground := Ground.chain }, { on := 0, ground := Ground.phase }, { on := 1, ground := Ground.phase }, { on := 2, ground := Ground.phase }, { on := 3, ground := Ground.phase }, { on := 4, ground := Ground.phase }, { on := 5, ground := Ground.phase }, { on := 6, ground := Ground.phase }, { on := 7, ground := Ground.phase }], guard := none }) (v := ?_) rfl (by kernel_rfl) (by kernel_rfl) (by kernel_rfl) (fun _ _ _ h => h) (Or.inl ⟨by rfl, ?_⟩) hHeld ?_
                rotate_left
                · (intro w' hSw; (try dsimp only at hSw); go_split_ands; go_simp; first | done | with_reducible rfl)
                try simp only [Act.put, List.setIfInBounds_toArray, List.set_cons_zero, List.set_cons_succ]
                refine wpAnyH_done (by kernel_rfl) ?_ _
                refine NoPanic.normal ?_
                go_wp2_with fail
                go_meet
                exact ⟨rfl, r5⟩
              refine AllReadyH.cons (o := { dst := some 51, op := Op.buildSlice 22 1 #[(0, Operand.tmp 50)], type := 22, pos := "law.go:71", after := #[{ on := 3, ground := Ground.data }], guard := none }) rfl (fun K hK => ?_) AllReadyH.nil
              go_simp
              refine hK.out _ _ ?_ ?_
              · (exact hX86.below (r1.alloc r1.size _) (by omega))
              clear hK K hHeld; intro hHeld
              try simp only [Act.put, List.setIfInBounds_toArray, List.set_cons_zero, List.set_cons_succ]
              have see2 := (sees_cells wz1 _ rfl #[.string f.name, .string f.value, .bool f.pre, .bool f.inv] 28 (fv [f]) (by simp [fv])).more (show _ ≤ (wz1.alloc (.cells #[.string f.name, .string f.value, .bool f.pre, .bool f.inv] 28)).heap.size from by simp)
              have s2 : Below wz1.heap.size wz1 (wz1.alloc (.cells #[.string f.name, .string f.value, .bool f.pre, .bool f.inv] 28)) := (Below.refl _ _).alloc (Nat.le_refl _) _
              have z2 : wz1.heap.size < (wz1.alloc (.cells #[.string f.name, .string f.value, .bool f.pre, .bool f.inv] 28)).heap.size := by simp
              generalize (wz1.alloc (.cells #[.string f.name, .string f.value, .bool f.pre, .bool f.inv] 28)) = wz2 at hHeld s2 z2 see2 ⊢
              have r2 := r1.trans (s2.mono r1.size)
              have own2 := own_below own1 s2
              refine wpAnyH_ready (rs := [2]) (by kernel_rfl) (by simp) ?_
              refine AllReadyH.cons (o := { dst := some 49, op := Op.call { callee := Callee.builtin Builtin.append, args := #[Operand.tmp 47, Operand.tmp 48], argTypes := #[22, 22] }, type := 22, pos := "law.go:71", after := #[{ on := 0, ground := Ground.data }, { on := 1, ground := Ground.data }], guard := none }) rfl (fun K hK => ?_) AllReadyH.nil
              refine step_append_v (by rfl) (.tmp 47) (.tmp 48) _ (by rfl) 28 i0 _ 4 40 Tryd.underlying22 hi0 hz0 hz1 hz2 rfl (by omega) w6.heap.size (.slice (some ⟨wz0.heap.size, 0, none⟩) 0 0) _ _ (by rfl) own2 _ A n c (fv fs) (by rfl) (by rw [fv_length, HN.out]; omega) (hS36.below (r2.mono hs36)) (fv_one _) (by simp only [maxLen]; omega) (by omega) r2.size ?_
              intro v3 wz3 own3 on3
              have s3 : Below w6.heap.size wz2 wz3 := on3.below r2.size (own_block own2)
              have r3 := r2.trans s3
              have z3 := on3.size
              rw [Nat.zero_add, List.nil_append] at own3
              have see3 := see2.apart on3.grown (by intro k hk; simp [Value.ownBlock] at hk; omega)
              refine hK.out _ _ ?_ ?_
              · (exact hX86.below r3 (by omega))
              clear hK K hHeld; intro hHeld
              try simp only [Act.put, List.setIfInBounds_toArray, List.set_cons_zero, List.set_cons_succ]
              refine wpAnyH_ready (rs := [5]) (by kernel_rfl) (by simp) ?_
              refine AllReadyH.cons (o := { dst := some 52, op := Op.call { callee := Callee.builtin Builtin.append, args := #[Operand.tmp 49, Operand.tmp 51], argTypes := #[22, 22] }, type := 22, pos := "law.go:71", after := #[{ on := 2, ground := Ground.data }, { on := 4, ground := Ground.data }, { on := 2, ground := Ground.chain }], guard := none }) rfl (fun K hK => ?_) AllReadyH.nil
              refine step_append_v (by rfl) (.tmp 49) (.tmp 51) _ (by rfl) 28 i0 _ 4 40 Tryd.underlying22 hi0 hz0 hz1 hz2 rfl (by omega) w6.heap.size v3 _ _ (by rfl) own3 _ (some ⟨wz1.heap.size, 0, none⟩) 1 1 _ (by rfl) rfl (see3) (fv_one _) (by simp only [maxLen]; omega) (by omega) r3.size ?_
              intro v4 wz4 own4 on4
              have s4 : Below w6.heap.size wz3 wz4 := on4.below r3.size (own_block own3)
              have r4 := r3.trans s4
              have z4 := on4.size
              rw [← fv_append] at own4
              obtain ⟨A37, c37, rfl, hc37, -, hs37⟩ := own_open own4
              refine hK.out _ _ ?_ ?_
              · (exact hX86.below r4 (by omega))
              clear hK K hHeld; intro hHeld
              try simp only [Act.put, List.setIfInBounds_toArray, List.set_cons_zero, List.set_cons_succ]
              refine wpAnyH_ready (rs := [7]) (by kernel_rfl) (by simp) ?_
              refine AllReadyH.cons (o := { dst := some 54, op := Op.call { callee := Callee.value (Operand.func 14), args := #[Operand.tmp 52, Operand.tmp 53], argTypes := #[22, 23] }, type := 4, pos := "law.go:71", after := #[{ on := 5, ground := Ground.data }, { on := 6, ground := Ground.data }, { on := 5, ground := Ground.chain }], guard := none }) rfl (fun K hK => ?_) AllReadyH.nil
              go_simp
              refine (All_at A37 (n + 1) c37 (fs ++ [f]) (by rw [List.length_append, HN.out]; rfl) B m d ls HM.out bo HBo.out _ hs37 ((hT36.below (r4.mono hs36)).more (Nat.le_trans hs36 r4.size)) (by omega) (by omega)).mono ?_
              rintro en wz5 ⟨rfl, hb5⟩
              have r5 := r4.trans (hb5.mono r4.size)
              go_wp2_with fail
              refine hK.out _ _ ?_ ?_
              · (exact hX86.below r5 (by omega))
              clear hK K hHeld; intro hHeld
              try simp only [Act.put, List.setIfInBounds_toArray, List.set_cons_zero, List.set_cons_succ]
              refine wpAnyH_take (i := 8) (oi := { dst := some 12, op := Op.assign (Operand.tmp 54), type := 4, pos := "law.go:71", after := #[{ on := 7, ground := Ground.data }, { on := 7, ground := Ground.chain }, { on := 0, ground := Ground.phase }, { on := 1, ground := Ground.phase }, { on := 2, ground := Ground.phase }, { on := 3, ground := Ground.phase }, { on := 4, ground := Ground.phase }, { on := 5, ground := Ground.phase }, { on := 6, ground := Ground.phase }, { on := 7, ground := Ground.phase }], guard := none }) (v := ?_) rfl (by kernel_rfl) (by kernel_rfl) (by kernel_rfl) (fun _ _ _ h => h) (Or.inl ⟨by rfl, ?_⟩) hHeld ?_
              rotate_left
              · (intro w' hSw; (try dsimp only at hSw); go_split_ands; go_simp; first | done | with_reducible rfl)
              try simp only [Act.put, List.setIfInBounds_toArray, List.set_cons_zero, List.set_cons_succ]
              refine wpAnyH_done (by kernel_rfl) ?_ _
              refine NoPanic.normal ?_
              go_wp2_with fail
              go_meet
              exact ⟨rfl, r5⟩
            refine AllReadyH.cons (o := { dst := some 51, op := Op.buildSlice 22 1 #[(0, Operand.tmp 50)], type := 22, pos := "law.go:71", after := #[{ on := 3, ground := Ground.data }], guard := none }) rfl (fun K hK => ?_) AllReadyH.nil
            go_simp
            refine hK.out _ _ ?_ ?_
            · (exact hX86.below (r0.alloc r0.size _) (by omega))
            clear hK K hHeld; intro hHeld
            try simp only [Act.put, List.setIfInBounds_toArray, List.set_cons_zero, List.set_cons_succ]
            have see1 := (sees_cells wz0 _ rfl #[.string f.name, .string f.value, .bool f.pre, .bool f.inv] 28 (fv [f]) (by simp [fv])).more (show _ ≤ (wz0.alloc (.cells #[.string f.name, .string f.value, .bool f.pre, .bool f.inv] 28)).heap.size from by simp)
            have s1 : Below wz0.heap.size wz0 (wz0.alloc (.cells #[.string f.name, .string f.value, .bool f.pre, .bool f.inv] 28)) := (Below.refl _ _).alloc (Nat.le_refl _) _
            have z1 : wz0.heap.size < (wz0.alloc (.cells #[.string f.name, .string f.value, .bool f.pre, .bool f.inv] 28)).heap.size := by simp
            generalize (wz0.alloc (.cells #[.string f.name, .string f.value, .bool f.pre, .bool f.inv] 28)) = wz1 at hHeld s1 z1 see1 ⊢
            have r1 := r0.trans (s1.mono r0.size)
            refine wpAnyH_ready (rs := [0]) (by kernel_rfl) (by simp) ?_
            refine AllReadyH.cons (o := { dst := some 47, op := Op.buildSlice 22 0 #[], type := 22, pos := "law.go:71", after := #[], guard := none }) rfl (fun K hK => ?_) AllReadyH.nil
            go_simp
            refine hK.out _ _ ?_ ?_
            · (exact hX86.below (r1.alloc r1.size _) (by omega))
            clear hK K hHeld; intro hHeld
            try simp only [Act.put, List.setIfInBounds_toArray, List.set_cons_zero, List.set_cons_succ]
            have own2 := own_new wz1 w6.heap.size r1.size 28 4 0 [] rfl (by simp [maxLen]) #[] rfl
            have s2 : Below wz1.heap.size wz1 (wz1.alloc (.cells #[] 28)) := (Below.refl _ _).alloc (Nat.le_refl _) _
            have z2 : wz1.heap.size < (wz1.alloc (.cells #[] 28)).heap.size := by simp
            generalize (wz1.alloc (.cells #[] 28)) = wz2 at hHeld s2 z2 own2 ⊢
            have r2 := r1.trans (s2.mono r1.size)
            have see2 := (see1.below s2).more s2.size
            refine wpAnyH_ready (rs := [2]) (by kernel_rfl) (by simp) ?_
            refine AllReadyH.cons (o := { dst := some 49, op := Op.call { callee := Callee.builtin Builtin.append, args := #[Operand.tmp 47, Operand.tmp 48], argTypes := #[22, 22] }, type := 22, pos := "law.go:71", after := #[{ on := 0, ground := Ground.data }, { on := 1, ground := Ground.data }], guard := none }) rfl (fun K hK => ?_) AllReadyH.nil
            refine step_append_v (by rfl) (.tmp 47) (.tmp 48) _ (by rfl) 28 i0 _ 4 40 Tryd.underlying22 hi0 hz0 hz1 hz2 rfl (by omega) w6.heap.size (.slice (some ⟨wz1.heap.size, 0, none⟩) 0 0) _ _ (by rfl) own2 _ A n c (fv fs) (by rfl) (by rw [fv_length, HN.out]; omega) (hS36.below (r2.mono hs36)) (fv_one _) (by simp only [maxLen]; omega) (by omega) r2.size ?_
            intro v3 wz3 own3 on3
            have s3 : Below w6.heap.size wz2 wz3 := on3.below r2.size (own_block own2)
            have r3 := r2.trans s3
            have z3 := on3.size
            rw [Nat.zero_add, List.nil_append] at own3
            have see3 := see2.apart on3.grown (by intro k hk; simp [Value.ownBlock] at hk; omega)
            refine hK.out _ _ ?_ ?_
            · (exact hX86.below r3 (by omega))
            clear hK K hHeld; intro hHeld
            try simp only [Act.put, List.setIfInBounds_toArray, List.set_cons_zero, List.set_cons_succ]
            refine wpAnyH_ready (rs := [5]) (by kernel_rfl) (by simp) ?_
            refine AllReadyH.cons (o := { dst := some 52, op := Op.call { callee := Callee.builtin Builtin.append, args := #[Operand.tmp 49, Operand.tmp 51], argTypes := #[22, 22] }, type := 22, pos := "law.go:71", after := #[{ on := 2, ground := Ground.data }, { on := 4, ground := Ground.data }, { on := 2, ground := Ground.chain }], guard := none }) rfl (fun K hK => ?_) AllReadyH.nil
            refine step_append_v (by rfl) (.tmp 49) (.tmp 51) _ (by rfl) 28 i0 _ 4 40 Tryd.underlying22 hi0 hz0 hz1 hz2 rfl (by omega) w6.heap.size v3 _ _ (by rfl) own3 _ (some ⟨wz0.heap.size, 0, none⟩) 1 1 _ (by rfl) rfl (see3) (fv_one _) (by simp only [maxLen]; omega) (by omega) r3.size ?_
            intro v4 wz4 own4 on4
            have s4 : Below w6.heap.size wz3 wz4 := on4.below r3.size (own_block own3)
            have r4 := r3.trans s4
            have z4 := on4.size
            rw [← fv_append] at own4
            obtain ⟨A37, c37, rfl, hc37, -, hs37⟩ := own_open own4
            refine hK.out _ _ ?_ ?_
            · (exact hX86.below r4 (by omega))
            clear hK K hHeld; intro hHeld
            try simp only [Act.put, List.setIfInBounds_toArray, List.set_cons_zero, List.set_cons_succ]
            refine wpAnyH_ready (rs := [7]) (by kernel_rfl) (by simp) ?_
            refine AllReadyH.cons (o := { dst := some 54, op := Op.call { callee := Callee.value (Operand.func 14), args := #[Operand.tmp 52, Operand.tmp 53], argTypes := #[22, 23] }, type := 4, pos := "law.go:71", after := #[{ on := 5, ground := Ground.data }, { on := 6, ground := Ground.data }, { on := 5, ground := Ground.chain }], guard := none }) rfl (fun K hK => ?_) AllReadyH.nil
            go_simp
            refine (All_at A37 (n + 1) c37 (fs ++ [f]) (by rw [List.length_append, HN.out]; rfl) B m d ls HM.out bo HBo.out _ hs37 ((hT36.below (r4.mono hs36)).more (Nat.le_trans hs36 r4.size)) (by omega) (by omega)).mono ?_
            rintro en wz5 ⟨rfl, hb5⟩
            have r5 := r4.trans (hb5.mono r4.size)
            go_wp2_with fail
            refine hK.out _ _ ?_ ?_
            · (exact hX86.below r5 (by omega))
            clear hK K hHeld; intro hHeld
            try simp only [Act.put, List.setIfInBounds_toArray, List.set_cons_zero, List.set_cons_succ]
            refine wpAnyH_take (i := 8) (oi := { dst := some 12, op := Op.assign (Operand.tmp 54), type := 4, pos := "law.go:71", after := #[{ on := 7, ground := Ground.data }, { on := 7, ground := Ground.chain }, { on := 0, ground := Ground.phase }, { on := 1, ground := Ground.phase }, { on := 2, ground := Ground.phase }, { on := 3, ground := Ground.phase }, { on := 4, ground := Ground.phase }, { on := 5, ground := Ground.phase }, { on := 6, ground := Ground.phase }, { on := 7, ground := Ground.phase }], guard := none }) (v := ?_) rfl (by kernel_rfl) (by kernel_rfl) (by kernel_rfl) (fun _ _ _ h => h) (Or.inl ⟨by rfl, ?_⟩) hHeld ?_
            rotate_left
            · (intro w' hSw; (try dsimp only at hSw); go_split_ands; go_simp; first | done | with_reducible rfl)
            try simp only [Act.put, List.setIfInBounds_toArray, List.set_cons_zero, List.set_cons_succ]
            refine wpAnyH_done (by kernel_rfl) ?_ _
            refine NoPanic.normal ?_
            go_wp2_with fail
            go_meet
            exact ⟨rfl, r5⟩
          case rest =>
            obtain ⟨rfl, hbd⟩ := hcut
            have r7 := r6.trans (hbd.mono hs36)
            obtain ⟨f0, f1, f2, f3⟩ := hX86.below hbd hzW6
            have hE1 := HTu.out A9 c9 _ ((hs96.below hbd).more hbd.size) ((hT.below r7).more r7.size)
            have HE1 := Lib.hid hE1
            clear hE1
            have his : (is == is) = true := by cases is <;> rfl
            go_wp2_with fail
            refine HE1.out.mono ?_
            rintro e w8 ⟨rfl, hb8⟩
            have r8 := r7.trans (hb8.mono r7.size)
            obtain ⟨g0, g1, g2, g3⟩ := (hX86.below hbd hzW6).below hb8 (Nat.lt_of_lt_of_le hzW6 hbd.size)
            have hOn := Lib.hid (One_at f.name f.value f.pre f.inv B m d ls HM.out o HOo.out w8 ((hT.below r8).more r8.size) (by omega))
            have hNil := fun w9 h => Lib.hid (All_at none 0 0 [] rfl B m d ls HM.out true rfl w9 (Sees.nil _ _ _) h (by omega) (by omega))
            clear f0 f1 f2 f3
            cases is with
            | true =>
              have hbo : bo = o := by rw [HBb.out, Bool.true_and]
              subst hbo
              have hoo : (bo == bo) = true := by cases bo <;> rfl
              go_wp2_with fail
              refine hOn.out.mono ?_
              rintro e w9 ⟨rfl, hb9⟩
              have r9 := r8.trans (hb9.mono r8.size)
              go_wp2_with fail
              refine (hNil w9 ((hT.below r9).more r9.size)).out.mono ?_
              rintro e w10 ⟨rfl, hb10⟩
              go_wp2
              go_ret
              exact ⟨rfl, r9.trans (hb10.mono r9.size)⟩
            | false =>
              have hbo : bo = false := by rw [HBb.out, Bool.false_and]
              subst hbo
              go_wp2_with fail
              refine (hNil w8 ((hT.below r8).more r8.size)).out.mono ?_
              rintro e w10 ⟨rfl, hb10⟩
              go_wp2
              go_ret
              exact ⟨rfl, r8.trans (hb10.mono r8.size)⟩
end Go.Proofs.YtpmjbpmdmbankaaDoor
