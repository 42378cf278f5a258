/-
  Which of two labels is ahead; of two rows.
-/
import Derived.Test.YtbgnmojdkhlbaaaDoorLbCmp
namespace Go.Proofs.YtbgnmojdkhlbaaaDoor
open Go.RowKit

/-- Which of two labels is ahead. -/
def cmpL (x y : Lb) : Int := or2 (cmpB x.1 y.1) (cmpB x.2 y.2)
theorem bytes_same {a b : ByteArray} (h : a.toList = b.toList) : a = b := by
  apply ByteArray.ext
  apply Array.toList_inj.1
  rw [← Lib.toList_data, ← Lib.toList_data]
  exact h
theorem bytesLess_irrefl (l : List UInt8) : Op.bytesLess l l = false := by
  induction l with
  | nil => rfl
  | cons a t ih => simp [Op.bytesLess, ih]
theorem cmpB_self (x : ByteArray) : cmpB x x = 0 := cmpB_eq (bytesLess_irrefl _) (by simp)
theorem cmpL_self (x : Lb) : cmpL x x = 0 := by unfold cmpL; rw [cmpB_self, cmpB_self]; rfl

set_option maxRecDepth 100000 in
set_option maxHeartbeats 400000 in
theorem cmpFn_any (x y : Lb) (w : World) :
    Calls Tryd.prog 37 #[.agg #[.string x.1, .string x.2], .agg #[.string y.1, .string y.2]] w (Gives w (.int .i64 (cmpL x y))) := by
  obtain ⟨x1, x2⟩ := x
  obtain ⟨y1, y2⟩ := y
  have hW0 : Below w.heap.size w ((w.alloc (.cells #[.string x1, .string x2] 34)).alloc (.cells #[.string y1, .string y2] 34)) := ((Below.refl _ w).alloc (Nat.le_refl _) _).alloc (by simp) _
  have hc1 : ∀ W, Hid (Calls Tryd.prog 31 #[.string x1, .string y1] W _) := fun W => Lib.hid (cmpCompare_any x1 y1 W)
  have hc2 : ∀ W, Hid (Calls Tryd.prog 31 #[.string x2, .string y2] W _) := fun W => Lib.hid (cmpCompare_any x2 y2 W)
  have F1 : ∀ (W : World) (b : Nat), W.cell? ⟨b, 0, none⟩ = some (.int .i64 (cmpB x1 y1)) → W.cell? ⟨b, 1, none⟩ = some (.int .i64 (cmpB x2 y2)) → Hid (Calls Tryd.prog 38 #[.slice (some ⟨b, 0, none⟩) 2 2] W _) := fun W b h0 h1 => Lib.hid (or_any ⟨b, 0, none⟩ (cmpB x1 y1) (cmpB x2 y2) _ h0 h1)
  have hcl : Hid (cmpL (x1, x2) (y1, y2) = or2 (cmpB x1 y1) (cmpB x2 y2)) := rfl
  by_cases e1 : x1.toList = y1.toList ∧ x2.toList = y2.toList
  · rw [bytes_same e1.1, bytes_same e1.2, cmpL_self]
    rw [bytes_same e1.1, bytes_same e1.2] at hW0
    clear hc1 hc2 F1 hcl e1
    go_enter Tryd.func37, Tryd.ntmps37
    go_wp2
    go_ret
    exact ⟨rfl, hW0⟩
  have e : ¬ x1.toList = y1.toList ∨ (x1.toList = y1.toList ∧ ¬ x2.toList = y2.toList) := by
    by_cases h : x1.toList = y1.toList
    · exact Or.inr ⟨h, fun h2 => e1 ⟨h, h2⟩⟩
    · exact Or.inl h
  clear e1
  rcases e with e1 | ⟨e1, e2⟩
  all_goals
    go_enter Tryd.func37, Tryd.ntmps37
    go_wp2_with fail
    refine wp_region_noPanic ?_
    refine wp_region_held_drew (S := fun w' => w'.cell? ⟨w.heap.size, 0, none⟩ = some (.string x1) ∧ w'.cell? ⟨w.heap.size, 1, none⟩ = some (.string x2) ∧ w'.cell? ⟨w.heap.size + 1, 0, none⟩ = some (.string y1) ∧ w'.cell? ⟨w.heap.size + 1, 1, none⟩ = some (.string y2)) (by kernel_rfl) ?_ (fun hHeld => ?_)
    · (go_keep)
    refine wpAnyH_take (i := 0) (oi := { dst := some 8, op := Op.fieldAddr 34 (Operand.tmp 2) 0, type := 0, pos := "labels.go:56", after := #[], guard := none }) (v := ?_) rfl (by kernel_rfl) (by kernel_rfl) (by kernel_rfl) (fun _ _ _ h => h) (Or.inl ⟨by rfl, ?_⟩) hHeld ?_
    rotate_left
    · (intro w' hSw; (try dsimp only at hSw); go_split_ands; go_simp; first | done | with_reducible rfl)
    try simp only [Act.put, List.setIfInBounds_toArray, List.set_cons_zero, List.set_cons_succ]
    refine wpAnyH_take (i := 1) (oi := { dst := some 9, op := Op.load 9 (Operand.tmp 8), type := 9, pos := "labels.go:56", after := #[{ on := 0, ground := Ground.data }], guard := none }) (v := ?_) rfl (by kernel_rfl) (by kernel_rfl) (by kernel_rfl) (fun _ _ _ h => h) (Or.inl ⟨by rfl, ?_⟩) hHeld ?_
    rotate_left
    · (intro w' hSw; (try dsimp only at hSw); go_split_ands; go_simp; first | done | with_reducible rfl)
    try simp only [Act.put, List.setIfInBounds_toArray, List.set_cons_zero, List.set_cons_succ]
    refine wpAnyH_take (i := 2) (oi := { dst := some 10, op := Op.fieldAddr 34 (Operand.tmp 3) 0, type := 0, pos := "labels.go:56", after := #[], guard := none }) (v := ?_) rfl (by kernel_rfl) (by kernel_rfl) (by kernel_rfl) (fun _ _ _ h => h) (Or.inl ⟨by rfl, ?_⟩) hHeld ?_
    rotate_left
    · (intro w' hSw; (try dsimp only at hSw); go_split_ands; go_simp; first | done | with_reducible rfl)
    try simp only [Act.put, List.setIfInBounds_toArray, List.set_cons_zero, List.set_cons_succ]
    refine wpAnyH_take (i := 3) (oi := { dst := some 11, op := Op.load 9 (Operand.tmp 10), type := 9, pos := "labels.go:56", after := #[{ on := 2, ground := Ground.data }], guard := none }) (v := ?_) rfl (by kernel_rfl) (by kernel_rfl) (by kernel_rfl) (fun _ _ _ h => h) (Or.inl ⟨by rfl, ?_⟩) hHeld ?_
    rotate_left
    · (intro w' hSw; (try dsimp only at hSw); go_split_ands; go_simp; first | done | with_reducible rfl)
    try simp only [Act.put, List.setIfInBounds_toArray, List.set_cons_zero, List.set_cons_succ]
    refine wpAnyH_take (i := 5) (oi := { dst := some 13, op := Op.fieldAddr 34 (Operand.tmp 2) 1, type := 0, pos := "labels.go:56", after := #[], guard := none }) (v := ?_) rfl (by kernel_rfl) (by kernel_rfl) (by kernel_rfl) (fun _ _ _ h => h) (Or.inl ⟨by rfl, ?_⟩) hHeld ?_
    rotate_left
    · (intro w' hSw; (try dsimp only at hSw); go_split_ands; go_simp; first | done | with_reducible rfl)
    try simp only [Act.put, List.setIfInBounds_toArray, List.set_cons_zero, List.set_cons_succ]
    refine wpAnyH_take (i := 6) (oi := { dst := some 14, op := Op.load 9 (Operand.tmp 13), type := 9, pos := "labels.go:56", after := #[{ on := 5, ground := Ground.data }], guard := none }) (v := ?_) rfl (by kernel_rfl) (by kernel_rfl) (by kernel_rfl) (fun _ _ _ h => h) (Or.inl ⟨by rfl, ?_⟩) hHeld ?_
    rotate_left
    · (intro w' hSw; (try dsimp only at hSw); go_split_ands; go_simp; first | done | with_reducible rfl)
    try simp only [Act.put, List.setIfInBounds_toArray, List.set_cons_zero, List.set_cons_succ]
    refine wpAnyH_take (i := 7) (oi := { dst := some 15, op := Op.fieldAddr 34 (Operand.tmp 3) 1, type := 0, pos := "labels.go:56", after := #[], guard := none }) (v := ?_) rfl (by kernel_rfl) (by kernel_rfl) (by kernel_rfl) (fun _ _ _ h => h) (Or.inl ⟨by rfl, ?_⟩) hHeld ?_
    rotate_left
    · (intro w' hSw; (try dsimp only at hSw); go_split_ands; go_simp; first | done | with_reducible rfl)
    try simp only [Act.put, List.setIfInBounds_toArray, List.set_cons_zero, List.set_cons_succ]
    refine wpAnyH_take (i := 8) (oi := { dst := some 16, op := Op.load 9 (Operand.tmp 15), type := 9, pos := "labels.go:56", after := #[{ on := 7, ground := Ground.data }], guard := none }) (v := ?_) rfl (by kernel_rfl) (by kernel_rfl) (by kernel_rfl) (fun _ _ _ h => h) (Or.inl ⟨by rfl, ?_⟩) hHeld ?_
    rotate_left
    · (intro w' hSw; (try dsimp only at hSw); go_split_ands; go_simp; first | done | with_reducible rfl)
    try simp only [Act.put, List.setIfInBounds_toArray, List.set_cons_zero, List.set_cons_succ]
    refine wpAnyH_ready (rs := [4]) (by kernel_rfl) (by simp) ?_
    refine AllReadyH.cons (o := { dst := some 12, op := Op.call { callee := Callee.value (Operand.func 31), args := #[Operand.tmp 9, Operand.tmp 11], argTypes := #[9, 9] }, type := 3, pos := "labels.go:56", after := #[{ on := 1, ground := Ground.data }, { on := 3, ground := Ground.data }], guard := none }) rfl (fun K hK => ?_) AllReadyH.nil
    go_simp
    refine (hc1 _).out.mono ?_
    rintro en wa ⟨rfl, rfl⟩
    go_wp2_with fail
    refine hK.out _ _ ?_ ?_
    · (go_keep)
    clear hK K hHeld; intro hHeld
    try simp only [Act.put, List.setIfInBounds_toArray, List.set_cons_zero, List.set_cons_succ]
    refine wpAnyH_ready (rs := [9]) (by kernel_rfl) (by simp) ?_
    refine AllReadyH.cons (o := { dst := some 17, op := Op.call { callee := Callee.value (Operand.func 31), args := #[Operand.tmp 14, Operand.tmp 16], argTypes := #[9, 9] }, type := 3, pos := "labels.go:56", after := #[{ on := 6, ground := Ground.data }, { on := 8, ground := Ground.data }, { on := 4, ground := Ground.chain }], guard := none }) rfl (fun K hK => ?_) AllReadyH.nil
    go_simp
    refine (hc2 _).out.mono ?_
    rintro en wb ⟨rfl, rfl⟩
    go_wp2_with fail
    refine hK.out _ _ ?_ ?_
    · (go_keep)
    clear hK K hHeld; intro hHeld
    try simp only [Act.put, List.setIfInBounds_toArray, List.set_cons_zero, List.set_cons_succ]
    refine wpAnyH_ready (rs := [10]) (by kernel_rfl) (by simp) ?_
    refine AllReadyH.cons (o := { dst := some 18, op := Op.buildSlice 68 2 #[(0, Operand.tmp 12), (1, Operand.tmp 17)], type := 68, pos := "labels.go:56", after := #[{ on := 4, ground := Ground.data }, { on := 9, ground := Ground.data }], guard := none }) rfl (fun K hK => ?_) AllReadyH.nil
    go_simp
    refine hK.out _ _ ?_ ?_
    · (go_keep)
    clear hK K hHeld; intro hHeld
    try simp only [Act.put, List.setIfInBounds_toArray, List.set_cons_zero, List.set_cons_succ]
    refine wpAnyH_ready (rs := [11]) (by kernel_rfl) (by simp) ?_
    refine AllReadyH.cons (o := { dst := some 19, op := Op.call { callee := Callee.value (Operand.func 38), args := #[Operand.tmp 18], argTypes := #[68] }, type := 3, pos := "labels.go:56", after := #[{ on := 10, ground := Ground.data }, { on := 9, ground := Ground.chain }], guard := none }) rfl (fun K hK => ?_) AllReadyH.nil
    go_simp
    refine (F1 _ _ ?_ ?_).out.mono ?_
    · go_simp
    · go_simp
    rintro en wd ⟨rfl, rfl⟩
    go_wp2_with fail
    refine hK.out _ _ ?_ ?_
    · (go_keep)
    clear hK K hHeld; intro hHeld
    try simp only [Act.put, List.setIfInBounds_toArray, List.set_cons_zero, List.set_cons_succ]
    refine wpAnyH_take (i := 12) (oi := { dst := some 4, op := Op.assign (Operand.tmp 19), type := 3, pos := "labels.go:56", after := #[{ on := 11, ground := Ground.data }, { on := 11, ground := Ground.chain }, { on := 0, ground := Ground.phase }, { on := 1, ground := Ground.phase }, { on := 2, ground := Ground.phase }, { on := 3, ground := Ground.phase }, { on := 4, ground := Ground.phase }, { on := 5, ground := Ground.phase }, { on := 6, ground := Ground.phase }, { on := 7, ground := Ground.phase }, { on := 8, ground := Ground.phase }, { on := 9, ground := Ground.phase }, { on := 10, ground := Ground.phase }, { on := 11, ground := Ground.phase }], guard := none }) (v := ?_) rfl (by kernel_rfl) (by kernel_rfl) (by kernel_rfl) (fun _ _ _ h => h) (Or.inl ⟨by rfl, ?_⟩) hHeld ?_
    rotate_left
    · (intro w' hSw; (try dsimp only at hSw); go_split_ands; go_simp; first | done | with_reducible rfl)
    try simp only [Act.put, List.setIfInBounds_toArray, List.set_cons_zero, List.set_cons_succ]
    refine wpAnyH_done (by kernel_rfl) ?_ _
    refine NoPanic.normal ?_
    go_wp2
    go_ret
    rw [hcl.out]
    exact ⟨rfl, (hW0.alloc hW0.size _).drew⟩

/-- Which of two rows of labels is ahead. -/
def cmpLs : List Lb → List Lb → Int
  | x :: a, y :: b => or2 (cmpL x y) (cmpLs a b)
  | [], [] => 0
  | [], _ :: _ => -1
  | _ :: _, [] => 1
theorem cmpLs_at {a b : List Lb} {k : Nat} (h : k < a.length) (h2 : k < b.length) : cmpLs (a.drop k) (b.drop k) = or2 (cmpL a[k] b[k]) (cmpLs (a.drop (k + 1)) (b.drop (k + 1))) := by
  rw [List.drop_eq_getElem_cons h, List.drop_eq_getElem_cons h2]; rfl
theorem cmpLs_gt {a b : List Lb} {k : Nat} (h : k < a.length) (h2 : b.length ≤ k) : cmpLs (a.drop k) (b.drop k) = 1 := by
  rw [List.drop_eq_getElem_cons h, List.drop_eq_nil_of_le h2]; rfl
theorem cmpLs_lt {a b : List Lb} {k : Nat} (h : a.length ≤ k) (h2 : k < b.length) : cmpLs (a.drop k) (b.drop k) = -1 := by
  rw [List.drop_eq_nil_of_le h, List.drop_eq_getElem_cons h2]; rfl
theorem cmpLs_eq {a b : List Lb} {k : Nat} (h : a.length ≤ k) (h2 : b.length ≤ k) : cmpLs (a.drop k) (b.drop k) = 0 := by
  rw [List.drop_eq_nil_of_le h, List.drop_eq_nil_of_le h2]; rfl

set_option maxRecDepth 100000 in
set_option maxHeartbeats 800000 in
theorem CompareFunc_any (A A' : Option Addr) (n c m c' : Nat) (xs bs : List Lb) (hn : xs.length = n) (hm : bs.length = m) (w : World) (hS : Sees w w.heap.size A (lv xs)) (hT : Sees w w.heap.size A' (lv bs)) (hlen : n ≤ 1099511627776) (hlen2 : m ≤ 1099511627776) :
    Calls Tryd.prog 36 #[.slice A n c, .slice A' m c', .func (.func 37) #[] #[]] w (Gives w (.int .i64 (cmpLs xs bs))) := by
  obtain ⟨X, hX⟩ : ∃ X, cmpLs xs bs = X := ⟨_, rfl⟩
  rw [hX]
  have HX := Lib.hid hX
  have HN := Lib.hid hn
  have HM := Lib.hid hm
  clear hn hm hX
  go_enter Tryd.func36, Tryd.ntmps36
  go_wp2
  go_loopg [13] n (fun g i wr => ∃ k : Nat, k + g = n ∧ k ≤ m ∧ i = .int .i64 k ∧ Hid (X = cmpLs (xs.drop k) (bs.drop k)) ∧ Below w.heap.size w wr)
  case atStart => exact ⟨0, by omega, by omega, rfl, HX.out.symm, Below.refl _ _⟩
  case round =>
    obtain ⟨k, hk, hkm, rfl, heq, hbr⟩ := hrel
    have hsr := hbr.size
    by_cases hlt : k < n
    · obtain ⟨ad, rfl, hadB, hc0, hc1⟩ := (hS.below hbr).lb (k := k) (by have := HN.out; omega)
      by_cases hlt2 : k < m
      · obtain ⟨ad2, rfl, hadB2, hd0, hd1⟩ := (hT.below hbr).lb (k := k) (by have := HM.out; omega)
        have hstep := Lib.hid (heq.out.trans (cmpLs_at (a := xs) (b := bs) (k := k) (by have := HN.out; omega) (by have := HM.out; omega)))
        generalize xs[k]'(by have := HN.out; omega) = x at hc0 hc1 hstep
        generalize bs[k]'(by have := HM.out; omega) = y at hd0 hd1 hstep
        have hB0 := hbr.alloc hsr (.cells #[.string x.1, .string x.2] 34)
        have hB1 := hB0.alloc hB0.size (.cells #[.string y.1, .string y.2] 34)
        have hd0' := (Below.cell (((Below.refl wr.heap.size wr).alloc (Nat.le_refl _) (.cells #[.string x.1, .string x.2] 34))) (p := ad2.add (k * 2)) (World.block_lt_of_cell? _ _ hd0)).trans hd0
        have hd1' := (Below.cell (((Below.refl wr.heap.size wr).alloc (Nat.le_refl _) (.cells #[.string x.1, .string x.2] 34))) (p := ⟨(ad2.add (k * 2)).block, (ad2.add (k * 2)).off + 1, none⟩) (World.block_lt_of_cell? _ _ hd1)).trans hd1
        have hC := Lib.hid (cmpFn_any x y ((wr.alloc (.cells #[.string x.1, .string x.2] 34)).alloc (.cells #[.string y.1, .string y.2] 34)))
        clear heq
        obtain ⟨z, hz⟩ : ∃ z, cmpL x y = z := ⟨_, rfl⟩
        rw [hz] at hC hstep
        by_cases z0 : z = 0
        · subst z0
          have hT1 : Hid (X = cmpLs (xs.drop (k + 1)) (bs.drop (k + 1))) := hstep.out
          clear hstep hz
          have g1 : (k : Int) < (m : Int) := by omega
          go_wp2_with fail
          refine hC.out.mono ?_
          rintro e w1 ⟨rfl, hb1⟩
          go_wp2
          go_roundg (n - (k + 1))
          case measure => omega
          case rel => exact ⟨k + 1, by omega, by omega, by go_num, hT1, hB1.trans (hb1.mono hB1.size)⟩
        · have hF : Hid (X = z) := by have := hstep.out; unfold or2 at this; rw [if_neg z0] at this; exact this
          have hzb : (z != 0) = true := by rw [bne_iff_ne]; exact z0
          clear hstep hz
          have g1 : (k : Int) < (m : Int) := by omega
          go_wp2_with fail
          refine hC.out.mono ?_
          rintro e w1 ⟨rfl, hb1⟩
          go_wp2
          go_ret
          rw [hF.out]
          exact ⟨rfl, hB1.trans (hb1.mono hB1.size)⟩
      · have hF : Hid (X = 1) := heq.out.trans (cmpLs_gt (by have := HN.out; omega) (by have := HM.out; omega))
        have hB0 := hbr.alloc hsr (.cells #[.string (xs[k]'(by have := HN.out; omega)).1, .string (xs[k]'(by have := HN.out; omega)).2] 34)
        generalize xs[k]'(by have := HN.out; omega) = x at hc0 hc1 hB0
        have g1 : (m : Int) ≤ (k : Int) := by omega
        clear heq
        go_wp2
        go_ret
        rw [hF.out]
        exact ⟨rfl, hB0⟩
    · have hkn : k = n := by omega
      subst hkn
      by_cases hlt2 : k < m
      · have hF : Hid (X = -1) := heq.out.trans (cmpLs_lt (by have := HN.out; omega) (by have := HM.out; omega))
        have g1 : (k : Int) < (m : Int) := by omega
        clear heq
        go_wp2
        go_ret
        rw [hF.out]
        exact ⟨rfl, hbr⟩
      · have hF : Hid (X = 0) := heq.out.trans (cmpLs_eq (by have := HN.out; omega) (by have := HM.out; omega))
        have g1 : (m : Int) ≤ (k : Int) := by omega
        clear heq
        go_wp2
        go_ret
        rw [hF.out]
        exact ⟨rfl, hbr⟩
end Go.Proofs.YtbgnmojdkhlbaaaDoor
