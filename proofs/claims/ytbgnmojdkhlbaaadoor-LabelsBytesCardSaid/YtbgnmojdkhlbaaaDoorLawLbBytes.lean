/-
  The law LabelsBytes, walked.
-/
import Derived.Test.YtbgnmojdkhlbaaaDoorLbOrder
namespace Go.Proofs.YtbgnmojdkhlbaaaDoor
open Go.RowKit

/-- Two rows of bytes that are seen alike. -/
structure TwoB (w : World) (v2 v3 : Value) : Prop where
  out : ∃ (A2 A3 : Option Addr) (c2 c3 : Nat) (L : List UInt8), v2 = .slice A2 L.length c2 ∧ v3 = .slice A3 L.length c3 ∧ Sees w w.heap.size A2 (bv L) ∧ Sees w w.heap.size A3 (bv L)
/-- Two rows of labels that are seen alike. -/
structure TwoL (w : World) (v2 v3 : Value) : Prop where
  out : ∃ (A2 A3 : Option Addr) (c2 c3 : Nat) (l : List Lb), v2 = .slice A2 l.length c2 ∧ v3 = .slice A3 l.length c3 ∧ l.length ≤ 1099511627776 ∧ Sees w w.heap.size A2 (lv l) ∧ Sees w w.heap.size A3 (lv l)
theorem TwoB.nil (w : World) : TwoB w (.slice none 0 0) (.slice none 0 0) := ⟨none, none, 0, 0, [], rfl, rfl, Sees.nil _ _ _, Sees.nil _ _ _⟩
theorem TwoL.nil (w : World) : TwoL w (.slice none 0 0) (.slice none 0 0) := ⟨none, none, 0, 0, [], rfl, rfl, by simp, Sees.nil _ _ _, Sees.nil _ _ _⟩
theorem two_marsh {w w2 w3 : World} {ls : List Lb} {v2 v3 : Value} {k2 k3 : Nat} (hb3 : Below w2.heap.size w2 w3)
    (h2 : (MayL ls ∧ k2 = 0 ∧ OwnB w2 w.heap.size v2 (marsh (sortN ls))) ∨ (¬ MayL ls ∧ k2 = 70 ∧ v2 = .slice none 0 0))
    (h3 : (MayL ls ∧ k3 = 0 ∧ OwnB w3 w2.heap.size v3 (marsh (sortN ls))) ∨ (¬ MayL ls ∧ k3 = 70 ∧ v3 = .slice none 0 0)) : k2 = k3 ∧ TwoB w3 v2 v3 := by
  rcases h2 with ⟨h, e, ho⟩ | ⟨h, e, ho⟩ <;> rcases h3 with ⟨h', e', ho'⟩ | ⟨h', e', ho'⟩
  · obtain ⟨A2, c2, e2, -, -, -, hs2'⟩ := ho.open_
    obtain ⟨A3, c3, e3, -, -, -, hs3'⟩ := ho'.open_
    exact ⟨e.trans e'.symm, A2, A3, c2, c3, _, e2, e3, (hs2'.below hb3).more hb3.size, hs3'⟩
  · exact absurd h h'
  · exact absurd h' h
  · subst ho; subst ho'; exact ⟨e.trans e'.symm, TwoB.nil _⟩
theorem two_unm {w w2 w3 : World} {R : List Lb × Nat} {v2 v3 : Value} {k2 k3 : Nat} (hb3 : Below w2.heap.size w2 w3)
    (h2 : (R.2 = 0 ∧ MayL R.1 ∧ sortN R.1 = R.1 ∧ k2 = 0 ∧ OwnL w2 w.heap.size v2 R.1) ∨ (R.2 = 0 ∧ ¬ (MayL R.1 ∧ sortN R.1 = R.1) ∧ k2 = 11 ∧ v2 = .slice none 0 0) ∨ (R.2 ≠ 0 ∧ k2 = R.2 ∧ v2 = .slice none 0 0))
    (h3 : (R.2 = 0 ∧ MayL R.1 ∧ sortN R.1 = R.1 ∧ k3 = 0 ∧ OwnL w3 w2.heap.size v3 R.1) ∨ (R.2 = 0 ∧ ¬ (MayL R.1 ∧ sortN R.1 = R.1) ∧ k3 = 11 ∧ v3 = .slice none 0 0) ∨ (R.2 ≠ 0 ∧ k3 = R.2 ∧ v3 = .slice none 0 0)) : k2 = k3 ∧ TwoL w3 v2 v3 := by
  rcases h2 with ⟨h, m, s, e, ho⟩ | ⟨h, m, e, ho⟩ | ⟨h, e, ho⟩ <;> rcases h3 with ⟨h', m', s', e', ho'⟩ | ⟨h', m', e', ho'⟩ | ⟨h', e', ho'⟩
  · obtain ⟨A2, c2, e2, -, -, hs2'⟩ := ho.open_
    obtain ⟨A3, c3, e3, -, -, hs3'⟩ := ho'.open_
    exact ⟨e.trans e'.symm, A2, A3, c2, c3, _, e2, e3, by have := m.few; omega, (hs2'.below hb3).more hb3.size, hs3'⟩
  · exact absurd ⟨m, s⟩ m'
  · exact absurd h h'
  · exact absurd ⟨m', s'⟩ m
  · subst ho; subst ho'; exact ⟨e.trans e'.symm, TwoL.nil _⟩
  · exact absurd h h'
  · exact absurd h' h
  · exact absurd h' h
  · subst ho; subst ho'; exact ⟨e.trans e'.symm, TwoL.nil _⟩
theorem TwoB.below {w w' : World} {v2 v3 : Value} (h : TwoB w v2 v3) (hb : Below w.heap.size w w') : TwoB w' v2 v3 := by
  obtain ⟨A2, A3, c2, c3, L, e2, e3, h2, h3⟩ := h.out
  exact ⟨A2, A3, c2, c3, L, e2, e3, (h2.below hb).more hb.size, (h3.below hb).more hb.size⟩
theorem TwoL.below {w w' : World} {v2 v3 : Value} (h : TwoL w v2 v3) (hb : Below w.heap.size w w') : TwoL w' v2 v3 := by
  obtain ⟨A2, A3, c2, c3, l, e2, e3, hl, h2, h3⟩ := h.out
  exact ⟨A2, A3, c2, c3, l, e2, e3, hl, (h2.below hb).more hb.size, (h3.below hb).more hb.size⟩

set_option maxRecDepth 100000 in
set_option maxHeartbeats 3200000 in
theorem LabelsBytes_any (A B : Option Addr) (n c p d : Nat) (ls : List Lb) (b : List UInt8) (s : ByteArray) (hn : ls.length = n) (hp : b.length = p) (hpd : p ≤ d) (w : World) (hS : Sees w w.heap.size A (lv ls)) (hT : Sees w w.heap.size B (bv b)) :
    Calls Tryd.prog 7 #[.slice A n c, .slice B p d, .string s] w (Gives w (.bool true)) := by
  have hA := Lib.hid (awake_any w)
  have HN := Lib.hid hn
  have HP := Lib.hid hp
  have HPD := Lib.hid hpd
  clear hn hp hpd
  go_enter Tryd.func7, Tryd.ntmps7
  go_wp2_with fail
  refine hA.out.mono ?_
  rintro en w1 ⟨rfl, hb1⟩
  have hs1 := hb1.size
  have hS1 := (hS.below hb1).more hs1
  have hT1 := (hT.below hb1).more hs1
  have hF := Lib.hid (few_any A n c ls HN.out w1 hS1)
  clear hA
  go_wp2_with fail
  refine hF.out.mono ?_
  rintro en w1' ⟨bf, hfew, rfl, rfl⟩
  clear hF
  cases bf with
  | false =>
    go_wp2
    go_ret
    exact ⟨rfl, hb1⟩
  | true =>
  by_cases hp : p ≤ 1000
  rotate_left
  · have hp' : (1000 : Int) < (p : Int) := by omega
    go_wp2
    go_ret
    exact ⟨rfl, hb1⟩
  have hp' : (p : Int) ≤ 1000 := by omega
  by_cases hs : s.size ≤ 300
  rotate_left
  · have hs' : (300 : Int) < (s.size : Int) := by omega
    go_wp2
    go_ret
    exact ⟨rfl, hb1⟩
  have hs' : (s.size : Int) ≤ 300 := by omega
  have HFA := Lib.hid (hfew rfl)
  have hl1 : n ≤ 1099511627776 := by have := HFA.out.len; have := HN.out; omega
  clear hfew
  have hz1 : Hid (∀ x ∈ ls, x.1.size ≤ 9223372036854775807) := fun x hx => by have := (HFA.out.all x hx).1; omega
  have hM1 := Lib.hid (Marshal_any A n c ls HN.out w1 hS1 hl1 hz1.out)
  go_wp2_with fail
  refine hM1.out.mono ?_
  rintro en w2 ⟨v2, k2, rfl, hb2, hres2⟩
  clear hM1
  have hs2 := hb2.size
  have hS2 := (hS1.below hb2).more hs2
  have hM2 := Lib.hid (RefMarshal_any A n c ls HN.out w2 hS2 hl1 hz1.out)
  go_wp2_with fail
  refine hM2.out.mono ?_
  rintro en w3 ⟨v3, k3, rfl, hb3, hres3⟩
  clear hM2
  have htm := two_marsh hb3 hres2 hres3
  clear hres2 hres3
  obtain ⟨rfl, htb⟩ := htm
  have hb13 : Below w1.heap.size w1 w3 := hb2.trans (hb3.mono hs2)
  have hs13 := hb13.size
  have hT3 := (hT1.below hb13).more hs13
  have hU1 := Lib.hid (Unmarshal_any B p d b HP.out HPD.out w3 hT3 (by omega))
  obtain ⟨R, hR⟩ : ∃ R, parse b = R := ⟨_, rfl⟩
  rw [hR] at hU1
  have HR := Lib.hid hR
  clear hR
  go_wp2_with fail
  refine hU1.out.mono ?_
  rintro en w4 ⟨v4, k4, rfl, hb4, hres4⟩
  clear hU1
  have hs4 := hb4.size
  have hT4 := (hT3.below hb4).more hs4
  have hU2 := Lib.hid (RefUnmarshal_any B p d b HP.out HPD.out w4 hT4 (by omega))
  rw [HR.out] at hU2
  go_wp2_with fail
  refine hU2.out.mono ?_
  rintro en w5 ⟨v5, k5, rfl, hb5, hres5⟩
  clear hU2
  have htm := two_unm hb5 hres4 hres5
  clear hres4 hres5
  obtain ⟨rfl, htl⟩ := htm
  have hb35 : Below w3.heap.size w3 w5 := hb4.trans (hb5.mono hs4)
  have hs5 := hb5.size
  have hb15 : Below w1.heap.size w1 w5 := hb13.trans (hb35.mono hs13)
  have hT5 := (hT4.below hb5).more hs5
  have htb5 := htb.below hb35
  obtain ⟨K, hK⟩ : ∃ K, cutR b = K := ⟨_, rfl⟩
  have hC1 := Lib.hid (Cut_any B p d b HP.out HPD.out w5 hT5 (by omega))
  have hle := cutF_le b [] 0
  change (cutR b).2.1 ≤ _ ∧ ((cutR b).2.2 ≠ 0 → (cutR b).1 = [] ∧ (cutR b).2.1 = 0) at hle
  rw [hK] at hC1 hle
  have HK := Lib.hid hK
  clear hK
  go_wp2_with fail
  refine hC1.out.mono ?_
  rintro en w6 ⟨v6, rfl, hown6, hb6⟩
  clear hC1
  have hs6 := hb6.size
  have hT6 := (hT5.below hb6).more hs6
  have hC2 := Lib.hid (RefCut_any B p d b HP.out w6 hT6 (by omega))
  rw [HK.out] at hC2
  go_wp2_with fail
  refine hC2.out.mono ?_
  rintro en w7 ⟨rfl, hb7⟩
  clear hC2
  have hs7 := hb7.size
  have hT7 := (hT6.below hb7).more hs7
  have hb57 : Below w5.heap.size w5 w7 := hb6.trans (hb7.mono hs6)
  have htb7 := htb5.below hb57
  have htl7 := htl.below hb57
  have hown7 := hown6.below hb7
  have hb17 : Below w1.heap.size w1 w7 := hb15.trans (hb57.mono (by omega))
  clear hown6 htb5 htl htb hb35 hb15 hb13 hT1 hT3 hT4 hT5 hT6 hS1 hS2 hb2 hb3 hb4 hb5 hb6 hb7
  obtain ⟨t, k, e⟩ := K
  simp only at hown7 hle
  go_upto_region 13 with fail
  go_cut [23, 1] (fun t _ wx => t = .bool true ∧ ∃ q, wx = w7.drewN q)
  case first =>
    by_cases he : e = 0
    · subst he
      rw [if_pos rfl] at hown7
      obtain ⟨A6, c6, e6, hc6, -, -, hsd⟩ := hown7.open_
      have hdl : (b.drop k).length = p - k := by rw [List.length_drop, HP.out]
      rw [hdl] at e6
      subst e6
      have hkp : k ≤ p := by have := hle.1; have := HP.out; omega
      have g1 : (k : Int) ≤ (p : Int) := by omega
      have g2 : (k : Int) ≤ (d : Int) := by have := HPD.out; omega
      have g3 : (0 : Int) ≤ (k : Int) := by omega
      have hcut := hT7.cut (k := k) (cap := d) (by rw [bv_length]; have := HP.out; have := HPD.out; omega)
      rw [← bv_drop, Nat.mul_one] at hcut
      have cv1 := fun q => run_str (w7.drewN q) _ _ (p - k) (d - k) (b.drop k) (hcut.drewN q) hdl
      have cv2 := fun q => run_str (w7.drewN q) _ A6 (p - k) c6 (b.drop k) (hsd.drewN q) hdl
      have hst : ((strOf t).toList == (strOf t).toList) = true := by simp
      clear hcut hle
      generalize strOf (b.drop k) = sb at cv1 cv2
      go_quiet (fail)
      all_goals go_wp2_with fail
      all_goals
        go_meet
        exact ⟨rfl, _, rfl⟩
    · have hez : ((e : Int) != 0) = true := by rw [bne_iff_ne]; omega
      rw [if_neg he] at hown7
      obtain ⟨A6, c6, e6, hc6, -, -, hsd⟩ := hown7.open_
      rw [List.length_nil] at e6
      subst e6
      have hst : ((strOf t).toList == (strOf t).toList) = true := by simp
      clear hle
      go_quiet (fail)
      go_wp2_with fail
      go_meet
      exact ⟨rfl, _, rfl⟩
  case rest =>
    obtain ⟨rfl, q, rfl⟩ := hcut
    have hbw := below_d hb17 q
    have htbw := htb7.below (below_d (Below.refl _ w7) q)
    have htlw := htl7.below (below_d (Below.refl _ w7) q)
    clear hb17 htb7 htl7 hown7 hT7 hb57 hle
    generalize w7.drewN q = W at hbw htbw htlw ⊢
    obtain ⟨A2, A3, c2, c3, L, rfl, rfl, hx2, hx3⟩ := htbw.out
    obtain ⟨A4, A5, c4, c5, l, rfl, rfl, hl, hy4, hy5⟩ := htlw.out
    clear htbw htlw
    have hE1 := fun W => Lib.hid (Escape_any s W (by omega))
    have hE2 := fun W => Lib.hid (RefEscape_any s W (by omega))
    obtain ⟨X, hX⟩ : ∃ X, esc s.data.toList = X := ⟨_, rfl⟩
    rw [hX] at hE1 hE2
    clear hX
    obtain ⟨sL, hsL⟩ : ∃ sL, strOf L = sL := ⟨_, rfl⟩
    have HSL := Lib.hid hsL
    clear hsL
    have e1 : ((k2 : Int) == (k2 : Int)) = true := by simp
    have e2 : ((k4 : Int) == (k4 : Int)) = true := by simp
    have e3 : (sL.toList == sL.toList) = true := by simp
    have hbw1 := hb1.trans (hbw.mono hs1)
    clear hbw
    go_wp2_with fail
    refine wp_region_noPanic ?_
    refine wp_region_held_drew (S := fun w' => (convert 35 9 (.slice A2 L.length c2)).run Tryd.prog w' = .ok (.string sL) w' ∧ (convert 35 9 (.slice A3 L.length c3)).run Tryd.prog w' = .ok (.string sL) w') (by kernel_rfl) ?_ (fun hHeld => ?_)
    · (exact ⟨by rw [← HSL.out]; exact run_str W.drew _ A2 _ c2 L hx2.drew rfl, by rw [← HSL.out]; exact run_str W.drew _ A3 _ c3 L hx3.drew rfl⟩)
    have r0 : Below W.heap.size W W.drew := below_drew (Below.refl _ _)
    generalize W.drew = w_0 at r0 hHeld ⊢
    refine wpAnyH_take (i := 0) (oi := { dst := some 103, op := Op.move (Operand.tmp 23), type := 4, pos := "law.go:64", after := #[], guard := none }) (v := ?_) rfl (by kernel_rfl) (by kernel_rfl) (by kernel_rfl) (fun _ _ _ h => h) (Or.inl ⟨by rfl, ?_⟩) hHeld ?_
    rotate_left
    · (intro w' hSw; (try dsimp only at hSw); go_split_ands; go_simp; first | done | with_reducible rfl)
    try simp only [Act.put, List.setIfInBounds_toArray, List.set_cons_zero, List.set_cons_succ]
    refine wpAnyH_take (i := 1) (oi := { dst := some 104, op := Op.move (Operand.tmp 103), type := 4, pos := "law.go:64", after := #[{ on := 0, ground := Ground.data }], guard := none }) (v := ?_) rfl (by kernel_rfl) (by kernel_rfl) (by kernel_rfl) (fun _ _ _ h => h) (Or.inl ⟨by rfl, ?_⟩) hHeld ?_
    rotate_left
    · (intro w' hSw; (try dsimp only at hSw); go_split_ands; go_simp; first | done | with_reducible rfl)
    try simp only [Act.put, List.setIfInBounds_toArray, List.set_cons_zero, List.set_cons_succ]
    refine wpAnyH_take (i := 2) (oi := { dst := some 105, op := Op.move (Operand.tmp 10), type := 25, pos := "law.go:64", after := #[{ on := 1, ground := Ground.guard }], guard := some (1, true) }) (v := ?_) rfl (by kernel_rfl) (by kernel_rfl) (by kernel_rfl) (fun _ _ _ h => h) (Or.inl ⟨by rfl, ?_⟩) hHeld ?_
    rotate_left
    · (intro w' hSw; (try dsimp only at hSw); go_split_ands; go_simp; first | done | with_reducible rfl)
    try simp only [Act.put, List.setIfInBounds_toArray, List.set_cons_zero, List.set_cons_succ]
    refine wpAnyH_take (i := 3) (oi := { dst := some 106, op := Op.move (Operand.tmp 12), type := 25, pos := "law.go:64", after := #[{ on := 1, ground := Ground.guard }], guard := some (1, true) }) (v := ?_) rfl (by kernel_rfl) (by kernel_rfl) (by kernel_rfl) (fun _ _ _ h => h) (Or.inl ⟨by rfl, ?_⟩) hHeld ?_
    rotate_left
    · (intro w' hSw; (try dsimp only at hSw); go_split_ands; go_simp; first | done | with_reducible rfl)
    try simp only [Act.put, List.setIfInBounds_toArray, List.set_cons_zero, List.set_cons_succ]
    refine wpAnyH_take (i := 4) (oi := { dst := some 107, op := Op.binOp BinOp.eql 25 (Operand.tmp 105) (Operand.tmp 106) 25, type := 4, pos := "law.go:64", after := #[{ on := 2, ground := Ground.data }, { on := 3, ground := Ground.data }, { on := 1, ground := Ground.guard }], guard := some (1, true) }) (v := ?_) rfl (by kernel_rfl) (by kernel_rfl) (by kernel_rfl) (fun _ _ _ h => h) (Or.inl ⟨by rfl, ?_⟩) hHeld ?_
    rotate_left
    · (intro w' hSw; (try dsimp only at hSw); go_split_ands; go_simp; first | done | with_reducible rfl)
    try simp only [Act.put, List.setIfInBounds_toArray, List.set_cons_zero, List.set_cons_succ]
    refine wpAnyH_take (i := 5) (oi := { dst := some 108, op := Op.pick (Operand.tmp 104) (Operand.tmp 107) (Operand.const (Value.bool false)), type := 4, pos := "law.go:64", after := #[{ on := 1, ground := Ground.data }, { on := 4, ground := Ground.data }], guard := none }) (v := ?_) rfl (by kernel_rfl) (by kernel_rfl) (by kernel_rfl) (fun _ _ _ h => h) (Or.inl ⟨by rfl, ?_⟩) hHeld ?_
    rotate_left
    · (intro w' hSw; (try dsimp only at hSw); go_split_ands; go_simp; first | done | with_reducible rfl)
    try simp only [Act.put, List.setIfInBounds_toArray, List.set_cons_zero, List.set_cons_succ]
    refine wpAnyH_take (i := 6) (oi := { dst := some 109, op := Op.move (Operand.tmp 108), type := 4, pos := "law.go:64", after := #[{ on := 5, ground := Ground.data }, { on := 1, ground := Ground.chain }], guard := none }) (v := ?_) rfl (by kernel_rfl) (by kernel_rfl) (by kernel_rfl) (fun _ _ _ h => h) (Or.inl ⟨by rfl, ?_⟩) hHeld ?_
    rotate_left
    · (intro w' hSw; (try dsimp only at hSw); go_split_ands; go_simp; first | done | with_reducible rfl)
    try simp only [Act.put, List.setIfInBounds_toArray, List.set_cons_zero, List.set_cons_succ]
    refine wpAnyH_take (i := 7) (oi := { dst := some 110, op := Op.move (Operand.tmp 9), type := 35, pos := "law.go:64", after := #[{ on := 6, ground := Ground.guard }], guard := some (6, true) }) (v := ?_) rfl (by kernel_rfl) (by kernel_rfl) (by kernel_rfl) (fun _ _ _ h => h) (Or.inl ⟨by rfl, ?_⟩) hHeld ?_
    rotate_left
    · (intro w' hSw; (try dsimp only at hSw); go_split_ands; go_simp; first | done | with_reducible rfl)
    try simp only [Act.put, List.setIfInBounds_toArray, List.set_cons_zero, List.set_cons_succ]
    refine wpAnyH_take (i := 8) (oi := { dst := some 111, op := Op.convert 35 9 (Operand.tmp 110), type := 9, pos := "law.go:64", after := #[{ on := 7, ground := Ground.data }, { on := 6, ground := Ground.guard }], guard := some (6, true) }) (v := ?_) rfl (by kernel_rfl) (by kernel_rfl) (by kernel_rfl) (fun _ _ _ h => h) (Or.inl ⟨by rfl, ?_⟩) hHeld ?_
    rotate_left
    · (intro w' hSw; (try dsimp only at hSw); go_split_ands; go_simp; first | done | with_reducible rfl)
    try simp only [Act.put, List.setIfInBounds_toArray, List.set_cons_zero, List.set_cons_succ]
    refine wpAnyH_take (i := 9) (oi := { dst := some 112, op := Op.move (Operand.tmp 11), type := 35, pos := "law.go:64", after := #[{ on := 6, ground := Ground.guard }], guard := some (6, true) }) (v := ?_) rfl (by kernel_rfl) (by kernel_rfl) (by kernel_rfl) (fun _ _ _ h => h) (Or.inl ⟨by rfl, ?_⟩) hHeld ?_
    rotate_left
    · (intro w' hSw; (try dsimp only at hSw); go_split_ands; go_simp; first | done | with_reducible rfl)
    try simp only [Act.put, List.setIfInBounds_toArray, List.set_cons_zero, List.set_cons_succ]
    refine wpAnyH_take (i := 10) (oi := { dst := some 113, op := Op.convert 35 9 (Operand.tmp 112), type := 9, pos := "law.go:64", after := #[{ on := 9, ground := Ground.data }, { on := 6, ground := Ground.guard }], guard := some (6, true) }) (v := ?_) rfl (by kernel_rfl) (by kernel_rfl) (by kernel_rfl) (fun _ _ _ h => h) (Or.inl ⟨by rfl, ?_⟩) hHeld ?_
    rotate_left
    · (intro w' hSw; (try dsimp only at hSw); go_split_ands; go_simp; first | done | with_reducible rfl)
    try simp only [Act.put, List.setIfInBounds_toArray, List.set_cons_zero, List.set_cons_succ]
    refine wpAnyH_take (i := 11) (oi := { dst := some 114, op := Op.binOp BinOp.eql 9 (Operand.tmp 111) (Operand.tmp 113) 9, type := 4, pos := "law.go:64", after := #[{ on := 8, ground := Ground.data }, { on := 10, ground := Ground.data }, { on := 6, ground := Ground.guard }], guard := some (6, true) }) (v := ?_) rfl (by kernel_rfl) (by kernel_rfl) (by kernel_rfl) (fun _ _ _ h => h) (Or.inl ⟨by rfl, ?_⟩) hHeld ?_
    rotate_left
    · (intro w' hSw; (try dsimp only at hSw); go_split_ands; go_simp; first | done | with_reducible rfl)
    try simp only [Act.put, List.setIfInBounds_toArray, List.set_cons_zero, List.set_cons_succ]
    refine wpAnyH_take (i := 12) (oi := { dst := some 115, op := Op.pick (Operand.tmp 109) (Operand.tmp 114) (Operand.const (Value.bool false)), type := 4, pos := "law.go:64", after := #[{ on := 6, ground := Ground.data }, { on := 11, ground := Ground.data }], guard := none }) (v := ?_) rfl (by kernel_rfl) (by kernel_rfl) (by kernel_rfl) (fun _ _ _ h => h) (Or.inl ⟨by rfl, ?_⟩) hHeld ?_
    rotate_left
    · (intro w' hSw; (try dsimp only at hSw); go_split_ands; go_simp; first | done | with_reducible rfl)
    try simp only [Act.put, List.setIfInBounds_toArray, List.set_cons_zero, List.set_cons_succ]
    refine wpAnyH_take (i := 13) (oi := { dst := some 116, op := Op.move (Operand.tmp 115), type := 4, pos := "law.go:64", after := #[{ on := 12, ground := Ground.data }, { on := 6, ground := Ground.chain }], guard := none }) (v := ?_) rfl (by kernel_rfl) (by kernel_rfl) (by kernel_rfl) (fun _ _ _ h => h) (Or.inl ⟨by rfl, ?_⟩) hHeld ?_
    rotate_left
    · (intro w' hSw; (try dsimp only at hSw); go_split_ands; go_simp; first | done | with_reducible rfl)
    try simp only [Act.put, List.setIfInBounds_toArray, List.set_cons_zero, List.set_cons_succ]
    refine wpAnyH_take (i := 14) (oi := { dst := some 117, op := Op.move (Operand.tmp 14), type := 25, pos := "law.go:64", after := #[{ on := 13, ground := Ground.guard }], guard := some (13, true) }) (v := ?_) rfl (by kernel_rfl) (by kernel_rfl) (by kernel_rfl) (fun _ _ _ h => h) (Or.inl ⟨by rfl, ?_⟩) hHeld ?_
    rotate_left
    · (intro w' hSw; (try dsimp only at hSw); go_split_ands; go_simp; first | done | with_reducible rfl)
    try simp only [Act.put, List.setIfInBounds_toArray, List.set_cons_zero, List.set_cons_succ]
    refine wpAnyH_take (i := 15) (oi := { dst := some 118, op := Op.move (Operand.tmp 16), type := 25, pos := "law.go:64", after := #[{ on := 13, ground := Ground.guard }], guard := some (13, true) }) (v := ?_) rfl (by kernel_rfl) (by kernel_rfl) (by kernel_rfl) (fun _ _ _ h => h) (Or.inl ⟨by rfl, ?_⟩) hHeld ?_
    rotate_left
    · (intro w' hSw; (try dsimp only at hSw); go_split_ands; go_simp; first | done | with_reducible rfl)
    try simp only [Act.put, List.setIfInBounds_toArray, List.set_cons_zero, List.set_cons_succ]
    refine wpAnyH_take (i := 16) (oi := { dst := some 119, op := Op.binOp BinOp.eql 25 (Operand.tmp 117) (Operand.tmp 118) 25, type := 4, pos := "law.go:64", after := #[{ on := 14, ground := Ground.data }, { on := 15, ground := Ground.data }, { on := 13, ground := Ground.guard }], guard := some (13, true) }) (v := ?_) rfl (by kernel_rfl) (by kernel_rfl) (by kernel_rfl) (fun _ _ _ h => h) (Or.inl ⟨by rfl, ?_⟩) hHeld ?_
    rotate_left
    · (intro w' hSw; (try dsimp only at hSw); go_split_ands; go_simp; first | done | with_reducible rfl)
    try simp only [Act.put, List.setIfInBounds_toArray, List.set_cons_zero, List.set_cons_succ]
    refine wpAnyH_take (i := 17) (oi := { dst := some 120, op := Op.pick (Operand.tmp 116) (Operand.tmp 119) (Operand.const (Value.bool false)), type := 4, pos := "law.go:64", after := #[{ on := 13, ground := Ground.data }, { on := 16, ground := Ground.data }], guard := none }) (v := ?_) rfl (by kernel_rfl) (by kernel_rfl) (by kernel_rfl) (fun _ _ _ h => h) (Or.inl ⟨by rfl, ?_⟩) hHeld ?_
    rotate_left
    · (intro w' hSw; (try dsimp only at hSw); go_split_ands; go_simp; first | done | with_reducible rfl)
    try simp only [Act.put, List.setIfInBounds_toArray, List.set_cons_zero, List.set_cons_succ]
    refine wpAnyH_take (i := 18) (oi := { dst := some 121, op := Op.move (Operand.tmp 120), type := 4, pos := "law.go:64", after := #[{ on := 17, ground := Ground.data }, { on := 13, ground := Ground.chain }], guard := none }) (v := ?_) rfl (by kernel_rfl) (by kernel_rfl) (by kernel_rfl) (fun _ _ _ h => h) (Or.inl ⟨by rfl, ?_⟩) hHeld ?_
    rotate_left
    · (intro w' hSw; (try dsimp only at hSw); go_split_ands; go_simp; first | done | with_reducible rfl)
    try simp only [Act.put, List.setIfInBounds_toArray, List.set_cons_zero, List.set_cons_succ]
    refine wpAnyH_take (i := 19) (oi := { dst := some 122, op := Op.move (Operand.tmp 13), type := 22, pos := "law.go:64", after := #[{ on := 18, ground := Ground.guard }], guard := some (18, true) }) (v := ?_) rfl (by kernel_rfl) (by kernel_rfl) (by kernel_rfl) (fun _ _ _ h => h) (Or.inl ⟨by rfl, ?_⟩) hHeld ?_
    rotate_left
    · (intro w' hSw; (try dsimp only at hSw); go_split_ands; go_simp; first | done | with_reducible rfl)
    try simp only [Act.put, List.setIfInBounds_toArray, List.set_cons_zero, List.set_cons_succ]
    refine wpAnyH_take (i := 20) (oi := { dst := some 123, op := Op.move (Operand.tmp 15), type := 22, pos := "law.go:64", after := #[{ on := 18, ground := Ground.guard }], guard := some (18, true) }) (v := ?_) rfl (by kernel_rfl) (by kernel_rfl) (by kernel_rfl) (fun _ _ _ h => h) (Or.inl ⟨by rfl, ?_⟩) hHeld ?_
    rotate_left
    · (intro w' hSw; (try dsimp only at hSw); go_split_ands; go_simp; first | done | with_reducible rfl)
    try simp only [Act.put, List.setIfInBounds_toArray, List.set_cons_zero, List.set_cons_succ]
    refine wpAnyH_ready (rs := [21]) (by kernel_rfl) (by simp) ?_
    refine AllReadyH.cons (o := { dst := some 124, op := Op.call { callee := Callee.value (Operand.func 13), args := #[Operand.tmp 122, Operand.tmp 123], argTypes := #[22, 22] }, type := 4, pos := "law.go:64", after := #[{ on := 19, ground := Ground.data }, { on := 20, ground := Ground.data }, { on := 18, ground := Ground.chain }, { on := 18, ground := Ground.guard }], guard := some (18, true) }) rfl (fun K hK => ?_) AllReadyH.nil
    go_simp
    refine (Same_any A4 A5 l.length c4 l.length c5 l l rfl rfl w_0 ((hy4.below r0).more r0.size) ((hy5.below r0).more r0.size) hl hl).mono ?_
    rw [sameLs_self]
    rintro en w_x ⟨rfl, q1, rfl⟩
    have r1 := below_d r0 q1
    generalize w_0.drewN q1 = w_1 at r1 ⊢
    go_wp2_with fail
    refine hK.out _ _ ?_ ?_
    · (exact ⟨by rw [← HSL.out]; exact run_str w_1 _ A2 _ c2 L (hx2.below r1) rfl, by rw [← HSL.out]; exact run_str w_1 _ A3 _ c3 L (hx3.below r1) rfl⟩)
    clear hK K hHeld; intro hHeld
    try simp only [Act.put, List.setIfInBounds_toArray, List.set_cons_zero, List.set_cons_succ]
    refine wpAnyH_take (i := 22) (oi := { dst := some 125, op := Op.pick (Operand.tmp 121) (Operand.tmp 124) (Operand.const (Value.bool false)), type := 4, pos := "law.go:64", after := #[{ on := 18, ground := Ground.data }, { on := 21, ground := Ground.data }], guard := none }) (v := ?_) rfl (by kernel_rfl) (by kernel_rfl) (by kernel_rfl) (fun _ _ _ h => h) (Or.inl ⟨by rfl, ?_⟩) hHeld ?_
    rotate_left
    · (intro w' hSw; (try dsimp only at hSw); go_split_ands; go_simp; first | done | with_reducible rfl)
    try simp only [Act.put, List.setIfInBounds_toArray, List.set_cons_zero, List.set_cons_succ]
    refine wpAnyH_take (i := 23) (oi := { dst := some 126, op := Op.move (Operand.tmp 125), type := 4, pos := "law.go:64", after := #[{ on := 22, ground := Ground.data }, { on := 21, ground := Ground.chain }], guard := none }) (v := ?_) rfl (by kernel_rfl) (by kernel_rfl) (by kernel_rfl) (fun _ _ _ h => h) (Or.inl ⟨by rfl, ?_⟩) hHeld ?_
    rotate_left
    · (intro w' hSw; (try dsimp only at hSw); go_split_ands; go_simp; first | done | with_reducible rfl)
    try simp only [Act.put, List.setIfInBounds_toArray, List.set_cons_zero, List.set_cons_succ]
    refine wpAnyH_take (i := 24) (oi := { dst := some 127, op := Op.move (Operand.tmp 2), type := 9, pos := "law.go:64", after := #[{ on := 23, ground := Ground.guard }], guard := some (23, true) }) (v := ?_) rfl (by kernel_rfl) (by kernel_rfl) (by kernel_rfl) (fun _ _ _ h => h) (Or.inl ⟨by rfl, ?_⟩) hHeld ?_
    rotate_left
    · (intro w' hSw; (try dsimp only at hSw); go_split_ands; go_simp; first | done | with_reducible rfl)
    try simp only [Act.put, List.setIfInBounds_toArray, List.set_cons_zero, List.set_cons_succ]
    refine wpAnyH_take (i := 27) (oi := { dst := some 130, op := Op.move (Operand.tmp 2), type := 9, pos := "law.go:64", after := #[{ on := 23, ground := Ground.guard }], guard := some (23, true) }) (v := ?_) rfl (by kernel_rfl) (by kernel_rfl) (by kernel_rfl) (fun _ _ _ h => h) (Or.inl ⟨by rfl, ?_⟩) hHeld ?_
    rotate_left
    · (intro w' hSw; (try dsimp only at hSw); go_split_ands; go_simp; first | done | with_reducible rfl)
    try simp only [Act.put, List.setIfInBounds_toArray, List.set_cons_zero, List.set_cons_succ]
    refine wpAnyH_ready (rs := [25]) (by kernel_rfl) (by simp) ?_
    refine AllReadyH.cons (o := { dst := some 128, op := Op.call { callee := Callee.value (Operand.func 21), args := #[Operand.tmp 127], argTypes := #[9] }, type := 35, pos := "law.go:64", after := #[{ on := 24, ground := Ground.data }, { on := 23, ground := Ground.chain }, { on := 23, ground := Ground.guard }], guard := some (23, true) }) rfl (fun K hK => ?_) AllReadyH.nil
    go_simp
    refine (hE1 w_1).out.mono ?_
    rintro en w_2 ⟨v2, rfl, hown2, hon2⟩
    have b2 := hon2.below_nil
    have r2 := r1.trans (b2.mono r1.size)
    obtain ⟨E2, d2, rfl, -, -, -, se1_2⟩ := hown2.open_
    go_wp2_with fail
    refine hK.out _ _ ?_ ?_
    · (exact ⟨by rw [← HSL.out]; exact run_str w_2 _ A2 _ c2 L (hx2.below r2) rfl, by rw [← HSL.out]; exact run_str w_2 _ A3 _ c3 L (hx3.below r2) rfl⟩)
    clear hK K hHeld; intro hHeld
    try simp only [Act.put, List.setIfInBounds_toArray, List.set_cons_zero, List.set_cons_succ]
    refine wpAnyH_ready (rs := [26, 28]) (by kernel_rfl) (by simp) ?_
    refine AllReadyH.cons (o := { dst := some 129, op := Op.convert 35 9 (Operand.tmp 128), type := 9, pos := "law.go:64", after := #[{ on := 25, ground := Ground.data }, { on := 23, ground := Ground.guard }], guard := some (23, true) }) rfl (fun K hK => ?_) ?_
    · have cv1 := run_str w_2 _ E2 X.length d2 X se1_2 rfl
      go_simp
      refine hK.out _ _ ?_ ?_
      · (exact ⟨by rw [← HSL.out]; exact run_str w_2 _ A2 _ c2 L (hx2.below r2) rfl, by rw [← HSL.out]; exact run_str w_2 _ A3 _ c3 L (hx3.below r2) rfl⟩)
      clear hK K hHeld; intro hHeld
      try simp only [Act.put, List.setIfInBounds_toArray, List.set_cons_zero, List.set_cons_succ]
      refine wpAnyH_ready (rs := [28]) (by kernel_rfl) (by simp) ?_
      refine AllReadyH.cons (o := { dst := some 131, op := Op.call { callee := Callee.value (Operand.func 27), args := #[Operand.tmp 130], argTypes := #[9] }, type := 35, pos := "law.go:64", after := #[{ on := 27, ground := Ground.data }, { on := 25, ground := Ground.chain }, { on := 23, ground := Ground.guard }], guard := some (23, true) }) rfl (fun K hK => ?_) AllReadyH.nil
      go_simp
      refine (hE2 w_2).out.mono ?_
      rintro en w_3 ⟨v3, rfl, hown3, hon3⟩
      have b3 := hon3.below_nil
      have r3 := r2.trans (b3.mono r2.size)
      obtain ⟨E3, d3, rfl, -, -, -, se2_3⟩ := hown3.open_
      have se1_3 := (se1_2.below b3).more b3.size
      go_wp2_with fail
      refine hK.out _ _ ?_ ?_
      · (exact ⟨by rw [← HSL.out]; exact run_str w_3 _ A2 _ c2 L (hx2.below r3) rfl, by rw [← HSL.out]; exact run_str w_3 _ A3 _ c3 L (hx3.below r3) rfl⟩)
      clear hK K hHeld; intro hHeld
      try simp only [Act.put, List.setIfInBounds_toArray, List.set_cons_zero, List.set_cons_succ]
      refine wpAnyH_ready (rs := [29]) (by kernel_rfl) (by simp) ?_
      refine AllReadyH.cons (o := { dst := some 132, op := Op.convert 35 9 (Operand.tmp 131), type := 9, pos := "law.go:64", after := #[{ on := 28, ground := Ground.data }, { on := 23, ground := Ground.guard }], guard := some (23, true) }) rfl (fun K hK => ?_) AllReadyH.nil
      have cv2 := run_str w_3 _ E3 X.length d3 X se2_3 rfl
      go_simp
      refine hK.out _ _ ?_ ?_
      · (exact ⟨by rw [← HSL.out]; exact run_str w_3 _ A2 _ c2 L (hx2.below r3) rfl, by rw [← HSL.out]; exact run_str w_3 _ A3 _ c3 L (hx3.below r3) rfl⟩)
      clear hK K hHeld; intro hHeld
      try simp only [Act.put, List.setIfInBounds_toArray, List.set_cons_zero, List.set_cons_succ]
      refine wpAnyH_take (i := 30) (oi := { dst := some 133, op := Op.binOp BinOp.eql 9 (Operand.tmp 129) (Operand.tmp 132) 9, type := 4, pos := "law.go:64", after := #[{ on := 26, ground := Ground.data }, { on := 29, ground := Ground.data }, { on := 23, ground := Ground.guard }], guard := some (23, true) }) (v := ?_) rfl (by kernel_rfl) (by kernel_rfl) (by kernel_rfl) (fun _ _ _ h => h) (Or.inl ⟨by rfl, ?_⟩) hHeld ?_
      rotate_left
      · (intro w' hSw; (try dsimp only at hSw); go_split_ands; go_simp; first | done | with_reducible rfl)
      try simp only [Act.put, List.setIfInBounds_toArray, List.set_cons_zero, List.set_cons_succ]
      refine wpAnyH_take (i := 31) (oi := { dst := some 134, op := Op.pick (Operand.tmp 126) (Operand.tmp 133) (Operand.const (Value.bool false)), type := 4, pos := "law.go:64", after := #[{ on := 23, ground := Ground.data }, { on := 30, ground := Ground.data }], guard := none }) (v := ?_) rfl (by kernel_rfl) (by kernel_rfl) (by kernel_rfl) (fun _ _ _ h => h) (Or.inl ⟨by rfl, ?_⟩) hHeld ?_
      rotate_left
      · (intro w' hSw; (try dsimp only at hSw); go_split_ands; go_simp; first | done | with_reducible rfl)
      try simp only [Act.put, List.setIfInBounds_toArray, List.set_cons_zero, List.set_cons_succ]
      refine wpAnyH_take (i := 32) (oi := { dst := some 6, op := Op.assign (Operand.tmp 134), type := 4, pos := "law.go:64", after := #[{ on := 31, ground := Ground.data }, { on := 28, ground := Ground.chain }, { on := 0, ground := Ground.phase }, { on := 1, ground := Ground.phase }, { on := 2, ground := Ground.phase }, { on := 3, ground := Ground.phase }, { on := 4, ground := Ground.phase }, { on := 5, ground := Ground.phase }, { on := 6, ground := Ground.phase }, { on := 7, ground := Ground.phase }, { on := 8, ground := Ground.phase }, { on := 9, ground := Ground.phase }, { on := 10, ground := Ground.phase }, { on := 11, ground := Ground.phase }, { on := 12, ground := Ground.phase }, { on := 13, ground := Ground.phase }, { on := 14, ground := Ground.phase }, { on := 15, ground := Ground.phase }, { on := 16, ground := Ground.phase }, { on := 17, ground := Ground.phase }, { on := 18, ground := Ground.phase }, { on := 19, ground := Ground.phase }, { on := 20, ground := Ground.phase }, { on := 21, ground := Ground.phase }, { on := 22, ground := Ground.phase }, { on := 23, ground := Ground.phase }, { on := 24, ground := Ground.phase }, { on := 25, ground := Ground.phase }, { on := 26, ground := Ground.phase }, { on := 27, ground := Ground.phase }, { on := 28, ground := Ground.phase }, { on := 29, ground := Ground.phase }, { on := 30, ground := Ground.phase }, { on := 31, ground := Ground.phase }], guard := none }) (v := ?_) rfl (by kernel_rfl) (by kernel_rfl) (by kernel_rfl) (fun _ _ _ h => h) (Or.inl ⟨by rfl, ?_⟩) hHeld ?_
      rotate_left
      · (intro w' hSw; (try dsimp only at hSw); go_split_ands; go_simp; first | done | with_reducible rfl)
      try simp only [Act.put, List.setIfInBounds_toArray, List.set_cons_zero, List.set_cons_succ]
      refine wpAnyH_done (by kernel_rfl) ?_ _
      refine NoPanic.normal ?_
      go_wp2
      go_ret
      exact ⟨ret_true (by simp), hbw1.trans (r3.mono hbw1.size)⟩
    refine AllReadyH.cons (o := { dst := some 131, op := Op.call { callee := Callee.value (Operand.func 27), args := #[Operand.tmp 130], argTypes := #[9] }, type := 35, pos := "law.go:64", after := #[{ on := 27, ground := Ground.data }, { on := 25, ground := Ground.chain }, { on := 23, ground := Ground.guard }], guard := some (23, true) }) rfl (fun K hK => ?_) AllReadyH.nil
    go_simp
    refine (hE2 w_2).out.mono ?_
    rintro en w_3 ⟨v3, rfl, hown3, hon3⟩
    have b3 := hon3.below_nil
    have r3 := r2.trans (b3.mono r2.size)
    obtain ⟨E3, d3, rfl, -, -, -, se2_3⟩ := hown3.open_
    have se1_3 := (se1_2.below b3).more b3.size
    go_wp2_with fail
    refine hK.out _ _ ?_ ?_
    · (exact ⟨by rw [← HSL.out]; exact run_str w_3 _ A2 _ c2 L (hx2.below r3) rfl, by rw [← HSL.out]; exact run_str w_3 _ A3 _ c3 L (hx3.below r3) rfl⟩)
    clear hK K hHeld; intro hHeld
    try simp only [Act.put, List.setIfInBounds_toArray, List.set_cons_zero, List.set_cons_succ]
    refine wpAnyH_ready (rs := [26, 29]) (by kernel_rfl) (by simp) ?_
    refine AllReadyH.cons (o := { dst := some 129, op := Op.convert 35 9 (Operand.tmp 128), type := 9, pos := "law.go:64", after := #[{ on := 25, ground := Ground.data }, { on := 23, ground := Ground.guard }], guard := some (23, true) }) rfl (fun K hK => ?_) ?_
    · have cv1 := run_str w_3 _ E2 X.length d2 X se1_3 rfl
      go_simp
      refine hK.out _ _ ?_ ?_
      · (exact ⟨by rw [← HSL.out]; exact run_str w_3 _ A2 _ c2 L (hx2.below r3) rfl, by rw [← HSL.out]; exact run_str w_3 _ A3 _ c3 L (hx3.below r3) rfl⟩)
      clear hK K hHeld; intro hHeld
      try simp only [Act.put, List.setIfInBounds_toArray, List.set_cons_zero, List.set_cons_succ]
      refine wpAnyH_ready (rs := [29]) (by kernel_rfl) (by simp) ?_
      refine AllReadyH.cons (o := { dst := some 132, op := Op.convert 35 9 (Operand.tmp 131), type := 9, pos := "law.go:64", after := #[{ on := 28, ground := Ground.data }, { on := 23, ground := Ground.guard }], guard := some (23, true) }) rfl (fun K hK => ?_) AllReadyH.nil
      have cv2 := run_str w_3 _ E3 X.length d3 X se2_3 rfl
      go_simp
      refine hK.out _ _ ?_ ?_
      · (exact ⟨by rw [← HSL.out]; exact run_str w_3 _ A2 _ c2 L (hx2.below r3) rfl, by rw [← HSL.out]; exact run_str w_3 _ A3 _ c3 L (hx3.below r3) rfl⟩)
      clear hK K hHeld; intro hHeld
      try simp only [Act.put, List.setIfInBounds_toArray, List.set_cons_zero, List.set_cons_succ]
      refine wpAnyH_take (i := 30) (oi := { dst := some 133, op := Op.binOp BinOp.eql 9 (Operand.tmp 129) (Operand.tmp 132) 9, type := 4, pos := "law.go:64", after := #[{ on := 26, ground := Ground.data }, { on := 29, ground := Ground.data }, { on := 23, ground := Ground.guard }], guard := some (23, true) }) (v := ?_) rfl (by kernel_rfl) (by kernel_rfl) (by kernel_rfl) (fun _ _ _ h => h) (Or.inl ⟨by rfl, ?_⟩) hHeld ?_
      rotate_left
      · (intro w' hSw; (try dsimp only at hSw); go_split_ands; go_simp; first | done | with_reducible rfl)
      try simp only [Act.put, List.setIfInBounds_toArray, List.set_cons_zero, List.set_cons_succ]
      refine wpAnyH_take (i := 31) (oi := { dst := some 134, op := Op.pick (Operand.tmp 126) (Operand.tmp 133) (Operand.const (Value.bool false)), type := 4, pos := "law.go:64", after := #[{ on := 23, ground := Ground.data }, { on := 30, ground := Ground.data }], guard := none }) (v := ?_) rfl (by kernel_rfl) (by kernel_rfl) (by kernel_rfl) (fun _ _ _ h => h) (Or.inl ⟨by rfl, ?_⟩) hHeld ?_
      rotate_left
      · (intro w' hSw; (try dsimp only at hSw); go_split_ands; go_simp; first | done | with_reducible rfl)
      try simp only [Act.put, List.setIfInBounds_toArray, List.set_cons_zero, List.set_cons_succ]
      refine wpAnyH_take (i := 32) (oi := { dst := some 6, op := Op.assign (Operand.tmp 134), type := 4, pos := "law.go:64", after := #[{ on := 31, ground := Ground.data }, { on := 28, ground := Ground.chain }, { on := 0, ground := Ground.phase }, { on := 1, ground := Ground.phase }, { on := 2, ground := Ground.phase }, { on := 3, ground := Ground.phase }, { on := 4, ground := Ground.phase }, { on := 5, ground := Ground.phase }, { on := 6, ground := Ground.phase }, { on := 7, ground := Ground.phase }, { on := 8, ground := Ground.phase }, { on := 9, ground := Ground.phase }, { on := 10, ground := Ground.phase }, { on := 11, ground := Ground.phase }, { on := 12, ground := Ground.phase }, { on := 13, ground := Ground.phase }, { on := 14, ground := Ground.phase }, { on := 15, ground := Ground.phase }, { on := 16, ground := Ground.phase }, { on := 17, ground := Ground.phase }, { on := 18, ground := Ground.phase }, { on := 19, ground := Ground.phase }, { on := 20, ground := Ground.phase }, { on := 21, ground := Ground.phase }, { on := 22, ground := Ground.phase }, { on := 23, ground := Ground.phase }, { on := 24, ground := Ground.phase }, { on := 25, ground := Ground.phase }, { on := 26, ground := Ground.phase }, { on := 27, ground := Ground.phase }, { on := 28, ground := Ground.phase }, { on := 29, ground := Ground.phase }, { on := 30, ground := Ground.phase }, { on := 31, ground := Ground.phase }], guard := none }) (v := ?_) rfl (by kernel_rfl) (by kernel_rfl) (by kernel_rfl) (fun _ _ _ h => h) (Or.inl ⟨by rfl, ?_⟩) hHeld ?_
      rotate_left
      · (intro w' hSw; (try dsimp only at hSw); go_split_ands; go_simp; first | done | with_reducible rfl)
      try simp only [Act.put, List.setIfInBounds_toArray, List.set_cons_zero, List.set_cons_succ]
      refine wpAnyH_done (by kernel_rfl) ?_ _
      refine NoPanic.normal ?_
      go_wp2
      go_ret
      exact ⟨ret_true (by simp), hbw1.trans (r3.mono hbw1.size)⟩
    refine AllReadyH.cons (o := { dst := some 132, op := Op.convert 35 9 (Operand.tmp 131), type := 9, pos := "law.go:64", after := #[{ on := 28, ground := Ground.data }, { on := 23, ground := Ground.guard }], guard := some (23, true) }) rfl (fun K hK => ?_) AllReadyH.nil
    have cv2 := run_str w_3 _ E3 X.length d3 X se2_3 rfl
    go_simp
    refine hK.out _ _ ?_ ?_
    · (exact ⟨by rw [← HSL.out]; exact run_str w_3 _ A2 _ c2 L (hx2.below r3) rfl, by rw [← HSL.out]; exact run_str w_3 _ A3 _ c3 L (hx3.below r3) rfl⟩)
    clear hK K hHeld; intro hHeld
    try simp only [Act.put, List.setIfInBounds_toArray, List.set_cons_zero, List.set_cons_succ]
    refine wpAnyH_ready (rs := [26]) (by kernel_rfl) (by simp) ?_
    refine AllReadyH.cons (o := { dst := some 129, op := Op.convert 35 9 (Operand.tmp 128), type := 9, pos := "law.go:64", after := #[{ on := 25, ground := Ground.data }, { on := 23, ground := Ground.guard }], guard := some (23, true) }) rfl (fun K hK => ?_) AllReadyH.nil
    have cv1 := run_str w_3 _ E2 X.length d2 X se1_3 rfl
    go_simp
    refine hK.out _ _ ?_ ?_
    · (exact ⟨by rw [← HSL.out]; exact run_str w_3 _ A2 _ c2 L (hx2.below r3) rfl, by rw [← HSL.out]; exact run_str w_3 _ A3 _ c3 L (hx3.below r3) rfl⟩)
    clear hK K hHeld; intro hHeld
    try simp only [Act.put, List.setIfInBounds_toArray, List.set_cons_zero, List.set_cons_succ]
    refine wpAnyH_take (i := 30) (oi := { dst := some 133, op := Op.binOp BinOp.eql 9 (Operand.tmp 129) (Operand.tmp 132) 9, type := 4, pos := "law.go:64", after := #[{ on := 26, ground := Ground.data }, { on := 29, ground := Ground.data }, { on := 23, ground := Ground.guard }], guard := some (23, true) }) (v := ?_) rfl (by kernel_rfl) (by kernel_rfl) (by kernel_rfl) (fun _ _ _ h => h) (Or.inl ⟨by rfl, ?_⟩) hHeld ?_
    rotate_left
    · (intro w' hSw; (try dsimp only at hSw); go_split_ands; go_simp; first | done | with_reducible rfl)
    try simp only [Act.put, List.setIfInBounds_toArray, List.set_cons_zero, List.set_cons_succ]
    refine wpAnyH_take (i := 31) (oi := { dst := some 134, op := Op.pick (Operand.tmp 126) (Operand.tmp 133) (Operand.const (Value.bool false)), type := 4, pos := "law.go:64", after := #[{ on := 23, ground := Ground.data }, { on := 30, ground := Ground.data }], guard := none }) (v := ?_) rfl (by kernel_rfl) (by kernel_rfl) (by kernel_rfl) (fun _ _ _ h => h) (Or.inl ⟨by rfl, ?_⟩) hHeld ?_
    rotate_left
    · (intro w' hSw; (try dsimp only at hSw); go_split_ands; go_simp; first | done | with_reducible rfl)
    try simp only [Act.put, List.setIfInBounds_toArray, List.set_cons_zero, List.set_cons_succ]
    refine wpAnyH_take (i := 32) (oi := { dst := some 6, op := Op.assign (Operand.tmp 134), type := 4, pos := "law.go:64", after := #[{ on := 31, ground := Ground.data }, { on := 28, ground := Ground.chain }, { on := 0, ground := Ground.phase }, { on := 1, ground := Ground.phase }, { on := 2, ground := Ground.phase }, { on := 3, ground := Ground.phase }, { on := 4, ground := Ground.phase }, { on := 5, ground := Ground.phase }, { on := 6, ground := Ground.phase }, { on := 7, ground := Ground.phase }, { on := 8, ground := Ground.phase }, { on := 9, ground := Ground.phase }, { on := 10, ground := Ground.phase }, { on := 11, ground := Ground.phase }, { on := 12, ground := Ground.phase }, { on := 13, ground := Ground.phase }, { on := 14, ground := Ground.phase }, { on := 15, ground := Ground.phase }, { on := 16, ground := Ground.phase }, { on := 17, ground := Ground.phase }, { on := 18, ground := Ground.phase }, { on := 19, ground := Ground.phase }, { on := 20, ground := Ground.phase }, { on := 21, ground := Ground.phase }, { on := 22, ground := Ground.phase }, { on := 23, ground := Ground.phase }, { on := 24, ground := Ground.phase }, { on := 25, ground := Ground.phase }, { on := 26, ground := Ground.phase }, { on := 27, ground := Ground.phase }, { on := 28, ground := Ground.phase }, { on := 29, ground := Ground.phase }, { on := 30, ground := Ground.phase }, { on := 31, ground := Ground.phase }], guard := none }) (v := ?_) rfl (by kernel_rfl) (by kernel_rfl) (by kernel_rfl) (fun _ _ _ h => h) (Or.inl ⟨by rfl, ?_⟩) hHeld ?_
    rotate_left
    · (intro w' hSw; (try dsimp only at hSw); go_split_ands; go_simp; first | done | with_reducible rfl)
    try simp only [Act.put, List.setIfInBounds_toArray, List.set_cons_zero, List.set_cons_succ]
    refine wpAnyH_done (by kernel_rfl) ?_ _
    refine NoPanic.normal ?_
    go_wp2
    go_ret
    exact ⟨ret_true (by simp), hbw1.trans (r3.mono hbw1.size)⟩
end Go.Proofs.YtbgnmojdkhlbaaaDoor
