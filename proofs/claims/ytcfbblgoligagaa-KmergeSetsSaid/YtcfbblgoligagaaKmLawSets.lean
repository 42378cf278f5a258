/-
  The law KmergeSets, walked: what two rows have in common, and what one has alone.
-/
import Derived.Test.YtcfbblgoligagaaKmAwake
namespace Go.Proofs.Ytcfbblgoligagaa
open Go.RowKit KI

theorem meetL_mem (ll : List (List Int)) (x : Int) : x ∈ meetL ll ↔ x ∈ ll.flatten ∧ ∀ r ∈ ll, x ∈ r := by
  unfold meetL
  rw [List.mem_filter, uniqL_mem ordr, List.all_eq_true]
  simp
theorem meetL_ri (ll : List (List Int)) : Ri lt (meetL ll) := List.Pairwise.filter _ (uniqL_ri ordr _)
theorem lessL_mem (a b : List Int) (x : Int) : x ∈ lessL a b ↔ x ∈ a ∧ x ∉ b := by
  unfold lessL
  rw [uniqL_mem ordr, List.mem_filter]
  simp
theorem lessL_ri (a b : List Int) : Ri lt (lessL a b) := uniqL_ri ordr _
theorem meet2_mem (a b : List Int) (x : Int) : x ∈ meetL [a, b] ↔ x ∈ a ∧ x ∈ b := by
  rw [meetL_mem]; simp; intro h _; exact .inl h
theorem meet3_mem (a b c : List Int) (x : Int) : x ∈ meetL [a, b, c] ↔ x ∈ a ∧ x ∈ b ∧ x ∈ c := by
  rw [meetL_mem]; simp; intro h _ _; exact .inl h
theorem nil_of_none {l : List Int} (h : ∀ x, ¬ x ∈ l) : l = [] := List.eq_nil_iff_forall_not_mem.2 h
theorem sets_own (a b : List Int) : uniqL lt (meetL [a, b] ++ lessL a b) = uniqL lt a :=
  uniqL_congr ordr fun x => by
    rw [List.mem_append, meet2_mem, lessL_mem]
    by_cases h : x ∈ b <;> simp [h]
theorem sets_none (a b : List Int) : meetL [meetL [a, b], lessL a b] = [] := nil_of_none fun x h => by
  rw [meet2_mem, meet2_mem, lessL_mem] at h
  exact h.2.2 h.1.2
theorem sets_len (a b : List Int) : (meetL [a, b]).length + (lessL a b).length = (uniqL lt a).length := by
  have h1 : meetL [a, b] = (uniqL lt a).filter fun x => decide (x ∈ b) := ri_unique ordr (meetL_ri _) (List.Pairwise.filter _ (uniqL_ri ordr _)) fun x => by
    rw [meet2_mem, List.mem_filter, uniqL_mem ordr]; simp
  have h2 : lessL a b = (uniqL lt a).filter fun x => !decide (x ∈ b) := ri_unique ordr (lessL_ri _ _) (List.Pairwise.filter _ (uniqL_ri ordr _)) fun x => by
    rw [lessL_mem, List.mem_filter, uniqL_mem ordr]; simp
  rw [h1, h2]
  generalize uniqL lt a = l
  induction l with
  | nil => rfl
  | cons y t ih =>
    by_cases hy : y ∈ b
    · rw [List.filter_cons_of_pos (by simpa using hy), List.filter_cons_of_neg (by simpa using hy)]
      simp only [List.length_cons]; omega
    · rw [List.filter_cons_of_neg (by simpa using hy), List.filter_cons_of_pos (by simpa using hy)]
      simp only [List.length_cons]; omega
theorem sets_all (a b c : List Int) : lessL (meetL [a, b, c]) c = [] := nil_of_none fun x h => by
  rw [lessL_mem, meet3_mem] at h
  exact h.2 h.1.2.2
theorem sets_three (a b c : List Int) : meetL [meetL [a, b], c] = meetL [a, b, c] := ri_unique ordr (meetL_ri _) (meetL_ri _) fun x => by
  rw [meet2_mem, meet2_mem, meet3_mem, and_assoc]
theorem sets_turned (a b : List Int) : meetL [b, a] = meetL [a, b] := ri_unique ordr (meetL_ri _) (meetL_ri _) fun x => by
  rw [meet2_mem, meet2_mem, and_comm]
theorem less_len (a b : List Int) : (lessL a b).length ≤ a.length := Nat.le_trans (uniqL_len ordr _) (List.length_filter_le _ _)
theorem meet_len2 (ll : List (List Int)) : (meetL ll).length ≤ ll.flatten.length := meet_len ll

set_option maxRecDepth 100000 in
set_option maxHeartbeats 3200000 in
theorem KmergeSets_any (A B C : Option Addr) (n cn m cm k ck : Nat) (a b c : List Int) (hn : a.length = n) (hnc : n ≤ cn) (hm : b.length = m) (hmc : m ≤ cm) (hk : c.length = k) (hkc : k ≤ ck) (w : World) (hS : Sees w w.heap.size A (iv a)) (hS2 : Sees w w.heap.size B (iv b)) (hS3 : Sees w w.heap.size C (iv c)) :
    Calls Try.prog 6 #[.slice A n cn, .slice B m cm, .slice C k ck] w (IsTrue w) := by
  have hnot : ∀ (x : Bool) (w : World), (Op.unary .not (.bool x)).run Try.prog w = .ok (.bool (!x)) w := fun _ _ => rfl
  have hA := fun (w' : World) (hb : Below w.heap.size w w') (hle : n ≤ 100) => (⟨hn, hnc, by omega, (hS.below hb).more hb.size⟩ : Row w' A n cn a)
  have hB := fun (w' : World) (hb : Below w.heap.size w w') (hle : m ≤ 100) => (⟨hm, hmc, by omega, (hS2.below hb).more hb.size⟩ : Row w' B m cm b)
  have hC := fun (w' : World) (hb : Below w.heap.size w w') (hle : k ≤ 100) => (⟨hk, hkc, by omega, (hS3.below hb).more hb.size⟩ : Row w' C k ck c)
  have HA := Lib.hid hA
  have HB := Lib.hid hB
  have HC := Lib.hid hC
  have HN := Lib.hid hn
  have HM := Lib.hid hm
  have HK := Lib.hid hk
  clear hA hB hC hn hm hk hS hS2 hS3
  go_enter Try.func6, Try.ntmps6
  go_wp2_with fail
  refine (awake_any w).mono ?_
  rintro e w1 ⟨rfl, hb1⟩
  by_cases h1 : n ≤ 100
  rotate_left
  · go_wp2
    go_ret
    exact ⟨rfl, hb1⟩
  by_cases h2 : m ≤ 100
  rotate_left
  · go_wp2
    go_ret
    exact ⟨rfl, hb1⟩
  by_cases h3 : k ≤ 100
  rotate_left
  · go_wp2
    go_ret
    exact ⟨rfl, hb1⟩
  have hla := uniqL_len ordr a
  have hlm := meet_len [a, b]
  have hl3 := meet_len [a, b, c]
  have hll := less_len a b
  have hsl := sets_len a b
  simp only [List.flatten_cons, List.flatten_nil, List.append_nil, List.length_append] at hlm hl3
  obtain ⟨O, hO⟩ : ∃ O, uniqL lt a = O := ⟨_, rfl⟩
  obtain ⟨M, hM⟩ : ∃ M, meetL [a, b] = M := ⟨_, rfl⟩
  obtain ⟨L, hL⟩ : ∃ L, lessL a b = L := ⟨_, rfl⟩
  obtain ⟨T, hT⟩ : ∃ T, meetL [a, b, c] = T := ⟨_, rfl⟩
  have e1 : Hid (uniqL lt (M ++ L) = O) := by rw [← hM, ← hL, ← hO]; exact sets_own a b
  have e2 : Hid (meetL [M, L] = []) := by rw [← hM, ← hL]; exact sets_none a b
  have e4 : Hid (lessL T c = []) := by rw [← hT]; exact sets_all a b c
  have e5 : Hid (meetL [M, c] = T) := by rw [← hT, ← hM]; exact sets_three a b c
  have e6 : Hid (meetL [b, a] = M) := by rw [← hM]; exact sets_turned a b
  rw [hO] at hla hsl
  rw [hM] at hlm hsl
  rw [hL] at hll hsl
  rw [hT] at hl3
  have HO := Lib.hid hO
  have HMm := Lib.hid hM
  have HL := Lib.hid hL
  have HT := Lib.hid hT
  have HSL := Lib.hid hsl
  have hO6 : O.length ≤ 1000000 := by have := HN.out; omega
  have hM6 : M.length ≤ 1000000 := by have := HN.out; have := HM.out; omega
  have hL6 : L.length ≤ 1000000 := by have := HN.out; omega
  have hT6 : T.length ≤ 1000000 := by have := HN.out; have := HM.out; have := HK.out; omega
  have hadd : IntKind.i64.wrap ((M.length : Int) + (L.length : Int)) = (O.length : Int) := by rw [IntKind.wrap_i64]; have := HSL.out; omega
  clear hla hlm hl3 hll hsl hO hM hL hT
  go_wp2_with fail
  refine (ints_1 (HA.out w1 hb1 h1) _ rfl).mono ?_
  rw [HO.out]
  rintro e w2 g2
  obtain ⟨AO, cO, rfl, hRO, hb2⟩ := g2.row hO6
  have hb02 := hb1.trans (hb2.mono hb1.size)
  go_wp2_with fail
  refine (meet_2 (HA.out w2 hb02 h1) (HB.out w2 hb02 h2) _ rfl).mono ?_
  rw [HMm.out]
  rintro e w3 g3
  obtain ⟨AM, cM, rfl, hRM, hb3⟩ := g3.row hM6
  have hb03 := hb02.trans (hb3.mono hb02.size)
  replace hRO := hRO.below hb3
  go_wp2_with fail
  refine (less_2 (HA.out w3 hb03 h1) (HB.out w3 hb03 h2)).mono ?_
  rw [HL.out]
  rintro e w4 g4
  obtain ⟨AL, cL, rfl, hRL, hb4⟩ := g4.row hL6
  have hb04 := hb03.trans (hb4.mono hb03.size)
  replace hRO := hRO.below hb4
  replace hRM := hRM.below hb4
  go_wp2_with fail
  refine (meet_3 (HA.out w4 hb04 h1) (HB.out w4 hb04 h2) (HC.out w4 hb04 h3) _ rfl).mono ?_
  rw [HT.out]
  rintro e w5 g5
  obtain ⟨AT, cT, rfl, hRT, hb5⟩ := g5.row hT6
  have hb05 := hb04.trans (hb5.mono hb04.size)
  replace hRO := hRO.below hb5
  replace hRM := hRM.below hb5
  replace hRL := hRL.below hb5
  clear g2 g3 g4 g5
  go_wp2_with fail
  refine (ints_2 hRM hRL _ rfl).mono ?_
  rw [e1.out]
  rintro e w6 g6
  obtain ⟨A6, c6, rfl, hR6, hb6⟩ := g6.row hO6
  have hb06 := hb05.trans (hb6.mono hb05.size)
  replace hRO := hRO.below hb6
  replace hRM := hRM.below hb6
  replace hRL := hRL.below hb6
  replace hRT := hRT.below hb6
  go_wp2_with fail
  refine (same_2 hR6 hRO rfl).mono ?_
  rintro e w7 ⟨rfl, hb7⟩
  have hb07 := hb06.trans (hb7.mono hb06.size)
  replace hRM := hRM.below hb7
  replace hRL := hRL.below hb7
  replace hRT := hRT.below hb7
  go_wp2_with fail
  refine (meet_2 hRM hRL _ rfl).mono ?_
  rw [e2.out]
  rintro e w8 g8
  obtain ⟨A8, c8, rfl, -, hb8⟩ := g8.row (by simp)
  have hb08 := hb07.trans (hb8.mono hb07.size)
  replace hRM := hRM.below hb8
  replace hRT := hRT.below hb8
  clear g6 g8 hRL hR6 hRO
  simp only [List.length_nil]
  go_wp2_with fail
  refine (less_2 hRT (HC.out w8 hb08 h3)).mono ?_
  rw [e4.out]
  rintro e w9 g9
  obtain ⟨A9, c9, rfl, -, hb9⟩ := g9.row (by simp)
  have hb09 := hb08.trans (hb9.mono hb08.size)
  replace hRM := hRM.below hb9
  replace hRT := hRT.below hb9
  clear g9
  simp only [List.length_nil]
  go_wp2_with fail
  refine (meet_2 hRM (HC.out w9 hb09 h3) _ rfl).mono ?_
  rw [e5.out]
  rintro e wa ga
  obtain ⟨Aa, ca, rfl, hRa, hba⟩ := ga.row hT6
  have hb0a := hb09.trans (hba.mono hb09.size)
  replace hRM := hRM.below hba
  replace hRT := hRT.below hba
  clear ga
  go_wp2_with fail
  refine (same_2 hRa hRT rfl).mono ?_
  rintro e wb ⟨rfl, hbb⟩
  have hb0b := hb0a.trans (hbb.mono hb0a.size)
  replace hRM := hRM.below hbb
  clear hRa hRT
  go_wp2_with fail
  refine (meet_2 (HB.out wb hb0b h2) (HA.out wb hb0b h1) _ rfl).mono ?_
  rw [e6.out]
  rintro e wc gc
  obtain ⟨Ac, cc, rfl, hRc, hbc⟩ := gc.row hM6
  have hb0c := hb0b.trans (hbc.mono hb0b.size)
  replace hRM := hRM.below hbc
  clear gc
  go_wp2_with fail
  refine (same_2 hRc hRM rfl).mono ?_
  rintro e wd ⟨rfl, hbd⟩
  have hb0d := hb0c.trans (hbd.mono hb0c.size)
  clear hRc hRM
  go_wp2_with fail
  refine (meet_0 wd).mono ?_
  rintro e we ge
  obtain ⟨Ae, ce, rfl, -, hbe⟩ := ge.row (by simp)
  have hb0e := hb0d.trans (hbe.mono hb0d.size)
  clear ge
  simp only [List.length_nil]
  go_wp2_with fail
  go_ret
  exact ⟨by simp, hb0e⟩
end Go.Proofs.Ytcfbblgoligagaa
