/-
  The law FilterEmpty, walked: labels that haven't a name are as a filter asks whose value is empty.
-/
import Derived.Test.YtpmjbpmdmbankaaDoorLawFlExact
namespace Go.Proofs.YtpmjbpmdmbankaaDoor
open Go.RowKit

/-- What the loop keeps: what was found, or that nothing was yet. -/
def EmRel (s : ByteArray) (ls : List Lb) (V : ByteArray) (h : Bool) (v : ByteArray) (k : Nat) : Prop := if h then v = V else v = ⟨#[]⟩ ∧ V = getL (ls.drop k) s
theorem ba_empty : (⟨#[]⟩ : ByteArray).toList = [] := by rw [Lib.toList_data]
theorem one_value (s v : ByteArray) (ls : List Lb) (h : getL ls s = v) : oneB ⟨s, v, false, false⟩ ls = true := by
  unfold oneB isB
  simp [h]
theorem one_longer (s v u : ByteArray) (ls : List Lb) (h : getL ls s = v) (hu : v.size < u.size) : oneB ⟨s, u, true, false⟩ ls = false := by
  unfold oneB isB hasPre
  simp only [h, if_true]
  rw [decide_eq_false (by omega)]
  rfl
theorem one_emptyval (s v : ByteArray) (ls : List Lb) (h : getL ls s = v) : oneB ⟨s, ⟨#[]⟩, false, false⟩ ls = v.toList.isEmpty := by
  unfold oneB isB
  simp only [h, ba_empty, Bool.false_eq_true, if_false]
  cases v.toList <;> rfl
theorem one_none (s : ByteArray) : oneB ⟨s, ⟨#[]⟩, false, false⟩ [] = true := by
  rw [one_emptyval s ⟨#[]⟩ [] rfl, ba_empty]
  rfl

theorem getL_size : ∀ (ls : List Lb) (s : ByteArray), (∀ x ∈ ls, x.1.size ≤ 50 ∧ x.2.size ≤ 50) → (getL ls s).size ≤ 50
  | [], s, _ => by show (⟨#[]⟩ : ByteArray).size ≤ 50; decide
  | x :: t, s, h => by
    simp only [getL]
    split
    · exact (h x (by simp)).2
    · exact getL_size t s (fun y hy => h y (by simp [hy]))
def emW (w : World) (s u v : ByteArray) : World := ((((w.alloc (.cells #[.string s, .string ⟨#[]⟩, .bool false, .bool false] 28)).alloc (.cells #[.string s, .string ⟨#[]⟩, .bool true, .bool false] 28)).alloc (.cells #[.string s, .string u, .bool false, .bool false] 28)).alloc (.cells #[.string s, .string v, .bool true, .bool false] 28))
theorem emW_facts (W1 : World) (s u v : ByteArray) : Four (emW W1 s u v) W1.heap.size (.string s) (.string ⟨#[]⟩) (.bool false) (.bool false) ∧ Four (emW W1 s u v) (W1.heap.size + 1) (.string s) (.string ⟨#[]⟩) (.bool true) (.bool false) ∧
    Four (emW W1 s u v) (W1.heap.size + 1 + 1) (.string s) (.string u) (.bool false) (.bool false) ∧ Four (emW W1 s u v) (W1.heap.size + 1 + 1 + 1) (.string s) (.string v) (.bool true) (.bool false) ∧
    Below W1.heap.size W1 (emW W1 s u v) ∧ W1.heap.size + 3 < (emW W1 s u v).heap.size := by
  unfold emW
  refine ⟨?_, ?_, ?_, ?_, ?_, by simp⟩
  · exact (((Four.new W1 _ rfl _ _ _ _ _).below ((Below.refl (W1.heap.size + 1) _).alloc (by simp) _) (by omega)).below ((Below.refl (W1.heap.size + 2) _).alloc (by simp) _) (by omega)).below ((Below.refl (W1.heap.size + 3) _).alloc (by simp) _) (by omega)
  · exact ((Four.new _ (W1.heap.size + 1) (by simp) _ _ _ _ _).below ((Below.refl (W1.heap.size + 2) _).alloc (by simp) _) (by omega)).below ((Below.refl (W1.heap.size + 3) _).alloc (by simp) _) (by omega)
  · exact (Four.new _ (W1.heap.size + 1 + 1) (by simp) _ _ _ _ _).below ((Below.refl (W1.heap.size + 3) _).alloc (by simp) _) (by omega)
  · exact Four.new _ (W1.heap.size + 1 + 1 + 1) (by simp) _ _ _ _ _
  · exact ((((Below.refl _ W1).alloc (Nat.le_refl _) _).alloc (by simp) _).alloc (by simp; omega) _).alloc (by simp; omega) _

set_option maxRecDepth 100000 in
set_option maxHeartbeats 1600000 in
theorem FilterEmpty_small (B : Option Addr) (m d : Nat) (ls : List Lb) (s : ByteArray) (hm : ls.length = m) (hf : fewB [] ls = true) (hs50 : s.size ≤ 50) (w : World) (hT : Sees w w.heap.size B (lv ls)) :
    Calls Tryd.prog 7 #[.slice B m d, .string s] w (IsTrue w) := by
  have hnot : ∀ (x : Bool) (w : World), (Op.unary .not (.bool x)).run Tryd.prog w = .ok (.bool (!x)) w := fun _ _ => rfl
  obtain ⟨h10, k10, hfs, hls⟩ := few_yes hf
  have hm10 : m ≤ 10 := by omega
  obtain ⟨V, hV⟩ : ∃ V, getL ls s = V := ⟨_, rfl⟩
  have hV50 : V.size ≤ 50 := by rw [← hV]; exact getL_size ls s hls
  have HF := Lib.hid hf
  have HM := Lib.hid hm
  have HV := Lib.hid hV
  have hs50' : (s.size : Int) ≤ 50 := by omega
  clear hm hf h10 k10 hfs hls hV
  go_enter Tryd.func7, Tryd.ntmps7
  go_wp2_with fail
  refine (awake_any w).mono ?_
  rintro e w1 ⟨rfl, hb1⟩
  have hs1 := hb1.size
  have hFew := few_any none 0 0 [] rfl B m d ls HM.out w1 (Sees.nil _ _ _) ((hT.below hb1).more hs1)
  rw [HF.out] at hFew
  go_wp2_with fail
  refine hFew.mono ?_
  rintro e w2 ⟨rfl, rfl⟩
  clear hFew
  go_wp2_with fail
  go_loopg [7, 8, 9] m (fun g v h i wr => ∃ (k : Nat) (u : ByteArray) (hb : Bool), k + g = m ∧ v = .string u ∧ h = .bool hb ∧ i = .int .i64 k ∧ EmRel s ls V hb u k ∧ wr = w1)
  case atStart => exact ⟨0, ⟨#[]⟩, false, by omega, rfl, rfl, rfl, ⟨rfl, HV.out.symm⟩, rfl⟩
  case round =>
    obtain ⟨k, u, hb, hk, rfl, rfl, rfl, hr, rfl⟩ := hrel
    by_cases hlt : k < m
    · obtain ⟨ad, rfl, hadB, e0, e1⟩ := (hT.below hb1).lb (k := k) (by have := HM.out; omega)
      have hstep := Lib.hid (getL_at (ls := ls) (n := s) (k := k) (by have := HM.out; omega))
      generalize ls[k]'(by have := HM.out; omega) = y at e0 e1 hstep
      obtain ⟨b, hbe⟩ : ∃ b, (y.1.toList == s.toList) = b := ⟨_, rfl⟩
      rw [hbe] at hstep
      cases hb with
      | true =>
        have hT2 : EmRel s ls V true u (k + 1) := hr
        clear hr hstep
        cases b
        all_goals
          go_wp2
          go_roundg (m - (k + 1))
          case measure => omega
          case rel => exact ⟨k + 1, u, true, by omega, rfl, rfl, by go_num, hT2, rfl⟩
      | false =>
        have hr2 : u = ⟨#[]⟩ ∧ V = getL (ls.drop k) s := hr
        obtain ⟨rfl, hv⟩ := hr2
        clear hr
        cases b with
        | true =>
          have hT2 : EmRel s ls V true y.2 (k + 1) := by show y.2 = V; rw [hv, hstep.out, if_pos rfl]
          clear hv hstep
          go_wp2
          go_roundg (m - (k + 1))
          case measure => omega
          case rel => exact ⟨k + 1, y.2, true, by omega, rfl, rfl, by go_num, hT2, rfl⟩
        | false =>
          have hT2 : EmRel s ls V false ⟨#[]⟩ (k + 1) := ⟨rfl, by rw [hv, hstep.out, if_neg (by simp)]⟩
          clear hv hstep
          go_wp2
          go_roundg (m - (k + 1))
          case measure => omega
          case rel => exact ⟨k + 1, ⟨#[]⟩, false, by omega, rfl, rfl, by go_num, hT2, rfl⟩
    · have huv : u = V := by
        cases hb with
        | true => exact hr
        | false =>
          have hr2 : u = ⟨#[]⟩ ∧ V = getL (ls.drop k) s := hr
          rw [hr2.1, hr2.2, getL_end (by have := HM.out; omega)]
      subst huv
      clear hr
      have hlong : u.size < (u ++ (⟨#[120]⟩ : ByteArray)).size := by rw [ByteArray.size_append]; show u.size < u.size + 1; omega
      have O1 := Lib.hid (one_emptyval s u ls HV.out)
      have O2 := Lib.hid (one_every s ls)
      have O3 := Lib.hid (one_value s u ls HV.out)
      have O4 := Lib.hid (one_longer s u _ ls HV.out hlong)
      clear hlong
      go_wp2_with fail
      have hfac := emW_facts wr s u (u ++ ⟨#[120]⟩)
      change Calls _ _ _ (emW wr s u (u ++ ⟨#[120]⟩)) _
      obtain ⟨hE4, hB4, hX4, hY4, hb2, hz2⟩ := hfac
      generalize emW wr s u (u ++ ⟨#[120]⟩) = W at hE4 hB4 hX4 hY4 hb2 hz2 ⊢
      have hfin := hb1.trans (hb2.mono hs1)
      have r0 := Below.refl W.heap.size W
      have hT0 := (hT.below hfin).more hfin.size
      obtain ⟨em, hem⟩ : ∃ em, u.toList.isEmpty = em := ⟨_, rfl⟩
      rw [hem] at O1
      have hbe : (em == em) = true := by cases em <;> rfl
      refine (One_at _ _ _ _ B m d ls HM.out em O1.out _ ((hT0.below r0).more r0.size) (by omega)).mono ?_
      rintro e w2 ⟨rfl, c1⟩
      have r1 := r0.trans (c1.mono r0.size)
      obtain ⟨B1_0, B1_1, B1_2, B1_3⟩ := hB4.below r1 (by omega)
      go_wp2_with fail
      refine (One_at _ _ _ _ B m d ls HM.out true O2.out _ ((hT0.below r1).more r1.size) (by omega)).mono ?_
      rintro e w3 ⟨rfl, c2⟩
      have r2 := r1.trans (c2.mono r1.size)
      obtain ⟨X2_0, X2_1, X2_2, X2_3⟩ := hX4.below r2 (by omega)
      go_wp2_with fail
      refine (One_at _ _ _ _ B m d ls HM.out true O3.out _ ((hT0.below r2).more r2.size) (by omega)).mono ?_
      rintro e w4 ⟨rfl, c3⟩
      have r3 := r2.trans (c3.mono r2.size)
      obtain ⟨Y3_0, Y3_1, Y3_2, Y3_3⟩ := hY4.below r3 (by omega)
      go_wp2_with fail
      refine (One_at _ _ _ _ B m d ls HM.out false O4.out _ ((hT0.below r3).more r3.size) (by omega)).mono ?_
      rintro e w5 ⟨rfl, c4⟩
      have r4 := r3.trans (c4.mono r3.size)
      obtain ⟨E4_0, E4_1, E4_2, E4_3⟩ := hE4.below r4 (by omega)
      go_wp2_with fail
      refine (One_at _ _ _ _ none 0 0 [] rfl true (one_none s) _ (Sees.nil _ _ _) (by omega)).mono ?_
      rintro e w6 ⟨rfl, c5⟩
      have r5 := r4.trans (c5.mono r4.size)
      go_wp2
      go_ret
      exact ⟨rfl, hfin.trans (r5.mono hfin.size)⟩

set_option maxRecDepth 100000 in
set_option maxHeartbeats 800000 in
theorem FilterEmpty_any (B : Option Addr) (m d : Nat) (ls : List Lb) (s : ByteArray) (hm : ls.length = m) (w : World) (hT : Sees w w.heap.size B (lv ls)) :
    Calls Tryd.prog 7 #[.slice B m d, .string s] w (IsTrue w) := by
  have hnot : ∀ (x : Bool) (w : World), (Op.unary .not (.bool x)).run Tryd.prog w = .ok (.bool (!x)) w := fun _ _ => rfl
  have hF := fun (w : World) (h2 : Sees w w.heap.size B (lv ls)) => few_any none 0 0 [] rfl B m d ls hm w (Sees.nil _ _ _) h2
  obtain ⟨b, hb⟩ : ∃ b, fewB [] ls = b := ⟨_, rfl⟩
  cases b with
  | true =>
    by_cases h50 : s.size ≤ 50
    · exact FilterEmpty_small B m d ls s hm hb h50 w hT
    · have h50' : (50 : Int) < (s.size : Int) := by omega
      rw [hb] at hF
      have HF := Lib.hid hF
      clear hm hb hF
      go_enter Tryd.func7, Tryd.ntmps7
      go_wp2_with fail
      refine (awake_any w).mono ?_
      rintro e w1 ⟨rfl, hb1⟩
      go_wp2_with fail
      refine (HF.out w1 ((hT.below hb1).more hb1.size)).mono ?_
      rintro e w2 ⟨rfl, rfl⟩
      go_wp2_with fail
      go_ret
      exact ⟨rfl, hb1⟩
  | false =>
    rw [hb] at hF
    have HF := Lib.hid hF
    clear hm hb hF
    go_enter Tryd.func7, Tryd.ntmps7
    go_wp2_with fail
    refine (awake_any w).mono ?_
    rintro e w1 ⟨rfl, hb1⟩
    go_wp2_with fail
    refine (HF.out w1 ((hT.below hb1).more hb1.size)).mono ?_
    rintro e w2 ⟨rfl, rfl⟩
    go_wp2_with fail
    go_ret
    exact ⟨rfl, hb1⟩
end Go.Proofs.YtpmjbpmdmbankaaDoor
