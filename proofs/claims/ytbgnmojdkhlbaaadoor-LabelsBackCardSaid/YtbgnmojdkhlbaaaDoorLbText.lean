/-
  Texts as bytes that end where they end: escaped, and cut.
-/
import Derived.Test.YtbgnmojdkhlbaaaDoorLbName
import Derived.Test.YtbgnmojdkhlbaaaDoorStr
import Derived.Test.YtbgnmojdkhlbaaaDoorPlain
namespace Go.Proofs.YtbgnmojdkhlbaaaDoor
open Go.RowKit

/-- A text's bytes, marked. -/
def escB (c : UInt8) : List UInt8 := if c.toNat < 3 then [2, UInt8.ofNat (c.toNat + 3)] else [c]
def esc (l : List UInt8) : List UInt8 := l.flatMap escB ++ [1]
theorem escB_len (c : UInt8) : (escB c).length ≤ 2 := by unfold escB; split <;> simp
theorem esc_at {l : List UInt8} {k : Nat} (h : k < l.length) : (l.drop k).flatMap escB = escB l[k] ++ (l.drop (k + 1)).flatMap escB := by
  rw [List.drop_eq_getElem_cons h]
  rfl
theorem esc_len (l : List UInt8) : (esc l).length ≤ 2 * l.length + 1 := by
  unfold esc
  rw [List.length_append]
  have : (l.flatMap escB).length ≤ 2 * l.length := by
    induction l with
    | nil => simp
    | cons c t ih => have := escB_len c; simp only [List.flatMap_cons, List.length_append, List.length_cons]; omega
  rw [List.length_singleton]
  omega

set_option maxRecDepth 100000 in
set_option maxHeartbeats 1600000 in
theorem escape_any (base : Nat) (v : Value) (xs : List UInt8) (s : ByteArray) (w : World) (hown : OwnB w base v xs) (hbase : base ≤ w.heap.size) (hx : xs.length ≤ 1099511627776) (hs : s.size ≤ 1099511627776) :
    Calls Tryd.prog 40 #[v, .string s] w (RetB w base v (xs ++ esc s.data.toList)) := by
  obtain ⟨Z, hZ⟩ : ∃ Z, s.data.toList.flatMap escB = Z := ⟨_, rfl⟩
  have HZ := Lib.hid hZ
  have HE : Hid (esc s.data.toList = Z ++ [1]) := by unfold Hid esc; rw [hZ]
  clear hZ
  go_enter Tryd.func40, Tryd.ntmps40
  go_wp2
  go_loopg [0, 9] s.size (fun g b i wr => ∃ (k : Nat) (X : List UInt8), k + g = s.size ∧ i = .int .i64 k ∧ OwnB wr base b X ∧ X.length ≤ xs.length + 2 * k ∧ Aside (X ++ (s.data.toList.drop k).flatMap escB = xs ++ Z) ∧ Onto w wr v b)
  case atStart => exact ⟨0, xs, by omega, rfl, hown, by omega, (by show _ = _; rw [← HZ.out]; rfl), Onto.refl _ _⟩
  case round =>
    obtain ⟨k, X, hk, rfl, hX, hXl, hcat, hon⟩ := hrel
    have hsr := hon.size
    by_cases hlt : k < s.size
    · have hat := Lib.hid (esc_at (l := s.data.toList) (k := k) (by simpa using hlt))
      have hsk : Hid (s.data.toList[k]'(by simpa using hlt) = s[k]) := rfl
      rw [hsk.out] at hat
      by_cases h3 : s[k].toNat < 3
      · have hT : ∀ c : UInt8, c = s[k] → Aside ((X ++ [2, UInt8.ofNat (c.toNat + 3)]) ++ (s.data.toList.drop (k + 1)).flatMap escB = xs ++ Z) := by
          rintro c rfl
          have h1 := hcat.out
          have h2 := hat.out
          have h4 : escB s[k] = [2, UInt8.ofNat (s[k].toNat + 3)] := by unfold escB; rw [if_pos h3]
          show _ = _
          rw [← h1, h2, h4, List.append_assoc]
        have hTT := Lib.hid hT
        clear hcat hat hT
        obtain ⟨b0, hb0⟩ : ∃ b, ((s[k].toNat : Int) == 0) = b := ⟨_, rfl⟩
        obtain ⟨b1, hb1⟩ : ∃ b, ((s[k].toNat : Int) == 1) = b := ⟨_, rfl⟩
        obtain ⟨b2, hb2⟩ : ∃ b, ((s[k].toNat : Int) == 2) = b := ⟨_, rfl⟩
        have hbs : b0 = true ∨ (b0 = false ∧ b1 = true) ∨ (b0 = false ∧ b1 = false ∧ b2 = true) := by
          subst hb0; subst hb1; subst hb2
          simp only [beq_iff_eq, beq_eq_false_iff_ne, ne_eq]
          omega
        have hlt3 : (s[k].toNat : Int) < 3 := by omega
        rcases hbs with rfl | ⟨rfl, rfl⟩ | ⟨rfl, rfl, rfl⟩
        all_goals
          go_wp2_with (at_builtin; refine wpList_append_b rfl (.tmp 22) (.tmp 25) rfl base u0 X (by rfl) (hX.alloc _) (wr.heap.size + 1) _ 2 _ [2, UInt8.ofNat (s[k].toNat + 3)] (by rfl) rfl (sees_new _ _ _ _ (by simp [bv]; omega)) (by simp; omega) (by simp; omega) ?_; intro v1 w1 hown1 hon1)
          go_roundg (s.size - (k + 1))
          case measure => omega
          case rel => exact ⟨k + 1, X ++ [2, UInt8.ofNat (s[k].toNat + 3)], by omega, by go_num, hown1, by simp; omega, hTT.out _ rfl, hon.trans ((Onto.of_alloc _ _ _).trans hon1)⟩
      · have hT : Aside ((X ++ [s[k]]) ++ (s.data.toList.drop (k + 1)).flatMap escB = xs ++ Z) := by
          have h1 := hcat.out
          have h2 := hat.out
          have h4 : escB s[k] = [s[k]] := by unfold escB; rw [if_neg h3]
          show _ = _
          rw [← h1, h2, h4, List.append_assoc]
        have hb0 : ((s[k].toNat : Int) == 0) = false := by rw [beq_eq_false_iff_ne]; omega
        have hb1 : ((s[k].toNat : Int) == 1) = false := by rw [beq_eq_false_iff_ne]; omega
        have hb2 : ((s[k].toNat : Int) == 2) = false := by rw [beq_eq_false_iff_ne]; omega
        clear hcat hat h3
        go_wp2_with (at_builtin; refine wpList_append_b rfl (.tmp 27) (.tmp 29) rfl base u0 X (by rfl) (hX.alloc _) (wr.heap.size + 1) _ 1 _ [s[k]] (by rfl) rfl (sees_new _ _ _ _ (by simp [bv])) (by simp; omega) (by simp; omega) ?_; intro v1 w1 hown1 hon1)
        go_roundg (s.size - (k + 1))
        case measure => omega
        case rel => exact ⟨k + 1, X ++ [s[k]], by omega, by go_num, hown1, by simp; omega, hT, hon.trans ((Onto.of_alloc _ _ _).trans hon1)⟩
    · have hE2 : Hid (X ++ [1] = xs ++ esc s.data.toList) := by
        have := hcat.out
        rw [List.drop_eq_nil_of_le (by simp; omega)] at this
        unfold Hid
        rw [HE.out, ← List.append_assoc, ← this]
        simp
      clear hcat
      go_wp2_with (at_builtin; refine wpList_append_b rfl (.tmp 32) (.tmp 33) rfl base u0 X (by rfl) (hX.alloc _) (wr.heap.size + 1) _ 1 _ [1] (by rfl) rfl (sees_new _ _ _ _ (by simp [bv])) (by simp; omega) (by simp; omega) ?_; intro v1 w1 hown1 hon1)
      go_ret
      rw [hE2.out] at hown1
      exact ⟨v1, rfl, hown1, hon.trans ((Onto.of_alloc _ _ _).trans hon1)⟩

set_option maxRecDepth 100000 in
set_option maxHeartbeats 400000 in
theorem Escape_any (s : ByteArray) (w : World) (hs : s.size ≤ 1099511627776) :
    Calls Tryd.prog 21 #[.string s] w (RetB w w.heap.size (.slice none 0 0) (esc s.data.toList)) := by
  have h := escape_any w.heap.size (.slice none 0 0) [] s w (OwnB.nil _ _) (Nat.le_refl _) (by simp) hs
  rw [List.nil_append] at h
  generalize esc s.data.toList = Z at h ⊢
  have H := Lib.hid h
  clear h
  go_enter Tryd.func21, Tryd.ntmps21
  go_wp2_with fail
  refine H.out.mono ?_
  rintro e w1 ⟨v, rfl, hown, hon⟩
  go_wp2
  go_ret
  exact ⟨v, rfl, hown, hon⟩

set_option maxRecDepth 100000 in
set_option maxHeartbeats 1600000 in
theorem RefEscape_any (s : ByteArray) (w : World) (hs : s.size ≤ 1099511627776) :
    Calls Tryd.prog 27 #[.string s] w (RetB w w.heap.size (.slice none 0 0) (esc s.data.toList)) := by
  obtain ⟨Z, hZ⟩ : ∃ Z, s.data.toList.flatMap escB = Z := ⟨_, rfl⟩
  have HZ := Lib.hid hZ
  have HE : Hid (esc s.data.toList = Z ++ [1]) := by unfold Hid esc; rw [hZ]
  clear hZ
  go_enter Tryd.func27, Tryd.ntmps27
  go_wp2
  go_loopg [3, 4] s.size (fun g b i wr => ∃ (k : Nat) (X : List UInt8), k + g = s.size ∧ i = .int .i64 k ∧ OwnB wr w.heap.size b X ∧ X.length ≤ 2 * k ∧ Aside (X ++ (s.data.toList.drop k).flatMap escB = Z) ∧ Onto w wr (.slice none 0 0) b)
  case atStart => exact ⟨0, [], by omega, rfl, OwnB.nil _ _, by simp, (by show _ = _; rw [← HZ.out]; rfl), Onto.refl _ _⟩
  case round =>
    obtain ⟨k, X, hk, rfl, hX, hXl, hcat, hon⟩ := hrel
    have hsr := hon.size
    by_cases hlt : k < s.size
    · have hat := Lib.hid (esc_at (l := s.data.toList) (k := k) (by simpa using hlt))
      have hsk : Hid (s.data.toList[k]'(by simpa using hlt) = s[k]) := rfl
      rw [hsk.out] at hat
      by_cases h3 : s[k].toNat < 3
      · have hT : Aside ((X ++ [2, UInt8.ofNat (s[k].toNat + 3)]) ++ (s.data.toList.drop (k + 1)).flatMap escB = Z) := by
          have h1 := hcat.out
          have h2 := hat.out
          have h4 : escB s[k] = [2, UInt8.ofNat (s[k].toNat + 3)] := by unfold escB; rw [if_pos h3]
          show _ = _
          rw [← h1, h2, h4, List.append_assoc]
        have hlt3 : (s[k].toNat : Int) < 3 := by omega
        clear hcat hat
        go_wp2_with (at_builtin; refine wpList_append_b rfl (.tmp 15) (.tmp 20) rfl w.heap.size u3 X (by rfl) (hX.alloc _) (wr.heap.size + 1) _ 2 _ [2, UInt8.ofNat (s[k].toNat + 3)] (by rfl) rfl (sees_new _ _ _ _ (by simp [bv]; omega)) (by simp; omega) (by simp; omega) ?_; intro v1 w1 hown1 hon1)
        go_roundg (s.size - (k + 1))
        case measure => omega
        case rel => exact ⟨k + 1, X ++ [2, UInt8.ofNat (s[k].toNat + 3)], by omega, by go_num, hown1, by simp; omega, hT, hon.trans ((Onto.of_alloc _ _ _).trans hon1)⟩
      · have hT : Aside ((X ++ [s[k]]) ++ (s.data.toList.drop (k + 1)).flatMap escB = Z) := by
          have h1 := hcat.out
          have h2 := hat.out
          have h4 : escB s[k] = [s[k]] := by unfold escB; rw [if_neg h3]
          show _ = _
          rw [← h1, h2, h4, List.append_assoc]
        have hlt3 : (3 : Int) ≤ (s[k].toNat : Int) := by omega
        clear hcat hat h3
        go_wp2_with (at_builtin; refine wpList_append_b rfl (.tmp 22) (.tmp 26) rfl w.heap.size u3 X (by rfl) (hX.alloc _) (wr.heap.size + 1) _ 1 _ [s[k]] (by rfl) rfl (sees_new _ _ _ _ (by simp [bv])) (by simp; omega) (by simp; omega) ?_; intro v1 w1 hown1 hon1)
        go_roundg (s.size - (k + 1))
        case measure => omega
        case rel => exact ⟨k + 1, X ++ [s[k]], by omega, by go_num, hown1, by simp; omega, hT, hon.trans ((Onto.of_alloc _ _ _).trans hon1)⟩
    · have hE2 : Hid (X ++ [1] = esc s.data.toList) := by
        have := hcat.out
        rw [List.drop_eq_nil_of_le (by simp; omega)] at this
        unfold Hid
        rw [HE.out, ← this]
        simp
      clear hcat
      go_wp2_with (at_builtin; refine wpList_append_b rfl (.tmp 28) (.tmp 29) rfl w.heap.size u3 X (by rfl) (hX.alloc _) (wr.heap.size + 1) _ 1 _ [1] (by rfl) rfl (sees_new _ _ _ _ (by simp [bv])) (by simp; omega) (by simp; omega) ?_; intro v1 w1 hown1 hon1)
      go_ret
      rw [hE2.out] at hown1
      exact ⟨v1, rfl, hown1, hon.trans ((Onto.of_alloc _ _ _).trans hon1)⟩
end Go.Proofs.YtbgnmojdkhlbaaaDoor
