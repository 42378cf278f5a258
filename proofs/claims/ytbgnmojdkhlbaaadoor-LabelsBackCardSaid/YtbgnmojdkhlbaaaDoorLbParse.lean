/-
  Labels off bytes, in plain lists.
-/
import Derived.Test.YtbgnmojdkhlbaaaDoorLbCut
import Derived.Test.YtbgnmojdkhlbaaaDoorLbMarsh
namespace Go.Proofs.YtbgnmojdkhlbaaaDoor
open Go.RowKit

/-- Labels off bytes: what is taken, the error. -/
def parseF : Nat → List UInt8 → List Lb → List Lb × Nat
  | 0, _, acc => (acc, 0)
  | f + 1, b, acc =>
    if b = [] then (acc, 0)
    else if (cutR b).2.2 ≠ 0 then ([], (cutR b).2.2)
    else if (cutR (b.drop (cutR b).2.1)).2.2 ≠ 0 then ([], (cutR (b.drop (cutR b).2.1)).2.2)
    else parseF f (b.drop ((cutR b).2.1 + (cutR (b.drop (cutR b).2.1)).2.1)) (acc ++ [(strOf (cutR b).1, strOf (cutR (b.drop (cutR b).2.1)).1)])
def parse (b : List UInt8) : List Lb × Nat := parseF b.length b []

/-- What a cut takes: at least a byte, no more than there are; the text is no longer. -/
theorem cutF_ok : ∀ (l acc : List UInt8) (i : Nat), (cutF l acc i).2.2 = 0 → i + 1 ≤ (cutF l acc i).2.1 ∧ (cutF l acc i).1.length + i + 1 ≤ acc.length + (cutF l acc i).2.1
  | [], _, _ => by simp [cutF]
  | [c], acc, i => by
    simp only [cutF]
    split
    · intro _; simp; omega
    · split <;> simp
  | c :: d :: r, acc, i => by
    have h1 := cutF_ok r (acc ++ [UInt8.ofNat (d.toNat - 3)]) (i + 2)
    have h2 := cutF_ok (d :: r) (acc ++ [c]) (i + 1)
    simp only [cutF, List.length_append, List.length_cons, List.length_nil] at *
    split
    · intro _; simp; omega
    · split
      · simp
      · split
        · split
          · simp
          · intro h; have := h1 h; omega
        · intro h; have := h2 h; omega
theorem cutR_ok {b : List UInt8} (h : (cutR b).2.2 = 0) : 1 ≤ (cutR b).2.1 ∧ (cutR b).2.1 ≤ b.length ∧ (cutR b).1.length ≤ (cutR b).2.1 := by
  have h1 := cutF_ok b [] 0 h
  have h2 := cutF_le b [] 0
  change (cutR b).2.1 ≤ _ ∧ _ at h2
  change 0 + 1 ≤ (cutR b).2.1 ∧ (cutR b).1.length + 0 + 1 ≤ _ + (cutR b).2.1 at h1
  simp only [List.length_nil] at h1
  have := h2.1
  omega

/-- What is escaped is cut. -/
theorem cutF_esc (s rest acc : List UInt8) (i : Nat) : cutF (esc s ++ rest) acc i = (acc ++ s, i + (esc s).length, 0) := by
  induction s generalizing acc i with
  | nil =>
    show cutF ([1] ++ rest) acc i = _
    cases rest <;> simp [cutF, esc]
  | cons c t ih =>
    have he : esc (c :: t) = escB c ++ esc t := by simp [esc]
    rw [he, List.append_assoc]
    unfold escB
    by_cases hc : c.toNat < 3
    · rw [if_pos hc]
      have hx : (UInt8.ofNat (c.toNat + 3)).toNat = c.toNat + 3 := u8_nat _ (by omega)
      show cutF (2 :: UInt8.ofNat (c.toNat + 3) :: (esc t ++ rest)) acc i = _
      have h2 : (2 : UInt8).toNat = 2 := rfl
      simp only [cutF]
      rw [if_neg (by rw [h2]; omega), if_neg (by rw [h2]; omega), if_pos h2, if_neg (by rw [hx]; omega), ih]
      have hb : UInt8.ofNat ((UInt8.ofNat (c.toNat + 3)).toNat - 3) = c := by
        apply UInt8.toNat_inj.1
        rw [hx, u8_nat _ (by omega)]
        omega
      rw [hb]
      simp [Nat.add_assoc]
      omega
    · rw [if_neg hc]
      have hne : esc t ++ rest ≠ [] := by unfold esc; simp
      cases hr : esc t ++ rest with
      | nil => exact absurd hr hne
      | cons d r =>
        show cutF (c :: d :: r) acc i = _
        simp only [cutF]
        rw [if_neg (by omega), if_neg (by omega), if_neg (by omega), ← hr, ih]
        simp [Nat.add_assoc]
        omega
theorem cutR_esc (s rest : List UInt8) : cutR (esc s ++ rest) = (s, (esc s).length, 0) := by
  have := cutF_esc s rest [] 0
  unfold cutR
  rw [this]
  simp

/-- What is cut is what was escaped. -/
theorem esc_cutF : ∀ (l acc : List UInt8) (i : Nat), (cutF l acc i).2.2 = 0 → ∃ s, (cutF l acc i).1 = acc ++ s ∧ l.take ((cutF l acc i).2.1 - i) = esc s ∧ i ≤ (cutF l acc i).2.1
  | [], _, _ => by simp [cutF]
  | [c], acc, i => by
    simp only [cutF]
    split
    · rename_i hc
      intro _
      have : c = 1 := UInt8.toNat_inj.1 hc
      subst this
      exact ⟨[], by simp, by simp [esc], by simp⟩
    · split <;> simp
  | c :: d :: r, acc, i => by
    have h1 := esc_cutF r (acc ++ [UInt8.ofNat (d.toNat - 3)]) (i + 2)
    have h2 := esc_cutF (d :: r) (acc ++ [c]) (i + 1)
    simp only [cutF] at *
    split
    · rename_i hc
      intro _
      have : c = 1 := UInt8.toNat_inj.1 hc
      subst this
      exact ⟨[], by simp, by simp [esc], by simp⟩
    · rename_i hc1
      split
      · simp
      · rename_i hc0
        split
        · rename_i hc2
          split
          · simp
          · rename_i hd
            intro h
            obtain ⟨s, hs, ht, hi⟩ := h1 h
            refine ⟨UInt8.ofNat (d.toNat - 3) :: s, by rw [hs]; simp, ?_, by omega⟩
            obtain ⟨q, hq⟩ : ∃ q, (cutF r (acc ++ [UInt8.ofNat (d.toNat - 3)]) (i + 2)).2.1 = q := ⟨_, rfl⟩
            rw [hq] at ht hi ⊢
            have he : esc (UInt8.ofNat (d.toNat - 3) :: s) = escB (UInt8.ofNat (d.toNat - 3)) ++ esc s := by simp [esc]
            have hx : (UInt8.ofNat (d.toNat - 3)).toNat = d.toNat - 3 := u8_nat _ (by have := d.toNat_lt; omega)
            rw [he, escB, if_pos (by rw [hx]; omega), hx, ← ht, show q - i = (q - (i + 2)) + 1 + 1 from by omega, List.take_succ_cons, List.take_succ_cons]
            have e1 : c = 2 := UInt8.toNat_inj.1 hc2
            have e2 : UInt8.ofNat (d.toNat - 3 + 3) = d := by rw [show d.toNat - 3 + 3 = d.toNat from by omega]; simp
            rw [e1, e2]
            rfl
        · rename_i hc2
          intro h
          obtain ⟨s, hs, ht, hi⟩ := h2 h
          refine ⟨c :: s, by rw [hs]; simp, ?_, by omega⟩
          obtain ⟨q, hq⟩ : ∃ q, (cutF (d :: r) (acc ++ [c]) (i + 1)).2.1 = q := ⟨_, rfl⟩
          rw [hq] at ht hi ⊢
          have he : esc (c :: s) = escB c ++ esc s := by simp [esc]
          rw [he, escB, if_neg (by omega), ← ht, show q - i = (q - (i + 1)) + 1 from by omega, List.take_succ_cons]
          rfl
theorem esc_cutR {b : List UInt8} (h : (cutR b).2.2 = 0) : b.take (cutR b).2.1 = esc (cutR b).1 := by
  obtain ⟨s, h1, h2, -⟩ := esc_cutF b [] 0 h
  change (cutR b).1 = _ at h1
  change b.take ((cutR b).2.1 - 0) = _ at h2
  rw [h1, List.nil_append]
  simpa using h2
end Go.Proofs.YtbgnmojdkhlbaaaDoor
