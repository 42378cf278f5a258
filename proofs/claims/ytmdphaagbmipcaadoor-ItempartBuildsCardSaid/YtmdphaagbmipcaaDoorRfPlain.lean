/-
  The document's way to take a number off bytes: plain lists.
-/
import Derived.Test.YtmdphaagbmipcaaDoorLow
namespace Go.Proofs.YtmdphaagbmipcaaDoor
open Go.RowKit

/-- How many bytes ahead say that there is more. -/
def hiN : List UInt8 → Nat
  | [] => 0
  | c :: r => if c.toNat < 128 then 0 else hiN r + 1
theorem hiN_le : ∀ l : List UInt8, hiN l ≤ l.length
  | [] => Nat.le_refl _
  | c :: r => by have := hiN_le r; simp only [hiN]; split <;> simp <;> omega
theorem hiN_at {l : List UInt8} {k : Nat} (h : k < l.length) : hiN (l.drop k) = if l[k].toNat < 128 then 0 else hiN (l.drop (k + 1)) + 1 := by
  rw [List.drop_eq_getElem_cons h]; rfl
theorem hiN_end {l : List UInt8} {k : Nat} (h : l.length ≤ k) : hiN (l.drop k) = 0 := by rw [List.drop_eq_nil_of_le h]; rfl
/-- What the bytes' low seven bits are together. -/
def vsum : List UInt8 → Nat
  | [] => 0
  | c :: r => c.toNat % 128 + 128 * vsum r
theorem vsum_lt : ∀ (m : Nat) (l : List UInt8), l.length ≤ m → vsum l < 128 ^ m
  | m, [], _ => by simp only [vsum]; exact Nat.pow_pos (by omega)
  | 0, c :: r, h => by simp at h
  | m + 1, c :: r, h => by
    have := vsum_lt m r (by simpa using h)
    have e : 128 ^ (m + 1) = 128 ^ m * 128 := Nat.pow_succ ..
    simp only [vsum]
    omega
theorem pow7 (k : Nat) : 2 ^ (7 * (k + 1)) = 2 ^ (7 * k) * 128 := by rw [show 7 * (k + 1) = 7 * k + 7 from by omega, Nat.pow_add]
theorem pow7_le {k : Nat} (h : k ≤ 9) : 2 ^ (7 * k) ≤ 9223372036854775808 := by
  have : 2 ^ (7 * k) ≤ 2 ^ 63 := Nat.pow_le_pow_right (by omega) (by omega)
  omega
/-- What is taken, said by how many bytes say that there is more. -/
theorem vtk_hi : ∀ (r : List UInt8) (k X : Nat), k ≤ 10 → vtk (10 - k) r k X =
    if 10 ≤ k + hiN r then (0, 0, 11) else if r.length ≤ hiN r then (0, 0, 10)
    else if (k + hiN r = 9 ∧ 1 < (r[hiN r]?.getD 0).toNat) ∨ (0 < k + hiN r ∧ (r[hiN r]?.getD 0).toNat = 0) then (0, 0, 11)
    else (X + 2 ^ (7 * k) * vsum (r.take (hiN r + 1)), k + hiN r + 1, 0)
  | [], k, X, h => by
    by_cases h10 : k = 10
    · subst h10; simp [hiN, vtk]
    · rw [show 10 - k = (9 - k) + 1 from by omega, show hiN [] = 0 from rfl, if_neg (by omega), if_pos (by simp)]
      rfl
  | c :: t, k, X, h => by
    by_cases h10 : k = 10
    · subst h10
      rw [if_pos (by omega)]
      rfl
    · rw [show 10 - k = (9 - k) + 1 from by omega]
      by_cases hc : c.toNat < 128
      · have h0 : hiN (c :: t) = 0 := by simp only [hiN]; rw [if_pos hc]
        have e0 : ((c :: t)[0]?.getD 0) = c := rfl
        have eL : vtk (9 - k + 1) (c :: t) k X = if (k = 9 ∧ 1 < c.toNat) ∨ (0 < k ∧ c.toNat = 0) then (0, 0, 11) else (X + c.toNat * 2 ^ (7 * k) % 18446744073709551616, k + 1, 0) := by
          simp only [vtk]; rw [if_pos hc]
        rw [h0, eL, if_neg (c := 10 ≤ k + 0) (by omega), if_neg (c := (c :: t).length ≤ 0) (by simp), e0]
        show _ = if (k = 9 ∧ 1 < c.toNat) ∨ (0 < k ∧ c.toNat = 0) then _ else _
        by_cases h1 : (k = 9 ∧ 1 < c.toNat) ∨ (0 < k ∧ c.toNat = 0)
        · rw [if_pos h1, if_pos h1]
        · rw [if_neg h1, if_neg h1]
          have e : vsum ((c :: t).take (0 + 1)) = c.toNat := by
            simp [vsum]; omega
          rw [e]
          have hm : c.toNat * 2 ^ (7 * k) % 18446744073709551616 = 2 ^ (7 * k) * c.toNat := by
            rw [Nat.mul_comm]
            apply Nat.mod_eq_of_lt
            by_cases h9 : k = 9
            · have : c.toNat ≤ 1 := by
                rcases Nat.lt_or_ge 1 c.toNat with h2 | h2
                · exact absurd (.inl ⟨h9, h2⟩) h1
                · exact h2
              have h3 := pow7_le (k := k) (by omega)
              calc 2 ^ (7 * k) * c.toNat ≤ 2 ^ (7 * k) * 1 := Nat.mul_le_mul_left _ this
                _ < 18446744073709551616 := by omega
            · have h3 : 2 ^ (7 * k) ≤ 2 ^ 56 := Nat.pow_le_pow_right (by omega) (by omega)
              calc 2 ^ (7 * k) * c.toNat ≤ 2 ^ 56 * c.toNat := Nat.mul_le_mul_right _ h3
                _ < 18446744073709551616 := by omega
          rw [hm]
      · have h0 : hiN (c :: t) = hiN t + 1 := by simp only [hiN]; rw [if_neg hc]
        have ih := vtk_hi t (k + 1) (X + c.toNat % 128 * 2 ^ (7 * k) % 18446744073709551616) (by omega)
        rw [h0]
        simp only [vtk]
        rw [if_neg hc, show 9 - k = 10 - (k + 1) from by omega, ih]
        simp only [List.length_cons, List.getElem?_cons_succ, Nat.add_le_add_iff_right, show k + 1 + hiN t = k + (hiN t + 1) from by omega]
        split
        · rfl
        · rename_i h1
          split
          · rfl
          · split
            · rfl
            · have hm : c.toNat % 128 * 2 ^ (7 * k) % 18446744073709551616 = 2 ^ (7 * k) * (c.toNat % 128) := by
                rw [Nat.mul_comm]
                apply Nat.mod_eq_of_lt
                have h3 : 2 ^ (7 * k) ≤ 2 ^ 56 := Nat.pow_le_pow_right (by omega) (by omega)
                have h4 : c.toNat % 128 < 128 := Nat.mod_lt _ (by omega)
                calc 2 ^ (7 * k) * (c.toNat % 128) ≤ 2 ^ 56 * (c.toNat % 128) := Nat.mul_le_mul_right _ h3
                  _ < 18446744073709551616 := by omega
              have e : vsum ((c :: t).take (hiN t + 1 + 1)) = c.toNat % 128 + 128 * vsum (t.take (hiN t + 1)) := rfl
              rw [hm, e, pow7, Nat.mul_add, ← Nat.mul_assoc, Nat.add_assoc]
theorem vtake_hi (b : List UInt8) : vtake b =
    if 10 ≤ hiN b then (0, 0, 11) else if b.length ≤ hiN b then (0, 0, 10)
    else if (hiN b = 9 ∧ 1 < (b[hiN b]?.getD 0).toNat) ∨ (0 < hiN b ∧ (b[hiN b]?.getD 0).toNat = 0) then (0, 0, 11)
    else (vsum (b.take (hiN b + 1)), hiN b + 1, 0) := by
  have h := vtk_hi b 0 0 (by omega)
  simp only [Nat.zero_add, Nat.mul_zero, Nat.pow_zero, Nat.one_mul, Nat.sub_zero] at h
  exact h
/-- The sum from a place on, by one byte more. -/
theorem vsum_at {l : List UInt8} {i : Nat} (h : i < l.length) (m : Nat) : vsum ((l.drop i).take (m + 1)) = l[i].toNat % 128 + 128 * vsum ((l.drop (i + 1)).take m) := by
  rw [List.drop_eq_getElem_cons h]; rfl
theorem vsum_64 {b : List UInt8} (h9 : hiN b ≤ 9) (h : ¬ (hiN b = 9 ∧ 1 < (b[hiN b]?.getD 0).toNat)) (i : Nat) (hi : i ≤ hiN b + 1) (hl : hiN b < b.length) : vsum ((b.drop i).take (hiN b + 1 - i)) < 18446744073709551616 := by
  by_cases hn : hiN b = 9
  · have hc : (b[9]?.getD 0).toNat ≤ 1 := by
      rcases Nat.lt_or_ge 1 (b[9]?.getD 0).toNat with h2 | h2
      · exact absurd ⟨hn, by rw [hn]; exact h2⟩ h
      · exact h2
    rw [hn] at hl hi ⊢
    have key : ∀ j : Nat, j ≤ 9 → vsum ((b.drop (9 - j)).take (10 - (9 - j))) < 2 * 128 ^ j := by
      intro j
      induction j with
      | zero =>
        intro _
        have e : b[9]?.getD 0 = b[9] := by rw [List.getElem?_eq_getElem hl]; rfl
        rw [e] at hc
        show vsum ((b.drop 9).take (0 + 1)) < 2
        rw [vsum_at hl]
        simp [vsum]; omega
      | succ j ih =>
        intro hj
        have := ih (by omega)
        rw [show 10 - (9 - (j + 1)) = (10 - (9 - j)) + 1 from by omega, vsum_at (by omega), show 9 - (j + 1) + 1 = 9 - j from by omega]
        have e : 128 ^ (j + 1) = 128 ^ j * 128 := Nat.pow_succ ..
        omega
    by_cases hi10 : i = 10
    · subst hi10; simp [vsum]
    · have := key (9 - i) (by omega)
      rw [show 9 - (9 - i) = i from by omega] at this
      have h3 : 128 ^ (9 - i) ≤ 128 ^ 9 := Nat.pow_le_pow_right (by omega) (by omega)
      have h4 : (128 : Nat) ^ 9 = 9223372036854775808 := by decide
      rw [show 9 + 1 - i = 10 - i from by omega]
      omega
  · have h1 := vsum_lt 9 ((b.drop i).take (hiN b + 1 - i)) (by rw [List.length_take]; omega)
    have h4 : (128 : Nat) ^ 9 = 9223372036854775808 := by decide
    omega
end Go.Proofs.YtmdphaagbmipcaaDoor
