/-
  The law LabelsCompares, walked.
-/
import Derived.Test.YtbgnmojdkhlbaaaDoorLbAwake
namespace Go.Proofs.YtbgnmojdkhlbaaaDoor
open Go.RowKit

theorem cmpB_cases (x y : ByteArray) : (cmpB x y = -1 ∧ Op.bytesLess x.toList y.toList = true) ∨ (cmpB x y = 0 ∧ x = y) ∨ (cmpB x y = 1 ∧ Op.bytesLess y.toList x.toList = true) := by
  cases h : Op.bytesLess x.toList y.toList with
  | true => exact .inl ⟨cmpB_lt h, rfl⟩
  | false =>
    cases h2 : Op.bytesLess y.toList x.toList with
    | true =>
      have hn : (x.toList == y.toList) = false := by
        cases he : (x.toList == y.toList) with
        | false => rfl
        | true => rw [beq_iff_eq] at he; rw [he, bytesLess_irrefl] at h2; exact absurd h2 (by simp)
      exact .inr (.inr ⟨cmpB_gt h hn, rfl⟩)
    | false =>
      have he := less_total h h2
      exact .inr (.inl ⟨cmpB_eq h (by rw [he]; simp), bytes_same he⟩)
theorem cmpB_neg (x y : ByteArray) : cmpB y x = -(cmpB x y) := by
  rcases cmpB_cases x y with ⟨h, h1⟩ | ⟨h, rfl⟩ | ⟨h, h1⟩
  · rcases cmpB_cases y x with ⟨h2, h3⟩ | ⟨h2, rfl⟩ | ⟨h2, h3⟩
    · rw [less_asymm h1] at h3; exact absurd h3 (by simp)
    · rw [bytesLess_irrefl] at h1; exact absurd h1 (by simp)
    · rw [h, h2]; rfl
  · rw [cmpB_self]; rfl
  · rw [cmpB_lt h1, h]
theorem cmpB_rng (x y : ByteArray) : -1 ≤ cmpB x y ∧ cmpB x y ≤ 1 := by
  rcases cmpB_cases x y with ⟨h, _⟩ | ⟨h, _⟩ | ⟨h, _⟩ <;> rw [h] <;> omega
theorem or2_neg (i j : Int) : or2 (-i) (-j) = -(or2 i j) := by
  unfold or2
  by_cases h : i = 0
  · subst h; simp
  · rw [if_neg h, if_neg (by omega)]
theorem or2_rng {i j : Int} (h : -1 ≤ i ∧ i ≤ 1) (h2 : -1 ≤ j ∧ j ≤ 1) : -1 ≤ or2 i j ∧ or2 i j ≤ 1 := by
  unfold or2
  split <;> assumption
theorem cmpL_neg (x y : Lb) : cmpL y x = -(cmpL x y) := by
  unfold cmpL; rw [cmpB_neg x.1 y.1, cmpB_neg x.2 y.2, or2_neg]
theorem cmpLs_neg : ∀ a b : List Lb, cmpLs b a = -(cmpLs a b)
  | [], [] => rfl
  | [], _ :: _ => rfl
  | _ :: _, [] => rfl
  | x :: a, y :: b => by simp only [cmpLs]; rw [cmpL_neg x y, cmpLs_neg a b, or2_neg]
theorem cmpLs_rng : ∀ a b : List Lb, -1 ≤ cmpLs a b ∧ cmpLs a b ≤ 1
  | [], [] => by simp [cmpLs]
  | [], _ :: _ => by simp [cmpLs]
  | _ :: _, [] => by simp [cmpLs]
  | x :: a, y :: b => by simp only [cmpLs]; exact or2_rng (or2_rng (cmpB_rng _ _) (cmpB_rng _ _)) (cmpLs_rng a b)

set_option maxRecDepth 100000 in
set_option maxHeartbeats 1600000 in
theorem LabelsCompares_any (A A' : Option Addr) (n c m c' : Nat) (a b : List Lb) (hn : a.length = n) (hm : b.length = m) (w : World) (hS : Sees w w.heap.size A (lv a)) (hT : Sees w w.heap.size A' (lv b)) :
    Calls Tryd.prog 4 #[.slice A n c, .slice A' m c'] w (Gives w (.bool true)) := by
  have hA := Lib.hid (awake_any w)
  have HN := Lib.hid hn
  have HM := Lib.hid hm
  clear hn hm
  go_enter Tryd.func4, Tryd.ntmps4
  go_wp2_with fail
  refine hA.out.mono ?_
  rintro en w1 ⟨rfl, hb1⟩
  have hs1 := hb1.size
  have hS1 := (hS.below hb1).more hs1
  have hT1 := (hT.below hb1).more hs1
  have hF := Lib.hid (few_any A n c a HN.out w1 hS1)
  have hF2 := Lib.hid (few_any A' m c' b HM.out w1 hT1)
  clear hA
  go_wp2_with fail
  refine hF.out.mono ?_
  rintro en w1' ⟨bf, hfew, rfl, rfl⟩
  clear hF
  go_wp2_with fail
  refine hF2.out.mono ?_
  rintro en w1' ⟨bf2, hfew2, rfl, rfl⟩
  clear hF2
  cases bf with
  | false =>
    cases bf2 <;>
    · go_wp2
      go_ret
      exact ⟨rfl, hb1⟩
  | true =>
  cases bf2 with
  | false =>
    go_wp2
    go_ret
    exact ⟨rfl, hb1⟩
  | true =>
    have hl1 : n ≤ 1099511627776 := by have := (hfew rfl).len; have := HN.out; omega
    have hl2 : m ≤ 1099511627776 := by have := (hfew2 rfl).len; have := HM.out; omega
    clear hfew hfew2
    have hC := Lib.hid (LCompare_any A A' n c m c' a b HN.out HM.out w1 hS1 hT1 hl1 hl2)
    obtain ⟨X, hX⟩ : ∃ X, cmpLs a b = X := ⟨_, rfl⟩
    have hneg := cmpLs_neg a b
    have hrng := cmpLs_rng a b
    rw [hX] at hneg hrng hC
    go_wp2_with fail
    refine hC.out.mono ?_
    rintro en w2 ⟨rfl, hb2⟩
    clear hC
    have hs2 := hb2.size
    have hS2 := (hS1.below hb2).more hs2
    have hT2 := (hT1.below hb2).more hs2
    have hR := Lib.hid (RefCompare_any A A' n c m c' a b HN.out HM.out w2 hS2 hT2 hl1 hl2)
    rw [hX] at hR
    go_wp2_with fail
    refine hR.out.mono ?_
    rintro en w3' ⟨rfl, q, rfl⟩
    clear hR
    have hb3 := below_d hb2 q
    have hs3 := hb3.size
    have hS3 := (hS1.below hb3).more hs3
    have hT3 := (hT1.below hb3).more hs3
    generalize w2.drewN q = w3 at hb3 hs3 hS3 hT3 ⊢
    have hD := Lib.hid (LCompare_any A' A m c' n c b a HM.out HN.out w3 hT3 hS3 hl2 hl1)
    rw [hneg] at hD
    go_wp2_with fail
    refine hD.out.mono ?_
    rintro en w4 ⟨rfl, hb4⟩
    clear hD
    have hs4 := hb4.size
    have hS4 := (hS3.below hb4).more hs4
    have hT4 := (hT3.below hb4).more hs4
    have hE := Lib.hid (LCompare_any A A' n c m c' a b HN.out HM.out w4 hS4 hT4 hl1 hl2)
    rw [hX] at hE
    clear hneg hX
    go_wp2_with fail
    refine hE.out.mono ?_
    rintro en w5 ⟨rfl, hb5⟩
    clear hE
    go_wp2
    go_ret
    exact ⟨by simp, hb1.trans ((hb3.mono hs1).trans ((hb4.mono (by omega)).trans (hb5.mono (by omega))))⟩
end Go.Proofs.YtbgnmojdkhlbaaaDoor
