/-
  Marshalled bytes are in the order of the labels: plain lists.
-/
import Derived.Test.YtbgnmojdkhlbaaaDoorLbParse2
import Derived.Test.YtbgnmojdkhlbaaaDoorLawLbCompares
namespace Go.Proofs.YtbgnmojdkhlbaaaDoor
open Go.RowKit

theorem less_cons (x y : UInt8) (a b : List UInt8) : Op.bytesLess (x :: a) (y :: b) = (decide (x.toNat < y.toNat) || (decide (x.toNat = y.toNat) && Op.bytesLess a b)) := by
  simp only [Op.bytesLess, UInt8.lt_iff_toNat_lt]
  congr 2
  by_cases h : x = y
  · subst h; simp
  · have : ¬ x.toNat = y.toNat := fun e => h (UInt8.toNat_inj.1 e)
    simp [h, this]
theorem less_lt {x y : UInt8} {a b : List UInt8} (h : x.toNat < y.toNat) : Op.bytesLess (x :: a) (y :: b) = true := by rw [less_cons]; simp [h]
theorem less_gt {x y : UInt8} {a b : List UInt8} (h : y.toNat < x.toNat) : Op.bytesLess (x :: a) (y :: b) = false := by
  rw [less_cons, decide_eq_false (by omega), decide_eq_false (by omega)]; rfl
theorem less_same (x : UInt8) (a b : List UInt8) : Op.bytesLess (x :: a) (x :: b) = Op.bytesLess a b := by rw [less_cons]; simp
theorem less_pre (p a b : List UInt8) : Op.bytesLess (p ++ a) (p ++ b) = Op.bytesLess a b := by
  induction p with
  | nil => rfl
  | cons x p ih => rw [List.cons_append, List.cons_append, less_same, ih]

theorem esc_nil : esc [] = [1] := rfl
theorem esc_cons (c : UInt8) (s : List UInt8) : esc (c :: s) = escB c ++ esc s := by simp [esc]
theorem escB_head (c : UInt8) : ∃ d r, escB c = d :: r ∧ 2 ≤ d.toNat := by
  unfold escB
  split
  · exact ⟨2, _, rfl, by decide⟩
  · exact ⟨c, [], rfl, by omega⟩
theorem one_nat : (1 : UInt8).toNat = 1 := rfl
theorem two_nat : (2 : UInt8).toNat = 2 := rfl
/-- Escaped texts that differ are in the order of the texts, whatever lies behind them. -/
theorem esc_less : ∀ (s t p q : List UInt8), s ≠ t → Op.bytesLess (esc s ++ p) (esc t ++ q) = Op.bytesLess s t
  | [], [], _, _, h => absurd rfl h
  | [], d :: t, p, q, _ => by
    obtain ⟨x, r, hx, h2⟩ := escB_head d
    rw [esc_nil, esc_cons, hx, List.cons_append, List.cons_append, List.cons_append, less_lt (by rw [one_nat]; omega)]
    rfl
  | c :: s, [], p, q, _ => by
    obtain ⟨x, r, hx, h2⟩ := escB_head c
    rw [esc_nil, esc_cons, hx, List.cons_append, List.cons_append, List.cons_append, less_gt (by rw [one_nat]; omega)]
    rfl
  | c :: s, d :: t, p, q, h => by
    rw [esc_cons, esc_cons, List.append_assoc, List.append_assoc]
    by_cases e : c = d
    · subst e
      rw [less_pre, less_same, esc_less s t p q (fun e => h (by rw [e]))]
    · have en : c.toNat ≠ d.toNat := fun x => e (UInt8.toNat_inj.1 x)
      have hc : ∀ n, n < 3 → (UInt8.ofNat (n + 3)).toNat = n + 3 := fun n h => u8_nat _ (by omega)
      have key : Op.bytesLess (escB c ++ (esc s ++ p)) (escB d ++ (esc t ++ q)) = decide (c.toNat < d.toNat) := by
        unfold escB
        by_cases h1 : c.toNat < 3
        · rw [if_pos h1]
          by_cases h2 : d.toNat < 3
          · rw [if_pos h2]
            simp only [List.cons_append, List.nil_append]
            rw [less_same]
            by_cases hl : c.toNat < d.toNat
            · rw [less_lt (by rw [hc _ h1, hc _ h2]; omega), decide_eq_true hl]
            · rw [less_gt (by rw [hc _ h1, hc _ h2]; omega), decide_eq_false hl]
          · rw [if_neg h2]
            simp only [List.cons_append, List.nil_append]
            rw [less_lt (by rw [two_nat]; omega), decide_eq_true (by omega)]
        · rw [if_neg h1]
          by_cases h2 : d.toNat < 3
          · rw [if_pos h2]
            simp only [List.cons_append, List.nil_append]
            rw [less_gt (by rw [two_nat]; omega), decide_eq_false (by omega)]
          · rw [if_neg h2]
            simp only [List.cons_append, List.nil_append]
            by_cases hl : c.toNat < d.toNat
            · rw [less_lt hl, decide_eq_true hl]
            · rw [less_gt (by omega), decide_eq_false hl]
      rw [key, less_cons, decide_eq_false en]
      simp

theorem bytesB_eq {x y : ByteArray} : x.data.toList = y.data.toList ↔ x = y := by
  constructor
  · intro h
    apply bytes_same
    rw [Lib.toList_data, Lib.toList_data]
    exact h
  · rintro rfl; rfl
theorem esc_cmp (x y : ByteArray) (p q : List UInt8) (h : x ≠ y) : Op.bytesLess (esc x.data.toList ++ p) (esc y.data.toList ++ q) = decide (cmpB x y < 0) := by
  rw [esc_less _ _ _ _ (fun e => h (bytesB_eq.1 e)), ← Lib.toList_data, ← Lib.toList_data]
  rcases cmpB_cases x y with ⟨h1, h2⟩ | ⟨_, h2⟩ | ⟨h1, h2⟩
  · rw [h1, h2]; rfl
  · exact absurd h2 h
  · rw [h1, less_asymm h2]; rfl
theorem cmpB_zero {x y : ByteArray} : cmpB x y = 0 ↔ x = y := by
  constructor
  · intro h
    rcases cmpB_cases x y with ⟨h1, _⟩ | ⟨_, h2⟩ | ⟨h1, _⟩
    · omega
    · exact h2
    · omega
  · rintro rfl; exact cmpB_self x
theorem or2_zero {i j : Int} : or2 i j = 0 ↔ i = 0 ∧ j = 0 := by
  unfold or2
  by_cases h : i = 0
  · simp [h]
  · simp [h]
theorem cmpL_zero {x y : Lb} : cmpL x y = 0 ↔ x = y := by
  unfold cmpL
  rw [or2_zero, cmpB_zero, cmpB_zero]
  exact ⟨fun h => Prod.ext h.1 h.2, fun h => by rw [h]; exact ⟨rfl, rfl⟩⟩
theorem cmpLs_zero : ∀ {a b : List Lb}, cmpLs a b = 0 ↔ a = b
  | [], [] => by simp [cmpLs]
  | [], _ :: _ => by simp [cmpLs]
  | _ :: _, [] => by simp [cmpLs]
  | x :: a, y :: b => by
    simp only [cmpLs]
    rw [or2_zero, cmpL_zero, cmpLs_zero]
    simp
theorem marsh_less : ∀ (a b : List Lb), Op.bytesLess (marsh a) (marsh b) = decide (cmpLs a b < 0)
  | [], [] => rfl
  | [], y :: b => by
    rw [marsh_cons]
    cases he : esc y.1.data.toList with
    | nil => have := esc_pos y.1.data.toList; rw [he] at this; simp at this
    | cons c r => rfl
  | x :: a, [] => by
    rw [marsh_cons]
    cases he : esc x.1.data.toList with
    | nil => have := esc_pos x.1.data.toList; rw [he] at this; simp at this
    | cons c r => rfl
  | x :: a, y :: b => by
    rw [marsh_cons, marsh_cons]
    obtain ⟨Z, hZ⟩ : ∃ Z, cmpLs (x :: a) (y :: b) = Z := ⟨_, rfl⟩
    rw [hZ]
    simp only [cmpLs, cmpL] at hZ
    have e0 : ∀ j, or2 0 j = j := fun j => by simp [or2]
    by_cases h1 : x.1 = y.1
    · rw [h1, cmpB_self, e0] at hZ
      rw [h1, less_pre]
      by_cases h2 : x.2 = y.2
      · rw [h2, cmpB_self, e0] at hZ
        rw [h2, less_pre, ← hZ]
        exact marsh_less a b
      · have h3 : cmpB x.2 y.2 ≠ 0 := fun e => h2 (cmpB_zero.1 e)
        have h4 : Z = cmpB x.2 y.2 := hZ.symm.trans (if_neg h3)
        rw [esc_cmp _ _ _ _ h2, h4]
    · have h2 : cmpB x.1 y.1 ≠ 0 := fun e => h1 (cmpB_zero.1 e)
      have h3 : or2 (cmpB x.1 y.1) (cmpB x.2 y.2) = cmpB x.1 y.1 := if_neg h2
      rw [h3] at hZ
      have h4 : Z = cmpB x.1 y.1 := hZ.symm.trans (if_neg h2)
      rw [esc_cmp _ _ _ _ h1, h4]
theorem marsh_same (a b : List Lb) : (marsh a == marsh b) = decide (cmpLs a b = 0) := by
  by_cases h : a = b
  · subst h
    rw [decide_eq_true (cmpLs_zero.2 rfl)]
    simp
  · rw [decide_eq_false (fun e => h (cmpLs_zero.1 e))]
    rw [beq_eq_false_iff_ne]
    exact fun e => h (marsh_inj e)
end Go.Proofs.YtbgnmojdkhlbaaaDoor
