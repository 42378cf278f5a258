/-
  Items of one kind are in the order of what they say: plain lists.
-/
import Derived.Test.YtpjiioeodcinpaaGreatDoorRwComp
namespace Go.Proofs.YtpjiioeodcinpaaGreatDoor
open Go.RowKit

theorem less_cons (x y : UInt8) (a b : List UInt8) : Op.bytesLess (x :: a) (y :: b) = (decide (x.toNat < y.toNat) || (decide (x.toNat = y.toNat) && Op.bytesLess a b)) := by
  simp only [Op.bytesLess, UInt8.lt_iff_toNat_lt]
  congr 2
  by_cases h : x = y
  · subst h; simp
  · have : ¬ x.toNat = y.toNat := fun e => h (UInt8.toNat_inj.1 e)
    simp [h, this]
theorem less_lt {x y : UInt8} {a b : List UInt8} (h : x.toNat < y.toNat) : Op.bytesLess (x :: a) (y :: b) = true := by rw [less_cons]; simp [h]
theorem less_gt {x y : UInt8} {a b : List UInt8} (h : y.toNat < x.toNat) : Op.bytesLess (x :: a) (y :: b) = false := by
  rw [less_cons, decide_eq_false (by omega), decide_eq_false (by omega)]; rfl
theorem less_same (x : UInt8) (a b : List UInt8) : Op.bytesLess (x :: a) (x :: b) = Op.bytesLess a b := by rw [less_cons]; simp
theorem less_pre (p a b : List UInt8) : Op.bytesLess (p ++ a) (p ++ b) = Op.bytesLess a b := by
  induction p with
  | nil => rfl
  | cons x p ih => rw [List.cons_append, List.cons_append, less_same, ih]

theorem esc_nil : esc [] = [1] := rfl
theorem esc_cons (c : UInt8) (s : List UInt8) : esc (c :: s) = escB c ++ esc s := by simp [esc]
theorem escB_head (c : UInt8) : ∃ d r, escB c = d :: r ∧ 2 ≤ d.toNat := by
  unfold escB
  split
  · exact ⟨2, _, rfl, by decide⟩
  · exact ⟨c, [], rfl, by omega⟩
theorem one_nat : (1 : UInt8).toNat = 1 := rfl
theorem two_nat : (2 : UInt8).toNat = 2 := rfl
/-- Escaped texts that differ are in the order of the texts, whatever lies behind them. -/
theorem esc_less : ∀ (s t p q : List UInt8), s ≠ t → Op.bytesLess (esc s ++ p) (esc t ++ q) = Op.bytesLess s t
  | [], [], _, _, h => absurd rfl h
  | [], d :: t, p, q, _ => by
    obtain ⟨x, r, hx, h2⟩ := escB_head d
    rw [esc_nil, esc_cons, hx, List.cons_append, List.cons_append, List.cons_append, less_lt (by rw [one_nat]; omega)]
    rfl
  | c :: s, [], p, q, _ => by
    obtain ⟨x, r, hx, h2⟩ := escB_head c
    rw [esc_nil, esc_cons, hx, List.cons_append, List.cons_append, List.cons_append, less_gt (by rw [one_nat]; omega)]
    rfl
  | c :: s, d :: t, p, q, h => by
    rw [esc_cons, esc_cons, List.append_assoc, List.append_assoc]
    by_cases e : c = d
    · subst e
      rw [less_pre, less_same, esc_less s t p q (fun e => h (by rw [e]))]
    · have en : c.toNat ≠ d.toNat := fun x => e (UInt8.toNat_inj.1 x)
      have hc : ∀ n, n < 3 → (UInt8.ofNat (n + 3)).toNat = n + 3 := fun n h => u8_nat _ (by omega)
      have key : Op.bytesLess (escB c ++ (esc s ++ p)) (escB d ++ (esc t ++ q)) = decide (c.toNat < d.toNat) := by
        unfold escB
        by_cases h1 : c.toNat < 3
        · rw [if_pos h1]
          by_cases h2 : d.toNat < 3
          · rw [if_pos h2]
            simp only [List.cons_append, List.nil_append]
            rw [less_same]
            by_cases hl : c.toNat < d.toNat
            · rw [less_lt (by rw [hc _ h1, hc _ h2]; omega), decide_eq_true hl]
            · rw [less_gt (by rw [hc _ h1, hc _ h2]; omega), decide_eq_false hl]
          · rw [if_neg h2]
            simp only [List.cons_append, List.nil_append]
            rw [less_lt (by rw [two_nat]; omega), decide_eq_true (by omega)]
        · rw [if_neg h1]
          by_cases h2 : d.toNat < 3
          · rw [if_pos h2]
            simp only [List.cons_append, List.nil_append]
            rw [less_gt (by rw [two_nat]; omega), decide_eq_false (by omega)]
          · rw [if_neg h2]
            simp only [List.cons_append, List.nil_append]
            by_cases hl : c.toNat < d.toNat
            · rw [less_lt hl, decide_eq_true hl]
            · rw [less_gt (by omega), decide_eq_false hl]
      rw [key, less_cons, decide_eq_false en]
      simp

theorem dig (i : Nat) (h : i < 4294967296) : ∃ a b c d, a < 256 ∧ b < 256 ∧ c < 256 ∧ d < 256 ∧ i = a * 16777216 + b * 65536 + c * 256 + d ∧ i / 16777216 % 256 = a ∧ i / 65536 % 256 = b ∧ i / 256 % 256 = c ∧ i % 256 = d :=
  ⟨i / 16777216, i / 65536 % 256, i / 256 % 256, i % 256, by omega, by omega, by omega, by omega, by omega, by omega, rfl, rfl, rfl⟩
theorem four_order (i j : Nat) (hi : i < 4294967296) (hj : j < 4294967296) : Op.bytesLess (four i) (four j) = decide (i < j) := by
  rw [Bool.eq_iff_iff, decide_eq_true_eq]
  unfold four
  simp only [less_cons, Bool.or_eq_true, Bool.and_eq_true, decide_eq_true_eq, ofNat_nat, show Op.bytesLess ([] : List UInt8) [] = false from rfl, Bool.false_eq_true, and_false, or_false]
  obtain ⟨a, b, c, d, h1, h2, h3, h4, e, e1, e2, e3, e4⟩ := dig i hi
  obtain ⟨a', b', c', d', g1, g2, g3, g4, f, f1, f2, f3, f4⟩ := dig j hj
  rw [e1, e2, e3, e4, f1, f2, f3, f4, e, f]
  clear e1 e2 e3 e4 f1 f2 f3 f4 e f hi hj
  omega
theorem four_order_ne (i j : Nat) (hi : i < 4294967296) (hj : j < 4294967296) (hne : i ≠ j) (p q : List UInt8) : Op.bytesLess (four i ++ p) (four j ++ q) = decide (i < j) := by
  rw [Bool.eq_iff_iff, decide_eq_true_eq]
  unfold four
  simp only [List.cons_append, List.nil_append, less_cons, Bool.or_eq_true, Bool.and_eq_true, decide_eq_true_eq, ofNat_nat]
  obtain ⟨a, b, c, d, h1, h2, h3, h4, e, e1, e2, e3, e4⟩ := dig i hi
  obtain ⟨a', b', c', d', g1, g2, g3, g4, f, f1, f2, f3, f4⟩ := dig j hj
  rw [e1, e2, e3, e4, f1, f2, f3, f4, e, f]
  have hne' : ¬ (a = a' ∧ b = b' ∧ c = c' ∧ d = d') := by rintro ⟨rfl, rfl, rfl, rfl⟩; exact hne (e.trans f.symm)
  clear e1 e2 e3 e4 f1 f2 f3 f4 e f hi hj hne
  generalize Op.bytesLess p q = z
  cases z <;> simp <;> omega
theorem less_zero : ∀ (s t p q : List UInt8), (∀ c ∈ s, 1 ≤ c.toNat) → (∀ c ∈ t, 1 ≤ c.toNat) → s ≠ t → Op.bytesLess (s ++ 0 :: p) (t ++ 0 :: q) = Op.bytesLess s t
  | [], [], _, _, _, _, h => absurd rfl h
  | [], d :: t, p, q, _, ht, _ => by
    have := ht d (by simp)
    rw [List.nil_append, List.cons_append, less_lt (by rw [show (0 : UInt8).toNat = 0 from rfl]; omega)]
    rfl
  | c :: s, [], p, q, hs, _, _ => by
    have := hs c (by simp)
    rw [List.nil_append, List.cons_append, less_gt (by rw [show (0 : UInt8).toNat = 0 from rfl]; omega)]
    rfl
  | c :: s, d :: t, p, q, hs, ht, h => by
    rw [List.cons_append, List.cons_append, less_cons, less_cons]
    by_cases e : c = d
    · subst e
      rw [less_zero s t p q (fun x hx => hs x (by simp [hx])) (fun x hx => ht x (by simp [hx])) (fun e => h (by rw [e]))]
    · have en : c.toNat ≠ d.toNat := fun x => e (UInt8.toNat_inj.1 x)
      rw [decide_eq_false en]
      rfl
theorem esc_pos1 (l : List UInt8) : ∀ c ∈ esc l, 1 ≤ c.toNat := by
  intro c hc
  unfold esc at hc
  rcases List.mem_append.1 hc with hc | hc
  · obtain ⟨d, _, hd⟩ := List.mem_flatMap.1 hc
    unfold escB at hd
    split at hd
    · simp at hd
      rcases hd with rfl | rfl
      · decide
      · rw [UInt8.toNat_add, show (3 : UInt8).toNat = 3 from rfl]; omega
    · simp at hd; subst hd; omega
  · simp at hc; subst hc; decide
theorem marsh_pos1 (l : List Lb) : ∀ c ∈ marsh l, 1 ≤ c.toNat := by
  intro c hc
  unfold marsh at hc
  obtain ⟨x, _, hx⟩ := List.mem_flatMap.1 hc
  rcases List.mem_append.1 hx with h | h
  · exact esc_pos1 _ _ h
  · exact esc_pos1 _ _ h
theorem ids {r : RowP} (h : MayR r) : r.id = (r.id.toNat : Int) ∧ r.id.toNat < 4294967296 ∧ r.day = (r.day.toNat : Int) ∧ r.day.toNat < 4294967296 := by
  have h1 := h.id1
  have h2 := h.id2
  have h3 := h.day1
  have h4 := h.day2
  omega
theorem dec_nat {i j : Int} {n m : Nat} (hi : i = (n : Int)) (hj : j = (m : Int)) : decide (n < m) = decide (i < j) := by
  rw [hi, hj]; by_cases h : n < m
  · rw [decide_eq_true h, decide_eq_true (by omega)]
  · rw [decide_eq_false h, decide_eq_false (by omega)]
theorem ord5 {r s : RowP} (hr : MayR r) (hs : MayR s) (k1 : r.kind = 5) (k2 : s.kind = 5) : Op.bytesLess (makeR r) (makeR s) = decide (r.id < s.id) := by
  obtain ⟨a1, a2, _, _⟩ := ids hr
  obtain ⟨b1, b2, _, _⟩ := ids hs
  rw [make5 k1, make5 k2, less_pre, four_order _ _ a2 b2, dec_nat a1 b1]
theorem ord2 {r s : RowP} (hr : MayR r) (hs : MayR s) (k1 : r.kind = 2) (k2 : s.kind = 2) (hne : r.id ≠ s.id) : Op.bytesLess (makeR r) (makeR s) = decide (r.id < s.id) := by
  obtain ⟨a1, a2, _, _⟩ := ids hr
  obtain ⟨b1, b2, _, _⟩ := ids hs
  rw [make2 k1, make2 k2, List.append_assoc, List.append_assoc, less_pre, four_order_ne _ _ a2 b2 (by omega), dec_nat a1 b1]
theorem ord1 {r s : RowP} (hr : MayR r) (hs : MayR s) (k1 : r.kind = 1) (k2 : s.kind = 1) : Op.bytesLess (makeR r) (makeR s) = if marsh (sortN r.labels) = marsh (sortN s.labels) then decide (r.id < s.id) else Op.bytesLess (marsh (sortN r.labels)) (marsh (sortN s.labels)) := by
  obtain ⟨a1, a2, _, _⟩ := ids hr
  obtain ⟨b1, b2, _, _⟩ := ids hs
  rw [make1 k1, make1 k2, List.append_assoc, List.append_assoc, List.append_assoc, List.append_assoc, less_pre]
  split
  · next h => rw [h, less_pre, less_pre, four_order _ _ a2 b2, dec_nat a1 b1]
  · next h => exact less_zero _ _ _ _ (marsh_pos1 _) (marsh_pos1 _) h
theorem data_ne {x y : ByteArray} (h : x ≠ y) : x.data.toList ≠ y.data.toList := fun e => h (by rw [← strOf_list x, ← strOf_list y, e])
theorem ordL (x y : Lb) (p q : List UInt8) : Op.bytesLess (escL x ++ p) (escL y ++ q) = if x.1 ≠ y.1 then Op.bytesLess x.1.toList y.1.toList else if x.2 ≠ y.2 then Op.bytesLess x.2.toList y.2.toList else Op.bytesLess p q := by
  unfold escL
  rw [List.append_assoc, List.append_assoc, Lib.toList_data, Lib.toList_data, Lib.toList_data, Lib.toList_data]
  by_cases h1 : x.1 = y.1
  · rw [if_neg (fun h => h h1), h1, less_pre]
    by_cases h2 : x.2 = y.2
    · rw [if_neg (fun h => h h2), h2, less_pre]
    · rw [if_pos h2, esc_less _ _ _ _ (data_ne h2)]
  · rw [if_pos h1, esc_less _ _ _ _ (data_ne h1)]
theorem ord34 {r s : RowP} (hr : MayR r) (hs : MayR s) (k1 : r.kind = 3 ∨ r.kind = 4) (k2 : r.kind = s.kind) : Op.bytesLess (makeR r) (makeR s) =
    if r.day ≠ s.day then decide (r.day < s.day) else if r.label.1 ≠ s.label.1 then Op.bytesLess r.label.1.toList s.label.1.toList else if r.label.2 ≠ s.label.2 then Op.bytesLess r.label.2.toList s.label.2.toList else decide (r.id < s.id) := by
  obtain ⟨a1, a2, a3, a4⟩ := ids hr
  obtain ⟨b1, b2, b3, b4⟩ := ids hs
  rcases k1 with k1 | k1
  · have d1 : r.day = 0 := by rcases hr.kinds with ⟨a, _⟩ | ⟨_, _, _, h⟩ | ⟨a, _⟩ | ⟨a, _⟩ <;> omega
    have d2 : s.day = 0 := by rcases hs.kinds with ⟨a, _⟩ | ⟨_, _, _, h⟩ | ⟨a, _⟩ | ⟨a, _⟩ <;> omega
    rw [if_neg (fun h => h (by omega)), make3 k1, make3 (k2 ▸ k1), List.append_assoc, List.append_assoc, less_pre, ordL, four_order _ _ a2 b2, dec_nat a1 b1]
  · rw [make4 k1, make4 (k2 ▸ k1), List.append_assoc, List.append_assoc, List.append_assoc, List.append_assoc, less_pre]
    by_cases hd : r.day = s.day
    · rw [if_neg (fun h => h hd), show r.day.toNat = s.day.toNat from by omega, less_pre, ordL, four_order _ _ a2 b2, dec_nat a1 b1]
    · rw [if_pos hd, four_order_ne _ _ a4 b4 (by omega), dec_nat a3 b3]
end Go.Proofs.YtpjiioeodcinpaaGreatDoor
