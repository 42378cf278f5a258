/-
  Rows of the index as items: the plain law. No program in sight.
-/
import Derived.Test.YtpjiioeodcinpaaGreatDoorLbD
namespace Go.Proofs.YtpjiioeodcinpaaGreatDoor
open Go.RowKit

/-- A number as four bytes. -/
def four (n : Nat) : List UInt8 := [UInt8.ofNat (n / 16777216), UInt8.ofNat (n / 65536), UInt8.ofNat (n / 256), UInt8.ofNat n]
theorem four_len (n : Nat) : (four n).length = 4 := rfl
/-- The number of four bytes. -/
def num (b : List UInt8) : Nat := (b[0]?.getD 0).toNat * 16777216 + (b[1]?.getD 0).toNat * 65536 + (b[2]?.getD 0).toNat * 256 + (b[3]?.getD 0).toNat
theorem ofNat_nat (n : Nat) : (UInt8.ofNat n).toNat = n % 256 := by simp
theorem num_four (n : Nat) (r : List UInt8) (h : n < 4294967296) : num (four n ++ r) = n := by
  simp only [four, num, List.cons_append, List.nil_append, List.getElem?_cons_zero, List.getElem?_cons_succ, Option.getD_some, ofNat_nat]
  omega
theorem num_lt (b : List UInt8) : num b < 4294967296 := by
  unfold num
  have h0 := (b[0]?.getD 0).toNat_lt
  have h1 := (b[1]?.getD 0).toNat_lt
  have h2 := (b[2]?.getD 0).toNat_lt
  have h3 := (b[3]?.getD 0).toNat_lt
  omega
theorem four_inj {n m : Nat} (hn : n < 4294967296) (hm : m < 4294967296) (h : four n = four m) : n = m := by
  have h1 := num_four n [] hn
  have h2 := num_four m [] hm
  rw [List.append_nil] at h1 h2
  rw [← h1, ← h2, h]

/-- What an item says. -/
structure RowP where
  kind : Int
  labels : List Lb
  label : Lb
  day : Int
  id : Int
def lb0 : Lb := (⟨#[]⟩, ⟨#[]⟩)
def row0 : RowP := ⟨0, [], lb0, 0, 0⟩
/-- May a row be? -/
structure MayR (r : RowP) : Prop where
  id1 : 1 ≤ r.id
  id2 : r.id ≤ 1073741824
  day1 : 0 ≤ r.day
  day2 : r.day ≤ 2147483647
  kinds : ((r.kind = 1 ∨ r.kind = 2) ∧ MayL r.labels ∧ r.label = lb0 ∧ r.day = 0) ∨ (r.kind = 3 ∧ r.labels = [] ∧ okL r.label = true ∧ r.day = 0) ∨
    (r.kind = 4 ∧ r.labels = [] ∧ okL r.label = true) ∨ (r.kind = 5 ∧ r.labels = [] ∧ r.label = lb0 ∧ r.day = 0)
def escL (x : Lb) : List UInt8 := esc x.1.data.toList ++ esc x.2.data.toList
/-- A row's item. -/
def makeR (r : RowP) : List UInt8 :=
  if r.kind = 1 then [1] ++ marsh (sortN r.labels) ++ [0] ++ four r.id.toNat
  else if r.kind = 2 then [2] ++ four r.id.toNat ++ marsh (sortN r.labels)
  else if r.kind = 3 then [3] ++ escL r.label ++ four r.id.toNat
  else if r.kind = 4 then [4] ++ four r.day.toNat ++ escL r.label ++ four r.id.toNat
  else [5] ++ four r.id.toNat
/-- A row, its labels in their order. -/
def canonR (r : RowP) : RowP := { r with labels := sortN r.labels }

theorem sortN_nil : sortN [] = [] := rfl
theorem canonR_may {r : RowP} (h : MayR r) : MayR (canonR r) := by
  refine ⟨h.id1, h.id2, h.day1, h.day2, ?_⟩
  rcases h.kinds with ⟨a, b, c, d⟩ | ⟨a, b, c, d⟩ | ⟨a, b, c⟩ | ⟨a, b, c, d⟩
  · exact .inl ⟨a, b.sort, c, d⟩
  · exact .inr (.inl ⟨a, by show sortN r.labels = []; rw [b]; rfl, c, d⟩)
  · exact .inr (.inr (.inl ⟨a, by show sortN r.labels = []; rw [b]; rfl, c⟩))
  · exact .inr (.inr (.inr ⟨a, by show sortN r.labels = []; rw [b]; rfl, c, d⟩))
theorem MayR.sorts {r : RowP} (h : MayR r) : sortN (sortN r.labels) = sortN r.labels := by
  rcases h.kinds with ⟨a, b, c, d⟩ | ⟨a, b, c, d⟩ | ⟨a, b, c⟩ | ⟨a, b, c, d⟩
  · exact sortN_sort b.dist
  · rw [b]; rfl
  · rw [b]; rfl
  · rw [b]; rfl
theorem make1 {r : RowP} (h : r.kind = 1) : makeR r = [1] ++ marsh (sortN r.labels) ++ [0] ++ four r.id.toNat := by unfold makeR; rw [if_pos h]
theorem make2 {r : RowP} (h : r.kind = 2) : makeR r = [2] ++ four r.id.toNat ++ marsh (sortN r.labels) := by unfold makeR; rw [if_neg (by omega), if_pos h]
theorem make3 {r : RowP} (h : r.kind = 3) : makeR r = [3] ++ escL r.label ++ four r.id.toNat := by unfold makeR; rw [if_neg (by omega), if_neg (by omega), if_pos h]
theorem make4 {r : RowP} (h : r.kind = 4) : makeR r = [4] ++ four r.day.toNat ++ escL r.label ++ four r.id.toNat := by unfold makeR; rw [if_neg (by omega), if_neg (by omega), if_neg (by omega), if_pos h]
theorem make5 {r : RowP} (h : r.kind = 5) : makeR r = [5] ++ four r.id.toNat := by unfold makeR; rw [if_neg (by omega), if_neg (by omega), if_neg (by omega), if_neg (by omega)]
theorem canonR_make {r : RowP} (h : MayR r) : makeR (canonR r) = makeR r := by
  have := h.sorts
  unfold makeR canonR
  simp only
  rw [this]
theorem may1 {x : Lb} : MayL [x] ↔ okL x = true := by
  constructor
  · intro h; exact h.ok x (by simp)
  · intro h; exact ⟨by simp, by simp, by simpa using h, by simp [Dist]⟩
theorem lb0_not : okL lb0 = false := by decide

/-- What an item says, taken apart: the kinds one by one. -/
theorem make_head {r : RowP} (h : MayR r) : ∃ t, makeR r = UInt8.ofNat r.kind.toNat :: t ∧ 1 ≤ r.kind ∧ r.kind ≤ 5 := by
  rcases h.kinds with ⟨a | a, b, c, d⟩ | ⟨a, b, c, d⟩ | ⟨a, b, c⟩ | ⟨a, b, c, d⟩
  · rw [make1 a, a]; exact ⟨_, rfl, by decide, by decide⟩
  · rw [make2 a, a]; exact ⟨_, rfl, by decide, by decide⟩
  · rw [make3 a, a]; exact ⟨_, rfl, by decide, by decide⟩
  · rw [make4 a, a]; exact ⟨_, rfl, by decide, by decide⟩
  · rw [make5 a, a]; exact ⟨_, rfl, by decide, by decide⟩
theorem marsh_len : ∀ (m : List Lb), (∀ x ∈ m, 1 ≤ x.1.size ∧ x.1.size ≤ 12 ∧ 1 ≤ x.2.size ∧ x.2.size ≤ 16) → (marsh m).length ≤ 58 * m.length ∧ (m ≠ [] → 4 ≤ (marsh m).length)
  | [], _ => by simp [marsh]
  | x :: t, h => by
    have h1 := h x (by simp)
    have h2 := (marsh_len t fun y hy => h y (by simp [hy])).1
    have e1 := esc_len x.1.data.toList
    have e2 := esc_len x.2.data.toList
    have g1 := esc_longer x.1.data.toList
    have g2 := esc_longer x.2.data.toList
    have l1 : x.1.data.toList.length = x.1.size := Array.length_toList
    have l2 : x.2.data.toList.length = x.2.size := Array.length_toList
    rw [marsh_cons, List.length_append, List.length_append, List.length_cons]
    refine ⟨by omega, fun _ => by omega⟩
where
  esc_longer (l : List UInt8) : l.length + 1 ≤ (esc l).length := by
    unfold esc
    rw [List.length_append]
    have h2 : ∀ l : List UInt8, l.length ≤ (l.flatMap escB).length := by
      intro l
      induction l with
      | nil => simp
      | cons c t ih =>
        have : 1 ≤ (escB c).length := by unfold escB; split <;> simp
        rw [List.flatMap_cons, List.length_append, List.length_cons]; omega
    have := h2 l
    rw [List.length_cons, List.length_nil]; omega
theorem escL_len {x : Lb} (h : okL x = true) : 4 ≤ (escL x).length ∧ (escL x).length ≤ 58 := by
  have h1 := okL_size h
  have e1 := esc_len x.1.data.toList
  have e2 := esc_len x.2.data.toList
  have g1 := marsh_len.esc_longer x.1.data.toList
  have g2 := marsh_len.esc_longer x.2.data.toList
  have l1 : x.1.data.toList.length = x.1.size := Array.length_toList
  have l2 : x.2.data.toList.length = x.2.size := Array.length_toList
  unfold escL
  rw [List.length_append]
  omega
theorem MayL.marsh_len {l : List Lb} (h : MayL l) : 4 ≤ (marsh (sortN l)).length ∧ (marsh (sortN l)).length ≤ 348 := by
  have h1 := Go.Proofs.YtpjiioeodcinpaaGreatDoor.marsh_len (sortN l) fun x hx => okL_size (h.sort.ok x hx)
  have h2 := h.sort.few
  have h3 := h.sort.some
  have h4 := h1.2 (fun e => by rw [e] at h3; simp at h3)
  omega
theorem make_len {r : RowP} (h : MayR r) : 5 ≤ (makeR r).length ∧ (makeR r).length ≤ 354 := by
  rcases h.kinds with ⟨e | e, b, c, d⟩ | ⟨a, b, c, d⟩ | ⟨a, b, c⟩ | ⟨a, b, c, d⟩
  · rw [make1 e]
    have := b.marsh_len
    simp only [List.length_append, List.length_cons, List.length_nil, four_len]
    omega
  · rw [make2 e]
    have := b.marsh_len
    simp only [List.length_append, List.length_cons, List.length_nil, four_len]
    omega
  · rw [make3 a]
    have := escL_len c
    simp only [List.length_append, List.length_cons, List.length_nil, four_len]
    omega
  · rw [make4 a]
    have := escL_len c
    simp only [List.length_append, List.length_cons, List.length_nil, four_len]
    omega
  · rw [make5 a]
    simp [four_len]

theorem int_four {i : Int} {n : Nat} (h1 : 0 ≤ i) (h : i.toNat = n) : i = (n : Int) := by omega
theorem escL_cut (x : Lb) (r : List UInt8) : cutR (escL x ++ r) = (x.1.data.toList, (esc x.1.data.toList).length, 0) ∧ (escL x ++ r).drop (esc x.1.data.toList).length = esc x.2.data.toList ++ r := by
  unfold escL
  rw [List.append_assoc]
  exact ⟨cutR_esc _ _, List.drop_left' rfl⟩
theorem lb_ext {x y : Lb} (h1 : x.1.data.toList = y.1.data.toList) (h2 : x.2.data.toList = y.2.data.toList) : x = y := by
  have e1 : x.1 = y.1 := by rw [← strOf_list x.1, ← strOf_list y.1, h1]
  have e2 : x.2 = y.2 := by rw [← strOf_list x.2, ← strOf_list y.2, h2]
  exact Prod.ext e1 e2
theorem esc_app_inj {s t p q : List UInt8} (h : esc s ++ p = esc t ++ q) : s = t ∧ p = q := by
  have h1 := cutR_esc s p
  rw [h, cutR_esc t q] at h1
  have e : s = t := (Prod.ext_iff.1 h1).1.symm
  subst e
  exact ⟨rfl, List.append_cancel_left h⟩
theorem escL_app_inj {x y : Lb} {p q : List UInt8} (h : escL x ++ p = escL y ++ q) : x = y ∧ p = q := by
  unfold escL at h
  rw [List.append_assoc, List.append_assoc] at h
  obtain ⟨h1, h⟩ := esc_app_inj h
  obtain ⟨h2, h⟩ := esc_app_inj h
  exact ⟨lb_ext h1 h2, h⟩
/-- Two rows that may be, their labels in order, with one item are one row. -/
theorem make_inj {r s : RowP} (hr : MayR r) (hs : MayR s) (h : makeR r = makeR s) : canonR r = canonR s := by
  obtain ⟨t, e, k1, k2⟩ := make_head hr
  obtain ⟨u, f, g1, g2⟩ := make_head hs
  have hk : r.kind = s.kind := by
    rw [e, f] at h
    have := congrArg UInt8.toNat (List.cons_eq_cons.1 h).1
    rw [ofNat_nat, ofNat_nat] at this
    omega
  clear e f t u
  have hi1 := hr.id1
  have hi2 := hr.id2
  have hi3 := hs.id1
  have hi4 := hs.id2
  have hd1 := hr.day1
  have hd2 := hr.day2
  have hd3 := hs.day1
  have hd4 := hs.day2
  have ext : r.day = s.day → r.id = s.id → sortN r.labels = sortN s.labels → r.label = s.label → canonR r = canonR s := fun h1 h2 h3 h4 => by
    unfold canonR
    rw [hk, h1, h2, h3, h4]
  rcases hr.kinds with ⟨e | e, b, c, d1⟩ | ⟨a, b, c, d1⟩ | ⟨a, b, c⟩ | ⟨a, b, c, d1⟩ <;> rcases hs.kinds with ⟨e' | e', b', c', d1'⟩ | ⟨a', b', c', d1'⟩ | ⟨a', b', c'⟩ | ⟨a', b', c', d1'⟩ <;> try (exfalso; omega)
  · rw [make1 e, make1 e'] at h
    have h1 : (marsh (sortN r.labels) ++ ([0] : List UInt8)).length = (marsh (sortN s.labels) ++ ([0] : List UInt8)).length := by
      have := congrArg List.length h
      simp only [List.length_append, List.length_cons, List.length_nil, four_len] at this ⊢
      omega
    rw [List.append_assoc, List.append_assoc, List.append_assoc, List.append_assoc] at h
    have h2 := List.append_cancel_left h
    rw [← List.append_assoc, ← List.append_assoc] at h2
    obtain ⟨h3, h4⟩ := List.append_inj h2 h1
    have h5 := marsh_inj (List.append_inj' h3 rfl).1
    have h6 := four_inj (by omega) (by omega) h4
    exact ext (by omega) (by omega) h5 (c.trans c'.symm)
  · rw [make2 e, make2 e'] at h
    rw [List.append_assoc, List.append_assoc] at h
    obtain ⟨h3, h4⟩ := List.append_inj (List.append_cancel_left h) rfl
    have h5 := marsh_inj h4
    have h6 := four_inj (by omega) (by omega) h3
    exact ext (by omega) (by omega) h5 (c.trans c'.symm)
  · rw [make3 a, make3 a'] at h
    rw [List.append_assoc, List.append_assoc] at h
    obtain ⟨h3, h4⟩ := escL_app_inj (List.append_cancel_left h)
    have h6 := four_inj (by omega) (by omega) h4
    exact ext (by omega) (by omega) (by rw [b, b']) h3
  · rw [make4 a, make4 a'] at h
    rw [List.append_assoc, List.append_assoc, List.append_assoc, List.append_assoc] at h
    obtain ⟨h2, h⟩ := List.append_inj (List.append_cancel_left h) rfl
    obtain ⟨h3, h4⟩ := escL_app_inj h
    have h5 := four_inj (by omega) (by omega) h2
    have h6 := four_inj (by omega) (by omega) h4
    exact ext (by omega) (by omega) (by rw [b, b']) h3
  · rw [make5 a, make5 a'] at h
    have h6 := four_inj (by omega) (by omega) (List.append_cancel_left h)
    exact ext (by omega) (by omega) (by rw [b, b']) (c.trans c'.symm)

/-- No row's item. -/
def NoRow (b : List UInt8) : Prop := ∀ r, MayR r → makeR r ≠ b
end Go.Proofs.YtpjiioeodcinpaaGreatDoor
