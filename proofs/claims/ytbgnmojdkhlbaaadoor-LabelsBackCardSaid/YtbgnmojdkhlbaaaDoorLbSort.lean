/-
  Labels in the order of their names, in plain lists: what may be, what is sorted, that the sorted row is one.
-/
import Derived.Test.YtbgnmojdkhlbaaaDoorLbCmp3
import Derived.Test.YtbgnmojdkhlbaaaDoorLbName
namespace Go.Proofs.YtbgnmojdkhlbaaaDoor
open Go.RowKit

theorem less_trans : ∀ {a b c : List UInt8}, Op.bytesLess a b = true → Op.bytesLess b c = true → Op.bytesLess a c = true
  | _, _, [], _, h => by simp [Op.bytesLess] at h
  | _, [], _ :: _, h, _ => by simp [Op.bytesLess] at h
  | [], _ :: _, _ :: _, _, _ => rfl
  | x :: a, y :: b, z :: c, h1, h2 => by
    simp only [Op.bytesLess, Bool.or_eq_true, Bool.and_eq_true, decide_eq_true_eq, beq_iff_eq] at *
    rcases h1 with h1 | ⟨h1, h1'⟩
    · rcases h2 with h2 | ⟨h2, h2'⟩
      · exact .inl (UInt8.lt_trans h1 h2)
      · exact .inl (h2 ▸ h1)
    · rcases h2 with h2 | ⟨h2, h2'⟩
      · exact .inl (h1 ▸ h2)
      · exact .inr ⟨h1.trans h2, less_trans h1' h2'⟩
theorem less_total : ∀ {a b : List UInt8}, Op.bytesLess a b = false → Op.bytesLess b a = false → a = b
  | [], [], _, _ => rfl
  | [], _ :: _, h, _ => by simp [Op.bytesLess] at h
  | _ :: _, [], _, h => by simp [Op.bytesLess] at h
  | x :: a, y :: b, h1, h2 => by
    simp only [Op.bytesLess, Bool.or_eq_false_iff, Bool.and_eq_false_iff, decide_eq_false_iff_not, beq_eq_false_iff_ne] at h1 h2
    have e : x = y := by
      have a1 := h1.1
      have a2 := h2.1
      rw [UInt8.lt_iff_toNat_lt] at a1 a2
      exact UInt8.toNat_inj.1 (by omega)
    subst e
    have b1 := h1.2.resolve_left (by simp)
    have b2 := h2.2.resolve_left (by simp)
    rw [less_total b1 b2]
theorem less_asymm {a b : List UInt8} (h : Op.bytesLess a b = true) : Op.bytesLess b a = false := by
  cases h2 : Op.bytesLess b a with
  | false => rfl
  | true => have := less_trans h h2; rw [bytesLess_irrefl] at this; exact absurd this (by simp)

/-- Is a label's name ahead of another one's? -/
def ltN (x y : Lb) : Bool := Op.bytesLess x.1.toList y.1.toList
theorem ltN_irrefl (x : Lb) : ltN x x = false := bytesLess_irrefl _
theorem ltN_trans {x y z : Lb} (h : ltN x y = true) (h2 : ltN y z = true) : ltN x z = true := less_trans h h2
theorem ltN_total {x y : Lb} (h : ltN x y = false) (h2 : ltN y x = false) : x.1 = y.1 := bytes_same (less_total h h2)
theorem ltN_ne {x y : Lb} (h : ltN x y = true) : x.1 ≠ y.1 := fun e => by unfold ltN at h; rw [e, bytesLess_irrefl] at h; exact absurd h (by simp)
theorem ltN_asymm {x y : Lb} (h : ltN x y = true) : ltN y x = false := less_asymm h
theorem ltN_ntrans {x y z : Lb} (h : ltN x y = false) (h2 : ltN y z = false) : ltN x z = false := by
  cases h3 : ltN x z with
  | false => rfl
  | true =>
    cases h4 : ltN y x with
    | true => have := ltN_trans h4 h3; rw [h2] at this; exact absurd this (by simp)
    | false =>
      have e := ltN_total h h4
      unfold ltN at *
      rw [e] at h3
      rw [h3] at h2
      exact absurd h2 (by simp)

def insN (x : Lb) : List Lb → List Lb
  | [] => [x]
  | y :: t => if ltN x y = true then x :: y :: t else y :: insN x t
/-- Labels in their order. -/
def sortN : List Lb → List Lb
  | [] => []
  | x :: t => insN x (sortN t)
theorem insN_perm (x : Lb) : ∀ l, (insN x l).Perm (x :: l)
  | [] => .refl _
  | y :: t => by
    unfold insN
    split
    · exact .refl _
    · exact ((insN_perm x t).cons y).trans (.swap x y t)
theorem sortN_perm : ∀ l, (sortN l).Perm l
  | [] => .refl _
  | x :: t => (insN_perm x _).trans ((sortN_perm t).cons x)
def Up (l : List Lb) : Prop := l.Pairwise fun x y => ltN x y = true
def Weak (l : List Lb) : Prop := l.Pairwise fun x y => ltN y x = false
def Dist (l : List Lb) : Prop := l.Pairwise fun x y => x.1 ≠ y.1
theorem insN_weak (x : Lb) : ∀ l, Weak l → Weak (insN x l)
  | [], _ => by simp [insN, Weak]
  | y :: t, h => by
    unfold Weak at h
    rw [List.pairwise_cons] at h
    unfold insN
    split
    · rename_i hx
      unfold Weak
      rw [List.pairwise_cons]
      refine ⟨fun z hz => ?_, List.pairwise_cons.2 h⟩
      rcases List.mem_cons.1 hz with rfl | hz
      · exact ltN_asymm hx
      · exact ltN_ntrans (h.1 z hz) (ltN_asymm hx)
    · rename_i hx
      rw [Bool.not_eq_true] at hx
      unfold Weak
      rw [List.pairwise_cons]
      refine ⟨fun z hz => ?_, insN_weak x t h.2⟩
      rcases List.mem_cons.1 ((insN_perm x t).mem_iff.1 hz) with rfl | hz
      · exact hx
      · exact h.1 z hz
theorem sortN_weak : ∀ l, Weak (sortN l)
  | [] => List.Pairwise.nil
  | x :: t => insN_weak x _ (sortN_weak t)
theorem Dist.perm {l m : List Lb} (h : Dist l) (p : m.Perm l) : Dist m := (p.pairwise_iff (R := fun x y : Lb => x.1 ≠ y.1) (fun h e => h e.symm)).2 h
theorem up_of {l : List Lb} (hw : Weak l) (hd : Dist l) : Up l := by
  unfold Up Weak Dist at *
  refine (List.pairwise_and_iff.2 ⟨hw, hd⟩).imp ?_
  intro x y ⟨h1, h2⟩
  cases h : ltN x y with
  | true => rfl
  | false => exact absurd (ltN_total h h1) h2
theorem Up.dist {l : List Lb} (h : Up l) : Dist l := h.imp fun hx => ltN_ne hx
theorem up_unique : ∀ {l m : List Lb}, l.Perm m → Up l → Up m → l = m
  | [], m, p, _, _ => p.nil_eq
  | x :: l, [], p, _, _ => absurd p.length_eq (by simp)
  | x :: l, y :: m, p, hl, hm => by
    unfold Up at hl hm
    rw [List.pairwise_cons] at hl hm
    have e : x = y := by
      rcases List.mem_cons.1 (p.mem_iff.1 (List.mem_cons_self)) with h | h
      · exact h
      · rcases List.mem_cons.1 (p.mem_iff.2 (List.mem_cons_self)) with h2 | h2
        · exact h2.symm
        · have := ltN_trans (hl.1 y h2) (hm.1 x h)
          rw [ltN_irrefl] at this
          exact absurd this (by simp)
    subst e
    rw [up_unique p.cons_inv hl.2 hm.2]
theorem sortN_up {l : List Lb} (h : Dist l) : Up (sortN l) := up_of (sortN_weak l) (h.perm (sortN_perm l))
/-- Labels whose neighbours differ, sorted: they rise. -/
theorem up_of_near : ∀ {l : List Lb}, Weak l → (∀ i (h : i + 1 < l.length), l[i].1 ≠ l[i + 1].1) → Up l
  | [], _, _ => List.Pairwise.nil
  | [x], _, _ => by simp [Up]
  | x :: y :: t, hw, hn => by
    have hw' := hw
    unfold Weak at hw
    rw [List.pairwise_cons] at hw
    have ih := up_of_near (l := y :: t) hw.2 (fun i h => by have := hn (i + 1) (by simpa using h); simpa using this)
    have hxy : ltN x y = true := by
      cases h : ltN x y with
      | true => rfl
      | false => exact absurd (ltN_total h (hw.1 y (by simp))) (by have := hn 0 (by simp); simpa using this)
    have ih' := ih
    unfold Up at ih ⊢
    rw [List.pairwise_cons] at ih ⊢
    refine ⟨fun z hz => ?_, ih'⟩
    rcases List.mem_cons.1 hz with rfl | hz
    · exact hxy
    · exact ltN_trans hxy (ih.1 z hz)

/-- May a label be? -/
def okL (x : Lb) : Bool := nameB x.1 && decide (1 ≤ x.2.size) && decide (x.2.size ≤ 16)
/-- May labels be? -/
structure MayL (l : List Lb) : Prop where
  some : 1 ≤ l.length
  few : l.length ≤ 6
  ok : ∀ x ∈ l, okL x = true
  dist : Dist l
theorem MayL.perm {l m : List Lb} (h : MayL l) (p : m.Perm l) : MayL m := ⟨by rw [p.length_eq]; exact h.some, by rw [p.length_eq]; exact h.few, fun x hx => h.ok x (p.mem_iff.1 hx), h.dist.perm p⟩
theorem sortN_length (l : List Lb) : (sortN l).length = l.length := (sortN_perm l).length_eq
theorem MayL.sort {l : List Lb} (h : MayL l) : MayL (sortN l) := h.perm (sortN_perm l)
theorem sortN_of_perm {l m : List Lb} (p : m.Perm l) (h : Up m) : sortN l = m := up_unique ((sortN_perm l).trans p.symm) (sortN_up (h.dist.perm p.symm)) h
theorem sortN_sort {l : List Lb} (h : Dist l) : sortN (sortN l) = sortN l := sortN_of_perm (.refl _) (sortN_up h)
end Go.Proofs.YtbgnmojdkhlbaaaDoor
