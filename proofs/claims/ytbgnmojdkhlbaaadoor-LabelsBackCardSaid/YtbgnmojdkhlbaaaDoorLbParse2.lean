/-
  Bytes and labels, there and back, in plain lists.
-/
import Derived.Test.YtbgnmojdkhlbaaaDoorLbUnm
namespace Go.Proofs.YtbgnmojdkhlbaaaDoor
open Go.RowKit

theorem strOf_list (x : ByteArray) : strOf x.data.toList = x := by
  obtain ⟨d⟩ := x
  show ByteArray.mk d.toList.toArray = _
  simp
theorem list_strOf (l : List UInt8) : (strOf l).data.toList = l := by show l.toArray.toList = l; simp
theorem marsh_append (a b : List Lb) : marsh (a ++ b) = marsh a ++ marsh b := by simp [marsh]
theorem marsh_one (s t : List UInt8) : marsh [(strOf s, strOf t)] = esc s ++ esc t := by
  simp only [marsh, List.flatMap_cons, List.flatMap_nil, List.append_nil, list_strOf]
theorem marsh_cons (x : Lb) (l : List Lb) : marsh (x :: l) = esc x.1.data.toList ++ (esc x.2.data.toList ++ marsh l) := by
  simp only [marsh, List.flatMap_cons, List.append_assoc]
theorem esc_pos (l : List UInt8) : 1 ≤ (esc l).length := by unfold esc; simp

theorem parseF_marsh : ∀ (l acc : List Lb) (f : Nat), (marsh l).length ≤ f → parseF f (marsh l) acc = (acc ++ l, 0)
  | [], acc, f, _ => by show parseF f [] acc = _; rw [parseF_end]; simp
  | x :: l, acc, f, h => by
    rw [marsh_cons] at h ⊢
    have h1 := esc_pos x.1.data.toList
    simp only [List.length_append] at h
    obtain ⟨f', rfl⟩ : ∃ f', f = f' + 1 := ⟨f - 1, by omega⟩
    have hne : esc x.1.data.toList ++ (esc x.2.data.toList ++ marsh l) ≠ [] := fun e => by
      have := congrArg List.length e
      simp only [List.length_append, List.length_nil] at this
      omega
    rw [parseF_step hne (cutR_esc _ _) (by rw [List.drop_left]; exact cutR_esc _ _)]
    rw [← List.drop_drop, List.drop_left, List.drop_left, parseF_marsh l _ f' (by omega), strOf_list, strOf_list]
    simp
theorem parse_marsh (l : List Lb) : parse (marsh l) = (l, 0) := by
  have := parseF_marsh l [] (marsh l).length (Nat.le_refl _)
  rw [List.nil_append] at this
  exact this
theorem marsh_inj {l m : List Lb} (h : marsh l = marsh m) : l = m := by
  have h1 := parse_marsh l
  rw [h, parse_marsh m] at h1
  exact (congrArg Prod.fst h1).symm
theorem marsh_parseF : ∀ (f : Nat) (b : List UInt8) (acc L : List Lb), b.length ≤ f → parseF f b acc = (L, 0) → marsh L = marsh acc ++ b
  | 0, b, acc, L, hf, h => by
    have : b = [] := List.eq_nil_of_length_eq_zero (by omega)
    subst this
    simp only [parseF, Prod.mk.injEq] at h
    rw [h.1]; simp
  | f + 1, b, acc, L, hf, h => by
    by_cases hb : b = []
    · subst hb
      rw [parseF_end] at h
      simp only [Prod.mk.injEq] at h
      rw [h.1]; simp
    · obtain ⟨s, n, e, h1⟩ : ∃ s n e, cutR b = (s, n, e) := ⟨_, _, _, rfl⟩
      by_cases he : e = 0
      · subst he
        obtain ⟨t, k, e2, h2⟩ : ∃ s k e, cutR (b.drop n) = (s, k, e) := ⟨_, _, _, rfl⟩
        by_cases he2 : e2 = 0
        · subst he2
          rw [parseF_step hb h1 h2] at h
          have ok1 := cutR_ok (b := b) (by rw [h1])
          have t1 := esc_cutR (b := b) (by rw [h1])
          have t2 := esc_cutR (b := b.drop n) (by rw [h2])
          rw [h1] at ok1 t1
          rw [h2] at t2
          simp only at ok1 t1 t2
          rw [marsh_parseF f _ _ L (by rw [List.length_drop]; omega) h, marsh_append, marsh_one, ← t1, ← t2, ← List.drop_drop, List.append_assoc, List.append_assoc, List.take_append_drop, List.take_append_drop]
        · rw [parseF_bad2 hb h1 h2 he2] at h
          simp only [Prod.mk.injEq] at h
          exact absurd h.2 he2
      · rw [parseF_bad1 hb h1 he] at h
        simp only [Prod.mk.injEq] at h
        exact absurd h.2 he
theorem marsh_parse {b : List UInt8} {L : List Lb} (h : parse b = (L, 0)) : marsh L = b := by
  have := marsh_parseF b.length b [] L (Nat.le_refl _) h
  simpa [marsh] using this
/-- What was parsed is sorted just if its labels, sorted, have those bytes. -/
theorem sorted_iff {b : List UInt8} {L : List Lb} (h : parse b = (L, 0)) : sortN L = L ↔ marsh (sortN L) = b := by
  constructor
  · intro e; rw [e]; exact marsh_parse h
  · intro e; exact marsh_inj (e.trans (marsh_parse h).symm)
end Go.Proofs.YtbgnmojdkhlbaaaDoor
