/-
  A label's items are found by what they have ahead, and by nothing of another label's: plain lists.
-/
import Derived.Test.YtpjiioeodcinpaaGreatDoorRwAll
import Derived.Test.YtpjiioeodcinpaaGreatDoorRwPre
namespace Go.Proofs.YtpjiioeodcinpaaGreatDoor
open Go.RowKit KB

/-- Does an item begin so? -/
def begins (P y : List UInt8) : Bool := decide (P.length ≤ y.length) && decide (y.take P.length = P)
theorem begins_iff {P y : List UInt8} : begins P y = true ↔ ∃ r, y = P ++ r := by
  unfold begins
  rw [Bool.and_eq_true, decide_eq_true_eq, decide_eq_true_eq]
  constructor
  · rintro ⟨h1, h2⟩
    exact ⟨y.drop P.length, by conv => lhs; rw [← List.take_append_drop P.length y, h2]⟩
  · rintro ⟨r, rfl⟩
    exact ⟨by simp, List.take_left' rfl⟩
def tagP (x : Lb) : List UInt8 := [3] ++ escL x
def onP (d : Nat) (x : Lb) : List UInt8 := [4] ++ four d ++ escL x
def hit (d : Nat) (x : Lb) (y : List UInt8) : Bool := begins (tagP x) y || begins (onP d x) y
theorem hit_tag (d i : Nat) (x z : Lb) : hit d x (tagP z ++ four i) = decide (z = x) := by
  rw [Bool.eq_iff_iff, decide_eq_true_eq]
  unfold hit
  rw [Bool.or_eq_true, begins_iff, begins_iff]
  constructor
  · rintro (⟨r, h⟩ | ⟨r, h⟩)
    · unfold tagP at h
      rw [List.append_assoc, List.append_assoc] at h
      exact (escL_app_inj (List.append_cancel_left h)).1
    · unfold tagP onP at h
      simp at h
  · rintro rfl
    exact .inl ⟨four i, rfl⟩
theorem hit_on (d i : Nat) (x z : Lb) : hit d x (onP d z ++ four i) = decide (z = x) := by
  rw [Bool.eq_iff_iff, decide_eq_true_eq]
  unfold hit
  rw [Bool.or_eq_true, begins_iff, begins_iff]
  constructor
  · rintro (⟨r, h⟩ | ⟨r, h⟩)
    · unfold tagP onP at h
      simp at h
    · unfold onP at h
      rw [List.append_assoc, List.append_assoc, List.append_assoc, List.append_assoc] at h
      exact (escL_app_inj (List.append_cancel_left (List.append_cancel_left h))).1
  · rintro rfl
    exact .inr ⟨four i, rfl⟩
theorem hit_else (d : Nat) (x : Lb) (c : UInt8) (y : List UInt8) (h3 : c ≠ 3) (h4 : c ≠ 4) : hit d x (c :: y) = false := by
  rw [← Bool.not_eq_true]
  unfold hit
  rw [Bool.or_eq_true, begins_iff, begins_iff]
  rintro (⟨r, h⟩ | ⟨r, h⟩)
  · unfold tagP at h; simp at h; exact h3 h.1
  · unfold onP at h; simp at h; exact h4 h.1
/-- The items of a series on one day, each once. -/
def once (ls : List Lb) (i d : Nat) : List (List UInt8) := ([1] ++ marsh (sortN ls) ++ [0] ++ four i) :: ([2] ++ four i ++ marsh (sortN ls)) :: ls.flatMap fun x => [tagP x ++ four i, onP d x ++ four i]
theorem once_len (ls : List Lb) (i d : Nat) : (once ls i d).length = 2 + 2 * ls.length := by
  unfold once
  have h : ∀ l : List Lb, (l.flatMap fun x => [tagP x ++ four i, onP d x ++ four i]).length = 2 * l.length := by
    intro l
    induction l with
    | nil => rfl
    | cons x t ih => rw [List.flatMap_cons, List.length_append, ih, List.length_cons]; simp; omega
  rw [List.length_cons, List.length_cons, h]
  omega
theorem count_flat (i d : Nat) (x : Lb) : ∀ l : List Lb, (l.flatMap fun z => [tagP z ++ four i, onP d z ++ four i]).countP (hit d x) = 2 * l.countP (fun z => decide (z = x))
  | [] => rfl
  | z :: t => by
    rw [List.flatMap_cons, List.countP_append, count_flat i d x t, List.countP_cons]
    simp only [List.countP_cons, List.countP_nil, hit_tag, hit_on]
    by_cases h : z = x <;> simp [h] <;> omega
theorem count_once {ls : List Lb} (hd : Dist ls) (i d : Nat) {x : Lb} (hx : x ∈ ls) : (once ls i d).countP (hit d x) = 2 := by
  have h1 : ls.countP (fun z => decide (z = x)) = 1 := by
    have hnd : ls.Nodup := hd.imp fun h e => h (by rw [e])
    clear hd
    induction ls with
    | nil => simp at hx
    | cons z t ih =>
      rw [List.nodup_cons] at hnd
      rw [List.countP_cons]
      rcases List.mem_cons.1 hx with rfl | hx
      · have h0 : t.countP (fun z => decide (z = x)) = 0 := List.countP_eq_zero.2 fun a ha e => hnd.1 (by rw [← of_decide_eq_true e]; exact ha)
        rw [h0]; simp
      · rw [ih hx hnd.2]
        have : z ≠ x := fun e => hnd.1 (e ▸ hx)
        simp [this]
  unfold once
  rw [List.countP_cons, List.countP_cons, count_flat, h1]
  have e1 : hit d x ([1] ++ marsh (sortN ls) ++ [0] ++ four i) = false := hit_else d x 1 _ (by decide) (by decide)
  have e2 : hit d x ([2] ++ four i ++ marsh (sortN ls)) = false := hit_else d x 2 _ (by decide) (by decide)
  rw [e1, e2]
  rfl
theorem once_flat_nodup (i d : Nat) : ∀ l : List Lb, l.Nodup → (l.flatMap fun z => [tagP z ++ four i, onP d z ++ four i]).Nodup
  | [], _ => List.nodup_nil
  | z :: t, h => by
    rw [List.nodup_cons] at h
    rw [List.flatMap_cons]
    have hmem : ∀ y ∈ t.flatMap (fun z => [tagP z ++ four i, onP d z ++ four i]), hit d z y = false := by
      intro y hy
      obtain ⟨x, hx, hy⟩ := List.mem_flatMap.1 hy
      have hne : x ≠ z := fun e => h.1 (e ▸ hx)
      simp only [List.mem_cons, List.not_mem_nil, or_false] at hy
      rcases hy with rfl | rfl
      · rw [hit_tag]; exact decide_eq_false hne
      · rw [hit_on]; exact decide_eq_false hne
    have t1 : hit d z (tagP z ++ four i) = true := by rw [hit_tag]; exact decide_eq_true rfl
    have t2 : hit d z (onP d z ++ four i) = true := by rw [hit_on]; exact decide_eq_true rfl
    show ((tagP z ++ four i) :: (onP d z ++ four i) :: _).Nodup
    refine List.nodup_cons.2 ⟨fun hm => ?_, List.nodup_cons.2 ⟨fun hm => ?_, once_flat_nodup i d t h.2⟩⟩
    · rcases List.mem_cons.1 hm with e | hm
      · unfold tagP onP at e; simp at e
      · have := hmem _ hm; rw [t1] at this; exact absurd this (by simp)
    · have := hmem _ hm; rw [t2] at this; exact absurd this (by simp)
theorem once_nodup {ls : List Lb} (hd : Dist ls) (i d : Nat) : (once ls i d).Nodup := by
  have hnd : ls.Nodup := hd.imp fun h e => h (by rw [e])
  have hh : ∀ y ∈ ls.flatMap (fun z => [tagP z ++ four i, onP d z ++ four i]), ∃ r, y = 3 :: r ∨ y = 4 :: r := by
    intro y hy
    obtain ⟨x, hx, hy⟩ := List.mem_flatMap.1 hy
    simp only [List.mem_cons, List.not_mem_nil, or_false] at hy
    rcases hy with rfl | rfl
    · exact ⟨_, .inl rfl⟩
    · exact ⟨_, .inr rfl⟩
  unfold once
  refine List.nodup_cons.2 ⟨fun hm => ?_, List.nodup_cons.2 ⟨fun hm => ?_, once_flat_nodup i d ls hnd⟩⟩
  · rcases List.mem_cons.1 hm with e | hm
    · simp at e
    · obtain ⟨r, e | e⟩ := hh _ hm <;> simp at e
  · obtain ⟨r, e | e⟩ := hh _ hm <;> simp at e
theorem once_mem (ls : List Lb) (i d : Nat) (y : List UInt8) : y ∈ itemsOf ls (i : Int) (wants ls [(d : Int), (d : Int)]) ↔ y ∈ once ls i d := by
  unfold itemsOf wants once
  rw [List.map_append, List.mem_append, List.mem_cons, List.mem_cons, List.map_flatMap]
  have e1 : makeR (rowOf ls (i : Int) ⟨1, true, lb0, 0⟩) = [1] ++ marsh (sortN ls) ++ [0] ++ four i := make1 (r := rowOf ls (i : Int) ⟨1, true, lb0, 0⟩) rfl
  have e2 : makeR (rowOf ls (i : Int) ⟨2, true, lb0, 0⟩) = [2] ++ four i ++ marsh (sortN ls) := make2 (r := rowOf ls (i : Int) ⟨2, true, lb0, 0⟩) rfl
  have e3 : ∀ x, makeR (rowOf ls (i : Int) ⟨3, false, x, 0⟩) = tagP x ++ four i := fun x => make3 (r := rowOf ls (i : Int) ⟨3, false, x, 0⟩) rfl
  have e4 : ∀ x, makeR (rowOf ls (i : Int) ⟨4, false, x, (d : Int)⟩) = onP d x ++ four i := fun x => make4 (r := rowOf ls (i : Int) ⟨4, false, x, (d : Int)⟩) rfl
  simp only [List.map_cons, List.map_nil, List.mem_cons, List.not_mem_nil, or_false, e1, e2, List.mem_flatMap, perL, e3, e4]
  constructor
  · rintro ((h | h) | ⟨x, hx, h | h | h⟩)
    · exact .inl h
    · exact .inr (.inl h)
    · exact .inr (.inr ⟨x, hx, .inl h⟩)
    · exact .inr (.inr ⟨x, hx, .inr h⟩)
    · exact .inr (.inr ⟨x, hx, .inr h⟩)
  · rintro (h | h | ⟨x, hx, h | h⟩)
    · exact .inl (.inl h)
    · exact .inl (.inr h)
    · exact .inr ⟨x, hx, .inl h⟩
    · exact .inr ⟨x, hx, .inr (.inl h)⟩
theorem uniq_nodup (l : List (List UInt8)) : (uniqL ahead l).Nodup := (uniqL_ri (lt := ahead) ordr l).imp fun h e => by subst e; rw [show ahead _ _ = false from bytesLess_irrefl _] at h; exact absurd h (by simp)
theorem apart_perm {ls : List Lb} (hd : Dist ls) (i d : Nat) : (uniqL ahead (itemsOf ls (i : Int) (wants ls [(d : Int), (d : Int)]))).Perm (once ls i d) :=
  (List.perm_ext_iff_of_nodup (uniq_nodup _) (once_nodup hd i d)).2 fun y => (uniqL_mem (lt := ahead) ordr _ _).trans (once_mem ls i d y)
end Go.Proofs.YtpjiioeodcinpaaGreatDoor
