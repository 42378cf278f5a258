/-
  What is packed is unpacked: in plain lists.
-/
import Derived.Test.YtnjchdehjinooaaLawItCommon
namespace Go.Proofs.Ytnjchdehjinooaa
open Go.RowKit

theorem vtake_small (u : Nat) (r : List UInt8) (h : u ≤ 400) : vtake (venc u ++ r) = (u, (venc u).length, 0) := by
  by_cases h1 : u < 128
  · rw [venc_small h1]
    have e : (UInt8.ofNat u).toNat = u := u8_nat u (by omega)
    show vtk 10 (UInt8.ofNat u :: r) 0 0 = _
    simp only [vtk]
    rw [if_pos (by omega), if_neg (by omega), e]
    simp
    omega
  · rw [venc_big (by omega), venc_small (by omega)]
    have e : (UInt8.ofNat (u % 128 + 128)).toNat = u % 128 + 128 := u8_nat _ (by omega)
    have e2 : (UInt8.ofNat (u / 128)).toNat = u / 128 := u8_nat _ (by omega)
    show vtk 10 (UInt8.ofNat (u % 128 + 128) :: UInt8.ofNat (u / 128) :: r) 0 0 = _
    simp only [vtk]
    rw [if_neg (by omega), if_pos (by omega), if_neg (by omega), e, e2]
    simp
    omega
theorem numR_venc (u : Nat) (r : List UInt8) (h : u ≤ 400) : numR (venc u ++ r) = (u, r, 0) := by
  unfold numR
  rw [vtake_small u r h]
  simp only
  rw [if_neg (by simp), if_neg (by omega), List.drop_left]

theorem item_back (p x : List UInt8) : p.take (common p x) ++ x.drop (common p x) = x := by
  rw [common_pre p x, List.take_append_drop]
theorem packFrom_cons (p x : List UInt8) (t : List (List UInt8)) : packFrom p (x :: t) = venc (common p x) ++ (venc (x.length - common p x) ++ (x.drop (common p x) ++ packFrom x t)) := by
  simp [packFrom]

theorem items_back (t : List UInt8) : ∀ (ls acc : List (List UInt8)) (p : List UInt8), (∀ x ∈ ls, x.length ≤ 400) → itemsR ls.length acc p (packFrom p ls ++ t) = (acc ++ ls, 0)
  | [], acc, p, _ => by simp [itemsR]
  | x :: r, acc, p, h => by
    have hx := h x (by simp)
    have hc := common_le p x
    have ih := items_back t r (acc ++ [x]) x (fun y hy => h y (by simp [hy]))
    rw [packFrom_cons]
    have h1 := numR_venc (common p x) (venc (x.length - common p x) ++ (x.drop (common p x) ++ (packFrom x r ++ t))) (by omega)
    have h2 := numR_venc (x.length - common p x) (x.drop (common p x) ++ (packFrom x r ++ t)) (by omega)
    have hl : (x.drop (common p x)).length = x.length - common p x := List.length_drop
    rw [List.length_cons]
    simp only [List.append_assoc]
    rw [items_more h1 (by omega) h2 (by rw [List.length_append, hl]; omega)]
    rw [List.take_left' hl, List.drop_left' hl, item_back, ih]
    simp

theorem ahead_common {p x : List UInt8} (h : ahead p x = true) : common p x < x.length := by
  have hc := common_le p x
  rcases Nat.lt_or_ge (common p x) x.length with h1 | h1
  · exact h1
  · have e : common p x = x.length := by omega
    have h2 := common_whole p x (.inr e)
    have h3 : ahead x p = false := by
      rw [← Bool.not_eq_true]; intro h4; have := ahead_trans h h4; rw [ahead_irrefl] at this; cases this
    rw [h3] at h2
    have h4 : p.length ≤ x.length := by simpa using h2.symm
    have h5 := common_pre p x
    rw [List.take_of_length_le (by omega), List.take_of_length_le (by omega)] at h5
    subst h5
    rw [ahead_irrefl] at h
    cases h
theorem packFrom_ne (p x : List UInt8) (t : List (List UInt8)) : packFrom p (x :: t) ≠ [] := by
  rw [packFrom_cons]
  have := venc_pos (common p x)
  intro h
  have h2 := congrArg List.length h
  simp at h2
  rw [h2.1] at this
  simp at this
theorem dropLast_app {l m : List UInt8} (h : m ≠ []) : (l ++ m).dropLast = l ++ m.dropLast := List.dropLast_append_of_ne_nil h

theorem items_cut : ∀ (ls acc : List (List UInt8)) (p : List UInt8), ls ≠ [] → (∀ x ∈ ls, x.length ≤ 400) → risesB (p :: ls) = true → itemsR ls.length acc p (packFrom p ls).dropLast = ([], 10)
  | [], _, _, h, _, _ => absurd rfl h
  | [x], acc, p, _, h, hr => by
    have hx := h x (by simp)
    have hlt : common p x < x.length := ahead_common (by simpa [risesB] using hr)
    have hc := common_le p x
    have hl : (x.drop (common p x)).length = x.length - common p x := List.length_drop
    have hne : x.drop (common p x) ≠ [] := by intro e; rw [e] at hl; simp at hl; omega
    have e : (packFrom p [x]).dropLast = venc (common p x) ++ (venc (x.length - common p x) ++ (x.drop (common p x)).dropLast) := by
      rw [packFrom_cons]
      have e0 : packFrom x [] = [] := rfl
      rw [e0, List.append_nil, dropLast_app (List.append_ne_nil_of_right_ne_nil _ hne), dropLast_app hne]
    rw [e]
    have h1 := numR_venc (common p x) (venc (x.length - common p x) ++ (x.drop (common p x)).dropLast) (by omega)
    have h2 := numR_venc (x.length - common p x) (x.drop (common p x)).dropLast (by omega)
    exact items_short h1 (by omega) h2 (by rw [List.length_dropLast, hl]; omega)
  | x :: y :: r, acc, p, _, h, hr => by
    have hx := h x (by simp)
    have hr' : ahead p x = true ∧ risesB (x :: y :: r) = true := by simpa [risesB] using hr
    have hc := common_le p x
    have ih := items_cut (y :: r) (acc ++ [x]) x (by simp) (fun z hz => h z (by simp [hz])) hr'.2
    have hl : (x.drop (common p x)).length = x.length - common p x := List.length_drop
    have hne : packFrom x (y :: r) ≠ [] := packFrom_ne _ _ _
    have e : (packFrom p (x :: y :: r)).dropLast = venc (common p x) ++ (venc (x.length - common p x) ++ (x.drop (common p x) ++ (packFrom x (y :: r)).dropLast)) := by
      rw [packFrom_cons, dropLast_app (by simp [hne]), dropLast_app (by simp [hne]), dropLast_app hne]
    rw [e]
    have h1 := numR_venc (common p x) (venc (x.length - common p x) ++ (x.drop (common p x) ++ (packFrom x (y :: r)).dropLast)) (by omega)
    have h2 := numR_venc (x.length - common p x) (x.drop (common p x) ++ (packFrom x (y :: r)).dropLast) (by omega)
    rw [List.length_cons, items_more h1 (by omega) h2 (by rw [List.length_append, hl]; omega), List.take_left' hl, List.drop_left' hl, item_back, ih]

theorem check_all {ls : List (List UInt8)} (h : checkN ls = 0) : ∀ x ∈ ls, x.length ≤ 400 := by
  intro x hx
  obtain ⟨_, _, h3, _⟩ := check_ok h
  obtain ⟨i, hi, rfl⟩ := List.mem_iff_getElem.1 hx
  exact (h3 i hi).2
theorem check_rises {ls : List (List UInt8)} (h : checkN ls = 0) : risesB ([] :: ls) = true := by
  obtain ⟨_, h1, h3, h4⟩ := check_ok h
  match ls, h1, h3, h4 with
  | x :: t, _, h3, h4 =>
    have h0 := (h3 0 (by simp)).1
    simp only [List.getElem_cons_zero] at h0
    have : ahead [] x = true := by
      cases x with
      | nil => simp at h0
      | cons a s => rfl
    simp only [risesB, this, h4, Bool.and_self]

theorem unpack_back {ls : List (List UInt8)} (h : checkN ls = 0) : unpackR (packB ls) = (ls, 0) := by
  obtain ⟨h8, h1, _, _⟩ := check_ok h
  have hn : numR (packB ls) = (ls.length, packFrom [] ls, 0) := numR_venc _ _ (by omega)
  have hi := items_back [] ls [] [] (check_all h)
  rw [List.append_nil, List.nil_append] at hi
  unfold unpackR
  rw [hn]
  simp only
  rw [hi, if_neg (by simp), if_neg (by simp), if_pos ⟨h, rfl⟩]
theorem unpack_long {ls : List (List UInt8)} (h : checkN ls = 0) : unpackR (packB ls ++ [0]) = ([], 11) := by
  obtain ⟨h8, h1, _, _⟩ := check_ok h
  have hn : numR (packB ls ++ [0]) = (ls.length, packFrom [] ls ++ [0], 0) := by
    unfold packB; rw [List.append_assoc]; exact numR_venc _ _ (by omega)
  have hi := items_back [0] ls [] [] (check_all h)
  rw [List.nil_append] at hi
  unfold unpackR
  rw [hn]
  simp only
  rw [hi, if_neg (by simp), if_neg (by simp), if_neg (by rintro ⟨_, e⟩; have := congrArg List.length e; simp at this)]
theorem unpack_short {ls : List (List UInt8)} (h : checkN ls = 0) : unpackR (packB ls).dropLast = ([], 10) := by
  obtain ⟨h8, h1, _, _⟩ := check_ok h
  have hne : packFrom [] ls ≠ [] := by
    match ls, h1 with
    | x :: t, _ => exact packFrom_ne _ _ _
  have hn : numR (packB ls).dropLast = (ls.length, (packFrom [] ls).dropLast, 0) := by
    unfold packB; rw [dropLast_app hne]; exact numR_venc _ _ (by omega)
  have hi := items_cut ls [] [] (by intro e; rw [e] at h1; simp at h1) (check_all h) (check_rises h)
  unfold unpackR
  rw [hn]
  simp only
  rw [hi, if_neg (by simp), if_pos (by simp)]
theorem unpack_ok {b : List UInt8} (h : (unpackR b).2 = 0) : checkN (unpackR b).1 = 0 ∧ packB (unpackR b).1 = b := by
  unfold unpackR at *
  split at h
  · rename_i h1; exact absurd h h1
  · rename_i h1
    rw [if_neg h1]
    split at h
    · rename_i h2; exact absurd h h2
    · rename_i h2
      rw [if_neg h2]
      split at h
      · rename_i h3; rw [if_pos h3]; exact h3
      · cases h

theorem packFrom_len : ∀ (ls : List (List UInt8)) (p : List UInt8), (∀ x ∈ ls, x.length ≤ 400) → (packFrom p ls).length ≤ 1000 * ls.length
  | [], _, _ => by simp [packFrom]
  | x :: t, p, h => by
    have hx := h x (by simp)
    have ih := packFrom_len t x (fun y hy => h y (by simp [hy]))
    have hc := common_le p x
    have v1 := venc_len (u := common p x) (by unfold Is64; omega)
    have v2 := venc_len (u := x.length - common p x) (by unfold Is64; omega)
    rw [packFrom_cons]
    simp only [List.length_append, List.length_drop, List.length_cons]
    omega
theorem packB_len {ls : List (List UInt8)} (h : checkN ls = 0) : 1 ≤ (packB ls).length ∧ (packB ls).length ≤ 9000 := by
  obtain ⟨h8, h1, _, _⟩ := check_ok h
  have := packFrom_len ls [] (check_all h)
  have v1 := venc_len (u := ls.length) (by unfold Is64; omega)
  have v2 := venc_pos ls.length
  unfold packB
  rw [List.length_append]
  omega
end Go.Proofs.Ytnjchdehjinooaa
