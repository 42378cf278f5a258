/-
  Rows of rows of items, as they are seen; kmerge.Items of such.
-/
import Derived.Test.YtcfbblgoligagaaKmItems
namespace Go.Proofs.Ytcfbblgoligagaa
open Go.RowKit

/-- Rows of items: how they are seen. -/
structure Sees3 (w : World) (B : Nat) (A : Option Addr) (ll : List (List Item)) : Prop where
  out : ∀ i (hi : i < ll.length), ∃ ad Ai ci, A = some ad ∧ ad.block < B ∧ w.cell? (ad.add i) = some (.slice Ai (ll[i]).length ci) ∧ (ll[i]).length ≤ ci ∧ Sees2 w B Ai ll[i]
theorem Sees3.below {w w' : World} {B : Nat} {A : Option Addr} {ll : List (List Item)} (h : Sees3 w B A ll) (hb : Below B w w') : Sees3 w' B A ll := ⟨fun i hi => by
  obtain ⟨ad, Ai, ci, h1, h2, h3, h4, h5⟩ := h.out i hi
  exact ⟨ad, Ai, ci, h1, h2, (hb.cell (by rw [add_block]; exact h2)).trans h3, h4, h5.below hb⟩⟩
theorem Sees3.more {w : World} {B B' : Nat} {A : Option Addr} {ll : List (List Item)} (h : Sees3 w B A ll) (hb : B ≤ B') : Sees3 w B' A ll := ⟨fun i hi => by
  obtain ⟨ad, Ai, ci, h1, h2, h3, h4, h5⟩ := h.out i hi
  exact ⟨ad, Ai, ci, h1, Nat.lt_of_lt_of_le h2 hb, h3, h4, h5.more hb⟩⟩
theorem Sees3.drewN {w : World} {B : Nat} {A : Option Addr} {ll : List (List Item)} (h : Sees3 w B A ll) (q : Nat) : Sees3 (w.drewN q) B A ll := h.below (below_d (Below.refl _ _) q)
namespace KB
theorem els_of {w : World} {B : Nat} {A : Option Addr} {ls : List Item} (h : Sees2 w B A ls) : ∃ xs : List El, xs.map key = ls ∧ SeesM (fun k => k < B) w A (xs.map val) ∧ ∀ x ∈ xs, EOk (fun k => k < B) w x := by
  cases ls with
  | nil => exact ⟨[], rfl, ⟨.inl rfl⟩, by simp⟩
  | cons y t =>
    obtain ⟨ad, -, -, rfl, hB, -⟩ := h.out 0 (by simp)
    generalize hL : y :: t = L at h
    have hk : ∀ k, k ≤ L.length → ∃ xs : List El, xs.length = k ∧ xs.map key = L.take k ∧ ∀ j (hj : j < xs.length), w.cell? (ad.add j) = some (val xs[j]) ∧ EOk (fun k => k < B) w xs[j] := fun k => by
      induction k with
      | zero => intro _; exact ⟨[], rfl, by simp, fun j hj => absurd hj (by simp)⟩
      | succ k ih =>
        intro hk
        obtain ⟨xs, h1, h2, h3⟩ := ih (by omega)
        obtain ⟨ad', Ai, ci, e, g1, g2, g3, g4⟩ := h.out k (by omega)
        obtain rfl := Option.some.inj e
        refine ⟨xs ++ [(L[k], Ai, ci)], by simp [h1], by rw [List.map_append, h2, List.take_succ_eq_append_getElem (by omega)]; rfl, fun j hj => ?_⟩
        by_cases hlt : j < xs.length
        · rw [List.getElem_append_left hlt]; exact h3 j hlt
        · have : j = xs.length := by simp at hj; omega
          subst this
          rw [List.getElem_append_right (Nat.le_refl _)]
          simp only [Nat.sub_self, List.getElem_cons_zero]
          exact ⟨by rw [h1]; exact g2, ⟨g4.toM, g3⟩⟩
    obtain ⟨xs, h1, h2, h3⟩ := hk L.length (Nat.le_refl _)
    refine ⟨xs, by rw [h2, List.take_length], ⟨.inr ⟨ad, rfl, hB, fun j u hu => ?_⟩⟩, fun x hx => ?_⟩
    · rw [List.getElem?_map] at hu
      obtain ⟨x, hx, rfl⟩ := Option.map_eq_some_iff.1 hu
      obtain ⟨hj, rfl⟩ := List.getElem?_eq_some_iff.1 hx
      exact (h3 j hj).1
    · obtain ⟨j, hj, rfl⟩ := List.mem_iff_getElem.1 hx
      exact (h3 j hj).2
theorem rows_of {w : World} {B : Nat} {A : Option Addr} {ll : List (List Item)} (h : Sees3 w B A ll) : ∃ LL : List (List El), keysOf LL = ll ∧ RowsIn (fun k => k < B) w A LL := by
  cases ll with
  | nil => exact ⟨[], rfl, ⟨fun i hi => absurd hi (by simp)⟩⟩
  | cons y t =>
    obtain ⟨ad, -, -, rfl, hB, -⟩ := h.out 0 (by simp)
    generalize hL : y :: t = L at h
    have hk : ∀ k, k ≤ L.length → ∃ LL : List (List El), LL.length = k ∧ keysOf LL = L.take k ∧ RowsIn (fun k => k < B) w (some ad) LL := fun k => by
      induction k with
      | zero => intro _; exact ⟨[], rfl, by simp [keysOf], ⟨fun i hi => absurd hi (by simp)⟩⟩
      | succ k ih =>
        intro hk
        obtain ⟨LL, h1, h2, h3⟩ := ih (by omega)
        obtain ⟨ad', Ai, ci, e, g1, g2, g3, g4⟩ := h.out k (by omega)
        obtain rfl := Option.some.inj e
        obtain ⟨xs, e1, e2, e3⟩ := els_of g4
        have exl : xs.length = (L[k]).length := by rw [← e1, List.length_map]
        refine ⟨LL ++ [xs], by simp [h1], ?_, ⟨fun j hj => ?_⟩⟩
        · rw [List.take_succ_eq_append_getElem (by omega), ← h2, ← e1]
          simp [keysOf]
        · by_cases hlt : j < LL.length
          · rw [List.getElem_append_left hlt]; exact h3.out j hlt
          · have : j = LL.length := by simp at hj; omega
            subst this
            rw [List.getElem_append_right (Nat.le_refl _)]
            simp only [Nat.sub_self, List.getElem_cons_zero]
            exact ⟨ad, Ai, ci, rfl, g1, by rw [h1, exl]; exact g2, by rw [exl]; exact g3, e2, e3⟩
    obtain ⟨LL, h1, h2, h3⟩ := hk L.length (Nat.le_refl _)
    exact ⟨LL, by rw [h2, List.take_length], h3⟩
/-- kmerge.Items of rows that are seen. -/
theorem Items_sees (A : Option Addr) (n c : Nat) (ll : List (List Item)) (w : World) (hS : Sees3 w w.heap.size A ll) (hn : ll.length = n) (hn6 : n ≤ 100000) (hl : ∀ r ∈ ll, r.length ≤ 1000000) (hf : ll.flatten.length ≤ 1000000000) (hy : ∀ r ∈ ll, ∀ y ∈ r, y.length ≤ 1099511627776) :
    Calls Try.prog 12 #[.slice A n c] w fun e w' => ∃ v, e = .returned v ∧ OwnQ (fun k => w.heap.size ≤ k ∧ k < w'.heap.size) w' w.heap.size v (uniqL ahead ll.flatten) ∧ Below w.heap.size w w' := by
  obtain ⟨LL, rfl, hR⟩ := rows_of hS
  have hf2 : LL.flatten.length ≤ 1000000000 := by rw [keysOf_flat, List.length_map] at hf; exact hf
  rw [keysOf_flat]
  exact Items_own A n c LL w hR (by rw [← hn]; simp [keysOf]) hn6 (fun r hr => by have := hl _ (List.mem_map_of_mem hr); simpa using this) hf2 fun r hr y hyr => hy _ (List.mem_map_of_mem hr) _ (List.mem_map_of_mem hyr)
end KB
end Go.Proofs.Ytcfbblgoligagaa
