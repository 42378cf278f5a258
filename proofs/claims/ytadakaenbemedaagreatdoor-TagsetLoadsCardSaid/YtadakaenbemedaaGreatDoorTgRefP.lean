/-
  The document's sets in memory.
-/
import Derived.Test.YtadakaenbemedaaGreatDoorTgMerge
import Derived.Test.YtadakaenbemedaaGreatDoorRfB
import Derived.Test.YtadakaenbemedaaGreatDoorKmC
namespace Go.Proofs.YtadakaenbemedaaGreatDoor
open Go.RowKit Go.Maps

namespace KB
theorem els_ofM {w : World} {m : Nat → Prop} {A : Option Addr} {ls : List Item} (h : Sees2M m w A ls) : ∃ xs : List El, xs.map key = ls ∧ SeesM m w A (xs.map val) ∧ ∀ x ∈ xs, EOk m w x := by
  cases ls with
  | nil => exact ⟨[], rfl, ⟨.inl rfl⟩, by simp⟩
  | cons y t =>
    obtain ⟨ad, -, -, rfl, hB, -⟩ := h.out 0 (by simp)
    generalize hL : y :: t = L at h
    have hk : ∀ k, k ≤ L.length → ∃ xs : List El, xs.length = k ∧ xs.map key = L.take k ∧ ∀ j (hj : j < xs.length), w.cell? (ad.add j) = some (val xs[j]) ∧ EOk m w xs[j] := fun k => by
      induction k with
      | zero => intro _; exact ⟨[], rfl, by simp, fun j hj => absurd hj (by simp)⟩
      | succ k ih =>
        intro hk
        obtain ⟨xs, h1, h2, h3⟩ := ih (by omega)
        obtain ⟨ad', Ai, ci, e, g1, g2, g3, g4⟩ := h.out k (by omega)
        obtain rfl := Option.some.inj e
        refine ⟨xs ++ [(L[k], Ai, ci)], by simp [h1], by rw [List.map_append, h2, List.take_succ_eq_append_getElem (by omega)]; rfl, fun j hj => ?_⟩
        by_cases hlt : j < xs.length
        · rw [List.getElem_append_left hlt]; exact h3 j hlt
        · have : j = xs.length := by simp at hj; omega
          subst this
          rw [List.getElem_append_right (Nat.le_refl _)]
          simp only [Nat.sub_self, List.getElem_cons_zero]
          exact ⟨by rw [h1]; exact g2, ⟨g4, g3⟩⟩
    obtain ⟨xs, h1, h2, h3⟩ := hk L.length (Nat.le_refl _)
    refine ⟨xs, by rw [h2, List.take_length], ⟨.inr ⟨ad, rfl, hB, fun j u hu => ?_⟩⟩, fun x hx => ?_⟩
    · rw [List.getElem?_map] at hu
      obtain ⟨x, hx, rfl⟩ := Option.map_eq_some_iff.1 hu
      obtain ⟨hj, rfl⟩ := List.getElem?_eq_some_iff.1 hx
      exact (h3 j hj).1
    · obtain ⟨j, hj, rfl⟩ := List.mem_iff_getElem.1 hx
      exact (h3 j hj).2
theorem rows_ofM {w : World} {m : Nat → Prop} {A : Option Addr} {ll : List (List Item)} (h : Sees3M m w A ll) : ∃ LL : List (List El), keysOf LL = ll ∧ RowsIn m w A LL := by
  cases ll with
  | nil => exact ⟨[], rfl, ⟨fun i hi => absurd hi (by simp)⟩⟩
  | cons y t =>
    obtain ⟨ad, -, -, rfl, hB, -⟩ := h.out 0 (by simp)
    generalize hL : y :: t = L at h
    have hk : ∀ k, k ≤ L.length → ∃ LL : List (List El), LL.length = k ∧ keysOf LL = L.take k ∧ RowsIn m w (some ad) LL := fun k => by
      induction k with
      | zero => intro _; exact ⟨[], rfl, by simp [keysOf], ⟨fun i hi => absurd hi (by simp)⟩⟩
      | succ k ih =>
        intro hk
        obtain ⟨LL, h1, h2, h3⟩ := ih (by omega)
        obtain ⟨ad', Ai, ci, e, g1, g2, g3, g4⟩ := h.out k (by omega)
        obtain rfl := Option.some.inj e
        obtain ⟨xs, e1, e2, e3⟩ := els_ofM g4
        have exl : xs.length = (L[k]).length := by rw [← e1, List.length_map]
        refine ⟨LL ++ [xs], by simp [h1], ?_, ⟨fun j hj => ?_⟩⟩
        · rw [List.take_succ_eq_append_getElem (by omega), ← h2, ← e1]
          simp [keysOf]
        · by_cases hlt : j < LL.length
          · rw [List.getElem_append_left hlt]; exact h3.out j hlt
          · have : j = LL.length := by simp at hj; omega
            subst this
            rw [List.getElem_append_right (Nat.le_refl _)]
            simp only [Nat.sub_self, List.getElem_cons_zero]
            exact ⟨ad, Ai, ci, rfl, g1, by rw [h1, exl]; exact g2, by rw [exl]; exact g3, e2, e3⟩
    obtain ⟨LL, h1, h2, h3⟩ := hk L.length (Nat.le_refl _)
    exact ⟨LL, by rw [h2, List.take_length], h3⟩
end KB
/-- The document's Items of rows that are seen. -/
theorem RefItems_m (m : Nat → Prop) (A : Option Addr) (n c : Nat) (ll : List (List Item)) (w : World) (hS : Sees3M m w A ll) (hm : ∀ k, m k → k < w.heap.size) (hn : ll.length = n) (hn6 : n ≤ 1000) (hf : ll.flatten.length ≤ 10000) (hy : ∀ r ∈ ll, ∀ y ∈ r, y.length ≤ 1000) :
    Calls Tryz.prog 36 #[.slice A n c] w (KB.BIsM m w (uniqL ahead ll.flatten)) := by
  obtain ⟨LL, rfl, hR⟩ := KB.rows_ofM hS
  rw [KB.keysOf_flat]
  exact KB.RefItems_any m A n c LL w hR hm (by rw [← hn]; simp [KB.keysOf]) hn6 (by rw [KB.keysOf_flat, List.length_map] at hf; exact hf) fun r hr y hyr => hy _ (List.mem_map_of_mem hr) _ (List.mem_map_of_mem hyr)

/-- The values of a row of rows of items: what each of them shows. -/
structure PileM (q : Nat → Prop) (w : World) (vs : List Value) (fs : List (List Item)) : Prop where
  len : vs.length = fs.length
  out : ∀ i (hi : i < fs.length), ∃ Ai ci, vs[i]? = some (.slice Ai (fs[i]).length ci) ∧ (fs[i]).length ≤ ci ∧ Sees2M q w Ai fs[i]
section
variable {q q' : Nat → Prop} {w w' : World} {vs us : List Value} {fs gs : List (List Item)} {A : Option Addr}
theorem PileM.keep (h : PileM q w vs fs) (hk : Kept q w w') : PileM q w' vs fs := ⟨h.len, fun i hi => by
  obtain ⟨Ai, ci, h1, h2, h3⟩ := h.out i hi
  exact ⟨Ai, ci, h1, h2, h3.keep hk⟩⟩
theorem PileM.mono (h : PileM q w vs fs) (hq : ∀ k, q k → q' k) : PileM q' w vs fs := ⟨h.len, fun i hi => by
  obtain ⟨Ai, ci, h1, h2, h3⟩ := h.out i hi
  exact ⟨Ai, ci, h1, h2, h3.mono hq⟩⟩
theorem PileM.one (h : PileM q w vs fs) : ∀ u ∈ vs, u.oneCell' = true := fun u hu => by
  obtain ⟨i, hi, rfl⟩ := List.mem_iff_getElem.1 hu
  obtain ⟨Ai, ci, h1, -⟩ := h.out i (by rw [← h.len]; exact hi)
  rw [List.getElem?_eq_getElem hi] at h1
  rw [Option.some.inj h1]
  rfl
theorem PileM.nil (q : Nat → Prop) (w : World) : PileM q w [] [] := ⟨rfl, fun i hi => absurd hi (by simp)⟩
theorem PileM.single {x : List Item} {Ax : Option Addr} {cx n : Nat} (hn : x.length = n) (hc : n ≤ cx) (h : Sees2M q w Ax x) : PileM q w [.slice Ax n cx] [x] := ⟨rfl, fun i hi => by
  have h0 : i = 0 := by simpa using hi
  subst h0
  subst hn
  exact ⟨Ax, cx, rfl, hc, h⟩⟩
theorem PileM.append (h : PileM q w vs fs) (g : PileM q w us gs) : PileM q w (vs ++ us) (fs ++ gs) := ⟨by rw [List.length_append, List.length_append, h.len, g.len], fun i hi => by
  have hl := h.len
  by_cases hlt : i < fs.length
  · obtain ⟨Ai, ci, h1, h2, h3⟩ := h.out i hlt
    rw [List.getElem_append_left hlt, List.getElem?_append_left (by omega)]
    exact ⟨Ai, ci, h1, h2, h3⟩
  · rw [List.getElem_append_right (by omega), List.getElem?_append_right (by omega), hl]
    exact g.out (i - fs.length) (by rw [List.length_append] at hi; omega)⟩
theorem PileM.take (h : PileM q w vs fs) (k : Nat) : PileM q w (vs.take k) (fs.take k) := ⟨by rw [List.length_take, List.length_take, h.len], fun i hi => by
  rw [List.length_take] at hi
  obtain ⟨Ai, ci, h1, h2, h3⟩ := h.out i (by omega)
  rw [List.getElem_take, List.getElem?_take, if_pos (by omega)]
  exact ⟨Ai, ci, h1, h2, h3⟩⟩
theorem PileM.drop (h : PileM q w vs fs) (k : Nat) : PileM q w (vs.drop k) (fs.drop k) := ⟨by rw [List.length_drop, List.length_drop, h.len], fun i hi => by
  rw [List.length_drop] at hi
  obtain ⟨Ai, ci, h1, h2, h3⟩ := h.out (k + i) (by omega)
  rw [List.getElem_drop, List.getElem?_drop]
  exact ⟨Ai, ci, h1, h2, h3⟩⟩
/-- What a row of rows shows. -/
theorem Sees3M.pile (h : Sees3M q w A fs) : ∃ vs, PileM q w vs fs ∧ SeesM q w A vs := by
  cases fs with
  | nil => exact ⟨[], PileM.nil _ _, ⟨.inl rfl⟩⟩
  | cons y t =>
    obtain ⟨ad, -, -, rfl, hB, -⟩ := h.out 0 (by simp)
    generalize hL : y :: t = L at h
    have hk : ∀ k, k ≤ L.length → ∃ vs : List Value, PileM q w vs (L.take k) ∧ ∀ j u, vs[j]? = some u → w.cell? (ad.add j) = some u := fun k => by
      induction k with
      | zero => intro _; exact ⟨[], PileM.nil _ _, fun j u hu => by simp at hu⟩
      | succ k ih =>
        intro hk
        obtain ⟨vs, h1, h2⟩ := ih (by omega)
        obtain ⟨ad', Ai, ci, e, g1, g2, g3, g4⟩ := h.out k (by omega)
        obtain rfl := Option.some.inj e
        have hl : vs.length = k := by rw [h1.len, List.length_take]; omega
        refine ⟨vs ++ [.slice Ai (L[k]).length ci], by rw [List.take_succ_eq_append_getElem (by omega)]; exact h1.append (PileM.single rfl g3 g4), fun j u hu => ?_⟩
        by_cases hlt : j < vs.length
        · rw [List.getElem?_append_left hlt] at hu; exact h2 j u hu
        · rw [List.getElem?_append_right (by omega)] at hu
          have hj : j = k := by
            have := (List.getElem?_eq_some_iff.1 hu).1
            simp at this; omega
          subst hj
          rw [hl] at hu
          simp at hu
          subst hu
          exact g2
    obtain ⟨vs, h1, h2⟩ := hk L.length (Nat.le_refl _)
    rw [List.take_length] at h1
    exact ⟨vs, h1, ⟨.inr ⟨ad, rfl, hB, h2⟩⟩⟩
theorem PileM.sees {base : Nat} {v : Value} (h : PileM q w vs fs) (h1 : w.ownsRow base 31 1 v fs.length vs) (hq : ∀ k, v.ownBlock = some k → q k) : ∃ A c, v = .slice A fs.length c ∧ fs.length ≤ c ∧ Sees3M q w A fs := by
  rcases h1.2 with ⟨rfl, hn⟩ | ⟨g, cap, cur, rfl, -, hh, hc, -⟩
  · have : fs = [] := List.eq_nil_of_length_eq_zero hn
    subst this
    exact ⟨none, 0, rfl, by simp, ⟨fun i hi => absurd hi (by simp)⟩⟩
  · refine ⟨_, cap, rfl, hc, ⟨fun i hi => ?_⟩⟩
    obtain ⟨Ai, ci, g1, g2, g3⟩ := h.out i hi
    exact ⟨_, Ai, ci, rfl, hq g rfl, h1.cells (g := g) rfl i _ g1, g2, g3⟩
end
/-- A set of the document's, in blocks of q. -/
structure RSet (q : Nat → Prop) (w : World) (v : Value) (s : SetM) : Prop where
  out : ∃ A c F d, v = .agg #[.slice A s.mem.length c, .slice F s.fs.length d] ∧ s.mem.length ≤ c ∧ s.fs.length ≤ d ∧ Sees2M q w A s.mem ∧ Sees3M q w F s.fs
section
variable {q q' : Nat → Prop} {w w' : World} {v : Value} {s : SetM}
theorem RSet.keep (h : RSet q w v s) (hk : Kept q w w') : RSet q w' v s := by
  obtain ⟨A, c, F, d, h1, h2, h3, h4, h5⟩ := h.out
  exact ⟨A, c, F, d, h1, h2, h3, h4.keep hk, h5.keep hk⟩
theorem RSet.mono (h : RSet q w v s) (hq : ∀ k, q k → q' k) : RSet q' w v s := by
  obtain ⟨A, c, F, d, h1, h2, h3, h4, h5⟩ := h.out
  exact ⟨A, c, F, d, h1, h2, h3, h4.mono hq, h5.mono hq⟩
theorem RSet.new (q : Nat → Prop) (w : World) : RSet q w (.agg #[.slice none 0 0, .slice none 0 0]) SetM.new := ⟨none, 0, none, 0, rfl, by simp [SetM.new], by simp [SetM.new], ⟨fun i hi => absurd hi (by simp [SetM.new])⟩, ⟨fun i hi => absurd hi (by simp [SetM.new])⟩⟩
end
/-- Block B is a struct's box: two cells. -/
structure Box2 (W : World) (B : Nat) (t : TypeId) (v0 v1 : Value) : Prop where
  out : W.heap[B]? = some (.cells #[v0, v1] t (0, 0))
section
variable {W W' : World} {B : Nat} {t : TypeId} {v0 v1 : Value}
theorem Box2.lt (h : Box2 W B t v0 v1) : B < W.heap.size := (Array.getElem?_eq_some_iff.1 h.out).1
theorem Box2.cell0 (h : Box2 W B t v0 v1) : W.cell? ⟨B, 0, none⟩ = some v0 := by simp [World.cell?, h.out]
theorem Box2.cell1 (h : Box2 W B t v0 v1) : W.cell? ⟨B, 1, none⟩ = some v1 := by simp [World.cell?, h.out]
theorem Box2.frozen (h : Box2 W B t v0 v1) (i : Nat) : W.frozen? ⟨B, i, none⟩ = false := by simp [World.frozen?, h.out]
theorem Box2.new (W : World) (b : Nat) (hb : W.heap.size = b) (t : TypeId) (v0 v1 : Value) : Box2 (W.alloc (.cells #[v0, v1] t)) b t v0 v1 := ⟨by subst hb; exact heap_alloc_new _ _⟩
theorem Box2.keep (h : Box2 W B t v0 v1) (hk : W'.heap[B]? = W.heap[B]?) : Box2 W' B t v0 v1 := ⟨hk.trans h.out⟩
theorem Box2.below {b : Nat} (h : Box2 W B t v0 v1) (hb : Below b W W') (hB : B < b) : Box2 W' B t v0 v1 := h.keep (hb.block B hB)
theorem Box2.alloc (h : Box2 W B t v0 v1) (o : Obj) : Box2 (W.alloc o) B t v0 v1 := h.keep (Below.heap_alloc _ _ _ h.lt)
theorem Box2.set0 (h : Box2 W B t v0 v1) (v : Value) : Box2 (W.setCell ⟨B, 0, none⟩ v) B t v v1 := ⟨by have := heap_setCell_same W B 0 _ t v h.out; simpa using this⟩
theorem Box2.set1 (h : Box2 W B t v0 v1) (v : Value) : Box2 (W.setCell ⟨B, 1, none⟩ v) B t v0 v := ⟨by have := heap_setCell_same W B 1 _ t v h.out; simpa using this⟩
theorem Box2.far (h : Box2 W B t v0 v1) {a : Addr} (ha : B ≠ a.block) (v : Value) : Box2 (W.setCell a v) B t v0 v1 := h.keep (Below.heap_setCell _ _ _ _ ha)
end
end Go.Proofs.YtadakaenbemedaaGreatDoor
