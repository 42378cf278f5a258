/-
  Rows that are put into a row of the call's own, one after another.
-/
import Derived.Test.YtcfbblgoligagaaKmSeqB
namespace Go.Proofs.Ytcfbblgoligagaa.KB
open Go.RowKit

/-- Rows in a row of the call's own, v; their cells in blocks of m or new ones. -/
structure Pile (m : Nat → Prop) (n1 : Nat) (w : World) (v : Value) (L : List (List El)) : Prop where
  out : ∃ vs : List Value, w.ownsRow n1 26 1 v L.length vs ∧
    ∀ i (hi : i < L.length), ∃ Ai ci, vs[i]? = some (.slice Ai (L[i]).length ci) ∧ (L[i]).length ≤ ci ∧ SeesM (fun k => m k ∨ (n1 ≤ k ∧ k < w.heap.size ∧ v.ownBlock ≠ some k)) w Ai ((L[i]).map val)
  ok : ∀ r ∈ L, ∀ x ∈ r, EOk m w x
  apart : ∀ k, m k → k < n1
  low : n1 ≤ w.heap.size
section
variable {m : Nat → Prop} {n1 : Nat} {w w' w2 w3 : World} {v v' : Value} {L : List (List El)} {x : List El}
theorem Pile.nil (w : World) (m : Nat → Prop) (n1 : Nat) (ha : ∀ k, m k → k < n1) (hl : n1 ≤ w.heap.size) : Pile m n1 w (.slice none 0 0) [] :=
  ⟨⟨[], World.ownsRow_nil _ _ _ _, fun i hi => absurd hi (by simp)⟩, by simp, ha, hl⟩
theorem Pile.below (h : Pile m n1 w v L) (hb : Below w.heap.size w w') : Pile m n1 w' v L := by
  obtain ⟨vs, h1, h2⟩ := h.out
  have hs := hb.size
  have hlow := h.low
  have hk : Kept (fun k => m k ∨ (n1 ≤ k ∧ k < w.heap.size ∧ v.ownBlock ≠ some k)) w w' := Kept.of_below hb fun k e => by
    rcases e with e | e
    · have := h.apart k e; omega
    · exact e.2.1
  refine ⟨⟨vs, own_below h1 hb, fun i hi => ?_⟩, fun r hr x hx => (h.ok r hr x hx).keep (hk.mono fun k e => .inl e), h.apart, by omega⟩
  obtain ⟨Ai, ci, g1, g2, g3⟩ := h2 i hi
  exact ⟨Ai, ci, g1, g2, (g3.keep hk).mono fun k e => by rcases e with e | e; exact .inl e; exact .inr ⟨e.1, by omega, e.2.2⟩⟩
theorem Pile.own (h : Pile m n1 w v L) : ∃ vs : List Value, w.ownsRow n1 26 1 v L.length vs := let ⟨vs, h1, _⟩ := h.out; ⟨vs, h1⟩
/-- One more. -/
theorem Pile.push {A1 : Option Addr} {c1 : Nat} (h : Pile m n1 w v L) (hb : Below w.heap.size w w2)
    (hx : SeesM (fun k => m k ∨ (w.heap.size ≤ k ∧ k < w2.heap.size)) w2 A1 (x.map val)) (hxc : x.length ≤ c1) (hxo : ∀ y ∈ x, EOk m w y)
    (vs : List Value) (hvs : w.ownsRow n1 26 1 v L.length vs)
    (hvs2 : ∀ i (hi : i < L.length), ∃ Ai ci, vs[i]? = some (.slice Ai (L[i]).length ci) ∧ (L[i]).length ≤ ci ∧ SeesM (fun k => m k ∨ (n1 ≤ k ∧ k < w.heap.size ∧ v.ownBlock ≠ some k)) w Ai ((L[i]).map val))
    (hown : w3.ownsRow n1 26 1 v' (L.length + 1) (vs ++ [.slice A1 x.length c1])) (hon : Onto w2 w3 v v') : Pile m n1 w3 v' (L ++ [x]) := by
  have hs := hb.size
  have hs3 := hon.size
  have hlow := h.low
  have hlen : vs.length = L.length := by have := hvs.1; omega
  have hvl := World.ownsRow.lt hvs
  have hv' : ∀ k, k < w2.heap.size → v.ownBlock ≠ some k → v'.ownBlock ≠ some k := fun k hk hne e => by
    rcases hon.at_ with e2 | ⟨g, e2, hg⟩
    · exact hne (e2 ▸ e)
    · rw [e2] at e; injection e with e; omega
  have hmv : ∀ k, m k → v.ownBlock ≠ some k := fun k e e2 => by have := h.apart k e; have := (hvl k e2).1; omega
  have hk23 : ∀ k, k < w2.heap.size → v.ownBlock ≠ some k → w3.heap[k]? = w2.heap[k]? := fun k a b => hon.grown.block k a (fun e => b e.symm)
  have hkr : Kept (fun k => m k ∨ (n1 ≤ k ∧ k < w.heap.size ∧ v.ownBlock ≠ some k)) w w3 := fun k hk => by
    have hk1 : k < w.heap.size ∧ v.ownBlock ≠ some k := by
      rcases hk with e | e
      · exact ⟨by have := h.apart k e; omega, hmv k e⟩
      · exact e.2
    exact (hk23 k (by omega) hk1.2).trans (hb.block k hk1.1)
  refine ⟨⟨vs ++ [.slice A1 x.length c1], by rw [List.length_append]; exact hown, fun i hi => ?_⟩, fun r hr y hy => ?_, h.apart, by omega⟩
  · by_cases hlt : i < L.length
    · obtain ⟨Ai, ci, g1, g2, g3⟩ := hvs2 i hlt
      rw [List.getElem_append_left hlt, List.getElem?_append_left (by omega)]
      exact ⟨Ai, ci, g1, g2, (g3.keep hkr).mono fun k e => by
        rcases e with e | e
        · exact .inl e
        · exact .inr ⟨e.1, by omega, hv' k (by omega) e.2.2⟩⟩
    · have he : i = L.length := by simp at hi; omega
      subst he
      rw [List.getElem_append_right (Nat.le_refl _), List.getElem?_append_right (by omega)]
      refine ⟨A1, c1, by simp [hlen], by simpa using hxc, ?_⟩
      simp only [Nat.sub_self, List.getElem_cons_zero]
      have hne : ∀ k, w.heap.size ≤ k → v.ownBlock ≠ some k := fun k hk e => by have := (hvl k e).2; omega
      refine (hx.keep fun k e => ?_).mono fun k e => ?_
      · rcases e with e | e
        · exact hk23 k (by have := h.apart k e; omega) (hmv k e)
        · exact hk23 k e.2 (hne k e.1)
      · rcases e with e | e
        · exact .inl e
        · exact .inr ⟨by omega, by omega, hv' k e.2 (hne k e.1)⟩
  · rcases List.mem_append.1 hr with hr | hr
    · exact (h.ok r hr y hy).keep (hkr.mono fun k e => .inl e)
    · simp only [List.mem_singleton] at hr; subst hr
      exact (hxo y hy).keep (hkr.mono fun k e => .inl e)
theorem Pile.slice (h : Pile m n1 w v L) : ∃ A c, v = .slice A L.length c ∧ L.length ≤ c := by
  obtain ⟨vs, h1, h2⟩ := h.out
  rcases h1.2 with ⟨rfl, hn⟩ | ⟨g, cap, cur, rfl, -, -, hc, -⟩
  · exact ⟨none, 0, by rw [hn], by omega⟩
  · exact ⟨_, cap, rfl, hc⟩
/-- They can be handed in. -/
theorem Pile.rowsIn {A : Option Addr} {c : Nat} (h : Pile m n1 w (.slice A L.length c) L) : RowsIn (fun k => k < w.heap.size) w A L := ⟨fun i hi => by
  obtain ⟨vs, h1, h2⟩ := h.out
  have hlow := h.low
  obtain ⟨Ai, ci, g1, g2, g3⟩ := h2 i hi
  rcases h1.2 with ⟨e, hn⟩ | ⟨g, cap, cur, e, hg, hcur, hc, -⟩
  · omega
  · have hlt := World.ownsRow.lt h1 g (by rw [e]; rfl)
    have hcl := World.ownsRow.cells h1 (g := g) (by rw [e]; rfl) i _ g1
    injection e with e1 e2 e3
    refine ⟨⟨g, 0, none⟩, Ai, ci, e1, hlt.2, hcl, g2, g3.mono fun k e => ?_, fun x hx => (h.ok _ (List.getElem_mem hi) x hx).mono fun k e => ?_⟩
    · rcases e with e | e
      · have := h.apart k e; omega
      · exact e.2.1
    · have := h.apart k e; omega⟩
end
end Go.Proofs.Ytcfbblgoligagaa.KB
