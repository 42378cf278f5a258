/-
  Rows of rows of bytes, in blocks of their own: overwritten byte by byte.
-/
import Derived.Test.YtadakaenbemedaaGreatDoorTgScript
namespace Go.Proofs.YtadakaenbemedaaGreatDoor
open Go.RowKit Go.Maps

theorem cell_set {W : World} {a : Addr} {u : Value} (p : Addr) (v : Value) (h : W.cell? a = some u) : (W.setCell p v).cell? a = some u ∨ (W.setCell p v).cell? a = some v := by
  by_cases e : p = a
  · subst e; exact .inr (World.cell?_setCell_same W p v h)
  · exact .inl ((World.cell?_setCell_other W p a v e).trans h)
theorem frozen_set (W : World) (p a : Addr) (v : Value) : (W.setCell p v).frozen? a = W.frozen? a := by simp

/-- Some bytes, in a block of m, unfrozen. -/
structure BytesAt (W : World) (m : Nat → Prop) (A : Option Addr) (n : Nat) : Prop where
  out : ∀ j, j < n → ∃ ad, A = some ad ∧ m ad.block ∧ ∃ b : UInt8, W.cell? (ad.add j) = some (.int .u8 (b.toNat : Int)) ∧ W.frozen? (ad.add j) = false
theorem BytesAt.set {W : World} {m : Nat → Prop} {A : Option Addr} {n : Nat} (h : BytesAt W m A n) (p : Addr) (z : UInt8) : BytesAt (W.setCell p (.int .u8 (z.toNat : Int))) m A n :=
  ⟨fun j hj => by
    obtain ⟨ad, h1, h2, b, h3, h4⟩ := h.out j hj
    rcases cell_set p (.int .u8 (z.toNat : Int)) h3 with e | e
    · exact ⟨ad, h1, h2, b, e, (frozen_set _ _ _ _).trans h4⟩
    · exact ⟨ad, h1, h2, z, e, (frozen_set _ _ _ _).trans h4⟩⟩
/-- A row of rows of some bytes, the rows not in the row's own block. -/
structure RowAt (W : World) (q : Nat → Prop) (A : Option Addr) (Y : List Item) : Prop where
  out : ∀ i (hi : i < Y.length), ∃ ad Ai ci, A = some ad ∧ q ad.block ∧ W.cell? (ad.add i) = some (.slice Ai (Y[i]).length ci) ∧ (Y[i]).length ≤ ci ∧ BytesAt W (fun k => q k ∧ k ≠ ad.block) Ai (Y[i]).length
theorem RowAt.set {W : World} {q : Nat → Prop} {A : Option Addr} {Y : List Item} (h : RowAt W q A Y) (p : Addr) (hp : ∀ ad, A = some ad → p.block ≠ ad.block) (z : UInt8) : RowAt (W.setCell p (.int .u8 (z.toNat : Int))) q A Y :=
  ⟨fun i hi => by
    obtain ⟨ad, Ai, ci, h1, h2, h3, h4, h5⟩ := h.out i hi
    exact ⟨ad, Ai, ci, h1, h2, (World.cell?_setCell_far _ _ _ _ (by rw [add_block]; exact hp ad h1)).trans h3, h4, h5.set p z⟩⟩
theorem RowAt.drew {W : World} {q : Nat → Prop} {A : Option Addr} {Y : List Item} (h : RowAt W q A Y) : RowAt W.drew q A Y := ⟨fun i hi => by
    obtain ⟨ad, Ai, ci, h1, h2, h3, h4, h5⟩ := h.out i hi
    exact ⟨ad, Ai, ci, h1, h2, h3, h4, ⟨h5.out⟩⟩⟩
theorem OwnQ.rowAt {q : Nat → Prop} {w : World} {base : Nat} {v : Value} {ls : List (List UInt8)} (h : OwnQ q w base v ls) : ∃ A c, v = .slice A ls.length c ∧ ls.length ≤ c ∧ RowAt w q A ls := by
  obtain ⟨vs, h1, h2, h3⟩ := h.out
  rcases h1.2 with ⟨rfl, hn⟩ | ⟨g, cap, cur, rfl, hb, hh, hc, hm, _⟩
  · have : ls = [] := List.eq_nil_of_length_eq_zero hn
    subst this
    exact ⟨none, 0, rfl, by simp, ⟨fun i hi => absurd hi (by simp)⟩⟩
  · refine ⟨_, cap, rfl, hc, ⟨fun i hi => ?_⟩⟩
    obtain ⟨Ai, ci, g1, g2, g3⟩ := h3 i hi
    refine ⟨_, Ai, ci, rfl, h2 g rfl, h1.cells (g := g) rfl i _ g1, g2, ⟨fun j hj => ?_⟩⟩
    rcases g3.out with e | ⟨ad, e, ⟨e1, e2⟩, e3⟩
    · exfalso
      have : (bv ls[i]).length = 0 := by rw [e]; rfl
      simp [bv] at this
      rw [this] at hj
      simp at hj
    · have hg : (bv ls[i])[j]? = some (.int .u8 ((ls[i])[j].toNat : Int)) := by simp [bv, List.getElem?_eq_getElem hj]
      exact ⟨ad, e, ⟨e1, fun e4 => e2 (by rw [e4]; rfl)⟩, _, (e3 j _ hg).1, (e3 j _ hg).2⟩
theorem xor255 (b : UInt8) : ∃ z : UInt8, bits .xor .u8 (b.toNat : Int) 255 = (z.toNat : Int) := by
  have hb := b.toNat_lt
  have hlt : b.toNat ^^^ 255 < 256 := Nat.xor_lt_two_pow (n := 8) (by omega) (by omega)
  refine ⟨UInt8.ofNat (b.toNat ^^^ 255), ?_⟩
  rw [u8_nat _ hlt]
  exact u8_xor_nat _ 255 (by omega) (by omega)
theorem RowAt.take {W : World} {q : Nat → Prop} {A : Option Addr} {Y : List Item} (h : RowAt W q A Y) (n : Nat) : RowAt W q A (Y.take n) := ⟨fun i hi => by
  have hi' : i < Y.length := by rw [List.length_take] at hi; omega
  simp only [List.getElem_take]
  exact h.out i hi'⟩
theorem SetRow.rowAt {w w' : World} {A : Option Addr} {c : Nat} {ls : List Item} (h : SetRow w w' A c ls) : RowAt w' (fun k => w.heap.size ≤ k ∧ k < w'.heap.size) A ls := by
  obtain ⟨v0, n0, rfl, c0, hQ⟩ := h.own
  obtain ⟨A', c', e, -, hR⟩ := hQ.rowAt
  injection e with e
  subst e
  exact hR.take n0
end Go.Proofs.YtadakaenbemedaaGreatDoor
