/-
  A set in memory; a tier of it.
-/
import Derived.Test.YtadakaenbemedaaGreatDoorTgMem
import Derived.Test.YtadakaenbemedaaGreatDoorIpE
namespace Go.Proofs.YtadakaenbemedaaGreatDoor
open Go.RowKit Go.Maps

/-- A row of pointers to parts. -/
structure PartsAt (q : Nat → Prop) (w : World) (v : Value) (fs : List (List Item)) : Prop where
  out : ∃ ps : List Value, w.ownsRow 0 65 1 v fs.length ps ∧ (∀ k, v.ownBlock = some k → q k) ∧ ∀ i (hi : i < fs.length), ∃ P, ps[i]? = some (.pointer (some ⟨P, 0, none⟩)) ∧ PartAt (fun k => q k ∧ v.ownBlock ≠ some k) w P fs[i]
/-- A set lies in block S, in blocks of m. -/
structure SetAt (m : Nat → Prop) (w : World) (S : Nat) (s : SetM) : Prop where
  out : ∃ (bm : Nat) (v : Value), w.cell? ⟨S, 0, none⟩ = some (.map (some bm)) ∧ w.cell? ⟨S, 1, none⟩ = some v ∧ w.frozen? ⟨S, 1, none⟩ = false ∧ m S ∧ m bm ∧ bm ≠ S ∧ MemAt w bm s.mem ∧ PartsAt (fun k => m k ∧ k ≠ S ∧ k ≠ bm) w v s.fs
  lt : ∀ k, m k → k < w.heap.size

section
variable {m m' q q' : Nat → Prop} {w w' : World} {S b : Nat} {s : SetM} {v : Value} {fs : List (List Item)} {mem : List Item}
theorem PartsAt.keep (h : PartsAt q w v fs) (hk : Kept q w w') : PartsAt q w' v fs := by
  obtain ⟨ps, h1, h2, h3⟩ := h.out
  refine ⟨ps, ownsRow_kept h1 fun k e => hk k (h2 k e), h2, fun i hi => ?_⟩
  obtain ⟨P, g1, g2⟩ := h3 i hi
  exact ⟨P, g1, g2.keep (hk.mono fun k e => e.1)⟩
theorem PartsAt.mono (h : PartsAt q w v fs) (hq : ∀ k, q k → q' k) : PartsAt q' w v fs := by
  obtain ⟨ps, h1, h2, h3⟩ := h.out
  refine ⟨ps, h1, fun k e => hq k (h2 k e), fun i hi => ?_⟩
  obtain ⟨P, g1, g2⟩ := h3 i hi
  exact ⟨P, g1, g2.mono fun k e => ⟨hq k e.1, e.2⟩⟩
theorem PartsAt.nil (q : Nat → Prop) (w : World) : PartsAt q w (.slice none 0 0) [] := ⟨[], World.ownsRow_nil w 0 _ 1, fun k hk => by simp [Value.ownBlock] at hk, fun i hi => absurd hi (by simp)⟩
theorem PartsAt.open_ (h : PartsAt q w v fs) : ∃ A c, v = .slice A fs.length c ∧ fs.length ≤ c ∧ c ≤ maxLen ∧ ∀ i (hi : i < fs.length), ∃ ad P, A = some ad ∧ q ad.block ∧ w.cell? (ad.add i) = some (.pointer (some ⟨P, 0, none⟩)) ∧ PartAt q w P fs[i] := by
  obtain ⟨ps, h1, h2, h3⟩ := h.out
  rcases h1.2 with ⟨rfl, hn⟩ | ⟨g, cap, cur, rfl, hb, hh, hc, hm, _⟩
  · have : fs = [] := List.eq_nil_of_length_eq_zero hn
    subst this
    exact ⟨none, 0, rfl, by simp, by simp [maxLen], fun i hi => absurd hi (by simp)⟩
  · refine ⟨_, cap, rfl, hc, hm, fun i hi => ?_⟩
    obtain ⟨P, g1, g2⟩ := h3 i hi
    exact ⟨_, P, rfl, h2 g rfl, h1.cells (g := g) rfl i _ g1, g2.mono fun k e => e.1⟩
theorem SetAt.keep (h : SetAt m w S s) (hk : Kept m w w') (hs : w.heap.size ≤ w'.heap.size) : SetAt m w' S s := by
  obtain ⟨bm, v, h1, h2, h3, h4, h5, h6, h7, h8⟩ := h.out
  exact ⟨⟨bm, v, (hk.cell h4).trans h1, (hk.cell h4).trans h2, (frozen_of_block (hk S h4)).trans h3, h4, h5, h6, h7.keep (hk bm h5), h8.keep (hk.mono fun k e => e.1)⟩, fun k e => Nat.lt_of_lt_of_le (h.lt k e) hs⟩
theorem SetAt.below (h : SetAt m w S s) (hb : Below w.heap.size w w') : SetAt m w' S s := h.keep (Kept.of_below hb h.lt) hb.size
theorem SetAt.turn {T : Nat → Prop} (h : SetAt m w S s) (ht : Turn T w w') (hT : ∀ k, m k → ¬ T k) : SetAt m w' S s := h.keep (Kept.of_turn ht fun k e => ⟨h.lt k e, hT k e⟩) ht.size
theorem SetAt.mono (h : SetAt m w S s) (hm : ∀ k, m k → m' k) (hl : ∀ k, m' k → k < w.heap.size) : SetAt m' w S s := by
  obtain ⟨bm, v, h1, h2, h3, h4, h5, h6, h7, h8⟩ := h.out
  exact ⟨⟨bm, v, h1, h2, h3, hm _ h4, hm _ h5, h6, h7, h8.mono fun k e => ⟨hm k e.1, e.2⟩⟩, hl⟩
end

/-- A tier as it is handed on: the map, or a part. -/
structure TierAt (w : World) (v : Value) (ls : List Item) : Prop where
  out : (∃ b, v = .iface 60 (.map (some b)) ∧ MemAt w b ls ∧ Ri ahead ls) ∨ (∃ P, v = .iface 65 (.pointer (some ⟨P, 0, none⟩)) ∧ PartAt (fun k => k < w.heap.size) w P ls)
theorem TierAt.below {w w' : World} {v : Value} {ls : List Item} (h : TierAt w v ls) (hb : Below w.heap.size w w') : TierAt w' v ls := by
  rcases h.out with ⟨b, h1, h2, h3⟩ | ⟨P, h1, h2⟩
  · exact ⟨.inl ⟨b, h1, h2.keep (hb.block b h2.lt), h3⟩⟩
  · exact ⟨.inr ⟨P, h1, h2.later hb⟩⟩
theorem TierAt.one {w : World} {v : Value} {ls : List Item} (h : TierAt w v ls) : v.oneCell' = true := by
  rcases h.out with ⟨b, rfl, -⟩ | ⟨P, rfl, -⟩ <;> rfl
/-- A row of tiers, seen. -/
structure TiersAt (w : World) (A : Option Addr) (ts : List (List Item)) : Prop where
  out : ∀ i (hi : i < ts.length), ∃ ad v, A = some ad ∧ ad.block < w.heap.size ∧ w.cell? (ad.add i) = some v ∧ TierAt w v ts[i]
theorem TiersAt.below {w w' : World} {A : Option Addr} {ts : List (List Item)} (h : TiersAt w A ts) (hb : Below w.heap.size w w') : TiersAt w' A ts := ⟨fun i hi => by
  obtain ⟨ad, v, h1, h2, h3, h4⟩ := h.out i hi
  exact ⟨ad, v, h1, Nat.lt_of_lt_of_le h2 hb.size, (hb.cell (by rw [add_block]; exact h2)).trans h3, h4.below hb⟩⟩
end Go.Proofs.YtadakaenbemedaaGreatDoor
