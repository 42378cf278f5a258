/-
  Rows of rows of bytes: what is seen, what is owned, one more row put behind.
-/
import Derived.Test.YtcfbblgoligagaaRowOwn
namespace Go.Proofs.Ytcfbblgoligagaa
open Go.RowKit

theorem Sees2.drew {w : World} {B : Nat} {A : Option Addr} {ls : List (List UInt8)} (h : Sees2 w B A ls) (q : Nat) : Sees2 (w.drewN q) B A ls :=
  ⟨fun i hi => by
    obtain ⟨ad, Ai, ci, h1, h2, h3, h4, h5⟩ := h.out i hi
    exact ⟨ad, Ai, ci, h1, h2, h3, h4, h5.drewN q⟩⟩
theorem Sees2.more {w : World} {B B' : Nat} {A : Option Addr} {ls : List (List UInt8)} (h : Sees2 w B A ls) (hB : B ≤ B') : Sees2 w B' A ls :=
  ⟨fun i hi => by
    obtain ⟨ad, Ai, ci, h1, h2, h3, h4, h5⟩ := h.out i hi
    exact ⟨ad, Ai, ci, h1, by omega, h3, h4, h5.more hB⟩⟩
theorem Sees2.nil (w : World) (B : Nat) (A : Option Addr) : Sees2 w B A [] := ⟨fun i hi => absurd hi (by simp)⟩
theorem Sees2.take {w : World} {B : Nat} {A : Option Addr} {ls : List (List UInt8)} (h : Sees2 w B A ls) (k : Nat) : Sees2 w B A (ls.take k) :=
  ⟨fun i hi => by
    have hi2 : i < ls.length := by rw [List.length_take] at hi; omega
    obtain ⟨ad, Ai, ci, h1, h2, h3, h4, h5⟩ := h.out i hi2
    rw [List.getElem_take]
    exact ⟨ad, Ai, ci, h1, h2, h3, h4, h5⟩⟩
theorem Sees2.cut {w : World} {B : Nat} {A : Option Addr} {ls : List (List UInt8)} (h : Sees2 w B A ls) {k cap : Nat} (hc : ls.length ≤ cap) : Sees2 w B (if cap = k then A else A.map (fun x => x.add k)) (ls.drop k) :=
  ⟨fun i hi => by
    rw [List.length_drop] at hi
    have hi2 : k + i < ls.length := by omega
    obtain ⟨ad, Ai, ci, rfl, h2, h3, h4, h5⟩ := h.out (k + i) hi2
    rw [List.getElem_drop, if_neg (by omega)]
    exact ⟨ad.add k, Ai, ci, rfl, by rw [add_block]; exact h2, by rw [add_add']; exact h3, h4, h5⟩⟩

/-- A row of the call's own, of slices of items that lay there before. -/
structure OwnT (w : World) (base : Nat) (v : Value) (lls : List (List (List UInt8))) : Prop where
  out : ∃ vs : List Value, w.ownsRow base 26 1 v lls.length vs ∧ ∀ i (hi : i < lls.length), ∃ Ai ci, vs[i]? = some (.slice Ai (lls[i]).length ci) ∧ (lls[i]).length ≤ ci ∧ Sees2 w base Ai lls[i]

theorem OwnT.nil (w : World) (base : Nat) : OwnT w base (.slice none 0 0) [] := ⟨[], World.ownsRow_nil w base _ 1, fun i hi => absurd hi (by simp)⟩
theorem OwnT.open_ {w : World} {base : Nat} {v : Value} {lls : List (List (List UInt8))} (h : OwnT w base v lls) : ∃ A c, v = .slice A lls.length c ∧ lls.length ≤ c ∧
    ∀ i (hi : i < lls.length), ∃ ad Ai ci, A = some ad ∧ ad.block < w.heap.size ∧ w.cell? (ad.add i) = some (.slice Ai (lls[i]).length ci) ∧ (lls[i]).length ≤ ci ∧ Sees2 w base Ai lls[i] := by
  obtain ⟨vs, h1, h2⟩ := h.out
  rcases h1.2 with ⟨rfl, hn⟩ | ⟨g, cap, cur, rfl, hb, hh, hc, hm, _⟩
  · have : lls = [] := List.eq_nil_of_length_eq_zero hn
    subst this
    exact ⟨none, 0, rfl, by simp, fun i hi => absurd hi (by simp)⟩
  · refine ⟨_, cap, rfl, hc, fun i hi => ?_⟩
    obtain ⟨Ai, ci, h3, h4, h5⟩ := h2 i hi
    exact ⟨_, Ai, ci, rfl, (Array.getElem?_eq_some_iff.1 hh).1, h1.cells (g := g) rfl i _ h3, h4, h5⟩
theorem OwnT.below {w w' : World} {base : Nat} {v : Value} {lls : List (List (List UInt8))} (h : OwnT w base v lls) (hb : Below w.heap.size w w') (hbase : base ≤ w.heap.size) : OwnT w' base v lls := by
  obtain ⟨vs, h1, h2⟩ := h.out
  refine ⟨vs, World.ownsRow.kept (row := none) h1 ⟨hb.os, hb.tape, hb.output, hb.size, fun k hk _ => hb.block k hk⟩ (by cases v.ownBlock <;> simp), fun i hi => ?_⟩
  obtain ⟨Ai, ci, h3, h4, h5⟩ := h2 i hi
  exact ⟨Ai, ci, h3, h4, h5.below (hb.mono hbase)⟩

theorem Try.tinfo : (Try.prog.info? 26).map (fun i => (i.zero, i.size, i.bytes)) = some (some (.slice none 0 0), 1, 24) := by kernel_rfl

/-- append of one block. -/
theorem wpList_append_t {w : World} {ops : Array Oper} {rest : List Oper} {o : Oper} {a : Act} {Q : Exit → Act → World → Prop} (hgd : o.guard = none) (s x : Operand)
    (ho : o.op = .call { callee := .builtin .append, args := #[s, x], argTypes := #[22, 22] })
    (base : Nat) (v : Value) (lls : List (List (List UInt8))) (hs : a.eval s = v) (hown : OwnT w base v lls) (ad : Addr) (c : Nat) (y : List (List UInt8)) (Ay : Option Addr) (cy : Nat)
    (hx : a.eval x = .slice (some ad) 1 c) (hy : w.cell? ad = some (.slice Ay y.length cy)) (hyc : y.length ≤ cy) (hsee : Sees2 w base Ay y)
    (hlen : lls.length ≤ 1000000) (hbase : base ≤ w.heap.size)
    (h : ∀ v' w', OwnT w' base v' (lls ++ [y]) → Onto w w' v v' → Below base w w' → wpList Try.prog ops Q rest (a.put o.dst v') w') : wpList Try.prog ops Q (o :: rest) a w := by
  obtain ⟨i, hi, hz0, hz1, hz2⟩ := info_parts Try.tinfo
  obtain ⟨vs, h1, h2⟩ := hown.out
  have hvs : vs.length = lls.length := by have := h1.1; omega
  refine wpList_append_own_at w hgd s x 22 ho base 26 i _ 1 24 Try.underlying22 hi hz0 hz1 hz2 rfl (by omega) v lls.length vs hs h1 ad 1 c [Value.slice Ay y.length cy] hx rfl
    (fun j u hu => by
      match j, hu with
      | 0, hu =>
        simp at hu
        subst hu
        simpa [Addr.add] using hy)
    (fun u hu => by simp at hu; subst hu; rfl) (by simp only [maxLen]; omega) (by omega) hbase
    (fun v' w' g1 g2 _ g4 => ?_)
  have hb : Below base w w' := (Below.refl _ w).grown g2 hbase (fun k hk => ((World.ownsRow.lt h1) k hk).1)
  refine h v' w' ⟨vs ++ [.slice Ay y.length cy], by rw [List.length_append]; exact g1, fun i hi => ?_⟩ ⟨g2, ?_⟩ hb
  · by_cases hlt : i < lls.length
    · obtain ⟨Ai, ci, h3, h4, h5⟩ := h2 i hlt
      rw [List.getElem_append_left hlt, List.getElem?_append_left (by omega)]
      exact ⟨Ai, ci, h3, h4, h5.below hb⟩
    · have he : i = lls.length := by simp at hi; omega
      subst he
      rw [List.getElem_append_right (Nat.le_refl _), List.getElem?_append_right (by omega)]
      refine ⟨Ay, cy, ?_, ?_, ?_⟩
      · simp [hvs]
      · simpa using hyc
      · simpa using hsee.below hb
  · rcases g4 with g4 | g4
    · exact .inl g4
    · exact .inr ⟨_, g4, Nat.le_refl _⟩

theorem OwnT.alloc {w : World} {base : Nat} {v : Value} {lls : List (List (List UInt8))} (h : OwnT w base v lls) (hb : base ≤ w.heap.size) (o : Obj) : OwnT (w.alloc o) base v lls := h.below ((Below.refl _ w).alloc (Nat.le_refl _) o) hb
end Go.Proofs.Ytcfbblgoligagaa
