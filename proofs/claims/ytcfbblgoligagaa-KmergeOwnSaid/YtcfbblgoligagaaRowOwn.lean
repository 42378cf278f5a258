/-
  A row of rows of bytes of the call's own.
-/
import Derived.Test.YtcfbblgoligagaaWords
namespace Go.Proofs.Ytcfbblgoligagaa
open Go.RowKit

/-- The address A shows the cells xs, in a block from 'base' on that isn't 'ob'. -/
structure SeesN (w : World) (base : Nat) (ob : Option Nat) (A : Option Addr) (xs : List Value) : Prop where
  out : xs = [] ∨ ∃ ad, A = some ad ∧ base ≤ ad.block ∧ ad.block < w.heap.size ∧ some ad.block ≠ ob ∧ ∀ j u, xs[j]? = some u → w.cell? (ad.add j) = some u

section
variable {w w' : World} {base : Nat} {ob : Option Nat} {A : Option Addr} {xs : List Value}
theorem SeesN.sees (h : SeesN w base ob A xs) : Sees w w.heap.size A xs := by
  rcases h.out with h | ⟨ad, e, _, h1, _, h2⟩
  · exact ⟨.inl h⟩
  · exact ⟨.inr ⟨ad, e, h1, h2⟩⟩
theorem SeesN.kept (h : SeesN w base ob A xs) (ob' : Option Nat) (hs : w.heap.size ≤ w'.heap.size) (hk : ∀ b, base ≤ b → b < w.heap.size → some b ≠ ob → w'.heap[b]? = w.heap[b]?) (ho : ∀ b, base ≤ b → b < w.heap.size → some b ≠ ob → some b ≠ ob') : SeesN w' base ob' A xs := by
  rcases h.out with h | ⟨ad, e, h0, h1, h3, h2⟩
  · exact ⟨.inl h⟩
  · exact ⟨.inr ⟨ad, e, h0, by omega, ho _ h0 h1 h3, fun j u hu => (World.cell?_of_block (a := ad.add j) (by rw [add_block]; exact hk _ h0 h1 h3)).trans (h2 j u hu)⟩⟩
theorem SeesN.below (h : SeesN w base ob A xs) (hb : Below w.heap.size w w') : SeesN w' base ob A xs := h.kept ob hb.size (fun b _ hb1 _ => hb.block b hb1) (fun _ _ _ h => h)
theorem SeesN.setCell (h : SeesN w base ob A xs) {a : Addr} (ha : a.block < base) (u : Value) : SeesN (w.setCell a u) base ob A xs :=
  h.kept ob (by rw [World.size_setCell]; exact Nat.le_refl _) (fun b h0 _ _ => Below.heap_setCell _ _ _ _ (by omega)) (fun _ _ _ h => h)
theorem SeesN.of_own {l : List UInt8} {v : Value} (h : OwnB w base v l) {n c : Nat} (hv : v = .slice A n c) (ob : Option Nat) (ho : ∀ b, v.ownBlock = some b → some b ≠ ob) : SeesN w base ob A (bv l) := by
  subst hv
  obtain ⟨A', c', e, _, _, _, hs⟩ := h.open_
  injection e with e1 e2 e3
  subst e1
  rcases h.2 with ⟨h0, h1⟩ | ⟨g, cap, cur, hv, hb, hh, _⟩
  · refine ⟨.inl ?_⟩
    rw [List.eq_nil_of_length_eq_zero h1]; rfl
  · injection hv with hv
    subst hv
    rcases hs.out with h | ⟨ad, e, h1, h2⟩
    · exact ⟨.inl h⟩
    · injection e with e
      subst e
      exact ⟨.inr ⟨_, rfl, hb, h1, ho _ rfl, h2⟩⟩
end

/-- A row of rows of bytes: the row of the call's own, the rows in blocks from 'base' on. -/
structure OwnS (w : World) (base : Nat) (v : Value) (ls : List (List UInt8)) : Prop where
  out : ∃ vs : List Value, w.ownsRow base 41 1 v ls.length vs ∧ ∀ i (hi : i < ls.length), ∃ Ai ci, vs[i]? = some (.slice Ai (ls[i]).length ci) ∧ (ls[i]).length ≤ ci ∧ SeesN w base v.ownBlock Ai (bv ls[i])

section
variable {w w' : World} {base : Nat} {v : Value} {ls : List (List UInt8)}
theorem OwnS.nil (w : World) (base : Nat) : OwnS w base (.slice none 0 0) [] := ⟨[], World.ownsRow_nil w base _ 1, fun i hi => absurd hi (by simp)⟩
theorem OwnS.below (h : OwnS w base v ls) (hb : Below w.heap.size w w') : OwnS w' base v ls := by
  obtain ⟨vs, h1, h2⟩ := h.out
  refine ⟨vs, World.ownsRow.kept (row := none) h1 ⟨hb.os, hb.tape, hb.output, hb.size, fun k hk _ => hb.block k hk⟩ (by cases v.ownBlock <;> simp), fun i hi => ?_⟩
  obtain ⟨Ai, ci, h3, h4, h5⟩ := h2 i hi
  exact ⟨Ai, ci, h3, h4, h5.below hb⟩
theorem OwnS.setCell (h : OwnS w base v ls) {a : Addr} (ha : a.block < base) (u : Value) : OwnS (w.setCell a u) base v ls := by
  obtain ⟨vs, h1, h2⟩ := h.out
  refine ⟨vs, Go.RowKit.ownsRow_setCell_below h1 ha u, fun i hi => ?_⟩
  obtain ⟨Ai, ci, h3, h4, h5⟩ := h2 i hi
  exact ⟨Ai, ci, h3, h4, h5.setCell ha u⟩
theorem OwnS.open_ (h : OwnS w base v ls) : ∃ A c, v = .slice A ls.length c ∧ ls.length ≤ c ∧ Sees2 w w.heap.size A ls := by
  obtain ⟨vs, h1, h2⟩ := h.out
  rcases h1.2 with ⟨rfl, hn⟩ | ⟨g, cap, cur, rfl, hb, hh, hc, hm, _⟩
  · have : ls = [] := List.eq_nil_of_length_eq_zero hn
    subst this
    exact ⟨none, 0, rfl, by simp, ⟨fun i hi => absurd hi (by simp)⟩⟩
  · refine ⟨_, cap, rfl, hc, ⟨fun i hi => ?_⟩⟩
    obtain ⟨Ai, ci, h3, h4, h5⟩ := h2 i hi
    exact ⟨_, Ai, ci, rfl, (Array.getElem?_eq_some_iff.1 hh).1, h1.cells (g := g) rfl i _ h3, h4, h5.sees⟩
end

theorem Try.sinfo : (Try.prog.info? 41).map (fun i => (i.zero, i.size, i.bytes)) = some (some (.slice none 0 0), 1, 24) := by kernel_rfl

theorem OwnS.put {w w' : World} {base : Nat} {v v' : Value} {ls : List (List UInt8)} {vs : List Value} (x : List UInt8) (Ax : Option Addr) (cx : Nat)
    (h : ∀ i (hi : i < ls.length), ∃ Ai ci, vs[i]? = some (.slice Ai (ls[i]).length ci) ∧ (ls[i]).length ≤ ci ∧ SeesN w base v.ownBlock Ai (bv ls[i])) (hvs : vs.length = ls.length)
    (hc : x.length ≤ cx) (hx : SeesN w base v.ownBlock Ax (bv x)) (hown : w'.ownsRow base 41 1 v' (ls.length + 1) (vs ++ [.slice Ax x.length cx])) (hg : w.grownBy w' v.ownBlock)
    (ho : v'.ownBlock = v.ownBlock ∨ v'.ownBlock = some w.heap.size) : OwnS w' base v' (ls ++ [x]) := by
  have kp : ∀ {A : Option Addr} {xs : List Value}, SeesN w base v.ownBlock A xs → SeesN w' base v'.ownBlock A xs := fun hs =>
    hs.kept _ hg.size (fun b _ h1 h2 => hg.block b h1 (fun e => h2 e)) (fun b _ h1 h2 => by
      rcases ho with e | e
      · rw [e]; exact h2
      · rw [e]; intro e2; injection e2 with e2; omega)
  refine ⟨vs ++ [.slice Ax x.length cx], by rw [List.length_append]; exact hown, fun i hi => ?_⟩
  by_cases hlt : i < ls.length
  · obtain ⟨Ai, ci, h3, h4, h5⟩ := h i hlt
    rw [List.getElem_append_left hlt, List.getElem?_append_left (by omega)]
    exact ⟨Ai, ci, h3, h4, kp h5⟩
  · have he : i = ls.length := by simp at hi; omega
    subst he
    rw [List.getElem_append_right (Nat.le_refl _), List.getElem?_append_right (by omega)]
    refine ⟨Ax, cx, ?_, ?_, ?_⟩
    · simp [hvs]
    · simpa using hc
    · simpa using kp hx

/-- append of one row onto a row of rows of the call's own. -/
theorem wpList_append_s {w : World} {ops : Array Oper} {rest : List Oper} {o : Oper} {a : Act} {Q : Exit → Act → World → Prop} (hgd : o.guard = none) (s x : Operand)
    (ho : o.op = .call { callee := .builtin .append, args := #[s, x], argTypes := #[26, 26] })
    (base : Nat) (v : Value) (ls : List (List UInt8)) (hs : a.eval s = v) (hown : OwnS w base v ls) (ad : Addr) (c : Nat) (y : List UInt8) (Ay : Option Addr) (cy : Nat)
    (hx : a.eval x = .slice (some ad) 1 c) (hy : w.cell? ad = some (.slice Ay y.length cy)) (hyc : y.length ≤ cy) (hsee : SeesN w base v.ownBlock Ay (bv y))
    (hlen : ls.length ≤ 1000000) (hbase : base ≤ w.heap.size)
    (h : ∀ v' w', OwnS w' base v' (ls ++ [y]) → w.grownBy w' v.ownBlock → (v'.ownBlock = v.ownBlock ∨ v'.ownBlock = some w.heap.size) → wpList Try.prog ops Q rest (a.put o.dst v') w') : wpList Try.prog ops Q (o :: rest) a w := by
  obtain ⟨i, hi, hz0, hz1, hz2⟩ := info_parts Try.sinfo
  obtain ⟨vs, h1, h2⟩ := hown.out
  have hvs : vs.length = ls.length := by have := h1.1; omega
  exact wpList_append_own_at w hgd s x 26 ho base 41 i _ 1 24 Try.underlying26 hi hz0 hz1 hz2 rfl (by omega) v ls.length vs hs h1 ad 1 c [Value.slice Ay y.length cy] hx rfl
    (fun j u hu => by
      match j, hu with
      | 0, hu =>
        simp at hu
        subst hu
        simpa [Addr.add] using hy)
    (fun u hu => by simp at hu; subst hu; rfl) (by simp only [maxLen]; omega) (by omega) hbase
    (fun v' w' g1 g2 _ g4 => h v' w' (OwnS.put y Ay cy h2 hvs hyc hsee g1 g2 g4) g2 g4)
end Go.Proofs.Ytcfbblgoligagaa
