/-
  Three rows of the call's own that grow side by side: blocks, what each begins with, all items.
-/
import Derived.Test.YtmdphaagbmipcaaDoorMem
import Derived.Test.YtmdphaagbmipcaaDoorIpBuild
namespace Go.Proofs.YtmdphaagbmipcaaDoor
open Go.RowKit

/-- The blocks that a state of three rows lies in. -/
def Held3 (q : Nat → Prop) (vB vF vA : Value) (k : Nat) : Prop := q k ∨ vB.ownBlock = some k ∨ vF.ownBlock = some k ∨ vA.ownBlock = some k

/-- The cells of a row of rows of bytes show their targets in blocks of q. -/
def Cells1 (q : Nat → Prop) (W : World) (vs : List Value) (fs : List Item) : Prop := ∀ i (hi : i < fs.length), ∃ Ai ci, vs[i]? = some (.slice Ai (fs[i]).length ci) ∧ (fs[i]).length ≤ ci ∧ SeesM q W Ai (bv fs[i])
def Cells2 (q : Nat → Prop) (W : World) (vs : List Value) (bl : List (List Item)) : Prop := ∀ i (hi : i < bl.length), ∃ Ai ci, vs[i]? = some (.slice Ai (bl[i]).length ci) ∧ (bl[i]).length ≤ ci ∧ Sees2M q W Ai bl[i]
theorem Cells1.keep {q q' : Nat → Prop} {W W' : World} {vs : List Value} {fs : List Item} (h : Cells1 q W vs fs) (hk : Kept q W W') (hq : ∀ k, q k → q' k) : Cells1 q' W' vs fs := fun i hi => by
  obtain ⟨Ai, ci, g1, g2, g3⟩ := h i hi
  exact ⟨Ai, ci, g1, g2, (g3.keep hk).mono hq⟩
theorem Cells2.keep {q q' : Nat → Prop} {W W' : World} {vs : List Value} {bl : List (List Item)} (h : Cells2 q W vs bl) (hk : Kept q W W') (hq : ∀ k, q k → q' k) : Cells2 q' W' vs bl := fun i hi => by
  obtain ⟨Ai, ci, g1, g2, g3⟩ := h i hi
  exact ⟨Ai, ci, g1, g2, (g3.keep hk).mono hq⟩
theorem Cells1.snoc {q : Nat → Prop} {W : World} {vs : List Value} {fs : List Item} (h : Cells1 q W vs fs) (hvs : vs.length = fs.length) {y : Item} {Ay : Option Addr} {cy : Nat} (hc : y.length ≤ cy) (hy : SeesM q W Ay (bv y)) : Cells1 q W (vs ++ [.slice Ay y.length cy]) (fs ++ [y]) := fun i hi => by
  by_cases hlt : i < fs.length
  · obtain ⟨Ai, ci, g1, g2, g3⟩ := h i hlt
    rw [List.getElem_append_left hlt, List.getElem?_append_left (by omega)]
    exact ⟨Ai, ci, g1, g2, g3⟩
  · have he : i = fs.length := by simp at hi; omega
    subst he
    rw [List.getElem_append_right (Nat.le_refl _), List.getElem?_append_right (by omega)]
    exact ⟨Ay, cy, by simp [hvs], by simpa using hc, by simpa using hy⟩
theorem Cells2.snoc {q : Nat → Prop} {W : World} {vs : List Value} {bl : List (List Item)} (h : Cells2 q W vs bl) (hvs : vs.length = bl.length) {y : List Item} {Ay : Option Addr} {cy : Nat} (hc : y.length ≤ cy) (hy : Sees2M q W Ay y) : Cells2 q W (vs ++ [.slice Ay y.length cy]) (bl ++ [y]) := fun i hi => by
  by_cases hlt : i < bl.length
  · obtain ⟨Ai, ci, g1, g2, g3⟩ := h i hlt
    rw [List.getElem_append_left hlt, List.getElem?_append_left (by omega)]
    exact ⟨Ai, ci, g1, g2, g3⟩
  · have he : i = bl.length := by simp at hi; omega
    subst he
    rw [List.getElem_append_right (Nat.le_refl _), List.getElem?_append_right (by omega)]
    exact ⟨Ay, cy, by simp [hvs], by simpa using hc, by simpa using hy⟩
theorem Cells1.append {q : Nat → Prop} {W : World} {vs : List Value} {fs : List Item} (h : Cells1 q W vs fs) (hvs : vs.length = fs.length) {ys : List Item} {ws : List Value} (hy : Cells1 q W ws ys) : Cells1 q W (vs ++ ws) (fs ++ ys) := fun i hi => by
  by_cases hlt : i < fs.length
  · obtain ⟨Ai, ci, g1, g2, g3⟩ := h i hlt
    rw [List.getElem_append_left hlt, List.getElem?_append_left (by omega)]
    exact ⟨Ai, ci, g1, g2, g3⟩
  · rw [List.length_append] at hi
    obtain ⟨Ai, ci, g1, g2, g3⟩ := hy (i - fs.length) (by omega)
    rw [List.getElem_append_right (by omega), List.getElem?_append_right (by omega), hvs]
    exact ⟨Ai, ci, g1, g2, g3⟩

structure OpenSt (base : Nat) (q : Nat → Prop) (W : World) (vB vF vA : Value) (bl : List (List Item)) (fs al : List Item) : Prop where
  rB : ∃ vs, W.ownsRow base 22 1 vB bl.length vs ∧ Cells2 q W vs bl
  rF : ∃ vs, W.ownsRow base 23 1 vF fs.length vs ∧ Cells1 q W vs fs
  rA : ∃ vs, W.ownsRow base 23 1 vA al.length vs ∧ Cells1 q W vs al
  qlt : ∀ k, q k → base ≤ k ∧ k < W.heap.size
  nB : ∀ k, vB.ownBlock = some k → ¬ q k
  nF : ∀ k, vF.ownBlock = some k → ¬ q k
  nA : ∀ k, vA.ownBlock = some k → ¬ q k
  aBF : Apart2 vB vF
  aBA : Apart2 vB vA
  aFA : Apart2 vF vA

section
variable {base : Nat} {q : Nat → Prop} {W W' : World} {vB vF vA v' : Value} {bl : List (List Item)} {fs al : List Item}
theorem OpenSt.nil (base : Nat) (W : World) : OpenSt base (fun _ => False) W (.slice none 0 0) (.slice none 0 0) (.slice none 0 0) [] [] [] :=
  ⟨⟨[], World.ownsRow_nil W base _ 1, fun i hi => absurd hi (by simp)⟩, ⟨[], World.ownsRow_nil W base _ 1, fun i hi => absurd hi (by simp)⟩, ⟨[], World.ownsRow_nil W base _ 1, fun i hi => absurd hi (by simp)⟩, fun _ h => h.elim, fun _ _ h => h, fun _ _ h => h, fun _ _ h => h, Apart2.nil _, Apart2.nil _, Apart2.nil _⟩
theorem OpenSt.held (h : OpenSt base q W vB vF vA bl fs al) : ∀ k, Held3 q vB vF vA k → base ≤ k ∧ k < W.heap.size := fun k hk => by
  obtain ⟨vs1, g1, -⟩ := h.rB
  obtain ⟨vs2, g2, -⟩ := h.rF
  obtain ⟨vs3, g3, -⟩ := h.rA
  rcases hk with hk | hk | hk | hk
  · exact h.qlt k hk
  · exact World.ownsRow.lt g1 k hk
  · exact World.ownsRow.lt g2 k hk
  · exact World.ownsRow.lt g3 k hk
theorem OpenSt.keep (h : OpenSt base q W vB vF vA bl fs al) (hk : Kept (Held3 q vB vF vA) W W') (hs : W.heap.size ≤ W'.heap.size) : OpenSt base q W' vB vF vA bl fs al := by
  obtain ⟨vs1, g1, c1⟩ := h.rB
  obtain ⟨vs2, g2, c2⟩ := h.rF
  obtain ⟨vs3, g3, c3⟩ := h.rA
  have hq : Kept q W W' := hk.mono fun k e => .inl e
  exact ⟨⟨vs1, ownsRow_kept g1 fun k e => hk k (.inr (.inl e)), c1.keep hq fun _ e => e⟩, ⟨vs2, ownsRow_kept g2 fun k e => hk k (.inr (.inr (.inl e))), c2.keep hq fun _ e => e⟩, ⟨vs3, ownsRow_kept g3 fun k e => hk k (.inr (.inr (.inr e))), c3.keep hq fun _ e => e⟩,
    fun k e => ⟨(h.qlt k e).1, Nat.lt_of_lt_of_le (h.qlt k e).2 hs⟩, h.nB, h.nF, h.nA, h.aBF, h.aBA, h.aFA⟩
theorem OpenSt.below (h : OpenSt base q W vB vF vA bl fs al) (hb : Below W.heap.size W W') : OpenSt base q W' vB vF vA bl fs al := h.keep (Kept.of_below hb fun k hk => (h.held k hk).2) hb.size
/-- New blocks beside. -/
theorem OpenSt.more (h : OpenSt base q W vB vF vA bl fs al) (hb : Below W.heap.size W W') (hW : base ≤ W.heap.size) : OpenSt base (fun k => q k ∨ (W.heap.size ≤ k ∧ k < W'.heap.size)) W' vB vF vA bl fs al := by
  have hlt := h.held
  obtain ⟨vs1, g1, c1⟩ := h.rB
  obtain ⟨vs2, g2, c2⟩ := h.rF
  obtain ⟨vs3, g3, c3⟩ := h.rA
  have hk : Kept (Held3 q vB vF vA) W W' := Kept.of_below hb fun k hk => (hlt k hk).2
  have hq : Kept q W W' := hk.mono fun k e => .inl e
  have nn : ∀ k, Held3 q vB vF vA k → ¬ q k → ¬ (q k ∨ (W.heap.size ≤ k ∧ k < W'.heap.size)) := fun k h1 h2 h3 => by
    rcases h3 with h3 | h3
    · exact h2 h3
    · have := (hlt k h1).2; omega
  exact ⟨⟨vs1, ownsRow_kept g1 fun k e => hk k (.inr (.inl e)), c1.keep hq fun _ e => .inl e⟩, ⟨vs2, ownsRow_kept g2 fun k e => hk k (.inr (.inr (.inl e))), c2.keep hq fun _ e => .inl e⟩, ⟨vs3, ownsRow_kept g3 fun k e => hk k (.inr (.inr (.inr e))), c3.keep hq fun _ e => .inl e⟩,
    fun k e => by have := hb.size; rcases e with e | e; have := h.qlt k e; omega; omega, fun k e => nn k (.inr (.inl e)) (h.nB k e), fun k e => nn k (.inr (.inr (.inl e))) (h.nF k e), fun k e => nn k (.inr (.inr (.inr e))) (h.nA k e), h.aBF, h.aBA, h.aFA⟩
theorem onto_block {v v' : Value} {W W' : World} (hon : Onto W W' v v') {k : Nat} (hk : v'.ownBlock = some k) : v.ownBlock = some k ∨ W.heap.size ≤ k := by
  rcases hon.at_ with e | ⟨g, e, hg⟩
  · exact .inl (e ▸ hk)
  · rw [e] at hk; injection hk with hk; exact .inr (by omega)
/-- One more block. -/
theorem OpenSt.pushB (h : OpenSt base q W vB vF vA bl fs al) : ∃ vs, W.ownsRow base 22 1 vB bl.length vs ∧ ∀ (w' : World) (v' : Value) (y : List Item) (Ay : Option Addr) (cy : Nat), y.length ≤ cy → Sees2M q W Ay y →
    w'.ownsRow base 22 1 v' (bl.length + 1) (vs ++ [.slice Ay y.length cy]) → Onto W w' vB v' → OpenSt base q w' v' vF vA (bl ++ [y]) fs al := by
  have hlt := h.held
  obtain ⟨vs1, g1, c1⟩ := h.rB
  refine ⟨vs1, g1, fun w' v' y Ay cy hc hy hown hon => ?_⟩
  obtain ⟨vs2, g2, c2⟩ := h.rF
  obtain ⟨vs3, g3, c3⟩ := h.rA
  have hvs : vs1.length = bl.length := by have := g1.1; omega
  have hk : ∀ k, k < W.heap.size → vB.ownBlock ≠ some k → w'.heap[k]? = W.heap[k]? := fun k h1 h2 => hon.grown.block k h1 (fun e => h2 e.symm)
  have hq : Kept q W w' := fun k e => hk k (h.qlt k e).2 (fun e2 => h.nB k e2 e)
  have ap : ∀ {x : Value}, (∀ k, x.ownBlock = some k → k < W.heap.size) → Apart2 vB x → Apart2 v' x := fun hx ha k hk e => by
    rcases onto_block hon hk with h1 | h1
    · exact ha k h1 e
    · have := hx k e; omega
  refine ⟨⟨_, by rw [List.length_append]; exact hown, (c1.snoc hvs hc hy).keep hq fun _ e => e⟩, ⟨vs2, ownsRow_kept g2 fun k e => hk k (hlt k (.inr (.inr (.inl e)))).2 (fun e2 => h.aBF k e2 e), c2.keep hq fun _ e => e⟩, ⟨vs3, ownsRow_kept g3 fun k e => hk k (hlt k (.inr (.inr (.inr e)))).2 (fun e2 => h.aBA k e2 e), c3.keep hq fun _ e => e⟩,
    fun k e => ⟨(h.qlt k e).1, Nat.lt_of_lt_of_le (h.qlt k e).2 hon.size⟩, fun k hk e => ?_, h.nF, h.nA, ap (fun k e => (hlt k (.inr (.inr (.inl e)))).2) h.aBF, ap (fun k e => (hlt k (.inr (.inr (.inr e)))).2) h.aBA, h.aFA⟩
  rcases onto_block hon hk with h1 | h1
  · exact h.nB k h1 e
  · have := (h.qlt k e).2; omega
theorem OpenSt.pushF (h : OpenSt base q W vB vF vA bl fs al) : ∃ vs, W.ownsRow base 23 1 vF fs.length vs ∧ ∀ (w' : World) (v' : Value) (y : Item) (Ay : Option Addr) (cy : Nat), y.length ≤ cy → SeesM q W Ay (bv y) →
    w'.ownsRow base 23 1 v' (fs.length + 1) (vs ++ [.slice Ay y.length cy]) → Onto W w' vF v' → OpenSt base q w' vB v' vA bl (fs ++ [y]) al := by
  have hlt := h.held
  obtain ⟨vs2, g2, c2⟩ := h.rF
  refine ⟨vs2, g2, fun w' v' y Ay cy hc hy hown hon => ?_⟩
  obtain ⟨vs1, g1, c1⟩ := h.rB
  obtain ⟨vs3, g3, c3⟩ := h.rA
  have hvs : vs2.length = fs.length := by have := g2.1; omega
  have hk : ∀ k, k < W.heap.size → vF.ownBlock ≠ some k → w'.heap[k]? = W.heap[k]? := fun k h1 h2 => hon.grown.block k h1 (fun e => h2 e.symm)
  have hq : Kept q W w' := fun k e => hk k (h.qlt k e).2 (fun e2 => h.nF k e2 e)
  have ap : ∀ {x : Value}, (∀ k, x.ownBlock = some k → k < W.heap.size) → Apart2 vF x → Apart2 v' x := fun hx ha k hk e => by
    rcases onto_block hon hk with h1 | h1
    · exact ha k h1 e
    · have := hx k e; omega
  refine ⟨⟨vs1, ownsRow_kept g1 fun k e => hk k (hlt k (.inr (.inl e))).2 (fun e2 => h.aBF k e e2), c1.keep hq fun _ e => e⟩, ⟨_, by rw [List.length_append]; exact hown, (c2.snoc hvs hc hy).keep hq fun _ e => e⟩, ⟨vs3, ownsRow_kept g3 fun k e => hk k (hlt k (.inr (.inr (.inr e)))).2 (fun e2 => h.aFA k e2 e), c3.keep hq fun _ e => e⟩,
    fun k e => ⟨(h.qlt k e).1, Nat.lt_of_lt_of_le (h.qlt k e).2 hon.size⟩, h.nB, fun k hk e => ?_, h.nA, (ap (fun k e => (hlt k (.inr (.inl e))).2) h.aBF.symm).symm, h.aBA, ap (fun k e => (hlt k (.inr (.inr (.inr e)))).2) h.aFA⟩
  rcases onto_block hon hk with h1 | h1
  · exact h.nF k h1 e
  · have := (h.qlt k e).2; omega
theorem OpenSt.pushA (h : OpenSt base q W vB vF vA bl fs al) : ∃ vs, W.ownsRow base 23 1 vA al.length vs ∧ ∀ (w' : World) (v' : Value) (ys : List Item) (ws : List Value), Cells1 q W ws ys →
    w'.ownsRow base 23 1 v' (al.length + ys.length) (vs ++ ws) → Onto W w' vA v' → OpenSt base q w' vB vF v' bl fs (al ++ ys) := by
  have hlt := h.held
  obtain ⟨vs3, g3, c3⟩ := h.rA
  refine ⟨vs3, g3, fun w' v' ys ws hy hown hon => ?_⟩
  obtain ⟨vs1, g1, c1⟩ := h.rB
  obtain ⟨vs2, g2, c2⟩ := h.rF
  have hvs : vs3.length = al.length := by have := g3.1; omega
  have hk : ∀ k, k < W.heap.size → vA.ownBlock ≠ some k → w'.heap[k]? = W.heap[k]? := fun k h1 h2 => hon.grown.block k h1 (fun e => h2 e.symm)
  have hq : Kept q W w' := fun k e => hk k (h.qlt k e).2 (fun e2 => h.nA k e2 e)
  have ap : ∀ {x : Value}, (∀ k, x.ownBlock = some k → k < W.heap.size) → Apart2 vA x → Apart2 v' x := fun hx ha k hk e => by
    rcases onto_block hon hk with h1 | h1
    · exact ha k h1 e
    · have := hx k e; omega
  refine ⟨⟨vs1, ownsRow_kept g1 fun k e => hk k (hlt k (.inr (.inl e))).2 (fun e2 => h.aBA k e e2), c1.keep hq fun _ e => e⟩, ⟨vs2, ownsRow_kept g2 fun k e => hk k (hlt k (.inr (.inr (.inl e)))).2 (fun e2 => h.aFA k e e2), c2.keep hq fun _ e => e⟩, ⟨_, by rw [List.length_append]; exact hown, (c3.append hvs hy).keep hq fun _ e => e⟩,
    fun k e => ⟨(h.qlt k e).1, Nat.lt_of_lt_of_le (h.qlt k e).2 hon.size⟩, h.nB, h.nF, fun k hk e => ?_, h.aBF, (ap (fun k e => (hlt k (.inr (.inl e))).2) h.aBA.symm).symm, (ap (fun k e => (hlt k (.inr (.inr (.inl e)))).2) h.aFA.symm).symm⟩
  rcases onto_block hon hk with h1 | h1
  · exact h.nA k h1 e
  · have := (h.qlt k e).2; omega
end
end Go.Proofs.YtmdphaagbmipcaaDoor
