/-
  Memory by sets of blocks: what an address shows within them.
-/
import Derived.Test.YtmdphaagbmipcaaDoorItm
import Derived.Test.YtmdphaagbmipcaaDoorAppend
import Derived.Test.YtmdphaagbmipcaaDoorRange
import Derived.RangeFuncBox
namespace Go.Proofs.YtmdphaagbmipcaaDoor
open Go.RowKit

/-- The address A shows the cells xs, in a block of m. -/
structure SeesM (m : Nat → Prop) (w : World) (A : Option Addr) (xs : List Value) : Prop where
  out : xs = [] ∨ ∃ ad, A = some ad ∧ m ad.block ∧ ∀ j u, xs[j]? = some u → w.cell? (ad.add j) = some u
/-- Rows of bytes. -/
structure Sees2M (m : Nat → Prop) (w : World) (A : Option Addr) (ls : List (List UInt8)) : Prop where
  out : ∀ i (hi : i < ls.length), ∃ ad Ai ci, A = some ad ∧ m ad.block ∧ w.cell? (ad.add i) = some (.slice Ai (ls[i]).length ci) ∧ (ls[i]).length ≤ ci ∧ SeesM m w Ai (bv ls[i])
/-- Rows of rows of bytes. -/
structure Sees3M (m : Nat → Prop) (w : World) (A : Option Addr) (bl : List (List (List UInt8))) : Prop where
  out : ∀ i (hi : i < bl.length), ∃ ad Ai ci, A = some ad ∧ m ad.block ∧ w.cell? (ad.add i) = some (.slice Ai (bl[i]).length ci) ∧ (bl[i]).length ≤ ci ∧ Sees2M m w Ai bl[i]

/-- Blocks of m lie as they lay. -/
def Kept (m : Nat → Prop) (w w' : World) : Prop := ∀ k, m k → w'.heap[k]? = w.heap[k]?

section
variable {m m' : Nat → Prop} {w w' : World} {A : Option Addr}
theorem Kept.cell (h : Kept m w w') {p : Addr} (hp : m p.block) : w'.cell? p = w.cell? p := World.cell?_of_block (h _ hp)
theorem Kept.trans {w'' : World} (h : Kept m w w') (k : Kept m w' w'') : Kept m w w'' := fun j hj => (k j hj).trans (h j hj)
theorem Kept.refl (m : Nat → Prop) (w : World) : Kept m w w := fun _ _ => rfl
theorem Kept.mono (h : Kept m w w') (hm : ∀ k, m' k → m k) : Kept m' w w' := fun j hj => h j (hm j hj)
theorem Kept.of_turn {T : Nat → Prop} (h : Turn T w w') (hm : ∀ k, m k → k < w.heap.size ∧ ¬ T k) : Kept m w w' := fun j hj => h.block j (hm j hj).1 (hm j hj).2
theorem Kept.of_below {B : Nat} (h : Below B w w') (hm : ∀ k, m k → k < B) : Kept m w w' := fun j hj => h.block j (hm j hj)
theorem Kept.drewN (m : Nat → Prop) (w : World) (q : Nat) : Kept m w (w.drewN q) := fun _ _ => rfl
theorem SeesM.keep {xs : List Value} (h : SeesM m w A xs) (hk : Kept m w w') : SeesM m w' A xs := by
  rcases h.out with h | ⟨ad, e, hb, hc⟩
  · exact ⟨.inl h⟩
  · exact ⟨.inr ⟨ad, e, hb, fun j u hu => (hk.cell (by rw [add_block]; exact hb)).trans (hc j u hu)⟩⟩
theorem SeesM.mono {xs : List Value} (h : SeesM m w A xs) (hm : ∀ k, m k → m' k) : SeesM m' w A xs := by
  rcases h.out with h | ⟨ad, e, hb, hc⟩
  · exact ⟨.inl h⟩
  · exact ⟨.inr ⟨ad, e, hm _ hb, hc⟩⟩
theorem SeesM.sees {xs : List Value} (h : SeesM m w A xs) {B : Nat} (hm : ∀ k, m k → k < B) : Sees w B A xs := by
  rcases h.out with h | ⟨ad, e, hb, hc⟩
  · exact ⟨.inl h⟩
  · exact ⟨.inr ⟨ad, e, hm _ hb, hc⟩⟩
theorem Sees.toM {xs : List Value} {B : Nat} (h : Sees w B A xs) : SeesM (fun k => k < B) w A xs := by
  rcases h.out with h | ⟨ad, e, hb, hc⟩
  · exact ⟨.inl h⟩
  · exact ⟨.inr ⟨ad, e, hb, hc⟩⟩
theorem Sees2M.keep {ls : List (List UInt8)} (h : Sees2M m w A ls) (hk : Kept m w w') : Sees2M m w' A ls :=
  ⟨fun i hi => by
    obtain ⟨ad, Ai, ci, h1, h2, h3, h4, h5⟩ := h.out i hi
    exact ⟨ad, Ai, ci, h1, h2, (hk.cell (by rw [add_block]; exact h2)).trans h3, h4, h5.keep hk⟩⟩
theorem Sees2M.mono {ls : List (List UInt8)} (h : Sees2M m w A ls) (hm : ∀ k, m k → m' k) : Sees2M m' w A ls :=
  ⟨fun i hi => by
    obtain ⟨ad, Ai, ci, h1, h2, h3, h4, h5⟩ := h.out i hi
    exact ⟨ad, Ai, ci, h1, hm _ h2, h3, h4, h5.mono hm⟩⟩
theorem Sees2M.sees {ls : List (List UInt8)} (h : Sees2M m w A ls) {B : Nat} (hm : ∀ k, m k → k < B) : Sees2 w B A ls :=
  ⟨fun i hi => by
    obtain ⟨ad, Ai, ci, h1, h2, h3, h4, h5⟩ := h.out i hi
    exact ⟨ad, Ai, ci, h1, hm _ h2, h3, h4, h5.sees hm⟩⟩
theorem Sees2.toM {ls : List (List UInt8)} {B : Nat} (h : Sees2 w B A ls) : Sees2M (fun k => k < B) w A ls :=
  ⟨fun i hi => by
    obtain ⟨ad, Ai, ci, h1, h2, h3, h4, h5⟩ := h.out i hi
    exact ⟨ad, Ai, ci, h1, h2, h3, h4, h5.toM⟩⟩
theorem Sees3M.keep {bl : List (List (List UInt8))} (h : Sees3M m w A bl) (hk : Kept m w w') : Sees3M m w' A bl :=
  ⟨fun i hi => by
    obtain ⟨ad, Ai, ci, h1, h2, h3, h4, h5⟩ := h.out i hi
    exact ⟨ad, Ai, ci, h1, h2, (hk.cell (by rw [add_block]; exact h2)).trans h3, h4, h5.keep hk⟩⟩
theorem Sees3M.mono {bl : List (List (List UInt8))} (h : Sees3M m w A bl) (hm : ∀ k, m k → m' k) : Sees3M m' w A bl :=
  ⟨fun i hi => by
    obtain ⟨ad, Ai, ci, h1, h2, h3, h4, h5⟩ := h.out i hi
    exact ⟨ad, Ai, ci, h1, hm _ h2, h3, h4, h5.mono hm⟩⟩
end
/-- Block B is a variable's box: one cell that holds v. -/
structure Box1 (W : World) (B : Nat) (t : TypeId) (v : Value) : Prop where
  out : Boxed W B t v
section
variable {W W' : World} {B : Nat} {t : TypeId} {v : Value}
theorem Box1.lt (h : Box1 W B t v) : B < W.heap.size := h.out.lt
theorem Box1.cell (h : Box1 W B t v) : W.cell? ⟨B, 0, none⟩ = some v := h.out.cell
theorem Box1.frozen (h : Box1 W B t v) : W.frozen? ⟨B, 0, none⟩ = false := h.out.frozen
theorem Box1.new (W : World) (t : TypeId) (v : Value) : Box1 (W.alloc (.cells #[v] t)) W.heap.size t v := ⟨Boxed.new W t v⟩
theorem Box1.alloc (h : Box1 W B t v) (o : Obj) : Box1 (W.alloc o) B t v := ⟨h.out.alloc o⟩
theorem Box1.turn {T : Nat → Prop} (h : Box1 W B t v) (ht : Turn T W W') (hn : ¬ T B) : Box1 W' B t v := ⟨(ht.block B h.lt hn).trans h.out⟩
theorem Box1.below {b : Nat} (h : Box1 W B t v) (hb : Below b W W') (hB : B < b) : Box1 W' B t v := ⟨(hb.block B hB).trans h.out⟩
theorem Box1.set (h : Box1 W B t v) (v' : Value) : Box1 (W.setCell ⟨B, 0, none⟩ v') B t v' := ⟨h.out.set v'⟩
theorem Box1.drewN (h : Box1 W B t v) (q : Nat) : Box1 (W.drewN q) B t v := ⟨h.out⟩
end
/-- The address A shows the cells xs, in a block of m, and they lie unfrozen. -/
structure SeesU (m : Nat → Prop) (w : World) (A : Option Addr) (xs : List Value) : Prop where
  out : xs = [] ∨ ∃ ad, A = some ad ∧ m ad.block ∧ ∀ j u, xs[j]? = some u → w.cell? (ad.add j) = some u ∧ w.frozen? (ad.add j) = false
section
variable {m m' : Nat → Prop} {w w' : World} {A : Option Addr} {xs : List Value}
theorem frozen_of_block {a : Addr} (h : w'.heap[a.block]? = w.heap[a.block]?) : w'.frozen? a = w.frozen? a := by unfold World.frozen?; rw [h]
theorem SeesU.toM (h : SeesU m w A xs) : SeesM m w A xs := by
  rcases h.out with h | ⟨ad, e, hb, hc⟩
  · exact ⟨.inl h⟩
  · exact ⟨.inr ⟨ad, e, hb, fun j u hu => (hc j u hu).1⟩⟩
theorem SeesU.keep (h : SeesU m w A xs) (hk : Kept m w w') : SeesU m w' A xs := by
  rcases h.out with h | ⟨ad, e, hb, hc⟩
  · exact ⟨.inl h⟩
  · exact ⟨.inr ⟨ad, e, hb, fun j u hu => ⟨(hk.cell (by rw [add_block]; exact hb)).trans (hc j u hu).1, (frozen_of_block (hk _ (by rw [add_block]; exact hb))).trans (hc j u hu).2⟩⟩⟩
theorem SeesU.mono (h : SeesU m w A xs) (hm : ∀ k, m k → m' k) : SeesU m' w A xs := by
  rcases h.out with h | ⟨ad, e, hb, hc⟩
  · exact ⟨.inl h⟩
  · exact ⟨.inr ⟨ad, e, hm _ hb, hc⟩⟩
end
/-- A row of rows of bytes of the call's own; the row and the rows in blocks of q, the rows not in the row's own. -/
structure OwnQ (q : Nat → Prop) (w : World) (base : Nat) (v : Value) (ls : List (List UInt8)) : Prop where
  out : ∃ vs : List Value, w.ownsRow base 23 1 v ls.length vs ∧ (∀ k, v.ownBlock = some k → q k) ∧ ∀ i (hi : i < ls.length), ∃ Ai ci, vs[i]? = some (.slice Ai (ls[i]).length ci) ∧ (ls[i]).length ≤ ci ∧ SeesU (fun k => q k ∧ v.ownBlock ≠ some k) w Ai (bv ls[i])
section
variable {q : Nat → Prop} {w w' : World} {base : Nat} {v v' : Value} {ls : List (List UInt8)}
theorem OwnQ.nil (q : Nat → Prop) (w : World) (base : Nat) : OwnQ q w base (.slice none 0 0) [] := ⟨[], World.ownsRow_nil w base _ 1, fun k hk => by simp [Value.ownBlock] at hk, fun i hi => absurd hi (by simp)⟩
theorem ownsRow_kept {e : TypeId} {sz n : Nat} {xs : List Value} (h : w.ownsRow base e sz v n xs) (hk : ∀ k, v.ownBlock = some k → w'.heap[k]? = w.heap[k]?) : w'.ownsRow base e sz v n xs := by
  refine ⟨h.1, ?_⟩
  rcases h.2 with h2 | ⟨g, cap, cur, rfl, hb, hh, r⟩
  · exact .inl h2
  · exact .inr ⟨g, cap, cur, rfl, hb, (hk g rfl).trans hh, r⟩
theorem OwnQ.keep (h : OwnQ q w base v ls) (hk : Kept q w w') : OwnQ q w' base v ls := by
  obtain ⟨vs, h1, h2, h3⟩ := h.out
  refine ⟨vs, ownsRow_kept h1 (fun k e => hk k (h2 k e)), h2, fun i hi => ?_⟩
  obtain ⟨Ai, ci, g1, g2, g3⟩ := h3 i hi
  exact ⟨Ai, ci, g1, g2, g3.keep (hk.mono fun k e => e.1)⟩
theorem OwnQ.mono {q' : Nat → Prop} (h : OwnQ q w base v ls) (hq : ∀ k, q k → q' k) : OwnQ q' w base v ls := by
  obtain ⟨vs, h1, h2, h3⟩ := h.out
  refine ⟨vs, h1, fun k e => hq _ (h2 k e), fun i hi => ?_⟩
  obtain ⟨Ai, ci, g1, g2, g3⟩ := h3 i hi
  exact ⟨Ai, ci, g1, g2, g3.mono fun k e => ⟨hq _ e.1, e.2⟩⟩
theorem OwnQ.base_le {b : Nat} (h : OwnQ q w base v ls) (hb : b ≤ base) : OwnQ q w b v ls := by
  obtain ⟨vs, h1, h2, h3⟩ := h.out
  refine ⟨vs, ⟨h1.1, ?_⟩, h2, h3⟩
  rcases h1.2 with h | ⟨g, cap, cur, hv, hg, r⟩
  · exact .inl h
  · exact .inr ⟨g, cap, cur, hv, Nat.le_trans hb hg, r⟩
theorem OwnQ.open_ (h : OwnQ q w base v ls) : ∃ A c, v = .slice A ls.length c ∧ ls.length ≤ c ∧ Sees2M q w A ls := by
  obtain ⟨vs, h1, h2, h3⟩ := h.out
  rcases h1.2 with ⟨rfl, hn⟩ | ⟨g, cap, cur, rfl, hb, hh, hc, hm, _⟩
  · have : ls = [] := List.eq_nil_of_length_eq_zero hn
    subst this
    exact ⟨none, 0, rfl, by simp, ⟨fun i hi => absurd hi (by simp)⟩⟩
  · refine ⟨_, cap, rfl, hc, ⟨fun i hi => ?_⟩⟩
    obtain ⟨Ai, ci, g1, g2, g3⟩ := h3 i hi
    exact ⟨_, Ai, ci, rfl, h2 g rfl, h1.cells (g := g) rfl i _ g1, g2, (g3.mono fun k e => e.1).toM⟩
theorem OwnQ.toS (h : OwnQ q w base v ls) (hq : ∀ k, q k → base ≤ k ∧ k < w.heap.size) : OwnS w base v ls := by
  obtain ⟨vs, h1, h2, h3⟩ := h.out
  refine ⟨vs, h1, fun i hi => ?_⟩
  obtain ⟨Ai, ci, g1, g2, g3⟩ := h3 i hi
  refine ⟨Ai, ci, g1, g2, ?_⟩
  rcases g3.toM.out with e | ⟨ad, e, ⟨e1, e2⟩, e3⟩
  · exact ⟨.inl e⟩
  · exact ⟨.inr ⟨ad, e, (hq _ e1).1, (hq _ e1).2, fun e4 => e2 e4.symm, e3⟩⟩
/-- Behind an append of one row. -/
theorem OwnQ.put {q2 : Nat → Prop} {vs : List Value} (x : List UInt8) (Ax : Option Addr) (cx : Nat) (hq : ∀ k, q k → k < w.heap.size)
    (_h2 : ∀ k, v.ownBlock = some k → q k) (h3 : ∀ i (hi : i < ls.length), ∃ Ai ci, vs[i]? = some (.slice Ai (ls[i]).length ci) ∧ (ls[i]).length ≤ ci ∧ SeesU (fun k => q k ∧ v.ownBlock ≠ some k) w Ai (bv ls[i])) (hvs : vs.length = ls.length)
    (hc : x.length ≤ cx) (hx : SeesU q2 w Ax (bv x)) (hq2 : ∀ k, q2 k → k < w.heap.size ∧ v.ownBlock ≠ some k)
    (hown : w'.ownsRow base 23 1 v' (ls.length + 1) (vs ++ [.slice Ax x.length cx])) (hon : Onto w w' v v') : OwnQ (fun k => q k ∨ q2 k ∨ v'.ownBlock = some k) w' base v' (ls ++ [x]) := by
  have hk : ∀ k, k < w.heap.size → v.ownBlock ≠ some k → w'.heap[k]? = w.heap[k]? ∧ v'.ownBlock ≠ some k := fun k h1 h2 => by
    refine ⟨hon.grown.block k h1 (fun e => h2 e.symm), fun e => ?_⟩
    rcases hon.at_ with e2 | ⟨g, e2, hg⟩
    · exact h2 (e2 ▸ e)
    · rw [e2] at e; injection e with e; omega
  refine ⟨vs ++ [.slice Ax x.length cx], by rw [List.length_append]; exact hown, fun k e => .inr (.inr e), fun i hi => ?_⟩
  by_cases hlt : i < ls.length
  · obtain ⟨Ai, ci, g1, g2, g3⟩ := h3 i hlt
    rw [List.getElem_append_left hlt, List.getElem?_append_left (by omega)]
    exact ⟨Ai, ci, g1, g2, (g3.keep fun k e => (hk k (hq k e.1) e.2).1).mono fun k e => ⟨.inl e.1, (hk k (hq k e.1) e.2).2⟩⟩
  · have he : i = ls.length := by simp at hi; omega
    subst he
    rw [List.getElem_append_right (Nat.le_refl _), List.getElem?_append_right (by omega)]
    refine ⟨Ax, cx, ?_, ?_, ?_⟩
    · simp [hvs]
    · simpa using hc
    · simp only [Nat.sub_self, List.getElem_cons_zero]
      exact (hx.keep fun k e => (hk k (hq2 k e).1 (hq2 k e).2).1).mono fun k e => ⟨.inr (.inl e), (hk k (hq2 k e).1 (hq2 k e).2).2⟩
end
theorem ownB_seesM {w : World} {base n c : Nat} {A : Option Addr} {l : List UInt8} (h : OwnB w base (.slice A n c) l) : SeesM (fun k => base ≤ k ∧ k < w.heap.size) w A (bv l) := by
  rcases (SeesN.of_own h rfl none (by simp)).out with e | ⟨ad, e, h1, h2, -, h3⟩
  · exact ⟨.inl e⟩
  · exact ⟨.inr ⟨ad, e, ⟨h1, h2⟩, h3⟩⟩

theorem ownB_seesU {w : World} {base n c : Nat} {A : Option Addr} {l : List UInt8} (h : OwnB w base (.slice A n c) l) : SeesU (fun k => base ≤ k ∧ k < w.heap.size) w A (bv l) := by
  rcases h.2 with ⟨h0, h1⟩ | ⟨g, cap, cur, hv, hb, hh, -⟩
  · refine ⟨.inl ?_⟩
    rw [List.eq_nil_of_length_eq_zero h1]; rfl
  · injection hv with hv hn hc
    subst hv hn hc
    unfold OwnB at h
    exact ⟨.inr ⟨_, rfl, ⟨hb, (Array.getElem?_eq_some_iff.1 hh).1⟩, fun j u hu => ⟨World.ownsRow.cells h (g := g) rfl j u hu, by rw [Addr.add_lit]; exact World.ownsRow.frozenAt h (0 + j)⟩⟩⟩

/-- 'out = append(out, x)', out a boxed variable: what stands behind it. W: where the statement began; wp: where the append began. -/
theorem coll_done {q : Nat → Prop} {W wp wn : World} {base bx : Nat} {t : TypeId} {v v' : Value} {ls : List (List UInt8)} {vs : List Value} {y : List UInt8} {Ac : Option Addr} {cc : Nat}
    (hbox : Box1 W bx t v) (hq : ∀ k, q k → base ≤ k ∧ k < W.heap.size) (hbb : bx < base) (hbW : base ≤ W.heap.size)
    (h1 : W.ownsRow base 23 1 v ls.length vs) (h2 : ∀ k, v.ownBlock = some k → q k) (h3 : ∀ i (hi : i < ls.length), ∃ Ai ci, vs[i]? = some (.slice Ai (ls[i]).length ci) ∧ (ls[i]).length ≤ ci ∧ SeesU (fun k => q k ∧ v.ownBlock ≠ some k) W Ai (bv ls[i]))
    (hr : Below W.heap.size W wp) (hy : SeesU (fun k => W.heap.size ≤ k ∧ k < wp.heap.size) wp Ac (bv y)) (hc : y.length ≤ cc)
    (hown : wn.ownsRow base 23 1 v' (ls.length + 1) (vs ++ [.slice Ac y.length cc])) (hon : Onto wp wn v v') :
    ∃ q', (∀ k, q' k → (q k ∨ W.heap.size ≤ k) ∧ k < (wn.setCell ⟨bx, 0, none⟩ v').heap.size) ∧ OwnQ q' (wn.setCell ⟨bx, 0, none⟩ v') base v' (ls ++ [y]) ∧ Box1 (wn.setCell ⟨bx, 0, none⟩ v') bx t v' ∧ Turn (fun k => k = bx ∨ v.ownBlock = some k) W (wn.setCell ⟨bx, 0, none⟩ v') := by
  have hs1 := hr.size
  have hs2 := hon.size
  have hvs : vs.length = ls.length := by have := h1.1; omega
  have hbxv : v.ownBlock ≠ some bx := fun e => by have := (hq _ (h2 _ e)).1; omega
  have hbx' : v'.ownBlock ≠ some bx := fun e => by
    rcases hon.at_ with e2 | ⟨g, e2, hg⟩
    · exact hbxv (e2 ▸ e)
    · rw [e2] at e; injection e with e; omega
  have hQ : OwnQ (fun k => q k ∨ (W.heap.size ≤ k ∧ k < wp.heap.size) ∨ v'.ownBlock = some k) wn base v' (ls ++ [y]) :=
    OwnQ.put (w := wp) y Ac cc (fun k e => by have := (hq k e).2; omega) h2 (fun i hi => by
      obtain ⟨Ai, ci, g1, g2, g3⟩ := h3 i hi
      exact ⟨Ai, ci, g1, g2, g3.keep (Kept.of_below hr fun k e => (hq k e.1).2)⟩) hvs hc hy (fun k e => ⟨e.2, fun e2 => by have := (hq _ (h2 _ e2)).2; omega⟩) hown hon
  have hkS : Kept (fun k => q k ∨ (W.heap.size ≤ k ∧ k < wp.heap.size) ∨ v'.ownBlock = some k) wn (wn.setCell ⟨bx, 0, none⟩ v') := fun k e => Below.heap_setCell _ _ _ _ (fun e2 => by
    subst e2
    rcases e with e | e | e
    · have := (hq _ e).1; omega
    · have := e.1; omega
    · exact hbx' e)
  refine ⟨_, fun k e => ⟨?_, ?_⟩, hQ.keep hkS, ?_, ?_⟩
  · rcases e with e | e | e
    · exact .inl e
    · exact .inr e.1
    · rcases hon.at_ with e2 | ⟨g, e2, hg⟩
      · exact .inl (h2 _ (e2 ▸ e))
      · rw [e2] at e; injection e with e; exact .inr (by omega)
  · rw [World.size_setCell]
    rcases e with e | e | e
    · have := (hq k e).2; omega
    · omega
    · exact (World.ownsRow.lt hown k e).2
  · have b1 : Box1 wn bx t v := (hbox.below hr hbox.lt).turn (Turn.onto (T := fun k => v.ownBlock = some k) hon fun k e => e) hbxv
    exact b1.set v'
  · exact ((Turn.of_new hr).trans (Turn.onto hon fun k e => .inr e)).trans (Turn.setCell _ _ _ (.inl rfl))
end Go.Proofs.YtmdphaagbmipcaaDoor
