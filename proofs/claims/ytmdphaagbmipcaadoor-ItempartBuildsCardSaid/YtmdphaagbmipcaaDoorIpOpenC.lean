/-
  What Open holds in memory: its variables' boxes, the part and its index, three rows.
-/
import Derived.Test.YtmdphaagbmipcaaDoorIpOpenSt
import Derived.Test.YtmdphaagbmipcaaDoorIpPart
namespace Go.Proofs.YtmdphaagbmipcaaDoor
open Go.RowKit

/-- A block of three cells. -/
structure Box3 (W : World) (B : Nat) (t : TypeId) (v0 v1 v2 : Value) : Prop where
  out : W.heap[B]? = some (.cells #[v0, v1, v2] t (0, 0))
section
variable {W W' : World} {B : Nat} {t : TypeId} {v0 v1 v2 : Value}
theorem Box3.lt (h : Box3 W B t v0 v1 v2) : B < W.heap.size := (Array.getElem?_eq_some_iff.1 h.out).1
theorem Box3.cell0 (h : Box3 W B t v0 v1 v2) : W.cell? ⟨B, 0, none⟩ = some v0 := by simp [World.cell?, h.out]
theorem Box3.cell1 (h : Box3 W B t v0 v1 v2) : W.cell? ⟨B, 1, none⟩ = some v1 := by simp [World.cell?, h.out]
theorem Box3.cell2 (h : Box3 W B t v0 v1 v2) : W.cell? ⟨B, 2, none⟩ = some v2 := by simp [World.cell?, h.out]
theorem Box3.frozen1 (h : Box3 W B t v0 v1 v2) : W.frozen? ⟨B, 1, none⟩ = false := by simp [World.frozen?, h.out]
theorem Box3.frozen2 (h : Box3 W B t v0 v1 v2) : W.frozen? ⟨B, 2, none⟩ = false := by simp [World.frozen?, h.out]
theorem Box3.new (W : World) (t : TypeId) (v0 v1 v2 : Value) : Box3 (W.alloc (.cells #[v0, v1, v2] t)) W.heap.size t v0 v1 v2 := ⟨World.alloc_heap_new W _⟩
theorem Box3.kept (h : Box3 W B t v0 v1 v2) (hk : W'.heap[B]? = W.heap[B]?) : Box3 W' B t v0 v1 v2 := ⟨hk.trans h.out⟩
theorem Box1.kept {v : Value} (h : Box1 W B t v) (hk : W'.heap[B]? = W.heap[B]?) : Box1 W' B t v := ⟨hk.trans h.out⟩
theorem Box3.set1 (h : Box3 W B t v0 v1 v2) (v' : Value) : Box3 (W.setCell ⟨B, 1, none⟩ v') B t v0 v' v2 := by
  obtain ⟨hlt, hk⟩ := Array.getElem?_eq_some_iff.1 h.out
  refine ⟨?_⟩
  show (W.heap.modify B _)[B]? = _
  rw [Array.getElem?_eq_getElem (by rw [Array.size_modify]; exact hlt), Array.getElem_modify_self, hk]
  rfl
theorem Box3.set2 (h : Box3 W B t v0 v1 v2) (v' : Value) : Box3 (W.setCell ⟨B, 2, none⟩ v') B t v0 v1 v' := by
  obtain ⟨hlt, hk⟩ := Array.getElem?_eq_some_iff.1 h.out
  refine ⟨?_⟩
  show (W.heap.modify B _)[B]? = _
  rw [Array.getElem?_eq_getElem (by rw [Array.size_modify]; exact hlt), Array.getElem_modify_self, hk]
  rfl
end

/-- The six blocks of Open's own, from n0 on. -/
structure OpenC (n0 : Nat) (W : World) (vB vF vA : Value) (many : Nat) : Prop where
  r2 : Box1 W n0 29 (.pointer none)
  r3 : Box1 W (n0 + 1) 26 (.int .i64 0)
  x : Box1 W (n0 + 2) 58 vF
  p : Box3 W (n0 + 3) 60 (.pointer (some ⟨n0 + 2, 0, none⟩)) vB (.int .i64 many)
  t4 : Box1 W (n0 + 4) 29 (.pointer (some ⟨n0 + 3, 0, none⟩))
  t5 : Box1 W (n0 + 5) 22 vA
section
variable {n0 : Nat} {W W' : World} {vB vF vA : Value} {many : Nat}
theorem OpenC.keep (h : OpenC n0 W vB vF vA many) (hk : Kept (fun k => n0 ≤ k ∧ k < n0 + 6) W W') : OpenC n0 W' vB vF vA many :=
  ⟨h.r2.kept (hk _ ⟨by omega, by omega⟩), h.r3.kept (hk _ ⟨by omega, by omega⟩), h.x.kept (hk _ ⟨by omega, by omega⟩), h.p.kept (hk _ ⟨by omega, by omega⟩), h.t4.kept (hk _ ⟨by omega, by omega⟩), h.t5.kept (hk _ ⟨by omega, by omega⟩)⟩
theorem OpenC.lt (h : OpenC n0 W vB vF vA many) : n0 + 6 ≤ W.heap.size := by have := h.t5.lt; omega
theorem other {W : World} {p : Addr} {v : Value} {k : Nat} (h : p.block ≠ k) : (W.setCell p v).heap[k]? = W.heap[k]? := Below.heap_setCell W p v k (fun e => h e.symm)
theorem OpenC.setB (h : OpenC n0 W vB vF vA many) (v : Value) : OpenC n0 (W.setCell ⟨n0 + 3, 1, none⟩ v) v vF vA many :=
  ⟨h.r2.kept (other (by simp)), h.r3.kept (other (by simp)), h.x.kept (other (by simp)), h.p.set1 v, h.t4.kept (other (by simp)), h.t5.kept (other (by simp))⟩
theorem OpenC.setN (h : OpenC n0 W vB vF vA many) (m : Nat) : OpenC n0 (W.setCell ⟨n0 + 3, 2, none⟩ (.int .i64 m)) vB vF vA m :=
  ⟨h.r2.kept (other (by simp)), h.r3.kept (other (by simp)), h.x.kept (other (by simp)), h.p.set2 _, h.t4.kept (other (by simp)), h.t5.kept (other (by simp))⟩
theorem OpenC.setF (h : OpenC n0 W vB vF vA many) (v : Value) : OpenC n0 (W.setCell ⟨n0 + 2, 0, none⟩ v) vB v vA many :=
  ⟨h.r2.kept (other (by simp)), h.r3.kept (other (by simp)), h.x.set v, h.p.kept (other (by simp)), h.t4.kept (other (by simp)), h.t5.kept (other (by simp))⟩
theorem OpenC.setA (h : OpenC n0 W vB vF vA many) (v : Value) : OpenC n0 (W.setCell ⟨n0 + 5, 0, none⟩ v) vB vF v many :=
  ⟨h.r2.kept (other (by simp)), h.r3.kept (other (by simp)), h.x.kept (other (by simp)), h.p.kept (other (by simp)), h.t4.kept (other (by simp)), h.t5.set v⟩
end

/-- In a round that began in W: where it stands in Wc. s: what the iterator owns. -/
structure OpenR (n0 : Nat) (W Wc : World) (s q : Nat → Prop) (vB vF vA : Value) (bl : List (List Item)) (fs al : List Item) (many : Nat) : Prop where
  c : OpenC n0 Wc vB vF vA many
  o : OpenSt (n0 + 9) q Wc vB vF vA bl fs al
  t : Turn (fun k => ¬ s k ∧ n0 ≤ k ∧ k ≠ n0 + 7 ∧ k ≠ n0 + 8) W Wc
  h : ∀ k, Held3 q vB vF vA k → ¬ s k
  sl : ∀ k, s k → (n0 + 6 ≤ k ∧ k < W.heap.size)
section
variable {n0 : Nat} {W Wc W' wn : World} {s q : Nat → Prop} {vB vF vA v' : Value} {bl : List (List Item)} {fs al : List Item} {many : Nat}
theorem OpenR.size (h : OpenR n0 W Wc s q vB vF vA bl fs al many) : W.heap.size ≤ Wc.heap.size := h.t.size
theorem OpenR.below (h : OpenR n0 W Wc s q vB vF vA bl fs al many) (hb : Below Wc.heap.size Wc W') : OpenR n0 W W' s q vB vF vA bl fs al many :=
  ⟨h.c.keep (Kept.of_below hb fun k hk => by have := h.c.lt; omega), h.o.below hb, h.t.trans' (Turn.of_new (T := fun _ => False) hb) (fun _ _ e => e.elim), h.h, h.sl⟩
theorem OpenR.alloc (h : OpenR n0 W Wc s q vB vF vA bl fs al many) (o : Obj) : OpenR n0 W (Wc.alloc o) s q vB vF vA bl fs al many := h.below ((Below.refl _ _).alloc (Nat.le_refl _) _)
theorem OpenR.drew (h : OpenR n0 W Wc s q vB vF vA bl fs al many) : OpenR n0 W Wc.drew s q vB vF vA bl fs al many := h.below (below_drew (Below.refl _ _))
/-- Blocks laid in between are held too. -/
theorem OpenR.more (h : OpenR n0 W Wc s q vB vF vA bl fs al many) (hb : Below Wc.heap.size Wc W') (hW : n0 + 9 ≤ Wc.heap.size) : OpenR n0 W W' s (fun k => q k ∨ (Wc.heap.size ≤ k ∧ k < W'.heap.size)) vB vF vA bl fs al many := by
  refine ⟨h.c.keep (Kept.of_below hb fun k hk => by have := h.c.lt; omega), h.o.more hb hW, h.t.trans' (Turn.of_new (T := fun _ => False) hb) (fun _ _ e => e.elim), fun k hk e => ?_, h.sl⟩
  rcases hk with (hk | hk) | hk
  · exact h.h k (.inl hk) e
  · have := (h.sl k e).2; have := h.size; omega
  · exact h.h k (.inr hk) e
theorem OpenR.onto_c (h : OpenR n0 W Wc s q vB vF vA bl fs al many) {v : Value} (hv : ∀ k, v.ownBlock = some k → Held3 q vB vF vA k) (hon : Onto Wc wn v v') : OpenC n0 wn vB vF vA many :=
  h.c.keep fun k hk => hon.grown.block k (by have := h.c.lt; omega) (fun e => by have := (h.o.held k (hv k e.symm)).1; omega)
theorem OpenR.onto_t (h : OpenR n0 W Wc s q vB vF vA bl fs al many) {v : Value} (hv : ∀ k, v.ownBlock = some k → Held3 q vB vF vA k) (hon : Onto Wc wn v v') : Turn (fun k => ¬ s k ∧ n0 ≤ k ∧ k ≠ n0 + 7 ∧ k ≠ n0 + 8) W wn :=
  h.t.trans' (Turn.onto (T := fun k => v.ownBlock = some k) hon fun k e => e) fun j _ e => ⟨h.h j (hv j e), by have := (h.o.held j (hv j e)).1; exact ⟨by omega, by omega, by omega⟩⟩
theorem OpenR.onto_h (h : OpenR n0 W Wc s q vB vF vA bl fs al many) {v : Value} (hv : ∀ k, v.ownBlock = some k → Held3 q vB vF vA k) (hon : Onto Wc wn v v') : ∀ k, v'.ownBlock = some k → ¬ s k := fun k hk e => by
  rcases onto_block hon hk with h1 | h1
  · exact h.h k (hv k h1) e
  · have := (h.sl k e).2; have := h.size; omega
/-- A store into one of the six. -/
theorem Turn.mine {A B : World} (h : Turn (fun k => ¬ s k ∧ n0 ≤ k ∧ k ≠ n0 + 7 ∧ k ≠ n0 + 8) A B) (hs : ∀ k, s k → n0 + 6 ≤ k) (p : Addr) (v : Value) (h1 : n0 ≤ p.block) (h2 : p.block < n0 + 6) : Turn (fun k => ¬ s k ∧ n0 ≤ k ∧ k ≠ n0 + 7 ∧ k ≠ n0 + 8) A (B.setCell p v) :=
  h.trans (Turn.setCell _ _ _ ⟨fun e => by have := hs _ e; omega, h1, by omega, by omega⟩)
theorem OpenSt.mine (h : OpenSt (n0 + 9) q W vB vF vA bl fs al) (p : Addr) (v : Value) (h2 : p.block < n0 + 6) : OpenSt (n0 + 9) q (W.setCell p v) vB vF vA bl fs al :=
  h.keep (fun k hk => other (by have := (h.held k hk).1; omega)) (by rw [World.size_setCell]; exact Nat.le_refl _)
theorem OpenR.pushB (h : OpenR n0 W Wc s q vB vF vA bl fs al many) : ∃ vs, Wc.ownsRow (n0 + 9) 22 1 vB bl.length vs ∧ ∀ (wn : World) (v' : Value) (y : List Item) (Ay : Option Addr) (cy : Nat), y.length ≤ cy → Sees2M q Wc Ay y →
    wn.ownsRow (n0 + 9) 22 1 v' (bl.length + 1) (vs ++ [.slice Ay y.length cy]) → Onto Wc wn vB v' → OpenC n0 wn vB vF vA many ∧ Kept q Wc wn ∧ (∀ p u, p.block < n0 + 6 → Kept q wn (wn.setCell p u)) ∧ OpenR n0 W (wn.setCell ⟨n0 + 3, 1, none⟩ v') s q v' vF vA (bl ++ [y]) fs al many := by
  obtain ⟨vs, g1, g2⟩ := h.o.pushB
  have hv : ∀ k, vB.ownBlock = some k → Held3 q vB vF vA k := fun k e => .inr (.inl e)
  refine ⟨vs, g1, fun wn v' y Ay cy hc hy hown hon => ⟨h.onto_c hv hon, fun k e => hon.grown.block k (h.o.qlt k e).2 (fun e2 => h.o.nB k e2.symm e), fun p u hp k e => other (by have := (h.o.qlt k e).1; omega), (h.onto_c hv hon).setB v', (g2 wn v' y Ay cy hc hy hown hon).mine _ _ (by simp), (h.onto_t hv hon).mine (fun k e => (h.sl k e).1) _ _ (by simp) (by simp), ?_, h.sl⟩⟩
  rintro k (e | e | e)
  · exact h.h k (.inl e)
  · exact h.onto_h hv hon k e
  · exact h.h k (.inr (.inr e))
theorem OpenR.pushF (h : OpenR n0 W Wc s q vB vF vA bl fs al many) : ∃ vs, Wc.ownsRow (n0 + 9) 23 1 vF fs.length vs ∧ ∀ (wn : World) (v' : Value) (y : Item) (Ay : Option Addr) (cy : Nat), y.length ≤ cy → SeesM q Wc Ay (bv y) →
    wn.ownsRow (n0 + 9) 23 1 v' (fs.length + 1) (vs ++ [.slice Ay y.length cy]) → Onto Wc wn vF v' → OpenC n0 wn vB vF vA many ∧ Kept q Wc wn ∧ (∀ p u, p.block < n0 + 6 → Kept q wn (wn.setCell p u)) ∧ OpenR n0 W (wn.setCell ⟨n0 + 2, 0, none⟩ v') s q vB v' vA bl (fs ++ [y]) al many := by
  obtain ⟨vs, g1, g2⟩ := h.o.pushF
  have hv : ∀ k, vF.ownBlock = some k → Held3 q vB vF vA k := fun k e => .inr (.inr (.inl e))
  refine ⟨vs, g1, fun wn v' y Ay cy hc hy hown hon => ⟨h.onto_c hv hon, fun k e => hon.grown.block k (h.o.qlt k e).2 (fun e2 => h.o.nF k e2.symm e), fun p u hp k e => other (by have := (h.o.qlt k e).1; omega), (h.onto_c hv hon).setF v', (g2 wn v' y Ay cy hc hy hown hon).mine _ _ (by simp), (h.onto_t hv hon).mine (fun k e => (h.sl k e).1) _ _ (by simp) (by simp), ?_, h.sl⟩⟩
  rintro k (e | e | e | e)
  · exact h.h k (.inl e)
  · exact h.h k (.inr (.inl e))
  · exact h.onto_h hv hon k e
  · exact h.h k (.inr (.inr (.inr e)))
theorem OpenR.pushA (h : OpenR n0 W Wc s q vB vF vA bl fs al many) : ∃ vs, Wc.ownsRow (n0 + 9) 23 1 vA al.length vs ∧ ∀ (wn : World) (v' : Value) (ys : List Item) (ws : List Value), Cells1 q Wc ws ys →
    wn.ownsRow (n0 + 9) 23 1 v' (al.length + ys.length) (vs ++ ws) → Onto Wc wn vA v' → OpenC n0 wn vB vF vA many ∧ Kept q Wc wn ∧ (∀ p u, p.block < n0 + 6 → Kept q wn (wn.setCell p u)) ∧ OpenR n0 W (wn.setCell ⟨n0 + 5, 0, none⟩ v') s q vB vF v' bl fs (al ++ ys) many := by
  obtain ⟨vs, g1, g2⟩ := h.o.pushA
  have hv : ∀ k, vA.ownBlock = some k → Held3 q vB vF vA k := fun k e => .inr (.inr (.inr e))
  refine ⟨vs, g1, fun wn v' ys ws hy hown hon => ⟨h.onto_c hv hon, fun k e => hon.grown.block k (h.o.qlt k e).2 (fun e2 => h.o.nA k e2.symm e), fun p u hp k e => other (by have := (h.o.qlt k e).1; omega), (h.onto_c hv hon).setA v', (g2 wn v' ys ws hy hown hon).mine _ _ (by simp), (h.onto_t hv hon).mine (fun k e => (h.sl k e).1) _ _ (by simp) (by simp), ?_, h.sl⟩⟩
  rintro k (e | e | e | e)
  · exact h.h k (.inl e)
  · exact h.h k (.inr (.inl e))
  · exact h.h k (.inr (.inr (.inl e)))
  · exact h.onto_h hv hon k e
theorem OpenR.setN (h : OpenR n0 W Wc s q vB vF vA bl fs al many) (m : Nat) : OpenR n0 W (Wc.setCell ⟨n0 + 3, 2, none⟩ (.int .i64 m)) s q vB vF vA bl fs al m :=
  ⟨h.c.setN m, h.o.mine _ _ (by simp), h.t.mine (fun k e => (h.sl k e).1) _ _ (by simp) (by simp), h.h, h.sl⟩
theorem OpenR.qbelow (h : OpenR n0 W Wc s q vB vF vA bl fs al many) (hb : Below Wc.heap.size Wc W') : Kept q Wc W' := Kept.of_below hb fun k hk => (h.o.qlt k hk).2
theorem OpenR.qmine (h : OpenR n0 W Wc s q vB vF vA bl fs al many) (p : Addr) (u : Value) (hp : p.block < n0 + 6) : Kept q Wc (Wc.setCell p u) := fun k e => other (by have := (h.o.qlt k e).1; omega)
theorem row_open {w : World} {base : Nat} {e : TypeId} {v : Value} {n : Nat} {xs : List Value} (h : w.ownsRow base e 1 v n xs) : ∃ A c, v = .slice A n c ∧ n ≤ c := by
  rcases h.2 with ⟨rfl, hn⟩ | ⟨g, cap, cur, rfl, hb, hh, hc, _⟩
  · exact ⟨none, 0, by rw [hn], by omega⟩
  · exact ⟨_, cap, rfl, hc⟩
theorem OpenR.rows (h : OpenR n0 W Wc s q vB vF vA bl fs al many) : (∃ A c, vB = .slice A bl.length c ∧ bl.length ≤ c) ∧ (∃ A c, vF = .slice A fs.length c ∧ fs.length ≤ c) ∧ (∃ A c, vA = .slice A al.length c ∧ al.length ≤ c) := by
  obtain ⟨v1, g1, -⟩ := h.o.rB
  obtain ⟨v2, g2, -⟩ := h.o.rF
  obtain ⟨v3, g3, -⟩ := h.o.rA
  exact ⟨row_open g1, row_open g2, row_open g3⟩
theorem row_sees {w : World} {base n c : Nat} {e : TypeId} {A : Option Addr} {xs : List Value} (h : w.ownsRow base e 1 (.slice A n c) n xs) (i : Nat) (u : Value) (hu : xs[i]? = some u) : ∃ g, A = some ⟨g, 0, none⟩ ∧ (Value.slice A n c).ownBlock = some g ∧ w.cell? ((⟨g, 0, none⟩ : Addr).add i) = some u := by
  have hx := h.1
  have hi := (List.getElem?_eq_some_iff.1 hu).1
  rcases h.2 with ⟨e1, hn⟩ | ⟨g, cap, cur, e1, hb, hh, hc, _⟩
  · omega
  · injection e1 with e1 e2 e3
    subst e1
    exact ⟨g, rfl, rfl, h.cells (g := g) rfl i u hu⟩
theorem Cells1.sees2 {m : Nat → Prop} {w : World} {base n c : Nat} {A : Option Addr} {xs : List Value} {ls : List Item} (h : w.ownsRow base 23 1 (.slice A n c) n xs) (hc : Cells1 q w xs ls) (hq : ∀ k, q k → m k) (hm : ∀ k, (Value.slice A n c).ownBlock = some k → m k) : Sees2M m w A ls :=
  ⟨fun i hi => by
    obtain ⟨Ai, ci, g1, g2, g3⟩ := hc i hi
    obtain ⟨g, e1, e2, e3⟩ := row_sees h i _ g1
    exact ⟨_, Ai, ci, e1, hm g e2, e3, g2, g3.mono hq⟩⟩
theorem Cells2.sees3 {m : Nat → Prop} {w : World} {base n c : Nat} {A : Option Addr} {xs : List Value} {ls : List (List Item)} (h : w.ownsRow base 22 1 (.slice A n c) n xs) (hc : Cells2 q w xs ls) (hq : ∀ k, q k → m k) (hm : ∀ k, (Value.slice A n c).ownBlock = some k → m k) : Sees3M m w A ls :=
  ⟨fun i hi => by
    obtain ⟨Ai, ci, g1, g2, g3⟩ := hc i hi
    obtain ⟨g, e1, e2, e3⟩ := row_sees h i _ g1
    exact ⟨_, Ai, ci, e1, hm g e2, e3, g2, g3.mono hq⟩⟩
/-- The part that is opened. -/
theorem OpenR.part (h : OpenR n0 W Wc s q vB vF vA bl (bl.map (·.headD [])) bl.flatten bl.flatten.length) (hb : bl = blk bl.flatten) (h0 : 0 < bl.flatten.length) (h2 : bl.flatten.length ≤ 2000) (hw : okB bl.flatten = true)
    (hk : Kept (fun k => n0 + 2 ≤ k ∧ k < Wc.heap.size ∧ k ≠ n0 + 7) Wc W') (hs : Wc.heap.size ≤ W'.heap.size) : PartAt (fun k => n0 ≤ k ∧ k < W'.heap.size) W' (n0 + 3) bl.flatten := by
  have hlt := h.c.lt
  have hh := h.o.held
  obtain ⟨⟨AB, cB, rfl, hcB⟩, ⟨AF, cF, rfl, hcF⟩, -⟩ := h.rows
  obtain ⟨v1, g1, c1⟩ := h.o.rB
  obtain ⟨v2, g2, c2⟩ := h.o.rF
  have s3 := (c1.sees3 (m := fun k => n0 + 9 ≤ k ∧ k < Wc.heap.size) g1 h.o.qlt (World.ownsRow.lt g1)).keep (hk.mono fun k e => ⟨by omega, e.2, by omega⟩)
  have s2 := (c2.sees2 (m := fun k => n0 + 9 ≤ k ∧ k < Wc.heap.size) g2 h.o.qlt (World.ownsRow.lt g2)).keep (hk.mono fun k e => ⟨by omega, e.2, by omega⟩)
  have hp := h.c.p.kept (hk (n0 + 3) ⟨by omega, by omega, by omega⟩)
  have hx := h.c.x.kept (hk (n0 + 2) ⟨by omega, by omega, by omega⟩)
  rw [List.length_map] at hcF
  have hx' := hx.cell
  have hp1 := hp.cell1
  rw [List.length_map] at hx'
  obtain ⟨ls, hls⟩ : ∃ ls, bl.flatten = ls := ⟨_, rfl⟩
  rw [hls] at h0 h2 hw hp hb ⊢
  subst hb
  exact ⟨⟨n0 + 2, AB, AF, cB, cF, ⟨by omega, by omega⟩, ⟨by omega, by omega⟩, hp.cell0, hp1, hp.cell2, hx', hcB, hcF, s3.mono fun k e => ⟨by omega, by omega⟩, s2.mono fun k e => ⟨by omega, by omega⟩⟩, h0, h2, hw⟩
theorem kept_end (A : World) (n0 : Nat) (a b : Value) (o : Obj) : Turn (fun k => k = n0 ∨ k = n0 + 1 ∨ k = n0 + 7) A (((A.setCell ⟨n0, 0, none⟩ a).setCell ⟨n0 + 1, 0, none⟩ b).putObj (n0 + 7) o) :=
  ((Turn.setCell A _ _ (.inl rfl)).trans (Turn.setCell _ _ _ (.inr (.inl rfl)))).trans (Turn.putObj _ _ _ (.inr (.inr rfl)))
/-- The iterator steps. -/
theorem OpenR.turn_s (h : OpenR n0 W W s q vB vF vA bl fs al many) (ht : Turn s W W') : OpenR n0 W' W' (grown s W W') q vB vF vA bl fs al many := by
  have hs := ht.size
  have hc := h.c.lt
  refine ⟨h.c.keep (Kept.of_turn ht fun k hk => ⟨by omega, fun e => by have := (h.sl k e).1; omega⟩), h.o.keep (Kept.of_turn ht fun k hk => ⟨(h.o.held k hk).2, h.h k hk⟩) hs, Turn.refl _ _, fun k hk e => ?_, fun k e => ?_⟩
  · rcases e with e | e
    · exact h.h k hk e
    · have := (h.o.held k hk).2; omega
  · rcases e with e | e
    · have := h.sl k e; omega
    · omega
/-- The loop's own two blocks turn. -/
theorem OpenR.turn_d (h : OpenR n0 W W s q vB vF vA bl fs al many) (ht : Turn (fun k => k = n0 + 7 ∨ k = n0 + 8) W W') : OpenR n0 W' W' s q vB vF vA bl fs al many := by
  have hs := ht.size
  have hc := h.c.lt
  exact ⟨h.c.keep (Kept.of_turn ht fun k hk => ⟨by omega, fun e => by omega⟩), h.o.keep (Kept.of_turn ht fun k hk => ⟨(h.o.held k hk).2, by have := (h.o.held k hk).1; omega⟩) hs, Turn.refl _ _, h.h, fun k e => by have := h.sl k e; omega⟩
/-- A round is over. -/
theorem OpenR.over (h : OpenR n0 W Wc s q vB vF vA bl fs al many) : OpenR n0 Wc Wc s q vB vF vA bl fs al many :=
  ⟨h.c, h.o, Turn.refl _ _, h.h, fun k e => by have := h.sl k e; have := h.size; omega⟩
theorem OpenR.start {Wa w1 : World} (hr2 : Box1 Wa n0 29 (.pointer none)) (hr3 : Box1 Wa (n0 + 1) 26 (.int .i64 0)) (hx : Box1 Wa (n0 + 2) 58 (.slice none 0 0))
    (hp : Box3 Wa (n0 + 3) 60 (.pointer (some ⟨n0 + 2, 0, none⟩)) (.slice none 0 0) (.int .i64 0)) (h4 : Box1 Wa (n0 + 4) 29 (.pointer (some ⟨n0 + 3, 0, none⟩))) (h5 : Box1 Wa (n0 + 5) 22 (.slice none 0 0))
    (hz : Wa.heap.size = n0 + 6) (o : Obj) (hw1 : w1 = Wa.alloc o) : OpenR n0 w1 w1 (fun k => k = n0 + 6) (fun _ => False) (.slice none 0 0) (.slice none 0 0) (.slice none 0 0) [] [] [] 0 := by
  have hc : OpenC n0 Wa (.slice none 0 0) (.slice none 0 0) (.slice none 0 0) 0 := ⟨hr2, hr3, hx, hp, h4, h5⟩
  have hs : w1.heap.size = n0 + 7 := by rw [hw1, World.size_alloc, hz]
  refine ⟨?_, OpenSt.nil _ _, Turn.refl _ _, fun k hk => ?_, fun k e => by omega⟩
  · rw [hw1]; exact hc.keep (Kept.of_below ((Below.refl _ _).alloc (Nat.le_refl _) _) fun k hk => by omega)
  · rcases hk with hk | hk | hk | hk
    · exact hk.elim
    · simp [Value.ownBlock] at hk
    · simp [Value.ownBlock] at hk
    · simp [Value.ownBlock] at hk
end

/-- A row of items that was laid in between. -/
structure RowIn (q : Nat → Prop) (W : World) (g : Nat) (u0 : Value) (vt : List Value) (l : List Item) : Prop where
  qg : q g
  sees : SeesM q W (some ⟨g, 0, none⟩) (u0 :: vt)
  cells : Cells1 q W (u0 :: vt) l
  len : (u0 :: vt).length = l.length
  one : ∀ u ∈ u0 :: vt, u.oneCell' = true
section
variable {q q' : Nat → Prop} {W W' : World} {g : Nat} {u0 : Value} {vt : List Value} {l : List Item}
theorem RowIn.keep (h : RowIn q W g u0 vt l) (hk : Kept q W W') : RowIn q W' g u0 vt l := ⟨h.qg, h.sees.keep hk, h.cells.keep hk fun _ e => e, h.len, h.one⟩
theorem RowIn.mono (h : RowIn q W g u0 vt l) (hq : ∀ k, q k → q' k) : RowIn q' W g u0 vt l := ⟨hq _ h.qg, h.sees.mono hq, h.cells.keep (Kept.refl _ _) hq, h.len, h.one⟩
theorem RowIn.first (h : RowIn q W g u0 vt l) : W.cell? ⟨g, 0, none⟩ = some u0 := by
  rcases h.sees.out with e | ⟨ad, e, -, hc⟩
  · cases e
  · injection e with e
    subst e
    have := hc 0 u0 rfl
    rwa [Addr.add_lit] at this
theorem RowIn.sees2 (h : RowIn q W g u0 vt l) : Sees2M q W (some ⟨g, 0, none⟩) l := by
  rcases h.sees.out with e | ⟨ad, e, hb, hc⟩
  · cases e
  · injection e with e
    subst e
    exact ⟨fun i hi => by
      obtain ⟨Ai, ci, g1, g2, g3⟩ := h.cells i hi
      exact ⟨_, Ai, ci, rfl, hb, hc i _ g1, g2, g3⟩⟩
theorem RowIn.x {A0 : Option Addr} {n0 c0 : Nat} {x : Item} {t : List Item} (h : RowIn q W g (.slice A0 n0 c0) vt (x :: t)) : x.length = n0 ∧ x.length ≤ c0 ∧ SeesM q W A0 (bv x) := by
  obtain ⟨Ai, ci, g1, g2, g3⟩ := h.cells 0 (by simp)
  simp only [List.getElem?_cons_zero, Option.some.injEq, Value.slice.injEq, List.getElem_cons_zero] at g1 g2 g3
  obtain ⟨rfl, e, rfl⟩ := g1
  exact ⟨e.symm, g2, g3⟩
theorem RowIn.of {base : Nat} {v : Value} {x : Item} {t : List Item} (h : OwnS W base v (x :: t)) : ∃ g c A0 c0 vt, v = .slice (some ⟨g, 0, none⟩) (x :: t).length c ∧ (x :: t).length ≤ c ∧ x.length ≤ c0 ∧ SeesM (fun k => base ≤ k ∧ k < W.heap.size) W A0 (bv x) ∧ RowIn (fun k => base ≤ k ∧ k < W.heap.size) W g (.slice A0 x.length c0) vt (x :: t) := by
  obtain ⟨vs, h1, h2⟩ := h.out
  have hn := h1.1
  have hs : ∀ i (hi : i < (x :: t).length), ∃ Ai ci, vs[i]? = some (.slice Ai ((x :: t)[i]).length ci) ∧ ((x :: t)[i]).length ≤ ci ∧ SeesM (fun k => base ≤ k ∧ k < W.heap.size) W Ai (bv (x :: t)[i]) := fun i hi => by
    obtain ⟨Ai, ci, g1, g2, g3⟩ := h2 i hi
    refine ⟨Ai, ci, g1, g2, ?_⟩
    rcases g3.out with e | ⟨ad, e, e1, e2, -, e3⟩
    · exact ⟨.inl e⟩
    · exact ⟨.inr ⟨ad, e, ⟨e1, e2⟩, e3⟩⟩
  obtain ⟨A0, c0, k1, k2, k3⟩ := hs 0 (by simp)
  rcases h1.2 with ⟨rfl, h0⟩ | ⟨g, cap, cur, rfl, hb, hh, hc, _⟩
  · simp at h0
  · cases vs with
    | nil => simp at k1
    | cons u0 vt =>
      simp only [List.getElem?_cons_zero, Option.some.injEq, List.getElem_cons_zero] at k1 k2 k3
      subst k1
      refine ⟨g, cap, A0, c0, vt, rfl, hc, k2, k3, ⟨hb, (Array.getElem?_eq_some_iff.1 hh).1⟩, ⟨.inr ⟨_, rfl, ⟨hb, (Array.getElem?_eq_some_iff.1 hh).1⟩, fun j u hu => h1.cells (g := g) rfl j u hu⟩⟩, hs, by simpa using hn, fun u hu => ?_⟩
      obtain ⟨i, hi, e⟩ := List.getElem_of_mem hu
      have hi2 : i < (x :: t).length := by simp only [List.length_cons, Nat.mul_one] at hn hi ⊢; omega
      obtain ⟨Ai, ci, g1, -, -⟩ := hs i hi2
      have : u = .slice Ai ((x :: t)[i]).length ci := by rw [List.getElem?_eq_getElem hi, e] at g1; exact Option.some.inj g1
      rw [this]; rfl
end
theorem Tryd.sinfo2 : (Tryd.prog.info? 22).map (fun i => (i.zero, i.size, i.bytes)) = some (some (.slice none 0 0), 1, 24) := by kernel_rfl
end Go.Proofs.YtmdphaagbmipcaaDoor
