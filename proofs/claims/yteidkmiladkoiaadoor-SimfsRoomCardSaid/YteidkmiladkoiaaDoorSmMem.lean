/-
  Memory by sets of blocks: what an address shows within them.
-/
import Derived.Test.YteidkmiladkoiaaDoorStr
import Derived.Test.YteidkmiladkoiaaDoorAppend
import Derived.Test.YteidkmiladkoiaaDoorRange
import Derived.RangeFuncBox
namespace Go.Proofs.YteidkmiladkoiaaDoor
open Go.RowKit

/-- The address A shows the cells xs, in a block of m. -/
structure SeesM (m : Nat → Prop) (w : World) (A : Option Addr) (xs : List Value) : Prop where
  out : xs = [] ∨ ∃ ad, A = some ad ∧ m ad.block ∧ ∀ j u, xs[j]? = some u → w.cell? (ad.add j) = some u
/-- Blocks of m lie as they lay. -/
def Kept (m : Nat → Prop) (w w' : World) : Prop := ∀ k, m k → w'.heap[k]? = w.heap[k]?

section
variable {m m' : Nat → Prop} {w w' : World} {A : Option Addr}
theorem Kept.cell (h : Kept m w w') {p : Addr} (hp : m p.block) : w'.cell? p = w.cell? p := World.cell?_of_block (h _ hp)
theorem Kept.trans {w'' : World} (h : Kept m w w') (k : Kept m w' w'') : Kept m w w'' := fun j hj => (k j hj).trans (h j hj)
theorem Kept.refl (m : Nat → Prop) (w : World) : Kept m w w := fun _ _ => rfl
theorem Kept.mono (h : Kept m w w') (hm : ∀ k, m' k → m k) : Kept m' w w' := fun j hj => h j (hm j hj)
theorem Kept.of_turn {T : Nat → Prop} (h : Turn T w w') (hm : ∀ k, m k → k < w.heap.size ∧ ¬ T k) : Kept m w w' := fun j hj => h.block j (hm j hj).1 (hm j hj).2
theorem Kept.of_below {B : Nat} (h : Below B w w') (hm : ∀ k, m k → k < B) : Kept m w w' := fun j hj => h.block j (hm j hj)
theorem Kept.drewN (m : Nat → Prop) (w : World) (q : Nat) : Kept m w (w.drewN q) := fun _ _ => rfl
theorem SeesM.keep {xs : List Value} (h : SeesM m w A xs) (hk : Kept m w w') : SeesM m w' A xs := by
  rcases h.out with h | ⟨ad, e, hb, hc⟩
  · exact ⟨.inl h⟩
  · exact ⟨.inr ⟨ad, e, hb, fun j u hu => (hk.cell (by rw [add_block]; exact hb)).trans (hc j u hu)⟩⟩
theorem SeesM.mono {xs : List Value} (h : SeesM m w A xs) (hm : ∀ k, m k → m' k) : SeesM m' w A xs := by
  rcases h.out with h | ⟨ad, e, hb, hc⟩
  · exact ⟨.inl h⟩
  · exact ⟨.inr ⟨ad, e, hm _ hb, hc⟩⟩
theorem SeesM.sees {xs : List Value} (h : SeesM m w A xs) {B : Nat} (hm : ∀ k, m k → k < B) : Sees w B A xs := by
  rcases h.out with h | ⟨ad, e, hb, hc⟩
  · exact ⟨.inl h⟩
  · exact ⟨.inr ⟨ad, e, hm _ hb, hc⟩⟩
theorem Sees.toM {xs : List Value} {B : Nat} (h : Sees w B A xs) : SeesM (fun k => k < B) w A xs := by
  rcases h.out with h | ⟨ad, e, hb, hc⟩
  · exact ⟨.inl h⟩
  · exact ⟨.inr ⟨ad, e, hb, hc⟩⟩
end
/-- Block B is a variable's box: one cell that holds v. -/
structure Box1 (W : World) (B : Nat) (t : TypeId) (v : Value) : Prop where
  out : Boxed W B t v
section
variable {W W' : World} {B : Nat} {t : TypeId} {v : Value}
theorem Box1.lt (h : Box1 W B t v) : B < W.heap.size := h.out.lt
theorem Box1.cell (h : Box1 W B t v) : W.cell? ⟨B, 0, none⟩ = some v := h.out.cell
theorem Box1.frozen (h : Box1 W B t v) : W.frozen? ⟨B, 0, none⟩ = false := h.out.frozen
theorem Box1.new (W : World) (t : TypeId) (v : Value) : Box1 (W.alloc (.cells #[v] t)) W.heap.size t v := ⟨Boxed.new W t v⟩
theorem Box1.alloc (h : Box1 W B t v) (o : Obj) : Box1 (W.alloc o) B t v := ⟨h.out.alloc o⟩
theorem Box1.turn {T : Nat → Prop} (h : Box1 W B t v) (ht : Turn T W W') (hn : ¬ T B) : Box1 W' B t v := ⟨(ht.block B h.lt hn).trans h.out⟩
theorem Box1.below {b : Nat} (h : Box1 W B t v) (hb : Below b W W') (hB : B < b) : Box1 W' B t v := ⟨(hb.block B hB).trans h.out⟩
theorem Box1.set (h : Box1 W B t v) (v' : Value) : Box1 (W.setCell ⟨B, 0, none⟩ v') B t v' := ⟨h.out.set v'⟩
theorem Box1.drewN (h : Box1 W B t v) (q : Nat) : Box1 (W.drewN q) B t v := ⟨h.out⟩
end
/-- The address A shows the cells xs, in a block of m, and they lie unfrozen. -/
structure SeesU (m : Nat → Prop) (w : World) (A : Option Addr) (xs : List Value) : Prop where
  out : xs = [] ∨ ∃ ad, A = some ad ∧ m ad.block ∧ ∀ j u, xs[j]? = some u → w.cell? (ad.add j) = some u ∧ w.frozen? (ad.add j) = false
section
variable {m m' : Nat → Prop} {w w' : World} {A : Option Addr} {xs : List Value}
theorem frozen_of_block {a : Addr} (h : w'.heap[a.block]? = w.heap[a.block]?) : w'.frozen? a = w.frozen? a := by unfold World.frozen?; rw [h]
theorem SeesU.toM (h : SeesU m w A xs) : SeesM m w A xs := by
  rcases h.out with h | ⟨ad, e, hb, hc⟩
  · exact ⟨.inl h⟩
  · exact ⟨.inr ⟨ad, e, hb, fun j u hu => (hc j u hu).1⟩⟩
theorem SeesU.keep (h : SeesU m w A xs) (hk : Kept m w w') : SeesU m w' A xs := by
  rcases h.out with h | ⟨ad, e, hb, hc⟩
  · exact ⟨.inl h⟩
  · exact ⟨.inr ⟨ad, e, hb, fun j u hu => ⟨(hk.cell (by rw [add_block]; exact hb)).trans (hc j u hu).1, (frozen_of_block (hk _ (by rw [add_block]; exact hb))).trans (hc j u hu).2⟩⟩⟩
theorem SeesU.mono (h : SeesU m w A xs) (hm : ∀ k, m k → m' k) : SeesU m' w A xs := by
  rcases h.out with h | ⟨ad, e, hb, hc⟩
  · exact ⟨.inl h⟩
  · exact ⟨.inr ⟨ad, e, hm _ hb, hc⟩⟩
end
section
variable {w w' : World} {base : Nat} {v : Value}
theorem ownsRow_kept {e : TypeId} {sz n : Nat} {xs : List Value} (h : w.ownsRow base e sz v n xs) (hk : ∀ k, v.ownBlock = some k → w'.heap[k]? = w.heap[k]?) : w'.ownsRow base e sz v n xs := by
  refine ⟨h.1, ?_⟩
  rcases h.2 with h2 | ⟨g, cap, cur, rfl, hb, hh, r⟩
  · exact .inl h2
  · exact .inr ⟨g, cap, cur, rfl, hb, (hk g rfl).trans hh, r⟩
end
theorem ownB_seesU {w : World} {base n c : Nat} {A : Option Addr} {l : List UInt8} (h : OwnB w base (.slice A n c) l) : SeesU (fun k => base ≤ k ∧ k < w.heap.size) w A (bv l) := by
  rcases h.2 with ⟨h0, h1⟩ | ⟨g, cap, cur, hv, hb, hh, -⟩
  · refine ⟨.inl ?_⟩
    rw [List.eq_nil_of_length_eq_zero h1]; rfl
  · injection hv with hv hn hc
    subst hv hn hc
    unfold OwnB at h
    exact ⟨.inr ⟨_, rfl, ⟨hb, (Array.getElem?_eq_some_iff.1 hh).1⟩, fun j u hu => ⟨World.ownsRow.cells h (g := g) rfl j u hu, by rw [Addr.add_lit]; exact World.ownsRow.frozenAt h (0 + j)⟩⟩⟩

end Go.Proofs.YteidkmiladkoiaaDoor
