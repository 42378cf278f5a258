/-
  Words for memory that the walks of this claim use: what an address shows, what a step leaves. No program in sight.
-/
import Derived.Test.YteidkmiladkoiaaDoorRows
import Derived.WalkKit
import Derived.WalkSpells
import Derived.WalkLawsBesides
import Derived.Maps.AppendAt
import Derived.Deep.AppendLies
import Derived.Deep.Draws
import Derived.Lib.Hide
import Derived.Lib.LazyBuf
import Derived.BigQuiet
import Derived.Deep.QuietTactic
import Derived.Deep.LoopGhost
import Derived.Deep.DeepCutAuto
import Derived.Deep.DeepFit
import Derived.Deep.RegionHeld3
import Derived.Deep.Light
namespace Go.Proofs.YteidkmiladkoiaaDoor
open Go.RowKit

/-- The address A shows the cells xs in the world w, below block B. -/
structure Sees (w : World) (B : Nat) (A : Option Addr) (xs : List Value) : Prop where
  out : xs = [] ∨ ∃ ad, A = some ad ∧ ad.block < B ∧ ∀ j u, xs[j]? = some u → w.cell? (ad.add j) = some u

theorem add_block (a : Addr) (n : Nat) : (a.add n).block = a.block := by unfold Addr.add; split <;> rfl
theorem add_add' (a : Addr) (i j : Nat) : (a.add i).add j = a.add (i + j) := by
  unfold Addr.add
  by_cases hi : i = 0 <;> by_cases hj : j = 0 <;> simp [hi, hj, Nat.add_assoc]

section
variable {w w' : World} {B B' : Nat} {A : Option Addr} {xs ys : List Value}
theorem Sees.nil (w : World) (B : Nat) (A : Option Addr) : Sees w B A [] := ⟨.inl rfl⟩
theorem Sees.at_ {k : Nat} (h : Sees w B A xs) (hk : k < xs.length) : ∃ ad, A = some ad ∧ ad.block < B ∧ w.cell? (ad.add k) = some xs[k] := by
  rcases h.out with h | ⟨ad, e, hb, hc⟩
  · subst h; simp at hk
  · exact ⟨ad, e, hb, hc k _ (List.getElem?_eq_getElem hk)⟩
theorem Sees.keep (h : Sees w B A xs) (hk : ∀ p : Addr, p.block < B → w'.cell? p = w.cell? p) : Sees w' B A xs := by
  rcases h.out with h | ⟨ad, e, hb, hc⟩
  · exact ⟨.inl h⟩
  · exact ⟨.inr ⟨ad, e, hb, fun j u hu => (hk _ (by rw [add_block]; exact hb)).trans (hc j u hu)⟩⟩
theorem Sees.more (h : Sees w B A xs) (hB : B ≤ B') : Sees w B' A xs := by
  rcases h.out with h | ⟨ad, e, hb, hc⟩
  · exact ⟨.inl h⟩
  · exact ⟨.inr ⟨ad, e, by omega, hc⟩⟩
theorem Sees.below (h : Sees w B A xs) (hb : Below B w w') : Sees w' B A xs := h.keep fun _ hp => hb.cell hp
theorem Sees.drew (h : Sees w B A xs) : Sees w.drew B A xs := ⟨h.out⟩
theorem Sees.drewN (h : Sees w B A xs) (k : Nat) : Sees (w.drewN k) B A xs := ⟨h.out⟩
theorem Sees.alloc (h : Sees w B A xs) (hB : B ≤ w.heap.size) (o : Obj) : Sees (w.alloc o) B A xs := h.keep fun p hp => World.cell?_alloc_lt w o p (by omega)
theorem Sees.grown (h : Sees w B A xs) {row : Option Nat} (hg : w.grownBy w' row) (hB : B ≤ w.heap.size) (hr : ∀ g, row = some g → B ≤ g) : Sees w' B A xs :=
  h.keep fun p hp => World.cell?_of_block (hg.block p.block (by omega) (fun e => by have := hr _ e.symm; omega))
theorem Sees.setCell (h : Sees w B A xs) {p : Addr} (hB : B ≤ p.block) (u : Value) : Sees (w.setCell p u) B A xs :=
  h.keep fun q hq => World.cell?_setCell_other w p q u (fun e => by subst e; omega)
/-- A cut 's[k:]' at elements of one cell. -/
theorem Sees.cut (h : Sees w B A xs) {k cap : Nat} (hc : xs.length ≤ cap) : Sees w B (if cap = k then A else A.map (·.add (k * 1))) (xs.drop k) := by
  by_cases hk : k < xs.length
  · rcases h.out with h | ⟨ad, rfl, hb, hcell⟩
    · subst h; simp at hk
    · rw [if_neg (by omega), Nat.mul_one]
      refine ⟨.inr ⟨ad.add k, rfl, by rw [add_block]; exact hb, fun j u hu => ?_⟩⟩
      rw [add_add']
      exact hcell _ u (by rw [← hu, List.getElem?_drop])
  · exact ⟨.inl (List.drop_eq_nil_of_le (by omega))⟩
theorem Sees.cut' (h : Sees w B A xs) (k : Nat) : Sees w B (A.map (fun x => x.add k)) (xs.drop k) := by
  by_cases hk : k < xs.length
  · have := h.cut (k := k) (cap := xs.length) (Nat.le_refl _)
    rw [if_neg (by omega), Nat.mul_one] at this
    exact this
  · exact ⟨.inl (List.drop_eq_nil_of_le (by omega))⟩
theorem Sees.cut0 (w : World) (B : Nat) (A : Option Addr) {k : Nat} (hk : xs.length ≤ k) : Sees w B A (xs.drop k) := ⟨.inl (List.drop_eq_nil_of_le hk)⟩
theorem Sees.take (h : Sees w B A xs) (k : Nat) : Sees w B A (xs.take k) := by
  rcases h.out with h | ⟨ad, e, hb, hc⟩
  · subst h; exact ⟨.inl (by simp)⟩
  · refine ⟨.inr ⟨ad, e, hb, fun j u hu => hc j u ?_⟩⟩
    rw [List.getElem?_take] at hu
    split at hu
    · exact hu
    · cases hu
theorem Sees.of_own {base : Nat} {e : TypeId} {size n c : Nat} (h : w.ownsRow base e size (.slice A n c) n xs) : Sees w w.heap.size A xs := by
  rcases h.2 with ⟨h0, h1⟩ | ⟨g, cap, cur, hv, hb, hh, _⟩
  · refine ⟨.inl ?_⟩
    have := h.1
    rw [h1, Nat.zero_mul] at this
    exact List.eq_nil_of_length_eq_zero this
  · injection hv with hv
    exact ⟨.inr ⟨_, hv, (Array.getElem?_eq_some_iff.1 hh).1, h.cells (g := g) (by simp [Value.ownBlock, hv])⟩⟩
end

/-- What a step that writes into the row of v and into new blocks leaves: v' is that row, or a new one. -/
structure Onto (w w' : World) (v v' : Value) : Prop where
  grown : w.grownBy w' v.ownBlock
  at_ : v'.ownBlock = v.ownBlock ∨ ∃ g, v'.ownBlock = some g ∧ w.heap.size ≤ g

section
variable {w w' w'' : World} {v v' v'' : Value}
theorem Onto.refl (w : World) (v : Value) : Onto w w v v := ⟨⟨rfl, rfl, rfl, Nat.le_refl _, fun _ _ _ => rfl⟩, .inl rfl⟩
theorem Onto.trans (h : Onto w w' v v') (k : Onto w' w'' v' v'') : Onto w w'' v v'' := by
  have hs := h.grown.size
  refine ⟨⟨k.grown.os.trans h.grown.os, k.grown.tape.trans h.grown.tape, k.grown.output.trans h.grown.output, Nat.le_trans hs k.grown.size, fun i hi hne => ?_⟩, ?_⟩
  · refine (k.grown.block i (by omega) (fun e => ?_)).trans (h.grown.block i hi hne)
    rcases h.at_ with h1 | ⟨g, h1, h2⟩
    · exact hne (e.trans h1)
    · rw [h1] at e; injection e; omega
  · rcases k.at_ with h1 | ⟨g, h1, h2⟩
    · rcases h.at_ with h3 | ⟨g, h3, h4⟩
      · exact .inl (h1.trans h3)
      · exact .inr ⟨g, h1.trans h3, h4⟩
    · exact .inr ⟨g, h1, by omega⟩
theorem Onto.below (h : Onto w w' v v') {B : Nat} (hB : B ≤ w.heap.size) (hv : ∀ k, v.ownBlock = some k → B ≤ k) : Below B w w' :=
  (Below.refl _ _).grown h.grown hB hv
theorem Onto.below_nil (h : Onto w w' (.slice none 0 0) v') : Below w.heap.size w w' := h.below (Nat.le_refl _) (by simp [Value.ownBlock])
theorem Onto.size (h : Onto w w' v v') : w.heap.size ≤ w'.heap.size := h.grown.size
theorem Onto.of_below (hb : Below w.heap.size w w') (v : Value) : Onto w w' v v :=
  ⟨⟨hb.os, hb.tape, hb.output, hb.size, fun k hk _ => hb.block k hk⟩, .inl rfl⟩
theorem Onto.new (w : World) (o : Obj) (v : Value) (n m : Nat) : Onto w (w.alloc o) v (.slice (some ⟨w.heap.size, 0, none⟩) n m) := ⟨World.grownBy_alloc w o _, .inr ⟨_, rfl, Nat.le_refl _⟩⟩
theorem Onto.of_alloc (w : World) (o : Obj) (v : Value) : Onto w (w.alloc o) v v := ⟨World.grownBy_alloc w o _, .inl rfl⟩
end

/-- A call that answers true and leaves what was there. -/
def IsTrue (w : World) (e : Ending) (w' : World) : Prop := e = .returned (.bool true) ∧ Below w.heap.size w w'
/-- A call that gives v and leaves what was there. -/
def Gives (w : World) (v : Value) (e : Ending) (w' : World) : Prop := e = .returned v ∧ Below w.heap.size w w'
theorem below_d {B : Nat} {a w : World} (h : Below B a w) (q : Nat) : Below B a (w.drewN q) := ⟨h.os, h.tape, h.output, h.size, h.block⟩
theorem below_undrew {B : Nat} {w w' : World} (h : Below B w.drew w') : Below B w w' := ⟨h.os, h.tape, h.output, h.size, h.block⟩
theorem below_drew {B : Nat} {a w : World} (h : Below B a w) : Below B a w.drew := ⟨h.os, h.tape, h.output, h.size, h.block⟩
theorem ret_bool {b b' : Bool} (h : b = b') : Ending.returned (.bool b) = .returned (.bool b') := by rw [h]
theorem ret_true {b : Bool} (h : b = true) : Ending.returned (.bool b) = .returned (.bool true) := by rw [h]
end Go.Proofs.YteidkmiladkoiaaDoor
