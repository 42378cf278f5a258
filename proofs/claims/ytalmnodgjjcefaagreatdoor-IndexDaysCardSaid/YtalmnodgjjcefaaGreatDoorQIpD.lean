/- Several texts in one: IpOpenPlain IpOpenSt IpOpenC IpOpen. -/
import Derived.Test.YtalmnodgjjcefaaGreatDoorQIpC
import Derived.Test.YtalmnodgjjcefaaGreatDoorQIpA
import Derived.Test.YtalmnodgjjcefaaGreatDoorQIpB
namespace Go.Proofs.YtalmnodgjjcefaaGreatDoor
open Go.RowKit
def unpackAll : List (Item × Nat) → Option (List (List Item))
 | [] => some []
 | (bd, e) :: t => if e ≠ 0 then none else if (unpackR bd).2 ≠ 0 then none else (unpackAll t).map ((unpackR bd).1 :: ·)
theorem buildE_ok {ls : List Item} (h : buildE ls = 0) : ls.length ≤ 2000 ∧ 0 < ls.length ∧ okB ls = true ∧ (tabB (blk ls)).length ≤ 65535 := by
 unfold buildE at h
 split at h
 ·simp at h
 ·rename_i h1
  split at h
  ·simp at h
  ·rename_i h2
   split at h
   ·simp at h
   ·rename_i h3
    refine ⟨by omega, by have := fun e => h2 (.inl e); omega, ?_, by omega⟩
    cases ho : okB ls with
    | true => rfl
    | false => exact absurd (.inr ho) h2
end Go.Proofs.YtalmnodgjjcefaaGreatDoor
namespace Go.Proofs.YtalmnodgjjcefaaGreatDoor
open Go.RowKit
def Held3 (q : Nat → Prop) (vB vF vA : Value) (k : Nat) : Prop := q k ∨ vB.ownBlock = some k ∨ vF.ownBlock = some k ∨ vA.ownBlock = some k
def Cells1 (q : Nat → Prop) (W : World) (vs : List Value) (fs : List Item) : Prop := ∀ i (hi : i < fs.length), ∃ Ai ci, vs[i]? = some (.slice Ai (fs[i]).length ci) ∧ (fs[i]).length ≤ ci ∧ SeesM q W Ai (bv fs[i])
def Cells2 (q : Nat → Prop) (W : World) (vs : List Value) (bl : List (List Item)) : Prop := ∀ i (hi : i < bl.length), ∃ Ai ci, vs[i]? = some (.slice Ai (bl[i]).length ci) ∧ (bl[i]).length ≤ ci ∧ Sees2M q W Ai bl[i]
theorem Cells1.keep {q q' : Nat → Prop} {W W' : World} {vs : List Value} {fs : List Item} (h : Cells1 q W vs fs) (hk : Kept q W W') (hq : ∀ k, q k → q' k) : Cells1 q' W' vs fs := fun i hi => by
 obtain ⟨Ai, ci, g1, g2, g3⟩ := h i hi
 exact ⟨Ai, ci, g1, g2, (g3.keep hk).mono hq⟩
theorem Cells2.keep {q q' : Nat → Prop} {W W' : World} {vs : List Value} {bl : List (List Item)} (h : Cells2 q W vs bl) (hk : Kept q W W') (hq : ∀ k, q k → q' k) : Cells2 q' W' vs bl := fun i hi => by
 obtain ⟨Ai, ci, g1, g2, g3⟩ := h i hi
 exact ⟨Ai, ci, g1, g2, (g3.keep hk).mono hq⟩
theorem Cells1.append {q : Nat → Prop} {W : World} {vs : List Value} {fs : List Item} (h : Cells1 q W vs fs) (hvs : vs.length = fs.length) {ys : List Item} {ws : List Value} (hy : Cells1 q W ws ys) : Cells1 q W (vs ++ ws) (fs ++ ys) := fun i hi => by
 by_cases hlt : i < fs.length
 ·obtain ⟨Ai, ci, g1, g2, g3⟩ := h i hlt
  rw [List.getElem_append_left hlt, List.getElem?_append_left (by omega)]
  exact ⟨Ai, ci, g1, g2, g3⟩
 ·rw [List.length_append] at hi
  obtain ⟨Ai, ci, g1, g2, g3⟩ := hy (i - fs.length) (by omega)
  rw [List.getElem_append_right (by omega), List.getElem?_append_right (by omega), hvs]
  exact ⟨Ai, ci, g1, g2, g3⟩
structure OpenSt (base : Nat) (q : Nat → Prop) (W : World) (vB vF vA : Value) (bl : List (List Item)) (fs al : List Item) : Prop where
 rB : ∃ vs, W.ownsRow base 47 1 vB bl.length vs ∧ Cells2 q W vs bl
 rF : ∃ vs, W.ownsRow base 48 1 vF fs.length vs ∧ Cells1 q W vs fs
 rA : ∃ vs, W.ownsRow base 48 1 vA al.length vs ∧ Cells1 q W vs al
 qlt : ∀ k, q k → base ≤ k ∧ k < W.heap.size
 nB : ∀ k, vB.ownBlock = some k → ¬ q k
 nF : ∀ k, vF.ownBlock = some k → ¬ q k
 nA : ∀ k, vA.ownBlock = some k → ¬ q k
 aBF : Apart2 vB vF
 aBA : Apart2 vB vA
 aFA : Apart2 vF vA
section
variable {base : Nat} {q : Nat → Prop} {W W' : World} {vB vF vA v' : Value} {bl : List (List Item)} {fs al : List Item}
theorem OpenSt.nil (base : Nat) (W : World) : OpenSt base (fun _ => False) W (.slice none 0 0) (.slice none 0 0) (.slice none 0 0) [] [] [] :=
 ⟨⟨[], World.ownsRow_nil W base _ 1, fun i hi => absurd hi (by simp)⟩, ⟨[], World.ownsRow_nil W base _ 1, fun i hi => absurd hi (by simp)⟩, ⟨[], World.ownsRow_nil W base _ 1, fun i hi => absurd hi (by simp)⟩, fun _ h => h.elim, fun _ _ h => h, fun _ _ h => h, fun _ _ h => h, Apart2.nil _, Apart2.nil _, Apart2.nil _⟩
theorem OpenSt.held (h : OpenSt base q W vB vF vA bl fs al) : ∀ k, Held3 q vB vF vA k → base ≤ k ∧ k < W.heap.size := fun k hk => by
 obtain ⟨vs1, g1, -⟩ := h.rB
 obtain ⟨vs2, g2, -⟩ := h.rF
 obtain ⟨vs3, g3, -⟩ := h.rA
 rcases hk with hk | hk | hk | hk
 ·exact h.qlt k hk
 ·exact World.ownsRow.lt g1 k hk
 ·exact World.ownsRow.lt g2 k hk
 ·exact World.ownsRow.lt g3 k hk
theorem OpenSt.keep (h : OpenSt base q W vB vF vA bl fs al) (hk : Kept (Held3 q vB vF vA) W W') (hs : W.heap.size ≤ W'.heap.size) : OpenSt base q W' vB vF vA bl fs al := by
 obtain ⟨vs1, g1, c1⟩ := h.rB
 obtain ⟨vs2, g2, c2⟩ := h.rF
 obtain ⟨vs3, g3, c3⟩ := h.rA
 have hq : Kept q W W' := hk.mono fun k e => .inl e
 exact ⟨⟨vs1, ownsRow_kept g1 fun k e => hk k (.inr (.inl e)), c1.keep hq fun _ e => e⟩, ⟨vs2, ownsRow_kept g2 fun k e => hk k (.inr (.inr (.inl e))), c2.keep hq fun _ e => e⟩, ⟨vs3, ownsRow_kept g3 fun k e => hk k (.inr (.inr (.inr e))), c3.keep hq fun _ e => e⟩,
  fun k e => ⟨(h.qlt k e).1, Nat.lt_of_lt_of_le (h.qlt k e).2 hs⟩, h.nB, h.nF, h.nA, h.aBF, h.aBA, h.aFA⟩
theorem OpenSt.below (h : OpenSt base q W vB vF vA bl fs al) (hb : Below W.heap.size W W') : OpenSt base q W' vB vF vA bl fs al := h.keep (Kept.of_below hb fun k hk => (h.held k hk).2) hb.size
theorem OpenSt.more (h : OpenSt base q W vB vF vA bl fs al) (hb : Below W.heap.size W W') (hW : base ≤ W.heap.size) : OpenSt base (fun k => q k ∨ (W.heap.size ≤ k ∧ k < W'.heap.size)) W' vB vF vA bl fs al := by
 have hlt := h.held
 obtain ⟨vs1, g1, c1⟩ := h.rB
 obtain ⟨vs2, g2, c2⟩ := h.rF
 obtain ⟨vs3, g3, c3⟩ := h.rA
 have hk : Kept (Held3 q vB vF vA) W W' := Kept.of_below hb fun k hk => (hlt k hk).2
 have hq : Kept q W W' := hk.mono fun k e => .inl e
 have nn : ∀ k, Held3 q vB vF vA k → ¬ q k → ¬ (q k ∨ (W.heap.size ≤ k ∧ k < W'.heap.size)) := fun k h1 h2 h3 => by
  rcases h3 with h3 | h3
  ·exact h2 h3
  ·have := (hlt k h1).2; omega
 exact ⟨⟨vs1, ownsRow_kept g1 fun k e => hk k (.inr (.inl e)), c1.keep hq fun _ e => .inl e⟩, ⟨vs2, ownsRow_kept g2 fun k e => hk k (.inr (.inr (.inl e))), c2.keep hq fun _ e => .inl e⟩, ⟨vs3, ownsRow_kept g3 fun k e => hk k (.inr (.inr (.inr e))), c3.keep hq fun _ e => .inl e⟩,
  fun k e => by have := hb.size; rcases e with e | e; have := h.qlt k e; omega; omega, fun k e => nn k (.inr (.inl e)) (h.nB k e), fun k e => nn k (.inr (.inr (.inl e))) (h.nF k e), fun k e => nn k (.inr (.inr (.inr e))) (h.nA k e), h.aBF, h.aBA, h.aFA⟩
end
end Go.Proofs.YtalmnodgjjcefaaGreatDoor
namespace Go.Proofs.YtalmnodgjjcefaaGreatDoor
open Go.RowKit
structure Box3 (W : World) (B : Nat) (t : TypeId) (v0 v1 v2 : Value) : Prop where
 out : W.heap[B]? = some (.cells #[v0, v1, v2] t (0, 0))
section
variable {W W' : World} {B : Nat} {t : TypeId} {v0 v1 v2 : Value}
theorem Box3.lt (h : Box3 W B t v0 v1 v2) : B < W.heap.size := (Array.getElem?_eq_some_iff.1 h.out).1
theorem Box3.new (W : World) (t : TypeId) (v0 v1 v2 : Value) : Box3 (W.alloc (.cells #[v0, v1, v2] t)) W.heap.size t v0 v1 v2 := ⟨World.alloc_heap_new W _⟩
theorem Box3.kept (h : Box3 W B t v0 v1 v2) (hk : W'.heap[B]? = W.heap[B]?) : Box3 W' B t v0 v1 v2 := ⟨hk.trans h.out⟩
theorem Box1.kept {v : Value} (h : Box1 W B t v) (hk : W'.heap[B]? = W.heap[B]?) : Box1 W' B t v := ⟨hk.trans h.out⟩
theorem Box3.set1 (h : Box3 W B t v0 v1 v2) (v' : Value) : Box3 (W.setCell ⟨B, 1, none⟩ v') B t v0 v' v2 := by
 obtain ⟨hlt, hk⟩ := Array.getElem?_eq_some_iff.1 h.out
 refine ⟨?_⟩
 show (W.heap.modify B _)[B]? = _
 rw [Array.getElem?_eq_getElem (by rw [Array.size_modify]; exact hlt), Array.getElem_modify_self, hk]
 rfl
theorem Box3.set2 (h : Box3 W B t v0 v1 v2) (v' : Value) : Box3 (W.setCell ⟨B, 2, none⟩ v') B t v0 v1 v' := by
 obtain ⟨hlt, hk⟩ := Array.getElem?_eq_some_iff.1 h.out
 refine ⟨?_⟩
 show (W.heap.modify B _)[B]? = _
 rw [Array.getElem?_eq_getElem (by rw [Array.size_modify]; exact hlt), Array.getElem_modify_self, hk]
 rfl
end
structure OpenC (n0 : Nat) (W : World) (vB vF vA : Value) (many : Nat) : Prop where
 r2 : Box1 W n0 160 (.pointer none)
 r3 : Box1 W (n0 + 1) 31 (.int .i64 0)
 x : Box1 W (n0 + 2) 211 vF
 p : Box3 W (n0 + 3) 213 (.pointer (some ⟨n0 + 2, 0, none⟩)) vB (.int .i64 many)
 t4 : Box1 W (n0 + 4) 160 (.pointer (some ⟨n0 + 3, 0, none⟩))
 t5 : Box1 W (n0 + 5) 47 vA
section
variable {n0 : Nat} {W W' : World} {vB vF vA : Value} {many : Nat}
theorem OpenC.keep (h : OpenC n0 W vB vF vA many) (hk : Kept (fun k => n0 ≤ k ∧ k < n0 + 6) W W') : OpenC n0 W' vB vF vA many :=
 ⟨h.r2.kept (hk _ ⟨by omega, by omega⟩), h.r3.kept (hk _ ⟨by omega, by omega⟩), h.x.kept (hk _ ⟨by omega, by omega⟩), h.p.kept (hk _ ⟨by omega, by omega⟩), h.t4.kept (hk _ ⟨by omega, by omega⟩), h.t5.kept (hk _ ⟨by omega, by omega⟩)⟩
theorem OpenC.lt (h : OpenC n0 W vB vF vA many) : n0 + 6 ≤ W.heap.size := by have := h.t5.lt; omega
theorem other {W : World} {p : Addr} {v : Value} {k : Nat} (h : p.block ≠ k) : (W.setCell p v).heap[k]? = W.heap[k]? := Below.heap_setCell W p v k (fun e => h e.symm)
end
structure OpenR (n0 : Nat) (W Wc : World) (s q : Nat → Prop) (vB vF vA : Value) (bl : List (List Item)) (fs al : List Item) (many : Nat) : Prop where
 c : OpenC n0 Wc vB vF vA many
 o : OpenSt (n0 + 9) q Wc vB vF vA bl fs al
 t : Turn (fun k => ¬ s k ∧ n0 ≤ k ∧ k ≠ n0 + 7 ∧ k ≠ n0 + 8) W Wc
 h : ∀ k, Held3 q vB vF vA k → ¬ s k
 sl : ∀ k, s k → (n0 + 6 ≤ k ∧ k < W.heap.size)
section
variable {n0 : Nat} {W Wc W' wn : World} {s q : Nat → Prop} {vB vF vA v' : Value} {bl : List (List Item)} {fs al : List Item} {many : Nat}
theorem OpenR.size (h : OpenR n0 W Wc s q vB vF vA bl fs al many) : W.heap.size ≤ Wc.heap.size := h.t.size
theorem OpenR.below (h : OpenR n0 W Wc s q vB vF vA bl fs al many) (hb : Below Wc.heap.size Wc W') : OpenR n0 W W' s q vB vF vA bl fs al many :=
 ⟨h.c.keep (Kept.of_below hb fun k hk => by have := h.c.lt; omega), h.o.below hb, h.t.trans' (Turn.of_new (T := fun _ => False) hb) (fun _ _ e => e.elim), h.h, h.sl⟩
theorem OpenR.alloc (h : OpenR n0 W Wc s q vB vF vA bl fs al many) (o : Obj) : OpenR n0 W (Wc.alloc o) s q vB vF vA bl fs al many := h.below ((Below.refl _ _).alloc (Nat.le_refl _) _)
theorem OpenR.drew (h : OpenR n0 W Wc s q vB vF vA bl fs al many) : OpenR n0 W Wc.drew s q vB vF vA bl fs al many := h.below (below_drew (Below.refl _ _))
theorem OpenR.more (h : OpenR n0 W Wc s q vB vF vA bl fs al many) (hb : Below Wc.heap.size Wc W') (hW : n0 + 9 ≤ Wc.heap.size) : OpenR n0 W W' s (fun k => q k ∨ (Wc.heap.size ≤ k ∧ k < W'.heap.size)) vB vF vA bl fs al many := by
 refine ⟨h.c.keep (Kept.of_below hb fun k hk => by have := h.c.lt; omega), h.o.more hb hW, h.t.trans' (Turn.of_new (T := fun _ => False) hb) (fun _ _ e => e.elim), fun k hk e => ?_, h.sl⟩
 rcases hk with (hk | hk) | hk
 ·exact h.h k (.inl hk) e
 ·have := (h.sl k e).2; have := h.size; omega
 ·exact h.h k (.inr hk) e
theorem row_open {w : World} {base : Nat} {e : TypeId} {v : Value} {n : Nat} {xs : List Value} (h : w.ownsRow base e 1 v n xs) : ∃ A c, v = .slice A n c ∧ n ≤ c := by
 rcases h.2 with ⟨rfl, hn⟩ | ⟨g, cap, cur, rfl, hb, hh, hc, _⟩
 ·exact ⟨none, 0, by rw [hn], by omega⟩
 ·exact ⟨_, cap, rfl, hc⟩
theorem OpenR.rows (h : OpenR n0 W Wc s q vB vF vA bl fs al many) : (∃ A c, vB = .slice A bl.length c ∧ bl.length ≤ c) ∧ (∃ A c, vF = .slice A fs.length c ∧ fs.length ≤ c) ∧ (∃ A c, vA = .slice A al.length c ∧ al.length ≤ c) := by
 obtain ⟨v1, g1, -⟩ := h.o.rB
 obtain ⟨v2, g2, -⟩ := h.o.rF
 obtain ⟨v3, g3, -⟩ := h.o.rA
 exact ⟨row_open g1, row_open g2, row_open g3⟩
theorem OpenR.over (h : OpenR n0 W Wc s q vB vF vA bl fs al many) : OpenR n0 Wc Wc s q vB vF vA bl fs al many :=
 ⟨h.c, h.o, Turn.refl _ _, h.h, fun k e => by have := h.sl k e; have := h.size; omega⟩
theorem OpenR.start {Wa w1 : World} (hr2 : Box1 Wa n0 160 (.pointer none)) (hr3 : Box1 Wa (n0 + 1) 31 (.int .i64 0)) (hx : Box1 Wa (n0 + 2) 211 (.slice none 0 0))
  (hp : Box3 Wa (n0 + 3) 213 (.pointer (some ⟨n0 + 2, 0, none⟩)) (.slice none 0 0) (.int .i64 0)) (h4 : Box1 Wa (n0 + 4) 160 (.pointer (some ⟨n0 + 3, 0, none⟩))) (h5 : Box1 Wa (n0 + 5) 47 (.slice none 0 0))
  (hz : Wa.heap.size = n0 + 6) (o : Obj) (hw1 : w1 = Wa.alloc o) : OpenR n0 w1 w1 (fun k => k = n0 + 6) (fun _ => False) (.slice none 0 0) (.slice none 0 0) (.slice none 0 0) [] [] [] 0 := by
 have hc : OpenC n0 Wa (.slice none 0 0) (.slice none 0 0) (.slice none 0 0) 0 := ⟨hr2, hr3, hx, hp, h4, h5⟩
 have hs : w1.heap.size = n0 + 7 := by rw [hw1, World.size_alloc, hz]
 refine ⟨?_, OpenSt.nil _ _, Turn.refl _ _, fun k hk => ?_, fun k e => by omega⟩
 ·rw [hw1]; exact hc.keep (Kept.of_below ((Below.refl _ _).alloc (Nat.le_refl _) _) fun k hk => by omega)
 ·rcases hk with hk | hk | hk | hk
  ·exact hk.elim
  ·simp [Value.ownBlock] at hk
  ·simp [Value.ownBlock] at hk
  ·simp [Value.ownBlock] at hk
end
structure RowIn (q : Nat → Prop) (W : World) (g : Nat) (u0 : Value) (vt : List Value) (l : List Item) : Prop where
 qg : q g
 sees : SeesM q W (some ⟨g, 0, none⟩) (u0 :: vt)
 cells : Cells1 q W (u0 :: vt) l
 len : (u0 :: vt).length = l.length
 one : ∀ u ∈ u0 :: vt, u.oneCell' = true
section
variable {q q' : Nat → Prop} {W W' : World} {g : Nat} {u0 : Value} {vt : List Value} {l : List Item}
theorem RowIn.keep (h : RowIn q W g u0 vt l) (hk : Kept q W W') : RowIn q W' g u0 vt l := ⟨h.qg, h.sees.keep hk, h.cells.keep hk fun _ e => e, h.len, h.one⟩
theorem RowIn.mono (h : RowIn q W g u0 vt l) (hq : ∀ k, q k → q' k) : RowIn q' W g u0 vt l := ⟨hq _ h.qg, h.sees.mono hq, h.cells.keep (Kept.refl _ _) hq, h.len, h.one⟩
theorem RowIn.first (h : RowIn q W g u0 vt l) : W.cell? ⟨g, 0, none⟩ = some u0 := by
 rcases h.sees.out with e | ⟨ad, e, -, hc⟩
 ·cases e
 ·injection e with e
  subst e
  have := hc 0 u0 rfl
  rwa [Addr.add_lit] at this
theorem RowIn.x {A0 : Option Addr} {n0 c0 : Nat} {x : Item} {t : List Item} (h : RowIn q W g (.slice A0 n0 c0) vt (x :: t)) : x.length = n0 ∧ x.length ≤ c0 ∧ SeesM q W A0 (bv x) := by
 obtain ⟨Ai, ci, g1, g2, g3⟩ := h.cells 0 (by simp)
 simp only [List.getElem?_cons_zero, Option.some.injEq, Value.slice.injEq, List.getElem_cons_zero] at g1 g2 g3
 obtain ⟨rfl, e, rfl⟩ := g1
 exact ⟨e.symm, g2, g3⟩
theorem RowIn.of {base : Nat} {v : Value} {x : Item} {t : List Item} (h : OwnS W base v (x :: t)) : ∃ g c A0 c0 vt, v = .slice (some ⟨g, 0, none⟩) (x :: t).length c ∧ (x :: t).length ≤ c ∧ x.length ≤ c0 ∧ SeesM (fun k => base ≤ k ∧ k < W.heap.size) W A0 (bv x) ∧ RowIn (fun k => base ≤ k ∧ k < W.heap.size) W g (.slice A0 x.length c0) vt (x :: t) := by
 obtain ⟨vs, h1, h2⟩ := h.out
 have hn := h1.1
 have hs : ∀ i (hi : i < (x :: t).length), ∃ Ai ci, vs[i]? = some (.slice Ai ((x :: t)[i]).length ci) ∧ ((x :: t)[i]).length ≤ ci ∧ SeesM (fun k => base ≤ k ∧ k < W.heap.size) W Ai (bv (x :: t)[i]) := fun i hi => by
  obtain ⟨Ai, ci, g1, g2, g3⟩ := h2 i hi
  refine ⟨Ai, ci, g1, g2, ?_⟩
  rcases g3.out with e | ⟨ad, e, e1, e2, -, e3⟩
  ·exact ⟨.inl e⟩
  ·exact ⟨.inr ⟨ad, e, ⟨e1, e2⟩, e3⟩⟩
 obtain ⟨A0, c0, k1, k2, k3⟩ := hs 0 (by simp)
 rcases h1.2 with ⟨rfl, h0⟩ | ⟨g, cap, cur, rfl, hb, hh, hc, _⟩
 ·simp at h0
 ·cases vs with
  | nil => simp at k1
  | cons u0 vt =>
   simp only [List.getElem?_cons_zero, Option.some.injEq, List.getElem_cons_zero] at k1 k2 k3
   subst k1
   refine ⟨g, cap, A0, c0, vt, rfl, hc, k2, k3, ⟨hb, (Array.getElem?_eq_some_iff.1 hh).1⟩, ⟨.inr ⟨_, rfl, ⟨hb, (Array.getElem?_eq_some_iff.1 hh).1⟩, fun j u hu => h1.cells (g := g) rfl j u hu⟩⟩, hs, by simpa using hn, fun u hu => ?_⟩
   obtain ⟨i, hi, e⟩ := List.getElem_of_mem hu
   have hi2 : i < (x :: t).length := by simp only [List.length_cons, Nat.mul_one] at hn hi ⊢; omega
   obtain ⟨Ai, ci, g1, -, -⟩ := hs i hi2
   have : u = .slice Ai ((x :: t)[i]).length ci := by rw [List.getElem?_eq_getElem hi, e] at g1; exact Option.some.inj g1
   rw [this]; rfl
end
end Go.Proofs.YtalmnodgjjcefaaGreatDoor
namespace Go.Proofs.YtalmnodgjjcefaaGreatDoor
open Go.RowKit Go.Shelf
attribute [local go_sem] Oper.semAt_some
structure OpenI (w w1 W : World) (s : Nat → Prop) (pre : List (Item × Nat)) : Prop where
 out : ∃ q vB vF vA bl, OpenR w.heap.size W W s q vB vF vA bl (bl.map (·.headD [])) bl.flatten bl.flatten.length ∧ unpackAll pre = some bl
 bel : Below w.heap.size w W
 size : w1.heap.size ≤ W.heap.size
theorem OpenR.done {w w1 W Wc : World} {s q : Nat → Prop} {vB vF vA : Value} {bl : List (List Item)} {fs al : List Item} {many : Nat} {pre : List (Item × Nat)} (h : OpenR w.heap.size W Wc s q vB vF vA bl fs al many) (e1 : bl.map (·.headD []) = fs) (e2 : bl.flatten = al) (e3 : al.length = many) (hu : unpackAll pre = some bl) (hbel : Below w.heap.size w W) (hsz : w1.heap.size ≤ W.heap.size) : OpenI w w1 Wc s pre := by
 subst e3
 subst e2
 subst e1
 exact ⟨⟨_, _, _, _, _, h.over, hu⟩, hbel.trans (h.t.below (fun j e => e.2.1) hbel.size), Nat.le_trans hsz h.size⟩
end Go.Proofs.YtalmnodgjjcefaaGreatDoor
