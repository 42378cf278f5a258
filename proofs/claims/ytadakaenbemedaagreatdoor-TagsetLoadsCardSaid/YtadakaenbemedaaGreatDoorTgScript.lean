/-
  A script over both sides: what lies where between acts.
-/
import Derived.Test.YtadakaenbemedaaGreatDoorTgDone2
import Derived.Test.YtadakaenbemedaaGreatDoorTgAwake
namespace Go.Proofs.YtadakaenbemedaaGreatDoor
open Go.RowKit Go.Maps

theorem done_any (n0 : Nat) (m q : Nat → Prop) (w : World) (S : Nat) (v : Value) (s : SetM) (hp : Pair n0 m q w S v s) (hF : SetFit s) (hH : Halves w) (y : Act) (Bx : Option Addr) (lx dx : Nat) (hxl : y.item.length = lx) (hlx : lx ≤ 450) (hlc : lx ≤ dx) (hx : SeesM (fun k => k < n0) w Bx (bv y.item)) :
    Calls Tryz.prog 16 #[.pointer (some ⟨S, 0, none⟩), v, .agg #[.int .i64 y.kind, .slice Bx lx dx, .int .i64 y.a, .int .i64 y.b]] w (Done n0 m q w S (s.play y)) := by
  unfold SetM.play
  by_cases h1 : y.kind % 8 < 5
  · rw [if_pos h1]
    exact done_add n0 m q w S v s hp hF Bx lx dx y.item hxl hlx hlc hx y.kind y.a y.b h1
  · rw [if_neg h1]
    by_cases h2 : y.kind % 8 < 7
    · rw [if_pos h2]
      exact done_flush n0 m q w S v s hp hF hH Bx lx dx y.kind y.a y.b (by omega)
    · rw [if_neg h2]
      unfold SetM.merge
      by_cases hm : mayMerge s.fs.length y.a y.b = true
      · rw [if_pos hm]
        obtain ⟨g1, g2, g3, g4⟩ := may_iff.1 hm
        have ea : y.a = (y.a.toNat : Int) := by omega
        have eb : y.b = (y.b.toNat : Int) := by omega
        have := done_merge n0 m q w S v s hp hF hH Bx lx dx y.kind y.a.toNat y.b.toNat (by omega) (by omega) (by omega)
        rw [← ea, ← eb] at this
        exact this
      · rw [if_neg hm]
        exact done_none n0 m q w S v s hp hF hH Bx lx dx y.kind y.a y.b (by omega) fun e => hm (may_iff.2 e)

/-- Between two acts of a script: both sides, and the box of the document's set. -/
structure Script (n0 : Nat) (w : World) (S D : Nat) (s : SetM) : Prop where
  out : ∃ m q A c F d, Pair n0 m q w S (.agg #[.slice A s.mem.length c, .slice F s.fs.length d]) s ∧ Box2 w D 38 (.slice A s.mem.length c) (.slice F s.fs.length d) ∧ ¬ m D ∧ ¬ q D ∧ n0 ≤ D
/-- Before the first act. -/
theorem Script.start {w w0 w1 w2 : World} {S : Nat} (hb0 : Below w.heap.size w w0) (hA : SetAt (fun k => w0.heap.size ≤ k ∧ k < w1.heap.size) w1 S SetM.new) (hb1 : Below w0.heap.size w0 w1) (hb2 : Below w1.heap.size w1 w2) (hbx : Box2 w2 w1.heap.size 38 (.slice none 0 0) (.slice none 0 0)) :
    Hid (Script w.heap.size ((w2.setCell ⟨w1.heap.size, 0, none⟩ (.slice none 0 0)).setCell ⟨w1.heap.size, 1, none⟩ (.slice none 0 0)) S w1.heap.size SetM.new) ∧ Hid (Below w.heap.size w ((w2.setCell ⟨w1.heap.size, 0, none⟩ (.slice none 0 0)).setCell ⟨w1.heap.size, 1, none⟩ (.slice none 0 0))) := by
  have hs0 := hb0.size
  have hs1 := hb1.size
  have hs2 := hb2.size
  have ht := turn_two w2 w1.heap.size (.slice none 0 0) (.slice none 0 0)
  have hs3 := ht.size
  refine ⟨⟨_, fun k => k < w.heap.size, none, 0, none, 0, ⟨(hA.below hb2).turn ht fun k e e' => by omega, RSet.new _ _, fun k e => ⟨by omega, fun e' => by omega⟩, fun k e => by omega, fun k e => e, by omega⟩, (hbx.set0 _).set1 _, fun e => by omega, fun e => by omega, by omega⟩, ?_⟩
  exact ((hb0.trans (hb1.mono hs0)).trans (hb2.mono (by omega))).trans (ht.below (fun k e => by omega) (by omega))
/-- The answer of an act is laid in the box. -/
theorem Script.stored {n0 : Nat} {m m' q q' : Nat → Prop} {w w2 : World} {S D : Nat} {v0 v1 : Value} {s : SetM} {A : Option Addr} {c : Nat} {F : Option Addr} {d a f : Nat} (hb : Box2 w D 38 v0 v1) (hm : ¬ m D) (hq : ¬ q D) (hD : n0 ≤ D) (hold : ∀ k, m k → n0 ≤ k)
    (ha : s.mem.length = a) (hf : s.fs.length = f) (h : Moved n0 m m' q q' w w2 S (.agg #[.slice A a c, .slice F f d]) s) : Script n0 ((w2.setCell ⟨D, 0, none⟩ (.slice A a c)).setCell ⟨D, 1, none⟩ (.slice F f d)) S D s ∧ Below n0 w ((w2.setCell ⟨D, 0, none⟩ (.slice A a c)).setCell ⟨D, 1, none⟩ (.slice F f d)) := by
  subst ha hf
  have hm' : ¬ m' D := fun e => (h.newm D e).elim hm fun e => by have := hb.lt; omega
  have hq' : ¬ q' D := fun e => (h.newq D e).elim hq fun e => by have := hb.lt; omega
  have ht := turn_two w2 D (.slice A s.mem.length c) (.slice F s.fs.length d)
  have hsz := ht.size
  have b2 : Box2 w2 D 38 v0 v1 := hb.keep (h.turn.block D hb.lt hm)
  refine ⟨⟨m', q', A, c, F, d, ⟨h.pair.set.turn ht fun k e e' => hm' (e' ▸ e), h.pair.ref.keep (Kept.of_turn ht fun k e => ⟨(h.pair.sep k e).1, fun e' => hq' (e' ▸ e)⟩), fun k e => ⟨by have := (h.pair.sep k e).1; omega, (h.pair.sep k e).2⟩, h.pair.old, h.pair.inn, by have := h.pair.low; omega⟩, (b2.set0 _).set1 _, hm', hq', hD⟩, ?_⟩
  have hlow : n0 ≤ w.heap.size := by have := hb.lt; omega
  exact (h.turn.below hold hlow).trans (ht.below (fun k e => by omega) (by have := h.turn.size; omega))
theorem Script.below {n0 : Nat} {w w' : World} {S D : Nat} {s : SetM} (h : Script n0 w S D s) (hb : Below w.heap.size w w') : Script n0 w' S D s := by
  obtain ⟨m, q, A, c, F, d, h1, h2, h3⟩ := h.out
  exact ⟨m, q, A, c, F, d, h1.below hb, h2.below hb h2.lt, h3⟩
/-- The answer of an act is laid in a box of its own. -/
theorem Moved.boxed {n0 : Nat} {m m2 q q2 : Nat → Prop} {w wa w2 wy : World} {S : Nat} {v v' x y : Value} {s s' : SetM} (hp : Pair n0 m q w S v s) (hb : Below w.heap.size w wa) (mv : Moved n0 m m2 q q2 wa w2 S v' s') (b : Nat) (hm : ¬ m2 b) (hq : ¬ q2 b) (h : w.heap.size ≤ b) {t : TypeId} {x0 y0 : Value} (hbx : Box2 wy b t x0 y0) (hy : Below w2.heap.size w2 wy) :
    Moved n0 m m2 q q2 w ((wy.setCell ⟨b, 0, none⟩ x).setCell ⟨b, 1, none⟩ y) S v' s' ∧ Box2 ((wy.setCell ⟨b, 0, none⟩ x).setCell ⟨b, 1, none⟩ y) b t x y ∧ (∀ (D : Nat) t' v0 v1, Box2 w D t' v0 v1 → ¬ m D → Box2 ((wy.setCell ⟨b, 0, none⟩ x).setCell ⟨b, 1, none⟩ y) D t' v0 v1) ∧ Below n0 w ((wy.setCell ⟨b, 0, none⟩ x).setCell ⟨b, 1, none⟩ y) := by
  have ht := turn_two wy b x y
  have hsb := hb.size
  have hs2 := mv.turn.size
  have hsy := hy.size
  have hst := ht.size
  have hp2 := mv.pair.below hy
  have hold := hp.old
  have hlow := hp.low
  refine ⟨⟨⟨hp2.set.turn ht fun k e e' => hm (e' ▸ e), hp2.ref.keep (Kept.of_turn ht fun k e => ⟨(hp2.sep k e).1, fun e' => hq (e' ▸ e)⟩), fun k e => ⟨by have := (hp2.sep k e).1; omega, (hp2.sep k e).2⟩, hp2.old, hp2.inn, by omega⟩, ?_, fun k e => (mv.newm k e).elim .inl fun e => .inr (by omega), fun k e => (mv.newq k e).elim .inl fun e => .inr (by omega)⟩, (hbx.set0 x).set1 y, fun D t' v0 v1 hD hmD => ?_, ?_⟩
  · exact (((Turn.of_new hb).trans' mv.turn fun k _ e => e).trans (Turn.of_new hy)).trans' ht fun k hk e => absurd hk (by omega)
  · have hlt := hD.lt
    exact (((hD.below hb hlt).keep (mv.turn.block D (by omega) hmD)).below hy (by omega)).keep (ht.block D (by omega) (by omega))
  · exact (((hb.mono hlow).trans (mv.turn.below hold (by omega))).trans (hy.mono (by omega))).trans (ht.below (fun k e => by omega) (by omega))
end Go.Proofs.YtadakaenbemedaaGreatDoor
