/-
  Numbers that are collected in a round: what is held.
-/
import Derived.Test.YtcfbblgoligagaaKmCnt1I
namespace Go.Proofs.Ytcfbblgoligagaa.KI
open Go.RowKit Go.Shelf

/-- While numbers are collected: the variable at ob, its row in blocks from z + 2 on; s: what the iterator owns. -/
structure IntsSt (w : World) (ob lo z : Nat) (s : Nat → Prop) (out : List Int) (wr : World) : Prop where
  sep : ∀ k, s k → lo ≤ k ∧ k < wr.heap.size
  below : Below w.heap.size w wr
  size : z ≤ wr.heap.size
  out : ∃ v, Box1 wr ob 30 v ∧ wr.ownsRow (z + 2) 3 1 v out.length (out.map val) ∧ ∀ k, v.ownBlock = some k → z + 2 ≤ k ∧ ¬ s k
section
variable {w A B : World} {ob lo z : Nat} {s s' T : Nat → Prop} {out : List Int}
theorem IntsSt.step (h : IntsSt w ob lo z s out A) (hob : ob < lo) (hlo : lo ≤ z) (hw : w.heap.size ≤ lo) (ht : Turn T A B) (hT : ∀ k, T k → s k ∨ k = z ∨ k = z + 1) (hs : ∀ k, s' k → s k ∨ (A.heap.size ≤ k ∧ k < B.heap.size)) : IntsSt w ob lo z s' out B := by
  obtain ⟨v, h1, h2, h3⟩ := h.out
  have hz := ht.size
  have hTl : ∀ k, T k → lo ≤ k := fun k e => by rcases hT k e with e | e | e; exact (h.sep k e).1; omega; omega
  have h2' := World.ownsRow.lt h2
  refine ⟨fun k e => ?_, h.below.trans (ht.below (fun k e => Nat.le_trans hw (hTl k e)) h.below.size), Nat.le_trans h.size hz, v, h1.turn ht (fun e => by have := hTl _ e; omega), ownsRow_kept h2 fun k e => ht.block k (h2' k e).2 (fun e2 => ?_), fun k e => ⟨(h3 k e).1, fun e2 => ?_⟩⟩
  · rcases hs k e with e | e
    · exact ⟨(h.sep k e).1, Nat.lt_of_lt_of_le (h.sep k e).2 hz⟩
    · have := h.size; omega
  · rcases hT k e2 with e2 | e2 | e2
    · exact (h3 k e).2 e2
    · have := (h3 k e).1; omega
    · have := (h3 k e).1; omega
  · rcases hs k e2 with e2 | e2
    · exact (h3 k e).2 e2
    · have := (h2' k e).2; omega
/-- One more number is put behind: W: where the statement began; wn: behind the append. -/
theorem ints_put {W wp wn : World} {v v' : Value} {y : Int} (h : IntsSt w ob lo z s out W) (hob : ob < lo) (hlo : lo ≤ z) (hw : w.heap.size ≤ ob) (hz2 : z + 2 ≤ W.heap.size) (h1 : Box1 W ob 30 v) (_h2 : W.ownsRow (z + 2) 3 1 v out.length (out.map val)) (h3 : ∀ k, v.ownBlock = some k → z + 2 ≤ k ∧ ¬ s k)
    (hr : Below W.heap.size W wp) (hown : wn.ownsRow (z + 2) 3 1 v' (out.length + 1) (out.map val ++ [val y])) (hon : Onto wp wn v v') :
    IntsSt w ob lo z s (out ++ [y]) (wn.setCell ⟨ob, 0, none⟩ v') ∧ Turn (fun k => k = ob ∨ v.ownBlock = some k) W (wn.setCell ⟨ob, 0, none⟩ v') := by
  have hs1 := hr.size
  have hs2 := hon.size
  have ho := h1.lt
  have hobv : v.ownBlock ≠ some ob := fun e => by have := (h3 _ e).1; omega
  have hobv' : v'.ownBlock ≠ some ob := fun e => by
    rcases hon.at_ with e2 | ⟨g, e2, hg⟩
    · exact hobv (e2 ▸ e)
    · rw [e2] at e; injection e with e; omega
  have ht : Turn (fun k => k = ob ∨ v.ownBlock = some k) W (wn.setCell ⟨ob, 0, none⟩ v') := ((Turn.of_new hr).trans (Turn.onto hon fun k e => .inr e)).trans (Turn.setCell _ _ _ (.inl rfl))
  have hz : (wn.setCell ⟨ob, 0, none⟩ v').heap.size = wn.heap.size := World.size_setCell _ _ _
  refine ⟨⟨fun k e => ⟨(h.sep k e).1, by have := (h.sep k e).2; omega⟩, h.below.trans (ht.below (fun k e => by rcases e with e | e; omega; have := (h3 k e).1; omega) h.below.size), by omega, v', ?_, ?_, fun k e => ?_⟩, ht⟩
  · have b1 : Box1 wn ob 30 v := (h1.below hr ho).turn (Turn.onto (T := fun k => v.ownBlock = some k) hon fun k e => e) hobv
    exact b1.set v'
  · rw [List.length_append, List.map_append]
    exact ownsRow_kept hown fun k e => Below.heap_setCell _ _ _ _ (fun e2 => hobv' (by rw [← show k = ob from e2]; exact e))
  · rcases hon.at_ with e2 | ⟨g, e2, hg⟩
    · exact h3 k (e2 ▸ e)
    · rw [e2] at e; injection e with e; subst e
      exact ⟨by omega, fun e3 => by have := (h.sep _ e3).2; omega⟩
end
theorem cntOk_keep {n0 D : Nat} {K : List Key} {s : Nat → Prop} {pre : List (El × Nat)} {y : El × Nat} {A B : World} (h : CntOk n0 K s pre y A) (hn0 : n0 ≤ D) (ht : Turn (fun k => k = D ∨ k = D + 1) A B) : CntOk n0 K s pre y B :=
  ⟨h.1.keep (Kept.of_turn ht fun k hk => ⟨Nat.lt_of_lt_of_le hk h.2.2.1, by rintro (e | e) <;> omega⟩), h.2.1, Nat.le_trans h.2.2.1 ht.size, h.2.2.2⟩
theorem iinfo : (Try.prog.info? 3).map (fun i => (i.zero, i.size, i.bytes)) = some (some (.int .i64 0), 1, 8) := by kernel_rfl
theorem runs_len (K : List Key) : (runs K).length ≤ K.length := by
  have hA : ∀ (t : List Key) (a : Key) (n : Nat), (runsA a n t).length ≤ t.length + 1 := fun t => by
    induction t with
    | nil => intro a n; simp [runsA]
    | cons y t ih =>
      intro a n
      unfold runsA
      split
      · have := ih a (n + 1); simp; omega
      · have := ih y 1; simp; omega
  cases K with
  | nil => simp [runs]
  | cons a t => exact hA t a 1
end Go.Proofs.Ytcfbblgoligagaa.KI
