/-
  All things of some rows, rising, each once, and how often it is there: the iterator, what it holds.
-/
import Derived.Test.YtcfbblgoligagaaKmSeqI
import Derived.Test.YtcfbblgoligagaaKmCntP
import Derived.Test.YtcfbblgoligagaaRound
namespace Go.Proofs.Ytcfbblgoligagaa.KI
open Go.RowKit Go.Shelf

/-- While things are counted. base: where the closure's own blocks begin; l: whom is told; s: what the iterator beneath owns. -/
structure Cnt (J : (Nat → Prop) → List (El × Nat) → World → Prop) (K : List Key) (n0 base l : Nat) (m0 : Nat → Prop) (W : World) (s : Nat → Prop) (pre : List El) (w : World) : Prop where
  out : ∃ (s2 : Nat → Prop) (op : List (El × Nat)) (a : El) (m : Nat) (va : Value), J s2 op w ∧ Box1 w base 63 (.func (.yield l) #[] #[]) ∧ Box1 w (base + 1) 3 va ∧ Box1 w (base + 2) 3 (.int .i64 (m : Nat)) ∧ (1 ≤ m → va = val a ∧ EOk (fun k => k < n0) w a) ∧ CntI key K op a m pre ∧ (∀ k, s k → s2 k) ∧ (∀ k, base ≤ k → k < base + 7 → k < w.heap.size → s2 k)
  kept : Kept m0 W w
  size : base + 5 ≤ w.heap.size
  sep : ∀ k, s k → base + 5 ≤ k
/-- No more is asked for. -/
structure CntX (Jx : (Nat → Prop) → List (El × Nat) → World → Prop) (K : List Key) (base : Nat) (s : Nat → Prop) (w : World) : Prop where
  out : ∃ (s2 : Nat → Prop) (op : List (El × Nat)), Jx s2 op w ∧ op.map (tk key) <+: runs K ∧ (∀ k, s k → s2 k) ∧ (∀ k, base ≤ k → k < base + 7 → k < w.heap.size → s2 k)
  size : base + 5 ≤ w.heap.size
  sep : ∀ k, s k → base + 5 ≤ k
section
variable {J Jx : (Nat → Prop) → List (El × Nat) → World → Prop} {K : List Key} {n0 base l : Nat} {m0 s s' T : Nat → Prop} {W A B : World} {pre : List El}
theorem grown_sub {s s2 : Nat → Prop} {A B : World} (h : ∀ k, s k → s2 k) : ∀ k, grown s A B k → grown s2 A B k := fun k e => e.imp (h k) id
theorem Cnt.step (hJ : ∀ s pre A B, J s pre A → Turn s A B → J (grown s A B) pre B) (h : Cnt J K n0 base l m0 W s pre A) (hn0 : n0 ≤ base) (hm0 : ∀ k, m0 k → k < base) (ht : Turn T A B)
    (hT : ∀ k, T k → s k ∨ (base + 5 ≤ k ∧ k < base + 7)) (hs : ∀ k, s' k → s k ∨ (A.heap.size ≤ k ∧ k < B.heap.size)) : Cnt J K n0 base l m0 W s' pre B := by
  obtain ⟨s2, op, a, m, va, h1, h2, h3, h4, h5, h6, h7, h8⟩ := h.out
  have h5T : ∀ k, T k → base + 5 ≤ k := fun k e => by rcases hT k e with e | e; exact h.sep k e; exact e.1
  have ht2 : Turn s2 A B := ht.mono fun k hk e => by rcases hT k e with e | e; exact h7 k e; exact h8 k (by omega) e.2 hk
  have hz := ht.size
  have hz5 := h.size
  refine ⟨⟨grown s2 A B, op, a, m, va, hJ _ _ _ _ h1 ht2, h2.turn ht (fun e => by have := h5T _ e; omega), h3.turn ht (fun e => by have := h5T _ e; omega), h4.turn ht (fun e => by have := h5T _ e; omega), fun hm => ⟨(h5 hm).1, (h5 hm).2.keep (Kept.of_turn ht fun k hk => ⟨by omega, fun e => by have := h5T _ e; omega⟩)⟩, h6, fun k e => ?_, fun k a b c => ?_⟩,
    h.kept.trans (Kept.of_turn ht fun k hk => ⟨by have := hm0 k hk; omega, fun e => by have := h5T _ e; have := hm0 k hk; omega⟩), by omega, fun k e => ?_⟩
  · rcases hs k e with e | e
    · exact .inl (h7 k e)
    · exact .inr e
  · by_cases hk : k < A.heap.size
    · exact .inl (h8 k a b hk)
    · exact .inr ⟨by omega, c⟩
  · rcases hs k e with e | e
    · exact h.sep k e
    · omega
theorem CntX.step (hJx : ∀ s pre A B, Jx s pre A → Turn s A B → Jx (grown s A B) pre B) (h : CntX Jx K base s A) (ht : Turn T A B)
    (hT : ∀ k, T k → s k ∨ (base + 5 ≤ k ∧ k < base + 7)) (hs : ∀ k, s' k → s k ∨ (A.heap.size ≤ k ∧ k < B.heap.size)) : CntX Jx K base s' B := by
  obtain ⟨s2, op, h1, h2, h7, h8⟩ := h.out
  have ht2 : Turn s2 A B := ht.mono fun k hk e => by rcases hT k e with e | e; exact h7 k e; exact h8 k (by omega) e.2 hk
  have hz := ht.size
  have hz5 := h.size
  refine ⟨⟨grown s2 A B, op, hJx _ _ _ _ h1 ht2, h2, fun k e => ?_, fun k a b c => ?_⟩, by omega, fun k e => ?_⟩
  · rcases hs k e with e | e
    · exact .inl (h7 k e)
    · exact .inr e
  · by_cases hk : k < A.heap.size
    · exact .inl (h8 k a b hk)
    · exact .inr ⟨by omega, c⟩
  · rcases hs k e with e | e
    · exact h.sep k e
    · omega
/-- 'last = x; n++'. -/
theorem cnt_store (hJ : ∀ s pre A B, J s pre A → Turn s A B → J (grown s A B) pre B) {s2 : Nat → Prop} {op : List (El × Nat)} {x : El} {m : Nat} {va vm : Value} (hn0 : n0 ≤ base) (hm0 : ∀ k, m0 k → k < base)
    (h1 : J s2 op A) (h2 : Box1 A base 63 (.func (.yield l) #[] #[])) (h3 : Box1 A (base + 1) 3 va) (h4 : Box1 A (base + 2) 3 vm) (h5 : EOk (fun k => k < n0) A x) (h6 : CntI key K op x m pre)
    (h7 : ∀ k, s k → s2 k) (h8 : ∀ k, base ≤ k → k < base + 7 → k < A.heap.size → s2 k) (h9 : Kept m0 W A) (h10 : base + 5 ≤ A.heap.size) (h11 : ∀ k, s k → base + 5 ≤ k) :
    Cnt J K n0 base l m0 W s pre ((A.setCell ⟨base + 1, 0, none⟩ (val x)).setCell ⟨base + 2, 0, none⟩ (.int .i64 (m : Nat))) ∧ Turn (fun k => k = base + 1 ∨ k = base + 2) A ((A.setCell ⟨base + 1, 0, none⟩ (val x)).setCell ⟨base + 2, 0, none⟩ (.int .i64 (m : Nat))) := by
  have ht : Turn (fun k => k = base + 1 ∨ k = base + 2) A ((A.setCell ⟨base + 1, 0, none⟩ (val x)).setCell ⟨base + 2, 0, none⟩ (.int .i64 (m : Nat))) := (Turn.setCell _ _ _ (.inl rfl)).trans (Turn.setCell _ _ _ (.inr rfl))
  have ht2 : Turn s2 A ((A.setCell ⟨base + 1, 0, none⟩ (val x)).setCell ⟨base + 2, 0, none⟩ (.int .i64 (m : Nat))) := ht.mono fun k hk e => h8 k (by omega) (by omega) hk
  have hz : ((A.setCell ⟨base + 1, 0, none⟩ (val x)).setCell ⟨base + 2, 0, none⟩ (.int .i64 (m : Nat))).heap.size = A.heap.size := by simp
  refine ⟨⟨⟨grown s2 A _, op, x, m, val x, hJ _ _ _ _ h1 ht2, h2.turn ht (by omega), (h3.set (val x)).turn (Turn.setCell (T := fun k => k = base + 2) _ _ _ rfl) (by omega), (h4.turn (Turn.setCell (T := fun k => k = base + 1) A ⟨base + 1, 0, none⟩ (val x) rfl) (by omega)).set _, fun _ => ⟨rfl, h5.keep (Kept.of_turn ht fun k hk => ⟨by omega, by omega⟩)⟩, h6, fun k e => .inl (h7 k e), fun k a b c => .inl (h8 k a b (by omega))⟩, h9.trans (Kept.of_turn ht fun k hk => ⟨by have := hm0 k hk; omega, by have := hm0 k hk; omega⟩), by omega, h11⟩, ht⟩
end

theorem counted_any (A : Option Addr) (n c : Nat) (w : World) : Calls Try.prog 28 #[.slice A n c, .func (.func cmpF) #[] #[]] w fun e w' =>
    e = .returned (.func (.func 37) #[] #[.pointer (some ⟨w.heap.size, 0, none⟩), .pointer (some ⟨w.heap.size + 1, 0, none⟩)]) ∧ w' = (w.alloc (.cells #[.slice A n c] 29)).alloc (.cells #[.func (.func cmpF) #[] #[]] 53) := by
  go_enter Try.func28, Try.ntmps28
  go_wp2
  go_ret
  exact ⟨rfl, rfl⟩
end Go.Proofs.Ytcfbblgoligagaa.KI
