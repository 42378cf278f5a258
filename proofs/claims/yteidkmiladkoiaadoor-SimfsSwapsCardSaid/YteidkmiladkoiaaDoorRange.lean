/-
  A loop over an iterator, in words of blocks: which blocks a step may turn; the law of the statement. No program in sight.
-/
import Derived.Test.YteidkmiladkoiaaDoorCore
import Derived.RangeFuncNested
import Derived.RangeFuncBound
import Derived.RangeFuncCalls
import Derived.RangeFuncLeaves
import Derived.Shelf.Abstract
import Derived.Shelf.RegionOpen
import Derived.OwnWalkIn
import Derived.TacticsInMore
import Derived.LoopNIn
import Derived.LoopIn
namespace Go.Proofs.YteidkmiladkoiaaDoor
open Go.RowKit

/-- From A to B only blocks in T turn, and blocks are laid. -/
structure Turn (T : Nat → Prop) (A B : World) : Prop where
  os : B.os = A.os
  tape : B.tape = A.tape
  output : B.output = A.output
  size : A.heap.size ≤ B.heap.size
  block : ∀ k, k < A.heap.size → ¬ T k → B.heap[k]? = A.heap[k]?

section
variable {T T' : Nat → Prop} {A B C : World}
theorem Turn.refl (T : Nat → Prop) (A : World) : Turn T A A := ⟨rfl, rfl, rfl, Nat.le_refl _, fun _ _ _ => rfl⟩
theorem Turn.trans' (h : Turn T A B) (k : Turn T' B C) (hT : ∀ j, j < A.heap.size → T' j → T j) : Turn T A C :=
  ⟨k.os.trans h.os, k.tape.trans h.tape, k.output.trans h.output, Nat.le_trans h.size k.size, fun j hj hn => (k.block j (Nat.lt_of_lt_of_le hj h.size) (fun e => hn (hT j hj e))).trans (h.block j hj hn)⟩
theorem Turn.trans (h : Turn T A B) (k : Turn T B C) : Turn T A C := h.trans' k fun _ _ e => e
theorem Turn.mono (h : Turn T A B) (hT : ∀ j, j < A.heap.size → T j → T' j) : Turn T' A B := ⟨h.os, h.tape, h.output, h.size, fun j hj hn => h.block j hj (fun e => hn (hT j hj e))⟩
theorem Turn.below {b : Nat} (h : Turn T A B) (hT : ∀ j, T j → b ≤ j) (hb : b ≤ A.heap.size) : Below b A B := ⟨h.os, h.tape, h.output, h.size, fun j hj => h.block j (by omega) (fun e => by have := hT j e; omega)⟩
theorem Turn.of_below {b : Nat} (h : Below b A B) (hT : ∀ j, j < A.heap.size → b ≤ j → T j) : Turn T A B := ⟨h.os, h.tape, h.output, h.size, fun j hj hn => h.block j (by rcases Nat.lt_or_ge j b with g | g; exact g; exact absurd (hT j hj g) hn)⟩
theorem Turn.of_new (h : Below A.heap.size A B) : Turn T A B := .of_below h fun j h1 h2 => by omega
theorem Turn.of_grown {row : Option Nat} (h : A.grownBy B row) (hT : ∀ k, row = some k → T k) : Turn T A B := ⟨h.os, h.tape, h.output, h.size, fun j hj hn => h.block j hj (fun e => hn (hT j e.symm))⟩
theorem Turn.setCell (A : World) (p : Addr) (v : Value) (hT : T p.block) : Turn T A (A.setCell p v) := ⟨rfl, rfl, rfl, by simp [World.setCell], fun j _ hn => Below.heap_setCell A p v j (fun e => hn (e ▸ hT))⟩
theorem Turn.alloc (A : World) (o : Obj) : Turn T A (A.alloc o) := .of_new ((Below.refl _ A).alloc (Nat.le_refl _) o)
theorem Turn.drewN (A : World) (q : Nat) : Turn T A (A.drewN q) := .of_new (below_d (Below.refl _ A) q)
theorem Turn.drew (A : World) : Turn T A A.drew := .of_new (below_drew (Below.refl _ A))
theorem Turn.putObj (A : World) (r : Nat) (o : Obj) (hT : T r) : Turn T A (A.putObj r o) := ⟨rfl, rfl, rfl, by simp, fun j _ hn => World.putObj_heap_other (fun e => hn (e ▸ hT))⟩
theorem Turn.onto {v v' : Value} (h : Onto A B v v') (hT : ∀ k, v.ownBlock = some k → T k) : Turn T A B := .of_grown h.grown hT
theorem Turn.keep (h : Turn T A B) {p : Addr} (hp : p.block < A.heap.size) (hn : ¬ T p.block) : B.cell? p = A.cell? p := World.cell?_of_block (h.block _ hp hn)
theorem Turn.keepF (h : Turn T A B) {p : Addr} (hp : p.block < A.heap.size) (hn : ¬ T p.block) : B.frozen? p = A.frozen? p := World.frozen?_of_block (h.block _ hp hn)
end

/-- What an iterator owns behind a step: what it owned, and what was laid. -/
def grown (s : Nat → Prop) (A B : World) : Nat → Prop := fun k => s k ∨ (A.heap.size ≤ k ∧ k < B.heap.size)

/-- The contract of an iterator that owns blocks (s), reads others (R). A round turns none of them. Ok: what is known of what is told. -/
def SeqT {α : Type} (F : Fence) (n : Nat) (P : Program) (g : Nat) (lb : Array Value) (encs : α → Array Value) (R s0 : Nat → Prop) (Ok : (Nat → Prop) → List α → α → World → Prop) (S Sp : List α → Prop) (N : Nat) (w : World) : Prop :=
  ∀ (l : Nat) (J Jx : (Nat → Prop) → List α → World → Prop) (W : World), Below w.heap.size w W →
    (∀ s pre A B, J s pre A → Turn s A B → J (grown s A B) pre B) → (∀ s pre A B, Jx s pre A → Turn s A B → Jx (grown s A B) pre B) →
    (∀ s pre x W1, J s pre W1 → pre.length < N → Ok s pre x W1 → YieldAt F (n - 1) P l (encs x) W1 fun e W' =>
      (e = .returned (.bool true) ∧ J s (pre ++ [x]) W' ∧ Turn (fun k => ¬ s k ∧ ¬ R k) W1 W') ∨ (e = .returned (.bool false) ∧ Jx s (pre ++ [x]) W' ∧ Turn (fun k => ¬ s k ∧ ¬ R k) W1 W')) →
    J s0 [] W →
    CallsIn F n P g (#[.func (.yield l) #[] #[]] ++ lb) W fun e W' => (∃ v, e = .returned v) ∧ ((∃ s xs, S xs ∧ J s xs W') ∨ (∃ s pre, Sp pre ∧ Jx s pre W'))

/-- How the body of a round may be left. -/
def postT {α : Type} (R s : Nat → Prop) (D : Nat) (I : (Nat → Prop) → List α → World → Prop) (Ix : Code → (Nat → Prop) → List α → World → Prop) (xs : List α) (W : World) : Exit → Act → World → Prop
  | .normal, _, W' => Turn (fun k => ¬ s k ∧ ¬ R k ∧ k ≠ D ∧ k ≠ D + 1) W W' ∧ I s xs W'
  | .ret, _, W' => Turn (fun k => ¬ s k ∧ ¬ R k ∧ k ≠ D ∧ k ≠ D + 1) W W' ∧ Ix .ret s xs W'
  | .exit id, _, W' => Turn (fun k => ¬ s k ∧ ¬ R k ∧ k ≠ D ∧ k ≠ D + 1) W W' ∧ Ix (.exit id) s xs W'
  | .goto t, _, W' => Turn (fun k => ¬ s k ∧ ¬ R k ∧ k ≠ D ∧ k ≠ D + 1) W W' ∧ Ix (.goto t) s xs W'
  | .panic _, _, _ => False
  | .outgrown, _, _ => False

variable {F : Fence} {n : Nat} {P : Program}

theorem wpIn_rangeFunc_T {α : Type} {g : Operand} {ps : Array Tmp} {assign body : Code} {Q : Exit → Act → World → Prop} {a : Act} {w : World}
    (hro : F.round = none) (h1 : 1 ≤ n) {gf : Nat} {lb : Array Value} (hg : a.eval g = .func (.func gf) #[] lb) (hFg : F.fn gf) (eg : ∀ args w, (callFunc gf args).run P w = .ok (.enter gf args) w)
    {encs : α → Array Value} {R s0 : Nat → Prop} {Ok : (Nat → Prop) → List α → α → World → Prop} {S Sp : List α → Prop} {N : Nat} {w0 : World} (hseq : SeqT F (n - 1) P gf lb encs R s0 Ok S Sp N w0) (hb0 : Below w0.heap.size w0 w) (hps : ∀ x, (encs x).size = ps.size)
    (hR : ∀ k, R k ∨ s0 k → k < w.heap.size)
    (hOk : ∀ s pre x A B, Ok s pre x A → (∀ k, s k ∨ R k → k ≠ w.heap.size ∧ k ≠ w.heap.size + 1) → Turn (fun k => k = w.heap.size ∨ k = w.heap.size + 1) A B → Ok s pre x B)
    (I : (Nat → Prop) → List α → World → Prop) (Ix : Code → (Nat → Prop) → List α → World → Prop)
    (hI : ∀ s pre A B, I s pre A → Turn s A B → I (grown s A B) pre B) (hIx : ∀ c s pre A B, Ix c s pre A → Turn s A B → Ix c (grown s A B) pre B)
    (hI2 : ∀ s pre A B, I s pre A → Turn (fun k => k = w.heap.size ∨ k = w.heap.size + 1) A B → I s pre B) (hIx2 : ∀ c s pre A B, Ix c s pre A → Turn (fun k => k = w.heap.size ∨ k = w.heap.size + 1) A B → Ix c s pre B)
    (h0 : I s0 [] w) (a₁ : α → Act)
    (hassign : ∀ (l : Nat) (x : α) (W : World) (K : Act → World → Prop), K (a₁ x) W →
      assign.wpIn (F.inRound l) (n - 1 - 1) P (Exit.then K (fun _ _ _ => False)) { tmps := (ps.zip (encs x)).foldl (fun t (p, v) => t.setIfInBounds p v) a.tmps, defers := [] } W)
    (hbody : ∀ (l : Nat) (s : Nat → Prop) (pre : List α) (x : α) (W : World), I s pre W → pre.length < N → Ok s pre x W → w.heap.size + 2 ≤ W.heap.size → body.wpIn (F.inRound l) (n - 1 - 1) P (postT R s w.heap.size I Ix (pre ++ [x]) W) (a₁ x) W)
    (hdone : ∀ (s : Nat → Prop) (xs : List α) (W : World), S xs → I s xs W → W.heap[w.heap.size]? = some (.deferred (some [])) → Q .normal { a with defers := { target := .collected w.heap.size, args := #[] } :: a.defers } W)
    (hstop : ∀ (c : Code) (s : Nat → Prop) (pre : List α) (W : World), Sp pre → Ix c s pre W → W.heap[w.heap.size]? = some (.deferred (some [])) → c.wpIn F n P Q { a with defers := { target := .collected w.heap.size, args := #[] } :: a.defers } W) :
    (Code.rangeFunc g ps assign body).wpIn F n P Q a w := by
  refine wpIn_rangeFunc ?_
  intro fn hfn
  rw [hro]
  obtain ⟨rec, hrec⟩ : ∃ rec : LoopState → Option Code → Loop, rec = fun st pe => { state := st, pending := pe, fn, tmps := a.tmps, params := ps, assign, body, defers := w.heap.size } := ⟨_, rfl⟩
  obtain ⟨W1, hW1⟩ : ∃ W1, (w.alloc (.deferred (some []))).alloc (.loop (rec .ready none)) = W1 := ⟨_, rfl⟩
  have hL1 : W1.heap[w.heap.size + 1]? = some (.loop (rec .ready none)) := by
    rw [← hW1]; have := World.alloc_heap_new (w.alloc (.deferred (some []))) (.loop (rec .ready none)); rwa [World.size_alloc] at this
  have hK1 : W1.heap[w.heap.size]? = some (.deferred (some [])) := by
    rw [← hW1]; exact (Below.heap_alloc _ _ _ (by simp)).trans (World.alloc_heap_new w _)
  have hI1 : I s0 [] W1 := by rw [← hW1]; exact hI2 _ _ _ _ (hI2 _ _ _ _ h0 (Turn.alloc w _)) (Turn.alloc _ _)
  have hb1 : Below w0.heap.size w0 W1 := by
    rw [← hW1]; exact hb0.trans ((((Below.refl _ w).alloc (Nat.le_refl _) _).alloc (by simp) _).mono hb0.size)
  refine ⟨w.heap.size + 1, [{ target := .collected w.heap.size, args := #[] }], W1, { target := .fn (.func gf) lb, args := #[.func (.yield (w.heap.size + 1)) #[] #[]] }, W1, gf,
    #[.func (.yield (w.heap.size + 1)) #[] #[]] ++ lb, W1, ?_, ?_, ?_, ?_, fun _ => h1, ?_⟩
  · rw [← hW1, hrec]; exact run_enterLoop_outer _ _ _ _ _
  · simp only [resolve, hg]
    simp [go_sem]
  · intro f' hf'; simp [Target.leads] at hf'; subst hf'; exact hFg
  · simp [invoke, go_sem, eg]
  · have book : ∀ {s : Nat → Prop} {A B : World} {r : Nat} {o : Obj}, Turn s A B → ¬ s r → A.heap[r]? = some o → B.heap[r]? = some o ∧ ¬ grown s A B r := fun ht hs hr => by
      have hlt := (Array.getElem?_eq_some_iff.1 hr).1
      exact ⟨(ht.block _ hlt hs).trans hr, fun e => by rcases e with e | e; exact hs e; omega⟩
    refine (hseq (w.heap.size + 1)
      (fun s pre W => I s pre W ∧ W.heap[w.heap.size + 1]? = some (.loop (rec .ready none)) ∧ W.heap[w.heap.size]? = some (.deferred (some [])) ∧ ¬ s (w.heap.size + 1) ∧ ¬ s w.heap.size)
      (fun s pre W => ∃ c, Ix c s pre W ∧ W.heap[w.heap.size + 1]? = some (.loop (rec .done (some c))) ∧ W.heap[w.heap.size]? = some (.deferred (some [])) ∧ ¬ s (w.heap.size + 1) ∧ ¬ s w.heap.size)
      W1 hb1
      (fun s pre A B h ht => ⟨hI s pre A B h.1 ht, (book ht h.2.2.2.1 h.2.1).1, (book ht h.2.2.2.2 h.2.2.1).1, (book ht h.2.2.2.1 h.2.1).2, (book ht h.2.2.2.2 h.2.2.1).2⟩)
      (fun s pre A B h ht => by
        obtain ⟨c, h⟩ := h
        exact ⟨c, hIx c s pre A B h.1 ht, (book ht h.2.2.2.1 h.2.1).1, (book ht h.2.2.2.2 h.2.2.1).1, (book ht h.2.2.2.1 h.2.1).2, (book ht h.2.2.2.2 h.2.2.1).2⟩)
      ?_ ⟨hI1, hL1, hK1, fun e => by have := hR _ (.inr e); omega, fun e => by have := hR _ (.inr e); omega⟩).mono ?_
    · -- one round
      rintro s pre x W ⟨hi, hl, hk, hsl, hsk⟩ hlen hok
      have hlt : w.heap.size + 1 < W.heap.size := (Array.getElem?_eq_some_iff.1 hl).1
      have hy := run_yield (P := P) (args := encs x) hl (by rw [hrec]; exact hps x)
      rw [hrec] at hy
      refine ⟨fn, _, assign, body, hy, roundIn_of_wpIn hfn (hassign _ x W _ ⟨_, run_beginRound hl (by rw [hrec]), ?_⟩)⟩
      have hl2 : (W.putObj (w.heap.size + 1) (.loop { rec .ready none with state := .busy })).heap[w.heap.size + 1]? = some (.loop { rec .ready none with state := .busy }) := World.putObj_heap_same hlt
      have hk2 : (W.putObj (w.heap.size + 1) (.loop { rec .ready none with state := .busy })).heap[w.heap.size]? = some (.deferred (some [])) := (World.putObj_heap_other (by omega)).trans hk
      have ht2 : ∀ o, Turn (fun k => k = w.heap.size ∨ k = w.heap.size + 1) W (W.putObj (w.heap.size + 1) o) := fun o => Turn.putObj W _ o (.inr rfl)
      refine wpIn_mono (hbody _ s pre x _ (hI2 _ _ _ _ hi (ht2 _)) hlen (hOk _ _ _ _ _ hok (fun k hk => ⟨fun e => by subst e; rcases hk with h | h; exact hsk h; have := hR _ (.inl h); omega, fun e => by subst e; rcases hk with h | h; exact hsl h; have := hR _ (.inl h); omega⟩) (ht2 _)) (by rw [World.putObj_size]; exact hlt)) ?_
      have fin : ∀ (jump : Option Code) (W3 : World), Turn (fun k => ¬ s k ∧ ¬ R k ∧ k ≠ w.heap.size ∧ k ≠ w.heap.size + 1) (W.putObj (w.heap.size + 1) (.loop { rec .ready none with state := .busy })) W3 →
          (Instr.endRound (w.heap.size + 1) jump).run P W3 = .ok (.bool jump.isNone) (W3.putObj (w.heap.size + 1) (.loop (rec (if jump.isNone then .ready else .done) jump))) ∧
          W3.heap[w.heap.size + 1]? = some (.loop { rec .ready none with state := .busy }) ∧
          (W3.putObj (w.heap.size + 1) (.loop (rec (if jump.isNone then .ready else .done) jump))).heap[w.heap.size + 1]? = some (.loop (rec (if jump.isNone then .ready else .done) jump)) ∧
          (W3.putObj (w.heap.size + 1) (.loop (rec (if jump.isNone then .ready else .done) jump))).heap[w.heap.size]? = some (.deferred (some [])) := fun jump W3 hk3 => by
        have hl3 := (hk3.block (w.heap.size + 1) (by simp; omega) (fun e => e.2.2.2 rfl)).trans hl2
        have hk4 := (hk3.block w.heap.size (by simp; omega) (fun e => e.2.2.1 rfl)).trans hk2
        have := run_endRound (P := P) jump hl3
        rw [hrec] at this ⊢
        exact ⟨this, by rw [hrec] at hl3; exact hl3, World.putObj_heap_same (Array.getElem?_eq_some_iff.1 hl3).1, (World.putObj_heap_other (by omega)).trans hk4⟩
      have tot : ∀ (o : Obj) (W3 : World), Turn (fun k => ¬ s k ∧ ¬ R k ∧ k ≠ w.heap.size ∧ k ≠ w.heap.size + 1) (W.putObj (w.heap.size + 1) (.loop { rec .ready none with state := .busy })) W3 → Turn (fun k => ¬ s k ∧ ¬ R k) W (W3.putObj (w.heap.size + 1) o) := fun o W3 h => by
        have hm : ¬ s (w.heap.size + 1) ∧ ¬ R (w.heap.size + 1) := ⟨hsl, fun e => by have := hR _ (.inl e); omega⟩
        exact ((Turn.putObj W _ _ hm).trans (h.mono fun j _ e => ⟨e.1, e.2.1⟩)).trans (Turn.putObj W3 _ _ hm)
      have hp3 : ∀ (W3 : World) (o : Obj), Turn (fun k => k = w.heap.size ∨ k = w.heap.size + 1) W3 (W3.putObj (w.heap.size + 1) o) := fun W3 o => Turn.putObj W3 _ o (.inr rfl)
      rintro e a3 W3 hp
      cases e with
      | normal =>
        obtain ⟨hk3, hi3⟩ := hp
        obtain ⟨hr, hl3, hl4, hk4⟩ := fin none W3 hk3
        exact ⟨_, _, hr, .inl ⟨rfl, ⟨hI2 _ _ _ _ hi3 (hp3 _ _), hl4, hk4, hsl, hsk⟩, tot _ _ hk3⟩⟩
      | ret =>
        obtain ⟨hk3, hi3⟩ := hp
        obtain ⟨hr, hl3, hl4, hk4⟩ := fin (some .ret) W3 hk3
        exact ⟨_, _, hr, .inr ⟨rfl, ⟨.ret, hIx2 _ _ _ _ _ hi3 (hp3 _ _), hl4, hk4, hsl, hsk⟩, tot _ _ hk3⟩⟩
      | exit id =>
        obtain ⟨hk3, hi3⟩ := hp
        obtain ⟨hr, hl3, hl4, hk4⟩ := fin (some (.exit id)) W3 hk3
        exact ⟨_, _, hr, .inr ⟨rfl, ⟨.exit id, hIx2 _ _ _ _ _ hi3 (hp3 _ _), hl4, hk4, hsl, hsk⟩, tot _ _ hk3⟩⟩
      | goto t =>
        obtain ⟨hk3, hi3⟩ := hp
        obtain ⟨hr, hl3, hl4, hk4⟩ := fin (some (.goto t)) W3 hk3
        exact ⟨_, _, hr, .inr ⟨rfl, ⟨.goto t, hIx2 _ _ _ _ _ hi3 (hp3 _ _), hl4, hk4, hsl, hsk⟩, tot _ _ hk3⟩⟩
      | panic ch => exact hp.elim
      | outgrown => exact hp.elim
    · rintro e W2 ⟨⟨v, rfl⟩, (⟨s, xs, hS, hi, hl, hk, -, -⟩ | ⟨s, pre, hSp, c, hi, hl, hk, -, -⟩)⟩
      · exact ⟨none, _, by have := run_endLoop (P := P) hl (by rw [hrec]; simp); rw [hrec] at this; exact this, hdone s xs _ hS (hI2 _ _ _ _ hi (Turn.putObj W2 _ _ (.inr rfl))) ((World.putObj_heap_other (by omega)).trans hk)⟩
      · exact ⟨some c, _, by have := run_endLoop (P := P) hl (by rw [hrec]; simp); rw [hrec] at this; exact this, hstop c s pre _ hSp (hIx2 _ _ _ _ _ hi (Turn.putObj W2 _ _ (.inr rfl))) ((World.putObj_heap_other (by omega)).trans hk)⟩
end Go.Proofs.YteidkmiladkoiaaDoor
