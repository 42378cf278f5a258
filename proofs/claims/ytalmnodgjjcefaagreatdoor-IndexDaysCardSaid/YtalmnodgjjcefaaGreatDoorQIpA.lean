/- Several texts in one: Append Range Mem IpPlain IpBuild IpBuild2. -/
import Derived.Test.YtalmnodgjjcefaaGreatDoorQLow
import Derived.RangeFuncNested
import Derived.RangeFuncBound
import Derived.RangeFuncCalls
import Derived.RangeFuncLeaves
import Derived.Shelf.Abstract
import Derived.Shelf.RegionOpen
import Derived.OwnWalkIn
import Derived.TacticsInMore
import Derived.LoopNIn
import Derived.LoopIn
import Derived.Test.YtalmnodgjjcefaaGreatDoorQItm
import Derived.RangeFuncBox
import Derived.Test.YtalmnodgjjcefaaGreatDoorQFrm
namespace Go.Proofs.YtalmnodgjjcefaaGreatDoor
open Go.RowKit
section
variable {P : Program}
theorem run_append_v (w : World) (t ty e : TypeId) (i : TypeInfo) (z : Value) (size bytes : Nat) (ht : P.underlying t = some (.slice e)) (hi : P.info? e = some i) (hz : i.zero = some z)
  (hsize : i.size = size) (hby : i.bytes = bytes) (hzs : z.cells.size = size) (hsz : 0 < size)
  (base : Nat) (v : Value) (n : Nat) (xs : List Value) (hown : w.ownsRow base e size v n xs) (B : Nat) (A : Option Addr) (m c : Nat) (news : List Value) (hm : news.length = m * size) (hs : Sees w B A news)
  (h1 : ∀ u ∈ news, u.oneCell' = true) (h63 : n + m ≤ maxLen) (hbytes : (n + m) * bytes ≤ 140737488355328) (hbase : base ≤ w.heap.size) :
  ∃ v' w', (Builtin.append_ #[t, t] ty #[v, .slice A m c]).run P w = .ok v' w' ∧ w'.ownsRow base e size v' (n + m) (xs ++ news) ∧ Onto w w' v v' := by
 rcases hs.out with h0 | ⟨ad, rfl, hb, hc⟩
 ·subst h0
  have hm0 : m = 0 := by
   rcases Nat.eq_zero_or_pos m with h | h
   ·exact h
   ·have := Nat.mul_pos h hsz; simp at hm; omega
  subst hm0
  rw [List.append_nil]
  refine ⟨v, w, ?_, hown, Onto.refl _ _⟩
  rcases hown.2 with ⟨rfl, hx⟩ | ⟨g, cap, cur, rfl, _, _, hnc, _⟩
  ·cases A <;> simp [Builtin.append_, run_underlying ht, sizeOf, typeInfo, hi, Builtin.lenOf, Builtin.firstCells, loadCells, loadCellsFrom]
  ·cases A <;> simp [Builtin.append_, run_underlying ht, sizeOf, typeInfo, hi, Builtin.lenOf, Builtin.firstCells, hnc, storeCells, loadCells, loadCellsFrom]
 ·obtain ⟨v', w', hrun, h2, h3, _, h5⟩ := run_append_own_at (P := P) w base t ty e i z size bytes ht hi hz hsize hby hzs hsz v n xs hown ad m c news hm hc h1 h63 hbytes hbase
  refine ⟨v', w', hrun, h2, h3, ?_⟩
  rcases h5 with h5 | h5
  ·exact .inl h5
  ·exact .inr ⟨_, h5, Nat.le_refl _⟩
theorem wp_append_v {w : World} {o : Oper} {a : Act} {K : Act → World → Prop} {Q : Exit → Act → World → Prop} (s x : Operand) (t : TypeId)
  (ho : o.op = .call { callee := .builtin .append, args := #[s, x], argTypes := #[t, t] })
  (e : TypeId) (i : TypeInfo) (z : Value) (size bytes : Nat) (ht : P.underlying t = some (.slice e)) (hi : P.info? e = some i) (hz : i.zero = some z)
  (hsize : i.size = size) (hby : i.bytes = bytes) (hzs : z.cells.size = size) (hsz : 0 < size)
  (base : Nat) (v : Value) (n : Nat) (xs : List Value) (hs : a.eval s = v) (hown : w.ownsRow base e size v n xs) (B : Nat) (A : Option Addr) (m c : Nat) (news : List Value) (hx : a.eval x = .slice A m c) (hm : news.length = m * size) (hsee : Sees w B A news)
  (h1 : ∀ u ∈ news, u.oneCell' = true) (h63 : n + m ≤ maxLen) (hbytes : (n + m) * bytes ≤ 140737488355328) (hbase : base ≤ w.heap.size)
  (h : ∀ v' w', w'.ownsRow base e size v' (n + m) (xs ++ news) → Onto w w' v v' → K (a.put o.dst v') w') : o.wp P a w K Q := by
 obtain ⟨v', w', hrun, h2, h3⟩ := run_append_v (P := P) w t o.type e i z size bytes ht hi hz hsize hby hzs hsz base v n xs hown B A m c news hm hsee h1 h63 hbytes hbase
 unfold Oper.wp execOp
 simp only [ho, resolve, invoke, builtin, Sem.run_bind, Sem.run_pure, Result.andThen_ok, List.map_toArray, List.map_cons, List.map_nil, hs, hx, hrun]
 exact h v' w' h2 h3
theorem wpList_append_v {w : World} {ops : Array Oper} {rest : List Oper} {o : Oper} {a : Act} {Q : Exit → Act → World → Prop} (hgd : o.guard = none) (s x : Operand) (t : TypeId)
  (ho : o.op = .call { callee := .builtin .append, args := #[s, x], argTypes := #[t, t] })
  (e : TypeId) (i : TypeInfo) (z : Value) (size bytes : Nat) (ht : P.underlying t = some (.slice e)) (hi : P.info? e = some i) (hz : i.zero = some z)
  (hsize : i.size = size) (hby : i.bytes = bytes) (hzs : z.cells.size = size) (hsz : 0 < size)
  (base : Nat) (v : Value) (n : Nat) (xs : List Value) (hs : a.eval s = v) (hown : w.ownsRow base e size v n xs) (B : Nat) (A : Option Addr) (m c : Nat) (news : List Value) (hx : a.eval x = .slice A m c) (hm : news.length = m * size) (hsee : Sees w B A news)
  (h1 : ∀ u ∈ news, u.oneCell' = true) (h63 : n + m ≤ maxLen) (hbytes : (n + m) * bytes ≤ 140737488355328) (hbase : base ≤ w.heap.size)
  (h : ∀ v' w', w'.ownsRow base e size v' (n + m) (xs ++ news) → Onto w w' v v' → wpList P ops Q rest (a.put o.dst v') w') : wpList P ops Q (o :: rest) a w :=
 wpList_plain hgd fun _ hK => wp_append_v s x t ho e i z size bytes ht hi hz hsize hby hzs hsz base v n xs hs hown B A m c news hx hm hsee h1 h63 hbytes hbase fun v' w' h2 h3 => hK _ _ (h v' w' h2 h3)
theorem step_append_v {w : World} {ops : Array Oper} {o : Oper} {a : Act} {K : Act → World → Prop} {Q : Exit → Act → World → Prop} {E : Prop} (hgd : o.guard = none) (s x : Operand) (t : TypeId)
  (ho : o.op = .call { callee := .builtin .append, args := #[s, x], argTypes := #[t, t] })
  (e : TypeId) (i : TypeInfo) (z : Value) (size bytes : Nat) (ht : P.underlying t = some (.slice e)) (hi : P.info? e = some i) (hz : i.zero = some z)
  (hsize : i.size = size) (hby : i.bytes = bytes) (hzs : z.cells.size = size) (hsz : 0 < size)
  (base : Nat) (v : Value) (n : Nat) (xs : List Value) (hs : a.eval s = v) (hown : w.ownsRow base e size v n xs) (B : Nat) (A : Option Addr) (m c : Nat) (news : List Value) (hx : a.eval x = .slice A m c) (hm : news.length = m * size) (hsee : Sees w B A news)
  (h1 : ∀ u ∈ news, u.oneCell' = true) (h63 : n + m ≤ maxLen) (hbytes : (n + m) * bytes ≤ 140737488355328) (hbase : base ≤ w.heap.size)
  (h : ∀ v' w', w'.ownsRow base e size v' (n + m) (xs ++ news) → Onto w w' v v' → K (a.put o.dst v') w') :
  if Region.wanted o (yielded ops a.tmps) = true then Oper.wp P o a w K Q else E := by
 have hw : Region.wanted o (yielded ops a.tmps) = true := by simp [Region.wanted, hgd]
 rw [if_pos hw]
 exact wp_append_v s x t ho e i z size bytes ht hi hz hsize hby hzs hsz base v n xs hs hown B A m c news hx hm hsee h1 h63 hbytes hbase h
end
theorem own_new (w : World) (base : Nat) (hb : base ≤ w.heap.size) (e : TypeId) (size n : Nat) (xs : List Value) (hx : xs.length = n * size) (hm : n ≤ maxLen) (cs : Array Value) (h : cs = xs.toArray) :
  (w.alloc (.cells cs e)).ownsRow base e size (.slice (some ⟨w.heap.size, 0, none⟩) n n) n xs := by
 subst h
 have h2 := World.ownsRow_lit (e := e) (size := size) (base := base) w xs.toArray n hb hm (by simpa using hx)
 simpa using h2
theorem own_below {w w' : World} {base : Nat} {e : TypeId} {size n : Nat} {v : Value} {xs : List Value} (h : w.ownsRow base e size v n xs) (hb : Below w.heap.size w w') : w'.ownsRow base e size v n xs :=
 World.ownsRow.kept (row := none) h ⟨hb.os, hb.tape, hb.output, hb.size, fun k hk _ => hb.block k hk⟩ (by cases v.ownBlock <;> simp)
theorem own_open {w : World} {base : Nat} {e : TypeId} {size n : Nat} {v : Value} {xs : List Value} (h : w.ownsRow base e size v n xs) : ∃ A c, v = .slice A n c ∧ n ≤ c ∧ c ≤ maxLen ∧ Sees w w.heap.size A xs := by
 rcases h.2 with ⟨rfl, hn⟩ | ⟨g, cap, cur, rfl, hb, hh, hc, hm, _⟩
 ·have h1 := h.1
  rw [hn, Nat.zero_mul] at h1
  exact ⟨none, 0, by rw [hn], by omega, by simp [maxLen], ⟨.inl (List.eq_nil_of_length_eq_zero h1)⟩⟩
 ·exact ⟨_, cap, rfl, hc, hm, Sees.of_own h⟩
theorem own_block {w : World} {base : Nat} {e : TypeId} {size n : Nat} {v : Value} {xs : List Value} (h : w.ownsRow base e size v n xs) : ∀ k, v.ownBlock = some k → base ≤ k := fun k hk => (World.ownsRow.lt h k hk).1
theorem Sees.onto {w w' : World} {B : Nat} {A : Option Addr} {xs : List Value} {v v' : Value} (h : Sees w B A xs) (ho : Onto w w' v v') (hB : B ≤ w.heap.size) (hv : ∀ k, v.ownBlock = some k → B ≤ k) : Sees w' B A xs :=
 h.grown ho.grown hB hv
end Go.Proofs.YtalmnodgjjcefaaGreatDoor
namespace Go.Proofs.YtalmnodgjjcefaaGreatDoor
open Go.RowKit
structure Turn (T : Nat → Prop) (A B : World) : Prop where
 os : B.os = A.os
 tape : B.tape = A.tape
 output : B.output = A.output
 size : A.heap.size ≤ B.heap.size
 block : ∀ k, k < A.heap.size → ¬ T k → B.heap[k]? = A.heap[k]?
section
variable {T T' : Nat → Prop} {A B C : World}
theorem Turn.refl (T : Nat → Prop) (A : World) : Turn T A A := ⟨rfl, rfl, rfl, Nat.le_refl _, fun _ _ _ => rfl⟩
theorem Turn.trans' (h : Turn T A B) (k : Turn T' B C) (hT : ∀ j, j < A.heap.size → T' j → T j) : Turn T A C :=
 ⟨k.os.trans h.os, k.tape.trans h.tape, k.output.trans h.output, Nat.le_trans h.size k.size, fun j hj hn => (k.block j (Nat.lt_of_lt_of_le hj h.size) (fun e => hn (hT j hj e))).trans (h.block j hj hn)⟩
theorem Turn.trans (h : Turn T A B) (k : Turn T B C) : Turn T A C := h.trans' k fun _ _ e => e
theorem Turn.mono (h : Turn T A B) (hT : ∀ j, j < A.heap.size → T j → T' j) : Turn T' A B := ⟨h.os, h.tape, h.output, h.size, fun j hj hn => h.block j hj (fun e => hn (hT j hj e))⟩
theorem Turn.below {b : Nat} (h : Turn T A B) (hT : ∀ j, T j → b ≤ j) (hb : b ≤ A.heap.size) : Below b A B := ⟨h.os, h.tape, h.output, h.size, fun j hj => h.block j (by omega) (fun e => by have := hT j e; omega)⟩
theorem Turn.of_below {b : Nat} (h : Below b A B) (hT : ∀ j, j < A.heap.size → b ≤ j → T j) : Turn T A B := ⟨h.os, h.tape, h.output, h.size, fun j hj hn => h.block j (by rcases Nat.lt_or_ge j b with g | g; exact g; exact absurd (hT j hj g) hn)⟩
theorem Turn.of_new (h : Below A.heap.size A B) : Turn T A B := .of_below h fun j h1 h2 => by omega
theorem Turn.of_grown {row : Option Nat} (h : A.grownBy B row) (hT : ∀ k, row = some k → T k) : Turn T A B := ⟨h.os, h.tape, h.output, h.size, fun j hj hn => h.block j hj (fun e => hn (hT j e.symm))⟩
theorem Turn.setCell (A : World) (p : Addr) (v : Value) (hT : T p.block) : Turn T A (A.setCell p v) := ⟨rfl, rfl, rfl, by simp [World.setCell], fun j _ hn => Below.heap_setCell A p v j (fun e => hn (e ▸ hT))⟩
theorem Turn.alloc (A : World) (o : Obj) : Turn T A (A.alloc o) := .of_new ((Below.refl _ A).alloc (Nat.le_refl _) o)
theorem Turn.drewN (A : World) (q : Nat) : Turn T A (A.drewN q) := .of_new (below_d (Below.refl _ A) q)
theorem Turn.drew (A : World) : Turn T A A.drew := .of_new (below_drew (Below.refl _ A))
theorem Turn.putObj (A : World) (r : Nat) (o : Obj) (hT : T r) : Turn T A (A.putObj r o) := ⟨rfl, rfl, rfl, by simp, fun j _ hn => World.putObj_heap_other (fun e => hn (e ▸ hT))⟩
theorem Turn.onto {v v' : Value} (h : Onto A B v v') (hT : ∀ k, v.ownBlock = some k → T k) : Turn T A B := .of_grown h.grown hT
theorem Turn.keep (h : Turn T A B) {p : Addr} (hp : p.block < A.heap.size) (hn : ¬ T p.block) : B.cell? p = A.cell? p := World.cell?_of_block (h.block _ hp hn)
end
def grown (s : Nat → Prop) (A B : World) : Nat → Prop := fun k => s k ∨ (A.heap.size ≤ k ∧ k < B.heap.size)
def SeqT {α : Type} (F : Fence) (n : Nat) (P : Program) (g : Nat) (lb : Array Value) (encs : α → Array Value) (R s0 : Nat → Prop) (Ok : (Nat → Prop) → List α → α → World → Prop) (S Sp : List α → Prop) (N : Nat) (w : World) : Prop :=
 ∀ (l : Nat) (J Jx : (Nat → Prop) → List α → World → Prop) (W : World), Below w.heap.size w W →
  (∀ s pre A B, J s pre A → Turn s A B → J (grown s A B) pre B) → (∀ s pre A B, Jx s pre A → Turn s A B → Jx (grown s A B) pre B) →
  (∀ s pre x W1, J s pre W1 → pre.length < N → Ok s pre x W1 → YieldAt F (n - 1) P l (encs x) W1 fun e W' =>
   (e = .returned (.bool true) ∧ J s (pre ++ [x]) W' ∧ Turn (fun k => ¬ s k ∧ ¬ R k) W1 W') ∨ (e = .returned (.bool false) ∧ Jx s (pre ++ [x]) W' ∧ Turn (fun k => ¬ s k ∧ ¬ R k) W1 W')) →
  J s0 [] W →
  CallsIn F n P g (#[.func (.yield l) #[] #[]] ++ lb) W fun e W' => (∃ v, e = .returned v) ∧ ((∃ s xs, S xs ∧ J s xs W') ∨ (∃ s pre, Sp pre ∧ Jx s pre W'))
def postT {α : Type} (R s : Nat → Prop) (D : Nat) (I : (Nat → Prop) → List α → World → Prop) (Ix : Code → (Nat → Prop) → List α → World → Prop) (xs : List α) (W : World) : Exit → Act → World → Prop
 | .normal, _, W' => Turn (fun k => ¬ s k ∧ ¬ R k ∧ k ≠ D ∧ k ≠ D + 1) W W' ∧ I s xs W'
 | .ret, _, W' => Turn (fun k => ¬ s k ∧ ¬ R k ∧ k ≠ D ∧ k ≠ D + 1) W W' ∧ Ix .ret s xs W'
 | .exit id, _, W' => Turn (fun k => ¬ s k ∧ ¬ R k ∧ k ≠ D ∧ k ≠ D + 1) W W' ∧ Ix (.exit id) s xs W'
 | .goto t, _, W' => Turn (fun k => ¬ s k ∧ ¬ R k ∧ k ≠ D ∧ k ≠ D + 1) W W' ∧ Ix (.goto t) s xs W'
 | .panic _, _, _ => False
 | .outgrown, _, _ => False
variable {F : Fence} {n : Nat} {P : Program}
theorem wpIn_rangeFunc_T {α : Type} {g : Operand} {ps : Array Tmp} {assign body : Code} {Q : Exit → Act → World → Prop} {a : Act} {w : World}
  (hro : F.round = none) (h1 : 1 ≤ n) {gf : Nat} {lb : Array Value} (hg : a.eval g = .func (.func gf) #[] lb) (hFg : F.fn gf) (eg : ∀ args w, (callFunc gf args).run P w = .ok (.enter gf args) w)
  {encs : α → Array Value} {R s0 : Nat → Prop} {Ok : (Nat → Prop) → List α → α → World → Prop} {S Sp : List α → Prop} {N : Nat} {w0 : World} (hseq : SeqT F (n - 1) P gf lb encs R s0 Ok S Sp N w0) (hb0 : Below w0.heap.size w0 w) (hps : ∀ x, (encs x).size = ps.size)
  (hR : ∀ k, R k ∨ s0 k → k < w.heap.size)
  (hOk : ∀ s pre x A B, Ok s pre x A → (∀ k, s k ∨ R k → k ≠ w.heap.size ∧ k ≠ w.heap.size + 1) → Turn (fun k => k = w.heap.size ∨ k = w.heap.size + 1) A B → Ok s pre x B)
  (I : (Nat → Prop) → List α → World → Prop) (Ix : Code → (Nat → Prop) → List α → World → Prop)
  (hI : ∀ s pre A B, I s pre A → Turn s A B → I (grown s A B) pre B) (hIx : ∀ c s pre A B, Ix c s pre A → Turn s A B → Ix c (grown s A B) pre B)
  (hI2 : ∀ s pre A B, I s pre A → Turn (fun k => k = w.heap.size ∨ k = w.heap.size + 1) A B → I s pre B) (hIx2 : ∀ c s pre A B, Ix c s pre A → Turn (fun k => k = w.heap.size ∨ k = w.heap.size + 1) A B → Ix c s pre B)
  (h0 : I s0 [] w) (a₁ : α → Act)
  (hassign : ∀ (l : Nat) (x : α) (W : World) (K : Act → World → Prop), K (a₁ x) W →
   assign.wpIn (F.inRound l) (n - 1 - 1) P (Exit.then K (fun _ _ _ => False)) { tmps := (ps.zip (encs x)).foldl (fun t (p, v) => t.setIfInBounds p v) a.tmps, defers := [] } W)
  (hbody : ∀ (l : Nat) (s : Nat → Prop) (pre : List α) (x : α) (W : World), I s pre W → pre.length < N → Ok s pre x W → w.heap.size + 2 ≤ W.heap.size → body.wpIn (F.inRound l) (n - 1 - 1) P (postT R s w.heap.size I Ix (pre ++ [x]) W) (a₁ x) W)
  (hdone : ∀ (s : Nat → Prop) (xs : List α) (W : World), S xs → I s xs W → W.heap[w.heap.size]? = some (.deferred (some [])) → Q .normal { a with defers := { target := .collected w.heap.size, args := #[] } :: a.defers } W)
  (hstop : ∀ (c : Code) (s : Nat → Prop) (pre : List α) (W : World), Sp pre → Ix c s pre W → W.heap[w.heap.size]? = some (.deferred (some [])) → c.wpIn F n P Q { a with defers := { target := .collected w.heap.size, args := #[] } :: a.defers } W) :
  (Code.rangeFunc g ps assign body).wpIn F n P Q a w := by
 refine wpIn_rangeFunc ?_
 intro fn hfn
 rw [hro]
 obtain ⟨rec, hrec⟩ : ∃ rec : LoopState → Option Code → Loop, rec = fun st pe => { state := st, pending := pe, fn, tmps := a.tmps, params := ps, assign, body, defers := w.heap.size } := ⟨_, rfl⟩
 obtain ⟨W1, hW1⟩ : ∃ W1, (w.alloc (.deferred (some []))).alloc (.loop (rec .ready none)) = W1 := ⟨_, rfl⟩
 have hL1 : W1.heap[w.heap.size + 1]? = some (.loop (rec .ready none)) := by
  rw [← hW1]; have := World.alloc_heap_new (w.alloc (.deferred (some []))) (.loop (rec .ready none)); rwa [World.size_alloc] at this
 have hK1 : W1.heap[w.heap.size]? = some (.deferred (some [])) := by
  rw [← hW1]; exact (Below.heap_alloc _ _ _ (by simp)).trans (World.alloc_heap_new w _)
 have hI1 : I s0 [] W1 := by rw [← hW1]; exact hI2 _ _ _ _ (hI2 _ _ _ _ h0 (Turn.alloc w _)) (Turn.alloc _ _)
 have hb1 : Below w0.heap.size w0 W1 := by
  rw [← hW1]; exact hb0.trans ((((Below.refl _ w).alloc (Nat.le_refl _) _).alloc (by simp) _).mono hb0.size)
 refine ⟨w.heap.size + 1, [{ target := .collected w.heap.size, args := #[] }], W1, { target := .fn (.func gf) lb, args := #[.func (.yield (w.heap.size + 1)) #[] #[]] }, W1, gf,
  #[.func (.yield (w.heap.size + 1)) #[] #[]] ++ lb, W1, ?_, ?_, ?_, ?_, fun _ => h1, ?_⟩
 ·rw [← hW1, hrec]; exact run_enterLoop_outer _ _ _ _ _
 ·simp only [resolve, hg]
  simp [go_sem]
 ·intro f' hf'; simp [Target.leads] at hf'; subst hf'; exact hFg
 ·simp [invoke, go_sem, eg]
 ·have book : ∀ {s : Nat → Prop} {A B : World} {r : Nat} {o : Obj}, Turn s A B → ¬ s r → A.heap[r]? = some o → B.heap[r]? = some o ∧ ¬ grown s A B r := fun ht hs hr => by
   have hlt := (Array.getElem?_eq_some_iff.1 hr).1
   exact ⟨(ht.block _ hlt hs).trans hr, fun e => by rcases e with e | e; exact hs e; omega⟩
  refine (hseq (w.heap.size + 1)
   (fun s pre W => I s pre W ∧ W.heap[w.heap.size + 1]? = some (.loop (rec .ready none)) ∧ W.heap[w.heap.size]? = some (.deferred (some [])) ∧ ¬ s (w.heap.size + 1) ∧ ¬ s w.heap.size)
   (fun s pre W => ∃ c, Ix c s pre W ∧ W.heap[w.heap.size + 1]? = some (.loop (rec .done (some c))) ∧ W.heap[w.heap.size]? = some (.deferred (some [])) ∧ ¬ s (w.heap.size + 1) ∧ ¬ s w.heap.size)
   W1 hb1
   (fun s pre A B h ht => ⟨hI s pre A B h.1 ht, (book ht h.2.2.2.1 h.2.1).1, (book ht h.2.2.2.2 h.2.2.1).1, (book ht h.2.2.2.1 h.2.1).2, (book ht h.2.2.2.2 h.2.2.1).2⟩)
   (fun s pre A B h ht => by
    obtain ⟨c, h⟩ := h
    exact ⟨c, hIx c s pre A B h.1 ht, (book ht h.2.2.2.1 h.2.1).1, (book ht h.2.2.2.2 h.2.2.1).1, (book ht h.2.2.2.1 h.2.1).2, (book ht h.2.2.2.2 h.2.2.1).2⟩)
   ?_ ⟨hI1, hL1, hK1, fun e => by have := hR _ (.inr e); omega, fun e => by have := hR _ (.inr e); omega⟩).mono ?_
  ·
   rintro s pre x W ⟨hi, hl, hk, hsl, hsk⟩ hlen hok
   have hlt : w.heap.size + 1 < W.heap.size := (Array.getElem?_eq_some_iff.1 hl).1
   have hy := run_yield (P := P) (args := encs x) hl (by rw [hrec]; exact hps x)
   rw [hrec] at hy
   refine ⟨fn, _, assign, body, hy, roundIn_of_wpIn hfn (hassign _ x W _ ⟨_, run_beginRound hl (by rw [hrec]), ?_⟩)⟩
   have hl2 : (W.putObj (w.heap.size + 1) (.loop { rec .ready none with state := .busy })).heap[w.heap.size + 1]? = some (.loop { rec .ready none with state := .busy }) := World.putObj_heap_same hlt
   have hk2 : (W.putObj (w.heap.size + 1) (.loop { rec .ready none with state := .busy })).heap[w.heap.size]? = some (.deferred (some [])) := (World.putObj_heap_other (by omega)).trans hk
   have ht2 : ∀ o, Turn (fun k => k = w.heap.size ∨ k = w.heap.size + 1) W (W.putObj (w.heap.size + 1) o) := fun o => Turn.putObj W _ o (.inr rfl)
   refine wpIn_mono (hbody _ s pre x _ (hI2 _ _ _ _ hi (ht2 _)) hlen (hOk _ _ _ _ _ hok (fun k hk => ⟨fun e => by subst e; rcases hk with h | h; exact hsk h; have := hR _ (.inl h); omega, fun e => by subst e; rcases hk with h | h; exact hsl h; have := hR _ (.inl h); omega⟩) (ht2 _)) (by rw [World.putObj_size]; exact hlt)) ?_
   have fin : ∀ (jump : Option Code) (W3 : World), Turn (fun k => ¬ s k ∧ ¬ R k ∧ k ≠ w.heap.size ∧ k ≠ w.heap.size + 1) (W.putObj (w.heap.size + 1) (.loop { rec .ready none with state := .busy })) W3 →
     (Instr.endRound (w.heap.size + 1) jump).run P W3 = .ok (.bool jump.isNone) (W3.putObj (w.heap.size + 1) (.loop (rec (if jump.isNone then .ready else .done) jump))) ∧
     W3.heap[w.heap.size + 1]? = some (.loop { rec .ready none with state := .busy }) ∧
     (W3.putObj (w.heap.size + 1) (.loop (rec (if jump.isNone then .ready else .done) jump))).heap[w.heap.size + 1]? = some (.loop (rec (if jump.isNone then .ready else .done) jump)) ∧
     (W3.putObj (w.heap.size + 1) (.loop (rec (if jump.isNone then .ready else .done) jump))).heap[w.heap.size]? = some (.deferred (some [])) := fun jump W3 hk3 => by
    have hl3 := (hk3.block (w.heap.size + 1) (by simp; omega) (fun e => e.2.2.2 rfl)).trans hl2
    have hk4 := (hk3.block w.heap.size (by simp; omega) (fun e => e.2.2.1 rfl)).trans hk2
    have := run_endRound (P := P) jump hl3
    rw [hrec] at this ⊢
    exact ⟨this, by rw [hrec] at hl3; exact hl3, World.putObj_heap_same (Array.getElem?_eq_some_iff.1 hl3).1, (World.putObj_heap_other (by omega)).trans hk4⟩
   have tot : ∀ (o : Obj) (W3 : World), Turn (fun k => ¬ s k ∧ ¬ R k ∧ k ≠ w.heap.size ∧ k ≠ w.heap.size + 1) (W.putObj (w.heap.size + 1) (.loop { rec .ready none with state := .busy })) W3 → Turn (fun k => ¬ s k ∧ ¬ R k) W (W3.putObj (w.heap.size + 1) o) := fun o W3 h => by
    have hm : ¬ s (w.heap.size + 1) ∧ ¬ R (w.heap.size + 1) := ⟨hsl, fun e => by have := hR _ (.inl e); omega⟩
    exact ((Turn.putObj W _ _ hm).trans (h.mono fun j _ e => ⟨e.1, e.2.1⟩)).trans (Turn.putObj W3 _ _ hm)
   have hp3 : ∀ (W3 : World) (o : Obj), Turn (fun k => k = w.heap.size ∨ k = w.heap.size + 1) W3 (W3.putObj (w.heap.size + 1) o) := fun W3 o => Turn.putObj W3 _ o (.inr rfl)
   rintro e a3 W3 hp
   cases e with
   | normal =>
    obtain ⟨hk3, hi3⟩ := hp
    obtain ⟨hr, hl3, hl4, hk4⟩ := fin none W3 hk3
    exact ⟨_, _, hr, .inl ⟨rfl, ⟨hI2 _ _ _ _ hi3 (hp3 _ _), hl4, hk4, hsl, hsk⟩, tot _ _ hk3⟩⟩
   | ret =>
    obtain ⟨hk3, hi3⟩ := hp
    obtain ⟨hr, hl3, hl4, hk4⟩ := fin (some .ret) W3 hk3
    exact ⟨_, _, hr, .inr ⟨rfl, ⟨.ret, hIx2 _ _ _ _ _ hi3 (hp3 _ _), hl4, hk4, hsl, hsk⟩, tot _ _ hk3⟩⟩
   | exit id =>
    obtain ⟨hk3, hi3⟩ := hp
    obtain ⟨hr, hl3, hl4, hk4⟩ := fin (some (.exit id)) W3 hk3
    exact ⟨_, _, hr, .inr ⟨rfl, ⟨.exit id, hIx2 _ _ _ _ _ hi3 (hp3 _ _), hl4, hk4, hsl, hsk⟩, tot _ _ hk3⟩⟩
   | goto t =>
    obtain ⟨hk3, hi3⟩ := hp
    obtain ⟨hr, hl3, hl4, hk4⟩ := fin (some (.goto t)) W3 hk3
    exact ⟨_, _, hr, .inr ⟨rfl, ⟨.goto t, hIx2 _ _ _ _ _ hi3 (hp3 _ _), hl4, hk4, hsl, hsk⟩, tot _ _ hk3⟩⟩
   | panic ch => exact hp.elim
   | outgrown => exact hp.elim
  ·rintro e W2 ⟨⟨v, rfl⟩, (⟨s, xs, hS, hi, hl, hk, -, -⟩ | ⟨s, pre, hSp, c, hi, hl, hk, -, -⟩)⟩
   ·exact ⟨none, _, by have := run_endLoop (P := P) hl (by rw [hrec]; simp); rw [hrec] at this; exact this, hdone s xs _ hS (hI2 _ _ _ _ hi (Turn.putObj W2 _ _ (.inr rfl))) ((World.putObj_heap_other (by omega)).trans hk)⟩
   ·exact ⟨some c, _, by have := run_endLoop (P := P) hl (by rw [hrec]; simp); rw [hrec] at this; exact this, hstop c s pre _ hSp (hIx2 _ _ _ _ _ hi (Turn.putObj W2 _ _ (.inr rfl))) ((World.putObj_heap_other (by omega)).trans hk)⟩
end Go.Proofs.YtalmnodgjjcefaaGreatDoor
namespace Go.Proofs.YtalmnodgjjcefaaGreatDoor
open Go.RowKit
structure SeesM (m : Nat → Prop) (w : World) (A : Option Addr) (xs : List Value) : Prop where
 out : xs = [] ∨ ∃ ad, A = some ad ∧ m ad.block ∧ ∀ j u, xs[j]? = some u → w.cell? (ad.add j) = some u
structure Sees2M (m : Nat → Prop) (w : World) (A : Option Addr) (ls : List (List UInt8)) : Prop where
 out : ∀ i (hi : i < ls.length), ∃ ad Ai ci, A = some ad ∧ m ad.block ∧ w.cell? (ad.add i) = some (.slice Ai (ls[i]).length ci) ∧ (ls[i]).length ≤ ci ∧ SeesM m w Ai (bv ls[i])
structure Sees3M (m : Nat → Prop) (w : World) (A : Option Addr) (bl : List (List (List UInt8))) : Prop where
 out : ∀ i (hi : i < bl.length), ∃ ad Ai ci, A = some ad ∧ m ad.block ∧ w.cell? (ad.add i) = some (.slice Ai (bl[i]).length ci) ∧ (bl[i]).length ≤ ci ∧ Sees2M m w Ai bl[i]
def Kept (m : Nat → Prop) (w w' : World) : Prop := ∀ k, m k → w'.heap[k]? = w.heap[k]?
section
variable {m m' : Nat → Prop} {w w' : World} {A : Option Addr}
theorem Kept.cell (h : Kept m w w') {p : Addr} (hp : m p.block) : w'.cell? p = w.cell? p := World.cell?_of_block (h _ hp)
theorem Kept.trans {w'' : World} (h : Kept m w w') (k : Kept m w' w'') : Kept m w w'' := fun j hj => (k j hj).trans (h j hj)
theorem Kept.refl (m : Nat → Prop) (w : World) : Kept m w w := fun _ _ => rfl
theorem Kept.mono (h : Kept m w w') (hm : ∀ k, m' k → m k) : Kept m' w w' := fun j hj => h j (hm j hj)
theorem Kept.of_turn {T : Nat → Prop} (h : Turn T w w') (hm : ∀ k, m k → k < w.heap.size ∧ ¬ T k) : Kept m w w' := fun j hj => h.block j (hm j hj).1 (hm j hj).2
theorem Kept.of_below {B : Nat} (h : Below B w w') (hm : ∀ k, m k → k < B) : Kept m w w' := fun j hj => h.block j (hm j hj)
theorem Kept.drewN (m : Nat → Prop) (w : World) (q : Nat) : Kept m w (w.drewN q) := fun _ _ => rfl
theorem SeesM.keep {xs : List Value} (h : SeesM m w A xs) (hk : Kept m w w') : SeesM m w' A xs := by
 rcases h.out with h | ⟨ad, e, hb, hc⟩
 ·exact ⟨.inl h⟩
 ·exact ⟨.inr ⟨ad, e, hb, fun j u hu => (hk.cell (by rw [add_block]; exact hb)).trans (hc j u hu)⟩⟩
theorem SeesM.mono {xs : List Value} (h : SeesM m w A xs) (hm : ∀ k, m k → m' k) : SeesM m' w A xs := by
 rcases h.out with h | ⟨ad, e, hb, hc⟩
 ·exact ⟨.inl h⟩
 ·exact ⟨.inr ⟨ad, e, hm _ hb, hc⟩⟩
theorem SeesM.sees {xs : List Value} (h : SeesM m w A xs) {B : Nat} (hm : ∀ k, m k → k < B) : Sees w B A xs := by
 rcases h.out with h | ⟨ad, e, hb, hc⟩
 ·exact ⟨.inl h⟩
 ·exact ⟨.inr ⟨ad, e, hm _ hb, hc⟩⟩
theorem Sees.toM {xs : List Value} {B : Nat} (h : Sees w B A xs) : SeesM (fun k => k < B) w A xs := by
 rcases h.out with h | ⟨ad, e, hb, hc⟩
 ·exact ⟨.inl h⟩
 ·exact ⟨.inr ⟨ad, e, hb, hc⟩⟩
theorem Sees2M.keep {ls : List (List UInt8)} (h : Sees2M m w A ls) (hk : Kept m w w') : Sees2M m w' A ls :=
 ⟨fun i hi => by
  obtain ⟨ad, Ai, ci, h1, h2, h3, h4, h5⟩ := h.out i hi
  exact ⟨ad, Ai, ci, h1, h2, (hk.cell (by rw [add_block]; exact h2)).trans h3, h4, h5.keep hk⟩⟩
theorem Sees2M.mono {ls : List (List UInt8)} (h : Sees2M m w A ls) (hm : ∀ k, m k → m' k) : Sees2M m' w A ls :=
 ⟨fun i hi => by
  obtain ⟨ad, Ai, ci, h1, h2, h3, h4, h5⟩ := h.out i hi
  exact ⟨ad, Ai, ci, h1, hm _ h2, h3, h4, h5.mono hm⟩⟩
theorem Sees2M.sees {ls : List (List UInt8)} (h : Sees2M m w A ls) {B : Nat} (hm : ∀ k, m k → k < B) : Sees2 w B A ls :=
 ⟨fun i hi => by
  obtain ⟨ad, Ai, ci, h1, h2, h3, h4, h5⟩ := h.out i hi
  exact ⟨ad, Ai, ci, h1, hm _ h2, h3, h4, h5.sees hm⟩⟩
theorem Sees2.toM {ls : List (List UInt8)} {B : Nat} (h : Sees2 w B A ls) : Sees2M (fun k => k < B) w A ls :=
 ⟨fun i hi => by
  obtain ⟨ad, Ai, ci, h1, h2, h3, h4, h5⟩ := h.out i hi
  exact ⟨ad, Ai, ci, h1, h2, h3, h4, h5.toM⟩⟩
theorem Sees3M.keep {bl : List (List (List UInt8))} (h : Sees3M m w A bl) (hk : Kept m w w') : Sees3M m w' A bl :=
 ⟨fun i hi => by
  obtain ⟨ad, Ai, ci, h1, h2, h3, h4, h5⟩ := h.out i hi
  exact ⟨ad, Ai, ci, h1, h2, (hk.cell (by rw [add_block]; exact h2)).trans h3, h4, h5.keep hk⟩⟩
theorem Sees3M.mono {bl : List (List (List UInt8))} (h : Sees3M m w A bl) (hm : ∀ k, m k → m' k) : Sees3M m' w A bl :=
 ⟨fun i hi => by
  obtain ⟨ad, Ai, ci, h1, h2, h3, h4, h5⟩ := h.out i hi
  exact ⟨ad, Ai, ci, h1, hm _ h2, h3, h4, h5.mono hm⟩⟩
end
structure Box1 (W : World) (B : Nat) (t : TypeId) (v : Value) : Prop where
 out : Boxed W B t v
section
variable {W W' : World} {B : Nat} {t : TypeId} {v : Value}
theorem Box1.lt (h : Box1 W B t v) : B < W.heap.size := h.out.lt
theorem Box1.cell (h : Box1 W B t v) : W.cell? ⟨B, 0, none⟩ = some v := h.out.cell
theorem Box1.frozen (h : Box1 W B t v) : W.frozen? ⟨B, 0, none⟩ = false := h.out.frozen
theorem Box1.new (W : World) (t : TypeId) (v : Value) : Box1 (W.alloc (.cells #[v] t)) W.heap.size t v := ⟨Boxed.new W t v⟩
theorem Box1.alloc (h : Box1 W B t v) (o : Obj) : Box1 (W.alloc o) B t v := ⟨h.out.alloc o⟩
theorem Box1.turn {T : Nat → Prop} (h : Box1 W B t v) (ht : Turn T W W') (hn : ¬ T B) : Box1 W' B t v := ⟨(ht.block B h.lt hn).trans h.out⟩
theorem Box1.below {b : Nat} (h : Box1 W B t v) (hb : Below b W W') (hB : B < b) : Box1 W' B t v := ⟨(hb.block B hB).trans h.out⟩
theorem Box1.set (h : Box1 W B t v) (v' : Value) : Box1 (W.setCell ⟨B, 0, none⟩ v') B t v' := ⟨h.out.set v'⟩
theorem Box1.drewN (h : Box1 W B t v) (q : Nat) : Box1 (W.drewN q) B t v := ⟨h.out⟩
end
structure SeesU (m : Nat → Prop) (w : World) (A : Option Addr) (xs : List Value) : Prop where
 out : xs = [] ∨ ∃ ad, A = some ad ∧ m ad.block ∧ ∀ j u, xs[j]? = some u → w.cell? (ad.add j) = some u ∧ w.frozen? (ad.add j) = false
section
variable {m m' : Nat → Prop} {w w' : World} {A : Option Addr} {xs : List Value}
theorem frozen_of_block {a : Addr} (h : w'.heap[a.block]? = w.heap[a.block]?) : w'.frozen? a = w.frozen? a := by unfold World.frozen?; rw [h]
theorem SeesU.toM (h : SeesU m w A xs) : SeesM m w A xs := by
 rcases h.out with h | ⟨ad, e, hb, hc⟩
 ·exact ⟨.inl h⟩
 ·exact ⟨.inr ⟨ad, e, hb, fun j u hu => (hc j u hu).1⟩⟩
theorem SeesU.keep (h : SeesU m w A xs) (hk : Kept m w w') : SeesU m w' A xs := by
 rcases h.out with h | ⟨ad, e, hb, hc⟩
 ·exact ⟨.inl h⟩
 ·exact ⟨.inr ⟨ad, e, hb, fun j u hu => ⟨(hk.cell (by rw [add_block]; exact hb)).trans (hc j u hu).1, (frozen_of_block (hk _ (by rw [add_block]; exact hb))).trans (hc j u hu).2⟩⟩⟩
theorem SeesU.mono (h : SeesU m w A xs) (hm : ∀ k, m k → m' k) : SeesU m' w A xs := by
 rcases h.out with h | ⟨ad, e, hb, hc⟩
 ·exact ⟨.inl h⟩
 ·exact ⟨.inr ⟨ad, e, hm _ hb, hc⟩⟩
end
structure OwnQ (q : Nat → Prop) (w : World) (base : Nat) (v : Value) (ls : List (List UInt8)) : Prop where
 out : ∃ vs : List Value, w.ownsRow base 48 1 v ls.length vs ∧ (∀ k, v.ownBlock = some k → q k) ∧ ∀ i (hi : i < ls.length), ∃ Ai ci, vs[i]? = some (.slice Ai (ls[i]).length ci) ∧ (ls[i]).length ≤ ci ∧ SeesU (fun k => q k ∧ v.ownBlock ≠ some k) w Ai (bv ls[i])
section
variable {q : Nat → Prop} {w w' : World} {base : Nat} {v v' : Value} {ls : List (List UInt8)}
theorem OwnQ.nil (q : Nat → Prop) (w : World) (base : Nat) : OwnQ q w base (.slice none 0 0) [] := ⟨[], World.ownsRow_nil w base _ 1, fun k hk => by simp [Value.ownBlock] at hk, fun i hi => absurd hi (by simp)⟩
theorem ownsRow_kept {e : TypeId} {sz n : Nat} {xs : List Value} (h : w.ownsRow base e sz v n xs) (hk : ∀ k, v.ownBlock = some k → w'.heap[k]? = w.heap[k]?) : w'.ownsRow base e sz v n xs := by
 refine ⟨h.1, ?_⟩
 rcases h.2 with h2 | ⟨g, cap, cur, rfl, hb, hh, r⟩
 ·exact .inl h2
 ·exact .inr ⟨g, cap, cur, rfl, hb, (hk g rfl).trans hh, r⟩
theorem OwnQ.keep (h : OwnQ q w base v ls) (hk : Kept q w w') : OwnQ q w' base v ls := by
 obtain ⟨vs, h1, h2, h3⟩ := h.out
 refine ⟨vs, ownsRow_kept h1 (fun k e => hk k (h2 k e)), h2, fun i hi => ?_⟩
 obtain ⟨Ai, ci, g1, g2, g3⟩ := h3 i hi
 exact ⟨Ai, ci, g1, g2, g3.keep (hk.mono fun k e => e.1)⟩
theorem OwnQ.mono {q' : Nat → Prop} (h : OwnQ q w base v ls) (hq : ∀ k, q k → q' k) : OwnQ q' w base v ls := by
 obtain ⟨vs, h1, h2, h3⟩ := h.out
 refine ⟨vs, h1, fun k e => hq _ (h2 k e), fun i hi => ?_⟩
 obtain ⟨Ai, ci, g1, g2, g3⟩ := h3 i hi
 exact ⟨Ai, ci, g1, g2, g3.mono fun k e => ⟨hq _ e.1, e.2⟩⟩
theorem OwnQ.base_le {b : Nat} (h : OwnQ q w base v ls) (hb : b ≤ base) : OwnQ q w b v ls := by
 obtain ⟨vs, h1, h2, h3⟩ := h.out
 refine ⟨vs, ⟨h1.1, ?_⟩, h2, h3⟩
 rcases h1.2 with h | ⟨g, cap, cur, hv, hg, r⟩
 ·exact .inl h
 ·exact .inr ⟨g, cap, cur, hv, Nat.le_trans hb hg, r⟩
theorem OwnQ.open_ (h : OwnQ q w base v ls) : ∃ A c, v = .slice A ls.length c ∧ ls.length ≤ c ∧ Sees2M q w A ls := by
 obtain ⟨vs, h1, h2, h3⟩ := h.out
 rcases h1.2 with ⟨rfl, hn⟩ | ⟨g, cap, cur, rfl, hb, hh, hc, hm, _⟩
 ·have : ls = [] := List.eq_nil_of_length_eq_zero hn
  subst this
  exact ⟨none, 0, rfl, by simp, ⟨fun i hi => absurd hi (by simp)⟩⟩
 ·refine ⟨_, cap, rfl, hc, ⟨fun i hi => ?_⟩⟩
  obtain ⟨Ai, ci, g1, g2, g3⟩ := h3 i hi
  exact ⟨_, Ai, ci, rfl, h2 g rfl, h1.cells (g := g) rfl i _ g1, g2, (g3.mono fun k e => e.1).toM⟩
theorem OwnQ.toS (h : OwnQ q w base v ls) (hq : ∀ k, q k → base ≤ k ∧ k < w.heap.size) : OwnS w base v ls := by
 obtain ⟨vs, h1, h2, h3⟩ := h.out
 refine ⟨vs, h1, fun i hi => ?_⟩
 obtain ⟨Ai, ci, g1, g2, g3⟩ := h3 i hi
 refine ⟨Ai, ci, g1, g2, ?_⟩
 rcases g3.toM.out with e | ⟨ad, e, ⟨e1, e2⟩, e3⟩
 ·exact ⟨.inl e⟩
 ·exact ⟨.inr ⟨ad, e, (hq _ e1).1, (hq _ e1).2, fun e4 => e2 e4.symm, e3⟩⟩
theorem OwnQ.put {q2 : Nat → Prop} {vs : List Value} (x : List UInt8) (Ax : Option Addr) (cx : Nat) (hq : ∀ k, q k → k < w.heap.size)
  (_h2 : ∀ k, v.ownBlock = some k → q k) (h3 : ∀ i (hi : i < ls.length), ∃ Ai ci, vs[i]? = some (.slice Ai (ls[i]).length ci) ∧ (ls[i]).length ≤ ci ∧ SeesU (fun k => q k ∧ v.ownBlock ≠ some k) w Ai (bv ls[i])) (hvs : vs.length = ls.length)
  (hc : x.length ≤ cx) (hx : SeesU q2 w Ax (bv x)) (hq2 : ∀ k, q2 k → k < w.heap.size ∧ v.ownBlock ≠ some k)
  (hown : w'.ownsRow base 48 1 v' (ls.length + 1) (vs ++ [.slice Ax x.length cx])) (hon : Onto w w' v v') : OwnQ (fun k => q k ∨ q2 k ∨ v'.ownBlock = some k) w' base v' (ls ++ [x]) := by
 have hk : ∀ k, k < w.heap.size → v.ownBlock ≠ some k → w'.heap[k]? = w.heap[k]? ∧ v'.ownBlock ≠ some k := fun k h1 h2 => by
  refine ⟨hon.grown.block k h1 (fun e => h2 e.symm), fun e => ?_⟩
  rcases hon.at_ with e2 | ⟨g, e2, hg⟩
  ·exact h2 (e2 ▸ e)
  ·rw [e2] at e; injection e with e; omega
 refine ⟨vs ++ [.slice Ax x.length cx], by rw [List.length_append]; exact hown, fun k e => .inr (.inr e), fun i hi => ?_⟩
 by_cases hlt : i < ls.length
 ·obtain ⟨Ai, ci, g1, g2, g3⟩ := h3 i hlt
  rw [List.getElem_append_left hlt, List.getElem?_append_left (by omega)]
  exact ⟨Ai, ci, g1, g2, (g3.keep fun k e => (hk k (hq k e.1) e.2).1).mono fun k e => ⟨.inl e.1, (hk k (hq k e.1) e.2).2⟩⟩
 ·have he : i = ls.length := by simp at hi; omega
  subst he
  rw [List.getElem_append_right (Nat.le_refl _), List.getElem?_append_right (by omega)]
  refine ⟨Ax, cx, ?_, ?_, ?_⟩
  ·simp [hvs]
  ·simpa using hc
  ·simp only [Nat.sub_self, List.getElem_cons_zero]
   exact (hx.keep fun k e => (hk k (hq2 k e).1 (hq2 k e).2).1).mono fun k e => ⟨.inr (.inl e), (hk k (hq2 k e).1 (hq2 k e).2).2⟩
end
theorem ownB_seesM {w : World} {base n c : Nat} {A : Option Addr} {l : List UInt8} (h : OwnB w base (.slice A n c) l) : SeesM (fun k => base ≤ k ∧ k < w.heap.size) w A (bv l) := by
 rcases (SeesN.of_own h rfl none (by simp)).out with e | ⟨ad, e, h1, h2, -, h3⟩
 ·exact ⟨.inl e⟩
 ·exact ⟨.inr ⟨ad, e, ⟨h1, h2⟩, h3⟩⟩
theorem ownB_seesU {w : World} {base n c : Nat} {A : Option Addr} {l : List UInt8} (h : OwnB w base (.slice A n c) l) : SeesU (fun k => base ≤ k ∧ k < w.heap.size) w A (bv l) := by
 rcases h.2 with ⟨h0, h1⟩ | ⟨g, cap, cur, hv, hb, hh, -⟩
 ·refine ⟨.inl ?_⟩
  rw [List.eq_nil_of_length_eq_zero h1]; rfl
 ·injection hv with hv hn hc
  subst hv hn hc
  unfold OwnB at h
  exact ⟨.inr ⟨_, rfl, ⟨hb, (Array.getElem?_eq_some_iff.1 hh).1⟩, fun j u hu => ⟨World.ownsRow.cells h (g := g) rfl j u hu, by rw [Addr.add_lit]; exact World.ownsRow.frozenAt h (0 + j)⟩⟩⟩
theorem coll_done {q : Nat → Prop} {W wp wn : World} {base bx : Nat} {t : TypeId} {v v' : Value} {ls : List (List UInt8)} {vs : List Value} {y : List UInt8} {Ac : Option Addr} {cc : Nat}
  (hbox : Box1 W bx t v) (hq : ∀ k, q k → base ≤ k ∧ k < W.heap.size) (hbb : bx < base) (hbW : base ≤ W.heap.size)
  (h1 : W.ownsRow base 48 1 v ls.length vs) (h2 : ∀ k, v.ownBlock = some k → q k) (h3 : ∀ i (hi : i < ls.length), ∃ Ai ci, vs[i]? = some (.slice Ai (ls[i]).length ci) ∧ (ls[i]).length ≤ ci ∧ SeesU (fun k => q k ∧ v.ownBlock ≠ some k) W Ai (bv ls[i]))
  (hr : Below W.heap.size W wp) (hy : SeesU (fun k => W.heap.size ≤ k ∧ k < wp.heap.size) wp Ac (bv y)) (hc : y.length ≤ cc)
  (hown : wn.ownsRow base 48 1 v' (ls.length + 1) (vs ++ [.slice Ac y.length cc])) (hon : Onto wp wn v v') :
  ∃ q', (∀ k, q' k → (q k ∨ W.heap.size ≤ k) ∧ k < (wn.setCell ⟨bx, 0, none⟩ v').heap.size) ∧ OwnQ q' (wn.setCell ⟨bx, 0, none⟩ v') base v' (ls ++ [y]) ∧ Box1 (wn.setCell ⟨bx, 0, none⟩ v') bx t v' ∧ Turn (fun k => k = bx ∨ v.ownBlock = some k) W (wn.setCell ⟨bx, 0, none⟩ v') := by
 have hs1 := hr.size
 have hs2 := hon.size
 have hvs : vs.length = ls.length := by have := h1.1; omega
 have hbxv : v.ownBlock ≠ some bx := fun e => by have := (hq _ (h2 _ e)).1; omega
 have hbx' : v'.ownBlock ≠ some bx := fun e => by
  rcases hon.at_ with e2 | ⟨g, e2, hg⟩
  ·exact hbxv (e2 ▸ e)
  ·rw [e2] at e; injection e with e; omega
 have hQ : OwnQ (fun k => q k ∨ (W.heap.size ≤ k ∧ k < wp.heap.size) ∨ v'.ownBlock = some k) wn base v' (ls ++ [y]) :=
  OwnQ.put (w := wp) y Ac cc (fun k e => by have := (hq k e).2; omega) h2 (fun i hi => by
   obtain ⟨Ai, ci, g1, g2, g3⟩ := h3 i hi
   exact ⟨Ai, ci, g1, g2, g3.keep (Kept.of_below hr fun k e => (hq k e.1).2)⟩) hvs hc hy (fun k e => ⟨e.2, fun e2 => by have := (hq _ (h2 _ e2)).2; omega⟩) hown hon
 have hkS : Kept (fun k => q k ∨ (W.heap.size ≤ k ∧ k < wp.heap.size) ∨ v'.ownBlock = some k) wn (wn.setCell ⟨bx, 0, none⟩ v') := fun k e => Below.heap_setCell _ _ _ _ (fun e2 => by
  subst e2
  rcases e with e | e | e
  ·have := (hq _ e).1; omega
  ·have := e.1; omega
  ·exact hbx' e)
 refine ⟨_, fun k e => ⟨?_, ?_⟩, hQ.keep hkS, ?_, ?_⟩
 ·rcases e with e | e | e
  ·exact .inl e
  ·exact .inr e.1
  ·rcases hon.at_ with e2 | ⟨g, e2, hg⟩
   ·exact .inl (h2 _ (e2 ▸ e))
   ·rw [e2] at e; injection e with e; exact .inr (by omega)
 ·rw [World.size_setCell]
  rcases e with e | e | e
  ·have := (hq k e).2; omega
  ·omega
  ·exact (World.ownsRow.lt hown k e).2
 ·have b1 : Box1 wn bx t v := (hbox.below hr hbox.lt).turn (Turn.onto (T := fun k => v.ownBlock = some k) hon fun k e => e) hbxv
  exact b1.set v'
 ·exact ((Turn.of_new hr).trans (Turn.onto hon fun k e => .inr e)).trans (Turn.setCell _ _ _ (.inl rfl))
end Go.Proofs.YtalmnodgjjcefaaGreatDoor
namespace Go.Proofs.YtalmnodgjjcefaaGreatDoor
open Go.RowKit
def frB (o : List Item) : List UInt8 := frameOf 1 (packB o)
def outs (bl : List (List Item)) : List UInt8 := bl.flatMap frB
def idxs : Nat → List (List Item) → List UInt8
 | _, [] => []
 | p, o :: t => venc p ++ venc (o.headD []).length ++ o.headD [] ++ idxs (p + (frB o).length) t
def tabB (bl : List (List Item)) : List UInt8 := venc bl.length ++ idxs 0 bl
def place4 (n : Nat) : List UInt8 := tail4 n
def fileB (ls : List Item) : List UInt8 := outs (blk ls) ++ frameOf 2 (tabB (blk ls)) ++ place4 (outs (blk ls)).length
def okB (ls : List Item) : Bool := risesB ls && !(ls.any badL)
def buildE (ls : List Item) : Nat := if 2000 < ls.length then 2 else if ls.length = 0 ∨ okB ls = false then 1 else if 65535 < (tabB (blk ls)).length then 2 else 0
theorem take_snoc {α : Type} {l : List α} {k : Nat} (h : k < l.length) : l.take (k + 1) = l.take k ++ [l[k]] := by
 rw [List.take_add_one, List.getElem?_eq_getElem h]; rfl
theorem headD_get {o : List Item} (h : 0 < o.length) : o.headD [] = o[0] := by
 cases o with
 | nil => simp at h
 | cons x t => rfl
theorem blk_at : ∀ (m : Nat) (ls : List Item) (j : Nat), ls.length ≤ m → (h : j < (blk ls).length) → (blk ls)[j] = (ls.drop (8 * j)).take 8
 | 0, ls, j, hm, h => by rw [blk_nil (by omega)] at h; simp at h
 | m + 1, ls, j, hm, h => by
  by_cases h0 : ls.length = 0
  ·rw [blk_nil h0] at h; simp at h
  ·have hc := blk_cons (ls := ls) (by omega)
   cases j with
   | zero => simp [hc]
   | succ j =>
    have h2 : j < (blk (ls.drop 8)).length := by rw [hc] at h; simpa using h
    have := blk_at m (ls.drop 8) j (by rw [List.length_drop]; omega) h2
    simp only [hc, List.getElem_cons_succ, this, List.drop_drop]
    congr 2
    omega
theorem blk_len : ∀ (m : Nat) (ls : List Item), ls.length ≤ m → (blk ls).length = (ls.length + 7) / 8
 | 0, ls, hm => by rw [blk_nil (by omega)]; simp; omega
 | m + 1, ls, hm => by
  by_cases h0 : ls.length = 0
  ·rw [blk_nil h0]; simp; omega
  ·rw [blk_cons (by omega), List.length_cons, blk_len m _ (by rw [List.length_drop]; omega), List.length_drop]
   omega
theorem blk_get {ls : List Item} {j : Nat} (h : j < (blk ls).length) : (blk ls)[j] = (ls.drop (8 * j)).take 8 := blk_at ls.length ls j (Nat.le_refl _) h
theorem blk_length (ls : List Item) : (blk ls).length = (ls.length + 7) / 8 := blk_len ls.length ls (Nat.le_refl _)
theorem blk_flat : ∀ (m : Nat) (ls : List Item), ls.length ≤ m → (blk ls).flatten = ls
 | 0, ls, hm => by rw [blk_nil (by omega)]; simp; exact List.eq_nil_of_length_eq_zero (show ls.length = 0 by omega)
 | m + 1, ls, hm => by
  by_cases h0 : ls.length = 0
  ·rw [blk_nil h0]; simp; exact List.eq_nil_of_length_eq_zero h0
  ·rw [blk_cons (by omega), List.flatten_cons, blk_flat m _ (by rw [List.length_drop]; omega), List.take_append_drop]
theorem blk_flatten (ls : List Item) : (blk ls).flatten = ls := blk_flat ls.length ls (Nat.le_refl _)
structure OkTo (ls : List Item) (m : Nat) : Prop where
 fine : ∀ i (h : i < ls.length), i < m → badL ls[i] = false
 up : ∀ i (h : i + 1 < ls.length), i + 1 < m → ahead ls[i] ls[i + 1] = true
theorem OkTo.zero (ls : List Item) : OkTo ls 0 := ⟨fun _ _ h => by omega, fun _ _ h => by omega⟩
theorem rises_of : ∀ {ls : List Item}, (∀ i (h : i + 1 < ls.length), ahead ls[i] ls[i + 1] = true) → risesB ls = true
 | [], _ => rfl
 | [_], _ => rfl
 | a :: b :: t, h => by
  have h0 := h 0 (by simp)
  have ih := rises_of (ls := b :: t) (fun i hi => by have := h (i + 1) (by simpa using hi); simpa using this)
  simp only [List.getElem_cons_zero, List.getElem_cons_succ] at h0
  simp only [risesB, h0, ih, Bool.and_self]
theorem OkTo.ok {ls : List Item} {m : Nat} (h : OkTo ls m) (hm : ls.length ≤ m) : okB ls = true := by
 unfold okB
 rw [rises_of (fun i hi => h.up i hi (by omega))]
 have : ls.any badL = false := by
  rw [List.any_eq_false]
  intro x hx
  obtain ⟨i, hi, rfl⟩ := List.mem_iff_getElem.1 hx
  rw [h.fine i hi (by omega)]; simp
 rw [this]; rfl
theorem ok_parts {ls : List Item} (h : okB ls = true) : risesB ls = true ∧ ∀ x ∈ ls, badL x = false := by
 unfold okB at h
 rw [Bool.and_eq_true] at h
 refine ⟨h.1, fun x hx => ?_⟩
 have := h.2
 rw [Bool.not_eq_true', List.any_eq_false] at this
 have := this x hx
 simpa using this
theorem block_get {ls : List Item} {k i : Nat} (h : i < ((ls.drop k).take 8).length) : ((ls.drop k).take 8)[i] = ls[k + i]'(by rw [List.length_take, List.length_drop] at h; omega) := by
 rw [List.getElem_take, List.getElem_drop]
theorem OkTo.step {ls : List Item} {k : Nat} (h : OkTo ls (8 * k)) (hk : 8 * k < ls.length) (hb : ∀ (_ : 0 < k), ahead (ls[8 * k - 1]'(by omega)) ls[8 * k] = true) (hc : checkN ((ls.drop (8 * k)).take 8) = 0) : OkTo ls (8 * (k + 1)) := by
 obtain ⟨h8, h1, h3, h4⟩ := check_ok hc
 have hl : ((ls.drop (8 * k)).take 8).length = min 8 (ls.length - 8 * k) := by rw [List.length_take, List.length_drop]
 refine ⟨fun i hi him => ?_, fun i hi him => ?_⟩
 ·by_cases hlt : i < 8 * k
  ·exact h.fine i hi hlt
  ·have := h3 (i - 8 * k) (by omega)
   rw [block_get] at this
   simp only [show 8 * k + (i - 8 * k) = i from by omega] at this
   unfold badL
   rw [Bool.or_eq_false_iff, decide_eq_false_iff_not, decide_eq_false_iff_not]
   omega
 ·by_cases hlt : i + 1 < 8 * k
  ·exact h.up i hi hlt
  ·by_cases he : i + 1 = 8 * k
   ·have := hb (by omega)
    simp only [← he] at this
    exact this
   ·have := rises_pair h4 (i := i - 8 * k) (j := i + 1 - 8 * k) (by omega) (by omega) (by omega)
    rw [block_get, block_get] at this
    simp only [show 8 * k + (i - 8 * k) = i from by omega, show 8 * k + (i + 1 - 8 * k) = i + 1 from by omega] at this
    exact this
theorem not_ok_block {ls : List Item} {k : Nat} (hk : 8 * k < ls.length) (hc : checkN ((ls.drop (8 * k)).take 8) ≠ 0) : okB ls = false ∧ checkN ((ls.drop (8 * k)).take 8) = 1 := by
 have hl : ((ls.drop (8 * k)).take 8).length = min 8 (ls.length - 8 * k) := by rw [List.length_take, List.length_drop]
 have h1 : checkN ((ls.drop (8 * k)).take 8) = 1 := by
  rcases check_nz hc with h | h
  ·exact h
  ·unfold checkN at h; rw [if_neg (by omega)] at h; split at h <;> simp at h
 refine ⟨?_, h1⟩
 cases ho : okB ls with
 | false => rfl
 | true =>
  exfalso
  obtain ⟨hr, hf⟩ := ok_parts ho
  apply hc
  unfold checkN
  rw [if_neg (by omega), if_neg]
  rintro (h | h | h)
  ·omega
  ·rw [List.any_eq_true] at h
   obtain ⟨x, hx, hb⟩ := h
   rw [hf x (List.mem_of_mem_drop (List.mem_of_mem_take hx))] at hb
   exact absurd hb (by simp)
  ·rw [rises_of (fun i hi => by
    rw [block_get, block_get]
    exact rises_pair hr (by omega) (by omega) (by omega))] at h
   exact absurd h (by simp)
theorem block_ok {ls : List Item} (ho : okB ls = true) {k : Nat} (hk : 8 * k < ls.length) : checkN ((ls.drop (8 * k)).take 8) = 0 := by
 by_cases h : checkN ((ls.drop (8 * k)).take 8) = 0
 ·exact h
 ·have := (not_ok_block hk h).1; rw [ho] at this; exact absurd this (by simp)
end Go.Proofs.YtalmnodgjjcefaaGreatDoor
namespace Go.Proofs.YtalmnodgjjcefaaGreatDoor
open Go.RowKit
def Apart2 (v x : Value) : Prop := ∀ k, v.ownBlock = some k → x.ownBlock ≠ some k
theorem Apart2.nil (x : Value) : Apart2 (.slice none 0 0) x := fun k h => by simp [Value.ownBlock] at h
theorem Apart2.symm {v x : Value} (h : Apart2 v x) : Apart2 x v := fun k hk e => h k e hk
theorem Apart2.new {w : World} {base : Nat} {v x : Value} {l m : List UInt8} (hv : OwnB w base v l) {w' : World} (hx : OwnB w' w.heap.size x m) : Apart2 v x := fun k hk e => by
 have h1 := (World.ownsRow.lt hv k hk).2
 have h2 := (World.ownsRow.lt hx k e).1
 omega
end Go.Proofs.YtalmnodgjjcefaaGreatDoor
namespace Go.Proofs.YtalmnodgjjcefaaGreatDoor
open Go.RowKit
def BuildIs (w : World) (ls : List Item) (e : Ending) (w' : World) : Prop :=
 ∃ v, e = .returned (.tuple #[v, .int .i64 (buildE ls : Nat)]) ∧ OwnB w' w.heap.size v (if buildE ls = 0 then fileB ls else []) ∧ Below w.heap.size w w'
theorem BuildIs.err {w w' : World} {ls : List Item} {k : Nat} (h : buildE ls = k) (hk : k ≠ 0) (hb : Below w.heap.size w w') {z : Int} (hz : z = (k : Int)) : BuildIs w ls (.returned (.tuple #[.slice none 0 0, .int .i64 z])) w' := by
 subst hz; subst h
 exact ⟨_, rfl, by rw [if_neg hk]; exact OwnB.nil _ _, hb⟩
end Go.Proofs.YtalmnodgjjcefaaGreatDoor
