/-
  Several texts in one: Core Base Range Str Append Round SmPlain SmMap SmMem SmAt SmDo Words.
-/
import Derived.Test.YteidkmiladkoiaaGreatDoorRows
import Derived.WalkKit
import Derived.WalkSpells
import Derived.WalkLawsBesides
import Derived.Maps.AppendAt
import Derived.Deep.AppendLies
import Derived.Deep.Draws
import Derived.Lib.Hide
import Derived.Lib.LazyBuf
import Derived.BigQuiet
import Derived.Deep.QuietTactic
import Derived.Deep.LoopGhost
import Derived.Deep.DeepCutAuto
import Derived.Deep.DeepFit
import Derived.Deep.RegionHeld3
import Derived.Deep.Light
import Derived.RangeFuncNested
import Derived.RangeFuncBound
import Derived.RangeFuncCalls
import Derived.RangeFuncLeaves
import Derived.Shelf.Abstract
import Derived.Shelf.RegionOpen
import Derived.OwnWalkIn
import Derived.TacticsInMore
import Derived.LoopNIn
import Derived.LoopIn
import Derived.Lib.SlBytesConst
import Derived.Lib.UnsafeStr
import Derived.Lib.BytesEntry
import Derived.Laws.Externs
import Derived.Sort.Walk0
import Derived.Maps.RangeRun
import Derived.Maps.Keyed
import Derived.LaidEql
import Derived.RangeFuncBox
/-
  Words for memory that the walks of this claim use: what an address shows, what a step leaves. No program in sight.
-/
namespace Go.Proofs.YteidkmiladkoiaaGreatDoor
open Go.RowKit

/-- The address A shows the cells xs in the world w, below block B. -/
structure Sees (w : World) (B : Nat) (A : Option Addr) (xs : List Value) : Prop where
  out : xs = [] ∨ ∃ ad, A = some ad ∧ ad.block < B ∧ ∀ j u, xs[j]? = some u → w.cell? (ad.add j) = some u

theorem add_block (a : Addr) (n : Nat) : (a.add n).block = a.block := by unfold Addr.add; split <;> rfl
theorem add_add' (a : Addr) (i j : Nat) : (a.add i).add j = a.add (i + j) := by
  unfold Addr.add
  by_cases hi : i = 0 <;> by_cases hj : j = 0 <;> simp [hi, hj, Nat.add_assoc]

section
variable {w w' : World} {B B' : Nat} {A : Option Addr} {xs ys : List Value}
theorem Sees.nil (w : World) (B : Nat) (A : Option Addr) : Sees w B A [] := ⟨.inl rfl⟩
theorem Sees.at_ {k : Nat} (h : Sees w B A xs) (hk : k < xs.length) : ∃ ad, A = some ad ∧ ad.block < B ∧ w.cell? (ad.add k) = some xs[k] := by
  rcases h.out with h | ⟨ad, e, hb, hc⟩
  · subst h; simp at hk
  · exact ⟨ad, e, hb, hc k _ (List.getElem?_eq_getElem hk)⟩
theorem Sees.keep (h : Sees w B A xs) (hk : ∀ p : Addr, p.block < B → w'.cell? p = w.cell? p) : Sees w' B A xs := by
  rcases h.out with h | ⟨ad, e, hb, hc⟩
  · exact ⟨.inl h⟩
  · exact ⟨.inr ⟨ad, e, hb, fun j u hu => (hk _ (by rw [add_block]; exact hb)).trans (hc j u hu)⟩⟩
theorem Sees.more (h : Sees w B A xs) (hB : B ≤ B') : Sees w B' A xs := by
  rcases h.out with h | ⟨ad, e, hb, hc⟩
  · exact ⟨.inl h⟩
  · exact ⟨.inr ⟨ad, e, by omega, hc⟩⟩
theorem Sees.below (h : Sees w B A xs) (hb : Below B w w') : Sees w' B A xs := h.keep fun _ hp => hb.cell hp
theorem Sees.drew (h : Sees w B A xs) : Sees w.drew B A xs := ⟨h.out⟩
theorem Sees.drewN (h : Sees w B A xs) (k : Nat) : Sees (w.drewN k) B A xs := ⟨h.out⟩
theorem Sees.alloc (h : Sees w B A xs) (hB : B ≤ w.heap.size) (o : Obj) : Sees (w.alloc o) B A xs := h.keep fun p hp => World.cell?_alloc_lt w o p (by omega)
theorem Sees.grown (h : Sees w B A xs) {row : Option Nat} (hg : w.grownBy w' row) (hB : B ≤ w.heap.size) (hr : ∀ g, row = some g → B ≤ g) : Sees w' B A xs :=
  h.keep fun p hp => World.cell?_of_block (hg.block p.block (by omega) (fun e => by have := hr _ e.symm; omega))
theorem Sees.setCell (h : Sees w B A xs) {p : Addr} (hB : B ≤ p.block) (u : Value) : Sees (w.setCell p u) B A xs :=
  h.keep fun q hq => World.cell?_setCell_other w p q u (fun e => by subst e; omega)
/-- A cut 's[k:]' at elements of one cell. -/
theorem Sees.cut (h : Sees w B A xs) {k cap : Nat} (hc : xs.length ≤ cap) : Sees w B (if cap = k then A else A.map (·.add (k * 1))) (xs.drop k) := by
  by_cases hk : k < xs.length
  · rcases h.out with h | ⟨ad, rfl, hb, hcell⟩
    · subst h; simp at hk
    · rw [if_neg (by omega), Nat.mul_one]
      refine ⟨.inr ⟨ad.add k, rfl, by rw [add_block]; exact hb, fun j u hu => ?_⟩⟩
      rw [add_add']
      exact hcell _ u (by rw [← hu, List.getElem?_drop])
  · exact ⟨.inl (List.drop_eq_nil_of_le (by omega))⟩
theorem Sees.cut' (h : Sees w B A xs) (k : Nat) : Sees w B (A.map (fun x => x.add k)) (xs.drop k) := by
  by_cases hk : k < xs.length
  · have := h.cut (k := k) (cap := xs.length) (Nat.le_refl _)
    rw [if_neg (by omega), Nat.mul_one] at this
    exact this
  · exact ⟨.inl (List.drop_eq_nil_of_le (by omega))⟩
theorem Sees.cut0 (w : World) (B : Nat) (A : Option Addr) {k : Nat} (hk : xs.length ≤ k) : Sees w B A (xs.drop k) := ⟨.inl (List.drop_eq_nil_of_le hk)⟩
theorem Sees.take (h : Sees w B A xs) (k : Nat) : Sees w B A (xs.take k) := by
  rcases h.out with h | ⟨ad, e, hb, hc⟩
  · subst h; exact ⟨.inl (by simp)⟩
  · refine ⟨.inr ⟨ad, e, hb, fun j u hu => hc j u ?_⟩⟩
    rw [List.getElem?_take] at hu
    split at hu
    · exact hu
    · cases hu
theorem Sees.of_own {base : Nat} {e : TypeId} {size n c : Nat} (h : w.ownsRow base e size (.slice A n c) n xs) : Sees w w.heap.size A xs := by
  rcases h.2 with ⟨h0, h1⟩ | ⟨g, cap, cur, hv, hb, hh, _⟩
  · refine ⟨.inl ?_⟩
    have := h.1
    rw [h1, Nat.zero_mul] at this
    exact List.eq_nil_of_length_eq_zero this
  · injection hv with hv
    exact ⟨.inr ⟨_, hv, (Array.getElem?_eq_some_iff.1 hh).1, h.cells (g := g) (by simp [Value.ownBlock, hv])⟩⟩
end

/-- What a step that writes into the row of v and into new blocks leaves: v' is that row, or a new one. -/
structure Onto (w w' : World) (v v' : Value) : Prop where
  grown : w.grownBy w' v.ownBlock
  at_ : v'.ownBlock = v.ownBlock ∨ ∃ g, v'.ownBlock = some g ∧ w.heap.size ≤ g

section
variable {w w' w'' : World} {v v' v'' : Value}
theorem Onto.refl (w : World) (v : Value) : Onto w w v v := ⟨⟨rfl, rfl, rfl, Nat.le_refl _, fun _ _ _ => rfl⟩, .inl rfl⟩
theorem Onto.trans (h : Onto w w' v v') (k : Onto w' w'' v' v'') : Onto w w'' v v'' := by
  have hs := h.grown.size
  refine ⟨⟨k.grown.os.trans h.grown.os, k.grown.tape.trans h.grown.tape, k.grown.output.trans h.grown.output, Nat.le_trans hs k.grown.size, fun i hi hne => ?_⟩, ?_⟩
  · refine (k.grown.block i (by omega) (fun e => ?_)).trans (h.grown.block i hi hne)
    rcases h.at_ with h1 | ⟨g, h1, h2⟩
    · exact hne (e.trans h1)
    · rw [h1] at e; injection e; omega
  · rcases k.at_ with h1 | ⟨g, h1, h2⟩
    · rcases h.at_ with h3 | ⟨g, h3, h4⟩
      · exact .inl (h1.trans h3)
      · exact .inr ⟨g, h1.trans h3, h4⟩
    · exact .inr ⟨g, h1, by omega⟩
theorem Onto.below (h : Onto w w' v v') {B : Nat} (hB : B ≤ w.heap.size) (hv : ∀ k, v.ownBlock = some k → B ≤ k) : Below B w w' :=
  (Below.refl _ _).grown h.grown hB hv
theorem Onto.below_nil (h : Onto w w' (.slice none 0 0) v') : Below w.heap.size w w' := h.below (Nat.le_refl _) (by simp [Value.ownBlock])
theorem Onto.size (h : Onto w w' v v') : w.heap.size ≤ w'.heap.size := h.grown.size
theorem Onto.of_below (hb : Below w.heap.size w w') (v : Value) : Onto w w' v v :=
  ⟨⟨hb.os, hb.tape, hb.output, hb.size, fun k hk _ => hb.block k hk⟩, .inl rfl⟩
theorem Onto.new (w : World) (o : Obj) (v : Value) (n m : Nat) : Onto w (w.alloc o) v (.slice (some ⟨w.heap.size, 0, none⟩) n m) := ⟨World.grownBy_alloc w o _, .inr ⟨_, rfl, Nat.le_refl _⟩⟩
theorem Onto.of_alloc (w : World) (o : Obj) (v : Value) : Onto w (w.alloc o) v v := ⟨World.grownBy_alloc w o _, .inl rfl⟩
end

/-- A call that answers true and leaves what was there. -/
def IsTrue (w : World) (e : Ending) (w' : World) : Prop := e = .returned (.bool true) ∧ Below w.heap.size w w'
/-- A call that gives v and leaves what was there. -/
def Gives (w : World) (v : Value) (e : Ending) (w' : World) : Prop := e = .returned v ∧ Below w.heap.size w w'
theorem below_d {B : Nat} {a w : World} (h : Below B a w) (q : Nat) : Below B a (w.drewN q) := ⟨h.os, h.tape, h.output, h.size, h.block⟩
theorem below_undrew {B : Nat} {w w' : World} (h : Below B w.drew w') : Below B w w' := ⟨h.os, h.tape, h.output, h.size, h.block⟩
theorem below_drew {B : Nat} {a w : World} (h : Below B a w) : Below B a w.drew := ⟨h.os, h.tape, h.output, h.size, h.block⟩
theorem ret_bool {b b' : Bool} (h : b = b') : Ending.returned (.bool b) = .returned (.bool b') := by rw [h]
theorem ret_true {b : Bool} (h : b = true) : Ending.returned (.bool b) = .returned (.bool true) := by rw [h]
end Go.Proofs.YteidkmiladkoiaaGreatDoor

/-
  Words for memory that the walks of this claim use: byte rows as lists. No program in sight but the type of bytes.
-/
namespace Go.Proofs.YteidkmiladkoiaaGreatDoor
open Go.RowKit

/-- The cells of a row of bytes. -/
def bv (l : List UInt8) : List Value := l.map fun b => .int .u8 (b.toNat : Int)

theorem bv_length (l : List UInt8) : (bv l).length = l.length := by simp [bv]
theorem bv_append (l m : List UInt8) : bv (l ++ m) = bv l ++ bv m := by simp [bv]
theorem bv_at (l : List UInt8) (j : Nat) (h : j < l.length) : (bv l)[j]? = some (.int .u8 ((l[j]).toNat : Int)) := by simp [bv, h]
theorem bv_drop (l : List UInt8) (k : Nat) : bv (l.drop k) = (bv l).drop k := by simp [bv, List.map_drop]
theorem bv_take (l : List UInt8) (k : Nat) : bv (l.take k) = (bv l).take k := by simp [bv, List.map_take]
theorem bv_one {l : List UInt8} : ∀ u ∈ bv l, u.oneCell' = true := by
  intro u hu
  simp only [bv, List.mem_map] at hu
  obtain ⟨b, _, rfl⟩ := hu
  rfl

/-- A value of the call's own (blocks from 'base' on) that holds the bytes l. -/
def OwnB (w : World) (base : Nat) (v : Value) (l : List UInt8) : Prop := w.ownsRow base 5 1 v l.length (bv l)

section
variable {w w' : World} {base : Nat} {v : Value} {l : List UInt8}
theorem OwnB.nil (w : World) (base : Nat) : OwnB w base (.slice none 0 0) [] := World.ownsRow_nil w base _ 1
theorem OwnB.open_ (h : OwnB w base v l) : ∃ A c, v = .slice A l.length c ∧ l.length ≤ c ∧ c ≤ maxLen ∧ OwnB w base (.slice A l.length c) l ∧ Sees w w.heap.size A (bv l) := by
  have h' := h
  rcases h.2 with ⟨rfl, hn⟩ | ⟨g, cap, cur, rfl, hb, hh, hc, hm, _⟩
  · exact ⟨none, 0, by rw [hn], by omega, by simp [maxLen], by rw [hn]; exact h', ⟨.inl (by rw [List.eq_nil_of_length_eq_zero hn]; rfl)⟩⟩
  · exact ⟨_, cap, rfl, hc, hm, h', Sees.of_own h'⟩
theorem OwnB.below (h : OwnB w base v l) (hb : Below w.heap.size w w') : OwnB w' base v l :=
  World.ownsRow.kept (row := none) h ⟨hb.os, hb.tape, hb.output, hb.size, fun k hk _ => hb.block k hk⟩ (by cases v.ownBlock <;> simp)
theorem OwnB.base_le (h : OwnB w base v l) {b : Nat} (hb : b ≤ base) : OwnB w b v l := by
  refine ⟨h.1, ?_⟩
  rcases h.2 with h2 | ⟨g, cap, cur, hv, hg, r⟩
  · exact .inl h2
  · exact .inr ⟨g, cap, cur, hv, by omega, r⟩
end

theorem Tryz.binfo : (Tryz.prog.info? 5).map (fun i => (i.zero, i.size, i.bytes)) = some (some (.int .u8 0), 1, 1) := by kernel_rfl

/-- append of bytes that are seen onto a row of the call's own. -/
theorem run_append_b (w : World) (ty : TypeId) (base : Nat) (v : Value) (l : List UInt8) (hown : OwnB w base v l) (B : Nat) (A : Option Addr) (m c : Nat) (news : List UInt8) (hm : news.length = m) (hs : Sees w B A (bv news))
    (hlen : l.length + news.length ≤ 140737488355328) (hbase : base ≤ w.heap.size) :
    ∃ v' w', (Builtin.append_ #[32, 32] ty #[v, .slice A m c]).run Tryz.prog w = .ok v' w' ∧ OwnB w' base v' (l ++ news) ∧ Onto w w' v v' := by
  obtain ⟨i, hi, hz0, hz1, hz2⟩ := info_parts Tryz.binfo
  subst hm
  rcases hs.out with h0 | ⟨ad, rfl, hb, hc⟩
  · have hn : news = [] := by simpa [bv] using h0
    subst hn
    rw [List.append_nil]
    refine ⟨v, w, ?_, hown, Onto.refl _ _⟩
    rcases hown.2 with ⟨rfl, hx⟩ | ⟨g, cap, cur, rfl, _, _, hnc, _⟩
    · cases A <;> simp [Builtin.append_, run_underlying Tryz.underlying32, sizeOf, typeInfo, hi, Builtin.lenOf, Builtin.firstCells, loadCells, loadCellsFrom]
    · cases A <;> simp [Builtin.append_, run_underlying Tryz.underlying32, sizeOf, typeInfo, hi, Builtin.lenOf, Builtin.firstCells, hnc, storeCells, loadCells, loadCellsFrom]
  · obtain ⟨v', w', hrun, h2, h3, _, h5⟩ := run_append_own_at (P := Tryz.prog) w base 32 ty 5 i _ 1 1 Tryz.underlying32 hi hz0 hz1 hz2 rfl (by omega) v l.length (bv l) hown ad news.length c (bv news)
      (by rw [bv_length, Nat.mul_one]) hc bv_one (by simp only [maxLen]; omega) (by omega) hbase
    refine ⟨v', w', hrun, ?_, h3, ?_⟩
    · unfold OwnB
      rw [List.length_append, bv_append]
      exact h2
    · rcases h5 with h5 | h5
      · exact .inl h5
      · exact .inr ⟨_, h5, Nat.le_refl _⟩

/-- The same, at the operation of a walk. -/
theorem wpList_append_b {w : World} {ops : Array Oper} {rest : List Oper} {o : Oper} {a : Act} {Q : Exit → Act → World → Prop} (hgd : o.guard = none) (s x : Operand)
    (ho : o.op = .call { callee := .builtin .append, args := #[s, x], argTypes := #[32, 32] })
    (base : Nat) (v : Value) (l : List UInt8) (hs : a.eval s = v) (hown : OwnB w base v l) (B : Nat) (A : Option Addr) (m c : Nat) (news : List UInt8) (hx : a.eval x = .slice A m c) (hm : news.length = m) (hsee : Sees w B A (bv news))
    (hlen : l.length + news.length ≤ 140737488355328) (hbase : base ≤ w.heap.size)
    (h : ∀ v' w', OwnB w' base v' (l ++ news) → Onto w w' v v' → wpList Tryz.prog ops Q rest (a.put o.dst v') w') : wpList Tryz.prog ops Q (o :: rest) a w := by
  refine wpList_plain hgd fun K hK => ?_
  obtain ⟨v', w', hr, h2, h3⟩ := run_append_b w o.type base v l hown B A m c news hm hsee hlen hbase
  unfold Oper.wp execOp
  simp only [ho, resolve, invoke, builtin, Sem.run_bind, Sem.run_pure, Result.andThen_ok, List.map_toArray, List.map_cons, List.map_nil, hs, hx, hr]
  exact hK _ _ (h v' w' h2 h3)

/-- What was just laid by a slice literal of bytes is seen. -/
theorem sees_new (w : World) (l : List UInt8) (t : TypeId) (cs : Array Value) (h : cs = (bv l).toArray) : Sees (w.alloc (.cells cs t)) (w.heap.size + 1) (some ⟨w.heap.size, 0, none⟩) (bv l) := by
  subst h
  refine ⟨.inr ⟨_, rfl, by simp, fun j u hu => ?_⟩⟩
  rw [Addr.add_lit, World.cell?_alloc_at _ _ _ _ rfl]
  simpa using hu

theorem sees_one (w : World) (t : TypeId) (x : Int) (n : Nat) (hx : x = (n : Int) % 256) : Sees (w.alloc (.cells #[.int .u8 x] t)) (w.heap.size + 1) (some ⟨w.heap.size, 0, none⟩) (bv [UInt8.ofNat n]) :=
  sees_new w _ t _ (by subst hx; simp [bv])
theorem OwnB.alloc {w : World} {base : Nat} {v : Value} {l : List UInt8} (h : OwnB w base v l) (o : Obj) : OwnB (w.alloc o) base v l := World.ownsRow.alloc h o

theorem OwnB.new (w : World) (base : Nat) (hb : base ≤ w.heap.size) (l : List UInt8) (n : Nat) (hn : n = l.length) (cs : Array Value) (h : cs = (bv l).toArray) (hm : l.length ≤ maxLen) : OwnB (w.alloc (.cells cs 5)) base (.slice (some ⟨w.heap.size, 0, none⟩) n n) l := by
  subst hn
  have h2 := World.ownsRow_lit (e := 5) (size := 1) (base := base) w cs l.length hb hm (by simp [h, bv_length])
  unfold OwnB
  rw [h] at h2 ⊢
  exact h2

/-- A call that gives back the bytes l in a row of its own, behind v's. -/
def RetB (w : World) (base : Nat) (v : Value) (l : List UInt8) (e : Ending) (w' : World) : Prop :=
  ∃ v', e = .returned v' ∧ OwnB w' base v' l ∧ Onto w w' v v'

theorem OwnB.block {w : World} {base : Nat} {v : Value} {l : List UInt8} (h : OwnB w base v l) : ∀ k, v.ownBlock = some k → base ≤ k := fun k hk => (World.ownsRow.lt h k hk).1

end Go.Proofs.YteidkmiladkoiaaGreatDoor

/-
  A loop over an iterator, in words of blocks: which blocks a step may turn; the law of the statement. No program in sight.
-/
namespace Go.Proofs.YteidkmiladkoiaaGreatDoor
open Go.RowKit

/-- From A to B only blocks in T turn, and blocks are laid. -/
structure Turn (T : Nat → Prop) (A B : World) : Prop where
  os : B.os = A.os
  tape : B.tape = A.tape
  output : B.output = A.output
  size : A.heap.size ≤ B.heap.size
  block : ∀ k, k < A.heap.size → ¬ T k → B.heap[k]? = A.heap[k]?

section
variable {T T' : Nat → Prop} {A B C : World}
theorem Turn.refl (T : Nat → Prop) (A : World) : Turn T A A := ⟨rfl, rfl, rfl, Nat.le_refl _, fun _ _ _ => rfl⟩
theorem Turn.trans' (h : Turn T A B) (k : Turn T' B C) (hT : ∀ j, j < A.heap.size → T' j → T j) : Turn T A C :=
  ⟨k.os.trans h.os, k.tape.trans h.tape, k.output.trans h.output, Nat.le_trans h.size k.size, fun j hj hn => (k.block j (Nat.lt_of_lt_of_le hj h.size) (fun e => hn (hT j hj e))).trans (h.block j hj hn)⟩
theorem Turn.trans (h : Turn T A B) (k : Turn T B C) : Turn T A C := h.trans' k fun _ _ e => e
theorem Turn.mono (h : Turn T A B) (hT : ∀ j, j < A.heap.size → T j → T' j) : Turn T' A B := ⟨h.os, h.tape, h.output, h.size, fun j hj hn => h.block j hj (fun e => hn (hT j hj e))⟩
theorem Turn.below {b : Nat} (h : Turn T A B) (hT : ∀ j, T j → b ≤ j) (hb : b ≤ A.heap.size) : Below b A B := ⟨h.os, h.tape, h.output, h.size, fun j hj => h.block j (by omega) (fun e => by have := hT j e; omega)⟩
theorem Turn.of_below {b : Nat} (h : Below b A B) (hT : ∀ j, j < A.heap.size → b ≤ j → T j) : Turn T A B := ⟨h.os, h.tape, h.output, h.size, fun j hj hn => h.block j (by rcases Nat.lt_or_ge j b with g | g; exact g; exact absurd (hT j hj g) hn)⟩
theorem Turn.of_new (h : Below A.heap.size A B) : Turn T A B := .of_below h fun j h1 h2 => by omega
theorem Turn.of_grown {row : Option Nat} (h : A.grownBy B row) (hT : ∀ k, row = some k → T k) : Turn T A B := ⟨h.os, h.tape, h.output, h.size, fun j hj hn => h.block j hj (fun e => hn (hT j e.symm))⟩
theorem Turn.setCell (A : World) (p : Addr) (v : Value) (hT : T p.block) : Turn T A (A.setCell p v) := ⟨rfl, rfl, rfl, by simp [World.setCell], fun j _ hn => Below.heap_setCell A p v j (fun e => hn (e ▸ hT))⟩
theorem Turn.alloc (A : World) (o : Obj) : Turn T A (A.alloc o) := .of_new ((Below.refl _ A).alloc (Nat.le_refl _) o)
theorem Turn.drewN (A : World) (q : Nat) : Turn T A (A.drewN q) := .of_new (below_d (Below.refl _ A) q)
theorem Turn.drew (A : World) : Turn T A A.drew := .of_new (below_drew (Below.refl _ A))
theorem Turn.putObj (A : World) (r : Nat) (o : Obj) (hT : T r) : Turn T A (A.putObj r o) := ⟨rfl, rfl, rfl, by simp, fun j _ hn => World.putObj_heap_other (fun e => hn (e ▸ hT))⟩
theorem Turn.onto {v v' : Value} (h : Onto A B v v') (hT : ∀ k, v.ownBlock = some k → T k) : Turn T A B := .of_grown h.grown hT
theorem Turn.keep (h : Turn T A B) {p : Addr} (hp : p.block < A.heap.size) (hn : ¬ T p.block) : B.cell? p = A.cell? p := World.cell?_of_block (h.block _ hp hn)
theorem Turn.keepF (h : Turn T A B) {p : Addr} (hp : p.block < A.heap.size) (hn : ¬ T p.block) : B.frozen? p = A.frozen? p := World.frozen?_of_block (h.block _ hp hn)
end

/-- What an iterator owns behind a step: what it owned, and what was laid. -/
def grown (s : Nat → Prop) (A B : World) : Nat → Prop := fun k => s k ∨ (A.heap.size ≤ k ∧ k < B.heap.size)

/-- The contract of an iterator that owns blocks (s), reads others (R). A round turns none of them. Ok: what is known of what is told. -/
def SeqT {α : Type} (F : Fence) (n : Nat) (P : Program) (g : Nat) (lb : Array Value) (encs : α → Array Value) (R s0 : Nat → Prop) (Ok : (Nat → Prop) → List α → α → World → Prop) (S Sp : List α → Prop) (N : Nat) (w : World) : Prop :=
  ∀ (l : Nat) (J Jx : (Nat → Prop) → List α → World → Prop) (W : World), Below w.heap.size w W →
    (∀ s pre A B, J s pre A → Turn s A B → J (grown s A B) pre B) → (∀ s pre A B, Jx s pre A → Turn s A B → Jx (grown s A B) pre B) →
    (∀ s pre x W1, J s pre W1 → pre.length < N → Ok s pre x W1 → YieldAt F (n - 1) P l (encs x) W1 fun e W' =>
      (e = .returned (.bool true) ∧ J s (pre ++ [x]) W' ∧ Turn (fun k => ¬ s k ∧ ¬ R k) W1 W') ∨ (e = .returned (.bool false) ∧ Jx s (pre ++ [x]) W' ∧ Turn (fun k => ¬ s k ∧ ¬ R k) W1 W')) →
    J s0 [] W →
    CallsIn F n P g (#[.func (.yield l) #[] #[]] ++ lb) W fun e W' => (∃ v, e = .returned v) ∧ ((∃ s xs, S xs ∧ J s xs W') ∨ (∃ s pre, Sp pre ∧ Jx s pre W'))

/-- How the body of a round may be left. -/
def postT {α : Type} (R s : Nat → Prop) (D : Nat) (I : (Nat → Prop) → List α → World → Prop) (Ix : Code → (Nat → Prop) → List α → World → Prop) (xs : List α) (W : World) : Exit → Act → World → Prop
  | .normal, _, W' => Turn (fun k => ¬ s k ∧ ¬ R k ∧ k ≠ D ∧ k ≠ D + 1) W W' ∧ I s xs W'
  | .ret, _, W' => Turn (fun k => ¬ s k ∧ ¬ R k ∧ k ≠ D ∧ k ≠ D + 1) W W' ∧ Ix .ret s xs W'
  | .exit id, _, W' => Turn (fun k => ¬ s k ∧ ¬ R k ∧ k ≠ D ∧ k ≠ D + 1) W W' ∧ Ix (.exit id) s xs W'
  | .goto t, _, W' => Turn (fun k => ¬ s k ∧ ¬ R k ∧ k ≠ D ∧ k ≠ D + 1) W W' ∧ Ix (.goto t) s xs W'
  | .panic _, _, _ => False
  | .outgrown, _, _ => False

variable {F : Fence} {n : Nat} {P : Program}

theorem wpIn_rangeFunc_T {α : Type} {g : Operand} {ps : Array Tmp} {assign body : Code} {Q : Exit → Act → World → Prop} {a : Act} {w : World}
    (hro : F.round = none) (h1 : 1 ≤ n) {gf : Nat} {lb : Array Value} (hg : a.eval g = .func (.func gf) #[] lb) (hFg : F.fn gf) (eg : ∀ args w, (callFunc gf args).run P w = .ok (.enter gf args) w)
    {encs : α → Array Value} {R s0 : Nat → Prop} {Ok : (Nat → Prop) → List α → α → World → Prop} {S Sp : List α → Prop} {N : Nat} {w0 : World} (hseq : SeqT F (n - 1) P gf lb encs R s0 Ok S Sp N w0) (hb0 : Below w0.heap.size w0 w) (hps : ∀ x, (encs x).size = ps.size)
    (hR : ∀ k, R k ∨ s0 k → k < w.heap.size)
    (hOk : ∀ s pre x A B, Ok s pre x A → (∀ k, s k ∨ R k → k ≠ w.heap.size ∧ k ≠ w.heap.size + 1) → Turn (fun k => k = w.heap.size ∨ k = w.heap.size + 1) A B → Ok s pre x B)
    (I : (Nat → Prop) → List α → World → Prop) (Ix : Code → (Nat → Prop) → List α → World → Prop)
    (hI : ∀ s pre A B, I s pre A → Turn s A B → I (grown s A B) pre B) (hIx : ∀ c s pre A B, Ix c s pre A → Turn s A B → Ix c (grown s A B) pre B)
    (hI2 : ∀ s pre A B, I s pre A → Turn (fun k => k = w.heap.size ∨ k = w.heap.size + 1) A B → I s pre B) (hIx2 : ∀ c s pre A B, Ix c s pre A → Turn (fun k => k = w.heap.size ∨ k = w.heap.size + 1) A B → Ix c s pre B)
    (h0 : I s0 [] w) (a₁ : α → Act)
    (hassign : ∀ (l : Nat) (x : α) (W : World) (K : Act → World → Prop), K (a₁ x) W →
      assign.wpIn (F.inRound l) (n - 1 - 1) P (Exit.then K (fun _ _ _ => False)) { tmps := (ps.zip (encs x)).foldl (fun t (p, v) => t.setIfInBounds p v) a.tmps, defers := [] } W)
    (hbody : ∀ (l : Nat) (s : Nat → Prop) (pre : List α) (x : α) (W : World), I s pre W → pre.length < N → Ok s pre x W → w.heap.size + 2 ≤ W.heap.size → body.wpIn (F.inRound l) (n - 1 - 1) P (postT R s w.heap.size I Ix (pre ++ [x]) W) (a₁ x) W)
    (hdone : ∀ (s : Nat → Prop) (xs : List α) (W : World), S xs → I s xs W → W.heap[w.heap.size]? = some (.deferred (some [])) → Q .normal { a with defers := { target := .collected w.heap.size, args := #[] } :: a.defers } W)
    (hstop : ∀ (c : Code) (s : Nat → Prop) (pre : List α) (W : World), Sp pre → Ix c s pre W → W.heap[w.heap.size]? = some (.deferred (some [])) → c.wpIn F n P Q { a with defers := { target := .collected w.heap.size, args := #[] } :: a.defers } W) :
    (Code.rangeFunc g ps assign body).wpIn F n P Q a w := by
  refine wpIn_rangeFunc ?_
  intro fn hfn
  rw [hro]
  obtain ⟨rec, hrec⟩ : ∃ rec : LoopState → Option Code → Loop, rec = fun st pe => { state := st, pending := pe, fn, tmps := a.tmps, params := ps, assign, body, defers := w.heap.size } := ⟨_, rfl⟩
  obtain ⟨W1, hW1⟩ : ∃ W1, (w.alloc (.deferred (some []))).alloc (.loop (rec .ready none)) = W1 := ⟨_, rfl⟩
  have hL1 : W1.heap[w.heap.size + 1]? = some (.loop (rec .ready none)) := by
    rw [← hW1]; have := World.alloc_heap_new (w.alloc (.deferred (some []))) (.loop (rec .ready none)); rwa [World.size_alloc] at this
  have hK1 : W1.heap[w.heap.size]? = some (.deferred (some [])) := by
    rw [← hW1]; exact (Below.heap_alloc _ _ _ (by simp)).trans (World.alloc_heap_new w _)
  have hI1 : I s0 [] W1 := by rw [← hW1]; exact hI2 _ _ _ _ (hI2 _ _ _ _ h0 (Turn.alloc w _)) (Turn.alloc _ _)
  have hb1 : Below w0.heap.size w0 W1 := by
    rw [← hW1]; exact hb0.trans ((((Below.refl _ w).alloc (Nat.le_refl _) _).alloc (by simp) _).mono hb0.size)
  refine ⟨w.heap.size + 1, [{ target := .collected w.heap.size, args := #[] }], W1, { target := .fn (.func gf) lb, args := #[.func (.yield (w.heap.size + 1)) #[] #[]] }, W1, gf,
    #[.func (.yield (w.heap.size + 1)) #[] #[]] ++ lb, W1, ?_, ?_, ?_, ?_, fun _ => h1, ?_⟩
  · rw [← hW1, hrec]; exact run_enterLoop_outer _ _ _ _ _
  · simp only [resolve, hg]
    simp [go_sem]
  · intro f' hf'; simp [Target.leads] at hf'; subst hf'; exact hFg
  · simp [invoke, go_sem, eg]
  · have book : ∀ {s : Nat → Prop} {A B : World} {r : Nat} {o : Obj}, Turn s A B → ¬ s r → A.heap[r]? = some o → B.heap[r]? = some o ∧ ¬ grown s A B r := fun ht hs hr => by
      have hlt := (Array.getElem?_eq_some_iff.1 hr).1
      exact ⟨(ht.block _ hlt hs).trans hr, fun e => by rcases e with e | e; exact hs e; omega⟩
    refine (hseq (w.heap.size + 1)
      (fun s pre W => I s pre W ∧ W.heap[w.heap.size + 1]? = some (.loop (rec .ready none)) ∧ W.heap[w.heap.size]? = some (.deferred (some [])) ∧ ¬ s (w.heap.size + 1) ∧ ¬ s w.heap.size)
      (fun s pre W => ∃ c, Ix c s pre W ∧ W.heap[w.heap.size + 1]? = some (.loop (rec .done (some c))) ∧ W.heap[w.heap.size]? = some (.deferred (some [])) ∧ ¬ s (w.heap.size + 1) ∧ ¬ s w.heap.size)
      W1 hb1
      (fun s pre A B h ht => ⟨hI s pre A B h.1 ht, (book ht h.2.2.2.1 h.2.1).1, (book ht h.2.2.2.2 h.2.2.1).1, (book ht h.2.2.2.1 h.2.1).2, (book ht h.2.2.2.2 h.2.2.1).2⟩)
      (fun s pre A B h ht => by
        obtain ⟨c, h⟩ := h
        exact ⟨c, hIx c s pre A B h.1 ht, (book ht h.2.2.2.1 h.2.1).1, (book ht h.2.2.2.2 h.2.2.1).1, (book ht h.2.2.2.1 h.2.1).2, (book ht h.2.2.2.2 h.2.2.1).2⟩)
      ?_ ⟨hI1, hL1, hK1, fun e => by have := hR _ (.inr e); omega, fun e => by have := hR _ (.inr e); omega⟩).mono ?_
    · -- one round
      rintro s pre x W ⟨hi, hl, hk, hsl, hsk⟩ hlen hok
      have hlt : w.heap.size + 1 < W.heap.size := (Array.getElem?_eq_some_iff.1 hl).1
      have hy := run_yield (P := P) (args := encs x) hl (by rw [hrec]; exact hps x)
      rw [hrec] at hy
      refine ⟨fn, _, assign, body, hy, roundIn_of_wpIn hfn (hassign _ x W _ ⟨_, run_beginRound hl (by rw [hrec]), ?_⟩)⟩
      have hl2 : (W.putObj (w.heap.size + 1) (.loop { rec .ready none with state := .busy })).heap[w.heap.size + 1]? = some (.loop { rec .ready none with state := .busy }) := World.putObj_heap_same hlt
      have hk2 : (W.putObj (w.heap.size + 1) (.loop { rec .ready none with state := .busy })).heap[w.heap.size]? = some (.deferred (some [])) := (World.putObj_heap_other (by omega)).trans hk
      have ht2 : ∀ o, Turn (fun k => k = w.heap.size ∨ k = w.heap.size + 1) W (W.putObj (w.heap.size + 1) o) := fun o => Turn.putObj W _ o (.inr rfl)
      refine wpIn_mono (hbody _ s pre x _ (hI2 _ _ _ _ hi (ht2 _)) hlen (hOk _ _ _ _ _ hok (fun k hk => ⟨fun e => by subst e; rcases hk with h | h; exact hsk h; have := hR _ (.inl h); omega, fun e => by subst e; rcases hk with h | h; exact hsl h; have := hR _ (.inl h); omega⟩) (ht2 _)) (by rw [World.putObj_size]; exact hlt)) ?_
      have fin : ∀ (jump : Option Code) (W3 : World), Turn (fun k => ¬ s k ∧ ¬ R k ∧ k ≠ w.heap.size ∧ k ≠ w.heap.size + 1) (W.putObj (w.heap.size + 1) (.loop { rec .ready none with state := .busy })) W3 →
          (Instr.endRound (w.heap.size + 1) jump).run P W3 = .ok (.bool jump.isNone) (W3.putObj (w.heap.size + 1) (.loop (rec (if jump.isNone then .ready else .done) jump))) ∧
          W3.heap[w.heap.size + 1]? = some (.loop { rec .ready none with state := .busy }) ∧
          (W3.putObj (w.heap.size + 1) (.loop (rec (if jump.isNone then .ready else .done) jump))).heap[w.heap.size + 1]? = some (.loop (rec (if jump.isNone then .ready else .done) jump)) ∧
          (W3.putObj (w.heap.size + 1) (.loop (rec (if jump.isNone then .ready else .done) jump))).heap[w.heap.size]? = some (.deferred (some [])) := fun jump W3 hk3 => by
        have hl3 := (hk3.block (w.heap.size + 1) (by simp; omega) (fun e => e.2.2.2 rfl)).trans hl2
        have hk4 := (hk3.block w.heap.size (by simp; omega) (fun e => e.2.2.1 rfl)).trans hk2
        have := run_endRound (P := P) jump hl3
        rw [hrec] at this ⊢
        exact ⟨this, by rw [hrec] at hl3; exact hl3, World.putObj_heap_same (Array.getElem?_eq_some_iff.1 hl3).1, (World.putObj_heap_other (by omega)).trans hk4⟩
      have tot : ∀ (o : Obj) (W3 : World), Turn (fun k => ¬ s k ∧ ¬ R k ∧ k ≠ w.heap.size ∧ k ≠ w.heap.size + 1) (W.putObj (w.heap.size + 1) (.loop { rec .ready none with state := .busy })) W3 → Turn (fun k => ¬ s k ∧ ¬ R k) W (W3.putObj (w.heap.size + 1) o) := fun o W3 h => by
        have hm : ¬ s (w.heap.size + 1) ∧ ¬ R (w.heap.size + 1) := ⟨hsl, fun e => by have := hR _ (.inl e); omega⟩
        exact ((Turn.putObj W _ _ hm).trans (h.mono fun j _ e => ⟨e.1, e.2.1⟩)).trans (Turn.putObj W3 _ _ hm)
      have hp3 : ∀ (W3 : World) (o : Obj), Turn (fun k => k = w.heap.size ∨ k = w.heap.size + 1) W3 (W3.putObj (w.heap.size + 1) o) := fun W3 o => Turn.putObj W3 _ o (.inr rfl)
      rintro e a3 W3 hp
      cases e with
      | normal =>
        obtain ⟨hk3, hi3⟩ := hp
        obtain ⟨hr, hl3, hl4, hk4⟩ := fin none W3 hk3
        exact ⟨_, _, hr, .inl ⟨rfl, ⟨hI2 _ _ _ _ hi3 (hp3 _ _), hl4, hk4, hsl, hsk⟩, tot _ _ hk3⟩⟩
      | ret =>
        obtain ⟨hk3, hi3⟩ := hp
        obtain ⟨hr, hl3, hl4, hk4⟩ := fin (some .ret) W3 hk3
        exact ⟨_, _, hr, .inr ⟨rfl, ⟨.ret, hIx2 _ _ _ _ _ hi3 (hp3 _ _), hl4, hk4, hsl, hsk⟩, tot _ _ hk3⟩⟩
      | exit id =>
        obtain ⟨hk3, hi3⟩ := hp
        obtain ⟨hr, hl3, hl4, hk4⟩ := fin (some (.exit id)) W3 hk3
        exact ⟨_, _, hr, .inr ⟨rfl, ⟨.exit id, hIx2 _ _ _ _ _ hi3 (hp3 _ _), hl4, hk4, hsl, hsk⟩, tot _ _ hk3⟩⟩
      | goto t =>
        obtain ⟨hk3, hi3⟩ := hp
        obtain ⟨hr, hl3, hl4, hk4⟩ := fin (some (.goto t)) W3 hk3
        exact ⟨_, _, hr, .inr ⟨rfl, ⟨.goto t, hIx2 _ _ _ _ _ hi3 (hp3 _ _), hl4, hk4, hsl, hsk⟩, tot _ _ hk3⟩⟩
      | panic ch => exact hp.elim
      | outgrown => exact hp.elim
    · rintro e W2 ⟨⟨v, rfl⟩, (⟨s, xs, hS, hi, hl, hk, -, -⟩ | ⟨s, pre, hSp, c, hi, hl, hk, -, -⟩)⟩
      · exact ⟨none, _, by have := run_endLoop (P := P) hl (by rw [hrec]; simp); rw [hrec] at this; exact this, hdone s xs _ hS (hI2 _ _ _ _ hi (Turn.putObj W2 _ _ (.inr rfl))) ((World.putObj_heap_other (by omega)).trans hk)⟩
      · exact ⟨some c, _, by have := run_endLoop (P := P) hl (by rw [hrec]; simp); rw [hrec] at this; exact this, hstop c s pre _ hSp (hIx2 _ _ _ _ _ hi (Turn.putObj W2 _ _ (.inr rfl))) ((World.putObj_heap_other (by omega)).trans hk)⟩
end Go.Proofs.YteidkmiladkoiaaGreatDoor

/-
  Strings out of bytes.
-/
namespace Go.Proofs.YteidkmiladkoiaaGreatDoor
open Go.RowKit

def strOf (l : List UInt8) : ByteArray := ⟨l.toArray⟩
theorem run_str (w : World) (B : Nat) (A : Option Addr) (n c : Nat) (l : List UInt8) (hs : Sees w B A (bv l)) (hn : l.length = n) :
    (convert 32 9 (.slice A n c)).run Tryz.prog w = .ok (.string (strOf l)) w := by
  subst hn
  cases A with
  | none =>
    rcases hs.out with h | ⟨ad, h, _⟩
    · have : l = [] := by simpa [bv] using h
      subst this
      exact run_convert_bytes_nil w _ _ Tryz.underlying32 Tryz.underlying5 _ _ _ Tryz.underlying9
    · cases h
  | some a =>
    have hc : ∀ j u, (bv l)[j]? = some u → w.cell? (a.add j) = some u := by
      intro j u hu
      rcases hs.out with h | ⟨ad, h, _, hc⟩
      · rw [h] at hu; simp at hu
      · injection h with h
        subst h
        exact hc j u hu
    have hl := run_loadCells_list (P := Tryz.prog) w a (bv l) hc
    rw [run_convert_bytes_string w 32 9 5 _ l.length c Tryz.underlying32 Tryz.underlying5 Tryz.underlying9]
    have hb : bv l = (l.map fun b => (b.toNat : Int)).map (Value.int .u8) := by simp [bv]
    rw [hb, List.length_map, List.length_map] at hl
    rw [run_bytesToString w _ l.length c _ hl, foldl_push_bytes]
    have hm : l.map ((fun n : Int => UInt8.ofNat n.toNat) ∘ fun b : UInt8 => (b.toNat : Int)) = l := by
      have : ((fun n : Int => UInt8.ofNat n.toNat) ∘ fun b : UInt8 => (b.toNat : Int)) = id := by funext b; simp
      rw [this, List.map_id]
    rw [List.map_map, hm]
    simp [strOf, ByteArray.empty, ByteArray.emptyWithCapacity]
    rfl

theorem strOf_toList (l : List UInt8) : (strOf l).toList = l := by rw [Lib.toList_data]; rfl

end Go.Proofs.YteidkmiladkoiaaGreatDoor

/-
  append onto a row of the call's own, of elements of any size: at a plain list of operations, and at a step of a region that draws.
-/
namespace Go.Proofs.YteidkmiladkoiaaGreatDoor
open Go.RowKit

section
variable {P : Program}
theorem run_append_v (w : World) (t ty e : TypeId) (i : TypeInfo) (z : Value) (size bytes : Nat) (ht : P.underlying t = some (.slice e)) (hi : P.info? e = some i) (hz : i.zero = some z)
    (hsize : i.size = size) (hby : i.bytes = bytes) (hzs : z.cells.size = size) (hsz : 0 < size)
    (base : Nat) (v : Value) (n : Nat) (xs : List Value) (hown : w.ownsRow base e size v n xs) (B : Nat) (A : Option Addr) (m c : Nat) (news : List Value) (hm : news.length = m * size) (hs : Sees w B A news)
    (h1 : ∀ u ∈ news, u.oneCell' = true) (h63 : n + m ≤ maxLen) (hbytes : (n + m) * bytes ≤ 140737488355328) (hbase : base ≤ w.heap.size) :
    ∃ v' w', (Builtin.append_ #[t, t] ty #[v, .slice A m c]).run P w = .ok v' w' ∧ w'.ownsRow base e size v' (n + m) (xs ++ news) ∧ Onto w w' v v' := by
  rcases hs.out with h0 | ⟨ad, rfl, hb, hc⟩
  · subst h0
    have hm0 : m = 0 := by
      rcases Nat.eq_zero_or_pos m with h | h
      · exact h
      · have := Nat.mul_pos h hsz; simp at hm; omega
    subst hm0
    rw [List.append_nil]
    refine ⟨v, w, ?_, hown, Onto.refl _ _⟩
    rcases hown.2 with ⟨rfl, hx⟩ | ⟨g, cap, cur, rfl, _, _, hnc, _⟩
    · cases A <;> simp [Builtin.append_, run_underlying ht, sizeOf, typeInfo, hi, Builtin.lenOf, Builtin.firstCells, loadCells, loadCellsFrom]
    · cases A <;> simp [Builtin.append_, run_underlying ht, sizeOf, typeInfo, hi, Builtin.lenOf, Builtin.firstCells, hnc, storeCells, loadCells, loadCellsFrom]
  · obtain ⟨v', w', hrun, h2, h3, _, h5⟩ := run_append_own_at (P := P) w base t ty e i z size bytes ht hi hz hsize hby hzs hsz v n xs hown ad m c news hm hc h1 h63 hbytes hbase
    refine ⟨v', w', hrun, h2, h3, ?_⟩
    rcases h5 with h5 | h5
    · exact .inl h5
    · exact .inr ⟨_, h5, Nat.le_refl _⟩

theorem wp_append_v {w : World} {o : Oper} {a : Act} {K : Act → World → Prop} {Q : Exit → Act → World → Prop} (s x : Operand) (t : TypeId)
    (ho : o.op = .call { callee := .builtin .append, args := #[s, x], argTypes := #[t, t] })
    (e : TypeId) (i : TypeInfo) (z : Value) (size bytes : Nat) (ht : P.underlying t = some (.slice e)) (hi : P.info? e = some i) (hz : i.zero = some z)
    (hsize : i.size = size) (hby : i.bytes = bytes) (hzs : z.cells.size = size) (hsz : 0 < size)
    (base : Nat) (v : Value) (n : Nat) (xs : List Value) (hs : a.eval s = v) (hown : w.ownsRow base e size v n xs) (B : Nat) (A : Option Addr) (m c : Nat) (news : List Value) (hx : a.eval x = .slice A m c) (hm : news.length = m * size) (hsee : Sees w B A news)
    (h1 : ∀ u ∈ news, u.oneCell' = true) (h63 : n + m ≤ maxLen) (hbytes : (n + m) * bytes ≤ 140737488355328) (hbase : base ≤ w.heap.size)
    (h : ∀ v' w', w'.ownsRow base e size v' (n + m) (xs ++ news) → Onto w w' v v' → K (a.put o.dst v') w') : o.wp P a w K Q := by
  obtain ⟨v', w', hrun, h2, h3⟩ := run_append_v (P := P) w t o.type e i z size bytes ht hi hz hsize hby hzs hsz base v n xs hown B A m c news hm hsee h1 h63 hbytes hbase
  unfold Oper.wp execOp
  simp only [ho, resolve, invoke, builtin, Sem.run_bind, Sem.run_pure, Result.andThen_ok, List.map_toArray, List.map_cons, List.map_nil, hs, hx, hrun]
  exact h v' w' h2 h3

theorem wpList_append_v {w : World} {ops : Array Oper} {rest : List Oper} {o : Oper} {a : Act} {Q : Exit → Act → World → Prop} (hgd : o.guard = none) (s x : Operand) (t : TypeId)
    (ho : o.op = .call { callee := .builtin .append, args := #[s, x], argTypes := #[t, t] })
    (e : TypeId) (i : TypeInfo) (z : Value) (size bytes : Nat) (ht : P.underlying t = some (.slice e)) (hi : P.info? e = some i) (hz : i.zero = some z)
    (hsize : i.size = size) (hby : i.bytes = bytes) (hzs : z.cells.size = size) (hsz : 0 < size)
    (base : Nat) (v : Value) (n : Nat) (xs : List Value) (hs : a.eval s = v) (hown : w.ownsRow base e size v n xs) (B : Nat) (A : Option Addr) (m c : Nat) (news : List Value) (hx : a.eval x = .slice A m c) (hm : news.length = m * size) (hsee : Sees w B A news)
    (h1 : ∀ u ∈ news, u.oneCell' = true) (h63 : n + m ≤ maxLen) (hbytes : (n + m) * bytes ≤ 140737488355328) (hbase : base ≤ w.heap.size)
    (h : ∀ v' w', w'.ownsRow base e size v' (n + m) (xs ++ news) → Onto w w' v v' → wpList P ops Q rest (a.put o.dst v') w') : wpList P ops Q (o :: rest) a w :=
  wpList_plain hgd fun _ hK => wp_append_v s x t ho e i z size bytes ht hi hz hsize hby hzs hsz base v n xs hs hown B A m c news hx hm hsee h1 h63 hbytes hbase fun v' w' h2 h3 => hK _ _ (h v' w' h2 h3)

theorem step_append_v {w : World} {ops : Array Oper} {o : Oper} {a : Act} {K : Act → World → Prop} {Q : Exit → Act → World → Prop} {E : Prop} (hgd : o.guard = none) (s x : Operand) (t : TypeId)
    (ho : o.op = .call { callee := .builtin .append, args := #[s, x], argTypes := #[t, t] })
    (e : TypeId) (i : TypeInfo) (z : Value) (size bytes : Nat) (ht : P.underlying t = some (.slice e)) (hi : P.info? e = some i) (hz : i.zero = some z)
    (hsize : i.size = size) (hby : i.bytes = bytes) (hzs : z.cells.size = size) (hsz : 0 < size)
    (base : Nat) (v : Value) (n : Nat) (xs : List Value) (hs : a.eval s = v) (hown : w.ownsRow base e size v n xs) (B : Nat) (A : Option Addr) (m c : Nat) (news : List Value) (hx : a.eval x = .slice A m c) (hm : news.length = m * size) (hsee : Sees w B A news)
    (h1 : ∀ u ∈ news, u.oneCell' = true) (h63 : n + m ≤ maxLen) (hbytes : (n + m) * bytes ≤ 140737488355328) (hbase : base ≤ w.heap.size)
    (h : ∀ v' w', w'.ownsRow base e size v' (n + m) (xs ++ news) → Onto w w' v v' → K (a.put o.dst v') w') :
    if Region.wanted o (yielded ops a.tmps) = true then Oper.wp P o a w K Q else E := by
  have hw : Region.wanted o (yielded ops a.tmps) = true := by simp [Region.wanted, hgd]
  rw [if_pos hw]
  exact wp_append_v s x t ho e i z size bytes ht hi hz hsize hby hzs hsz base v n xs hs hown B A m c news hx hm hsee h1 h63 hbytes hbase h
end

/-- A row that was just made, as the call's own. -/
theorem own_new (w : World) (base : Nat) (hb : base ≤ w.heap.size) (e : TypeId) (size n : Nat) (xs : List Value) (hx : xs.length = n * size) (hm : n ≤ maxLen) (cs : Array Value) (h : cs = xs.toArray) :
    (w.alloc (.cells cs e)).ownsRow base e size (.slice (some ⟨w.heap.size, 0, none⟩) n n) n xs := by
  subst h
  have h2 := World.ownsRow_lit (e := e) (size := size) (base := base) w xs.toArray n hb hm (by simpa using hx)
  simpa using h2
theorem own_below {w w' : World} {base : Nat} {e : TypeId} {size n : Nat} {v : Value} {xs : List Value} (h : w.ownsRow base e size v n xs) (hb : Below w.heap.size w w') : w'.ownsRow base e size v n xs :=
  World.ownsRow.kept (row := none) h ⟨hb.os, hb.tape, hb.output, hb.size, fun k hk _ => hb.block k hk⟩ (by cases v.ownBlock <;> simp)
/-- Such a row's value, and what it shows. -/
theorem own_open {w : World} {base : Nat} {e : TypeId} {size n : Nat} {v : Value} {xs : List Value} (h : w.ownsRow base e size v n xs) : ∃ A c, v = .slice A n c ∧ n ≤ c ∧ c ≤ maxLen ∧ Sees w w.heap.size A xs := by
  rcases h.2 with ⟨rfl, hn⟩ | ⟨g, cap, cur, rfl, hb, hh, hc, hm, _⟩
  · have h1 := h.1
    rw [hn, Nat.zero_mul] at h1
    exact ⟨none, 0, by rw [hn], by omega, by simp [maxLen], ⟨.inl (List.eq_nil_of_length_eq_zero h1)⟩⟩
  · exact ⟨_, cap, rfl, hc, hm, Sees.of_own h⟩
theorem own_block {w : World} {base : Nat} {e : TypeId} {size n : Nat} {v : Value} {xs : List Value} (h : w.ownsRow base e size v n xs) : ∀ k, v.ownBlock = some k → base ≤ k := fun k hk => (World.ownsRow.lt h k hk).1
/-- What lay below a row's blocks is seen as before, behind a step that writes into that row. -/
theorem Sees.onto {w w' : World} {B : Nat} {A : Option Addr} {xs : List Value} {v v' : Value} (h : Sees w B A xs) (ho : Onto w w' v v') (hB : B ≤ w.heap.size) (hv : ∀ k, v.ownBlock = some k → B ≤ k) : Sees w' B A xs :=
  h.grown ho.grown hB hv
end Go.Proofs.YteidkmiladkoiaaGreatDoor

/-
  A region that draws its order, in a round of a loop over an iterator: by the laws of a plain frame. No program in sight.
-/
namespace Go.Proofs.YteidkmiladkoiaaGreatDoor
open Go.RowKit

/-- Q where a statement ends normally; nothing else. -/
def Only (Q : Exit → Act → World → Prop) : Exit → Act → World → Prop
  | .normal, a, w => Q .normal a w
  | _, _, _ => False
theorem Only.normal {Q : Exit → Act → World → Prop} {a : Act} {w : World} (h : Q .normal a w) : Only Q .normal a w := h
theorem Only.stays (Q : Exit → Act → World → Prop) : ¬ LetsOut (Only Q) := fun ⟨_, _, h⟩ => h

variable {l n : Nat} {P : Program} {Q : Exit → Act → World → Prop}

theorem wpIn_of_wp_round {o : Oper} {a : Act} {w : World} {K K' : Act → World → Prop} (hnd : ∀ c, o.op ≠ .defer c) (hK : ∀ a w, K a w → K' a w) (h : o.wp P a w K (Only Q)) : o.wpIn (Fence.wide.inRound l) n P a w K' Q := by
  refine ⟨fun _ _ => trivial, ?_⟩
  rw [show (Fence.wide.inRound l).round = some l from rfl, Oper.semAt_eq _ _ _ hnd]
  unfold Oper.wp at h
  generalize (execOp a.eval o).run P w = r at h ⊢
  cases r with
  | ok x w' =>
    cases x with
    | value v => exact hK _ _ h
    | skip => exact hK _ _ h
    | defer d => exact hK _ _ h
    | enter f args =>
      refine ⟨fun h => absurd h (by simp [Fence.inRound, Fence.wide]), ?_⟩
      have h' : Calls P f args w' (fun | .returned v, w'' => K (a.put o.dst v) w'' | .panicked chain, w'' => Only Q (.panic chain) a w'' | .outgrown, _ => LetsOut (Only Q)) := h
      refine (CallsIn.inRound l (callsIn_wide.2 h')).mono fun e w'' he => ?_
      cases e with
      | returned v => exact hK _ _ he
      | panicked c => exact he.elim
      | outgrown => exact absurd he (Only.stays Q)
    | row row args =>
      refine ⟨fun h => absurd h (by simp [Fence.inRound, Fence.wide]), ?_⟩
      have h' : Rows P row args w' (fun v w'' => K (a.put o.dst v) w'') := h
      intro c cs _
      obtain ⟨v, w'', hr, hs⟩ := h' c cs
      exact ⟨v, w'', hK _ _ hr, stepsIn_wide.2 hs⟩
    | round => exact h.elim
    | _ => exact h.elim
  | halt x w' =>
    cases x <;> exact h.elim

theorem wpAnyIn_of_wpAny {md : Region.Mode} {ops : Array Oper} (hnd : ∀ (i : Nat) (o : Oper), ops[i]? = some o → ∀ c : Call, o.op ≠ .defer c) : ∀ (fuel : Nat) (listed : Array Bool) (a : Act) (w : World), wpAny P md ops (Only Q) fuel listed a w → wpAnyIn (Fence.wide.inRound l) n P md ops Q fuel listed a w
  | 0, _, _, _, h => h
  | fuel + 1, listed, a, w, h => by
    refine ⟨h.1, fun i hi => ?_⟩
    have hop := h.2 i hi
    unfold wpOp at hop
    unfold wpOpIn
    cases ho : ops[i]? with
    | none =>
      rw [ho] at hop
      exact wpAnyIn_of_wpAny hnd fuel _ _ _ hop
    | some o =>
      rw [ho] at hop
      simp only at hop ⊢
      split
      · rename_i hw
        rw [if_pos hw] at hop
        rcases hop with hop | ⟨_, hop⟩
        · exact wpIn_of_wp_round (hnd i o ho) (fun a w => wpAnyIn_of_wpAny hnd fuel _ a w) hop
        · exact absurd hop (Only.stays Q)
      · rename_i hw
        rw [if_neg hw] at hop
        exact ⟨fun _ _ => trivial, wpAnyIn_of_wpAny hnd fuel _ _ _ hop⟩

/-- A region that draws its order, in a round. -/
theorem wpIn_round_held {S : World → Prop} {id : Nat} {ops : Array Oper} {a : Act} {w : World} (hnd : ops.all (fun o => match o.op with | .defer _ => false | _ => true) = true) (hm : P.follows .mixedOrders = true) (hS : S w.drew)
    (h : S w.drew → wpAnyH P .any ops (Only Q) S ops.size (Array.replicate ops.size false) a w.drew) : (Code.region id ops true).wpIn (Fence.wide.inRound l) n P Q a w := by
  refine wpIn_region_any hm (wpAnyIn_of_wpAny (fun i o ho c e => ?_) _ _ _ _ (wpAny_of_held _ _ _ _ (h hS)))
  rw [Array.all_eq_true] at hnd
  obtain ⟨hi, he⟩ := Array.getElem?_eq_some_iff.1 ho
  have := hnd i hi
  rw [he, e] at this
  exact absurd this (by simp)
/-- append onto a row of the call's own, at an operation of a plain region in a round. -/
theorem wpListIn_append_v {w : World} {ops : Array Oper} {rest : List Oper} {o : Oper} {a : Act} (hgd : o.guard = none) (s x : Operand) (t : TypeId)
    (ho : o.op = .call { callee := .builtin .append, args := #[s, x], argTypes := #[t, t] })
    (e : TypeId) (i : TypeInfo) (z : Value) (size bytes : Nat) (ht : P.underlying t = some (.slice e)) (hi : P.info? e = some i) (hz : i.zero = some z)
    (hsize : i.size = size) (hby : i.bytes = bytes) (hzs : z.cells.size = size) (hsz : 0 < size)
    (base : Nat) (v : Value) (k : Nat) (xs : List Value) (hs : a.eval s = v) (hown : w.ownsRow base e size v k xs) (B : Nat) (A : Option Addr) (m c : Nat) (news : List Value) (hx : a.eval x = .slice A m c) (hm : news.length = m * size) (hsee : Sees w B A news)
    (h1 : ∀ u ∈ news, u.oneCell' = true) (h63 : k + m ≤ maxLen) (hbytes : (k + m) * bytes ≤ 140737488355328) (hbase : base ≤ w.heap.size)
    (h : ∀ v' w', w'.ownsRow base e size v' (k + m) (xs ++ news) → Onto w w' v v' → wpListIn (Fence.wide.inRound l) n P ops Q rest (a.put o.dst v') w') : wpListIn (Fence.wide.inRound l) n P ops Q (o :: rest) a w := by
  unfold wpListIn
  rw [if_pos (by simp [Region.wanted, hgd])]
  exact wpIn_of_wp_round (fun c e => by rw [ho] at e; cases e) (fun _ _ h => h) (wp_append_v s x t ho e i z size bytes ht hi hz hsize hby hzs hsz base v k xs hs hown B A m c news hx hm hsee h1 h63 hbytes hbase h)
end Go.Proofs.YteidkmiladkoiaaGreatDoor

/-
  Files by path: plain. No program in sight.
-/
namespace Go.Proofs.YteidkmiladkoiaaGreatDoor

/-- Paths, and the numbers of their files; the paths rise. -/
abbrev Txt := List UInt8
abbrev Dir := List (Txt × Nat)
def RiD (l : Dir) : Prop := l.Pairwise fun x y => x.1 < y.1
/-- A path, and its file; none: it is gone. -/
abbrev Giv := Txt × Option Nat
def insD (p : Txt) (n : Nat) : Dir → Dir
  | [] => [(p, n)]
  | x :: r => if x.1 < p then x :: insD p n r else (p, n) :: (x :: r).filter fun y => decide (y.1 ≠ p)
def delD (p : Txt) (l : Dir) : Dir := l.filter fun y => decide (y.1 ≠ p)
def putD (l : Dir) (g : Giv) : Dir := match g.2 with
  | none => delD g.1 l
  | some n => insD g.1 n l
def againD (l : Dir) (c : List Giv) : Dir := c.foldl putD l
def lookD (l : Dir) (p : Txt) : Option Nat := (l.find? fun y => decide (y.1 = p)).map (·.2)

theorem lt_irr (a : Txt) : ¬ a < a := List.lt_irrefl a
theorem lt_ne {a b : Txt} (h : a < b) : a ≠ b := fun e => by subst e; exact lt_irr _ h
theorem lt_of_not {a b : Txt} (h : ¬ a < b) (hne : a ≠ b) : b < a := by
  by_cases h2 : b < a
  · exact h2
  · exact absurd (List.le_antisymm (α := UInt8) (show a ≤ b from h2) (show b ≤ a from h)) hne

theorem mem_ins {p : Txt} {n : Nat} : ∀ {l : Dir}, RiD l → ∀ x, x ∈ insD p n l ↔ x = (p, n) ∨ (x ∈ l ∧ x.1 ≠ p)
  | [], _, x => by simp [insD]
  | y :: r, h, x => by
    obtain ⟨h1, h2⟩ := List.pairwise_cons.1 h
    unfold insD
    split
    · rename_i hy
      rw [List.mem_cons, mem_ins h2 x, List.mem_cons]
      constructor
      · rintro (rfl | rfl | ⟨hx, hne⟩)
        · exact .inr ⟨.inl rfl, lt_ne hy⟩
        · exact .inl rfl
        · exact .inr ⟨.inr hx, hne⟩
      · rintro (rfl | ⟨rfl | hx, hne⟩)
        · exact .inr (.inl rfl)
        · exact .inl rfl
        · exact .inr (.inr ⟨hx, hne⟩)
    · rw [List.mem_cons, List.mem_filter, decide_eq_true_eq]
theorem mem_del {p : Txt} {l : Dir} (x : Txt × Nat) : x ∈ delD p l ↔ x ∈ l ∧ x.1 ≠ p := by simp [delD, List.mem_filter]
theorem mem_put {l : Dir} (h : RiD l) (g : Giv) (x : Txt × Nat) : x ∈ putD l g ↔ (g.2 = some x.2 ∧ x.1 = g.1) ∨ (x ∈ l ∧ x.1 ≠ g.1) := by
  unfold putD
  split
  · rename_i e
    rw [mem_del, e]; simp
  · rename_i n e
    rw [mem_ins h, e]
    constructor
    · rintro (rfl | hx)
      · exact .inl ⟨rfl, rfl⟩
      · exact .inr hx
    · rintro (⟨h1, h2⟩ | hx)
      · obtain ⟨x1, x2⟩ := x
        simp only [Option.some.injEq] at h1
        simp only at h2
        exact .inl (by rw [h2, h1])
      · exact .inr hx
theorem ri_ins {p : Txt} {n : Nat} : ∀ {l : Dir}, RiD l → RiD (insD p n l)
  | [], _ => by simp [insD, RiD]
  | y :: r, h => by
    obtain ⟨h1, h2⟩ := List.pairwise_cons.1 h
    unfold insD
    split
    · rename_i hy
      refine List.pairwise_cons.2 ⟨fun x hx => ?_, ri_ins h2⟩
      rcases (mem_ins h2 x).1 hx with rfl | ⟨hx, -⟩
      · exact hy
      · exact h1 x hx
    · rename_i hy
      refine List.pairwise_cons.2 ⟨fun x hx => ?_, h.filter _⟩
      obtain ⟨hx, hne⟩ := List.mem_filter.1 hx
      rw [decide_eq_true_eq] at hne
      have hyp : ¬ x.1 < p := fun e => by
        rcases List.mem_cons.1 hx with rfl | hx
        · exact hy e
        · exact hy (List.lt_trans (h1 x hx) e)
      exact lt_of_not hyp hne
theorem ri_put {l : Dir} (h : RiD l) (g : Giv) : RiD (putD l g) := by
  unfold putD
  split
  · exact h.filter _
  · exact ri_ins h
theorem ri_again : ∀ (c : List Giv) {l : Dir}, RiD l → RiD (againD l c)
  | [], _, h => h
  | g :: c, _, h => ri_again c (ri_put h g)
theorem len_ins (p : Txt) (n : Nat) : ∀ l : Dir, (insD p n l).length ≤ l.length + 1
  | [] => by simp [insD]
  | y :: r => by
    unfold insD
    split
    · have := len_ins p n r; simp; omega
    · have := List.length_filter_le (fun y : Txt × Nat => decide (y.1 ≠ p)) (y :: r); simp only [List.length_cons] at this ⊢; omega
theorem len_put (l : Dir) (g : Giv) : (putD l g).length ≤ l.length + 1 := by
  unfold putD
  split
  · have := List.length_filter_le (fun y : Txt × Nat => decide (y.1 ≠ g.1)) l; unfold delD; omega
  · exact len_ins _ _ _
theorem len_again : ∀ (c : List Giv) (l : Dir), (againD l c).length ≤ l.length + c.length
  | [], l => by simp [againD]
  | g :: c, l => by
    have h1 := len_again c (putD l g)
    have h2 := len_put l g
    simp only [againD, List.foldl_cons, List.length_cons] at h1 ⊢
    omega

theorem key_uniq {l : Dir} (h : RiD l) {p : Txt} {m n : Nat} (h1 : (p, m) ∈ l) (h2 : (p, n) ∈ l) : m = n := by
  induction l with
  | nil => cases h1
  | cons a r ih =>
    obtain ⟨g1, g2⟩ := List.pairwise_cons.1 h
    rcases List.mem_cons.1 h1 with e1 | h1
    · rcases List.mem_cons.1 h2 with e2 | h2
      · have := e1.trans e2.symm; exact congrArg Prod.snd this
      · exact absurd (g1 _ h2) (by rw [← e1]; exact lt_irr _)
    · rcases List.mem_cons.1 h2 with e2 | h2
      · exact absurd (g1 _ h1) (by rw [← e2]; exact lt_irr _)
      · exact ih g2 h1 h2
theorem look_none {l : Dir} {p : Txt} : lookD l p = none ↔ ∀ x ∈ l, x.1 ≠ p := by
  unfold lookD
  rw [Option.map_eq_none_iff, List.find?_eq_none]
  simp
theorem look_mem {l : Dir} {p : Txt} {n : Nat} (h : lookD l p = some n) : (p, n) ∈ l := by
  unfold lookD at h
  obtain ⟨x, h1, h2⟩ := Option.map_eq_some_iff.1 h
  have h3 := List.mem_of_find?_eq_some h1
  have h4 := List.find?_some h1
  rw [decide_eq_true_eq] at h4
  obtain ⟨x1, x2⟩ := x
  simp only at h4 h2
  rw [← h4, ← h2]
  exact h3
theorem look_iff {l : Dir} (h : RiD l) {p : Txt} {n : Nat} : lookD l p = some n ↔ (p, n) ∈ l := by
  refine ⟨look_mem, fun hm => ?_⟩
  cases e : lookD l p with
  | none => exact absurd rfl (look_none.1 e _ hm)
  | some m => rw [key_uniq h (look_mem e) hm]
theorem look_put {l : Dir} (h : RiD l) (g : Giv) (q : Txt) : lookD (putD l g) q = if q = g.1 then g.2 else lookD l q := by
  have hr := ri_put h g
  by_cases hq : q = g.1
  · rw [if_pos hq]
    cases e : g.2 with
    | none =>
      refine look_none.2 fun x hx => ?_
      rcases (mem_put h g x).1 hx with ⟨h1, -⟩ | ⟨-, h2⟩
      · rw [e] at h1; cases h1
      · rw [hq]; exact h2
    | some n => exact (look_iff hr).2 ((mem_put h g _).2 (.inl ⟨e, hq⟩))
  · rw [if_neg hq]
    cases e : lookD l q with
    | none =>
      refine look_none.2 fun x hx => ?_
      rcases (mem_put h g x).1 hx with ⟨-, h2⟩ | ⟨h1, -⟩
      · rw [h2]; exact fun e2 => hq e2.symm
      · exact look_none.1 e x h1
    | some n => exact (look_iff hr).2 ((mem_put h g _).2 (.inr ⟨look_mem e, hq⟩))

/-- Bytes, how many of them stay. -/
structure FileM where
  b : Txt
  stays : Nat
/-- Files by path, as they are and as they stay; what was done with paths; fuse: how many calls more do something, and one; 0: all. -/
structure FsM where
  room : Nat
  files : List FileM
  now : Dir
  kept : Dir
  chg : List (List Giv)
  fuse : Nat

namespace FsM
def new (r : Nat) : FsM := ⟨r, [], [], [], [], 0⟩
def file (S : FsM) (i : Nat) : FileM := S.files.getD i ⟨[], 0⟩
def look (S : FsM) (p : Txt) : Option Nat := lookD S.now p
def change (S : FsM) (l : List Giv) : FsM := { S with now := againD S.now l, chg := S.chg ++ [l] }
def setFile (S : FsM) (i : Nat) (x : FileM) : FsM := { S with files := S.files.set i x }
def more (S : FsM) : FsM := { S with files := S.files ++ [⟨[], 0⟩] }
def spent (S : FsM) : FsM × Bool := if S.fuse = 0 then (S, false) else if S.fuse = 1 then (S, true) else ({ S with fuse := S.fuse - 1 }, false)
def used (S : FsM) : Nat := (((List.range S.files.length).filter fun i => S.now.any fun p => decide (p.2 = i)).map fun i => (S.file i).b.length).sum
def rightC (c : UInt8) : Bool := (97 ≤ c.toNat && c.toNat ≤ 122) || (48 ≤ c.toNat && c.toNat ≤ 57) || c.toNat = 46 || c.toNat = 47
def right (p : Txt) : Bool := decide (1 ≤ p.length) && decide (p.length ≤ 24) && p.all rightC
def create (S : FsM) (p : Txt) : FsM × Nat :=
  if right p = false then (S, 63) else if (S.look p).isSome then (S, 61) else ((S.more).change [(p, some S.files.length)], 0)
def append (S : FsM) (p : Txt) (b : Txt) : FsM × Nat := match S.look p with
  | none => (S, 60)
  | some n => if 1048576 < (S.file n).b.length + b.length then (S, 2) else if 0 < b.length ∧ S.room < S.used + b.length then (S, 62) else (S.setFile n { S.file n with b := (S.file n).b ++ b }, 0)
def sync (S : FsM) (p : Txt) : FsM × Nat := match S.look p with
  | none => (S, 60)
  | some n => (S.setFile n { S.file n with stays := (S.file n).b.length }, 0)
def rename (S : FsM) (p q : Txt) : FsM × Nat := match S.look p with
  | none => (S, 60)
  | some n => if right q = false then (S, 63) else (S.change [(p, none), (q, some n)], 0)
def link (S : FsM) (p q : Txt) : FsM × Nat := match S.look p with
  | none => (S, 60)
  | some n => if right q = false then (S, 63) else if (S.look q).isSome then (S, 61) else (S.change [(q, some n)], 0)
def remove (S : FsM) (p : Txt) : FsM × Nat := match S.look p with
  | none => (S, 60)
  | some _ => (S.change [(p, none)], 0)
def settle (S : FsM) : FsM := { S with kept := S.now, chg := [] }
def cut (x : FileM) (by_ : Nat) : FileM := ⟨x.b.take (x.stays + min by_ (x.b.length - x.stays)), x.stays + min by_ (x.b.length - x.stays)⟩
def crash (S : FsM) (ch by_ : Nat) : FsM :=
  { S with fuse := 0, now := (S.chg.take ch).foldl againD S.kept, kept := (S.chg.take ch).foldl againD S.kept, chg := [], files := S.files.map fun x => cut x by_ }
def read (S : FsM) (p : Txt) : Txt × Nat := match S.look p with
  | none => ([], 60)
  | some n => ((S.file n).b, 0)
def list (S : FsM) (first : Txt) : List Txt := (S.now.map (·.1)).filter fun p => decide (first <+: p)
def setFuse (S : FsM) (n : Nat) : FsM := { S with fuse := n }
/-- Is a file's number named? -/
def reach (S : FsM) (i : Nat) : Prop := (∃ p, (p, i) ∈ S.now) ∨ (∃ p, (p, i) ∈ S.kept) ∨ ∃ l ∈ S.chg, ∃ p, (p, some i) ∈ l
end FsM

theorem ri_fold : ∀ (c : List (List Giv)) {l : Dir}, RiD l → RiD (c.foldl againD l)
  | [], _, h => h
  | g :: c, _, h => ri_fold c (ri_again g h)
theorem len_fold {c : List (List Giv)} (hc : ∀ l ∈ c, l.length ≤ 2) : ∀ l : Dir, (c.foldl againD l).length ≤ l.length + 2 * c.length := by
  induction c with
  | nil => intro l; simp
  | cons g c ih =>
    intro l
    have h1 := ih (fun l hl => hc l (by simp [hl])) (againD l g)
    have h2 := len_again g l
    have h3 := hc g (by simp)
    simp only [List.foldl_cons, List.length_cons] at h1 ⊢
    omega
theorem mem_again {c : List Giv} : ∀ {l : Dir}, RiD l → ∀ x, x ∈ againD l c → x ∈ l ∨ (x.1, some x.2) ∈ c := by
  induction c with
  | nil => intro l _ x hx; exact .inl hx
  | cons g c ih =>
    intro l h x hx
    rcases ih (ri_put h g) x hx with h1 | h1
    · rcases (mem_put h g x).1 h1 with ⟨h2, h3⟩ | ⟨h2, -⟩
      · refine .inr (List.mem_cons.2 (.inl ?_))
        obtain ⟨g1, g2⟩ := g
        simp only at h2 h3
        rw [h2, h3]
      · exact .inl h2
    · exact .inr (List.mem_cons.2 (.inr h1))
theorem mem_fold {c : List (List Giv)} : ∀ {l : Dir}, RiD l → ∀ x, x ∈ c.foldl againD l → x ∈ l ∨ ∃ g ∈ c, (x.1, some x.2) ∈ g := by
  induction c with
  | nil => intro l _ x hx; exact .inl hx
  | cons g c ih =>
    intro l h x hx
    rcases ih (ri_again g h) x hx with h1 | ⟨g', h1, h2⟩
    · rcases mem_again h x h1 with h2 | h2
      · exact .inl h2
      · exact .inr ⟨g, by simp, h2⟩
    · exact .inr ⟨g', by simp [h1], h2⟩

/-- What holds of all files that a script has made in N / 2 steps. -/
structure FsOk (N : Nat) (S : FsM) : Prop where
  nowR : RiD S.now
  keptR : RiD S.kept
  num : ∀ i, S.reach i → i < S.files.length
  nowP : ∀ x ∈ S.now, x.1.length ≤ 24
  keptP : ∀ x ∈ S.kept, x.1.length ≤ 24
  chgP : ∀ l ∈ S.chg, ∀ g ∈ l, g.1.length ≤ 24
  chg2 : ∀ l ∈ S.chg, l.length ≤ 2
  again : S.now = S.chg.foldl againD S.kept
  many : S.kept.length + 2 * S.chg.length ≤ N
  filesN : S.files.length ≤ N
  filesOk : ∀ x ∈ S.files, x.stays ≤ x.b.length ∧ x.b.length ≤ 1048576
  roomOk : S.room ≤ 16777216
  fuseOk : S.fuse ≤ 1099511627777

section
variable {N : Nat} {S : FsM}
theorem FsOk.mono (h : FsOk N S) {M : Nat} (hM : N ≤ M) : FsOk M S :=
  ⟨h.nowR, h.keptR, h.num, h.nowP, h.keptP, h.chgP, h.chg2, h.again, Nat.le_trans h.many hM, Nat.le_trans h.filesN hM, h.filesOk, h.roomOk, h.fuseOk⟩
theorem FsOk.nowN (h : FsOk N S) : S.now.length ≤ N := by
  rw [h.again]
  exact Nat.le_trans (len_fold h.chg2 _) h.many
theorem FsOk.new {r : Nat} (hr : r ≤ 16777216) : FsOk 0 (FsM.new r) := by
  refine ⟨by simp [FsM.new, RiD], by simp [FsM.new, RiD], fun i hi => ?_, by simp [FsM.new], by simp [FsM.new], by simp [FsM.new], by simp [FsM.new], by simp [FsM.new], by simp [FsM.new], by simp [FsM.new], by simp [FsM.new], hr, by simp [FsM.new]⟩
  rcases hi with ⟨p, h⟩ | ⟨p, h⟩ | ⟨l, h, -⟩ <;> simp [FsM.new] at h
theorem FsOk.fileOk (h : FsOk N S) (i : Nat) : (S.file i).stays ≤ (S.file i).b.length ∧ (S.file i).b.length ≤ 1048576 := by
  unfold FsM.file
  rw [List.getD_eq_getElem?_getD]
  cases e : S.files[i]? with
  | none => simp
  | some x => exact h.filesOk x (List.mem_of_getElem? e)
theorem reach_now {i : Nat} {p : Txt} (h : S.look p = some i) : S.reach i := .inl ⟨p, look_mem h⟩
theorem reach_change {l : List Giv} (hR : RiD S.now) {i : Nat} (h : (S.change l).reach i) : S.reach i ∨ ∃ p, (p, some i) ∈ l := by
  rcases h with ⟨p, h⟩ | ⟨p, h⟩ | ⟨c, h, p, hp⟩
  · rcases mem_again hR _ h with h | h
    · exact .inl (.inl ⟨p, h⟩)
    · exact .inr ⟨p, h⟩
  · exact .inl (.inr (.inl ⟨p, h⟩))
  · rcases List.mem_append.1 h with h | h
    · exact .inl (.inr (.inr ⟨c, h, p, hp⟩))
    · rw [List.mem_singleton.1 h] at hp
      exact .inr ⟨p, hp⟩
theorem FsOk.change (h : FsOk N S) {l : List Giv} (hl : l.length ≤ 2) (hp : ∀ g ∈ l, g.1.length ≤ 24) (hn : ∀ p n, (p, some n) ∈ l → n < S.files.length) : FsOk (N + 2) (S.change l) := by
  refine ⟨ri_again _ h.nowR, h.keptR, fun i hi => ?_, fun x hx => ?_, h.keptP, fun c hc => ?_, fun c hc => ?_, ?_, ?_, Nat.le_trans h.filesN (by omega), h.filesOk, h.roomOk, h.fuseOk⟩
  · rcases reach_change h.nowR hi with h1 | ⟨p, h1⟩
    · exact h.num i h1
    · exact hn p i h1
  · rcases mem_again h.nowR _ hx with h1 | h1
    · exact h.nowP x h1
    · exact hp _ h1
  · rcases List.mem_append.1 hc with hc | hc
    · exact h.chgP c hc
    · rw [List.mem_singleton.1 hc]; exact hp
  · rcases List.mem_append.1 hc with hc | hc
    · exact h.chg2 c hc
    · rw [List.mem_singleton.1 hc]; exact hl
  · simp only [FsM.change, List.foldl_append, List.foldl_cons, List.foldl_nil]
    rw [h.again]
  · have := h.many
    simp only [FsM.change, List.length_append, List.length_cons, List.length_nil]
    omega
theorem FsOk.more (h : FsOk N S) : FsOk (N + 2) S.more := by
  refine ⟨h.nowR, h.keptR, fun i hi => ?_, h.nowP, h.keptP, h.chgP, h.chg2, h.again, Nat.le_trans h.many (by omega), ?_, fun x hx => ?_, h.roomOk, h.fuseOk⟩
  · have := h.num i hi
    simp only [FsM.more, List.length_append]
    omega
  · have := h.filesN
    simp only [FsM.more, List.length_append, List.length_cons, List.length_nil]
    omega
  · rcases List.mem_append.1 hx with hx | hx
    · exact h.filesOk x hx
    · rw [List.mem_singleton.1 hx]; simp
theorem FsOk.setFile (h : FsOk N S) (i : Nat) {x : FileM} (h1 : x.stays ≤ x.b.length) (h2 : x.b.length ≤ 1048576) : FsOk N (S.setFile i x) := by
  refine ⟨h.nowR, h.keptR, fun j hj => ?_, h.nowP, h.keptP, h.chgP, h.chg2, h.again, h.many, ?_, fun y hy => ?_, h.roomOk, h.fuseOk⟩
  · have := h.num j hj
    simpa [FsM.setFile] using this
  · simpa [FsM.setFile] using h.filesN
  · rcases List.mem_or_eq_of_mem_set hy with hy | rfl
    · exact h.filesOk y hy
    · exact ⟨h1, h2⟩
theorem FsOk.settle (h : FsOk N S) : FsOk N S.settle := by
  refine ⟨h.nowR, h.nowR, fun i hi => ?_, h.nowP, h.nowP, by simp [FsM.settle], by simp [FsM.settle], by simp [FsM.settle], ?_, h.filesN, h.filesOk, h.roomOk, h.fuseOk⟩
  · rcases hi with h1 | h1 | ⟨l, h1, -⟩
    · exact h.num i (.inl h1)
    · exact h.num i (.inl h1)
    · simp [FsM.settle] at h1
  · have := h.nowN
    simp only [FsM.settle, List.length_nil]
    omega
theorem FsOk.setFuse (h : FsOk N S) {n : Nat} (hn : n ≤ 1099511627777) : FsOk N (S.setFuse n) := ⟨h.nowR, h.keptR, h.num, h.nowP, h.keptP, h.chgP, h.chg2, h.again, h.many, h.filesN, h.filesOk, h.roomOk, hn⟩
theorem FsM.spent_eq (S : FsM) : (S.spent).1 = S.setFuse (S.spent).1.fuse ∧ (S.spent).1.fuse ≤ S.fuse := by
  unfold FsM.spent
  split
  · exact ⟨rfl, Nat.le_refl _⟩
  · split
    · exact ⟨rfl, Nat.le_refl _⟩
    · exact ⟨rfl, Nat.sub_le _ _⟩
theorem FsOk.spent (h : FsOk N S) : FsOk N S.spent.1 := by
  obtain ⟨h1, h2⟩ := S.spent_eq
  rw [h1]
  exact h.setFuse (Nat.le_trans h2 h.fuseOk)
theorem cut_ok {x : FileM} (h : x.stays ≤ x.b.length) (n : Nat) : (FsM.cut x n).b.length = (FsM.cut x n).stays ∧ (FsM.cut x n).b.length ≤ x.b.length := by
  simp only [FsM.cut, List.length_take]
  omega
theorem FsOk.crash (h : FsOk N S) (ch n : Nat) : FsOk N (S.crash ch n) := by
  have hR : RiD ((S.chg.take ch).foldl againD S.kept) := ri_fold _ h.keptR
  have hm := fun x hx => mem_fold (c := S.chg.take ch) h.keptR x hx
  have hnum : ∀ i p, (p, i) ∈ (S.chg.take ch).foldl againD S.kept → i < S.files.length := fun i p hp => by
    rcases hm _ hp with h1 | ⟨g, h1, h2⟩
    · exact h.num i (.inr (.inl ⟨p, h1⟩))
    · exact h.num i (.inr (.inr ⟨g, List.mem_of_mem_take h1, p, h2⟩))
  have hpath : ∀ x ∈ (S.chg.take ch).foldl againD S.kept, x.1.length ≤ 24 := fun x hx => by
    rcases hm _ hx with h1 | ⟨g, h1, h2⟩
    · exact h.keptP x h1
    · exact h.chgP g (List.mem_of_mem_take h1) _ h2
  refine ⟨hR, hR, fun i hi => ?_, hpath, hpath, by simp [FsM.crash], by simp [FsM.crash], by simp [FsM.crash], ?_, by simpa [FsM.crash] using h.filesN, fun x hx => ?_, h.roomOk, by simp [FsM.crash]⟩
  · simp only [FsM.crash, List.length_map]
    rcases hi with ⟨p, h1⟩ | ⟨p, h1⟩ | ⟨l, h1, -⟩
    · exact hnum i p h1
    · exact hnum i p h1
    · simp [FsM.crash] at h1
  · have h1 := len_fold (c := S.chg.take ch) (fun l hl => h.chg2 l (List.mem_of_mem_take hl)) S.kept
    have h2 := h.many
    have h3 : (S.chg.take ch).length ≤ S.chg.length := List.length_take_le' _ _
    simp only [FsM.crash, List.length_nil]
    omega
  · simp only [FsM.crash] at hx
    obtain ⟨y, hy, rfl⟩ := List.mem_map.1 hx
    obtain ⟨g1, g2⟩ := h.filesOk y hy
    have := cut_ok g1 n
    omega
theorem right_len {p : Txt} (h : FsM.right p = true) : p.length ≤ 24 := by
  unfold FsM.right at h
  simp only [Bool.and_eq_true, decide_eq_true_eq] at h
  exact h.1.2
theorem FsOk.create (h : FsOk N S) (p : Txt) : FsOk (N + 4) (S.create p).1 := by
  unfold FsM.create
  split
  · exact h.mono (by omega)
  · split
    · exact h.mono (by omega)
    · rename_i hr _
      refine (h.more).change (by simp) (fun g hg => ?_) (fun q n hq => ?_)
      · rw [List.mem_singleton.1 hg]
        exact right_len (by simpa using hr)
      · simp only [List.mem_singleton, Prod.mk.injEq, Option.some.injEq] at hq
        simp [FsM.more, hq.2]
theorem FsOk.append (h : FsOk N S) (p b : Txt) : FsOk N (S.append p b).1 := by
  unfold FsM.append
  split
  · exact h
  · split
    · exact h
    · split
      · exact h
      · rename_i n _ hl _
        have := h.fileOk n
        exact h.setFile n (by simp; omega) (by simp; omega)
theorem FsOk.sync (h : FsOk N S) (p : Txt) : FsOk N (S.sync p).1 := by
  unfold FsM.sync
  split
  · exact h
  · rename_i n _
    exact h.setFile n (Nat.le_refl _) (h.fileOk n).2
theorem FsOk.lookP (h : FsOk N S) {p : Txt} {n : Nat} (hp : S.look p = some n) : p.length ≤ 24 ∧ n < S.files.length := ⟨h.nowP _ (look_mem hp), h.num n (reach_now hp)⟩
theorem FsOk.rename (h : FsOk N S) (p q : Txt) : FsOk (N + 2) (S.rename p q).1 := by
  unfold FsM.rename
  split
  · exact h.mono (by omega)
  · rename_i n hn
    split
    · exact h.mono (by omega)
    · rename_i hr
      refine h.change (by simp) (fun g hg => ?_) (fun r m hm => ?_)
      · simp only [List.mem_cons, List.not_mem_nil, or_false] at hg
        rcases hg with rfl | rfl
        · exact (h.lookP hn).1
        · exact right_len (by simpa using hr)
      · simp only [List.mem_cons, List.not_mem_nil, or_false, Prod.mk.injEq, Option.some.injEq, reduceCtorEq, and_false, false_or] at hm
        rw [hm.2]
        exact (h.lookP hn).2
theorem FsOk.link (h : FsOk N S) (p q : Txt) : FsOk (N + 2) (S.link p q).1 := by
  unfold FsM.link
  split
  · exact h.mono (by omega)
  · rename_i n hn
    split
    · exact h.mono (by omega)
    · split
      · exact h.mono (by omega)
      · rename_i hr _
        refine h.change (by simp) (fun g hg => ?_) (fun r m hm => ?_)
        · rw [List.mem_singleton.1 hg]
          exact right_len (by simpa using hr)
        · simp only [List.mem_singleton, Prod.mk.injEq, Option.some.injEq] at hm
          rw [hm.2]
          exact (h.lookP hn).2
theorem FsOk.remove (h : FsOk N S) (p : Txt) : FsOk (N + 2) (S.remove p).1 := by
  unfold FsM.remove
  split
  · exact h.mono (by omega)
  · rename_i n hn
    refine h.change (by simp) (fun g hg => ?_) (fun r m hm => ?_)
    · rw [List.mem_singleton.1 hg]
      exact (h.lookP hn).1
    · simp at hm
end
end Go.Proofs.YteidkmiladkoiaaGreatDoor

/-
  A map as the entries that it has, in whatever order: keys that are texts, or pointers to files. No program in sight.
-/
namespace Go.Proofs.YteidkmiladkoiaaGreatDoor
open Go.RowKit Go.MapKept
open Go.ChangeMaps (setBlock heap_setBlock_same heap_setBlock_other)

/-- What a map's operations need of keys that are 'ok' in the world w. -/
structure KeyOk (P : Program) (k : TypeId) (w : World) (ok : Value → Prop) : Prop where
  check : ∀ (em : Bool) {v : Value}, ok v → (Instr.checkKey em 10000 k v).run P w = .ok () w
  find : ∀ {x : Value}, ok x → ∀ es : List MapEntry, (∀ e ∈ es, ok e.key) →
    ((Instr.findKey k x es).run P w = .ok none w ∧ ∀ e ∈ es, e.key ≠ x) ∨ ∃ (j : Nat) (e : MapEntry), (Instr.findKey k x es).run P w = .ok (some (j, e.val)) w ∧ es[j]? = some e ∧ e.key = x
  stays : ∀ {v : Value}, ok v → (Instr.keyThatStays v v).run P w = .ok v w

/-- A text as a key. -/
def okStr (v : Value) : Prop := ∃ s : ByteArray, v = .string s
theorem keyOk_str {P : Program} {k : TypeId} (hk : P.underlying k = some .string) (w : World) : KeyOk P k w okStr where
  check em v h := by obtain ⟨s, rfl⟩ := h; exact run_checkKey hk (by trivial) em 9999
  find {x} hx es hes := by
    obtain ⟨s, rfl⟩ := hx
    have hks : ∀ y ∈ es, IsKey .string y.key := fun y hy => by obtain ⟨l, hl⟩ := hes y hy; rw [hl]; trivial
    rcases findNow_spec (d := .string) (k := .string s) (by trivial) es 0 hks with ⟨h1, h2⟩ | ⟨j, e0, h1, h2, h3⟩
    · exact .inl ⟨run_findKey hk h1, h2⟩
    · exact .inr ⟨j, e0, by simpa using run_findKey hk h1, h2, h3⟩
  stays {v} h := by obtain ⟨s, rfl⟩ := h; exact run_keyThatStays (d := .string) (by trivial)

/-- Nil, or a pointer to a whole block of cells, none of them frozen. -/
def okPtr (w : World) (v : Value) : Prop := v = .pointer none ∨ ∃ b cs t, v = .pointer (some ⟨b, 0, none⟩) ∧ w.heap[b]? = some (.cells cs t (0, 0))

section
variable {P : Program} {k e : TypeId} {j : TypeInfo} {w : World}
theorem run_equalIn_ptr (d : Nat) (hk : P.underlying k = some (.pointer e)) (he : P.info? e = some j) (hj : j.size ≠ 0) {x y : Value} (hx : okPtr w x) (hy : okPtr w y) :
    ∃ r : Bool, (Op.equalIn (d + 1) k x y).run P w = .ok r w ∧ (r = true ↔ x = y) := by
  rcases hx with rfl | ⟨b, cs, t, rfl, hb⟩
  · rcases hy with rfl | ⟨c, cs', t', rfl, hc⟩
    · exact ⟨true, by simp [Op.equalIn, run_underlying hk], by simp⟩
    · exact ⟨false, by simp [Op.equalIn, run_underlying hk], by simp⟩
  · rcases hy with rfl | ⟨c, cs', t', rfl, hc⟩
    · exact ⟨false, by simp [Op.equalIn, run_underlying hk], by simp⟩
    · by_cases hbc : b = c
      · subst hbc
        exact ⟨true, by simp [Op.equalIn, run_underlying hk, sizeOf, typeInfo, he, run_sameAddr_same], by simp⟩
      · refine ⟨false, by simp [Op.equalIn, run_underlying hk, sizeOf, typeInfo, he, hj, run_sameAddr_other w (a := ⟨b, 0, none⟩) (b := ⟨c, 0, none⟩) (fun e => hbc (congrArg Addr.block e)) hb hc], ?_⟩
        refine ⟨fun e => (by cases e), fun e => ?_⟩
        injection e with e
        injection e with e
        exact absurd (congrArg Addr.block e) hbc
theorem run_equal_ptr (hk : P.underlying k = some (.pointer e)) (he : P.info? e = some j) (hj : j.size ≠ 0) {x y : Value} (hx : okPtr w x) (hy : okPtr w y) :
    ∃ r : Bool, (Op.equal k x y).run P w = .ok r w ∧ (r = true ↔ x = y) := run_equalIn_ptr 9999 hk he hj hx hy

theorem find_ptr (hk : P.underlying k = some (.pointer e)) (he : P.info? e = some j) (hj : j.size ≠ 0) {x : Value} (hx : okPtr w x) : ∀ (es : List MapEntry) (i : Nat), (∀ e ∈ es, okPtr w e.key) →
    ((Instr.findAsking k x es i).run P w = .ok none w ∧ ∀ e ∈ es, e.key ≠ x) ∨ ∃ (n : Nat) (e : MapEntry), (Instr.findAsking k x es i).run P w = .ok (some (i + n, e.val)) w ∧ es[n]? = some e ∧ e.key = x
  | [], i, _ => .inl ⟨by simp [Instr.findAsking], by simp⟩
  | a :: r, i, h => by
    obtain ⟨c, h1, h2⟩ := run_equal_ptr hk he hj hx (h a (by simp))
    cases c with
    | true => exact .inr ⟨0, a, by simp [Instr.findAsking, h1, Result.andThen], by simp, (h2.1 rfl).symm⟩
    | false =>
      have hne : a.key ≠ x := fun e => by have := h2.2 e.symm; cases this
      rcases find_ptr hk he hj hx r (i + 1) (fun e he => h e (by simp [he])) with ⟨g1, g2⟩ | ⟨n, e, g1, g2, g3⟩
      · refine .inl ⟨by simp [Instr.findAsking, h1, Result.andThen, g1], fun e he => ?_⟩
        rcases List.mem_cons.1 he with rfl | he
        · exact hne
        · exact g2 e he
      · exact .inr ⟨n + 1, e, by simp [Instr.findAsking, h1, Result.andThen, g1]; omega, by simpa using g2, g3⟩

theorem findNow_ptr (x : Value) (a : MapEntry) (r : List MapEntry) (i : Nat) : Instr.findNow (.pointer e) x (a :: r) i = none := by
  simp [Instr.findNow, Instr.sameNow]

theorem check_ptr (hk : P.underlying k = some (.pointer e)) (d : Nat) (em : Bool) {v : Value} (h : okPtr w v) : (Instr.checkKey em (d + 1) k v).run P w = .ok () w := by
  rcases h with rfl | ⟨b, cs, t, rfl, hb⟩ <;> simp [Instr.checkKey, run_underlying hk]
theorem same_ptr (d : Nat) {v : Value} (h : okPtr w v) : Instr.sameBits d v v = true := by rcases h with rfl | ⟨b, cs, t, rfl, hb⟩ <;> cases d <;> simp [Instr.sameBits]
theorem keyOk_ptr (hk : P.underlying k = some (.pointer e)) (he : P.info? e = some j) (hj : j.size ≠ 0) (w : World) : KeyOk P k w (okPtr w) where
  check em v h := check_ptr hk 9999 em h
  find {x} hx es hes := by
    cases es with
    | nil => exact .inl ⟨by simp [Instr.findKey, run_underlying hk, Instr.findNow], by simp⟩
    | cons a r =>
      have e1 : (Instr.findKey k x (a :: r)).run P w = (Instr.findAsking k x (a :: r)).run P w := by
        simp [Instr.findKey, run_underlying hk, findNow_ptr, Result.andThen]
      rw [e1]
      rcases find_ptr hk he hj hx (a :: r) 0 hes with h | ⟨n, e, h1, h2, h3⟩
      · exact .inl h
      · exact .inr ⟨n, e, by simpa using h1, h2, h3⟩
  stays {v} h := by
    have e1 : Instr.keyThatStays v v = (if Instr.sameBits 10000 v v then pure v else do pure (if (← choose (.extern "map.whichKeyStays" 2)) = 0 then v else v)) := rfl
    rw [e1]
    rw [same_ptr 10000 h]
    rfl
end

/-- An entry's key and value. -/
def kvOf (e : MapEntry) : Value × Value := (e.key, e.val)
/-- Block b is a map that has just the entries l. -/
structure MapIs (w : World) (b : Nat) (l : List (Value × Value)) : Prop where
  out : ∃ es clock, w.heap[b]? = some (.map es clock) ∧ Stamped es clock ∧ (es.toList.map kvOf).Perm l

theorem kv_pairwise {es : Array MapEntry} {clock : Nat} (h : Stamped es clock) : (es.toList.map kvOf).Pairwise (fun p q => p.1 ≠ q.1) := by
  rw [List.pairwise_map]
  exact ((stamped_iff es clock).1 h).2.2
theorem nodup_of_keys {l : List (Value × Value)} (h : l.Pairwise (fun p q => p.1 ≠ q.1)) : l.Nodup := h.imp fun hp e => hp (by rw [e])
theorem key_one {l : List (Value × Value)} (h : l.Pairwise (fun p q => p.1 ≠ q.1)) {x y : Value × Value} (hx : x ∈ l) (hy : y ∈ l) (e : x.1 = y.1) : x = y := by
  induction l with
  | nil => cases hx
  | cons a r ih =>
    obtain ⟨h1, h2⟩ := List.pairwise_cons.1 h
    rcases List.mem_cons.1 hx with ex | hx
    · rcases List.mem_cons.1 hy with ey | hy
      · rw [ex, ey]
      · exact absurd (ex ▸ e) (h1 y hy)
    · rcases List.mem_cons.1 hy with ey | hy
      · exact absurd (ey ▸ e).symm (h1 x hx)
      · exact ih h2 hx hy
theorem perm_of_mem {l l' : List (Value × Value)} (h : l.Pairwise (fun p q => p.1 ≠ q.1)) (h' : l'.Pairwise (fun p q => p.1 ≠ q.1)) (hm : ∀ p, p ∈ l ↔ p ∈ l') : l.Perm l' :=
  (List.perm_ext_iff_of_nodup (nodup_of_keys h) (nodup_of_keys h')).2 hm

section
variable {P : Program} {w w' : World} {b : Nat} {l l' : List (Value × Value)} {ok : Value → Prop} {k e t : TypeId}
theorem MapIs.keys (h : MapIs w b l) : l.Pairwise (fun p q => p.1 ≠ q.1) := by
  obtain ⟨es, clock, -, h2, h3⟩ := h.out
  exact (h3.pairwise_iff (fun {_ _} hne => Ne.symm hne)).1 (kv_pairwise h2)
theorem MapIs.lt (h : MapIs w b l) : b < w.heap.size := by
  obtain ⟨es, clock, h1, -⟩ := h.out
  exact (Array.getElem?_eq_some_iff.1 h1).1
theorem MapIs.keep (h : MapIs w b l) (hk : w'.heap[b]? = w.heap[b]?) : MapIs w' b l := by
  obtain ⟨es, clock, h1, h2⟩ := h.out
  exact ⟨es, clock, hk.trans h1, h2⟩
theorem MapIs.perm (h : MapIs w b l) (hp : l.Perm l') : MapIs w b l' := by
  obtain ⟨es, clock, h1, h2, h3⟩ := h.out
  exact ⟨es, clock, h1, h2, h3.trans hp⟩
theorem MapIs.new (w : World) : MapIs (w.alloc (.map #[] 0)) w.heap.size [] := ⟨#[], 0, (MapKept.heap_alloc w _).1, stamped_empty 0, by simp⟩
theorem MapIs.clone (w : World) {b : Nat} {es : Array MapEntry} {clock : Nat} (hb : w.heap[b]? = some (.map es clock)) (h : MapIs w b l) : MapIs (w.alloc (.map es clock)) w.heap.size l := by
  obtain ⟨es', clock', h1, h2, h3⟩ := h.out
  rw [hb] at h1
  cases h1
  exact ⟨es, clock, (MapKept.heap_alloc w _).1, h2, h3⟩
/-- 'm[k]' at a key that is there. -/
theorem MapIs.look (h : MapIs w b l) (K : KeyOk P k w ok) (ht : P.underlying t = some (.map k e)) (hok : ∀ p ∈ l, ok p.1) {x v : Value} (hx : (x, v) ∈ l) (c : Bool) :
    (Instr.lookup t (.map (some b)) x c).run P w = .ok (if c then .tuple #[v, .bool true] else v) w := by
  have hkeys := h.keys
  obtain ⟨es, clock, hb, h2, h3⟩ := h.out
  have hek : ∀ y ∈ es.toList, ok y.key := fun y hy => hok _ (h3.mem_iff.1 (List.mem_map_of_mem (f := kvOf) hy))
  rcases K.find (hok _ hx) es.toList hek with ⟨g1, g2⟩ | ⟨j, a, g1, g2, g3⟩
  · obtain ⟨y, hy, e1⟩ := List.mem_map.1 (h3.mem_iff.2 hx)
    exact absurd (congrArg Prod.fst e1) (g2 y hy)
  · have e1 : kvOf a = (x, v) := key_one hkeys (h3.mem_iff.1 (List.mem_map_of_mem (f := kvOf) (List.mem_of_getElem? g2))) hx g3
    have e2 : a.val = v := congrArg Prod.snd e1
    simp [Instr.lookup, run_underlying ht, MapKept.run_getObj_map hb, K.check _ (hok _ hx), g1, Result.andThen, e2]
/-- .. that isn't there. -/
theorem MapIs.look_out (h : MapIs w b l) (K : KeyOk P k w ok) (ht : P.underlying t = some (.map k e)) (hok : ∀ p ∈ l, ok p.1) {x z : Value} (hz : (zeroValue e).run P w = .ok z w) (hxo : ok x) (hx : ∀ p ∈ l, p.1 ≠ x) (c : Bool) :
    (Instr.lookup t (.map (some b)) x c).run P w = .ok (if c then .tuple #[z, .bool false] else z) w := by
  obtain ⟨es, clock, hb, h2, h3⟩ := h.out
  have hek : ∀ y ∈ es.toList, ok y.key := fun y hy => hok _ (h3.mem_iff.1 (List.mem_map_of_mem (f := kvOf) hy))
  rcases K.find hxo es.toList hek with ⟨g1, g2⟩ | ⟨j, a, g1, g2, g3⟩
  · simp [Instr.lookup, run_underlying ht, MapKept.run_getObj_map hb, K.check _ hxo, g1, hz, Result.andThen]
  · exact absurd g3 (hx _ (h3.mem_iff.1 (List.mem_map_of_mem (f := kvOf) (List.mem_of_getElem? g2))))
/-- 'm[k] = v'. -/
theorem MapIs.store (h : MapIs w b l) (K : KeyOk P k w ok) (ht : P.underlying t = some (.map k e)) (hok : ∀ p ∈ l, ok p.1) {x v : Value} (hx : ok x)
    (hl' : l'.Pairwise (fun p q => p.1 ≠ q.1)) (hm : ∀ p, p ∈ l' ↔ p = (x, v) ∨ (p ∈ l ∧ p.1 ≠ x)) :
    ∃ w', (Instr.mapUpdate t (.map (some b)) x v).run P w = .ok () w' ∧ MapIs w' b l' ∧ w.grownBy w' (some b) ∧ w'.heap.size = w.heap.size := by
  have hkeys := h.keys
  obtain ⟨es, clock, hb, h2, h3⟩ := h.out
  have hek : ∀ y ∈ es.toList, ok y.key := fun y hy => hok _ (h3.mem_iff.1 (List.mem_map_of_mem (f := kvOf) hy))
  have fin : ∀ o : Obj, w.grownBy (setBlock w b o) (some b) ∧ (setBlock w b o).heap.size = w.heap.size := fun o =>
    ⟨⟨rfl, rfl, rfl, by simp [setBlock], fun i _ hi => heap_setBlock_other hb _ (fun e => hi (by rw [e]))⟩, by simp [setBlock]⟩
  rcases K.find hx es.toList hek with ⟨g1, g2⟩ | ⟨j, a, g1, g2, g3⟩
  · refine ⟨setBlock w b (.map (es.push ⟨x, v, clock⟩) (clock + 1)), ?_, ⟨_, _, heap_setBlock_same hb _, stamped_push h2 g2, ?_⟩, fin _⟩
    · simp [Instr.mapUpdate, run_underlying ht, MapKept.run_getObj_map hb, K.check _ hx, g1, MapKept.run_setObj_map _ hb, Result.andThen, setBlock]
    · refine perm_of_mem (kv_pairwise (stamped_push h2 g2)) hl' fun p => ?_
      rw [hm p]
      simp only [Array.toList_push, List.map_append, List.map_cons, List.map_nil, List.mem_append, List.mem_singleton]
      rw [h3.mem_iff]
      constructor
      · rintro (hp | rfl)
        · refine .inr ⟨hp, fun e1 => ?_⟩
          obtain ⟨y, hy, e2⟩ := List.mem_map.1 (h3.mem_iff.2 hp)
          exact g2 y hy (by rw [← e1, ← e2]; rfl)
        · exact .inl rfl
      · rintro (rfl | ⟨hp, -⟩)
        · exact .inr rfl
        · exact .inl hp
  · have hj : es[j]? = some a := by simpa using g2
    have hjl : j < es.toList.length := (List.getElem?_eq_some_iff.1 g2).1
    have hst : Stamped (es.modify j fun e' => { e' with key := x, val := v }) clock := stamped_modify h2 _ _ (fun _ _ => rfl) fun e' _ he' => by rw [hj] at he'; cases he'; exact g3.symm
    refine ⟨setBlock w b (.map (es.modify j fun e' => { e' with key := x, val := v }) clock), ?_, ⟨_, _, heap_setBlock_same hb _, hst, ?_⟩, fin _⟩
    · simp [Instr.mapUpdate, run_underlying ht, MapKept.run_getObj_map hb, K.check _ hx, g1, hj, g3, K.stays hx, MapKept.run_setObj_map _ hb, Result.andThen, setBlock]
    · refine perm_of_mem (kv_pairwise hst) hl' fun p => ?_
      rw [hm p, Array.toList_modify, ChangeMaps.modify_eq_set _ _ _ _ g2, List.map_set]
      have hnew : kvOf { a with key := x, val := v } = (x, v) := rfl
      rw [hnew]
      have hjm : j < (es.toList.map kvOf).length := by simpa using hjl
      constructor
      · intro hp
        obtain ⟨i, hi, e1⟩ := List.getElem_of_mem hp
        rw [List.getElem_set] at e1
        split at e1
        · exact .inl e1.symm
        · rename_i hne
          have hi' : i < es.toList.length := by simpa using hi
          have hpm : p ∈ es.toList.map kvOf := e1 ▸ List.getElem_mem _
          refine .inr ⟨h3.mem_iff.1 hpm, fun e2 => hne ?_⟩
          have e3 : p = kvOf a := key_one (kv_pairwise h2) hpm (List.mem_map_of_mem (f := kvOf) (List.mem_of_getElem? g2)) (by rw [e2]; exact g3.symm)
          have hnd := nodup_of_keys (kv_pairwise h2)
          refine (List.getElem_inj (i := j) (j := i) (h₀ := hjm) (h₁ := by simpa using hi') hnd).1 ?_
          rw [e1, e3, List.getElem_map]
          congr 1
          have := List.getElem?_eq_some_iff.1 g2
          exact this.2
      · rintro (rfl | ⟨hp, hne⟩)
        · exact List.mem_iff_getElem.2 ⟨j, by simpa using hjl, by simp⟩
        · obtain ⟨i, hi, e1⟩ := List.getElem_of_mem (h3.mem_iff.2 hp)
          have hne' : j ≠ i := fun e2 => hne (by
            subst e2
            rw [← e1, List.getElem_map]
            have := (List.getElem?_eq_some_iff.1 g2).2
            rw [this]
            exact g3)
          exact List.mem_iff_getElem.2 ⟨i, by simpa using hi, by rw [List.getElem_set_ne hne', e1]⟩
/-- 'delete(m, k)'. -/
theorem MapIs.drop (h : MapIs w b l) (K : KeyOk P k w ok) (ht : P.underlying t = some (.map k e)) (hok : ∀ p ∈ l, ok p.1) {x : Value} (hx : ok x)
    (hl' : l'.Pairwise (fun p q => p.1 ≠ q.1)) (hm : ∀ p, p ∈ l' ↔ p ∈ l ∧ p.1 ≠ x) (ty : TypeId) :
    ∃ w', (Builtin.delete_ #[t, k] ty #[.map (some b), x]).run P w = .ok (.tuple #[]) w' ∧ MapIs w' b l' ∧ w.grownBy w' (some b) ∧ w'.heap.size = w.heap.size := by
  obtain ⟨es, clock, hb, h2, h3⟩ := h.out
  have hek : ∀ y ∈ es.toList, ok y.key := fun y hy => hok _ (h3.mem_iff.1 (List.mem_map_of_mem (f := kvOf) hy))
  have fin : ∀ o : Obj, w.grownBy (setBlock w b o) (some b) ∧ (setBlock w b o).heap.size = w.heap.size := fun o =>
    ⟨⟨rfl, rfl, rfl, by simp [setBlock], fun i _ hi => heap_setBlock_other hb _ (fun e => hi (by rw [e]))⟩, by simp [setBlock]⟩
  rcases K.find hx es.toList hek with ⟨g1, g2⟩ | ⟨j, a, g1, g2, g3⟩
  · refine ⟨setBlock w b (.map es clock), ?_, ⟨_, _, heap_setBlock_same hb _, h2, ?_⟩, fin _⟩
    · simp [Builtin.delete_, run_underlying ht, MapKept.run_getObj_map hb, K.check _ hx, g1, MapKept.run_setObj_map _ hb, Result.andThen, setBlock]
    · refine perm_of_mem (kv_pairwise h2) hl' fun p => ?_
      rw [hm p, h3.mem_iff]
      refine ⟨fun hp => ⟨hp, fun e1 => ?_⟩, fun hp => hp.1⟩
      obtain ⟨y, hy, e2⟩ := List.mem_map.1 (h3.mem_iff.2 hp)
      exact g2 y hy (by rw [← e1, ← e2]; rfl)
  · have hjl : j < es.toList.length := (List.getElem?_eq_some_iff.1 g2).1
    have hsub : (es.eraseIdxIfInBounds j).toList = es.toList.eraseIdx j := by
      unfold Array.eraseIdxIfInBounds
      rw [dif_pos (by simpa using hjl)]
      simp
    refine ⟨setBlock w b (.map (es.eraseIdxIfInBounds j) clock), ?_, ⟨_, _, heap_setBlock_same hb _, stamped_erase h2 j, ?_⟩, fin _⟩
    · simp [Builtin.delete_, run_underlying ht, MapKept.run_getObj_map hb, K.check _ hx, g1, MapKept.run_setObj_map _ hb, Result.andThen, setBlock]
    · refine perm_of_mem (kv_pairwise (stamped_erase h2 j)) hl' fun p => ?_
      rw [hm p, hsub]
      constructor
      · intro hp
        obtain ⟨y, hy, e1⟩ := List.mem_map.1 hp
        obtain ⟨i, hne, hi⟩ := List.mem_eraseIdx_iff_getElem?.1 hy
        have hym := List.mem_of_getElem? hi
        refine ⟨h3.mem_iff.1 (e1 ▸ List.mem_map_of_mem (f := kvOf) hym), fun e2 => hne ?_⟩
        have hnd : (es.toList.map (·.key)).Nodup := h2.2.2
        have e3 : y.key = a.key := by rw [g3, ← e2, ← e1]; rfl
        have hi' := (List.getElem?_eq_some_iff.1 hi).1
        refine (List.getElem_inj (i := i) (j := j) (h₀ := by simpa using hi') (h₁ := by simpa using hjl) hnd).1 ?_
        rw [List.getElem_map, List.getElem_map, (List.getElem?_eq_some_iff.1 hi).2, (List.getElem?_eq_some_iff.1 g2).2]
        exact e3
      · rintro ⟨hp, hne⟩
        obtain ⟨y, hy, e1⟩ := List.mem_map.1 (h3.mem_iff.2 hp)
        obtain ⟨i, hi⟩ := List.getElem?_of_mem hy
        refine List.mem_map.2 ⟨y, List.mem_eraseIdx_iff_getElem?.2 ⟨i, fun e2 => hne ?_, hi⟩, e1⟩
        subst e2
        rw [g2] at hi
        cases hi
        rw [← e1]
        exact g3
/-- 'len(m)'. -/
theorem MapIs.len (h : MapIs w b l) (ht : P.underlying t = some (.map k e)) (ty : TypeId) : (Builtin.len_ #[t] ty #[.map (some b)]).run P w = .ok (.int .i64 l.length) w := by
  obtain ⟨es, clock, hb, h2, h3⟩ := h.out
  have := h3.length_eq
  simp at this
  simp [Builtin.len_, run_underlying ht, MapKept.run_getObj_map hb, goInt, Result.andThen, this]
end

/-- 'for k, v := range m' under way: the entries 'left' are still to come. -/
structure MapRng (w : World) (b r : Nat) (l left : List (Value × Value)) : Prop where
  out : ∃ es clock since seen c0, w.heap[b]? = some (.map es clock) ∧ Stamped es clock ∧ (es.toList.map kvOf).Perm l ∧ w.heap[r]? = some (.mapIter (some b) since seen c0) ∧ (∀ x ∈ es.toList, x.born < since) ∧ since ≤ c0 ∧ since ≤ clock ∧
    ((leftOf es seen).toList.map kvOf).Perm left

section
variable {P : Program} {w w' : World} {b r : Nat} {l left : List (Value × Value)} {k e t : TypeId}
theorem MapRng.is (h : MapRng w b r l left) : MapIs w b l := by
  obtain ⟨es, clock, since, seen, c0, h1, h2, h3, -⟩ := h.out
  exact ⟨es, clock, h1, h2, h3⟩
theorem MapRng.lt (h : MapRng w b r l left) : r < w.heap.size := by
  obtain ⟨es, clock, since, seen, c0, h1, h2, h3, h4, -⟩ := h.out
  exact (Array.getElem?_eq_some_iff.1 h4).1
theorem MapRng.ne (h : MapRng w b r l left) : r ≠ b := by
  obtain ⟨es, clock, since, seen, c0, h1, h2, h3, h4, -⟩ := h.out
  intro e
  rw [e, h1] at h4
  cases h4
theorem MapRng.keep (h : MapRng w b r l left) (hb : w'.heap[b]? = w.heap[b]?) (hr : w'.heap[r]? = w.heap[r]?) : MapRng w' b r l left := by
  obtain ⟨es, clock, since, seen, c0, h1, h2, h3, h4, h5⟩ := h.out
  exact ⟨es, clock, since, seen, c0, hb.trans h1, h2, h3, hr.trans h4, h5⟩
theorem MapRng.perm {left' : List (Value × Value)} (h : MapRng w b r l left) (hp : left.Perm left') : MapRng w b r l left' := by
  obtain ⟨es, clock, since, seen, c0, h1, h2, h3, h4, h5, h6, h7, h8⟩ := h.out
  exact ⟨es, clock, since, seen, c0, h1, h2, h3, h4, h5, h6, h7, h8.trans hp⟩
/-- 'range m'. -/
theorem MapIs.range (h : MapIs w b l) (ht : P.underlying t = some (.map k e)) :
    ∃ w', (Instr.range t (.map (some b))).run P w = .ok (.pointer (some ⟨w.heap.size, 0, none⟩)) w' ∧ MapRng w' b w.heap.size l l ∧ Below w.heap.size w w' ∧ w'.heap.size = w.heap.size + 1 := by
  have hlt := h.lt
  obtain ⟨es, clock, hb, h2, h3⟩ := h.out
  refine ⟨_, run_range_map w t k e b es clock ht hb, ⟨es, clock, clock, #[], clock, ((MapKept.heap_alloc w _).2 b hlt).trans hb, h2, h3, (MapKept.heap_alloc w _).1, h2.1, Nat.le_refl _, Nat.le_refl _, ?_⟩, (Below.refl _ w).alloc (Nat.le_refl _) _, by simp⟩
  have e1 : leftOf es #[] = es := by simp [leftOf]
  rw [e1]
  exact h3
/-- The step: nothing is left; or one entry that is left. -/
theorem MapRng.next (h : MapRng w b r l left) (ty : TypeId) :
    (left = [] ∧ (Instr.next (.pointer (some ⟨r, 0, none⟩)) false ty).run P w = .ok (.tuple #[.bool false]) w) ∨
    ∃ key v left' w', left.Perm ((key, v) :: left') ∧ (Instr.next (.pointer (some ⟨r, 0, none⟩)) false ty).run P w = .ok (.tuple #[.bool true, key, v]) w' ∧
      MapRng w' b r l left' ∧ w.grownBy w' (some r) ∧ w'.heap.size = w.heap.size ∧ (Instr.entry (.pointer (some ⟨r, 0, none⟩))).run P w' = .ok (.tuple #[key, v]) w' := by
  have hne := h.ne
  obtain ⟨es, clock, since, seen, c0, hb, h2, h3, hr, hold, hsc, hsk, hl⟩ := h.out
  rcases run_next_at (P := P) w ty r b since c0 seen es clock hr hb hold hsc with ⟨h0, hrun⟩ | ⟨e, he, w1, hal, hrun⟩
  · refine .inl ⟨?_, hrun⟩
    have : leftOf es seen = #[] := Array.eq_empty_of_size_eq_zero h0
    rw [this] at hl
    simpa using hl.symm.eq_nil
  · obtain ⟨hem, hes⟩ := mem_left he
    have hr1 : w1.heap[r]? = some (.mapIter (some b) since seen c0) := by rcases hal with rfl | rfl <;> exact hr
    have hb1 : w1.heap[b]? = some (.map es clock) := by rcases hal with rfl | rfl <;> exact hb
    have hset := heap_set (o' := .mapIter (some b) since (seen.push e.born) clock) hr1
    have hb' : (setBlock w1 r (.mapIter (some b) since (seen.push e.born) clock)).heap[b]? = some (.map es clock) := (hset.2 b (fun e1 => hne e1.symm)).trans hb1
    refine .inr ⟨e.key, e.val, ((leftOf es (seen.push e.born)).toList.map kvOf), _, ?_, hrun, ⟨es, clock, since, seen.push e.born, clock, hb', h2, h3, hset.1, hold, hsk, hsk, List.Perm.refl _⟩, ?_, ?_,
      run_entry_at _ r b since seen es clock e hset.1 hb' hem h2.2.1⟩
    · refine hl.symm.trans ?_
      have e1 : (e.key, e.val) = kvOf e := rfl
      rw [e1, ← List.map_cons]
      refine List.Perm.map _ ?_
      have hnd : es.toList.Nodup := (List.Pairwise.of_map _ (fun _ _ hne e1 => hne (by rw [e1])) h2.2.1 : es.toList.Pairwise (· ≠ ·))
      have hf : ∀ s : Array Nat, (leftOf es s).toList = es.toList.filter fun e => !s.contains e.born := fun s => by unfold leftOf; rw [Array.toList_filter]
      rw [hf, hf]
      have hlf : (es.toList.filter fun e => !(seen.push e.born).contains e.born) = es.toList.filter fun e => !(seen.push e.born).contains e.born := rfl
      refine (List.perm_ext_iff_of_nodup (hnd.filter _) (List.nodup_cons.2 ⟨fun hm => ?_, hnd.filter _⟩)).2 fun x => ?_
      · have := (List.mem_filter.1 hm).2
        rw [contains_push] at this
        simp at this
      · simp only [List.mem_filter, List.mem_cons, contains_push]
        constructor
        · rintro ⟨hx1, hx2⟩
          by_cases e2 : x = e
          · exact .inl e2
          · refine .inr ⟨hx1, ?_⟩
            have : (x.born == e.born) = false := by
              cases hc : x.born == e.born with
              | false => rfl
              | true => exact absurd (born_inj h2.2.1 hx1 hem (beq_iff_eq.1 hc)) e2
            rw [this, Bool.or_false]
            exact hx2
        · rintro (rfl | ⟨hx1, hx2⟩)
          · exact ⟨hem, by rw [hes]; rfl⟩
          · refine ⟨hx1, ?_⟩
            cases hc : seen.contains x.born with
            | false => rfl
            | true => rw [hc] at hx2; simp at hx2
    · rcases hal with rfl | rfl <;> exact ⟨rfl, rfl, rfl, by simp [setBlock], fun i _ hi => hset.2 i (fun e1 => hi (by rw [e1]))⟩
    · rcases hal with rfl | rfl <;> simp [setBlock]
theorem MapRng.left_of (h : MapRng w b r l left) : ∀ p ∈ left, p ∈ l := by
  obtain ⟨es, clock, since, seen, c0, hb, h2, h3, hr, hold, hsc, hsk, hl⟩ := h.out
  intro p hp
  obtain ⟨x, hx, rfl⟩ := List.mem_map.1 (hl.mem_iff.2 hp)
  exact h3.mem_iff.1 (List.mem_map_of_mem (f := kvOf) (mem_left hx).1)
theorem MapRng.left_keys (h : MapRng w b r l left) : left.Pairwise (fun p q => p.1 ≠ q.1) := by
  obtain ⟨es, clock, since, seen, c0, hb, h2, h3, hr, hold, hsc, hsk, hl⟩ := h.out
  refine (hl.pairwise_iff (fun {_ _} hne => Ne.symm hne)).1 ?_
  have hs : ((leftOf es seen).toList.map kvOf).Sublist (es.toList.map kvOf) := by
    unfold leftOf
    rw [Array.toList_filter]
    exact List.filter_sublist.map _
  exact (kv_pairwise h2).sublist hs
end
end Go.Proofs.YteidkmiladkoiaaGreatDoor

/-
  Memory by sets of blocks: what an address shows within them.
-/
namespace Go.Proofs.YteidkmiladkoiaaGreatDoor
open Go.RowKit

/-- The address A shows the cells xs, in a block of m. -/
structure SeesM (m : Nat → Prop) (w : World) (A : Option Addr) (xs : List Value) : Prop where
  out : xs = [] ∨ ∃ ad, A = some ad ∧ m ad.block ∧ ∀ j u, xs[j]? = some u → w.cell? (ad.add j) = some u
/-- Blocks of m lie as they lay. -/
def Kept (m : Nat → Prop) (w w' : World) : Prop := ∀ k, m k → w'.heap[k]? = w.heap[k]?

section
variable {m m' : Nat → Prop} {w w' : World} {A : Option Addr}
theorem Kept.cell (h : Kept m w w') {p : Addr} (hp : m p.block) : w'.cell? p = w.cell? p := World.cell?_of_block (h _ hp)
theorem Kept.trans {w'' : World} (h : Kept m w w') (k : Kept m w' w'') : Kept m w w'' := fun j hj => (k j hj).trans (h j hj)
theorem Kept.refl (m : Nat → Prop) (w : World) : Kept m w w := fun _ _ => rfl
theorem Kept.mono (h : Kept m w w') (hm : ∀ k, m' k → m k) : Kept m' w w' := fun j hj => h j (hm j hj)
theorem Kept.of_turn {T : Nat → Prop} (h : Turn T w w') (hm : ∀ k, m k → k < w.heap.size ∧ ¬ T k) : Kept m w w' := fun j hj => h.block j (hm j hj).1 (hm j hj).2
theorem Kept.of_below {B : Nat} (h : Below B w w') (hm : ∀ k, m k → k < B) : Kept m w w' := fun j hj => h.block j (hm j hj)
theorem Kept.drewN (m : Nat → Prop) (w : World) (q : Nat) : Kept m w (w.drewN q) := fun _ _ => rfl
theorem SeesM.keep {xs : List Value} (h : SeesM m w A xs) (hk : Kept m w w') : SeesM m w' A xs := by
  rcases h.out with h | ⟨ad, e, hb, hc⟩
  · exact ⟨.inl h⟩
  · exact ⟨.inr ⟨ad, e, hb, fun j u hu => (hk.cell (by rw [add_block]; exact hb)).trans (hc j u hu)⟩⟩
theorem SeesM.mono {xs : List Value} (h : SeesM m w A xs) (hm : ∀ k, m k → m' k) : SeesM m' w A xs := by
  rcases h.out with h | ⟨ad, e, hb, hc⟩
  · exact ⟨.inl h⟩
  · exact ⟨.inr ⟨ad, e, hm _ hb, hc⟩⟩
theorem SeesM.sees {xs : List Value} (h : SeesM m w A xs) {B : Nat} (hm : ∀ k, m k → k < B) : Sees w B A xs := by
  rcases h.out with h | ⟨ad, e, hb, hc⟩
  · exact ⟨.inl h⟩
  · exact ⟨.inr ⟨ad, e, hm _ hb, hc⟩⟩
theorem Sees.toM {xs : List Value} {B : Nat} (h : Sees w B A xs) : SeesM (fun k => k < B) w A xs := by
  rcases h.out with h | ⟨ad, e, hb, hc⟩
  · exact ⟨.inl h⟩
  · exact ⟨.inr ⟨ad, e, hb, hc⟩⟩
end
/-- Block B is a variable's box: one cell that holds v. -/
structure Box1 (W : World) (B : Nat) (t : TypeId) (v : Value) : Prop where
  out : Boxed W B t v
section
variable {W W' : World} {B : Nat} {t : TypeId} {v : Value}
theorem Box1.lt (h : Box1 W B t v) : B < W.heap.size := h.out.lt
theorem Box1.cell (h : Box1 W B t v) : W.cell? ⟨B, 0, none⟩ = some v := h.out.cell
theorem Box1.frozen (h : Box1 W B t v) : W.frozen? ⟨B, 0, none⟩ = false := h.out.frozen
theorem Box1.new (W : World) (t : TypeId) (v : Value) : Box1 (W.alloc (.cells #[v] t)) W.heap.size t v := ⟨Boxed.new W t v⟩
theorem Box1.alloc (h : Box1 W B t v) (o : Obj) : Box1 (W.alloc o) B t v := ⟨h.out.alloc o⟩
theorem Box1.turn {T : Nat → Prop} (h : Box1 W B t v) (ht : Turn T W W') (hn : ¬ T B) : Box1 W' B t v := ⟨(ht.block B h.lt hn).trans h.out⟩
theorem Box1.below {b : Nat} (h : Box1 W B t v) (hb : Below b W W') (hB : B < b) : Box1 W' B t v := ⟨(hb.block B hB).trans h.out⟩
theorem Box1.set (h : Box1 W B t v) (v' : Value) : Box1 (W.setCell ⟨B, 0, none⟩ v') B t v' := ⟨h.out.set v'⟩
theorem Box1.drewN (h : Box1 W B t v) (q : Nat) : Box1 (W.drewN q) B t v := ⟨h.out⟩
end
/-- The address A shows the cells xs, in a block of m, and they lie unfrozen. -/
structure SeesU (m : Nat → Prop) (w : World) (A : Option Addr) (xs : List Value) : Prop where
  out : xs = [] ∨ ∃ ad, A = some ad ∧ m ad.block ∧ ∀ j u, xs[j]? = some u → w.cell? (ad.add j) = some u ∧ w.frozen? (ad.add j) = false
section
variable {m m' : Nat → Prop} {w w' : World} {A : Option Addr} {xs : List Value}
theorem frozen_of_block {a : Addr} (h : w'.heap[a.block]? = w.heap[a.block]?) : w'.frozen? a = w.frozen? a := by unfold World.frozen?; rw [h]
theorem SeesU.toM (h : SeesU m w A xs) : SeesM m w A xs := by
  rcases h.out with h | ⟨ad, e, hb, hc⟩
  · exact ⟨.inl h⟩
  · exact ⟨.inr ⟨ad, e, hb, fun j u hu => (hc j u hu).1⟩⟩
theorem SeesU.keep (h : SeesU m w A xs) (hk : Kept m w w') : SeesU m w' A xs := by
  rcases h.out with h | ⟨ad, e, hb, hc⟩
  · exact ⟨.inl h⟩
  · exact ⟨.inr ⟨ad, e, hb, fun j u hu => ⟨(hk.cell (by rw [add_block]; exact hb)).trans (hc j u hu).1, (frozen_of_block (hk _ (by rw [add_block]; exact hb))).trans (hc j u hu).2⟩⟩⟩
theorem SeesU.mono (h : SeesU m w A xs) (hm : ∀ k, m k → m' k) : SeesU m' w A xs := by
  rcases h.out with h | ⟨ad, e, hb, hc⟩
  · exact ⟨.inl h⟩
  · exact ⟨.inr ⟨ad, e, hm _ hb, hc⟩⟩
end
section
variable {w w' : World} {base : Nat} {v : Value}
theorem ownsRow_kept {e : TypeId} {sz n : Nat} {xs : List Value} (h : w.ownsRow base e sz v n xs) (hk : ∀ k, v.ownBlock = some k → w'.heap[k]? = w.heap[k]?) : w'.ownsRow base e sz v n xs := by
  refine ⟨h.1, ?_⟩
  rcases h.2 with h2 | ⟨g, cap, cur, rfl, hb, hh, r⟩
  · exact .inl h2
  · exact .inr ⟨g, cap, cur, rfl, hb, (hk g rfl).trans hh, r⟩
end
theorem ownB_seesU {w : World} {base n c : Nat} {A : Option Addr} {l : List UInt8} (h : OwnB w base (.slice A n c) l) : SeesU (fun k => base ≤ k ∧ k < w.heap.size) w A (bv l) := by
  rcases h.2 with ⟨h0, h1⟩ | ⟨g, cap, cur, hv, hb, hh, -⟩
  · refine ⟨.inl ?_⟩
    rw [List.eq_nil_of_length_eq_zero h1]; rfl
  · injection hv with hv hn hc
    subst hv hn hc
    unfold OwnB at h
    exact ⟨.inr ⟨_, rfl, ⟨hb, (Array.getElem?_eq_some_iff.1 hh).1⟩, fun j u hu => ⟨World.ownsRow.cells h (g := g) rfl j u hu, by rw [Addr.add_lit]; exact World.ownsRow.frozenAt h (0 + j)⟩⟩⟩

end Go.Proofs.YteidkmiladkoiaaGreatDoor

/-
  Files by path, in memory. Each block has a colour: 0: none of these files; 1: the struct; 2: the paths; 3: the paths as they stay; 4: the row of changes; 5: a change; 2i+6: the i-th file; 2i+7: its bytes.
-/
namespace Go.Proofs.YteidkmiladkoiaaGreatDoor
open Go.RowKit

/-- A whole block of cells, none of them frozen. -/
structure Blk (w : World) (b : Nat) (cs : Array Value) (t : TypeId) : Prop where
  out : w.heap[b]? = some (.cells cs t (0, 0))
section
variable {w w' : World} {b : Nat} {cs : Array Value} {t : TypeId}
theorem Blk.cell (h : Blk w b cs t) (i : Nat) {v : Value} (hi : cs[i]? = some v) : w.cell? ⟨b, i, none⟩ = some v := by
  simp [World.cell?, h.out, hi]
theorem Blk.frozen (h : Blk w b cs t) (i : Nat) : w.frozen? ⟨b, i, none⟩ = false := frozen_of_row w b i cs t h.out
theorem Blk.set (h : Blk w b cs t) (i : Nat) (v : Value) : Blk (w.setCell ⟨b, i, none⟩ v) b (cs.setIfInBounds i v) t := ⟨heap_setCell_same w b i cs t v h.out⟩
theorem Blk.lt (h : Blk w b cs t) : b < w.heap.size := (Array.getElem?_eq_some_iff.1 h.out).1
theorem Blk.keep (h : Blk w b cs t) (hk : w'.heap[b]? = w.heap[b]?) : Blk w' b cs t := ⟨hk.trans h.out⟩
theorem Blk.new (w : World) (cs : Array Value) (t : TypeId) : Blk (w.alloc (.cells cs t)) w.heap.size cs t := ⟨World.alloc_heap_new w _⟩
theorem Blk.okPtr (h : Blk w b cs t) : okPtr w (.pointer (some ⟨b, 0, none⟩)) := .inr ⟨b, cs, t, rfl, h.out⟩
end

theorem strOf_inj {a b : Txt} (h : strOf a = strOf b) : a = b := by
  have := congrArg ByteArray.toList h
  rwa [strOf_toList, strOf_toList] at this

/-- A pointer to a block. -/
def ptr (b : Nat) : Value := .pointer (some ⟨b, 0, none⟩)
theorem ptr_inj {a b : Nat} (h : ptr a = ptr b) : a = b := by simpa [ptr] using h
/-- An entry of a map of paths. -/
def pv (F : Nat → Nat) (p : Txt × Nat) : Value × Value := (.string (strOf p.1), ptr (F p.2))
def optV (F : Nat → Nat) : Option Nat → Value
  | none => .pointer none
  | some n => ptr (F n)
/-- The cells of a change. -/
def givV (F : Nat → Nat) (l : List Giv) : List Value := l.flatMap fun g => [.string (strOf g.1), optV F g.2]

theorem pv_keys {F : Nat → Nat} {d : Dir} (h : RiD d) : (d.map (pv F)).Pairwise fun p q => p.1 ≠ q.1 := by
  rw [List.pairwise_map]
  refine h.imp fun {x y} hlt => fun e => lt_ne hlt (strOf_inj ?_)
  simpa [pv] using e
theorem pv_ok {F : Nat → Nat} {d : Dir} : ∀ p ∈ d.map (pv F), okStr p.1 := fun p hp => by
  obtain ⟨x, -, rfl⟩ := List.mem_map.1 hp
  exact ⟨_, rfl⟩
theorem pv_put {F : Nat → Nat} {d : Dir} (h : RiD d) (q : Txt) (n : Nat) (p : Value × Value) : p ∈ (putD d (q, some n)).map (pv F) ↔ p = (.string (strOf q), ptr (F n)) ∨ (p ∈ d.map (pv F) ∧ p.1 ≠ .string (strOf q)) := by
  constructor
  · intro hp
    obtain ⟨x, hx, rfl⟩ := List.mem_map.1 hp
    rcases (mem_put h _ x).1 hx with ⟨h1, h2⟩ | ⟨h1, h2⟩
    · simp only [Option.some.injEq] at h1
      exact .inl (by simp [pv, h2, h1])
    · refine .inr ⟨List.mem_map_of_mem (f := pv F) h1, fun e => h2 (strOf_inj ?_)⟩
      simpa [pv] using e
  · rintro (rfl | ⟨hp, hne⟩)
    · exact List.mem_map.2 ⟨(q, n), (mem_put h _ _).2 (.inl ⟨rfl, rfl⟩), rfl⟩
    · obtain ⟨x, hx, rfl⟩ := List.mem_map.1 hp
      exact List.mem_map_of_mem (f := pv F) ((mem_put h _ x).2 (.inr ⟨hx, fun e => hne (by simp only [pv]; rw [e])⟩))
theorem pv_del {F : Nat → Nat} {d : Dir} (h : RiD d) (q : Txt) (p : Value × Value) : p ∈ (putD d (q, none)).map (pv F) ↔ p ∈ d.map (pv F) ∧ p.1 ≠ .string (strOf q) := by
  constructor
  · intro hp
    obtain ⟨x, hx, rfl⟩ := List.mem_map.1 hp
    rcases (mem_put h _ x).1 hx with ⟨h1, -⟩ | ⟨h1, h2⟩
    · cases h1
    · refine ⟨List.mem_map_of_mem (f := pv F) h1, fun e => h2 (strOf_inj ?_)⟩
      simpa [pv] using e
  · rintro ⟨hp, hne⟩
    obtain ⟨x, hx, rfl⟩ := List.mem_map.1 hp
    exact List.mem_map_of_mem (f := pv F) ((mem_put h _ x).2 (.inr ⟨hx, fun e => hne (by simp only [pv]; rw [e])⟩))
theorem givV_cons (F : Nat → Nat) (g : Giv) (l : List Giv) : givV F (g :: l) = .string (strOf g.1) :: optV F g.2 :: givV F l := rfl
theorem givV_length (F : Nat → Nat) (l : List Giv) : (givV F l).length = l.length * 2 := by
  induction l with
  | nil => rfl
  | cons g l ih => rw [givV_cons]; simp only [List.length_cons, ih]; omega
theorem givV_at (F : Nat → Nat) : ∀ (l : List Giv) (k : Nat) (h : k < l.length), (givV F l)[2 * k]? = some (.string (strOf l[k].1)) ∧ (givV F l)[2 * k + 1]? = some (optV F l[k].2)
  | g :: l, 0, _ => by rw [givV_cons]; simp
  | g :: l, k + 1, h => by
    rw [givV_cons, show 2 * (k + 1) = 2 * k + 1 + 1 by omega]
    simpa using givV_at F l k (by simpa using h)
theorem add_field (a : Addr) (m j : Nat) (hj : 0 < j) : a.add (m + j) = ⟨(a.add m).block, (a.add m).off + j, none⟩ := by
  unfold Addr.add
  by_cases hm : m = 0
  · subst hm
    rw [if_neg (by omega), if_pos rfl]
    simp
  · rw [if_neg (by omega), if_neg hm]
    simp [Nat.add_assoc]
/-- The k-th path of a change that is seen, and its file. -/
theorem SeesM.giv {q : Nat → Prop} {w : World} {A : Option Addr} {F : Nat → Nat} {l : List Giv} (h : SeesM q w A (givV F l)) {k : Nat} (hk : k < l.length) : ∃ ad, A = some ad ∧ q ad.block ∧ w.cell? (ad.add (k * 2)) = some (.string (strOf l[k].1)) ∧ w.cell? ⟨(ad.add (k * 2)).block, (ad.add (k * 2)).off + 1, none⟩ = some (optV F l[k].2) := by
  rcases h.out with h | ⟨ad, e, hb, hc⟩
  · have := givV_length F l
    rw [h] at this
    simp at this
    omega
  · obtain ⟨h1, h2⟩ := givV_at F l k hk
    exact ⟨ad, e, hb, by rw [Nat.mul_comm]; exact hc _ _ h1, by rw [← add_field ad _ 1 (by omega), Nat.mul_comm]; exact hc _ _ h2⟩
theorem givV_congr {F F' : Nat → Nat} {l : List Giv} (h : ∀ p n, (p, some n) ∈ l → F' n = F n) : givV F' l = givV F l := by
  induction l with
  | nil => rfl
  | cons g l ih =>
    rw [givV_cons, givV_cons, ih fun p n hp => h p n (List.mem_cons_of_mem _ hp)]
    obtain ⟨p, o⟩ := g
    cases o with
    | none => rfl
    | some n => simp only [optV]; rw [h p n (by simp)]
theorem givV_append (F : Nat → Nat) (l m : List Giv) : givV F (l ++ m) = givV F l ++ givV F m := by simp [givV]
theorem givV_one (F : Nat → Nat) (l : List Giv) : ∀ u ∈ givV F l, u.oneCell' = true := fun u hu => by
  obtain ⟨g, -, hg⟩ := List.mem_flatMap.1 hu
  simp only [List.mem_cons, List.not_mem_nil, or_false] at hg
  rcases hg with rfl | rfl
  · rfl
  · obtain ⟨p, o⟩ := g
    cases o <;> rfl

/-- One more colour. -/
def upd (c : Nat → Nat) (b x : Nat) : Nat → Nat := fun k => if k = b then x else c k
theorem upd_same (c : Nat → Nat) (b x : Nat) : upd c b x b = x := by simp [upd]
theorem upd_ne (c : Nat → Nat) {b : Nat} (x : Nat) {k : Nat} (h : k ≠ b) : upd c b x k = c k := by simp [upd, h]
/-- The i-th file lies in block p. -/
structure FileAt (c : Nat → Nat) (w : World) (i p : Nat) (x : FileM) : Prop where
  out : ∃ v, Blk w p #[v, .int .i64 (x.stays : Int)] 77 ∧ OwnB w 0 v x.b ∧ ∀ k, v.ownBlock = some k → c k = 2 * i + 7
  col : c p = 2 * i + 6
/-- The row of changes. -/
structure ChgAt (c F : Nat → Nat) (w : World) (v : Value) (L : List (List Giv)) : Prop where
  out : ∃ vs : List Value, w.ownsRow 0 94 1 v L.length vs ∧ (∀ k, v.ownBlock = some k → c k = 4) ∧ ∀ i (hi : i < L.length), ∃ A n, vs[i]? = some (.slice A (L[i]).length n) ∧ (L[i]).length ≤ n ∧ SeesM (fun k => c k = 5) w A (givV F L[i])
/-- The cells of the struct. -/
def fsV (S : FsM) (bn bk : Nat) (v : Value) : Array Value := #[.int .i64 (S.room : Int), .map (some bn), .map (some bk), v, .int .i64 (S.fuse : Int)]
/-- The files S lie in block f. -/
structure FsAt (c F : Nat → Nat) (w : World) (f : Nat) (S : FsM) : Prop where
  out : ∃ (bn bk : Nat) (v : Value), Blk w f (fsV S bn bk v) 64 ∧ c bn = 2 ∧ c bk = 3 ∧ MapIs w bn (S.now.map (pv F)) ∧ MapIs w bk (S.kept.map (pv F)) ∧ ChgAt c F w v S.chg
  col : c f = 1
  files : ∀ i, S.reach i → FileAt c w i (F i) (S.file i)
  lt : ∀ k, c k ≠ 0 → k < w.heap.size
/-- What a step over files leaves: the files S'; blocks of theirs alone have turned; none is theirs that was another's. -/
structure FsNew (c : Nat → Nat) (w : World) (f : Nat) (S' : FsM) (w' : World) : Prop where
  out : ∃ c' F', FsAt c' F' w' f S' ∧ ∀ k, k < w.heap.size → c k = 0 → c' k = 0
  turn : Turn (fun k => c k ≠ 0) w w'

section
variable {c c' F F' : Nat → Nat} {w w' w'' : World} {f i p : Nat} {S S' : FsM} {x : FileM} {v : Value} {L : List (List Giv)}
theorem FileAt.keep (h : FileAt c w i p x) (hk : Kept (fun k => c k = 2 * i + 6 ∨ c k = 2 * i + 7) w w') : FileAt c w' i p x := by
  obtain ⟨v, h1, h2, h3⟩ := h.out
  exact ⟨⟨v, h1.keep (hk p (.inl h.col)), ownsRow_kept h2 fun k e => hk k (.inr (h3 k e)), h3⟩, h.col⟩
theorem FileAt.recol (h : FileAt c w i p x) (hc : ∀ k, c k = 2 * i + 6 ∨ c k = 2 * i + 7 → c' k = c k) : FileAt c' w i p x := by
  obtain ⟨v, h1, h2, h3⟩ := h.out
  exact ⟨⟨v, h1, h2, fun k e => (hc k (.inr (h3 k e))).trans (h3 k e)⟩, (hc p (.inl h.col)).trans h.col⟩
theorem FileAt.lt (h : FileAt c w i p x) : p < w.heap.size := by obtain ⟨v, h1, -⟩ := h.out; exact h1.lt
theorem FileAt.okPtr (h : FileAt c w i p x) : okPtr w (ptr p) := by obtain ⟨v, h1, -⟩ := h.out; exact h1.okPtr
/-- The file's cells. -/
theorem FileAt.open_ (h : FileAt c w i p x) : ∃ A n, w.cell? ⟨p, 0, none⟩ = some (.slice A x.b.length n) ∧ w.cell? ⟨p, 1, none⟩ = some (.int .i64 (x.stays : Int)) ∧ (∀ j, w.frozen? ⟨p, j, none⟩ = false) ∧ x.b.length ≤ n ∧ n ≤ maxLen ∧ Sees w w.heap.size A (bv x.b) ∧
    OwnB w 0 (.slice A x.b.length n) x.b ∧ Blk w p #[.slice A x.b.length n, .int .i64 (x.stays : Int)] 77 ∧ (∀ k, (Value.slice A x.b.length n).ownBlock = some k → c k = 2 * i + 7) := by
  obtain ⟨v, h1, h2, h3⟩ := h.out
  obtain ⟨A, n, rfl, g1, g2, g3, g4⟩ := OwnB.open_ h2
  exact ⟨A, n, h1.cell 0 rfl, h1.cell 1 rfl, h1.frozen, g1, g2, g4, g3, h1, h3⟩
theorem ChgAt.keep (h : ChgAt c F w v L) (hk : Kept (fun k => c k = 4 ∨ c k = 5) w w') : ChgAt c F w' v L := by
  obtain ⟨vs, h1, h2, h3⟩ := h.out
  refine ⟨vs, ownsRow_kept h1 fun k e => hk k (.inl (h2 k e)), h2, fun i hi => ?_⟩
  obtain ⟨A, n, g1, g2, g3⟩ := h3 i hi
  exact ⟨A, n, g1, g2, g3.keep (hk.mono fun k e => .inr e)⟩
theorem ChgAt.recol (h : ChgAt c F w v L) (hc : ∀ k, c k = 4 ∨ c k = 5 → c' k = c k) : ChgAt c' F w v L := by
  obtain ⟨vs, h1, h2, h3⟩ := h.out
  refine ⟨vs, h1, fun k e => (hc k (.inl (h2 k e))).trans (h2 k e), fun i hi => ?_⟩
  obtain ⟨A, n, g1, g2, g3⟩ := h3 i hi
  exact ⟨A, n, g1, g2, g3.mono fun k e => (hc k (.inr e)).trans e⟩
theorem ChgAt.refile (h : ChgAt c F w v L) (hF : ∀ l ∈ L, ∀ p n, (p, some n) ∈ l → F' n = F n) : ChgAt c F' w v L := by
  obtain ⟨vs, h1, h2, h3⟩ := h.out
  refine ⟨vs, h1, h2, fun i hi => ?_⟩
  obtain ⟨A, n, g1, g2, g3⟩ := h3 i hi
  exact ⟨A, n, g1, g2, by rw [givV_congr (hF _ (List.getElem_mem hi))]; exact g3⟩
theorem ChgAt.nil (c F : Nat → Nat) (w : World) : ChgAt c F w (.slice none 0 0) [] := ⟨[], World.ownsRow_nil w 0 _ 1, fun k hk => by simp [Value.ownBlock] at hk, fun i hi => absurd hi (by simp)⟩
theorem pv_congr {d : Dir} (h : ∀ p n, (p, n) ∈ d → F' n = F n) : d.map (pv F') = d.map (pv F) := List.map_congr_left fun x hx => by simp only [pv]; rw [h x.1 x.2 hx]
theorem FsAt.keep (h : FsAt c F w f S) (hk : Kept (fun k => c k ≠ 0) w w') (hs : w.heap.size ≤ w'.heap.size) : FsAt c F w' f S := by
  obtain ⟨bn, bk, v, h1, h2, h3, h4, h5, h6⟩ := h.out
  exact ⟨⟨bn, bk, v, h1.keep (hk f (by have := h.col; simp only; omega)), h2, h3, h4.keep (hk bn (by omega)), h5.keep (hk bk (by omega)), h6.keep (hk.mono fun k e => by omega)⟩, h.col, fun i hi => (h.files i hi).keep (hk.mono fun k e => by omega), fun k hc => Nat.lt_of_lt_of_le (h.lt k hc) hs⟩
theorem FsAt.below (h : FsAt c F w f S) (hb : Below w.heap.size w w') : FsAt c F w' f S := h.keep (Kept.of_below hb h.lt) hb.size
theorem FsAt.turn {T : Nat → Prop} (h : FsAt c F w f S) (ht : Turn T w w') (hT : ∀ k, T k → c k = 0) : FsAt c F w' f S := h.keep (Kept.of_turn ht fun k e => ⟨h.lt k e, fun e2 => e (hT k e2)⟩) ht.size
theorem FsAt.drewN (h : FsAt c F w f S) (q : Nat) : FsAt c F (w.drewN q) f S := h.keep (Kept.drewN _ w q) (Nat.le_refl _)
theorem FsAt.refile (h : FsAt c F w f S) (hF : ∀ i, S.reach i → F' i = F i) : FsAt c F' w f S := by
  obtain ⟨bn, bk, v, h1, h2, h3, h4, h5, h6⟩ := h.out
  refine ⟨⟨bn, bk, v, h1, h2, h3, ?_, ?_, h6.refile fun l hl p n hp => hF n (.inr (.inr ⟨l, hl, p, hp⟩))⟩, h.col, fun i hi => by rw [hF i hi]; exact h.files i hi, h.lt⟩
  · rw [pv_congr fun p n hp => hF n (.inl ⟨p, hp⟩)]; exact h4
  · rw [pv_congr fun p n hp => hF n (.inr (.inl ⟨p, hp⟩))]; exact h5
/-- Only new blocks have another colour. -/
theorem FsAt.recol (h : FsAt c F w f S) (hc : ∀ k, c k ≠ 0 → c' k = c k) (hl : ∀ k, c' k ≠ 0 → k < w.heap.size) : FsAt c' F w f S := by
  obtain ⟨bn, bk, v, h1, h2, h3, h4, h5, h6⟩ := h.out
  have hcf := h.col
  exact ⟨⟨bn, bk, v, h1, (hc bn (by omega)).trans h2, (hc bk (by omega)).trans h3, h4, h5, h6.recol fun k e => hc k (by omega)⟩, (hc f (by omega)).trans hcf, fun i hi => (h.files i hi).recol fun k e => hc k (by omega), hl⟩
theorem FsAt.inj (h : FsAt c F w f S) {i j : Nat} (hi : S.reach i) (hj : S.reach j) (e : F i = F j) : i = j := by
  have h1 := (h.files i hi).col
  have h2 := (h.files j hj).col
  rw [e] at h1
  omega
theorem FsNew.of_below (h : FsAt c F w f S) (hb : Below w.heap.size w w') : FsNew c w f S w' := ⟨⟨c, F, h.below hb, fun _ _ e => e⟩, .of_new hb⟩
theorem FsNew.trans {S1 : FsM} (h : FsNew c w f S1 w') (k : ∀ c' F', FsAt c' F' w' f S1 → FsNew c' w' f S' w'') : FsNew c w f S' w'' := by
  obtain ⟨c1, F1, h1, h2⟩ := h.out
  have hk := k c1 F1 h1
  obtain ⟨c2, F2, h3, h4⟩ := hk.out
  have hs := h.turn.size
  exact ⟨⟨c2, F2, h3, fun j hj e => h4 j (by omega) (h2 j hj e)⟩, h.turn.trans' hk.turn fun j hj e e2 => e (h2 j hj e2)⟩
/-- The struct's cells. -/
theorem FsAt.open_ (h : FsAt c F w f S) : ∃ bn bk A n, w.cell? ⟨f, 0, none⟩ = some (.int .i64 (S.room : Int)) ∧ w.cell? ⟨f, 1, none⟩ = some (.map (some bn)) ∧ w.cell? ⟨f, 2, none⟩ = some (.map (some bk)) ∧ w.cell? ⟨f, 3, none⟩ = some (.slice A S.chg.length n) ∧ w.cell? ⟨f, 4, none⟩ = some (.int .i64 (S.fuse : Int)) ∧
    (∀ j, w.frozen? ⟨f, j, none⟩ = false) ∧ c bn = 2 ∧ c bk = 3 ∧ MapIs w bn (S.now.map (pv F)) ∧ MapIs w bk (S.kept.map (pv F)) ∧ ChgAt c F w (.slice A S.chg.length n) S.chg ∧ S.chg.length ≤ n ∧ Blk w f (fsV S bn bk (.slice A S.chg.length n)) 64 := by
  obtain ⟨bn, bk, v, h1, h2, h3, h4, h5, h6⟩ := h.out
  obtain ⟨A, n, rfl, hn⟩ : ∃ A n, v = .slice A S.chg.length n ∧ S.chg.length ≤ n := by
    obtain ⟨vs, g1, -⟩ := h6.out
    rcases g1.2 with ⟨rfl, hn⟩ | ⟨g, cap, cur, rfl, -, -, hc, -⟩
    · exact ⟨none, 0, by rw [hn], by omega⟩
    · exact ⟨_, cap, rfl, hc⟩
  exact ⟨bn, bk, A, n, h1.cell 0 rfl, h1.cell 1 rfl, h1.cell 2 rfl, h1.cell 3 rfl, h1.cell 4 rfl, h1.frozen, h2, h3, h4, h5, h6, hn, h1⟩
end
end Go.Proofs.YteidkmiladkoiaaGreatDoor

/-
  change.do, walked: a change is done with paths.
-/
namespace Go.Proofs.YteidkmiladkoiaaGreatDoor
open Go.RowKit

theorem law_pstr (w : World) : KeyOk Tryz.prog 9 w okStr := keyOk_str Tryz.underlying9 w
/-- 'm[p] = x', 'delete(m, p)' at paths. -/
theorem dir_store {w : World} {b : Nat} {F : Nat → Nat} {d : Dir} (h : MapIs w b (d.map (pv F))) (hd : RiD d) (q : Txt) (n : Nat) :
    ∃ w', (Instr.mapUpdate 61 (.map (some b)) (.string (strOf q)) (ptr (F n))).run Tryz.prog w = .ok () w' ∧ MapIs w' b ((putD d (q, some n)).map (pv F)) ∧ Turn (fun k => k = b) w w' := by
  obtain ⟨w', h1, h2, h3, -⟩ := h.store (law_pstr w) Tryz.underlying61 pv_ok (x := .string (strOf q)) (v := ptr (F n)) ⟨_, rfl⟩ (pv_keys (ri_put hd _)) (pv_put hd q n)
  exact ⟨w', h1, h2, .of_grown h3 fun k e => (Option.some.inj e).symm⟩
theorem dir_drop {w : World} {b : Nat} {F : Nat → Nat} {d : Dir} (h : MapIs w b (d.map (pv F))) (hd : RiD d) (q : Txt) :
    ∃ w', (∀ ty, (Builtin.delete_ #[61, 9] ty #[.map (some b), .string (strOf q)]).run Tryz.prog w = .ok (.tuple #[]) w') ∧ MapIs w' b ((putD d (q, none)).map (pv F)) ∧ Turn (fun k => k = b) w w' := by
  obtain ⟨w', h1, h2, h3, -⟩ := h.drop (law_pstr w) Tryz.underlying61 pv_ok (x := .string (strOf q)) ⟨_, rfl⟩ (pv_keys (ri_put hd _)) (pv_del hd q) 0
  exact ⟨w', fun ty => h1, h2, .of_grown h3 fun k e => (Option.some.inj e).symm⟩
theorem dir_look {w : World} {b : Nat} {F : Nat → Nat} {d : Dir} (h : MapIs w b (d.map (pv F))) {q : Txt} {n : Nat} (hl : lookD d q = some n) :
    (Instr.lookup 61 (.map (some b)) (.string (strOf q)) true).run Tryz.prog w = .ok (.tuple #[ptr (F n), .bool true]) w :=
  h.look (law_pstr w) Tryz.underlying61 pv_ok (x := .string (strOf q)) (v := ptr (F n)) (List.mem_map.2 ⟨(q, n), look_mem hl, rfl⟩) true
theorem zero_ptr (w : World) : (zeroValue 73).run Tryz.prog w = .ok (.pointer none) w := by kernel_rfl
theorem dir_none {w : World} {b : Nat} {F : Nat → Nat} {d : Dir} (h : MapIs w b (d.map (pv F))) {q : Txt} (hl : lookD d q = none) :
    (Instr.lookup 61 (.map (some b)) (.string (strOf q)) true).run Tryz.prog w = .ok (.tuple #[.pointer none, .bool false]) w :=
  h.look_out (law_pstr w) Tryz.underlying61 pv_ok (x := .string (strOf q)) (zero_ptr w) ⟨_, rfl⟩ (fun p hp => by
    obtain ⟨x, hx, rfl⟩ := List.mem_map.1 hp
    exact fun e => look_none.1 hl x hx (strOf_inj (by simpa [pv] using e))) true

def DoIs (w : World) (b : Nat) (F : Nat → Nat) (d : Dir) (e : Ending) (w' : World) : Prop := (∃ v, e = .returned v) ∧ MapIs w' b (d.map (pv F)) ∧ Turn (fun k => k = b) w w'

set_option maxRecDepth 100000 in
set_option maxHeartbeats 800000 in
theorem do_any (q : Nat → Prop) (A : Option Addr) (n cap b : Nat) (F : Nat → Nat) (l : List Giv) (d : Dir) (w : World) (hl : l.length = n) (hn : n ≤ 1000) (hs : SeesM q w A (givV F l)) (hq : ∀ k, q k → k < w.heap.size ∧ k ≠ b) (hM : MapIs w b (d.map (pv F))) (hd : RiD d) :
    Calls Tryz.prog 52 #[.slice A n cap, .map (some b)] w (DoIs w b F (againD d l)) := by
  have hbl := hM.lt
  have HL := Lib.hid hl
  have HD := Lib.hid hd
  have HS := Lib.hid hs
  have HQ := Lib.hid hq
  have HM := Lib.hid hM
  clear hl hd hs hq hM
  go_enter Tryz.func52, Tryz.ntmps52
  go_wp2
  go_loopg [8] n (fun g i wr => ∃ k : Nat, k + g = n ∧ i = .int .i64 k ∧ MapIs wr b ((againD d (l.take k)).map (pv F)) ∧ Turn (fun k => k = b) w wr)
  case atStart => exact ⟨0, by omega, rfl, HM.out, Turn.refl _ _⟩
  case round =>
    obtain ⟨k, hk, rfl, hmap, ht⟩ := hrel
    by_cases hlt : k < n
    · have hlk : k < l.length := by rw [HL.out]; exact hlt
      obtain ⟨ad, hA, hadq, hc1, hc2⟩ := (HS.out.keep (Kept.of_turn ht HQ.out)).giv hlk
      have hT := Lib.hid (show againD d (l.take (k + 1)) = putD (againD d (l.take k)) l[k] by rw [List.take_succ_eq_append_getElem hlk]; unfold againD; rw [List.foldl_append]; rfl)
      have hR := ri_again (l.take k) HD.out
      obtain ⟨D, hD⟩ : ∃ D, againD d (l.take k) = D := ⟨_, rfl⟩
      rw [hD] at hmap hT hR
      have HR := Lib.hid hR
      have HMP := Lib.hid hmap
      subst hA
      clear hD hR
      obtain ⟨g, hg⟩ : ∃ g, l[k] = g := ⟨_, rfl⟩
      rw [hg] at hc1 hc2 hT
      obtain ⟨p, o⟩ := g
      clear hg hmap
      have hrel2 : ∀ W2 W3 : World, Below wr.heap.size wr W2 → Turn (fun k => k = b) W2 W3 → Turn (fun k => k = b) w W3 := fun W2 W3 h2 h3 => (ht.trans (.of_new h2)).trans h3
      cases o with
      | none =>
        have hc2' : wr.cell? ⟨(ad.add (k * 2)).block, (ad.add (k * 2)).off + 1, none⟩ = some (.pointer none) := hc2
        have m2 := HMP.out.keep (((Below.refl _ wr).alloc (Nat.le_refl _) (.cells #[.string (strOf p), .pointer none] 92)).block b HMP.out.lt)
        obtain ⟨W3, hrun, hm3, ht3⟩ := dir_drop m2 HR.out p
        have HM3 := Lib.hid hm3
        have HT3 := Lib.hid ht3
        clear hc2 hm3 ht3 m2
        go_wp2
        go_roundg (n - (k + 1))
        case measure => omega
        case rel => exact ⟨k + 1, by omega, by go_num, by rw [hT.out]; exact HM3.out, hrel2 _ _ ((Below.refl _ wr).alloc (Nat.le_refl _) _) HT3.out⟩
      | some m =>
        have hc2' : wr.cell? ⟨(ad.add (k * 2)).block, (ad.add (k * 2)).off + 1, none⟩ = some (.pointer (some ⟨F m, 0, none⟩)) := hc2
        have m2 := HMP.out.keep (((Below.refl _ wr).alloc (Nat.le_refl _) (.cells #[.string (strOf p), .pointer (some ⟨F m, 0, none⟩)] 92)).block b HMP.out.lt)
        obtain ⟨W3, hrun, hm3, ht3⟩ := dir_store m2 HR.out p m
        have hrun' : (Instr.mapUpdate 61 (.map (some b)) (.string (strOf p)) (.pointer (some ⟨F m, 0, none⟩))).run Tryz.prog _ = _ := hrun
        have HM3 := Lib.hid hm3
        have HT3 := Lib.hid ht3
        clear hc2 hm3 ht3 m2 hrun
        go_wp2
        go_roundg (n - (k + 1))
        case measure => omega
        case rel => exact ⟨k + 1, by omega, by go_num, by rw [hT.out]; exact HM3.out, hrel2 _ _ ((Below.refl _ wr).alloc (Nat.le_refl _) _) HT3.out⟩
    · obtain rfl : k = n := by omega
      have hE : Hid (l.take k = l) := by unfold Hid; rw [← HL.out]; exact List.take_length
      go_wp2
      go_end0
      exact ⟨⟨_, rfl⟩, by rw [hE.out] at hmap; exact hmap, ht⟩
end Go.Proofs.YteidkmiladkoiaaGreatDoor

/-
  Slices of slices of bytes.
-/
namespace Go.Proofs.YteidkmiladkoiaaGreatDoor
open Go.RowKit

abbrev Item := List UInt8
/-- A slice of slices of bytes. -/
structure Sees2 (w : World) (B : Nat) (A : Option Addr) (ls : List (List UInt8)) : Prop where
  out : ∀ i (hi : i < ls.length), ∃ ad Ai ci, A = some ad ∧ ad.block < B ∧ w.cell? (ad.add i) = some (.slice Ai (ls[i]).length ci) ∧ (ls[i]).length ≤ ci ∧ Sees w B Ai (bv ls[i])
theorem Sees2.below {w w' : World} {B : Nat} {A : Option Addr} {ls : List (List UInt8)} (h : Sees2 w B A ls) (hb : Below B w w') : Sees2 w' B A ls :=
  ⟨fun i hi => by
    obtain ⟨ad, Ai, ci, h1, h2, h3, h4, h5⟩ := h.out i hi
    exact ⟨ad, Ai, ci, h1, h2, (hb.cell (by rw [add_block]; exact h2)).trans h3, h4, h5.below hb⟩⟩

theorem OwnB.drewN {w : World} {base : Nat} {v : Value} {l : List UInt8} (h : OwnB w base v l) (k : Nat) : OwnB (w.drewN k) base v l := h

end Go.Proofs.YteidkmiladkoiaaGreatDoor
