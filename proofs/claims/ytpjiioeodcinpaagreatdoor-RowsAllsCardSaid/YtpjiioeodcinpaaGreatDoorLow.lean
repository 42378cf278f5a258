/-
  Several texts in one: Core Base Str Words RowOwn Rows2 Append Range Mem ItCmp Rises BytesClone Plain Concat.
-/
import Derived.Test.YtpjiioeodcinpaaGreatDoorRows
import Derived.WalkKit
import Derived.WalkSpells
import Derived.WalkLawsBesides
import Derived.Maps.AppendAt
import Derived.Deep.AppendLies
import Derived.Deep.Draws
import Derived.Lib.Hide
import Derived.Lib.LazyBuf
import Derived.BigQuiet
import Derived.Deep.QuietTactic
import Derived.Deep.LoopGhost
import Derived.Deep.DeepCutAuto
import Derived.Deep.DeepFit
import Derived.Deep.RegionHeld3
import Derived.Deep.Light
import Derived.Lib.SlBytesConst
import Derived.Lib.UnsafeStr
import Derived.Lib.BytesEntry
import Derived.Laws.Externs
import Derived.Sort.Walk0
import Derived.RangeFuncNested
import Derived.RangeFuncBound
import Derived.RangeFuncCalls
import Derived.RangeFuncLeaves
import Derived.Shelf.Abstract
import Derived.Shelf.RegionOpen
import Derived.OwnWalkIn
import Derived.TacticsInMore
import Derived.LoopNIn
import Derived.LoopIn
import Derived.RangeFuncBox
import Derived.Lib.AppendZeros
/-
  Words for memory that the walks of this claim use: what an address shows, what a step leaves. No program in sight.
-/
namespace Go.Proofs.YtpjiioeodcinpaaGreatDoor
open Go.RowKit

/-- The address A shows the cells xs in the world w, below block B. -/
structure Sees (w : World) (B : Nat) (A : Option Addr) (xs : List Value) : Prop where
  out : xs = [] ∨ ∃ ad, A = some ad ∧ ad.block < B ∧ ∀ j u, xs[j]? = some u → w.cell? (ad.add j) = some u

theorem add_block (a : Addr) (n : Nat) : (a.add n).block = a.block := by unfold Addr.add; split <;> rfl
theorem add_add' (a : Addr) (i j : Nat) : (a.add i).add j = a.add (i + j) := by
  unfold Addr.add
  by_cases hi : i = 0 <;> by_cases hj : j = 0 <;> simp [hi, hj, Nat.add_assoc]

section
variable {w w' : World} {B B' : Nat} {A : Option Addr} {xs ys : List Value}
theorem Sees.nil (w : World) (B : Nat) (A : Option Addr) : Sees w B A [] := ⟨.inl rfl⟩
theorem Sees.at_ {k : Nat} (h : Sees w B A xs) (hk : k < xs.length) : ∃ ad, A = some ad ∧ ad.block < B ∧ w.cell? (ad.add k) = some xs[k] := by
  rcases h.out with h | ⟨ad, e, hb, hc⟩
  · subst h; simp at hk
  · exact ⟨ad, e, hb, hc k _ (List.getElem?_eq_getElem hk)⟩
theorem Sees.keep (h : Sees w B A xs) (hk : ∀ p : Addr, p.block < B → w'.cell? p = w.cell? p) : Sees w' B A xs := by
  rcases h.out with h | ⟨ad, e, hb, hc⟩
  · exact ⟨.inl h⟩
  · exact ⟨.inr ⟨ad, e, hb, fun j u hu => (hk _ (by rw [add_block]; exact hb)).trans (hc j u hu)⟩⟩
theorem Sees.more (h : Sees w B A xs) (hB : B ≤ B') : Sees w B' A xs := by
  rcases h.out with h | ⟨ad, e, hb, hc⟩
  · exact ⟨.inl h⟩
  · exact ⟨.inr ⟨ad, e, by omega, hc⟩⟩
theorem Sees.below (h : Sees w B A xs) (hb : Below B w w') : Sees w' B A xs := h.keep fun _ hp => hb.cell hp
theorem Sees.drew (h : Sees w B A xs) : Sees w.drew B A xs := ⟨h.out⟩
theorem Sees.drewN (h : Sees w B A xs) (k : Nat) : Sees (w.drewN k) B A xs := ⟨h.out⟩
theorem Sees.alloc (h : Sees w B A xs) (hB : B ≤ w.heap.size) (o : Obj) : Sees (w.alloc o) B A xs := h.keep fun p hp => World.cell?_alloc_lt w o p (by omega)
theorem Sees.grown (h : Sees w B A xs) {row : Option Nat} (hg : w.grownBy w' row) (hB : B ≤ w.heap.size) (hr : ∀ g, row = some g → B ≤ g) : Sees w' B A xs :=
  h.keep fun p hp => World.cell?_of_block (hg.block p.block (by omega) (fun e => by have := hr _ e.symm; omega))
theorem Sees.setCell (h : Sees w B A xs) {p : Addr} (hB : B ≤ p.block) (u : Value) : Sees (w.setCell p u) B A xs :=
  h.keep fun q hq => World.cell?_setCell_other w p q u (fun e => by subst e; omega)
/-- A cut 's[k:]' at elements of one cell. -/
theorem Sees.cut (h : Sees w B A xs) {k cap : Nat} (hc : xs.length ≤ cap) : Sees w B (if cap = k then A else A.map (·.add (k * 1))) (xs.drop k) := by
  by_cases hk : k < xs.length
  · rcases h.out with h | ⟨ad, rfl, hb, hcell⟩
    · subst h; simp at hk
    · rw [if_neg (by omega), Nat.mul_one]
      refine ⟨.inr ⟨ad.add k, rfl, by rw [add_block]; exact hb, fun j u hu => ?_⟩⟩
      rw [add_add']
      exact hcell _ u (by rw [← hu, List.getElem?_drop])
  · exact ⟨.inl (List.drop_eq_nil_of_le (by omega))⟩
theorem Sees.cut' (h : Sees w B A xs) (k : Nat) : Sees w B (A.map (fun x => x.add k)) (xs.drop k) := by
  by_cases hk : k < xs.length
  · have := h.cut (k := k) (cap := xs.length) (Nat.le_refl _)
    rw [if_neg (by omega), Nat.mul_one] at this
    exact this
  · exact ⟨.inl (List.drop_eq_nil_of_le (by omega))⟩
theorem Sees.cut0 (w : World) (B : Nat) (A : Option Addr) {k : Nat} (hk : xs.length ≤ k) : Sees w B A (xs.drop k) := ⟨.inl (List.drop_eq_nil_of_le hk)⟩
theorem Sees.take (h : Sees w B A xs) (k : Nat) : Sees w B A (xs.take k) := by
  rcases h.out with h | ⟨ad, e, hb, hc⟩
  · subst h; exact ⟨.inl (by simp)⟩
  · refine ⟨.inr ⟨ad, e, hb, fun j u hu => hc j u ?_⟩⟩
    rw [List.getElem?_take] at hu
    split at hu
    · exact hu
    · cases hu
theorem Sees.of_own {base : Nat} {e : TypeId} {size n c : Nat} (h : w.ownsRow base e size (.slice A n c) n xs) : Sees w w.heap.size A xs := by
  rcases h.2 with ⟨h0, h1⟩ | ⟨g, cap, cur, hv, hb, hh, _⟩
  · refine ⟨.inl ?_⟩
    have := h.1
    rw [h1, Nat.zero_mul] at this
    exact List.eq_nil_of_length_eq_zero this
  · injection hv with hv
    exact ⟨.inr ⟨_, hv, (Array.getElem?_eq_some_iff.1 hh).1, h.cells (g := g) (by simp [Value.ownBlock, hv])⟩⟩
end

/-- What a step that writes into the row of v and into new blocks leaves: v' is that row, or a new one. -/
structure Onto (w w' : World) (v v' : Value) : Prop where
  grown : w.grownBy w' v.ownBlock
  at_ : v'.ownBlock = v.ownBlock ∨ ∃ g, v'.ownBlock = some g ∧ w.heap.size ≤ g

section
variable {w w' w'' : World} {v v' v'' : Value}
theorem Onto.refl (w : World) (v : Value) : Onto w w v v := ⟨⟨rfl, rfl, rfl, Nat.le_refl _, fun _ _ _ => rfl⟩, .inl rfl⟩
theorem Onto.trans (h : Onto w w' v v') (k : Onto w' w'' v' v'') : Onto w w'' v v'' := by
  have hs := h.grown.size
  refine ⟨⟨k.grown.os.trans h.grown.os, k.grown.tape.trans h.grown.tape, k.grown.output.trans h.grown.output, Nat.le_trans hs k.grown.size, fun i hi hne => ?_⟩, ?_⟩
  · refine (k.grown.block i (by omega) (fun e => ?_)).trans (h.grown.block i hi hne)
    rcases h.at_ with h1 | ⟨g, h1, h2⟩
    · exact hne (e.trans h1)
    · rw [h1] at e; injection e; omega
  · rcases k.at_ with h1 | ⟨g, h1, h2⟩
    · rcases h.at_ with h3 | ⟨g, h3, h4⟩
      · exact .inl (h1.trans h3)
      · exact .inr ⟨g, h1.trans h3, h4⟩
    · exact .inr ⟨g, h1, by omega⟩
theorem Onto.below (h : Onto w w' v v') {B : Nat} (hB : B ≤ w.heap.size) (hv : ∀ k, v.ownBlock = some k → B ≤ k) : Below B w w' :=
  (Below.refl _ _).grown h.grown hB hv
theorem Onto.below_nil (h : Onto w w' (.slice none 0 0) v') : Below w.heap.size w w' := h.below (Nat.le_refl _) (by simp [Value.ownBlock])
theorem Onto.size (h : Onto w w' v v') : w.heap.size ≤ w'.heap.size := h.grown.size
theorem Onto.of_below (hb : Below w.heap.size w w') (v : Value) : Onto w w' v v :=
  ⟨⟨hb.os, hb.tape, hb.output, hb.size, fun k hk _ => hb.block k hk⟩, .inl rfl⟩
theorem Onto.new (w : World) (o : Obj) (v : Value) (n m : Nat) : Onto w (w.alloc o) v (.slice (some ⟨w.heap.size, 0, none⟩) n m) := ⟨World.grownBy_alloc w o _, .inr ⟨_, rfl, Nat.le_refl _⟩⟩
theorem Onto.of_alloc (w : World) (o : Obj) (v : Value) : Onto w (w.alloc o) v v := ⟨World.grownBy_alloc w o _, .inl rfl⟩
end

/-- A call that answers true and leaves what was there. -/
def IsTrue (w : World) (e : Ending) (w' : World) : Prop := e = .returned (.bool true) ∧ Below w.heap.size w w'
/-- A call that gives v and leaves what was there. -/
def Gives (w : World) (v : Value) (e : Ending) (w' : World) : Prop := e = .returned v ∧ Below w.heap.size w w'
theorem below_d {B : Nat} {a w : World} (h : Below B a w) (q : Nat) : Below B a (w.drewN q) := ⟨h.os, h.tape, h.output, h.size, h.block⟩
theorem below_undrew {B : Nat} {w w' : World} (h : Below B w.drew w') : Below B w w' := ⟨h.os, h.tape, h.output, h.size, h.block⟩
theorem below_drew {B : Nat} {a w : World} (h : Below B a w) : Below B a w.drew := ⟨h.os, h.tape, h.output, h.size, h.block⟩
theorem ret_bool {b b' : Bool} (h : b = b') : Ending.returned (.bool b) = .returned (.bool b') := by rw [h]
theorem ret_true {b : Bool} (h : b = true) : Ending.returned (.bool b) = .returned (.bool true) := by rw [h]
end Go.Proofs.YtpjiioeodcinpaaGreatDoor

/-
  Words for memory that the walks of this claim use: byte rows as lists. No program in sight but the type of bytes.
-/
namespace Go.Proofs.YtpjiioeodcinpaaGreatDoor
open Go.RowKit

/-- The cells of a row of bytes. -/
def bv (l : List UInt8) : List Value := l.map fun b => .int .u8 (b.toNat : Int)

theorem bv_length (l : List UInt8) : (bv l).length = l.length := by simp [bv]
theorem bv_append (l m : List UInt8) : bv (l ++ m) = bv l ++ bv m := by simp [bv]
theorem bv_at (l : List UInt8) (j : Nat) (h : j < l.length) : (bv l)[j]? = some (.int .u8 ((l[j]).toNat : Int)) := by simp [bv, h]
theorem bv_drop (l : List UInt8) (k : Nat) : bv (l.drop k) = (bv l).drop k := by simp [bv, List.map_drop]
theorem bv_take (l : List UInt8) (k : Nat) : bv (l.take k) = (bv l).take k := by simp [bv, List.map_take]
theorem bv_one {l : List UInt8} : ∀ u ∈ bv l, u.oneCell' = true := by
  intro u hu
  simp only [bv, List.mem_map] at hu
  obtain ⟨b, _, rfl⟩ := hu
  rfl

/-- A value of the call's own (blocks from 'base' on) that holds the bytes l. -/
def OwnB (w : World) (base : Nat) (v : Value) (l : List UInt8) : Prop := w.ownsRow base 5 1 v l.length (bv l)

section
variable {w w' : World} {base : Nat} {v : Value} {l : List UInt8}
theorem OwnB.nil (w : World) (base : Nat) : OwnB w base (.slice none 0 0) [] := World.ownsRow_nil w base _ 1
theorem OwnB.open_ (h : OwnB w base v l) : ∃ A c, v = .slice A l.length c ∧ l.length ≤ c ∧ c ≤ maxLen ∧ OwnB w base (.slice A l.length c) l ∧ Sees w w.heap.size A (bv l) := by
  have h' := h
  rcases h.2 with ⟨rfl, hn⟩ | ⟨g, cap, cur, rfl, hb, hh, hc, hm, _⟩
  · exact ⟨none, 0, by rw [hn], by omega, by simp [maxLen], by rw [hn]; exact h', ⟨.inl (by rw [List.eq_nil_of_length_eq_zero hn]; rfl)⟩⟩
  · exact ⟨_, cap, rfl, hc, hm, h', Sees.of_own h'⟩
theorem OwnB.below (h : OwnB w base v l) (hb : Below w.heap.size w w') : OwnB w' base v l :=
  World.ownsRow.kept (row := none) h ⟨hb.os, hb.tape, hb.output, hb.size, fun k hk _ => hb.block k hk⟩ (by cases v.ownBlock <;> simp)
theorem OwnB.base_le (h : OwnB w base v l) {b : Nat} (hb : b ≤ base) : OwnB w b v l := by
  refine ⟨h.1, ?_⟩
  rcases h.2 with h2 | ⟨g, cap, cur, hv, hg, r⟩
  · exact .inl h2
  · exact .inr ⟨g, cap, cur, hv, by omega, r⟩
end

theorem Tryz.binfo : (Tryz.prog.info? 5).map (fun i => (i.zero, i.size, i.bytes)) = some (some (.int .u8 0), 1, 1) := by kernel_rfl

/-- append of bytes that are seen onto a row of the call's own. -/
theorem run_append_b (w : World) (ty : TypeId) (base : Nat) (v : Value) (l : List UInt8) (hown : OwnB w base v l) (B : Nat) (A : Option Addr) (m c : Nat) (news : List UInt8) (hm : news.length = m) (hs : Sees w B A (bv news))
    (hlen : l.length + news.length ≤ 140737488355328) (hbase : base ≤ w.heap.size) :
    ∃ v' w', (Builtin.append_ #[29, 29] ty #[v, .slice A m c]).run Tryz.prog w = .ok v' w' ∧ OwnB w' base v' (l ++ news) ∧ Onto w w' v v' := by
  obtain ⟨i, hi, hz0, hz1, hz2⟩ := info_parts Tryz.binfo
  subst hm
  rcases hs.out with h0 | ⟨ad, rfl, hb, hc⟩
  · have hn : news = [] := by simpa [bv] using h0
    subst hn
    rw [List.append_nil]
    refine ⟨v, w, ?_, hown, Onto.refl _ _⟩
    rcases hown.2 with ⟨rfl, hx⟩ | ⟨g, cap, cur, rfl, _, _, hnc, _⟩
    · cases A <;> simp [Builtin.append_, run_underlying Tryz.underlying29, sizeOf, typeInfo, hi, Builtin.lenOf, Builtin.firstCells, loadCells, loadCellsFrom]
    · cases A <;> simp [Builtin.append_, run_underlying Tryz.underlying29, sizeOf, typeInfo, hi, Builtin.lenOf, Builtin.firstCells, hnc, storeCells, loadCells, loadCellsFrom]
  · obtain ⟨v', w', hrun, h2, h3, _, h5⟩ := run_append_own_at (P := Tryz.prog) w base 29 ty 5 i _ 1 1 Tryz.underlying29 hi hz0 hz1 hz2 rfl (by omega) v l.length (bv l) hown ad news.length c (bv news)
      (by rw [bv_length, Nat.mul_one]) hc bv_one (by simp only [maxLen]; omega) (by omega) hbase
    refine ⟨v', w', hrun, ?_, h3, ?_⟩
    · unfold OwnB
      rw [List.length_append, bv_append]
      exact h2
    · rcases h5 with h5 | h5
      · exact .inl h5
      · exact .inr ⟨_, h5, Nat.le_refl _⟩

/-- The same, at the operation of a walk. -/
theorem wpList_append_b {w : World} {ops : Array Oper} {rest : List Oper} {o : Oper} {a : Act} {Q : Exit → Act → World → Prop} (hgd : o.guard = none) (s x : Operand)
    (ho : o.op = .call { callee := .builtin .append, args := #[s, x], argTypes := #[29, 29] })
    (base : Nat) (v : Value) (l : List UInt8) (hs : a.eval s = v) (hown : OwnB w base v l) (B : Nat) (A : Option Addr) (m c : Nat) (news : List UInt8) (hx : a.eval x = .slice A m c) (hm : news.length = m) (hsee : Sees w B A (bv news))
    (hlen : l.length + news.length ≤ 140737488355328) (hbase : base ≤ w.heap.size)
    (h : ∀ v' w', OwnB w' base v' (l ++ news) → Onto w w' v v' → wpList Tryz.prog ops Q rest (a.put o.dst v') w') : wpList Tryz.prog ops Q (o :: rest) a w := by
  refine wpList_plain hgd fun K hK => ?_
  obtain ⟨v', w', hr, h2, h3⟩ := run_append_b w o.type base v l hown B A m c news hm hsee hlen hbase
  unfold Oper.wp execOp
  simp only [ho, resolve, invoke, builtin, Sem.run_bind, Sem.run_pure, Result.andThen_ok, List.map_toArray, List.map_cons, List.map_nil, hs, hx, hr]
  exact hK _ _ (h v' w' h2 h3)

/-- What was just laid by a slice literal of bytes is seen. -/
theorem sees_new (w : World) (l : List UInt8) (t : TypeId) (cs : Array Value) (h : cs = (bv l).toArray) : Sees (w.alloc (.cells cs t)) (w.heap.size + 1) (some ⟨w.heap.size, 0, none⟩) (bv l) := by
  subst h
  refine ⟨.inr ⟨_, rfl, by simp, fun j u hu => ?_⟩⟩
  rw [Addr.add_lit, World.cell?_alloc_at _ _ _ _ rfl]
  simpa using hu

theorem sees_one (w : World) (t : TypeId) (x : Int) (n : Nat) (hx : x = (n : Int) % 256) : Sees (w.alloc (.cells #[.int .u8 x] t)) (w.heap.size + 1) (some ⟨w.heap.size, 0, none⟩) (bv [UInt8.ofNat n]) :=
  sees_new w _ t _ (by subst hx; simp [bv])
theorem OwnB.alloc {w : World} {base : Nat} {v : Value} {l : List UInt8} (h : OwnB w base v l) (o : Obj) : OwnB (w.alloc o) base v l := World.ownsRow.alloc h o

theorem OwnB.new (w : World) (base : Nat) (hb : base ≤ w.heap.size) (l : List UInt8) (n : Nat) (hn : n = l.length) (cs : Array Value) (h : cs = (bv l).toArray) (hm : l.length ≤ maxLen) : OwnB (w.alloc (.cells cs 5)) base (.slice (some ⟨w.heap.size, 0, none⟩) n n) l := by
  subst hn
  have h2 := World.ownsRow_lit (e := 5) (size := 1) (base := base) w cs l.length hb hm (by simp [h, bv_length])
  unfold OwnB
  rw [h] at h2 ⊢
  exact h2

/-- A call that gives back the bytes l in a row of its own, behind v's. -/
def RetB (w : World) (base : Nat) (v : Value) (l : List UInt8) (e : Ending) (w' : World) : Prop :=
  ∃ v', e = .returned v' ∧ OwnB w' base v' l ∧ Onto w w' v v'

theorem OwnB.block {w : World} {base : Nat} {v : Value} {l : List UInt8} (h : OwnB w base v l) : ∀ k, v.ownBlock = some k → base ≤ k := fun k hk => (World.ownsRow.lt h k hk).1

end Go.Proofs.YtpjiioeodcinpaaGreatDoor

/-
  Strings out of bytes.
-/
namespace Go.Proofs.YtpjiioeodcinpaaGreatDoor
open Go.RowKit

def strOf (l : List UInt8) : ByteArray := ⟨l.toArray⟩
theorem run_str (w : World) (B : Nat) (A : Option Addr) (n c : Nat) (l : List UInt8) (hs : Sees w B A (bv l)) (hn : l.length = n) :
    (convert 29 9 (.slice A n c)).run Tryz.prog w = .ok (.string (strOf l)) w := by
  subst hn
  cases A with
  | none =>
    rcases hs.out with h | ⟨ad, h, _⟩
    · have : l = [] := by simpa [bv] using h
      subst this
      exact run_convert_bytes_nil w _ _ Tryz.underlying29 Tryz.underlying5 _ _ _ Tryz.underlying9
    · cases h
  | some a =>
    have hc : ∀ j u, (bv l)[j]? = some u → w.cell? (a.add j) = some u := by
      intro j u hu
      rcases hs.out with h | ⟨ad, h, _, hc⟩
      · rw [h] at hu; simp at hu
      · injection h with h
        subst h
        exact hc j u hu
    have hl := run_loadCells_list (P := Tryz.prog) w a (bv l) hc
    rw [run_convert_bytes_string w 29 9 5 _ l.length c Tryz.underlying29 Tryz.underlying5 Tryz.underlying9]
    have hb : bv l = (l.map fun b => (b.toNat : Int)).map (Value.int .u8) := by simp [bv]
    rw [hb, List.length_map, List.length_map] at hl
    rw [run_bytesToString w _ l.length c _ hl, foldl_push_bytes]
    have hm : l.map ((fun n : Int => UInt8.ofNat n.toNat) ∘ fun b : UInt8 => (b.toNat : Int)) = l := by
      have : ((fun n : Int => UInt8.ofNat n.toNat) ∘ fun b : UInt8 => (b.toNat : Int)) = id := by funext b; simp
      rw [this, List.map_id]
    rw [List.map_map, hm]
    simp [strOf, ByteArray.empty, ByteArray.emptyWithCapacity]
    rfl

theorem strOf_toList (l : List UInt8) : (strOf l).toList = l := by rw [Lib.toList_data]; rfl

end Go.Proofs.YtpjiioeodcinpaaGreatDoor

/-
  Slices of slices of bytes.
-/
namespace Go.Proofs.YtpjiioeodcinpaaGreatDoor
open Go.RowKit

abbrev Item := List UInt8
/-- A slice of slices of bytes. -/
structure Sees2 (w : World) (B : Nat) (A : Option Addr) (ls : List (List UInt8)) : Prop where
  out : ∀ i (hi : i < ls.length), ∃ ad Ai ci, A = some ad ∧ ad.block < B ∧ w.cell? (ad.add i) = some (.slice Ai (ls[i]).length ci) ∧ (ls[i]).length ≤ ci ∧ Sees w B Ai (bv ls[i])
theorem Sees2.below {w w' : World} {B : Nat} {A : Option Addr} {ls : List (List UInt8)} (h : Sees2 w B A ls) (hb : Below B w w') : Sees2 w' B A ls :=
  ⟨fun i hi => by
    obtain ⟨ad, Ai, ci, h1, h2, h3, h4, h5⟩ := h.out i hi
    exact ⟨ad, Ai, ci, h1, h2, (hb.cell (by rw [add_block]; exact h2)).trans h3, h4, h5.below hb⟩⟩

theorem OwnB.drewN {w : World} {base : Nat} {v : Value} {l : List UInt8} (h : OwnB w base v l) (k : Nat) : OwnB (w.drewN k) base v l := h

end Go.Proofs.YtpjiioeodcinpaaGreatDoor

/-
  A row of rows of bytes of the call's own.
-/
namespace Go.Proofs.YtpjiioeodcinpaaGreatDoor
open Go.RowKit

/-- The address A shows the cells xs, in a block from 'base' on that isn't 'ob'. -/
structure SeesN (w : World) (base : Nat) (ob : Option Nat) (A : Option Addr) (xs : List Value) : Prop where
  out : xs = [] ∨ ∃ ad, A = some ad ∧ base ≤ ad.block ∧ ad.block < w.heap.size ∧ some ad.block ≠ ob ∧ ∀ j u, xs[j]? = some u → w.cell? (ad.add j) = some u

section
variable {w w' : World} {base : Nat} {ob : Option Nat} {A : Option Addr} {xs : List Value}
theorem SeesN.sees (h : SeesN w base ob A xs) : Sees w w.heap.size A xs := by
  rcases h.out with h | ⟨ad, e, _, h1, _, h2⟩
  · exact ⟨.inl h⟩
  · exact ⟨.inr ⟨ad, e, h1, h2⟩⟩
theorem SeesN.kept (h : SeesN w base ob A xs) (ob' : Option Nat) (hs : w.heap.size ≤ w'.heap.size) (hk : ∀ b, base ≤ b → b < w.heap.size → some b ≠ ob → w'.heap[b]? = w.heap[b]?) (ho : ∀ b, base ≤ b → b < w.heap.size → some b ≠ ob → some b ≠ ob') : SeesN w' base ob' A xs := by
  rcases h.out with h | ⟨ad, e, h0, h1, h3, h2⟩
  · exact ⟨.inl h⟩
  · exact ⟨.inr ⟨ad, e, h0, by omega, ho _ h0 h1 h3, fun j u hu => (World.cell?_of_block (a := ad.add j) (by rw [add_block]; exact hk _ h0 h1 h3)).trans (h2 j u hu)⟩⟩
theorem SeesN.below (h : SeesN w base ob A xs) (hb : Below w.heap.size w w') : SeesN w' base ob A xs := h.kept ob hb.size (fun b _ hb1 _ => hb.block b hb1) (fun _ _ _ h => h)
theorem SeesN.setCell (h : SeesN w base ob A xs) {a : Addr} (ha : a.block < base) (u : Value) : SeesN (w.setCell a u) base ob A xs :=
  h.kept ob (by rw [World.size_setCell]; exact Nat.le_refl _) (fun b h0 _ _ => Below.heap_setCell _ _ _ _ (by omega)) (fun _ _ _ h => h)
theorem SeesN.of_own {l : List UInt8} {v : Value} (h : OwnB w base v l) {n c : Nat} (hv : v = .slice A n c) (ob : Option Nat) (ho : ∀ b, v.ownBlock = some b → some b ≠ ob) : SeesN w base ob A (bv l) := by
  subst hv
  obtain ⟨A', c', e, _, _, _, hs⟩ := h.open_
  injection e with e1 e2 e3
  subst e1
  rcases h.2 with ⟨h0, h1⟩ | ⟨g, cap, cur, hv, hb, hh, _⟩
  · refine ⟨.inl ?_⟩
    rw [List.eq_nil_of_length_eq_zero h1]; rfl
  · injection hv with hv
    subst hv
    rcases hs.out with h | ⟨ad, e, h1, h2⟩
    · exact ⟨.inl h⟩
    · injection e with e
      subst e
      exact ⟨.inr ⟨_, rfl, hb, h1, ho _ rfl, h2⟩⟩
end

/-- A row of rows of bytes: the row of the call's own, the rows in blocks from 'base' on. -/
structure OwnS (w : World) (base : Nat) (v : Value) (ls : List (List UInt8)) : Prop where
  out : ∃ vs : List Value, w.ownsRow base 29 1 v ls.length vs ∧ ∀ i (hi : i < ls.length), ∃ Ai ci, vs[i]? = some (.slice Ai (ls[i]).length ci) ∧ (ls[i]).length ≤ ci ∧ SeesN w base v.ownBlock Ai (bv ls[i])

section
variable {w w' : World} {base : Nat} {v : Value} {ls : List (List UInt8)}
theorem OwnS.nil (w : World) (base : Nat) : OwnS w base (.slice none 0 0) [] := ⟨[], World.ownsRow_nil w base _ 1, fun i hi => absurd hi (by simp)⟩
theorem OwnS.below (h : OwnS w base v ls) (hb : Below w.heap.size w w') : OwnS w' base v ls := by
  obtain ⟨vs, h1, h2⟩ := h.out
  refine ⟨vs, World.ownsRow.kept (row := none) h1 ⟨hb.os, hb.tape, hb.output, hb.size, fun k hk _ => hb.block k hk⟩ (by cases v.ownBlock <;> simp), fun i hi => ?_⟩
  obtain ⟨Ai, ci, h3, h4, h5⟩ := h2 i hi
  exact ⟨Ai, ci, h3, h4, h5.below hb⟩
theorem OwnS.setCell (h : OwnS w base v ls) {a : Addr} (ha : a.block < base) (u : Value) : OwnS (w.setCell a u) base v ls := by
  obtain ⟨vs, h1, h2⟩ := h.out
  refine ⟨vs, Go.RowKit.ownsRow_setCell_below h1 ha u, fun i hi => ?_⟩
  obtain ⟨Ai, ci, h3, h4, h5⟩ := h2 i hi
  exact ⟨Ai, ci, h3, h4, h5.setCell ha u⟩
theorem OwnS.open_ (h : OwnS w base v ls) : ∃ A c, v = .slice A ls.length c ∧ ls.length ≤ c ∧ Sees2 w w.heap.size A ls := by
  obtain ⟨vs, h1, h2⟩ := h.out
  rcases h1.2 with ⟨rfl, hn⟩ | ⟨g, cap, cur, rfl, hb, hh, hc, hm, _⟩
  · have : ls = [] := List.eq_nil_of_length_eq_zero hn
    subst this
    exact ⟨none, 0, rfl, by simp, ⟨fun i hi => absurd hi (by simp)⟩⟩
  · refine ⟨_, cap, rfl, hc, ⟨fun i hi => ?_⟩⟩
    obtain ⟨Ai, ci, h3, h4, h5⟩ := h2 i hi
    exact ⟨_, Ai, ci, rfl, (Array.getElem?_eq_some_iff.1 hh).1, h1.cells (g := g) rfl i _ h3, h4, h5.sees⟩
end

theorem Tryz.sinfo : (Tryz.prog.info? 29).map (fun i => (i.zero, i.size, i.bytes)) = some (some (.slice none 0 0), 1, 24) := by kernel_rfl

theorem OwnS.put {w w' : World} {base : Nat} {v v' : Value} {ls : List (List UInt8)} {vs : List Value} (x : List UInt8) (Ax : Option Addr) (cx : Nat)
    (h : ∀ i (hi : i < ls.length), ∃ Ai ci, vs[i]? = some (.slice Ai (ls[i]).length ci) ∧ (ls[i]).length ≤ ci ∧ SeesN w base v.ownBlock Ai (bv ls[i])) (hvs : vs.length = ls.length)
    (hc : x.length ≤ cx) (hx : SeesN w base v.ownBlock Ax (bv x)) (hown : w'.ownsRow base 29 1 v' (ls.length + 1) (vs ++ [.slice Ax x.length cx])) (hg : w.grownBy w' v.ownBlock)
    (ho : v'.ownBlock = v.ownBlock ∨ v'.ownBlock = some w.heap.size) : OwnS w' base v' (ls ++ [x]) := by
  have kp : ∀ {A : Option Addr} {xs : List Value}, SeesN w base v.ownBlock A xs → SeesN w' base v'.ownBlock A xs := fun hs =>
    hs.kept _ hg.size (fun b _ h1 h2 => hg.block b h1 (fun e => h2 e)) (fun b _ h1 h2 => by
      rcases ho with e | e
      · rw [e]; exact h2
      · rw [e]; intro e2; injection e2 with e2; omega)
  refine ⟨vs ++ [.slice Ax x.length cx], by rw [List.length_append]; exact hown, fun i hi => ?_⟩
  by_cases hlt : i < ls.length
  · obtain ⟨Ai, ci, h3, h4, h5⟩ := h i hlt
    rw [List.getElem_append_left hlt, List.getElem?_append_left (by omega)]
    exact ⟨Ai, ci, h3, h4, kp h5⟩
  · have he : i = ls.length := by simp at hi; omega
    subst he
    rw [List.getElem_append_right (Nat.le_refl _), List.getElem?_append_right (by omega)]
    refine ⟨Ax, cx, ?_, ?_, ?_⟩
    · simp [hvs]
    · simpa using hc
    · simpa using kp hx

/-- append of one row onto a row of rows of the call's own. -/
theorem wpList_append_s {w : World} {ops : Array Oper} {rest : List Oper} {o : Oper} {a : Act} {Q : Exit → Act → World → Prop} (hgd : o.guard = none) (s x : Operand)
    (ho : o.op = .call { callee := .builtin .append, args := #[s, x], argTypes := #[44, 44] })
    (base : Nat) (v : Value) (ls : List (List UInt8)) (hs : a.eval s = v) (hown : OwnS w base v ls) (ad : Addr) (c : Nat) (y : List UInt8) (Ay : Option Addr) (cy : Nat)
    (hx : a.eval x = .slice (some ad) 1 c) (hy : w.cell? ad = some (.slice Ay y.length cy)) (hyc : y.length ≤ cy) (hsee : SeesN w base v.ownBlock Ay (bv y))
    (hlen : ls.length ≤ 1000000) (hbase : base ≤ w.heap.size)
    (h : ∀ v' w', OwnS w' base v' (ls ++ [y]) → w.grownBy w' v.ownBlock → (v'.ownBlock = v.ownBlock ∨ v'.ownBlock = some w.heap.size) → wpList Tryz.prog ops Q rest (a.put o.dst v') w') : wpList Tryz.prog ops Q (o :: rest) a w := by
  obtain ⟨i, hi, hz0, hz1, hz2⟩ := info_parts Tryz.sinfo
  obtain ⟨vs, h1, h2⟩ := hown.out
  have hvs : vs.length = ls.length := by have := h1.1; omega
  exact wpList_append_own_at w hgd s x 44 ho base 29 i _ 1 24 Tryz.underlying44 hi hz0 hz1 hz2 rfl (by omega) v ls.length vs hs h1 ad 1 c [Value.slice Ay y.length cy] hx rfl
    (fun j u hu => by
      match j, hu with
      | 0, hu =>
        simp at hu
        subst hu
        simpa [Addr.add] using hy)
    (fun u hu => by simp at hu; subst hu; rfl) (by simp only [maxLen]; omega) (by omega) hbase
    (fun v' w' g1 g2 _ g4 => h v' w' (OwnS.put y Ay cy h2 hvs hyc hsee g1 g2 g4) g2 g4)
end Go.Proofs.YtpjiioeodcinpaaGreatDoor

/-
  Rows of rows of bytes: what is seen, what is owned, one more row put behind.
-/
namespace Go.Proofs.YtpjiioeodcinpaaGreatDoor
open Go.RowKit

theorem Sees2.drew {w : World} {B : Nat} {A : Option Addr} {ls : List (List UInt8)} (h : Sees2 w B A ls) (q : Nat) : Sees2 (w.drewN q) B A ls :=
  ⟨fun i hi => by
    obtain ⟨ad, Ai, ci, h1, h2, h3, h4, h5⟩ := h.out i hi
    exact ⟨ad, Ai, ci, h1, h2, h3, h4, h5.drewN q⟩⟩
theorem Sees2.more {w : World} {B B' : Nat} {A : Option Addr} {ls : List (List UInt8)} (h : Sees2 w B A ls) (hB : B ≤ B') : Sees2 w B' A ls :=
  ⟨fun i hi => by
    obtain ⟨ad, Ai, ci, h1, h2, h3, h4, h5⟩ := h.out i hi
    exact ⟨ad, Ai, ci, h1, by omega, h3, h4, h5.more hB⟩⟩
theorem Sees2.nil (w : World) (B : Nat) (A : Option Addr) : Sees2 w B A [] := ⟨fun i hi => absurd hi (by simp)⟩
theorem Sees2.take {w : World} {B : Nat} {A : Option Addr} {ls : List (List UInt8)} (h : Sees2 w B A ls) (k : Nat) : Sees2 w B A (ls.take k) :=
  ⟨fun i hi => by
    have hi2 : i < ls.length := by rw [List.length_take] at hi; omega
    obtain ⟨ad, Ai, ci, h1, h2, h3, h4, h5⟩ := h.out i hi2
    rw [List.getElem_take]
    exact ⟨ad, Ai, ci, h1, h2, h3, h4, h5⟩⟩
theorem Sees2.cut {w : World} {B : Nat} {A : Option Addr} {ls : List (List UInt8)} (h : Sees2 w B A ls) {k cap : Nat} (hc : ls.length ≤ cap) : Sees2 w B (if cap = k then A else A.map (fun x => x.add k)) (ls.drop k) :=
  ⟨fun i hi => by
    rw [List.length_drop] at hi
    have hi2 : k + i < ls.length := by omega
    obtain ⟨ad, Ai, ci, rfl, h2, h3, h4, h5⟩ := h.out (k + i) hi2
    rw [List.getElem_drop, if_neg (by omega)]
    exact ⟨ad.add k, Ai, ci, rfl, by rw [add_block]; exact h2, by rw [add_add']; exact h3, h4, h5⟩⟩

/-- A row of the call's own, of slices of items that lay there before. -/
structure OwnT (w : World) (base : Nat) (v : Value) (lls : List (List (List UInt8))) : Prop where
  out : ∃ vs : List Value, w.ownsRow base 44 1 v lls.length vs ∧ ∀ i (hi : i < lls.length), ∃ Ai ci, vs[i]? = some (.slice Ai (lls[i]).length ci) ∧ (lls[i]).length ≤ ci ∧ Sees2 w base Ai lls[i]

theorem OwnT.nil (w : World) (base : Nat) : OwnT w base (.slice none 0 0) [] := ⟨[], World.ownsRow_nil w base _ 1, fun i hi => absurd hi (by simp)⟩
theorem OwnT.open_ {w : World} {base : Nat} {v : Value} {lls : List (List (List UInt8))} (h : OwnT w base v lls) : ∃ A c, v = .slice A lls.length c ∧ lls.length ≤ c ∧
    ∀ i (hi : i < lls.length), ∃ ad Ai ci, A = some ad ∧ ad.block < w.heap.size ∧ w.cell? (ad.add i) = some (.slice Ai (lls[i]).length ci) ∧ (lls[i]).length ≤ ci ∧ Sees2 w base Ai lls[i] := by
  obtain ⟨vs, h1, h2⟩ := h.out
  rcases h1.2 with ⟨rfl, hn⟩ | ⟨g, cap, cur, rfl, hb, hh, hc, hm, _⟩
  · have : lls = [] := List.eq_nil_of_length_eq_zero hn
    subst this
    exact ⟨none, 0, rfl, by simp, fun i hi => absurd hi (by simp)⟩
  · refine ⟨_, cap, rfl, hc, fun i hi => ?_⟩
    obtain ⟨Ai, ci, h3, h4, h5⟩ := h2 i hi
    exact ⟨_, Ai, ci, rfl, (Array.getElem?_eq_some_iff.1 hh).1, h1.cells (g := g) rfl i _ h3, h4, h5⟩
theorem OwnT.below {w w' : World} {base : Nat} {v : Value} {lls : List (List (List UInt8))} (h : OwnT w base v lls) (hb : Below w.heap.size w w') (hbase : base ≤ w.heap.size) : OwnT w' base v lls := by
  obtain ⟨vs, h1, h2⟩ := h.out
  refine ⟨vs, World.ownsRow.kept (row := none) h1 ⟨hb.os, hb.tape, hb.output, hb.size, fun k hk _ => hb.block k hk⟩ (by cases v.ownBlock <;> simp), fun i hi => ?_⟩
  obtain ⟨Ai, ci, h3, h4, h5⟩ := h2 i hi
  exact ⟨Ai, ci, h3, h4, h5.below (hb.mono hbase)⟩

theorem Tryz.tinfo : (Tryz.prog.info? 44).map (fun i => (i.zero, i.size, i.bytes)) = some (some (.slice none 0 0), 1, 24) := by kernel_rfl

/-- append of one block. -/
theorem wpList_append_t {w : World} {ops : Array Oper} {rest : List Oper} {o : Oper} {a : Act} {Q : Exit → Act → World → Prop} (hgd : o.guard = none) (s x : Operand)
    (ho : o.op = .call { callee := .builtin .append, args := #[s, x], argTypes := #[76, 76] })
    (base : Nat) (v : Value) (lls : List (List (List UInt8))) (hs : a.eval s = v) (hown : OwnT w base v lls) (ad : Addr) (c : Nat) (y : List (List UInt8)) (Ay : Option Addr) (cy : Nat)
    (hx : a.eval x = .slice (some ad) 1 c) (hy : w.cell? ad = some (.slice Ay y.length cy)) (hyc : y.length ≤ cy) (hsee : Sees2 w base Ay y)
    (hlen : lls.length ≤ 1000000) (hbase : base ≤ w.heap.size)
    (h : ∀ v' w', OwnT w' base v' (lls ++ [y]) → Onto w w' v v' → Below base w w' → wpList Tryz.prog ops Q rest (a.put o.dst v') w') : wpList Tryz.prog ops Q (o :: rest) a w := by
  obtain ⟨i, hi, hz0, hz1, hz2⟩ := info_parts Tryz.tinfo
  obtain ⟨vs, h1, h2⟩ := hown.out
  have hvs : vs.length = lls.length := by have := h1.1; omega
  refine wpList_append_own_at w hgd s x 76 ho base 44 i _ 1 24 Tryz.underlying76 hi hz0 hz1 hz2 rfl (by omega) v lls.length vs hs h1 ad 1 c [Value.slice Ay y.length cy] hx rfl
    (fun j u hu => by
      match j, hu with
      | 0, hu =>
        simp at hu
        subst hu
        simpa [Addr.add] using hy)
    (fun u hu => by simp at hu; subst hu; rfl) (by simp only [maxLen]; omega) (by omega) hbase
    (fun v' w' g1 g2 _ g4 => ?_)
  have hb : Below base w w' := (Below.refl _ w).grown g2 hbase (fun k hk => ((World.ownsRow.lt h1) k hk).1)
  refine h v' w' ⟨vs ++ [.slice Ay y.length cy], by rw [List.length_append]; exact g1, fun i hi => ?_⟩ ⟨g2, ?_⟩ hb
  · by_cases hlt : i < lls.length
    · obtain ⟨Ai, ci, h3, h4, h5⟩ := h2 i hlt
      rw [List.getElem_append_left hlt, List.getElem?_append_left (by omega)]
      exact ⟨Ai, ci, h3, h4, h5.below hb⟩
    · have he : i = lls.length := by simp at hi; omega
      subst he
      rw [List.getElem_append_right (Nat.le_refl _), List.getElem?_append_right (by omega)]
      refine ⟨Ay, cy, ?_, ?_, ?_⟩
      · simp [hvs]
      · simpa using hyc
      · simpa using hsee.below hb
  · rcases g4 with g4 | g4
    · exact .inl g4
    · exact .inr ⟨_, g4, Nat.le_refl _⟩

theorem OwnT.alloc {w : World} {base : Nat} {v : Value} {lls : List (List (List UInt8))} (h : OwnT w base v lls) (hb : base ≤ w.heap.size) (o : Obj) : OwnT (w.alloc o) base v lls := h.below ((Below.refl _ w).alloc (Nat.le_refl _) o) hb
end Go.Proofs.YtpjiioeodcinpaaGreatDoor

/-
  append onto a row of the call's own, of elements of any size: at a plain list of operations, and at a step of a region that draws.
-/
namespace Go.Proofs.YtpjiioeodcinpaaGreatDoor
open Go.RowKit

section
variable {P : Program}
theorem run_append_v (w : World) (t ty e : TypeId) (i : TypeInfo) (z : Value) (size bytes : Nat) (ht : P.underlying t = some (.slice e)) (hi : P.info? e = some i) (hz : i.zero = some z)
    (hsize : i.size = size) (hby : i.bytes = bytes) (hzs : z.cells.size = size) (hsz : 0 < size)
    (base : Nat) (v : Value) (n : Nat) (xs : List Value) (hown : w.ownsRow base e size v n xs) (B : Nat) (A : Option Addr) (m c : Nat) (news : List Value) (hm : news.length = m * size) (hs : Sees w B A news)
    (h1 : ∀ u ∈ news, u.oneCell' = true) (h63 : n + m ≤ maxLen) (hbytes : (n + m) * bytes ≤ 140737488355328) (hbase : base ≤ w.heap.size) :
    ∃ v' w', (Builtin.append_ #[t, t] ty #[v, .slice A m c]).run P w = .ok v' w' ∧ w'.ownsRow base e size v' (n + m) (xs ++ news) ∧ Onto w w' v v' := by
  rcases hs.out with h0 | ⟨ad, rfl, hb, hc⟩
  · subst h0
    have hm0 : m = 0 := by
      rcases Nat.eq_zero_or_pos m with h | h
      · exact h
      · have := Nat.mul_pos h hsz; simp at hm; omega
    subst hm0
    rw [List.append_nil]
    refine ⟨v, w, ?_, hown, Onto.refl _ _⟩
    rcases hown.2 with ⟨rfl, hx⟩ | ⟨g, cap, cur, rfl, _, _, hnc, _⟩
    · cases A <;> simp [Builtin.append_, run_underlying ht, sizeOf, typeInfo, hi, Builtin.lenOf, Builtin.firstCells, loadCells, loadCellsFrom]
    · cases A <;> simp [Builtin.append_, run_underlying ht, sizeOf, typeInfo, hi, Builtin.lenOf, Builtin.firstCells, hnc, storeCells, loadCells, loadCellsFrom]
  · obtain ⟨v', w', hrun, h2, h3, _, h5⟩ := run_append_own_at (P := P) w base t ty e i z size bytes ht hi hz hsize hby hzs hsz v n xs hown ad m c news hm hc h1 h63 hbytes hbase
    refine ⟨v', w', hrun, h2, h3, ?_⟩
    rcases h5 with h5 | h5
    · exact .inl h5
    · exact .inr ⟨_, h5, Nat.le_refl _⟩

theorem wp_append_v {w : World} {o : Oper} {a : Act} {K : Act → World → Prop} {Q : Exit → Act → World → Prop} (s x : Operand) (t : TypeId)
    (ho : o.op = .call { callee := .builtin .append, args := #[s, x], argTypes := #[t, t] })
    (e : TypeId) (i : TypeInfo) (z : Value) (size bytes : Nat) (ht : P.underlying t = some (.slice e)) (hi : P.info? e = some i) (hz : i.zero = some z)
    (hsize : i.size = size) (hby : i.bytes = bytes) (hzs : z.cells.size = size) (hsz : 0 < size)
    (base : Nat) (v : Value) (n : Nat) (xs : List Value) (hs : a.eval s = v) (hown : w.ownsRow base e size v n xs) (B : Nat) (A : Option Addr) (m c : Nat) (news : List Value) (hx : a.eval x = .slice A m c) (hm : news.length = m * size) (hsee : Sees w B A news)
    (h1 : ∀ u ∈ news, u.oneCell' = true) (h63 : n + m ≤ maxLen) (hbytes : (n + m) * bytes ≤ 140737488355328) (hbase : base ≤ w.heap.size)
    (h : ∀ v' w', w'.ownsRow base e size v' (n + m) (xs ++ news) → Onto w w' v v' → K (a.put o.dst v') w') : o.wp P a w K Q := by
  obtain ⟨v', w', hrun, h2, h3⟩ := run_append_v (P := P) w t o.type e i z size bytes ht hi hz hsize hby hzs hsz base v n xs hown B A m c news hm hsee h1 h63 hbytes hbase
  unfold Oper.wp execOp
  simp only [ho, resolve, invoke, builtin, Sem.run_bind, Sem.run_pure, Result.andThen_ok, List.map_toArray, List.map_cons, List.map_nil, hs, hx, hrun]
  exact h v' w' h2 h3

theorem wpList_append_v {w : World} {ops : Array Oper} {rest : List Oper} {o : Oper} {a : Act} {Q : Exit → Act → World → Prop} (hgd : o.guard = none) (s x : Operand) (t : TypeId)
    (ho : o.op = .call { callee := .builtin .append, args := #[s, x], argTypes := #[t, t] })
    (e : TypeId) (i : TypeInfo) (z : Value) (size bytes : Nat) (ht : P.underlying t = some (.slice e)) (hi : P.info? e = some i) (hz : i.zero = some z)
    (hsize : i.size = size) (hby : i.bytes = bytes) (hzs : z.cells.size = size) (hsz : 0 < size)
    (base : Nat) (v : Value) (n : Nat) (xs : List Value) (hs : a.eval s = v) (hown : w.ownsRow base e size v n xs) (B : Nat) (A : Option Addr) (m c : Nat) (news : List Value) (hx : a.eval x = .slice A m c) (hm : news.length = m * size) (hsee : Sees w B A news)
    (h1 : ∀ u ∈ news, u.oneCell' = true) (h63 : n + m ≤ maxLen) (hbytes : (n + m) * bytes ≤ 140737488355328) (hbase : base ≤ w.heap.size)
    (h : ∀ v' w', w'.ownsRow base e size v' (n + m) (xs ++ news) → Onto w w' v v' → wpList P ops Q rest (a.put o.dst v') w') : wpList P ops Q (o :: rest) a w :=
  wpList_plain hgd fun _ hK => wp_append_v s x t ho e i z size bytes ht hi hz hsize hby hzs hsz base v n xs hs hown B A m c news hx hm hsee h1 h63 hbytes hbase fun v' w' h2 h3 => hK _ _ (h v' w' h2 h3)

theorem step_append_v {w : World} {ops : Array Oper} {o : Oper} {a : Act} {K : Act → World → Prop} {Q : Exit → Act → World → Prop} {E : Prop} (hgd : o.guard = none) (s x : Operand) (t : TypeId)
    (ho : o.op = .call { callee := .builtin .append, args := #[s, x], argTypes := #[t, t] })
    (e : TypeId) (i : TypeInfo) (z : Value) (size bytes : Nat) (ht : P.underlying t = some (.slice e)) (hi : P.info? e = some i) (hz : i.zero = some z)
    (hsize : i.size = size) (hby : i.bytes = bytes) (hzs : z.cells.size = size) (hsz : 0 < size)
    (base : Nat) (v : Value) (n : Nat) (xs : List Value) (hs : a.eval s = v) (hown : w.ownsRow base e size v n xs) (B : Nat) (A : Option Addr) (m c : Nat) (news : List Value) (hx : a.eval x = .slice A m c) (hm : news.length = m * size) (hsee : Sees w B A news)
    (h1 : ∀ u ∈ news, u.oneCell' = true) (h63 : n + m ≤ maxLen) (hbytes : (n + m) * bytes ≤ 140737488355328) (hbase : base ≤ w.heap.size)
    (h : ∀ v' w', w'.ownsRow base e size v' (n + m) (xs ++ news) → Onto w w' v v' → K (a.put o.dst v') w') :
    if Region.wanted o (yielded ops a.tmps) = true then Oper.wp P o a w K Q else E := by
  have hw : Region.wanted o (yielded ops a.tmps) = true := by simp [Region.wanted, hgd]
  rw [if_pos hw]
  exact wp_append_v s x t ho e i z size bytes ht hi hz hsize hby hzs hsz base v n xs hs hown B A m c news hx hm hsee h1 h63 hbytes hbase h
end

/-- A row that was just made, as the call's own. -/
theorem own_new (w : World) (base : Nat) (hb : base ≤ w.heap.size) (e : TypeId) (size n : Nat) (xs : List Value) (hx : xs.length = n * size) (hm : n ≤ maxLen) (cs : Array Value) (h : cs = xs.toArray) :
    (w.alloc (.cells cs e)).ownsRow base e size (.slice (some ⟨w.heap.size, 0, none⟩) n n) n xs := by
  subst h
  have h2 := World.ownsRow_lit (e := e) (size := size) (base := base) w xs.toArray n hb hm (by simpa using hx)
  simpa using h2
theorem own_below {w w' : World} {base : Nat} {e : TypeId} {size n : Nat} {v : Value} {xs : List Value} (h : w.ownsRow base e size v n xs) (hb : Below w.heap.size w w') : w'.ownsRow base e size v n xs :=
  World.ownsRow.kept (row := none) h ⟨hb.os, hb.tape, hb.output, hb.size, fun k hk _ => hb.block k hk⟩ (by cases v.ownBlock <;> simp)
/-- Such a row's value, and what it shows. -/
theorem own_open {w : World} {base : Nat} {e : TypeId} {size n : Nat} {v : Value} {xs : List Value} (h : w.ownsRow base e size v n xs) : ∃ A c, v = .slice A n c ∧ n ≤ c ∧ c ≤ maxLen ∧ Sees w w.heap.size A xs := by
  rcases h.2 with ⟨rfl, hn⟩ | ⟨g, cap, cur, rfl, hb, hh, hc, hm, _⟩
  · have h1 := h.1
    rw [hn, Nat.zero_mul] at h1
    exact ⟨none, 0, by rw [hn], by omega, by simp [maxLen], ⟨.inl (List.eq_nil_of_length_eq_zero h1)⟩⟩
  · exact ⟨_, cap, rfl, hc, hm, Sees.of_own h⟩
theorem own_block {w : World} {base : Nat} {e : TypeId} {size n : Nat} {v : Value} {xs : List Value} (h : w.ownsRow base e size v n xs) : ∀ k, v.ownBlock = some k → base ≤ k := fun k hk => (World.ownsRow.lt h k hk).1
/-- What lay below a row's blocks is seen as before, behind a step that writes into that row. -/
theorem Sees.onto {w w' : World} {B : Nat} {A : Option Addr} {xs : List Value} {v v' : Value} (h : Sees w B A xs) (ho : Onto w w' v v') (hB : B ≤ w.heap.size) (hv : ∀ k, v.ownBlock = some k → B ≤ k) : Sees w' B A xs :=
  h.grown ho.grown hB hv
end Go.Proofs.YtpjiioeodcinpaaGreatDoor

/-
  A loop over an iterator, in words of blocks: which blocks a step may turn; the law of the statement. No program in sight.
-/
namespace Go.Proofs.YtpjiioeodcinpaaGreatDoor
open Go.RowKit

/-- From A to B only blocks in T turn, and blocks are laid. -/
structure Turn (T : Nat → Prop) (A B : World) : Prop where
  os : B.os = A.os
  tape : B.tape = A.tape
  output : B.output = A.output
  size : A.heap.size ≤ B.heap.size
  block : ∀ k, k < A.heap.size → ¬ T k → B.heap[k]? = A.heap[k]?

section
variable {T T' : Nat → Prop} {A B C : World}
theorem Turn.refl (T : Nat → Prop) (A : World) : Turn T A A := ⟨rfl, rfl, rfl, Nat.le_refl _, fun _ _ _ => rfl⟩
theorem Turn.trans' (h : Turn T A B) (k : Turn T' B C) (hT : ∀ j, j < A.heap.size → T' j → T j) : Turn T A C :=
  ⟨k.os.trans h.os, k.tape.trans h.tape, k.output.trans h.output, Nat.le_trans h.size k.size, fun j hj hn => (k.block j (Nat.lt_of_lt_of_le hj h.size) (fun e => hn (hT j hj e))).trans (h.block j hj hn)⟩
theorem Turn.trans (h : Turn T A B) (k : Turn T B C) : Turn T A C := h.trans' k fun _ _ e => e
theorem Turn.mono (h : Turn T A B) (hT : ∀ j, j < A.heap.size → T j → T' j) : Turn T' A B := ⟨h.os, h.tape, h.output, h.size, fun j hj hn => h.block j hj (fun e => hn (hT j hj e))⟩
theorem Turn.below {b : Nat} (h : Turn T A B) (hT : ∀ j, T j → b ≤ j) (hb : b ≤ A.heap.size) : Below b A B := ⟨h.os, h.tape, h.output, h.size, fun j hj => h.block j (by omega) (fun e => by have := hT j e; omega)⟩
theorem Turn.of_below {b : Nat} (h : Below b A B) (hT : ∀ j, j < A.heap.size → b ≤ j → T j) : Turn T A B := ⟨h.os, h.tape, h.output, h.size, fun j hj hn => h.block j (by rcases Nat.lt_or_ge j b with g | g; exact g; exact absurd (hT j hj g) hn)⟩
theorem Turn.of_new (h : Below A.heap.size A B) : Turn T A B := .of_below h fun j h1 h2 => by omega
theorem Turn.of_grown {row : Option Nat} (h : A.grownBy B row) (hT : ∀ k, row = some k → T k) : Turn T A B := ⟨h.os, h.tape, h.output, h.size, fun j hj hn => h.block j hj (fun e => hn (hT j e.symm))⟩
theorem Turn.setCell (A : World) (p : Addr) (v : Value) (hT : T p.block) : Turn T A (A.setCell p v) := ⟨rfl, rfl, rfl, by simp [World.setCell], fun j _ hn => Below.heap_setCell A p v j (fun e => hn (e ▸ hT))⟩
theorem Turn.alloc (A : World) (o : Obj) : Turn T A (A.alloc o) := .of_new ((Below.refl _ A).alloc (Nat.le_refl _) o)
theorem Turn.drewN (A : World) (q : Nat) : Turn T A (A.drewN q) := .of_new (below_d (Below.refl _ A) q)
theorem Turn.drew (A : World) : Turn T A A.drew := .of_new (below_drew (Below.refl _ A))
theorem Turn.putObj (A : World) (r : Nat) (o : Obj) (hT : T r) : Turn T A (A.putObj r o) := ⟨rfl, rfl, rfl, by simp, fun j _ hn => World.putObj_heap_other (fun e => hn (e ▸ hT))⟩
theorem Turn.onto {v v' : Value} (h : Onto A B v v') (hT : ∀ k, v.ownBlock = some k → T k) : Turn T A B := .of_grown h.grown hT
theorem Turn.keep (h : Turn T A B) {p : Addr} (hp : p.block < A.heap.size) (hn : ¬ T p.block) : B.cell? p = A.cell? p := World.cell?_of_block (h.block _ hp hn)
theorem Turn.keepF (h : Turn T A B) {p : Addr} (hp : p.block < A.heap.size) (hn : ¬ T p.block) : B.frozen? p = A.frozen? p := World.frozen?_of_block (h.block _ hp hn)
end

/-- What an iterator owns behind a step: what it owned, and what was laid. -/
def grown (s : Nat → Prop) (A B : World) : Nat → Prop := fun k => s k ∨ (A.heap.size ≤ k ∧ k < B.heap.size)

/-- The contract of an iterator that owns blocks (s), reads others (R). A round turns none of them. Ok: what is known of what is told. -/
def SeqT {α : Type} (F : Fence) (n : Nat) (P : Program) (g : Nat) (lb : Array Value) (encs : α → Array Value) (R s0 : Nat → Prop) (Ok : (Nat → Prop) → List α → α → World → Prop) (S Sp : List α → Prop) (N : Nat) (w : World) : Prop :=
  ∀ (l : Nat) (J Jx : (Nat → Prop) → List α → World → Prop) (W : World), Below w.heap.size w W →
    (∀ s pre A B, J s pre A → Turn s A B → J (grown s A B) pre B) → (∀ s pre A B, Jx s pre A → Turn s A B → Jx (grown s A B) pre B) →
    (∀ s pre x W1, J s pre W1 → pre.length < N → Ok s pre x W1 → YieldAt F (n - 1) P l (encs x) W1 fun e W' =>
      (e = .returned (.bool true) ∧ J s (pre ++ [x]) W' ∧ Turn (fun k => ¬ s k ∧ ¬ R k) W1 W') ∨ (e = .returned (.bool false) ∧ Jx s (pre ++ [x]) W' ∧ Turn (fun k => ¬ s k ∧ ¬ R k) W1 W')) →
    J s0 [] W →
    CallsIn F n P g (#[.func (.yield l) #[] #[]] ++ lb) W fun e W' => (∃ v, e = .returned v) ∧ ((∃ s xs, S xs ∧ J s xs W') ∨ (∃ s pre, Sp pre ∧ Jx s pre W'))

/-- How the body of a round may be left. -/
def postT {α : Type} (R s : Nat → Prop) (D : Nat) (I : (Nat → Prop) → List α → World → Prop) (Ix : Code → (Nat → Prop) → List α → World → Prop) (xs : List α) (W : World) : Exit → Act → World → Prop
  | .normal, _, W' => Turn (fun k => ¬ s k ∧ ¬ R k ∧ k ≠ D ∧ k ≠ D + 1) W W' ∧ I s xs W'
  | .ret, _, W' => Turn (fun k => ¬ s k ∧ ¬ R k ∧ k ≠ D ∧ k ≠ D + 1) W W' ∧ Ix .ret s xs W'
  | .exit id, _, W' => Turn (fun k => ¬ s k ∧ ¬ R k ∧ k ≠ D ∧ k ≠ D + 1) W W' ∧ Ix (.exit id) s xs W'
  | .goto t, _, W' => Turn (fun k => ¬ s k ∧ ¬ R k ∧ k ≠ D ∧ k ≠ D + 1) W W' ∧ Ix (.goto t) s xs W'
  | .panic _, _, _ => False
  | .outgrown, _, _ => False

variable {F : Fence} {n : Nat} {P : Program}

theorem wpIn_rangeFunc_T {α : Type} {g : Operand} {ps : Array Tmp} {assign body : Code} {Q : Exit → Act → World → Prop} {a : Act} {w : World}
    (hro : F.round = none) (h1 : 1 ≤ n) {gf : Nat} {lb : Array Value} (hg : a.eval g = .func (.func gf) #[] lb) (hFg : F.fn gf) (eg : ∀ args w, (callFunc gf args).run P w = .ok (.enter gf args) w)
    {encs : α → Array Value} {R s0 : Nat → Prop} {Ok : (Nat → Prop) → List α → α → World → Prop} {S Sp : List α → Prop} {N : Nat} {w0 : World} (hseq : SeqT F (n - 1) P gf lb encs R s0 Ok S Sp N w0) (hb0 : Below w0.heap.size w0 w) (hps : ∀ x, (encs x).size = ps.size)
    (hR : ∀ k, R k ∨ s0 k → k < w.heap.size)
    (hOk : ∀ s pre x A B, Ok s pre x A → (∀ k, s k ∨ R k → k ≠ w.heap.size ∧ k ≠ w.heap.size + 1) → Turn (fun k => k = w.heap.size ∨ k = w.heap.size + 1) A B → Ok s pre x B)
    (I : (Nat → Prop) → List α → World → Prop) (Ix : Code → (Nat → Prop) → List α → World → Prop)
    (hI : ∀ s pre A B, I s pre A → Turn s A B → I (grown s A B) pre B) (hIx : ∀ c s pre A B, Ix c s pre A → Turn s A B → Ix c (grown s A B) pre B)
    (hI2 : ∀ s pre A B, I s pre A → Turn (fun k => k = w.heap.size ∨ k = w.heap.size + 1) A B → I s pre B) (hIx2 : ∀ c s pre A B, Ix c s pre A → Turn (fun k => k = w.heap.size ∨ k = w.heap.size + 1) A B → Ix c s pre B)
    (h0 : I s0 [] w) (a₁ : α → Act)
    (hassign : ∀ (l : Nat) (x : α) (W : World) (K : Act → World → Prop), K (a₁ x) W →
      assign.wpIn (F.inRound l) (n - 1 - 1) P (Exit.then K (fun _ _ _ => False)) { tmps := (ps.zip (encs x)).foldl (fun t (p, v) => t.setIfInBounds p v) a.tmps, defers := [] } W)
    (hbody : ∀ (l : Nat) (s : Nat → Prop) (pre : List α) (x : α) (W : World), I s pre W → pre.length < N → Ok s pre x W → w.heap.size + 2 ≤ W.heap.size → body.wpIn (F.inRound l) (n - 1 - 1) P (postT R s w.heap.size I Ix (pre ++ [x]) W) (a₁ x) W)
    (hdone : ∀ (s : Nat → Prop) (xs : List α) (W : World), S xs → I s xs W → W.heap[w.heap.size]? = some (.deferred (some [])) → Q .normal { a with defers := { target := .collected w.heap.size, args := #[] } :: a.defers } W)
    (hstop : ∀ (c : Code) (s : Nat → Prop) (pre : List α) (W : World), Sp pre → Ix c s pre W → W.heap[w.heap.size]? = some (.deferred (some [])) → c.wpIn F n P Q { a with defers := { target := .collected w.heap.size, args := #[] } :: a.defers } W) :
    (Code.rangeFunc g ps assign body).wpIn F n P Q a w := by
  refine wpIn_rangeFunc ?_
  intro fn hfn
  rw [hro]
  obtain ⟨rec, hrec⟩ : ∃ rec : LoopState → Option Code → Loop, rec = fun st pe => { state := st, pending := pe, fn, tmps := a.tmps, params := ps, assign, body, defers := w.heap.size } := ⟨_, rfl⟩
  obtain ⟨W1, hW1⟩ : ∃ W1, (w.alloc (.deferred (some []))).alloc (.loop (rec .ready none)) = W1 := ⟨_, rfl⟩
  have hL1 : W1.heap[w.heap.size + 1]? = some (.loop (rec .ready none)) := by
    rw [← hW1]; have := World.alloc_heap_new (w.alloc (.deferred (some []))) (.loop (rec .ready none)); rwa [World.size_alloc] at this
  have hK1 : W1.heap[w.heap.size]? = some (.deferred (some [])) := by
    rw [← hW1]; exact (Below.heap_alloc _ _ _ (by simp)).trans (World.alloc_heap_new w _)
  have hI1 : I s0 [] W1 := by rw [← hW1]; exact hI2 _ _ _ _ (hI2 _ _ _ _ h0 (Turn.alloc w _)) (Turn.alloc _ _)
  have hb1 : Below w0.heap.size w0 W1 := by
    rw [← hW1]; exact hb0.trans ((((Below.refl _ w).alloc (Nat.le_refl _) _).alloc (by simp) _).mono hb0.size)
  refine ⟨w.heap.size + 1, [{ target := .collected w.heap.size, args := #[] }], W1, { target := .fn (.func gf) lb, args := #[.func (.yield (w.heap.size + 1)) #[] #[]] }, W1, gf,
    #[.func (.yield (w.heap.size + 1)) #[] #[]] ++ lb, W1, ?_, ?_, ?_, ?_, fun _ => h1, ?_⟩
  · rw [← hW1, hrec]; exact run_enterLoop_outer _ _ _ _ _
  · simp only [resolve, hg]
    simp [go_sem]
  · intro f' hf'; simp [Target.leads] at hf'; subst hf'; exact hFg
  · simp [invoke, go_sem, eg]
  · have book : ∀ {s : Nat → Prop} {A B : World} {r : Nat} {o : Obj}, Turn s A B → ¬ s r → A.heap[r]? = some o → B.heap[r]? = some o ∧ ¬ grown s A B r := fun ht hs hr => by
      have hlt := (Array.getElem?_eq_some_iff.1 hr).1
      exact ⟨(ht.block _ hlt hs).trans hr, fun e => by rcases e with e | e; exact hs e; omega⟩
    refine (hseq (w.heap.size + 1)
      (fun s pre W => I s pre W ∧ W.heap[w.heap.size + 1]? = some (.loop (rec .ready none)) ∧ W.heap[w.heap.size]? = some (.deferred (some [])) ∧ ¬ s (w.heap.size + 1) ∧ ¬ s w.heap.size)
      (fun s pre W => ∃ c, Ix c s pre W ∧ W.heap[w.heap.size + 1]? = some (.loop (rec .done (some c))) ∧ W.heap[w.heap.size]? = some (.deferred (some [])) ∧ ¬ s (w.heap.size + 1) ∧ ¬ s w.heap.size)
      W1 hb1
      (fun s pre A B h ht => ⟨hI s pre A B h.1 ht, (book ht h.2.2.2.1 h.2.1).1, (book ht h.2.2.2.2 h.2.2.1).1, (book ht h.2.2.2.1 h.2.1).2, (book ht h.2.2.2.2 h.2.2.1).2⟩)
      (fun s pre A B h ht => by
        obtain ⟨c, h⟩ := h
        exact ⟨c, hIx c s pre A B h.1 ht, (book ht h.2.2.2.1 h.2.1).1, (book ht h.2.2.2.2 h.2.2.1).1, (book ht h.2.2.2.1 h.2.1).2, (book ht h.2.2.2.2 h.2.2.1).2⟩)
      ?_ ⟨hI1, hL1, hK1, fun e => by have := hR _ (.inr e); omega, fun e => by have := hR _ (.inr e); omega⟩).mono ?_
    · -- one round
      rintro s pre x W ⟨hi, hl, hk, hsl, hsk⟩ hlen hok
      have hlt : w.heap.size + 1 < W.heap.size := (Array.getElem?_eq_some_iff.1 hl).1
      have hy := run_yield (P := P) (args := encs x) hl (by rw [hrec]; exact hps x)
      rw [hrec] at hy
      refine ⟨fn, _, assign, body, hy, roundIn_of_wpIn hfn (hassign _ x W _ ⟨_, run_beginRound hl (by rw [hrec]), ?_⟩)⟩
      have hl2 : (W.putObj (w.heap.size + 1) (.loop { rec .ready none with state := .busy })).heap[w.heap.size + 1]? = some (.loop { rec .ready none with state := .busy }) := World.putObj_heap_same hlt
      have hk2 : (W.putObj (w.heap.size + 1) (.loop { rec .ready none with state := .busy })).heap[w.heap.size]? = some (.deferred (some [])) := (World.putObj_heap_other (by omega)).trans hk
      have ht2 : ∀ o, Turn (fun k => k = w.heap.size ∨ k = w.heap.size + 1) W (W.putObj (w.heap.size + 1) o) := fun o => Turn.putObj W _ o (.inr rfl)
      refine wpIn_mono (hbody _ s pre x _ (hI2 _ _ _ _ hi (ht2 _)) hlen (hOk _ _ _ _ _ hok (fun k hk => ⟨fun e => by subst e; rcases hk with h | h; exact hsk h; have := hR _ (.inl h); omega, fun e => by subst e; rcases hk with h | h; exact hsl h; have := hR _ (.inl h); omega⟩) (ht2 _)) (by rw [World.putObj_size]; exact hlt)) ?_
      have fin : ∀ (jump : Option Code) (W3 : World), Turn (fun k => ¬ s k ∧ ¬ R k ∧ k ≠ w.heap.size ∧ k ≠ w.heap.size + 1) (W.putObj (w.heap.size + 1) (.loop { rec .ready none with state := .busy })) W3 →
          (Instr.endRound (w.heap.size + 1) jump).run P W3 = .ok (.bool jump.isNone) (W3.putObj (w.heap.size + 1) (.loop (rec (if jump.isNone then .ready else .done) jump))) ∧
          W3.heap[w.heap.size + 1]? = some (.loop { rec .ready none with state := .busy }) ∧
          (W3.putObj (w.heap.size + 1) (.loop (rec (if jump.isNone then .ready else .done) jump))).heap[w.heap.size + 1]? = some (.loop (rec (if jump.isNone then .ready else .done) jump)) ∧
          (W3.putObj (w.heap.size + 1) (.loop (rec (if jump.isNone then .ready else .done) jump))).heap[w.heap.size]? = some (.deferred (some [])) := fun jump W3 hk3 => by
        have hl3 := (hk3.block (w.heap.size + 1) (by simp; omega) (fun e => e.2.2.2 rfl)).trans hl2
        have hk4 := (hk3.block w.heap.size (by simp; omega) (fun e => e.2.2.1 rfl)).trans hk2
        have := run_endRound (P := P) jump hl3
        rw [hrec] at this ⊢
        exact ⟨this, by rw [hrec] at hl3; exact hl3, World.putObj_heap_same (Array.getElem?_eq_some_iff.1 hl3).1, (World.putObj_heap_other (by omega)).trans hk4⟩
      have tot : ∀ (o : Obj) (W3 : World), Turn (fun k => ¬ s k ∧ ¬ R k ∧ k ≠ w.heap.size ∧ k ≠ w.heap.size + 1) (W.putObj (w.heap.size + 1) (.loop { rec .ready none with state := .busy })) W3 → Turn (fun k => ¬ s k ∧ ¬ R k) W (W3.putObj (w.heap.size + 1) o) := fun o W3 h => by
        have hm : ¬ s (w.heap.size + 1) ∧ ¬ R (w.heap.size + 1) := ⟨hsl, fun e => by have := hR _ (.inl e); omega⟩
        exact ((Turn.putObj W _ _ hm).trans (h.mono fun j _ e => ⟨e.1, e.2.1⟩)).trans (Turn.putObj W3 _ _ hm)
      have hp3 : ∀ (W3 : World) (o : Obj), Turn (fun k => k = w.heap.size ∨ k = w.heap.size + 1) W3 (W3.putObj (w.heap.size + 1) o) := fun W3 o => Turn.putObj W3 _ o (.inr rfl)
      rintro e a3 W3 hp
      cases e with
      | normal =>
        obtain ⟨hk3, hi3⟩ := hp
        obtain ⟨hr, hl3, hl4, hk4⟩ := fin none W3 hk3
        exact ⟨_, _, hr, .inl ⟨rfl, ⟨hI2 _ _ _ _ hi3 (hp3 _ _), hl4, hk4, hsl, hsk⟩, tot _ _ hk3⟩⟩
      | ret =>
        obtain ⟨hk3, hi3⟩ := hp
        obtain ⟨hr, hl3, hl4, hk4⟩ := fin (some .ret) W3 hk3
        exact ⟨_, _, hr, .inr ⟨rfl, ⟨.ret, hIx2 _ _ _ _ _ hi3 (hp3 _ _), hl4, hk4, hsl, hsk⟩, tot _ _ hk3⟩⟩
      | exit id =>
        obtain ⟨hk3, hi3⟩ := hp
        obtain ⟨hr, hl3, hl4, hk4⟩ := fin (some (.exit id)) W3 hk3
        exact ⟨_, _, hr, .inr ⟨rfl, ⟨.exit id, hIx2 _ _ _ _ _ hi3 (hp3 _ _), hl4, hk4, hsl, hsk⟩, tot _ _ hk3⟩⟩
      | goto t =>
        obtain ⟨hk3, hi3⟩ := hp
        obtain ⟨hr, hl3, hl4, hk4⟩ := fin (some (.goto t)) W3 hk3
        exact ⟨_, _, hr, .inr ⟨rfl, ⟨.goto t, hIx2 _ _ _ _ _ hi3 (hp3 _ _), hl4, hk4, hsl, hsk⟩, tot _ _ hk3⟩⟩
      | panic ch => exact hp.elim
      | outgrown => exact hp.elim
    · rintro e W2 ⟨⟨v, rfl⟩, (⟨s, xs, hS, hi, hl, hk, -, -⟩ | ⟨s, pre, hSp, c, hi, hl, hk, -, -⟩)⟩
      · exact ⟨none, _, by have := run_endLoop (P := P) hl (by rw [hrec]; simp); rw [hrec] at this; exact this, hdone s xs _ hS (hI2 _ _ _ _ hi (Turn.putObj W2 _ _ (.inr rfl))) ((World.putObj_heap_other (by omega)).trans hk)⟩
      · exact ⟨some c, _, by have := run_endLoop (P := P) hl (by rw [hrec]; simp); rw [hrec] at this; exact this, hstop c s pre _ hSp (hIx2 _ _ _ _ _ hi (Turn.putObj W2 _ _ (.inr rfl))) ((World.putObj_heap_other (by omega)).trans hk)⟩
end Go.Proofs.YtpjiioeodcinpaaGreatDoor

/-
  Memory by sets of blocks: what an address shows within them.
-/
namespace Go.Proofs.YtpjiioeodcinpaaGreatDoor
open Go.RowKit

/-- The address A shows the cells xs, in a block of m. -/
structure SeesM (m : Nat → Prop) (w : World) (A : Option Addr) (xs : List Value) : Prop where
  out : xs = [] ∨ ∃ ad, A = some ad ∧ m ad.block ∧ ∀ j u, xs[j]? = some u → w.cell? (ad.add j) = some u
/-- Rows of bytes. -/
structure Sees2M (m : Nat → Prop) (w : World) (A : Option Addr) (ls : List (List UInt8)) : Prop where
  out : ∀ i (hi : i < ls.length), ∃ ad Ai ci, A = some ad ∧ m ad.block ∧ w.cell? (ad.add i) = some (.slice Ai (ls[i]).length ci) ∧ (ls[i]).length ≤ ci ∧ SeesM m w Ai (bv ls[i])
/-- Rows of rows of bytes. -/
structure Sees3M (m : Nat → Prop) (w : World) (A : Option Addr) (bl : List (List (List UInt8))) : Prop where
  out : ∀ i (hi : i < bl.length), ∃ ad Ai ci, A = some ad ∧ m ad.block ∧ w.cell? (ad.add i) = some (.slice Ai (bl[i]).length ci) ∧ (bl[i]).length ≤ ci ∧ Sees2M m w Ai bl[i]

/-- Blocks of m lie as they lay. -/
def Kept (m : Nat → Prop) (w w' : World) : Prop := ∀ k, m k → w'.heap[k]? = w.heap[k]?

section
variable {m m' : Nat → Prop} {w w' : World} {A : Option Addr}
theorem Kept.cell (h : Kept m w w') {p : Addr} (hp : m p.block) : w'.cell? p = w.cell? p := World.cell?_of_block (h _ hp)
theorem Kept.trans {w'' : World} (h : Kept m w w') (k : Kept m w' w'') : Kept m w w'' := fun j hj => (k j hj).trans (h j hj)
theorem Kept.refl (m : Nat → Prop) (w : World) : Kept m w w := fun _ _ => rfl
theorem Kept.mono (h : Kept m w w') (hm : ∀ k, m' k → m k) : Kept m' w w' := fun j hj => h j (hm j hj)
theorem Kept.of_turn {T : Nat → Prop} (h : Turn T w w') (hm : ∀ k, m k → k < w.heap.size ∧ ¬ T k) : Kept m w w' := fun j hj => h.block j (hm j hj).1 (hm j hj).2
theorem Kept.of_below {B : Nat} (h : Below B w w') (hm : ∀ k, m k → k < B) : Kept m w w' := fun j hj => h.block j (hm j hj)
theorem Kept.drewN (m : Nat → Prop) (w : World) (q : Nat) : Kept m w (w.drewN q) := fun _ _ => rfl
theorem SeesM.keep {xs : List Value} (h : SeesM m w A xs) (hk : Kept m w w') : SeesM m w' A xs := by
  rcases h.out with h | ⟨ad, e, hb, hc⟩
  · exact ⟨.inl h⟩
  · exact ⟨.inr ⟨ad, e, hb, fun j u hu => (hk.cell (by rw [add_block]; exact hb)).trans (hc j u hu)⟩⟩
theorem SeesM.mono {xs : List Value} (h : SeesM m w A xs) (hm : ∀ k, m k → m' k) : SeesM m' w A xs := by
  rcases h.out with h | ⟨ad, e, hb, hc⟩
  · exact ⟨.inl h⟩
  · exact ⟨.inr ⟨ad, e, hm _ hb, hc⟩⟩
theorem SeesM.sees {xs : List Value} (h : SeesM m w A xs) {B : Nat} (hm : ∀ k, m k → k < B) : Sees w B A xs := by
  rcases h.out with h | ⟨ad, e, hb, hc⟩
  · exact ⟨.inl h⟩
  · exact ⟨.inr ⟨ad, e, hm _ hb, hc⟩⟩
theorem Sees.toM {xs : List Value} {B : Nat} (h : Sees w B A xs) : SeesM (fun k => k < B) w A xs := by
  rcases h.out with h | ⟨ad, e, hb, hc⟩
  · exact ⟨.inl h⟩
  · exact ⟨.inr ⟨ad, e, hb, hc⟩⟩
theorem Sees2M.keep {ls : List (List UInt8)} (h : Sees2M m w A ls) (hk : Kept m w w') : Sees2M m w' A ls :=
  ⟨fun i hi => by
    obtain ⟨ad, Ai, ci, h1, h2, h3, h4, h5⟩ := h.out i hi
    exact ⟨ad, Ai, ci, h1, h2, (hk.cell (by rw [add_block]; exact h2)).trans h3, h4, h5.keep hk⟩⟩
theorem Sees2M.mono {ls : List (List UInt8)} (h : Sees2M m w A ls) (hm : ∀ k, m k → m' k) : Sees2M m' w A ls :=
  ⟨fun i hi => by
    obtain ⟨ad, Ai, ci, h1, h2, h3, h4, h5⟩ := h.out i hi
    exact ⟨ad, Ai, ci, h1, hm _ h2, h3, h4, h5.mono hm⟩⟩
theorem Sees2M.sees {ls : List (List UInt8)} (h : Sees2M m w A ls) {B : Nat} (hm : ∀ k, m k → k < B) : Sees2 w B A ls :=
  ⟨fun i hi => by
    obtain ⟨ad, Ai, ci, h1, h2, h3, h4, h5⟩ := h.out i hi
    exact ⟨ad, Ai, ci, h1, hm _ h2, h3, h4, h5.sees hm⟩⟩
theorem Sees2.toM {ls : List (List UInt8)} {B : Nat} (h : Sees2 w B A ls) : Sees2M (fun k => k < B) w A ls :=
  ⟨fun i hi => by
    obtain ⟨ad, Ai, ci, h1, h2, h3, h4, h5⟩ := h.out i hi
    exact ⟨ad, Ai, ci, h1, h2, h3, h4, h5.toM⟩⟩
theorem Sees3M.keep {bl : List (List (List UInt8))} (h : Sees3M m w A bl) (hk : Kept m w w') : Sees3M m w' A bl :=
  ⟨fun i hi => by
    obtain ⟨ad, Ai, ci, h1, h2, h3, h4, h5⟩ := h.out i hi
    exact ⟨ad, Ai, ci, h1, h2, (hk.cell (by rw [add_block]; exact h2)).trans h3, h4, h5.keep hk⟩⟩
theorem Sees3M.mono {bl : List (List (List UInt8))} (h : Sees3M m w A bl) (hm : ∀ k, m k → m' k) : Sees3M m' w A bl :=
  ⟨fun i hi => by
    obtain ⟨ad, Ai, ci, h1, h2, h3, h4, h5⟩ := h.out i hi
    exact ⟨ad, Ai, ci, h1, hm _ h2, h3, h4, h5.mono hm⟩⟩
end
/-- Block B is a variable's box: one cell that holds v. -/
structure Box1 (W : World) (B : Nat) (t : TypeId) (v : Value) : Prop where
  out : Boxed W B t v
section
variable {W W' : World} {B : Nat} {t : TypeId} {v : Value}
theorem Box1.lt (h : Box1 W B t v) : B < W.heap.size := h.out.lt
theorem Box1.cell (h : Box1 W B t v) : W.cell? ⟨B, 0, none⟩ = some v := h.out.cell
theorem Box1.frozen (h : Box1 W B t v) : W.frozen? ⟨B, 0, none⟩ = false := h.out.frozen
theorem Box1.new (W : World) (t : TypeId) (v : Value) : Box1 (W.alloc (.cells #[v] t)) W.heap.size t v := ⟨Boxed.new W t v⟩
theorem Box1.alloc (h : Box1 W B t v) (o : Obj) : Box1 (W.alloc o) B t v := ⟨h.out.alloc o⟩
theorem Box1.turn {T : Nat → Prop} (h : Box1 W B t v) (ht : Turn T W W') (hn : ¬ T B) : Box1 W' B t v := ⟨(ht.block B h.lt hn).trans h.out⟩
theorem Box1.below {b : Nat} (h : Box1 W B t v) (hb : Below b W W') (hB : B < b) : Box1 W' B t v := ⟨(hb.block B hB).trans h.out⟩
theorem Box1.set (h : Box1 W B t v) (v' : Value) : Box1 (W.setCell ⟨B, 0, none⟩ v') B t v' := ⟨h.out.set v'⟩
theorem Box1.drewN (h : Box1 W B t v) (q : Nat) : Box1 (W.drewN q) B t v := ⟨h.out⟩
end
/-- The address A shows the cells xs, in a block of m, and they lie unfrozen. -/
structure SeesU (m : Nat → Prop) (w : World) (A : Option Addr) (xs : List Value) : Prop where
  out : xs = [] ∨ ∃ ad, A = some ad ∧ m ad.block ∧ ∀ j u, xs[j]? = some u → w.cell? (ad.add j) = some u ∧ w.frozen? (ad.add j) = false
section
variable {m m' : Nat → Prop} {w w' : World} {A : Option Addr} {xs : List Value}
theorem frozen_of_block {a : Addr} (h : w'.heap[a.block]? = w.heap[a.block]?) : w'.frozen? a = w.frozen? a := by unfold World.frozen?; rw [h]
theorem SeesU.toM (h : SeesU m w A xs) : SeesM m w A xs := by
  rcases h.out with h | ⟨ad, e, hb, hc⟩
  · exact ⟨.inl h⟩
  · exact ⟨.inr ⟨ad, e, hb, fun j u hu => (hc j u hu).1⟩⟩
theorem SeesU.keep (h : SeesU m w A xs) (hk : Kept m w w') : SeesU m w' A xs := by
  rcases h.out with h | ⟨ad, e, hb, hc⟩
  · exact ⟨.inl h⟩
  · exact ⟨.inr ⟨ad, e, hb, fun j u hu => ⟨(hk.cell (by rw [add_block]; exact hb)).trans (hc j u hu).1, (frozen_of_block (hk _ (by rw [add_block]; exact hb))).trans (hc j u hu).2⟩⟩⟩
theorem SeesU.mono (h : SeesU m w A xs) (hm : ∀ k, m k → m' k) : SeesU m' w A xs := by
  rcases h.out with h | ⟨ad, e, hb, hc⟩
  · exact ⟨.inl h⟩
  · exact ⟨.inr ⟨ad, e, hm _ hb, hc⟩⟩
end
/-- A row of rows of bytes of the call's own; the row and the rows in blocks of q, the rows not in the row's own. -/
structure OwnQ (q : Nat → Prop) (w : World) (base : Nat) (v : Value) (ls : List (List UInt8)) : Prop where
  out : ∃ vs : List Value, w.ownsRow base 29 1 v ls.length vs ∧ (∀ k, v.ownBlock = some k → q k) ∧ ∀ i (hi : i < ls.length), ∃ Ai ci, vs[i]? = some (.slice Ai (ls[i]).length ci) ∧ (ls[i]).length ≤ ci ∧ SeesU (fun k => q k ∧ v.ownBlock ≠ some k) w Ai (bv ls[i])
section
variable {q : Nat → Prop} {w w' : World} {base : Nat} {v v' : Value} {ls : List (List UInt8)}
theorem OwnQ.nil (q : Nat → Prop) (w : World) (base : Nat) : OwnQ q w base (.slice none 0 0) [] := ⟨[], World.ownsRow_nil w base _ 1, fun k hk => by simp [Value.ownBlock] at hk, fun i hi => absurd hi (by simp)⟩
theorem ownsRow_kept {e : TypeId} {sz n : Nat} {xs : List Value} (h : w.ownsRow base e sz v n xs) (hk : ∀ k, v.ownBlock = some k → w'.heap[k]? = w.heap[k]?) : w'.ownsRow base e sz v n xs := by
  refine ⟨h.1, ?_⟩
  rcases h.2 with h2 | ⟨g, cap, cur, rfl, hb, hh, r⟩
  · exact .inl h2
  · exact .inr ⟨g, cap, cur, rfl, hb, (hk g rfl).trans hh, r⟩
theorem OwnQ.keep (h : OwnQ q w base v ls) (hk : Kept q w w') : OwnQ q w' base v ls := by
  obtain ⟨vs, h1, h2, h3⟩ := h.out
  refine ⟨vs, ownsRow_kept h1 (fun k e => hk k (h2 k e)), h2, fun i hi => ?_⟩
  obtain ⟨Ai, ci, g1, g2, g3⟩ := h3 i hi
  exact ⟨Ai, ci, g1, g2, g3.keep (hk.mono fun k e => e.1)⟩
theorem OwnQ.mono {q' : Nat → Prop} (h : OwnQ q w base v ls) (hq : ∀ k, q k → q' k) : OwnQ q' w base v ls := by
  obtain ⟨vs, h1, h2, h3⟩ := h.out
  refine ⟨vs, h1, fun k e => hq _ (h2 k e), fun i hi => ?_⟩
  obtain ⟨Ai, ci, g1, g2, g3⟩ := h3 i hi
  exact ⟨Ai, ci, g1, g2, g3.mono fun k e => ⟨hq _ e.1, e.2⟩⟩
theorem OwnQ.base_le {b : Nat} (h : OwnQ q w base v ls) (hb : b ≤ base) : OwnQ q w b v ls := by
  obtain ⟨vs, h1, h2, h3⟩ := h.out
  refine ⟨vs, ⟨h1.1, ?_⟩, h2, h3⟩
  rcases h1.2 with h | ⟨g, cap, cur, hv, hg, r⟩
  · exact .inl h
  · exact .inr ⟨g, cap, cur, hv, Nat.le_trans hb hg, r⟩
theorem OwnQ.open_ (h : OwnQ q w base v ls) : ∃ A c, v = .slice A ls.length c ∧ ls.length ≤ c ∧ Sees2M q w A ls := by
  obtain ⟨vs, h1, h2, h3⟩ := h.out
  rcases h1.2 with ⟨rfl, hn⟩ | ⟨g, cap, cur, rfl, hb, hh, hc, hm, _⟩
  · have : ls = [] := List.eq_nil_of_length_eq_zero hn
    subst this
    exact ⟨none, 0, rfl, by simp, ⟨fun i hi => absurd hi (by simp)⟩⟩
  · refine ⟨_, cap, rfl, hc, ⟨fun i hi => ?_⟩⟩
    obtain ⟨Ai, ci, g1, g2, g3⟩ := h3 i hi
    exact ⟨_, Ai, ci, rfl, h2 g rfl, h1.cells (g := g) rfl i _ g1, g2, (g3.mono fun k e => e.1).toM⟩
theorem OwnQ.toS (h : OwnQ q w base v ls) (hq : ∀ k, q k → base ≤ k ∧ k < w.heap.size) : OwnS w base v ls := by
  obtain ⟨vs, h1, h2, h3⟩ := h.out
  refine ⟨vs, h1, fun i hi => ?_⟩
  obtain ⟨Ai, ci, g1, g2, g3⟩ := h3 i hi
  refine ⟨Ai, ci, g1, g2, ?_⟩
  rcases g3.toM.out with e | ⟨ad, e, ⟨e1, e2⟩, e3⟩
  · exact ⟨.inl e⟩
  · exact ⟨.inr ⟨ad, e, (hq _ e1).1, (hq _ e1).2, fun e4 => e2 e4.symm, e3⟩⟩
/-- Behind an append of one row. -/
theorem OwnQ.put {q2 : Nat → Prop} {vs : List Value} (x : List UInt8) (Ax : Option Addr) (cx : Nat) (hq : ∀ k, q k → k < w.heap.size)
    (_h2 : ∀ k, v.ownBlock = some k → q k) (h3 : ∀ i (hi : i < ls.length), ∃ Ai ci, vs[i]? = some (.slice Ai (ls[i]).length ci) ∧ (ls[i]).length ≤ ci ∧ SeesU (fun k => q k ∧ v.ownBlock ≠ some k) w Ai (bv ls[i])) (hvs : vs.length = ls.length)
    (hc : x.length ≤ cx) (hx : SeesU q2 w Ax (bv x)) (hq2 : ∀ k, q2 k → k < w.heap.size ∧ v.ownBlock ≠ some k)
    (hown : w'.ownsRow base 29 1 v' (ls.length + 1) (vs ++ [.slice Ax x.length cx])) (hon : Onto w w' v v') : OwnQ (fun k => q k ∨ q2 k ∨ v'.ownBlock = some k) w' base v' (ls ++ [x]) := by
  have hk : ∀ k, k < w.heap.size → v.ownBlock ≠ some k → w'.heap[k]? = w.heap[k]? ∧ v'.ownBlock ≠ some k := fun k h1 h2 => by
    refine ⟨hon.grown.block k h1 (fun e => h2 e.symm), fun e => ?_⟩
    rcases hon.at_ with e2 | ⟨g, e2, hg⟩
    · exact h2 (e2 ▸ e)
    · rw [e2] at e; injection e with e; omega
  refine ⟨vs ++ [.slice Ax x.length cx], by rw [List.length_append]; exact hown, fun k e => .inr (.inr e), fun i hi => ?_⟩
  by_cases hlt : i < ls.length
  · obtain ⟨Ai, ci, g1, g2, g3⟩ := h3 i hlt
    rw [List.getElem_append_left hlt, List.getElem?_append_left (by omega)]
    exact ⟨Ai, ci, g1, g2, (g3.keep fun k e => (hk k (hq k e.1) e.2).1).mono fun k e => ⟨.inl e.1, (hk k (hq k e.1) e.2).2⟩⟩
  · have he : i = ls.length := by simp at hi; omega
    subst he
    rw [List.getElem_append_right (Nat.le_refl _), List.getElem?_append_right (by omega)]
    refine ⟨Ax, cx, ?_, ?_, ?_⟩
    · simp [hvs]
    · simpa using hc
    · simp only [Nat.sub_self, List.getElem_cons_zero]
      exact (hx.keep fun k e => (hk k (hq2 k e).1 (hq2 k e).2).1).mono fun k e => ⟨.inr (.inl e), (hk k (hq2 k e).1 (hq2 k e).2).2⟩
end
theorem ownB_seesM {w : World} {base n c : Nat} {A : Option Addr} {l : List UInt8} (h : OwnB w base (.slice A n c) l) : SeesM (fun k => base ≤ k ∧ k < w.heap.size) w A (bv l) := by
  rcases (SeesN.of_own h rfl none (by simp)).out with e | ⟨ad, e, h1, h2, -, h3⟩
  · exact ⟨.inl e⟩
  · exact ⟨.inr ⟨ad, e, ⟨h1, h2⟩, h3⟩⟩

theorem ownB_seesU {w : World} {base n c : Nat} {A : Option Addr} {l : List UInt8} (h : OwnB w base (.slice A n c) l) : SeesU (fun k => base ≤ k ∧ k < w.heap.size) w A (bv l) := by
  rcases h.2 with ⟨h0, h1⟩ | ⟨g, cap, cur, hv, hb, hh, -⟩
  · refine ⟨.inl ?_⟩
    rw [List.eq_nil_of_length_eq_zero h1]; rfl
  · injection hv with hv hn hc
    subst hv hn hc
    unfold OwnB at h
    exact ⟨.inr ⟨_, rfl, ⟨hb, (Array.getElem?_eq_some_iff.1 hh).1⟩, fun j u hu => ⟨World.ownsRow.cells h (g := g) rfl j u hu, by rw [Addr.add_lit]; exact World.ownsRow.frozenAt h (0 + j)⟩⟩⟩

/-- 'out = append(out, x)', out a boxed variable: what stands behind it. W: where the statement began; wp: where the append began. -/
theorem coll_done {q : Nat → Prop} {W wp wn : World} {base bx : Nat} {t : TypeId} {v v' : Value} {ls : List (List UInt8)} {vs : List Value} {y : List UInt8} {Ac : Option Addr} {cc : Nat}
    (hbox : Box1 W bx t v) (hq : ∀ k, q k → base ≤ k ∧ k < W.heap.size) (hbb : bx < base) (hbW : base ≤ W.heap.size)
    (h1 : W.ownsRow base 29 1 v ls.length vs) (h2 : ∀ k, v.ownBlock = some k → q k) (h3 : ∀ i (hi : i < ls.length), ∃ Ai ci, vs[i]? = some (.slice Ai (ls[i]).length ci) ∧ (ls[i]).length ≤ ci ∧ SeesU (fun k => q k ∧ v.ownBlock ≠ some k) W Ai (bv ls[i]))
    (hr : Below W.heap.size W wp) (hy : SeesU (fun k => W.heap.size ≤ k ∧ k < wp.heap.size) wp Ac (bv y)) (hc : y.length ≤ cc)
    (hown : wn.ownsRow base 29 1 v' (ls.length + 1) (vs ++ [.slice Ac y.length cc])) (hon : Onto wp wn v v') :
    ∃ q', (∀ k, q' k → (q k ∨ W.heap.size ≤ k) ∧ k < (wn.setCell ⟨bx, 0, none⟩ v').heap.size) ∧ OwnQ q' (wn.setCell ⟨bx, 0, none⟩ v') base v' (ls ++ [y]) ∧ Box1 (wn.setCell ⟨bx, 0, none⟩ v') bx t v' ∧ Turn (fun k => k = bx ∨ v.ownBlock = some k) W (wn.setCell ⟨bx, 0, none⟩ v') := by
  have hs1 := hr.size
  have hs2 := hon.size
  have hvs : vs.length = ls.length := by have := h1.1; omega
  have hbxv : v.ownBlock ≠ some bx := fun e => by have := (hq _ (h2 _ e)).1; omega
  have hbx' : v'.ownBlock ≠ some bx := fun e => by
    rcases hon.at_ with e2 | ⟨g, e2, hg⟩
    · exact hbxv (e2 ▸ e)
    · rw [e2] at e; injection e with e; omega
  have hQ : OwnQ (fun k => q k ∨ (W.heap.size ≤ k ∧ k < wp.heap.size) ∨ v'.ownBlock = some k) wn base v' (ls ++ [y]) :=
    OwnQ.put (w := wp) y Ac cc (fun k e => by have := (hq k e).2; omega) h2 (fun i hi => by
      obtain ⟨Ai, ci, g1, g2, g3⟩ := h3 i hi
      exact ⟨Ai, ci, g1, g2, g3.keep (Kept.of_below hr fun k e => (hq k e.1).2)⟩) hvs hc hy (fun k e => ⟨e.2, fun e2 => by have := (hq _ (h2 _ e2)).2; omega⟩) hown hon
  have hkS : Kept (fun k => q k ∨ (W.heap.size ≤ k ∧ k < wp.heap.size) ∨ v'.ownBlock = some k) wn (wn.setCell ⟨bx, 0, none⟩ v') := fun k e => Below.heap_setCell _ _ _ _ (fun e2 => by
    subst e2
    rcases e with e | e | e
    · have := (hq _ e).1; omega
    · have := e.1; omega
    · exact hbx' e)
  refine ⟨_, fun k e => ⟨?_, ?_⟩, hQ.keep hkS, ?_, ?_⟩
  · rcases e with e | e | e
    · exact .inl e
    · exact .inr e.1
    · rcases hon.at_ with e2 | ⟨g, e2, hg⟩
      · exact .inl (h2 _ (e2 ▸ e))
      · rw [e2] at e; injection e with e; exact .inr (by omega)
  · rw [World.size_setCell]
    rcases e with e | e | e
    · have := (hq k e).2; omega
    · omega
    · exact (World.ownsRow.lt hown k e).2
  · have b1 : Box1 wn bx t v := (hbox.below hr hbox.lt).turn (Turn.onto (T := fun k => v.ownBlock = some k) hon fun k e => e) hbxv
    exact b1.set v'
  · exact ((Turn.of_new hr).trans (Turn.onto hon fun k e => .inr e)).trans (Turn.setCell _ _ _ (.inl rfl))
end Go.Proofs.YtpjiioeodcinpaaGreatDoor

/-
  Which bytes are ahead of which: bytes.Compare.
-/
namespace Go.Proofs.YtpjiioeodcinpaaGreatDoor
open Go.RowKit

/-- Are the bytes l ahead of the bytes r? -/
def ahead (l r : List UInt8) : Bool := Op.bytesLess l r
theorem ahead_eq (l r : List UInt8) : ahead l r = decide (l < r) := Go.Proofs.bytesLess_eq l r
theorem cmp_lt : ∀ (l r : List UInt8), Lib.compareBytes l r < 0 ↔ l < r
  | [], [] => by simp [Lib.compareBytes]
  | [], _ :: _ => by simp [Lib.compareBytes]
  | _ :: _, [] => by simp [Lib.compareBytes]
  | a :: s, b :: t => by
    have ih := cmp_lt s t
    unfold Lib.compareBytes
    rw [List.cons_lt_cons_iff]
    by_cases h : a < b
    · simp [h]
    · by_cases h2 : b < a
      · have : ¬ a = b := by rintro rfl; exact h h2
        simp [h, h2, this]
      · have : a = b := UInt8.le_antisymm (UInt8.not_lt.1 h2) (UInt8.not_lt.1 h)
        simp [this, ih]
theorem cmp_neg (l r : List UInt8) : decide (Lib.compareBytes l r < 0) = ahead l r := by rw [ahead_eq, decide_eq_decide]; exact cmp_lt l r
theorem cmp_pos (l r : List UInt8) : decide (0 ≤ Lib.compareBytes l r) = !ahead l r := by
  rw [← cmp_neg, ← decide_not, decide_eq_decide]; omega

theorem cmp_self : ∀ l : List UInt8, Lib.compareBytes l l = 0
  | [] => rfl
  | a :: s => by unfold Lib.compareBytes; simp [UInt8.lt_irrefl, cmp_self s]
theorem cmp_zero : ∀ (l r : List UInt8), Lib.compareBytes l r = 0 → l = r
  | [], [], _ => rfl
  | [], _ :: _, h => by simp [Lib.compareBytes] at h
  | _ :: _, [], h => by simp [Lib.compareBytes] at h
  | a :: s, b :: t, h => by
    unfold Lib.compareBytes at h
    by_cases h1 : a < b
    · simp [h1] at h
    · by_cases h2 : b < a
      · simp [h1, h2] at h
      · have : a = b := UInt8.le_antisymm (UInt8.not_lt.1 h2) (UInt8.not_lt.1 h1)
        subst this
        simp only [h1, if_false] at h
        rw [cmp_zero s t h]
theorem ahead_irrefl (l : List UInt8) : ahead l l = false := by rw [ahead_eq, decide_eq_false_iff_not]; exact List.lt_irrefl l
theorem ahead_trans {a b c : List UInt8} (h : ahead a b = true) (k : ahead b c = true) : ahead a c = true := by
  rw [ahead_eq, decide_eq_true_eq] at *
  exact List.lt_trans h k
theorem ahead_le {a b c : List UInt8} (h : ahead a b = false) (k : ahead a c = true) : ahead b c = true := by
  rw [ahead_eq] at *
  rw [decide_eq_false_iff_not] at h
  rw [decide_eq_true_eq] at *
  exact Std.lt_of_le_of_lt (List.not_lt.1 h) k
theorem ahead_tri {a b : List UInt8} (h : ahead a b = false) (k : ahead b a = false) : a = b := by
  rw [ahead_eq, decide_eq_false_iff_not] at *
  exact List.le_antisymm (List.not_lt.1 k) (List.not_lt.1 h)

theorem run_bytesOf (w : World) (B : Nat) (A : Option Addr) (n c : Nat) (l : List UInt8) (hs : Sees w B A (bv l)) (hn : l.length = n) :
    (Extern.Bytes.bytesOf (.slice A n c)).run Tryz.prog w = .ok (strOf l) w := by
  subst hn
  cases A with
  | none =>
    rcases hs.out with h | ⟨ad, h, _⟩
    · have : l = [] := by simpa [bv] using h
      subst this
      rfl
    · cases h
  | some a =>
    have hc : ∀ j u, (bv l)[j]? = some u → w.cell? (a.add j) = some u := by
      intro j u hu
      rcases hs.out with h | ⟨ad, h, _, hc⟩
      · rw [h] at hu; simp at hu
      · injection h with h
        subst h
        exact hc j u hu
    have hl := Lib.run_loadBytesX (P := Tryz.prog) w (l.map fun b => (b.toNat : Int)) a .empty (fun j x hj => hc j _ (by
      rw [List.getElem?_map] at hj
      simp only [bv, List.getElem?_map]
      cases hlj : l[j]? with
      | none => rw [hlj] at hj; cases hj
      | some y => rw [hlj] at hj; simp only [Option.map_some, Option.some.injEq] at hj ⊢; rw [hj]))
    rw [List.length_map] at hl
    show (Extern.Bytes.loadBytes a l.length .empty).run Tryz.prog w = _
    rw [hl]
    congr 1
    apply ByteArray.ext
    have hm : Lib.bytesOf (l.map fun b => (b.toNat : Int)) = l := by
      simp [Lib.bytesOf, List.map_map, Function.comp_def]
    rw [hm]
    simp [strOf, ByteArray.empty, ByteArray.emptyWithCapacity]
    rfl

theorem run_compareSlices (w : World) (B1 B2 : Nat) (A B : Option Addr) (n c m d : Nat) (l r : List UInt8) (hs : Sees w B1 A (bv l)) (hs2 : Sees w B2 B (bv r)) (hn : l.length = n) (hm : r.length = m) :
    (Extern.BytealgCompare.compare #[.slice A n c, .slice B m d]).run Tryz.prog w = .ok (.int .i64 (Lib.compareBytes l r)) w := by
  change Sem.run Tryz.prog (do pure (goInt (Extern.BytealgCompare.cmp (← Extern.Bytes.bytesOf (.slice A n c)) (← Extern.Bytes.bytesOf (.slice B m d))))) w = _
  simp only [Sem.run_bind, Sem.run_pure, run_bytesOf w B1 A n c l hs hn, run_bytesOf w B2 B m d r hs2 hm, Result.andThen]
  rw [Lib.cmp_eq]
  rfl

set_option maxRecDepth 100000 in
set_option maxHeartbeats 400000 in
theorem Compare_any (A B : Option Addr) (n m c d : Nat) (l r : List UInt8) (hn : l.length = n) (hm : r.length = m) (w : World) (hS : Sees w w.heap.size A (bv l)) (hS2 : Sees w w.heap.size B (bv r)) :
    Calls Tryz.prog 55 #[.slice A n c, .slice B m d] w fun e w' => e = .returned (.int .i64 (Lib.compareBytes l r)) ∧ w = w' := by
  go_enter Tryz.func55, Tryz.ntmps55
  go_wp2
  rw [run_callFunc_extern Tryz.func66 (by kernel_rfl) (by kernel_rfl) (by kernel_rfl) (e := Extern.BytealgCompare.compare) (by kernel_rfl), run_compareSlices w _ _ A B n c m d l r hS hS2 hn hm]
  simp only [Result.andThen]
  rw [Oper.upon_value]
  go_wp2
  go_ret
  exact ⟨rfl, rfl⟩
end Go.Proofs.YtpjiioeodcinpaaGreatDoor

/-
  Do items rise? Plain, and the words for what is answered.
-/
namespace Go.Proofs.YtpjiioeodcinpaaGreatDoor
open Go.RowKit

/-- Do items rise? -/
def risesB : List (List UInt8) → Bool
  | a :: b :: t => ahead a b && risesB (b :: t)
  | _ => true
theorem rises_end {ls : List (List UInt8)} {k : Nat} (h : ls.length ≤ k + 1) : risesB (ls.drop k) = true := by
  by_cases hk : k < ls.length
  · rw [List.drop_eq_getElem_cons hk, List.drop_eq_nil_of_le (by omega)]; rfl
  · rw [List.drop_eq_nil_of_le (by omega)]; rfl
theorem rises_at {ls : List (List UInt8)} {k : Nat} (h : k + 1 < ls.length) : risesB (ls.drop k) = (ahead ls[k] ls[k + 1] && risesB (ls.drop (k + 1))) := by
  rw [List.drop_eq_getElem_cons (i := k) (by omega), List.drop_eq_getElem_cons (i := k + 1) h]
  rfl
def BoolIs (w : World) (b : Bool) (e : Ending) (w' : World) : Prop := e = .returned (.bool b) ∧ ∃ q, w' = w.drewN q

def cmpFn : Value := .func (.func 55) #[] #[]
end Go.Proofs.YtpjiioeodcinpaaGreatDoor

/-
  bytes.Clone.
-/
namespace Go.Proofs.YtpjiioeodcinpaaGreatDoor
open Go.RowKit

set_option maxRecDepth 100000 in
set_option maxHeartbeats 400000 in
theorem bytesClone_any (A : Option Addr) (n c : Nat) (l : List UInt8) (hn : l.length = n) (w : World) (h : Sees w w.heap.size A (bv l)) (hlen : l.length ≤ 1099511627776) :
    Calls Tryz.prog 51 #[.slice A n c] w (RetB w w.heap.size (.slice none 0 0) l) := by
  subst hn
  have he := fun (W : World) (a : Option Addr) (n c : Nat) => Lib.run_eql_slice_nil (P := Tryz.prog) W 29 5 a n c 0 0 Tryz.underlying29
  cases A with
  | none =>
    have hn : l = [] := by
      rcases h.out with h | ⟨ad, h, _⟩
      · simpa [bv] using h
      · cases h
    subst hn
    go_enter Tryz.func51, Tryz.ntmps51
    go_wp2
    go_ret
    exact ⟨_, rfl, OwnB.nil _ _, Onto.refl _ _⟩
  | some ad =>
    go_enter Tryz.func51, Tryz.ntmps51
    go_wp2_with (at_builtin; refine wpList_append_b rfl (.tmp 5) (.tmp 6) rfl w.heap.size (.slice (some ⟨w.heap.size, 0, none⟩) 0 0) [] (by rfl) (OwnB.new _ _ (Nat.le_refl _) [] 0 rfl _ rfl (by simp [maxLen])) w.heap.size (some ad) l.length c l (by rfl) rfl (h.alloc (Nat.le_refl _) _) (by simp; omega) (by simp) ?_; intro v1 w1 hown1 hon1)
    go_ret
    exact ⟨v1, rfl, hown1, (Onto.new _ _ _ _ _).trans hon1⟩
end Go.Proofs.YtpjiioeodcinpaaGreatDoor

/-
  Plain facts on the numbers' bytes: no program in sight.
-/
namespace Go.Proofs.YtpjiioeodcinpaaGreatDoor

/-- A number's bytes: seven bits a byte, the lowest first; the highest bit says that more follow. -/
def venc (u : Nat) : List UInt8 := if u < 128 then [UInt8.ofNat u] else UInt8.ofNat (u % 128 + 128) :: venc (u / 128)
termination_by u
decreasing_by omega

theorem venc_small {u : Nat} (h : u < 128) : venc u = [UInt8.ofNat u] := by rw [venc, if_pos h]
theorem venc_big {u : Nat} (h : 128 ≤ u) : venc u = UInt8.ofNat (u % 128 + 128) :: venc (u / 128) := by rw [venc, if_neg (by omega)]
theorem venc_len_aux : ∀ (n u : Nat), u < 128 ^ (n + 1) → (venc u).length ≤ n + 1 := by
  intro n
  induction n with
  | zero => intro u h; rw [venc_small (by omega)]; simp
  | succ n ih =>
    intro u h
    by_cases hu : u < 128
    · rw [venc_small hu]; simp
    · rw [venc_big (by omega)]
      have h2 : u / 128 < 128 ^ (n + 1) := by rw [Nat.div_lt_iff_lt_mul (by omega), ← Nat.pow_succ]; exact h
      have := ih _ h2
      simp only [List.length_cons]
      omega
/-- A number of 64 bits. -/
def Is64 (n : Nat) : Prop := n < 18446744073709551616
theorem Is64.div {n : Nat} (h : Is64 n) (k : Nat) : Is64 (n / k) := Nat.lt_of_le_of_lt (Nat.div_le_self _ _) h
theorem venc_len {u : Nat} (h : Is64 u) : (venc u).length ≤ 10 := venc_len_aux 9 u (by unfold Is64 at h; omega)
theorem venc_pos (u : Nat) : 0 < (venc u).length := by
  by_cases hu : u < 128
  · rw [venc_small hu]; simp
  · rw [venc_big (by omega)]; simp

theorem toNat_ofNat8 (n : Nat) : ((UInt8.ofNat n).toNat : Int) = (n : Int) % 256 := by simp

theorem u8_nat (n : Nat) (h : n < 256) : (UInt8.ofNat n).toNat = n := by simp; omega

/-- What bytes tell as a number: the number, how many bytes it has, the error. -/
def vtk : Nat → List UInt8 → Nat → Nat → Nat × Nat × Nat
  | 0, _, _, _ => (0, 0, 11)
  | _ + 1, [], _, _ => (0, 0, 10)
  | f + 1, c :: r, n, x =>
    if c.toNat < 128 then
      if (n = 9 ∧ 1 < c.toNat) ∨ (0 < n ∧ c.toNat = 0) then (0, 0, 11) else (x + c.toNat * 2 ^ (7 * n) % 18446744073709551616, n + 1, 0)
    else vtk f r (n + 1) (x + c.toNat % 128 * 2 ^ (7 * n) % 18446744073709551616)
def vtake (b : List UInt8) : Nat × Nat × Nat := vtk 10 b 0 0

theorem vtk_end (l : List UInt8) (k X : Nat) (hk : k < 10) (h : k = l.length) : vtk (10 - k) (l.drop k) k X = (0, 0, 10) := by
  rw [show 10 - k = (9 - k) + 1 from by omega, List.drop_eq_nil_of_le (by omega)]
  rfl
theorem vtk_at (l : List UInt8) (k X : Nat) (hk : k < 10) (h : k < l.length) : vtk (10 - k) (l.drop k) k X =
    if l[k].toNat < 128 then
      if (k = 9 ∧ 1 < l[k].toNat) ∨ (0 < k ∧ l[k].toNat = 0) then (0, 0, 11) else (X + l[k].toNat * 2 ^ (7 * k) % 18446744073709551616, k + 1, 0)
    else vtk (10 - (k + 1)) (l.drop (k + 1)) (k + 1) (X + l[k].toNat % 128 * 2 ^ (7 * k) % 18446744073709551616) := by
  rw [show 10 - k = (10 - (k + 1)) + 1 from by omega, List.drop_eq_getElem_cons h]
  rfl

end Go.Proofs.YtpjiioeodcinpaaGreatDoor

/-
  slices.Grow of nil, slices.Concat, of bytes.
-/
namespace Go.Proofs.YtpjiioeodcinpaaGreatDoor
open Go.RowKit

set_option maxRecDepth 100000 in
set_option maxHeartbeats 400000 in
theorem Grow_any (n : Nat) (w : World) (hn : n ≤ 1000000000) :
    Calls Tryz.prog 63 #[.slice none 0 0, .int .i64 n] w (RetB w w.heap.size (.slice none 0 0) []) := by
  obtain ⟨i, hi, hz0, hz1, hz2⟩ := info_parts Tryz.binfo
  by_cases h0 : 0 < n
  · have hr := Lib.run_append_nil_zeros (P := Tryz.prog) w 29 3 29 5 i (.int .u8 0) .i64 .i64 Tryz.underlying29 Tryz.underlying3 hi hz0 n h0 (by omega) (by omega) (by rw [hz2]; omega)
    have hge := grownCap_ge w n 0 5
    have hmx := grownCap_le_maxLen w n 0 5 (by simp only [maxLen]; omega)
    generalize grownCap w n 0 5 = cap at hr hge hmx
    have HR := Lib.hid hr
    have hmade := Lib.hid (World.ownsRow_made (base := w.heap.size) (e := 5) (size := 1) w.drew (Builtin.zeroCells (Value.int .u8 0).cells n ++ Builtin.zeroCells (Value.int .u8 0).cells (cap - n)) cap (Nat.le_refl _) hmx (by simp [Builtin.zeroCells, Value.cells]; omega))
    clear hr hi hz0 hz1 hz2
    go_enter Tryz.func63, Tryz.ntmps63
    go_wp2_with (at_builtin; refine Lib.wpList_append_run _ rfl (.tmp 20) (.tmp 21) _ _ rfl _ _ rfl rfl _ _ HR.out ?_)
    go_ret
    exact ⟨_, rfl, hmade.out, ⟨⟨rfl, rfl, rfl, by simp, fun k hk _ => by show (w.heap.push _)[k]? = w.heap[k]?; rw [Array.getElem?_push, if_neg (Nat.ne_of_lt hk)]⟩, .inr ⟨_, rfl, Nat.le_refl _⟩⟩⟩
  · obtain rfl : n = 0 := by omega
    clear h0 hi hz0 hz1 hz2
    go_enter Tryz.func63, Tryz.ntmps63
    go_wp2
    go_ret
    exact ⟨_, rfl, OwnB.nil _ _, Onto.refl _ _⟩

theorem flat_at {ls : List (List UInt8)} {k : Nat} (h : k < ls.length) : (ls.drop k).flatten = ls[k] ++ (ls.drop (k + 1)).flatten := by
  rw [List.drop_eq_getElem_cons h]
  rfl

set_option maxRecDepth 100000 in
set_option maxHeartbeats 400000 in
theorem Concat_any (A : Option Addr) (n c : Nat) (ls : List (List UInt8)) (hn : ls.length = n) (w : World) (hS : Sees2 w w.heap.size A ls) (h100 : n ≤ 100) (hall : ∀ i (hi : i < ls.length), (ls[i]).length ≤ 1000000) :
    Calls Tryz.prog 47 #[.slice A n c] w (RetB w w.heap.size (.slice none 0 0) ls.flatten) := by
  have HN := Lib.hid hn
  have HA := Lib.hid hall
  obtain ⟨F, hF⟩ : ∃ F, ls.flatten = F := ⟨_, rfl⟩
  rw [hF]
  have HF := Lib.hid hF
  clear hn hall hF
  go_enter Tryz.func47, Tryz.ntmps47
  go_wp2
  go_loopg [3, 11] n (fun g s i wr => ∃ k t : Nat, k + g = n ∧ i = .int .i64 k ∧ s = .int .i64 t ∧ t ≤ 1000000 * k ∧ wr = w)
  case atStart => exact ⟨0, 0, by omega, rfl, rfl, by omega, rfl⟩
  case round =>
    obtain ⟨k, t, hk, rfl, rfl, ht, rfl⟩ := hrel
    by_cases hlt : k < n
    · obtain ⟨ad, Ai, ci, rfl, hadB, hcell, hci, hsee⟩ := hS.out k (by have := HN.out; omega)
      have hLl := HA.out k (by have := HN.out; omega)
      obtain ⟨L, hL⟩ : ∃ L, ls[k]'(by have := HN.out; omega) = L := ⟨_, rfl⟩
      rw [hL] at hcell hci hsee hLl
      clear hL
      go_wp2
      go_roundg (n - (k + 1))
      case measure => omega
      case rel => exact ⟨k + 1, t + L.length, by omega, by go_num, by go_num, by omega, rfl⟩
    · go_wp2_with fail
      refine (Grow_any t wr (by omega)).mono ?_
      rintro e w1 ⟨v1, rfl, hown1, hon1⟩
      go_wp2_with fail
      go_loopg [6, 27] n (fun g b i wx => ∃ (k : Nat) (X : List UInt8), k + g = n ∧ i = .int .i64 k ∧ OwnB wx wr.heap.size b X ∧ X.length ≤ 1000000 * k ∧ Aside (X ++ (ls.drop k).flatten = F) ∧ Onto wr wx (.slice none 0 0) b)
      case atStart => exact ⟨0, [], by omega, rfl, hown1, by simp, HF.out, hon1⟩
      case round =>
        obtain ⟨k, X, hk, rfl, hX, hXl, hcat, hon⟩ := hrel
        have hbr := hon.below_nil
        have hsr := hbr.size
        by_cases hlt : k < n
        · obtain ⟨ad, Ai, ci, rfl, hadB, hcell, hci, hsee⟩ := (hS.below hbr).out k (by have := HN.out; omega)
          have hLl := HA.out k (by have := HN.out; omega)
          have hfl := Lib.hid (flat_at (ls := ls) (k := k) (by have := HN.out; omega))
          obtain ⟨L, hL⟩ : ∃ L, ls[k]'(by have := HN.out; omega) = L := ⟨_, rfl⟩
          rw [hL] at hcell hci hsee hLl hfl
          clear hL
          obtain ⟨A0, c0, rfl, hXc, hXm, hX', hXs⟩ := hX.open_
          go_wp2_with (at_builtin; refine wpList_append_b rfl (.tmp 31) (.tmp 32) rfl _ (.slice A0 X.length c0) X (by rfl) hX _ Ai L.length ci L (by rfl) rfl hsee (by omega) hsr ?_; intro v2 w2 hown2 hon2)
          go_roundg (n - (k + 1))
          case measure => omega
          case rel => exact ⟨k + 1, X ++ L, by omega, by go_num, hown2, by rw [List.length_append]; omega, (by have h1 := hcat.out; have h2 := hfl.out; show _ = _; rw [← h1, h2, List.append_assoc]), hon.trans hon2⟩
        · have HE : Hid (X = F) := by have := hcat.out; rw [List.drop_eq_nil_of_le (by have := HN.out; omega)] at this; unfold Hid; simpa using this
          clear hcat
          go_wp2_with fail
          go_ret
          rw [← HE.out]
          exact ⟨_, rfl, hX, hon⟩
end Go.Proofs.YtpjiioeodcinpaaGreatDoor
