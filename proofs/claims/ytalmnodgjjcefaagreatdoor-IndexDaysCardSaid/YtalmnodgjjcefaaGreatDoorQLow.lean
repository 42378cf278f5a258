/- Several texts in one: Core Base Plain Bits Vi Varint Vi2. -/
import Derived.Test.YtalmnodgjjcefaaGreatDoorRows
import Derived.WalkKit
import Derived.WalkSpells
import Derived.WalkLawsBesides
import Derived.Maps.AppendAt
import Derived.Deep.AppendLies
import Derived.Deep.Draws
import Derived.Lib.Hide
import Derived.Lib.LazyBuf
import Derived.BigQuiet
import Derived.Deep.QuietTactic
import Derived.Deep.LoopGhost
import Derived.Deep.DeepCutAuto
import Derived.Deep.DeepFit
import Derived.Deep.RegionHeld3
import Derived.Deep.Light
import Derived.Laws.BitsAllLaws
namespace Go.Proofs.YtalmnodgjjcefaaGreatDoor
open Go.RowKit
structure Sees (w : World) (B : Nat) (A : Option Addr) (xs : List Value) : Prop where
 out : xs = [] ∨ ∃ ad, A = some ad ∧ ad.block < B ∧ ∀ j u, xs[j]? = some u → w.cell? (ad.add j) = some u
theorem add_block (a : Addr) (n : Nat) : (a.add n).block = a.block := by unfold Addr.add; split <;> rfl
theorem add_add' (a : Addr) (i j : Nat) : (a.add i).add j = a.add (i + j) := by
 unfold Addr.add
 by_cases hi : i = 0 <;> by_cases hj : j = 0 <;> simp [hi, hj, Nat.add_assoc]
section
variable {w w' : World} {B B' : Nat} {A : Option Addr} {xs ys : List Value}
theorem Sees.nil (w : World) (B : Nat) (A : Option Addr) : Sees w B A [] := ⟨.inl rfl⟩
theorem Sees.at_ {k : Nat} (h : Sees w B A xs) (hk : k < xs.length) : ∃ ad, A = some ad ∧ ad.block < B ∧ w.cell? (ad.add k) = some xs[k] := by
 rcases h.out with h | ⟨ad, e, hb, hc⟩
 ·subst h; simp at hk
 ·exact ⟨ad, e, hb, hc k _ (List.getElem?_eq_getElem hk)⟩
theorem Sees.keep (h : Sees w B A xs) (hk : ∀ p : Addr, p.block < B → w'.cell? p = w.cell? p) : Sees w' B A xs := by
 rcases h.out with h | ⟨ad, e, hb, hc⟩
 ·exact ⟨.inl h⟩
 ·exact ⟨.inr ⟨ad, e, hb, fun j u hu => (hk _ (by rw [add_block]; exact hb)).trans (hc j u hu)⟩⟩
theorem Sees.more (h : Sees w B A xs) (hB : B ≤ B') : Sees w B' A xs := by
 rcases h.out with h | ⟨ad, e, hb, hc⟩
 ·exact ⟨.inl h⟩
 ·exact ⟨.inr ⟨ad, e, by omega, hc⟩⟩
theorem Sees.below (h : Sees w B A xs) (hb : Below B w w') : Sees w' B A xs := h.keep fun _ hp => hb.cell hp
theorem Sees.drew (h : Sees w B A xs) : Sees w.drew B A xs := ⟨h.out⟩
theorem Sees.drewN (h : Sees w B A xs) (k : Nat) : Sees (w.drewN k) B A xs := ⟨h.out⟩
theorem Sees.alloc (h : Sees w B A xs) (hB : B ≤ w.heap.size) (o : Obj) : Sees (w.alloc o) B A xs := h.keep fun p hp => World.cell?_alloc_lt w o p (by omega)
theorem Sees.grown (h : Sees w B A xs) {row : Option Nat} (hg : w.grownBy w' row) (hB : B ≤ w.heap.size) (hr : ∀ g, row = some g → B ≤ g) : Sees w' B A xs :=
 h.keep fun p hp => World.cell?_of_block (hg.block p.block (by omega) (fun e => by have := hr _ e.symm; omega))
theorem Sees.setCell (h : Sees w B A xs) {p : Addr} (hB : B ≤ p.block) (u : Value) : Sees (w.setCell p u) B A xs :=
 h.keep fun q hq => World.cell?_setCell_other w p q u (fun e => by subst e; omega)
theorem Sees.cut (h : Sees w B A xs) {k cap : Nat} (hc : xs.length ≤ cap) : Sees w B (if cap = k then A else A.map (·.add (k * 1))) (xs.drop k) := by
 by_cases hk : k < xs.length
 ·rcases h.out with h | ⟨ad, rfl, hb, hcell⟩
  ·subst h; simp at hk
  ·rw [if_neg (by omega), Nat.mul_one]
   refine ⟨.inr ⟨ad.add k, rfl, by rw [add_block]; exact hb, fun j u hu => ?_⟩⟩
   rw [add_add']
   exact hcell _ u (by rw [← hu, List.getElem?_drop])
 ·exact ⟨.inl (List.drop_eq_nil_of_le (by omega))⟩
theorem Sees.cut' (h : Sees w B A xs) (k : Nat) : Sees w B (A.map (fun x => x.add k)) (xs.drop k) := by
 by_cases hk : k < xs.length
 ·have := h.cut (k := k) (cap := xs.length) (Nat.le_refl _)
  rw [if_neg (by omega), Nat.mul_one] at this
  exact this
 ·exact ⟨.inl (List.drop_eq_nil_of_le (by omega))⟩
theorem Sees.cut0 (w : World) (B : Nat) (A : Option Addr) {k : Nat} (hk : xs.length ≤ k) : Sees w B A (xs.drop k) := ⟨.inl (List.drop_eq_nil_of_le hk)⟩
theorem Sees.take (h : Sees w B A xs) (k : Nat) : Sees w B A (xs.take k) := by
 rcases h.out with h | ⟨ad, e, hb, hc⟩
 ·subst h; exact ⟨.inl (by simp)⟩
 ·refine ⟨.inr ⟨ad, e, hb, fun j u hu => hc j u ?_⟩⟩
  rw [List.getElem?_take] at hu
  split at hu
  ·exact hu
  ·cases hu
theorem Sees.of_own {base : Nat} {e : TypeId} {size n c : Nat} (h : w.ownsRow base e size (.slice A n c) n xs) : Sees w w.heap.size A xs := by
 rcases h.2 with ⟨h0, h1⟩ | ⟨g, cap, cur, hv, hb, hh, _⟩
 ·refine ⟨.inl ?_⟩
  have := h.1
  rw [h1, Nat.zero_mul] at this
  exact List.eq_nil_of_length_eq_zero this
 ·injection hv with hv
  exact ⟨.inr ⟨_, hv, (Array.getElem?_eq_some_iff.1 hh).1, h.cells (g := g) (by simp [Value.ownBlock, hv])⟩⟩
end
structure Onto (w w' : World) (v v' : Value) : Prop where
 grown : w.grownBy w' v.ownBlock
 at_ : v'.ownBlock = v.ownBlock ∨ ∃ g, v'.ownBlock = some g ∧ w.heap.size ≤ g
section
variable {w w' w'' : World} {v v' v'' : Value}
theorem Onto.refl (w : World) (v : Value) : Onto w w v v := ⟨⟨rfl, rfl, rfl, Nat.le_refl _, fun _ _ _ => rfl⟩, .inl rfl⟩
theorem Onto.trans (h : Onto w w' v v') (k : Onto w' w'' v' v'') : Onto w w'' v v'' := by
 have hs := h.grown.size
 refine ⟨⟨k.grown.os.trans h.grown.os, k.grown.tape.trans h.grown.tape, k.grown.output.trans h.grown.output, Nat.le_trans hs k.grown.size, fun i hi hne => ?_⟩, ?_⟩
 ·refine (k.grown.block i (by omega) (fun e => ?_)).trans (h.grown.block i hi hne)
  rcases h.at_ with h1 | ⟨g, h1, h2⟩
  ·exact hne (e.trans h1)
  ·rw [h1] at e; injection e; omega
 ·rcases k.at_ with h1 | ⟨g, h1, h2⟩
  ·rcases h.at_ with h3 | ⟨g, h3, h4⟩
   ·exact .inl (h1.trans h3)
   ·exact .inr ⟨g, h1.trans h3, h4⟩
  ·exact .inr ⟨g, h1, by omega⟩
theorem Onto.below (h : Onto w w' v v') {B : Nat} (hB : B ≤ w.heap.size) (hv : ∀ k, v.ownBlock = some k → B ≤ k) : Below B w w' :=
 (Below.refl _ _).grown h.grown hB hv
theorem Onto.below_nil (h : Onto w w' (.slice none 0 0) v') : Below w.heap.size w w' := h.below (Nat.le_refl _) (by simp [Value.ownBlock])
theorem Onto.size (h : Onto w w' v v') : w.heap.size ≤ w'.heap.size := h.grown.size
theorem Onto.of_below (hb : Below w.heap.size w w') (v : Value) : Onto w w' v v :=
 ⟨⟨hb.os, hb.tape, hb.output, hb.size, fun k hk _ => hb.block k hk⟩, .inl rfl⟩
theorem Onto.new (w : World) (o : Obj) (v : Value) (n m : Nat) : Onto w (w.alloc o) v (.slice (some ⟨w.heap.size, 0, none⟩) n m) := ⟨World.grownBy_alloc w o _, .inr ⟨_, rfl, Nat.le_refl _⟩⟩
theorem Onto.of_alloc (w : World) (o : Obj) (v : Value) : Onto w (w.alloc o) v v := ⟨World.grownBy_alloc w o _, .inl rfl⟩
end
def IsTrue (w : World) (e : Ending) (w' : World) : Prop := e = .returned (.bool true) ∧ Below w.heap.size w w'
def Gives (w : World) (v : Value) (e : Ending) (w' : World) : Prop := e = .returned v ∧ Below w.heap.size w w'
theorem below_d {B : Nat} {a w : World} (h : Below B a w) (q : Nat) : Below B a (w.drewN q) := ⟨h.os, h.tape, h.output, h.size, h.block⟩
theorem below_undrew {B : Nat} {w w' : World} (h : Below B w.drew w') : Below B w w' := ⟨h.os, h.tape, h.output, h.size, h.block⟩
theorem below_drew {B : Nat} {a w : World} (h : Below B a w) : Below B a w.drew := ⟨h.os, h.tape, h.output, h.size, h.block⟩
theorem ret_bool {b b' : Bool} (h : b = b') : Ending.returned (.bool b) = .returned (.bool b') := by rw [h]
end Go.Proofs.YtalmnodgjjcefaaGreatDoor
namespace Go.Proofs.YtalmnodgjjcefaaGreatDoor
open Go.RowKit
def bv (l : List UInt8) : List Value := l.map fun b => .int .u8 (b.toNat : Int)
theorem bv_length (l : List UInt8) : (bv l).length = l.length := by simp [bv]
theorem bv_append (l m : List UInt8) : bv (l ++ m) = bv l ++ bv m := by simp [bv]
theorem bv_at (l : List UInt8) (j : Nat) (h : j < l.length) : (bv l)[j]? = some (.int .u8 ((l[j]).toNat : Int)) := by simp [bv, h]
theorem bv_drop (l : List UInt8) (k : Nat) : bv (l.drop k) = (bv l).drop k := by simp [bv, List.map_drop]
theorem bv_take (l : List UInt8) (k : Nat) : bv (l.take k) = (bv l).take k := by simp [bv, List.map_take]
theorem bv_one {l : List UInt8} : ∀ u ∈ bv l, u.oneCell' = true := by
 intro u hu
 simp only [bv, List.mem_map] at hu
 obtain ⟨b, _, rfl⟩ := hu
 rfl
def OwnB (w : World) (base : Nat) (v : Value) (l : List UInt8) : Prop := w.ownsRow base 5 1 v l.length (bv l)
section
variable {w w' : World} {base : Nat} {v : Value} {l : List UInt8}
theorem OwnB.nil (w : World) (base : Nat) : OwnB w base (.slice none 0 0) [] := World.ownsRow_nil w base _ 1
theorem OwnB.open_ (h : OwnB w base v l) : ∃ A c, v = .slice A l.length c ∧ l.length ≤ c ∧ c ≤ maxLen ∧ OwnB w base (.slice A l.length c) l ∧ Sees w w.heap.size A (bv l) := by
 have h' := h
 rcases h.2 with ⟨rfl, hn⟩ | ⟨g, cap, cur, rfl, hb, hh, hc, hm, _⟩
 ·exact ⟨none, 0, by rw [hn], by omega, by simp [maxLen], by rw [hn]; exact h', ⟨.inl (by rw [List.eq_nil_of_length_eq_zero hn]; rfl)⟩⟩
 ·exact ⟨_, cap, rfl, hc, hm, h', Sees.of_own h'⟩
theorem OwnB.below (h : OwnB w base v l) (hb : Below w.heap.size w w') : OwnB w' base v l :=
 World.ownsRow.kept (row := none) h ⟨hb.os, hb.tape, hb.output, hb.size, fun k hk _ => hb.block k hk⟩ (by cases v.ownBlock <;> simp)
theorem OwnB.base_le (h : OwnB w base v l) {b : Nat} (hb : b ≤ base) : OwnB w b v l := by
 refine ⟨h.1, ?_⟩
 rcases h.2 with h2 | ⟨g, cap, cur, hv, hg, r⟩
 ·exact .inl h2
 ·exact .inr ⟨g, cap, cur, hv, by omega, r⟩
end
theorem Tryz.binfo : (Tryz.prog.info? 5).map (fun i => (i.zero, i.size, i.bytes)) = some (some (.int .u8 0), 1, 1) := by kernel_rfl
theorem run_append_b (w : World) (ty : TypeId) (base : Nat) (v : Value) (l : List UInt8) (hown : OwnB w base v l) (B : Nat) (A : Option Addr) (m c : Nat) (news : List UInt8) (hm : news.length = m) (hs : Sees w B A (bv news))
  (hlen : l.length + news.length ≤ 140737488355328) (hbase : base ≤ w.heap.size) :
  ∃ v' w', (Builtin.append_ #[48, 48] ty #[v, .slice A m c]).run Tryz.prog w = .ok v' w' ∧ OwnB w' base v' (l ++ news) ∧ Onto w w' v v' := by
 obtain ⟨i, hi, hz0, hz1, hz2⟩ := info_parts Tryz.binfo
 subst hm
 rcases hs.out with h0 | ⟨ad, rfl, hb, hc⟩
 ·have hn : news = [] := by simpa [bv] using h0
  subst hn
  rw [List.append_nil]
  refine ⟨v, w, ?_, hown, Onto.refl _ _⟩
  rcases hown.2 with ⟨rfl, hx⟩ | ⟨g, cap, cur, rfl, _, _, hnc, _⟩
  ·cases A <;> simp [Builtin.append_, run_underlying Tryz.underlying48, sizeOf, typeInfo, hi, Builtin.lenOf, Builtin.firstCells, loadCells, loadCellsFrom]
  ·cases A <;> simp [Builtin.append_, run_underlying Tryz.underlying48, sizeOf, typeInfo, hi, Builtin.lenOf, Builtin.firstCells, hnc, storeCells, loadCells, loadCellsFrom]
 ·obtain ⟨v', w', hrun, h2, h3, _, h5⟩ := run_append_own_at (P := Tryz.prog) w base 48 ty 5 i _ 1 1 Tryz.underlying48 hi hz0 hz1 hz2 rfl (by omega) v l.length (bv l) hown ad news.length c (bv news)
   (by rw [bv_length, Nat.mul_one]) hc bv_one (by simp only [maxLen]; omega) (by omega) hbase
  refine ⟨v', w', hrun, ?_, h3, ?_⟩
  ·unfold OwnB
   rw [List.length_append, bv_append]
   exact h2
  ·rcases h5 with h5 | h5
   ·exact .inl h5
   ·exact .inr ⟨_, h5, Nat.le_refl _⟩
theorem wpList_append_b {w : World} {ops : Array Oper} {rest : List Oper} {o : Oper} {a : Act} {Q : Exit → Act → World → Prop} (hgd : o.guard = none) (s x : Operand)
  (ho : o.op = .call { callee := .builtin .append, args := #[s, x], argTypes := #[48, 48] })
  (base : Nat) (v : Value) (l : List UInt8) (hs : a.eval s = v) (hown : OwnB w base v l) (B : Nat) (A : Option Addr) (m c : Nat) (news : List UInt8) (hx : a.eval x = .slice A m c) (hm : news.length = m) (hsee : Sees w B A (bv news))
  (hlen : l.length + news.length ≤ 140737488355328) (hbase : base ≤ w.heap.size)
  (h : ∀ v' w', OwnB w' base v' (l ++ news) → Onto w w' v v' → wpList Tryz.prog ops Q rest (a.put o.dst v') w') : wpList Tryz.prog ops Q (o :: rest) a w := by
 refine wpList_plain hgd fun K hK => ?_
 obtain ⟨v', w', hr, h2, h3⟩ := run_append_b w o.type base v l hown B A m c news hm hsee hlen hbase
 unfold Oper.wp execOp
 simp only [ho, resolve, invoke, builtin, Sem.run_bind, Sem.run_pure, Result.andThen_ok, List.map_toArray, List.map_cons, List.map_nil, hs, hx, hr]
 exact hK _ _ (h v' w' h2 h3)
theorem sees_new (w : World) (l : List UInt8) (t : TypeId) (cs : Array Value) (h : cs = (bv l).toArray) : Sees (w.alloc (.cells cs t)) (w.heap.size + 1) (some ⟨w.heap.size, 0, none⟩) (bv l) := by
 subst h
 refine ⟨.inr ⟨_, rfl, by simp, fun j u hu => ?_⟩⟩
 rw [Addr.add_lit, World.cell?_alloc_at _ _ _ _ rfl]
 simpa using hu
theorem OwnB.alloc {w : World} {base : Nat} {v : Value} {l : List UInt8} (h : OwnB w base v l) (o : Obj) : OwnB (w.alloc o) base v l := World.ownsRow.alloc h o
theorem OwnB.new (w : World) (base : Nat) (hb : base ≤ w.heap.size) (l : List UInt8) (n : Nat) (hn : n = l.length) (cs : Array Value) (h : cs = (bv l).toArray) (hm : l.length ≤ maxLen) : OwnB (w.alloc (.cells cs 5)) base (.slice (some ⟨w.heap.size, 0, none⟩) n n) l := by
 subst hn
 have h2 := World.ownsRow_lit (e := 5) (size := 1) (base := base) w cs l.length hb hm (by simp [h, bv_length])
 unfold OwnB
 rw [h] at h2 ⊢
 exact h2
def RetB (w : World) (base : Nat) (v : Value) (l : List UInt8) (e : Ending) (w' : World) : Prop :=
 ∃ v', e = .returned v' ∧ OwnB w' base v' l ∧ Onto w w' v v'
theorem OwnB.block {w : World} {base : Nat} {v : Value} {l : List UInt8} (h : OwnB w base v l) : ∀ k, v.ownBlock = some k → base ≤ k := fun k hk => (World.ownsRow.lt h k hk).1
end Go.Proofs.YtalmnodgjjcefaaGreatDoor
namespace Go.Proofs.YtalmnodgjjcefaaGreatDoor
def venc (u : Nat) : List UInt8 := if u < 128 then [UInt8.ofNat u] else UInt8.ofNat (u % 128 + 128) :: venc (u / 128)
termination_by u
decreasing_by omega
def Is64 (n : Nat) : Prop := n < 18446744073709551616
theorem Is64.div {n : Nat} (h : Is64 n) (k : Nat) : Is64 (n / k) := Nat.lt_of_le_of_lt (Nat.div_le_self _ _) h
theorem u8_nat (n : Nat) (h : n < 256) : (UInt8.ofNat n).toNat = n := by simp; omega
def vtk : Nat → List UInt8 → Nat → Nat → Nat × Nat × Nat
 | 0, _, _, _ => (0, 0, 11)
 | _ + 1, [], _, _ => (0, 0, 10)
 | f + 1, c :: r, n, x =>
  if c.toNat < 128 then
   if (n = 9 ∧ 1 < c.toNat) ∨ (0 < n ∧ c.toNat = 0) then (0, 0, 11) else (x + c.toNat * 2 ^ (7 * n) % 18446744073709551616, n + 1, 0)
  else vtk f r (n + 1) (x + c.toNat % 128 * 2 ^ (7 * n) % 18446744073709551616)
def vtake (b : List UInt8) : Nat × Nat × Nat := vtk 10 b 0 0
end Go.Proofs.YtalmnodgjjcefaaGreatDoor
