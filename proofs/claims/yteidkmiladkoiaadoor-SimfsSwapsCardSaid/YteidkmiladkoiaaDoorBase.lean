/-
  Words for memory that the walks of this claim use: byte rows as lists. No program in sight but the type of bytes.
-/
import Derived.Test.YteidkmiladkoiaaDoorCore
namespace Go.Proofs.YteidkmiladkoiaaDoor
open Go.RowKit

/-- The cells of a row of bytes. -/
def bv (l : List UInt8) : List Value := l.map fun b => .int .u8 (b.toNat : Int)

theorem bv_length (l : List UInt8) : (bv l).length = l.length := by simp [bv]
theorem bv_append (l m : List UInt8) : bv (l ++ m) = bv l ++ bv m := by simp [bv]
theorem bv_at (l : List UInt8) (j : Nat) (h : j < l.length) : (bv l)[j]? = some (.int .u8 ((l[j]).toNat : Int)) := by simp [bv, h]
theorem bv_drop (l : List UInt8) (k : Nat) : bv (l.drop k) = (bv l).drop k := by simp [bv, List.map_drop]
theorem bv_take (l : List UInt8) (k : Nat) : bv (l.take k) = (bv l).take k := by simp [bv, List.map_take]
theorem bv_one {l : List UInt8} : ∀ u ∈ bv l, u.oneCell' = true := by
  intro u hu
  simp only [bv, List.mem_map] at hu
  obtain ⟨b, _, rfl⟩ := hu
  rfl

/-- A value of the call's own (blocks from 'base' on) that holds the bytes l. -/
def OwnB (w : World) (base : Nat) (v : Value) (l : List UInt8) : Prop := w.ownsRow base 5 1 v l.length (bv l)

section
variable {w w' : World} {base : Nat} {v : Value} {l : List UInt8}
theorem OwnB.nil (w : World) (base : Nat) : OwnB w base (.slice none 0 0) [] := World.ownsRow_nil w base _ 1
theorem OwnB.open_ (h : OwnB w base v l) : ∃ A c, v = .slice A l.length c ∧ l.length ≤ c ∧ c ≤ maxLen ∧ OwnB w base (.slice A l.length c) l ∧ Sees w w.heap.size A (bv l) := by
  have h' := h
  rcases h.2 with ⟨rfl, hn⟩ | ⟨g, cap, cur, rfl, hb, hh, hc, hm, _⟩
  · exact ⟨none, 0, by rw [hn], by omega, by simp [maxLen], by rw [hn]; exact h', ⟨.inl (by rw [List.eq_nil_of_length_eq_zero hn]; rfl)⟩⟩
  · exact ⟨_, cap, rfl, hc, hm, h', Sees.of_own h'⟩
theorem OwnB.below (h : OwnB w base v l) (hb : Below w.heap.size w w') : OwnB w' base v l :=
  World.ownsRow.kept (row := none) h ⟨hb.os, hb.tape, hb.output, hb.size, fun k hk _ => hb.block k hk⟩ (by cases v.ownBlock <;> simp)
theorem OwnB.base_le (h : OwnB w base v l) {b : Nat} (hb : b ≤ base) : OwnB w b v l := by
  refine ⟨h.1, ?_⟩
  rcases h.2 with h2 | ⟨g, cap, cur, hv, hg, r⟩
  · exact .inl h2
  · exact .inr ⟨g, cap, cur, hv, by omega, r⟩
end

theorem Tryd.binfo : (Tryd.prog.info? 5).map (fun i => (i.zero, i.size, i.bytes)) = some (some (.int .u8 0), 1, 1) := by kernel_rfl

/-- append of bytes that are seen onto a row of the call's own. -/
theorem run_append_b (w : World) (ty : TypeId) (base : Nat) (v : Value) (l : List UInt8) (hown : OwnB w base v l) (B : Nat) (A : Option Addr) (m c : Nat) (news : List UInt8) (hm : news.length = m) (hs : Sees w B A (bv news))
    (hlen : l.length + news.length ≤ 140737488355328) (hbase : base ≤ w.heap.size) :
    ∃ v' w', (Builtin.append_ #[28, 28] ty #[v, .slice A m c]).run Tryd.prog w = .ok v' w' ∧ OwnB w' base v' (l ++ news) ∧ Onto w w' v v' := by
  obtain ⟨i, hi, hz0, hz1, hz2⟩ := info_parts Tryd.binfo
  subst hm
  rcases hs.out with h0 | ⟨ad, rfl, hb, hc⟩
  · have hn : news = [] := by simpa [bv] using h0
    subst hn
    rw [List.append_nil]
    refine ⟨v, w, ?_, hown, Onto.refl _ _⟩
    rcases hown.2 with ⟨rfl, hx⟩ | ⟨g, cap, cur, rfl, _, _, hnc, _⟩
    · cases A <;> simp [Builtin.append_, run_underlying Tryd.underlying28, sizeOf, typeInfo, hi, Builtin.lenOf, Builtin.firstCells, loadCells, loadCellsFrom]
    · cases A <;> simp [Builtin.append_, run_underlying Tryd.underlying28, sizeOf, typeInfo, hi, Builtin.lenOf, Builtin.firstCells, hnc, storeCells, loadCells, loadCellsFrom]
  · obtain ⟨v', w', hrun, h2, h3, _, h5⟩ := run_append_own_at (P := Tryd.prog) w base 28 ty 5 i _ 1 1 Tryd.underlying28 hi hz0 hz1 hz2 rfl (by omega) v l.length (bv l) hown ad news.length c (bv news)
      (by rw [bv_length, Nat.mul_one]) hc bv_one (by simp only [maxLen]; omega) (by omega) hbase
    refine ⟨v', w', hrun, ?_, h3, ?_⟩
    · unfold OwnB
      rw [List.length_append, bv_append]
      exact h2
    · rcases h5 with h5 | h5
      · exact .inl h5
      · exact .inr ⟨_, h5, Nat.le_refl _⟩

/-- The same, at the operation of a walk. -/
theorem wpList_append_b {w : World} {ops : Array Oper} {rest : List Oper} {o : Oper} {a : Act} {Q : Exit → Act → World → Prop} (hgd : o.guard = none) (s x : Operand)
    (ho : o.op = .call { callee := .builtin .append, args := #[s, x], argTypes := #[28, 28] })
    (base : Nat) (v : Value) (l : List UInt8) (hs : a.eval s = v) (hown : OwnB w base v l) (B : Nat) (A : Option Addr) (m c : Nat) (news : List UInt8) (hx : a.eval x = .slice A m c) (hm : news.length = m) (hsee : Sees w B A (bv news))
    (hlen : l.length + news.length ≤ 140737488355328) (hbase : base ≤ w.heap.size)
    (h : ∀ v' w', OwnB w' base v' (l ++ news) → Onto w w' v v' → wpList Tryd.prog ops Q rest (a.put o.dst v') w') : wpList Tryd.prog ops Q (o :: rest) a w := by
  refine wpList_plain hgd fun K hK => ?_
  obtain ⟨v', w', hr, h2, h3⟩ := run_append_b w o.type base v l hown B A m c news hm hsee hlen hbase
  unfold Oper.wp execOp
  simp only [ho, resolve, invoke, builtin, Sem.run_bind, Sem.run_pure, Result.andThen_ok, List.map_toArray, List.map_cons, List.map_nil, hs, hx, hr]
  exact hK _ _ (h v' w' h2 h3)

/-- What was just laid by a slice literal of bytes is seen. -/
theorem sees_new (w : World) (l : List UInt8) (t : TypeId) (cs : Array Value) (h : cs = (bv l).toArray) : Sees (w.alloc (.cells cs t)) (w.heap.size + 1) (some ⟨w.heap.size, 0, none⟩) (bv l) := by
  subst h
  refine ⟨.inr ⟨_, rfl, by simp, fun j u hu => ?_⟩⟩
  rw [Addr.add_lit, World.cell?_alloc_at _ _ _ _ rfl]
  simpa using hu

theorem sees_one (w : World) (t : TypeId) (x : Int) (n : Nat) (hx : x = (n : Int) % 256) : Sees (w.alloc (.cells #[.int .u8 x] t)) (w.heap.size + 1) (some ⟨w.heap.size, 0, none⟩) (bv [UInt8.ofNat n]) :=
  sees_new w _ t _ (by subst hx; simp [bv])
theorem OwnB.alloc {w : World} {base : Nat} {v : Value} {l : List UInt8} (h : OwnB w base v l) (o : Obj) : OwnB (w.alloc o) base v l := World.ownsRow.alloc h o

theorem OwnB.new (w : World) (base : Nat) (hb : base ≤ w.heap.size) (l : List UInt8) (n : Nat) (hn : n = l.length) (cs : Array Value) (h : cs = (bv l).toArray) (hm : l.length ≤ maxLen) : OwnB (w.alloc (.cells cs 5)) base (.slice (some ⟨w.heap.size, 0, none⟩) n n) l := by
  subst hn
  have h2 := World.ownsRow_lit (e := 5) (size := 1) (base := base) w cs l.length hb hm (by simp [h, bv_length])
  unfold OwnB
  rw [h] at h2 ⊢
  exact h2

/-- A call that gives back the bytes l in a row of its own, behind v's. -/
def RetB (w : World) (base : Nat) (v : Value) (l : List UInt8) (e : Ending) (w' : World) : Prop :=
  ∃ v', e = .returned v' ∧ OwnB w' base v' l ∧ Onto w w' v v'

theorem OwnB.block {w : World} {base : Nat} {v : Value} {l : List UInt8} (h : OwnB w base v l) : ∀ k, v.ownBlock = some k → base ≤ k := fun k hk => (World.ownsRow.lt h k hk).1

end Go.Proofs.YteidkmiladkoiaaDoor
