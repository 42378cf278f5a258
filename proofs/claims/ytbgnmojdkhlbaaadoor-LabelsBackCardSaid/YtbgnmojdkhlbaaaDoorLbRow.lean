/-
  Rows of labels of the call's own: cloned, sorted.
-/
import Derived.Test.YtbgnmojdkhlbaaaDoorLbSort
import Derived.Test.YtbgnmojdkhlbaaaDoorAppend
namespace Go.Proofs.YtbgnmojdkhlbaaaDoor
open Go.RowKit

theorem lv_append (l m : List Lb) : lv (l ++ m) = lv l ++ lv m := by simp [lv]
theorem lv_one (l : List Lb) : ∀ u ∈ lv l, u.oneCell' = true := by
  intro u hu
  simp only [lv, List.mem_flatMap, List.mem_cons, List.not_mem_nil, or_false] at hu
  obtain ⟨x, -, hu⟩ := hu
  rcases hu with rfl | rfl <;> rfl
theorem Tryd.linfo : (Tryd.prog.info? 34).map (fun i => (i.zero, i.size, i.bytes)) = some (some (.agg #[.string ⟨#[]⟩, .string ⟨#[]⟩]), 2, 32) := by kernel_rfl
theorem info_partsL {o : Option TypeInfo} {z : Option Value} {s b : Nat} (h : o.map (fun i => (i.zero, i.size, i.bytes)) = some (z, s, b)) : ∃ i, o = some i ∧ i.zero = z ∧ i.size = s ∧ i.bytes = b := by
  cases o with
  | none => simp at h
  | some i =>
    simp only [Option.map_some, Option.some.injEq, Prod.mk.injEq] at h
    exact ⟨i, rfl, h.1, h.2.1, h.2.2⟩
/-- A row of labels of the call's own. -/
def OwnL (w : World) (base : Nat) (v : Value) (ls : List Lb) : Prop := w.ownsRow base 34 2 v ls.length (lv ls)
theorem OwnL.nil (w : World) (base : Nat) : OwnL w base (.slice none 0 0) [] := World.ownsRow_nil w base _ 2
theorem OwnL.open_ {w : World} {base : Nat} {v : Value} {ls : List Lb} (h : OwnL w base v ls) : ∃ A c, v = .slice A ls.length c ∧ ls.length ≤ c ∧ c ≤ maxLen ∧ Sees w w.heap.size A (lv ls) := own_open h
theorem OwnL.below {w w' : World} {base : Nat} {v : Value} {ls : List Lb} (h : OwnL w base v ls) (hb : Below w.heap.size w w') : OwnL w' base v ls := own_below h hb
theorem OwnL.alloc {w : World} {base : Nat} {v : Value} {ls : List Lb} (h : OwnL w base v ls) (o : Obj) : OwnL (w.alloc o) base v ls := World.ownsRow.alloc h o
theorem OwnL.base_le {w : World} {base b : Nat} {v : Value} {ls : List Lb} (h : OwnL w base v ls) (hb : b ≤ base) : OwnL w b v ls := by
  refine ⟨h.1, ?_⟩
  rcases h.2 with h | ⟨g, cap, cur, rfl, hg, r⟩
  · exact .inl h
  · exact .inr ⟨g, cap, cur, rfl, Nat.le_trans hb hg, r⟩
theorem OwnL.block {w : World} {base : Nat} {v : Value} {ls : List Lb} (h : OwnL w base v ls) : ∀ k, v.ownBlock = some k → base ≤ k := own_block h
theorem OwnL.drewN {w : World} {base : Nat} {v : Value} {ls : List Lb} (h : OwnL w base v ls) (k : Nat) : OwnL (w.drewN k) base v ls := h
theorem OwnL.new (w : World) (base : Nat) (hb : base ≤ w.heap.size) (ls : List Lb) (n : Nat) (hn : n = ls.length) (cs : Array Value) (h : cs = (lv ls).toArray) (hm : ls.length ≤ maxLen) : OwnL (w.alloc (.cells cs 34)) base (.slice (some ⟨w.heap.size, 0, none⟩) n n) ls := by
  subst hn
  exact own_new w base hb _ 2 _ _ (by rw [lv_length, Nat.mul_comm]) hm cs h
theorem sees_newL (w : World) (ls : List Lb) (t : TypeId) (cs : Array Value) (h : cs = (lv ls).toArray) : Sees (w.alloc (.cells cs t)) (w.heap.size + 1) (some ⟨w.heap.size, 0, none⟩) (lv ls) := by
  subst h
  refine ⟨.inr ⟨_, rfl, by simp, fun j x hj => ?_⟩⟩
  have := World.cell?_alloc_at (w := w) (lv ls).toArray t w.heap.size j rfl
  unfold Addr.add
  by_cases h0 : j = 0
  · subst h0; rw [if_pos rfl, this]; simpa using hj
  · rw [if_neg h0]; simp only [Nat.zero_add]; rw [this]; simpa using hj

theorem wpList_append_l {w : World} {ops : Array Oper} {rest : List Oper} {o : Oper} {a : Act} {Q : Exit → Act → World → Prop} (hgd : o.guard = none) (s x : Operand)
    (ho : o.op = .call { callee := .builtin .append, args := #[s, x], argTypes := #[22, 22] })
    (base : Nat) (v : Value) (l : List Lb) (hs : a.eval s = v) (hown : OwnL w base v l) (B : Nat) (A : Option Addr) (m c : Nat) (news : List Lb) (hx : a.eval x = .slice A m c) (hm : news.length = m) (hsee : Sees w B A (lv news))
    (h63 : l.length + m ≤ 1099511627776) (hbase : base ≤ w.heap.size)
    (h : ∀ v' w', OwnL w' base v' (l ++ news) → Onto w w' v v' → wpList Tryd.prog ops Q rest (a.put o.dst v') w') : wpList Tryd.prog ops Q (o :: rest) a w := by
  obtain ⟨i0, hi0, hz0, hz1, hz2⟩ := info_partsL Tryd.linfo
  refine wpList_append_v hgd s x _ ho 34 i0 _ 2 32 Tryd.underlying22 hi0 hz0 hz1 hz2 rfl (by omega) base v l.length (lv l) hs hown B A m c (lv news) hx (by rw [lv_length, hm, Nat.mul_comm]) hsee (lv_one _) (by simp only [maxLen]; omega) (by omega) hbase fun v' w' h2 h3 => h v' w' ?_ h3
  unfold OwnL
  rw [lv_append, List.length_append, hm]
  exact h2

/-- A row of labels, its own, at the end of a call. -/
def RetL (w : World) (base : Nat) (v0 : Value) (ls : List Lb) (e : Ending) (w' : World) : Prop := ∃ v, e = .returned v ∧ OwnL w' base v ls ∧ Onto w w' v0 v

theorem CloneL_any (A : Option Addr) (n c : Nat) (l : List Lb) (hn : l.length = n) (w : World) (h : Sees w w.heap.size A (lv l)) (hlen : l.length ≤ 1099511627776) :
    Calls Tryd.prog 28 #[.slice A n c] w (RetL w w.heap.size (.slice none 0 0) l) := by
  subst hn
  have he := fun (W : World) (a : Option Addr) (n c : Nat) => Lib.run_eql_slice_nil (P := Tryd.prog) W 22 34 a n c 0 0 Tryd.underlying22
  cases A with
  | none =>
    have hn : l = [] := by
      rcases h.out with h | ⟨ad, h, _⟩
      · cases l with
        | nil => rfl
        | cons x t => simp [lv] at h
      · cases h
    subst hn
    go_enter Tryd.func28, Tryd.ntmps28
    go_wp2
    go_ret
    exact ⟨_, rfl, OwnL.nil _ _, Onto.refl _ _⟩
  | some ad =>
    go_enter Tryd.func28, Tryd.ntmps28
    go_wp2_with (at_builtin; refine wpList_append_l rfl (.tmp 5) (.tmp 6) rfl w.heap.size (.slice (some ⟨w.heap.size, 0, none⟩) 0 0) [] (by rfl) (OwnL.new _ _ (Nat.le_refl _) [] 0 rfl _ rfl (by simp [maxLen])) w.heap.size (some ad) l.length c l (by rfl) rfl (h.alloc (Nat.le_refl _) _) (by simp; omega) (by simp) ?_; intro v1 w1 hown1 hon1)
    go_ret
    exact ⟨v1, rfl, hown1, (Onto.new _ _ _ _ _).trans hon1⟩
end Go.Proofs.YtbgnmojdkhlbaaaDoor
