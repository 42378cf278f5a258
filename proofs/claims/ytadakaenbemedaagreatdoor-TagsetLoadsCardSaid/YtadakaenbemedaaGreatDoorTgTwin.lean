/-
  Two sets: one that is flushed and put together, one that never is: plain lists, and where they lie.
-/
import Derived.Test.YtadakaenbemedaaGreatDoorTgPlay
namespace Go.Proofs.YtadakaenbemedaaGreatDoor
open Go.RowKit Go.Maps

theorem add_few {s : SetM} (h : s.mem.length < 500) (x : Item) : (s.add x).2 = (if badL x = true then 1 else 0) ∧ (s.add x).1.all = (if badL x = true then s.all else uniqL ahead (s.all ++ [x])) := by
  unfold SetM.add
  by_cases h1 : badL x = true
  · rw [if_pos h1, if_pos h1, if_pos h1]; exact ⟨rfl, rfl⟩
  · rw [if_neg h1, if_neg h1, if_neg h1]
    by_cases h2 : s.has x = true
    · rw [if_pos h2]
      refine ⟨rfl, ?_⟩
      rw [SetM.has_eq, decide_eq_true_eq] at h2
      refine (uniqL_of KBo (uniqL_ri KBo _) fun y => ?_).symm
      rw [List.mem_append, List.mem_singleton]
      exact ⟨fun e => .inl e, fun e => e.elim id fun e => e ▸ h2⟩
    · rw [if_neg h2, if_neg (by omega)]
      refine ⟨rfl, uniqL_congr KBo fun y => ?_⟩
      rw [List.mem_append, List.mem_append, uniqL_mem KBo, List.mem_append, mem_all, or_assoc]
/-- What never is flushed or put together. -/
def SetM.only (s : SetM) (x : Act) : SetM := if x.kind % 8 < 5 then (s.add x.item).1 else s
def SetM.onlys (s : SetM) (l : List Act) : SetM := l.foldl SetM.only s
theorem onlys_succ (s : SetM) (l : List Act) (i : Nat) (hi : i < l.length) : s.onlys (l.take (i + 1)) = (s.onlys (l.take i)).only l[i] := by
  unfold SetM.onlys
  rw [List.take_add_one, List.getElem?_eq_getElem hi, Option.toList_some, List.foldl_append]
  rfl
theorem add_fs (s : SetM) (x : Item) : (s.add x).1.fs = s.fs := by
  unfold SetM.add
  split
  · rfl
  · split
    · rfl
    · split <;> rfl
theorem only_ok {s : SetM} {n : Nat} (h : SetOk s) (ht : s.total ≤ n) (x : Act) : SetOk (s.only x) ∧ (s.only x).total ≤ n + 1 := by
  unfold SetM.only
  split
  · exact ⟨h.add _, by have := add_total s x.item; omega⟩
  · exact ⟨h, by omega⟩
/-- Two sets that hold the same items. -/
structure Same2 (s t : SetM) (i : Nat) : Prop where
  ok1 : SetOk s
  ok2 : SetOk t
  few1 : s.total ≤ i
  few2 : t.total ≤ i
  all : s.all = t.all
  none : t.fs = []
theorem Same2.fit1 {s t : SetM} {i : Nat} (h : Same2 s t i) (hi : i ≤ 80) : SetFit s := ⟨h.ok1, by have := h.few1; omega⟩
theorem Same2.fit2 {s t : SetM} {i : Nat} (h : Same2 s t i) (hi : i ≤ 80) : SetFit t := ⟨h.ok2, by have := h.few2; omega⟩
theorem Same2.has {s t : SetM} {i : Nat} (h : Same2 s t i) (x : Item) : s.has x = t.has x := by rw [SetM.has_eq, SetM.has_eq, h.all]
theorem Same2.mem1 {s t : SetM} {i : Nat} (h : Same2 s t i) (hi : i ≤ 80) : s.mem.length < 500 := by have := h.few1; unfold SetM.total at this; omega
theorem Same2.mem2 {s t : SetM} {i : Nat} (h : Same2 s t i) (hi : i ≤ 80) : t.mem.length < 500 := by have := h.few2; unfold SetM.total at this; omega
theorem Same2.err {s t : SetM} {i : Nat} (h : Same2 s t i) (hi : i ≤ 80) (x : Item) : (s.add x).2 = (t.add x).2 := by rw [(add_few (h.mem1 hi) x).1, (add_few (h.mem2 hi) x).1]
theorem Same2.add {s t : SetM} {i : Nat} (h : Same2 s t i) (hi : i ≤ 80) (x : Item) : Same2 (s.add x).1 (t.add x).1 (i + 1) :=
  ⟨h.ok1.add x, h.ok2.add x, by have := add_total s x; have := h.few1; omega, by have := add_total t x; have := h.few2; omega, by rw [(add_few (h.mem1 hi) x).2, (add_few (h.mem2 hi) x).2, h.all], by rw [add_fs]; exact h.none⟩
theorem Same2.flush {s t : SetM} {i : Nat} (h : Same2 s t i) : Same2 s.flush.1 t (i + 1) :=
  ⟨h.ok1.flush, h.ok2, by rw [flush_total]; have := h.few1; omega, by have := h.few2; omega, by rw [flush_all, h.all], h.none⟩
theorem Same2.merge {s t : SetM} {i : Nat} (h : Same2 s t i) (hi : i ≤ 80) (a b : Int) : Same2 (s.merge a b).1 t (i + 1) :=
  ⟨h.ok1.merge (by have := h.few1; omega) a b, h.ok2, by have := merge_total s a b; have := h.few1; omega, by have := h.few2; omega, by rw [merge_all, h.all], h.none⟩
theorem Same2.new : Same2 SetM.new SetM.new 0 := ⟨SetOk.new, SetOk.new, Nat.le_refl _, Nat.le_refl _, rfl, rfl⟩

/-- Two sets in memory, apart, none of them in blocks of z. -/
structure Twin (n0 : Nat) (z : Nat → Prop) (w : World) (S1 S2 : Nat) (s1 s2 : SetM) : Prop where
  out : ∃ m1 m2, SetAt m1 w S1 s1 ∧ SetAt m2 w S2 s2 ∧ (∀ k, m1 k → ¬ m2 k) ∧ (∀ k, m1 k → n0 ≤ k) ∧ (∀ k, m2 k → n0 ≤ k) ∧ (∀ k, z k → ¬ m1 k ∧ ¬ m2 k)
  low : n0 ≤ w.heap.size
  off : ∀ k, z k → k < w.heap.size
section
variable {n0 : Nat} {z z' : Nat → Prop} {w w' : World} {S1 S2 : Nat} {s1 s2 s' : SetM}
theorem Twin.below (h : Twin n0 z w S1 S2 s1 s2) (hb : Below w.heap.size w w') : Twin n0 z w' S1 S2 s1 s2 := by
  obtain ⟨m1, m2, h1, h2, h3⟩ := h.out
  exact ⟨⟨m1, m2, h1.below hb, h2.below hb, h3⟩, Nat.le_trans h.low hb.size, fun k e => Nat.lt_of_lt_of_le (h.off k e) hb.size⟩
theorem Twin.box (h : Twin n0 z w S1 S2 s1 s2) (hb : Below w.heap.size w w') (hz : w.heap.size < w'.heap.size) : Twin n0 (fun k => k = w.heap.size) w' S1 S2 s1 s2 := by
  obtain ⟨m1, m2, h1, h2, h3, h4, h5, -⟩ := h.out
  exact ⟨⟨m1, m2, h1.below hb, h2.below hb, h3, h4, h5, fun k e => ⟨fun e' => by have := h1.lt k e'; omega, fun e' => by have := h2.lt k e'; omega⟩⟩, Nat.le_trans h.low hb.size, fun k e => by omega⟩
theorem Twin.swap (h : Twin n0 z w S1 S2 s1 s2) : Twin n0 z w S2 S1 s2 s1 := by
  obtain ⟨m1, m2, h1, h2, h3, h4, h5, h6⟩ := h.out
  exact ⟨⟨m2, m1, h2, h1, fun k e e' => h3 k e' e, h5, h4, fun k e => ⟨(h6 k e).2, (h6 k e).1⟩⟩, h.low, h.off⟩
theorem Twin.has (h : Twin n0 z w S1 S2 s1 s2) (hF : SetFit s1) (Bx : Option Addr) (lx dx : Nat) (x : Item) (hxl : x.length = lx) (hlx : lx ≤ 1000000) (hx : Sees w w.heap.size Bx (bv x)) :
    Calls Tryz.prog 19 #[.pointer (some ⟨S1, 0, none⟩), .slice Bx lx dx] w (Gives w (.bool (s1.has x))) := by
  obtain ⟨m1, m2, h1, -⟩ := h.out
  exact setHas_any h1 hF Bx lx dx x hxl hlx hx
/-- What an act over the first leaves. -/
structure Left (n0 : Nat) (z : Nat → Prop) (w w' : World) (S1 S2 : Nat) (s' s2 : SetM) : Prop where
  twin : Twin n0 z w' S1 S2 s' s2
  below : Below n0 w w'
  kept : ∀ k, z k → w'.heap[k]? = w.heap[k]?
theorem Left.of {m1 m2 m' : Nat → Prop} (_h1 : SetAt m1 w S1 s1) (h2 : SetAt m2 w S2 s2) (h3 : ∀ k, m1 k → ¬ m2 k) (h4 : ∀ k, m1 k → n0 ≤ k) (h5 : ∀ k, m2 k → n0 ≤ k) (h6 : ∀ k, z k → ¬ m1 k ∧ ¬ m2 k) (ho : ∀ k, z k → k < w.heap.size) (hl : n0 ≤ w.heap.size) (st : SetStep m1 m' w w' S1 s') : Left n0 z w w' S1 S2 s' s2 := by
  have hsz := st.turn.size
  refine ⟨⟨⟨m', m2, st.set, h2.turn st.turn fun k e e' => h3 k e' e, fun k e e' => ?_, fun k e => ?_, h5, fun k e => ⟨fun e' => ?_, (h6 k e).2⟩⟩, by omega, fun k e => by have := ho k e; omega⟩, st.turn.below h4 hl, fun k e => st.turn.block k (ho k e) (h6 k e).1⟩
  · rcases st.new k e with g | g
    · exact h3 k g e'
    · have := h2.lt k e'; omega
  · rcases st.new k e with g | g
    · exact h4 k g
    · omega
  · rcases st.new k e' with g | g
    · exact (h6 k e).1 g
    · have := ho k e; omega
theorem Twin.add (h : Twin n0 z w S1 S2 s1 s2) (hF : SetFit s1) (Bx : Option Addr) (lx dx : Nat) (x : Item) (hxl : x.length = lx) (hlx : lx ≤ 1000000) (hx : Sees w w.heap.size Bx (bv x)) :
    Calls Tryz.prog 11 #[.pointer (some ⟨S1, 0, none⟩), .slice Bx lx dx] w fun e w' => e = .returned (.int .i64 ((s1.add x).2 : Nat)) ∧ Left n0 z w w' S1 S2 (s1.add x).1 s2 := by
  obtain ⟨m1, m2, h1, h2, h3, h4, h5, h6⟩ := h.out
  exact (add_any m1 w S1 s1 h1 hF Bx lx dx x hxl hlx hx).mono fun e w' ⟨he, st⟩ => ⟨he, Left.of h1 h2 h3 h4 h5 h6 h.off h.low st⟩
theorem Twin.flush (h : Twin n0 z w S1 S2 s1 s2) (hF : SetFit s1) (hH : Halves w) :
    Calls Tryz.prog 12 #[.pointer (some ⟨S1, 0, none⟩)] w fun e w' => ∃ v, e = .returned v ∧ Left n0 z w w' S1 S2 s1.flush.1 s2 := by
  obtain ⟨m1, m2, h1, h2, h3, h4, h5, h6⟩ := h.out
  exact (flush_any m1 w S1 s1 h1 hF hH).mono fun e w' ⟨A, c, he, fs⟩ => by
    obtain ⟨m', st, -⟩ := fs.out
    exact ⟨_, he, Left.of h1 h2 h3 h4 h5 h6 h.off h.low st⟩
theorem Twin.merge (h : Twin n0 z w S1 S2 s1 s2) (hF : SetFit s1) (hH : Halves w) (a b : Int) :
    Calls Tryz.prog 25 #[.pointer (some ⟨S1, 0, none⟩), .int .i64 a, .int .i64 b] w fun e w' => ∃ v, e = .returned v ∧ Left n0 z w w' S1 S2 (s1.merge a b).1 s2 := by
  obtain ⟨m1, m2, h1, h2, h3, h4, h5, h6⟩ := h.out
  by_cases hm : mayMerge s1.fs.length a b = true
  · obtain ⟨g1, g2, g3, g4⟩ := may_iff.1 hm
    have e1 : (s1.merge a b).1 = ⟨s1.mem, s1.fs.take a.toNat ++ s1.join a.toNat b.toNat :: s1.fs.drop (a.toNat + b.toNat)⟩ := by unfold SetM.merge; rw [if_pos hm]
    obtain ⟨i, rfl⟩ : ∃ i : Nat, a = i := ⟨a.toNat, by omega⟩
    obtain ⟨k, rfl⟩ : ∃ k : Nat, b = k := ⟨b.toNat, by omega⟩
    rw [e1]
    exact (merge_good m1 w S1 s1 h1 hF hH i k (by omega) (by omega)).mono fun e w' ⟨A, c, he, fs⟩ => by
      obtain ⟨m', st, -⟩ := fs.out
      exact ⟨_, he, Left.of h1 h2 h3 h4 h5 h6 h.off h.low st⟩
  · have e1 : (s1.merge a b).1 = s1 := by unfold SetM.merge; rw [if_neg hm]
    rw [e1]
    exact (merge_bad m1 w S1 s1 h1 hF a b (fun e => hm (may_iff.2 e))).mono fun e w' ⟨he, hw⟩ => by
      subst hw
      exact ⟨_, he, ⟨h, Below.refl _ _, fun _ _ => rfl⟩⟩
end
end Go.Proofs.YtadakaenbemedaaGreatDoor
