/-
  All things of some rows, rising: the iterator, what it holds.
-/
import Derived.Test.YtcfbblgoligagaaKmSortB
import Derived.Maps.OwnIn
import Derived.RangeFuncBox
namespace Go.Proofs.Ytcfbblgoligagaa.KB
open Go.RowKit Go.Shelf

/-- Rows of things, as they are handed in. -/
structure RowsIn (m : Nat → Prop) (w : World) (A : Option Addr) (ll : List (List El)) : Prop where
  out : ∀ i (hi : i < ll.length), ∃ ad Ai ci, A = some ad ∧ m ad.block ∧ w.cell? (ad.add i) = some (.slice Ai (ll[i]).length ci) ∧ (ll[i]).length ≤ ci ∧ SeesM m w Ai ((ll[i]).map val) ∧ ∀ x ∈ ll[i], EOk m w x
theorem RowsIn.keep {m : Nat → Prop} {w w' : World} {A : Option Addr} {ll : List (List El)} (h : RowsIn m w A ll) (hk : Kept m w w') : RowsIn m w' A ll := ⟨fun i hi => by
  obtain ⟨ad, Ai, ci, h1, h2, h3, h4, h5, h6⟩ := h.out i hi
  exact ⟨ad, Ai, ci, h1, h2, (hk.cell (by rw [add_block]; exact h2)).trans h3, h4, h5.keep hk, fun x hx => (h6 x hx).keep hk⟩⟩
theorem RowsIn.mono {m m' : Nat → Prop} {w : World} {A : Option Addr} {ll : List (List El)} (h : RowsIn m w A ll) (hm : ∀ k, m k → m' k) : RowsIn m' w A ll := ⟨fun i hi => by
  obtain ⟨ad, Ai, ci, h1, h2, h3, h4, h5, h6⟩ := h.out i hi
  exact ⟨ad, Ai, ci, h1, hm _ h2, h3, h4, h5.mono hm, fun x hx => (h6 x hx).mono hm⟩⟩

/-- What was laid from base on. -/
def own (base : Nat) (w : World) : Nat → Prop := fun k => base ≤ k ∧ k < w.heap.size
theorem RowsAt.widen {m q q' : Nat → Prop} {w : World} {base P : Nat} {L : List (List El)} (h : RowsAt m q w base P L) (hq : ∀ k, q k → q' k) (ha : ∀ k, m k → ¬ q' k) (hl : ∀ k, q' k → k < w.heap.size) : RowsAt m q' w base P L := by
  obtain ⟨v, vs, h1, h2, h3, h4⟩ := h.out
  refine ⟨⟨v, vs, h1, h2, fun k e => ⟨hq _ (h3 k e).1, (h3 k e).2⟩, fun i hi => ?_⟩, hq _ h.at_, h.ok, ha, fun k e => by rcases e with e | e; exact hl k e; exact h.lt k (.inr e), h.few⟩
  obtain ⟨Ai, ci, g1, g2, g3⟩ := h4 i hi
  exact ⟨Ai, ci, g1, g2, g3.mono fun k e => ⟨hq _ e.1, e.2⟩⟩
theorem RowsAt.start (w : World) (n0 : Nat) (hn : n0 ≤ w.heap.size) : RowsAt (fun k => k < n0) (own w.heap.size (w.alloc (.cells #[.slice none 0 0, .func (.func cmpF) #[] #[]] 72))) (w.alloc (.cells #[.slice none 0 0, .func (.func cmpF) #[] #[]] 72)) w.heap.size w.heap.size [] :=
  ⟨⟨.slice none 0 0, [], World.alloc_heap_new w _, World.ownsRow_nil _ _ _ _, fun k e => by simp [Value.ownBlock] at e, fun i hi => absurd hi (by simp)⟩, ⟨Nat.le_refl _, by simp⟩, by simp, fun k h1 h2 => by have := h2.1; omega, fun k e => by rcases e with e | e; exact e.2; simp; omega, by simp⟩

/-- One more row is put behind. wr: where the round began; w2: where the append begins; w3: behind it. -/
theorem push_done {n0 base P : Nat} {wr w2 w3 : World} {L : List (List El)} {x : List El} {g1 c1 : Nat} {v v' : Value} {vs : List Value}
    (h : RowsAt (fun k => k < n0) (own base wr) wr base P L) (hn0 : n0 ≤ base) (ht : Turn (fun k => wr.heap.size ≤ k) wr w2)
    (hx : SeesM (fun k => wr.heap.size ≤ k ∧ k < w2.heap.size) w2 (some ⟨g1, 0, none⟩) (x.map val)) (hxc : x.length ≤ c1) (hxo : ∀ y ∈ x, EOk (fun k => k < n0) wr y)
    (h1 : wr.heap[P]? = some (.cells #[v, .func (.func cmpF) #[] #[]] 72 (0, 0))) (h2 : wr.ownsRow base 26 1 v L.length vs) (h3 : ∀ k, v.ownBlock = some k → own base wr k ∧ k ≠ P)
    (h4 : ∀ i (hi : i < L.length), ∃ Ai ci, vs[i]? = some (.slice Ai (L[i]).length ci) ∧ (L[i]).length ≤ ci ∧ SeesM (fun k => own base wr k ∧ k ≠ P ∧ v.ownBlock ≠ some k) wr Ai ((L[i]).map val))
    (hown : w3.ownsRow base 26 1 v' (L.length + 1) (vs ++ [.slice (some ⟨g1, 0, none⟩) x.length c1])) (hon : Onto w2 w3 v v') (hL : L.length + 1 ≤ 1000000) :
    RowsAt (fun k => k < n0) (own base (w3.setCell ⟨P, 0, none⟩ v')) (w3.setCell ⟨P, 0, none⟩ v') base P (L ++ [x]) ∧ Turn (fun k => base ≤ k) wr (w3.setCell ⟨P, 0, none⟩ v') := by
  have hs2 := ht.size
  have hs3 := hon.size
  obtain ⟨hP1, hP2⟩ := h.at_
  have hvs : vs.length = L.length := by have := h2.1; omega
  have hPv : v.ownBlock ≠ some P := fun e => (h3 P e).2 rfl
  have hv' : ∀ k, k < w2.heap.size → v.ownBlock ≠ some k → v'.ownBlock ≠ some k := fun k hk hne e => by
    rcases hon.at_ with e2 | ⟨g, e2, hg⟩
    · exact hne (e2 ▸ e)
    · rw [e2] at e; injection e with e; omega
  have hPv' := hv' P (by omega) hPv
  have hk23 : ∀ k, k < w2.heap.size → v.ownBlock ≠ some k → k ≠ P → (w3.setCell ⟨P, 0, none⟩ v').heap[k]? = w2.heap[k]? := fun k a b c =>
    (Below.heap_setCell _ _ _ _ c).trans (hon.grown.block k a (fun e => b e.symm))
  have hkr : Kept (fun k => k < wr.heap.size ∧ k ≠ P ∧ v.ownBlock ≠ some k) wr (w3.setCell ⟨P, 0, none⟩ v') := fun k hk =>
    (hk23 k (by omega) hk.2.2 hk.2.1).trans (ht.block k hk.1 (by omega))
  have hkm : Kept (fun k => k < n0) wr (w3.setCell ⟨P, 0, none⟩ v') := hkr.mono fun k hk => ⟨by omega, by omega, fun e => by have := (h3 k e).1.1; omega⟩
  have hz : (w3.setCell ⟨P, 0, none⟩ v').heap.size = w3.heap.size := World.size_setCell _ _ _
  refine ⟨⟨⟨v', vs ++ [.slice (some ⟨g1, 0, none⟩) x.length c1], ?_, ?_, ?_, ?_⟩, ⟨hP1, by omega⟩, ?_, fun k a b => by have := b.1; omega, fun k e => by rcases e with e | e; exact e.2; omega, by simpa using hL⟩, ?_⟩
  · have h5 : w3.heap[P]? = some (.cells #[v, .func (.func cmpF) #[] #[]] 72 (0, 0)) := ((hon.grown.block P (by omega) (fun e => hPv e.symm)).trans (ht.block P hP2 (by omega))).trans h1
    rw [heap_setCell_same w3 P 0 _ _ v' h5]
    rfl
  · rw [List.length_append]
    exact ownsRow_kept hown fun k e => Below.heap_setCell _ _ _ _ (fun e2 => hPv' (by rw [← show k = P from e2]; exact e))
  · intro k e
    have := World.ownsRow.lt hown k e
    exact ⟨⟨this.1, by omega⟩, fun e2 => hPv' (e2 ▸ e)⟩
  · intro i hi
    by_cases hlt : i < L.length
    · obtain ⟨Ai, ci, g1, g2, g3⟩ := h4 i hlt
      rw [List.getElem_append_left hlt, List.getElem?_append_left (by omega)]
      exact ⟨Ai, ci, g1, g2, (g3.keep (hkr.mono fun k e => ⟨e.1.2, e.2⟩)).mono fun k e => ⟨⟨e.1.1, by have := e.1.2; omega⟩, e.2.1, hv' k (by have := e.1.2; omega) e.2.2⟩⟩
    · have he : i = L.length := by simp at hi; omega
      subst he
      rw [List.getElem_append_right (Nat.le_refl _), List.getElem?_append_right (by omega)]
      have hne : ∀ k, wr.heap.size ≤ k → k ≠ P ∧ v.ownBlock ≠ some k := fun k hk => ⟨by omega, fun e => by have := (h3 k e).1.2; omega⟩
      refine ⟨some ⟨g1, 0, none⟩, c1, by simp [hvs], by simpa using hxc, ?_⟩
      simp only [Nat.sub_self, List.getElem_cons_zero]
      exact (hx.keep fun k e => hk23 k e.2 (hne k e.1).2 (hne k e.1).1).mono fun k e => ⟨⟨by have := h.at_.2; have := e.1; omega, by have := e.2; omega⟩, (hne k e.1).1, hv' k e.2 (hne k e.1).2⟩
  · intro r hr y hy
    rcases List.mem_append.1 hr with hr | hr
    · exact (h.ok r hr y hy).keep hkm
    · simp only [List.mem_singleton] at hr
      subst hr
      exact (hxo y hy).keep hkm
  · exact ((ht.mono fun k _ e => by omega).trans (Turn.onto hon fun k e => (h3 k e).1.1)).trans (Turn.setCell _ _ _ hP1)

/-- The first of the top row has been told: the row is cut. -/
theorem tail_done {m q : Nat → Prop} {w w' : World} {base P g cap c0 : Nat} {x : El} {r : List El} {T : List (List El)} {A0 : Option Addr} {vs : List Value}
    (h : RowsAt m q w base P ((x :: r) :: T))
    (h1 : w.heap[P]? = some (.cells #[.slice (some ⟨g, 0, none⟩) (T.length + 1) cap, .func (.func cmpF) #[] #[]] 72 (0, 0))) (h2 : w.ownsRow base 26 1 (.slice (some ⟨g, 0, none⟩) (T.length + 1) cap) (T.length + 1) vs) (h3 : q g) (h4 : g ≠ P)
    (h6 : ∀ i (hi : i < ((x :: r) :: T).length), ∃ Ai ci, vs[i]? = some (.slice Ai (((x :: r) :: T)[i]).length ci) ∧ (((x :: r) :: T)[i]).length ≤ ci ∧ SeesM (fun k => q k ∧ k ≠ P ∧ k ≠ g) w Ai ((((x :: r) :: T)[i]).map val))
    (hv : vs[0]? = some (.slice A0 (r.length + 1) c0)) (hc : r.length + 1 ≤ c0) (hs : SeesM (fun k => q k ∧ k ≠ P ∧ k ≠ g) w A0 ((x :: r).map val))
    (A1 : Option Addr) (hA1 : A1 = if c0 = 1 then A0 else A0.map (fun a => a.add 1)) (hw : Alk w' (w.setCell ⟨g, 0, none⟩ (.slice A1 r.length (c0 - 1)))) : RowsAt m q w' base P (r :: T) ∧ Turn q w w' := by
  obtain ⟨s1, g1⟩ := World.ownsRow.stored h2 0 (.slice A1 r.length (c0 - 1))
  have hkk : Kept (fun k => k ≠ g) w w' := fun k hk => by rw [hw.heap]; exact Below.heap_setCell _ _ _ _ hk
  have hz : w'.heap.size = w.heap.size := by rw [hw.heap]; simp
  have hvs : vs.length = T.length + 1 := by have := h2.1; omega
  refine ⟨⟨⟨.slice (some ⟨g, 0, none⟩) (T.length + 1) cap, vs.set 0 (.slice A1 r.length (c0 - 1)), (hkk P (Ne.symm h4)).trans h1, ownsRow_kept (w := w.setCell ⟨g, 0, none⟩ (.slice A1 r.length (c0 - 1))) s1 (fun k _ => by rw [hw.heap]), fun k e => ?_, fun i hi => ?_⟩, h.at_, fun s hs y hy => ?_, h.apart, fun k e => by rw [hz]; exact h.lt k e, h.few⟩, ?_⟩
  · obtain rfl : g = k := Option.some.inj e
    exact ⟨h3, h4⟩
  · have hkeep : ∀ {A : Option Addr} {xs : List Value}, SeesM (fun k => q k ∧ k ≠ P ∧ k ≠ g) w A xs → SeesM (fun k => q k ∧ k ≠ P ∧ (Value.slice (some ⟨g, 0, none⟩) (T.length + 1) cap).ownBlock ≠ some k) w' A xs := fun hs =>
      (hs.keep (hkk.mono fun k e => e.2.2)).mono fun k e => ⟨e.1, e.2.1, fun e2 => e.2.2 (Option.some.inj e2).symm⟩
    match i, hi with
    | 0, hi =>
      refine ⟨A1, c0 - 1, ?_, by simp; omega, hkeep ?_⟩
      · rw [List.getElem?_set_self (by omega)]; rfl
      · show SeesM _ w A1 (r.map val)
        rcases hs.out with e | ⟨ad, e, e2, e3⟩
        · simp at e
        · subst e
          by_cases hr : r = []
          · subst hr; exact ⟨.inl rfl⟩
          · have hpos : 0 < r.length := List.length_pos_iff.2 hr
            rw [hA1, if_neg (by omega)]
            refine ⟨.inr ⟨ad.add 1, rfl, by rw [add_block]; exact e2, fun j u hu => ?_⟩⟩
            rw [add_add', Nat.add_comm]
            exact e3 (j + 1) u (by simpa using hu)
    | i + 1, hi =>
      obtain ⟨Ai, ci, i1, i2, i3⟩ := h6 (i + 1) (by simpa using hi)
      rw [List.getElem?_set_ne (by omega)]
      exact ⟨Ai, ci, i1, i2, hkeep i3⟩
  · have hy' : EOk m w y := by
      rcases List.mem_cons.1 hs with rfl | hs
      · exact h.ok (x :: s) (by simp) y (by simp [hy])
      · exact h.ok s (by simp [hs]) y hy
    exact hy'.keep (hkk.mono fun k e e2 => h.apart k e (e2 ▸ h3))
  · exact hw.turn (Turn.setCell _ _ _ h3)

theorem all_any (A : Option Addr) (n c : Nat) (w : World) : Calls Try.prog 35 #[.slice A n c, .func (.func cmpF) #[] #[]] w fun e w' =>
    e = .returned (.func (.func 43) #[] #[.pointer (some ⟨w.heap.size + 1, 0, none⟩), .pointer (some ⟨w.heap.size, 0, none⟩)]) ∧ w' = (w.alloc (.cells #[.slice A n c] 22)).alloc (.cells #[.func (.func cmpF) #[] #[]] 47) := by
  go_enter Try.func35, Try.ntmps35
  go_wp2
  go_ret
  exact ⟨rfl, rfl⟩
end Go.Proofs.Ytcfbblgoligagaa.KB
