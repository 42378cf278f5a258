/-
  Several texts in one: KmSees3 KmPileB KmRefP KmOneB KmPutM.
-/
import Derived.Test.YtadakaenbemedaaGreatDoorKmB
import Derived.Test.YtadakaenbemedaaGreatDoorKmA
import Derived.Test.YtadakaenbemedaaGreatDoorItm
/-
  Rows of rows of items, as they are seen; kmerge.Items of such.
-/
namespace Go.Proofs.YtadakaenbemedaaGreatDoor
open Go.RowKit

/-- Rows of items: how they are seen. -/
structure Sees3 (w : World) (B : Nat) (A : Option Addr) (ll : List (List Item)) : Prop where
  out : ∀ i (hi : i < ll.length), ∃ ad Ai ci, A = some ad ∧ ad.block < B ∧ w.cell? (ad.add i) = some (.slice Ai (ll[i]).length ci) ∧ (ll[i]).length ≤ ci ∧ Sees2 w B Ai ll[i]
theorem Sees3.below {w w' : World} {B : Nat} {A : Option Addr} {ll : List (List Item)} (h : Sees3 w B A ll) (hb : Below B w w') : Sees3 w' B A ll := ⟨fun i hi => by
  obtain ⟨ad, Ai, ci, h1, h2, h3, h4, h5⟩ := h.out i hi
  exact ⟨ad, Ai, ci, h1, h2, (hb.cell (by rw [add_block]; exact h2)).trans h3, h4, h5.below hb⟩⟩
theorem Sees3.more {w : World} {B B' : Nat} {A : Option Addr} {ll : List (List Item)} (h : Sees3 w B A ll) (hb : B ≤ B') : Sees3 w B' A ll := ⟨fun i hi => by
  obtain ⟨ad, Ai, ci, h1, h2, h3, h4, h5⟩ := h.out i hi
  exact ⟨ad, Ai, ci, h1, Nat.lt_of_lt_of_le h2 hb, h3, h4, h5.more hb⟩⟩
theorem Sees3.drewN {w : World} {B : Nat} {A : Option Addr} {ll : List (List Item)} (h : Sees3 w B A ll) (q : Nat) : Sees3 (w.drewN q) B A ll := h.below (below_d (Below.refl _ _) q)
namespace KB
theorem els_of {w : World} {B : Nat} {A : Option Addr} {ls : List Item} (h : Sees2 w B A ls) : ∃ xs : List El, xs.map key = ls ∧ SeesM (fun k => k < B) w A (xs.map val) ∧ ∀ x ∈ xs, EOk (fun k => k < B) w x := by
  cases ls with
  | nil => exact ⟨[], rfl, ⟨.inl rfl⟩, by simp⟩
  | cons y t =>
    obtain ⟨ad, -, -, rfl, hB, -⟩ := h.out 0 (by simp)
    generalize hL : y :: t = L at h
    have hk : ∀ k, k ≤ L.length → ∃ xs : List El, xs.length = k ∧ xs.map key = L.take k ∧ ∀ j (hj : j < xs.length), w.cell? (ad.add j) = some (val xs[j]) ∧ EOk (fun k => k < B) w xs[j] := fun k => by
      induction k with
      | zero => intro _; exact ⟨[], rfl, by simp, fun j hj => absurd hj (by simp)⟩
      | succ k ih =>
        intro hk
        obtain ⟨xs, h1, h2, h3⟩ := ih (by omega)
        obtain ⟨ad', Ai, ci, e, g1, g2, g3, g4⟩ := h.out k (by omega)
        obtain rfl := Option.some.inj e
        refine ⟨xs ++ [(L[k], Ai, ci)], by simp [h1], by rw [List.map_append, h2, List.take_succ_eq_append_getElem (by omega)]; rfl, fun j hj => ?_⟩
        by_cases hlt : j < xs.length
        · rw [List.getElem_append_left hlt]; exact h3 j hlt
        · have : j = xs.length := by simp at hj; omega
          subst this
          rw [List.getElem_append_right (Nat.le_refl _)]
          simp only [Nat.sub_self, List.getElem_cons_zero]
          exact ⟨by rw [h1]; exact g2, ⟨g4.toM, g3⟩⟩
    obtain ⟨xs, h1, h2, h3⟩ := hk L.length (Nat.le_refl _)
    refine ⟨xs, by rw [h2, List.take_length], ⟨.inr ⟨ad, rfl, hB, fun j u hu => ?_⟩⟩, fun x hx => ?_⟩
    · rw [List.getElem?_map] at hu
      obtain ⟨x, hx, rfl⟩ := Option.map_eq_some_iff.1 hu
      obtain ⟨hj, rfl⟩ := List.getElem?_eq_some_iff.1 hx
      exact (h3 j hj).1
    · obtain ⟨j, hj, rfl⟩ := List.mem_iff_getElem.1 hx
      exact (h3 j hj).2
theorem rows_of {w : World} {B : Nat} {A : Option Addr} {ll : List (List Item)} (h : Sees3 w B A ll) : ∃ LL : List (List El), keysOf LL = ll ∧ RowsIn (fun k => k < B) w A LL := by
  cases ll with
  | nil => exact ⟨[], rfl, ⟨fun i hi => absurd hi (by simp)⟩⟩
  | cons y t =>
    obtain ⟨ad, -, -, rfl, hB, -⟩ := h.out 0 (by simp)
    generalize hL : y :: t = L at h
    have hk : ∀ k, k ≤ L.length → ∃ LL : List (List El), LL.length = k ∧ keysOf LL = L.take k ∧ RowsIn (fun k => k < B) w (some ad) LL := fun k => by
      induction k with
      | zero => intro _; exact ⟨[], rfl, by simp [keysOf], ⟨fun i hi => absurd hi (by simp)⟩⟩
      | succ k ih =>
        intro hk
        obtain ⟨LL, h1, h2, h3⟩ := ih (by omega)
        obtain ⟨ad', Ai, ci, e, g1, g2, g3, g4⟩ := h.out k (by omega)
        obtain rfl := Option.some.inj e
        obtain ⟨xs, e1, e2, e3⟩ := els_of g4
        have exl : xs.length = (L[k]).length := by rw [← e1, List.length_map]
        refine ⟨LL ++ [xs], by simp [h1], ?_, ⟨fun j hj => ?_⟩⟩
        · rw [List.take_succ_eq_append_getElem (by omega), ← h2, ← e1]
          simp [keysOf]
        · by_cases hlt : j < LL.length
          · rw [List.getElem_append_left hlt]; exact h3.out j hlt
          · have : j = LL.length := by simp at hj; omega
            subst this
            rw [List.getElem_append_right (Nat.le_refl _)]
            simp only [Nat.sub_self, List.getElem_cons_zero]
            exact ⟨ad, Ai, ci, rfl, g1, by rw [h1, exl]; exact g2, by rw [exl]; exact g3, e2, e3⟩
    obtain ⟨LL, h1, h2, h3⟩ := hk L.length (Nat.le_refl _)
    exact ⟨LL, by rw [h2, List.take_length], h3⟩
/-- kmerge.Items of rows that are seen. -/
theorem Items_sees (A : Option Addr) (n c : Nat) (ll : List (List Item)) (w : World) (hS : Sees3 w w.heap.size A ll) (hn : ll.length = n) (hn6 : n ≤ 100000) (hl : ∀ r ∈ ll, r.length ≤ 1000000) (hf : ll.flatten.length ≤ 1000000000) (hy : ∀ r ∈ ll, ∀ y ∈ r, y.length ≤ 1099511627776) :
    Calls Tryz.prog 43 #[.slice A n c] w fun e w' => ∃ v, e = .returned v ∧ OwnQ (fun k => w.heap.size ≤ k ∧ k < w'.heap.size) w' w.heap.size v (uniqL ahead ll.flatten) ∧ Below w.heap.size w w' := by
  obtain ⟨LL, rfl, hR⟩ := rows_of hS
  have hf2 : LL.flatten.length ≤ 1000000000 := by rw [keysOf_flat, List.length_map] at hf; exact hf
  rw [keysOf_flat]
  exact Items_own A n c LL w hR (by rw [← hn]; simp [keysOf]) hn6 (fun r hr => by have := hl _ (List.mem_map_of_mem hr); simpa using this) hf2 fun r hr y hyr => hy _ (List.mem_map_of_mem hr) _ (List.mem_map_of_mem hyr)
end KB
end Go.Proofs.YtadakaenbemedaaGreatDoor

/-
  Rows that are put into a row of the call's own, one after another.
-/
namespace Go.Proofs.YtadakaenbemedaaGreatDoor.KB
open Go.RowKit

/-- Rows in a row of the call's own, v; their cells in blocks of m or new ones. -/
structure Pile (m : Nat → Prop) (n1 : Nat) (w : World) (v : Value) (L : List (List El)) : Prop where
  out : ∃ vs : List Value, w.ownsRow n1 31 1 v L.length vs ∧
    ∀ i (hi : i < L.length), ∃ Ai ci, vs[i]? = some (.slice Ai (L[i]).length ci) ∧ (L[i]).length ≤ ci ∧ SeesM (fun k => m k ∨ (n1 ≤ k ∧ k < w.heap.size ∧ v.ownBlock ≠ some k)) w Ai ((L[i]).map val)
  ok : ∀ r ∈ L, ∀ x ∈ r, EOk m w x
  apart : ∀ k, m k → k < n1
  low : n1 ≤ w.heap.size
section
variable {m : Nat → Prop} {n1 : Nat} {w w' w2 w3 : World} {v v' : Value} {L : List (List El)} {x : List El}
theorem Pile.nil (w : World) (m : Nat → Prop) (n1 : Nat) (ha : ∀ k, m k → k < n1) (hl : n1 ≤ w.heap.size) : Pile m n1 w (.slice none 0 0) [] :=
  ⟨⟨[], World.ownsRow_nil _ _ _ _, fun i hi => absurd hi (by simp)⟩, by simp, ha, hl⟩
theorem Pile.below (h : Pile m n1 w v L) (hb : Below w.heap.size w w') : Pile m n1 w' v L := by
  obtain ⟨vs, h1, h2⟩ := h.out
  have hs := hb.size
  have hlow := h.low
  have hk : Kept (fun k => m k ∨ (n1 ≤ k ∧ k < w.heap.size ∧ v.ownBlock ≠ some k)) w w' := Kept.of_below hb fun k e => by
    rcases e with e | e
    · have := h.apart k e; omega
    · exact e.2.1
  refine ⟨⟨vs, own_below h1 hb, fun i hi => ?_⟩, fun r hr x hx => (h.ok r hr x hx).keep (hk.mono fun k e => .inl e), h.apart, by omega⟩
  obtain ⟨Ai, ci, g1, g2, g3⟩ := h2 i hi
  exact ⟨Ai, ci, g1, g2, (g3.keep hk).mono fun k e => by rcases e with e | e; exact .inl e; exact .inr ⟨e.1, by omega, e.2.2⟩⟩
theorem Pile.own (h : Pile m n1 w v L) : ∃ vs : List Value, w.ownsRow n1 31 1 v L.length vs := let ⟨vs, h1, _⟩ := h.out; ⟨vs, h1⟩
/-- One more. -/
theorem Pile.push {A1 : Option Addr} {c1 : Nat} (h : Pile m n1 w v L) (hb : Below w.heap.size w w2)
    (hx : SeesM (fun k => m k ∨ (w.heap.size ≤ k ∧ k < w2.heap.size)) w2 A1 (x.map val)) (hxc : x.length ≤ c1) (hxo : ∀ y ∈ x, EOk m w y)
    (vs : List Value) (hvs : w.ownsRow n1 31 1 v L.length vs)
    (hvs2 : ∀ i (hi : i < L.length), ∃ Ai ci, vs[i]? = some (.slice Ai (L[i]).length ci) ∧ (L[i]).length ≤ ci ∧ SeesM (fun k => m k ∨ (n1 ≤ k ∧ k < w.heap.size ∧ v.ownBlock ≠ some k)) w Ai ((L[i]).map val))
    (hown : w3.ownsRow n1 31 1 v' (L.length + 1) (vs ++ [.slice A1 x.length c1])) (hon : Onto w2 w3 v v') : Pile m n1 w3 v' (L ++ [x]) := by
  have hs := hb.size
  have hs3 := hon.size
  have hlow := h.low
  have hlen : vs.length = L.length := by have := hvs.1; omega
  have hvl := World.ownsRow.lt hvs
  have hv' : ∀ k, k < w2.heap.size → v.ownBlock ≠ some k → v'.ownBlock ≠ some k := fun k hk hne e => by
    rcases hon.at_ with e2 | ⟨g, e2, hg⟩
    · exact hne (e2 ▸ e)
    · rw [e2] at e; injection e with e; omega
  have hmv : ∀ k, m k → v.ownBlock ≠ some k := fun k e e2 => by have := h.apart k e; have := (hvl k e2).1; omega
  have hk23 : ∀ k, k < w2.heap.size → v.ownBlock ≠ some k → w3.heap[k]? = w2.heap[k]? := fun k a b => hon.grown.block k a (fun e => b e.symm)
  have hkr : Kept (fun k => m k ∨ (n1 ≤ k ∧ k < w.heap.size ∧ v.ownBlock ≠ some k)) w w3 := fun k hk => by
    have hk1 : k < w.heap.size ∧ v.ownBlock ≠ some k := by
      rcases hk with e | e
      · exact ⟨by have := h.apart k e; omega, hmv k e⟩
      · exact e.2
    exact (hk23 k (by omega) hk1.2).trans (hb.block k hk1.1)
  refine ⟨⟨vs ++ [.slice A1 x.length c1], by rw [List.length_append]; exact hown, fun i hi => ?_⟩, fun r hr y hy => ?_, h.apart, by omega⟩
  · by_cases hlt : i < L.length
    · obtain ⟨Ai, ci, g1, g2, g3⟩ := hvs2 i hlt
      rw [List.getElem_append_left hlt, List.getElem?_append_left (by omega)]
      exact ⟨Ai, ci, g1, g2, (g3.keep hkr).mono fun k e => by
        rcases e with e | e
        · exact .inl e
        · exact .inr ⟨e.1, by omega, hv' k (by omega) e.2.2⟩⟩
    · have he : i = L.length := by simp at hi; omega
      subst he
      rw [List.getElem_append_right (Nat.le_refl _), List.getElem?_append_right (by omega)]
      refine ⟨A1, c1, by simp [hlen], by simpa using hxc, ?_⟩
      simp only [Nat.sub_self, List.getElem_cons_zero]
      have hne : ∀ k, w.heap.size ≤ k → v.ownBlock ≠ some k := fun k hk e => by have := (hvl k e).2; omega
      refine (hx.keep fun k e => ?_).mono fun k e => ?_
      · rcases e with e | e
        · exact hk23 k (by have := h.apart k e; omega) (hmv k e)
        · exact hk23 k e.2 (hne k e.1)
      · rcases e with e | e
        · exact .inl e
        · exact .inr ⟨by omega, by omega, hv' k e.2 (hne k e.1)⟩
  · rcases List.mem_append.1 hr with hr | hr
    · exact (h.ok r hr y hy).keep (hkr.mono fun k e => .inl e)
    · simp only [List.mem_singleton] at hr; subst hr
      exact (hxo y hy).keep (hkr.mono fun k e => .inl e)
theorem Pile.slice (h : Pile m n1 w v L) : ∃ A c, v = .slice A L.length c ∧ L.length ≤ c := by
  obtain ⟨vs, h1, h2⟩ := h.out
  rcases h1.2 with ⟨rfl, hn⟩ | ⟨g, cap, cur, rfl, -, -, hc, -⟩
  · exact ⟨none, 0, by rw [hn], by omega⟩
  · exact ⟨_, cap, rfl, hc⟩
/-- They can be handed in. -/
theorem Pile.rowsIn {A : Option Addr} {c : Nat} (h : Pile m n1 w (.slice A L.length c) L) : RowsIn (fun k => k < w.heap.size) w A L := ⟨fun i hi => by
  obtain ⟨vs, h1, h2⟩ := h.out
  have hlow := h.low
  obtain ⟨Ai, ci, g1, g2, g3⟩ := h2 i hi
  rcases h1.2 with ⟨e, hn⟩ | ⟨g, cap, cur, e, hg, hcur, hc, -⟩
  · omega
  · have hlt := World.ownsRow.lt h1 g (by rw [e]; rfl)
    have hcl := World.ownsRow.cells h1 (g := g) (by rw [e]; rfl) i _ g1
    injection e with e1 e2 e3
    refine ⟨⟨g, 0, none⟩, Ai, ci, e1, hlt.2, hcl, g2, g3.mono fun k e => ?_, fun x hx => (h.ok _ (List.getElem_mem hi) x hx).mono fun k e => ?_⟩
    · rcases e with e | e
      · have := h.apart k e; omega
      · exact e.2.1
    · have := h.apart k e; omega⟩
end
end Go.Proofs.YtadakaenbemedaaGreatDoor.KB

/-
  One more, again and again: plain lists.
-/
namespace Go.Proofs.YtadakaenbemedaaGreatDoor
section
variable {κ : Type} [DecidableEq κ] {lt : κ → κ → Bool}
/-- How many of the first are ahead of x, till one isn't. -/
def cutG (lt : κ → κ → Bool) (x : κ) : List κ → Nat
  | a :: t => if lt a x = true then cutG lt x t + 1 else 0
  | [] => 0
/-- A rising row with one more, once. -/
def putG (lt : κ → κ → Bool) (l : List κ) (x : κ) : List κ := if l[cutG lt x l]? = some x then l else l.take (cutG lt x l) ++ x :: l.drop (cutG lt x l)
omit [DecidableEq κ] in
theorem cutG_eq {x : κ} : ∀ {l : List κ} {k : Nat}, k ≤ l.length → (∀ j (h : j < l.length), j < k → lt l[j] x = true) → (∀ h : k < l.length, lt l[k] x = false) → cutG lt x l = k
  | [], k, h, _, _ => by have : k = 0 := by simpa using h
                         subst this; rfl
  | a :: t, 0, _, _, h2 => by
    have := h2 (by simp)
    simp only [List.getElem_cons_zero] at this
    simp [cutG, this]
  | a :: t, k + 1, h, h1, h2 => by
    have h0 := h1 0 (by simp) (by omega)
    simp only [List.getElem_cons_zero] at h0
    have ih := cutG_eq (l := t) (k := k) (by simpa using h) (fun j hj hjk => by have := h1 (j + 1) (by simpa using hj) (by omega); simpa using this) (fun hk => by have := h2 (by simpa using hk); simpa using this)
    simp [cutG, h0, ih]
theorem putG_cons (x a : κ) (t : List κ) : putG lt (a :: t) x = if lt a x = true then a :: putG lt t x else if a = x then a :: t else x :: a :: t := by
  by_cases ha : lt a x = true
  · have e : cutG lt x (a :: t) = cutG lt x t + 1 := by show (if _ then _ else _) = _; rw [if_pos ha]
    rw [if_pos ha]
    unfold putG
    rw [e, List.getElem?_cons_succ, List.take_succ_cons, List.drop_succ_cons]
    split <;> simp
  · have e : cutG lt x (a :: t) = 0 := by show (if _ then _ else _) = _; rw [if_neg ha]
    rw [if_neg ha]
    unfold putG
    rw [e]
    simp
theorem putG_mem (x : κ) : ∀ (l : List κ) (y : κ), y ∈ putG lt l x ↔ y = x ∨ y ∈ l
  | [], y => by simp [putG, cutG]
  | a :: t, y => by
    rw [putG_cons]
    split
    · rw [List.mem_cons, putG_mem x t y, List.mem_cons]
      constructor <;> (rintro (h | h | h) <;> simp [h])
    · split
      · rename_i h; subst h; simp
      · simp
theorem putG_ri (h : Ordr lt) (x : κ) : ∀ {l : List κ}, Ri lt l → Ri lt (putG lt l x)
  | [], _ => by simp [putG, cutG, Ri]
  | a :: t, hr => by
    have hr' := List.pairwise_cons.1 hr
    rw [putG_cons]
    split
    · rename_i ha
      refine List.pairwise_cons.2 ⟨fun y hy => ?_, putG_ri h x hr'.2⟩
      rcases (putG_mem x t y).1 hy with rfl | hy
      · exact ha
      · exact hr'.1 y hy
    · rename_i ha
      split
      · exact hr
      · rename_i hne
        have hxa : lt x a = true := by
          cases h2 : lt x a with
          | true => rfl
          | false => exact absurd (h.tri _ _ (by simpa using ha) h2) hne
        refine List.pairwise_cons.2 ⟨fun y hy => ?_, hr⟩
        rcases List.mem_cons.1 hy with rfl | hy
        · exact hxa
        · exact h.trans _ _ _ hxa (hr'.1 y hy)
theorem putG_len (x : κ) (l : List κ) : (putG lt l x).length ≤ l.length + 1 := by
  unfold putG
  split
  · omega
  · simp; omega
theorem fold_putG (h : Ordr lt) : ∀ (l out : List κ), Ri lt out → Ri lt (l.foldl (putG lt) out) ∧ ∀ y, y ∈ l.foldl (putG lt) out ↔ y ∈ out ∨ y ∈ l
  | [], out, hr => ⟨hr, fun y => by simp⟩
  | x :: t, out, hr => by
    obtain ⟨h1, h2⟩ := fold_putG h t (putG lt out x) (putG_ri h x hr)
    refine ⟨h1, fun y => ?_⟩
    rw [List.foldl_cons, h2, putG_mem, List.mem_cons]
    constructor <;> (rintro (g | g) <;> first | (rcases g with g | g <;> simp [g]) | simp [g])
theorem putG_all (h : Ordr lt) (l : List κ) : l.foldl (putG lt) [] = uniqL lt l := by
  obtain ⟨h1, h2⟩ := fold_putG h l [] List.Pairwise.nil
  exact (uniqL_of h h1 fun x => by rw [h2]; simp).symm
theorem fold_len (l : List κ) : ∀ out : List κ, (l.foldl (putG lt) out).length ≤ out.length + l.length := by
  induction l with
  | nil => intro out; simp
  | cons x t ih => intro out; have := ih (putG lt out x); have := putG_len (lt := lt) x out; simp only [List.foldl_cons, List.length_cons]; omega
end
end Go.Proofs.YtadakaenbemedaaGreatDoor

/-
  Rows of items put together for a call.
-/
namespace Go.Proofs.YtadakaenbemedaaGreatDoor
open Go.RowKit

theorem below_newB (w : World) (o : Obj) : Below w.heap.size w (w.alloc o) := (Below.refl _ w).alloc (Nat.le_refl _) _
theorem sees_mark' (w : World) (b : Nat) (hb : w.heap.size = b) (l : List UInt8) (t : TypeId) (m : Nat × Nat) (cs : Array Value) (h : cs = (bv l).toArray) : Sees (w.alloc (.cells cs t m)) (b + 1) (some ⟨b, 0, none⟩) (bv l) := by
  subst hb
  subst h
  refine ⟨.inr ⟨_, rfl, by simp, fun j u hu => ?_⟩⟩
  rw [Addr.add_lit, World.cell?_alloc_mark]
  simpa using hu
theorem run_const (w : World) (b : Nat) (hb : w.heap.size = b) (C : Array Value) (n c : Nat) :
    (convert 27 27 (.slice (some ⟨b, 0, none⟩) n c)).run Tryz.prog (w.alloc (.cells C 5)) = .ok (.slice (some ⟨b, 0, none⟩) n c) (w.alloc (.cells C 5 (C.size, C.size + 1))) := by
  subst hb
  exact Lib.run_convert_bytes_const (P := Tryz.prog) w 27 5 C n c Tryz.underlying27 Tryz.underlying5
/-- Rows of bytes in a block that was just made. -/
theorem Sees2.new (W : World) (b : Nat) (hb : W.heap.size = b) (cs : Array Value) (t : TypeId) (ls : List (List UInt8))
    (h : ∀ i (hi : i < ls.length), ∃ Ai ci, cs[i]? = some (.slice Ai (ls[i]).length ci) ∧ (ls[i]).length ≤ ci ∧ Sees W b Ai (bv ls[i])) : Sees2 (W.alloc (.cells cs t)) (b + 1) (some ⟨b, 0, none⟩) ls := by
  subst hb
  refine ⟨fun i hi => ?_⟩
  obtain ⟨Ai, ci, h1, h2, h3⟩ := h i hi
  exact ⟨_, Ai, ci, rfl, by simp, by rw [Addr.add_lit, World.cell?_alloc_at _ _ _ _ rfl]; simpa using h1, h2, (h3.alloc (Nat.le_refl _) _).more (by omega)⟩
theorem Sees2.alloc {w : World} {B : Nat} {A : Option Addr} {ls : List (List UInt8)} (h : Sees2 w B A ls) (hB : B ≤ w.heap.size) (o : Obj) : Sees2 (w.alloc o) B A ls :=
  h.below ((Below.refl B w).alloc hB o)
/-- Rows of rows in a block that was just made. -/
theorem Sees3.new (W : World) (b : Nat) (hb : W.heap.size = b) (cs : Array Value) (t : TypeId) (ll : List (List Item))
    (h : ∀ i (hi : i < ll.length), ∃ Ai ci, cs[i]? = some (.slice Ai (ll[i]).length ci) ∧ (ll[i]).length ≤ ci ∧ Sees2 W b Ai ll[i]) : Sees3 (W.alloc (.cells cs t)) (b + 1) (some ⟨b, 0, none⟩) ll := by
  subst hb
  refine ⟨fun i hi => ?_⟩
  obtain ⟨Ai, ci, h1, h2, h3⟩ := h i hi
  exact ⟨_, Ai, ci, rfl, by simp, by rw [Addr.add_lit, World.cell?_alloc_at _ _ _ _ rfl]; simpa using h1, h2, (h3.alloc (Nat.le_refl _) _).more (by omega)⟩
open KB

theorem rowsB_take {m : Nat → Prop} {w : World} {A : Option Addr} {LL : List (List El)} (h : KB.RowsIn m w A LL) (k : Nat) : KB.RowsIn m w A (LL.take k) := ⟨fun i hi => by
  obtain ⟨ad, Ai, ci, h1, h2, h3, h4, h5, h6⟩ := h.out i (by rw [List.length_take] at hi; omega)
  simp only [List.getElem_take]
  exact ⟨ad, Ai, ci, h1, h2, h3, h4, h5, h6⟩⟩
theorem rowsB_cut {m : Nat → Prop} {w : World} {A : Option Addr} {LL : List (List El)} (h : KB.RowsIn m w A LL) {k cap : Nat} (hc : LL.length ≤ cap) : KB.RowsIn m w (if cap = k then A else A.map (fun x => x.add k)) (LL.drop k) := ⟨fun i hi => by
  have hi' : k + i < LL.length := by rw [List.length_drop] at hi; omega
  obtain ⟨ad, Ai, ci, rfl, h2, h3, h4, h5, h6⟩ := h.out (k + i) hi'
  rw [if_neg (by omega)]
  simp only [List.getElem_drop]
  exact ⟨ad.add k, Ai, ci, rfl, by rw [add_block]; exact h2, by rw [add_add']; exact h3, h4, h5, h6⟩⟩
/-- A row of items that is seen: how it is handed on. -/
structure BRow (w : World) (A : Option Addr) (n c : Nat) (ls : List Item) : Prop where
  len : ls.length = n
  cap : n ≤ c
  few : n ≤ 10000
  short : ∀ x ∈ ls, x.length ≤ 1000
  sees : Sees2 w w.heap.size A ls
def BIs (w : World) (l : List Item) (e : Ending) (w' : World) : Prop := ∃ A c, e = .returned (.slice A l.length c) ∧ BRow w' A l.length c l ∧ Below w.heap.size w w'
section
variable {w w' : World} {A B C : Option Addr} {n m k c d e : Nat} {a b x : List Item}
theorem BRow.below (h : BRow w A n c a) (hb : Below w.heap.size w w') : BRow w' A n c a := ⟨h.len, h.cap, h.few, h.short, (h.sees.below hb).more hb.size⟩
theorem BIs.back {w1 : World} {l : List Item} {e : Ending} (hb : Below w.heap.size w w1) (h : BIs w1 l e w') : BIs w l e w' := by
  obtain ⟨A, c, h1, h2, h3⟩ := h
  exact ⟨A, c, h1, h2, hb.trans (h3.mono hb.size)⟩
theorem Items_rowsIn (A : Option Addr) (n c : Nat) (LL : List (List El)) (w : World) (hR : KB.RowsIn (fun k => k < w.heap.size) w A LL) (hn : LL.length = n) (hn6 : n ≤ 1000) (hf : LL.flatten.length ≤ 10000) (hy : ∀ r ∈ LL, ∀ y ∈ r, y.1.length ≤ 1000) :
    Calls Tryz.prog 43 #[.slice A n c] w (BIs w (uniqL ahead (LL.flatten.map key))) := by
  have hl : ∀ r ∈ LL, r.length ≤ 10000 := fun r hr => by
    have := List.Sublist.length_le (List.sublist_flatten_of_mem hr)
    omega
  refine (Items_own A n c LL w hR hn (by omega) (fun r hr => by have := hl r hr; omega) (by omega) fun r hr y hyr => by have := hy r hr y hyr; omega).mono ?_
  rintro e w' ⟨v, rfl, hown, hb⟩
  obtain ⟨A', c', rfl, hc', hS⟩ := hown.open_
  have hul := uniqL_len ordr (LL.flatten.map key)
  rw [List.length_map] at hul
  refine ⟨A', c', rfl, ⟨rfl, hc', Nat.le_trans hul hf, fun x hx => ?_, hS.sees fun k e => e.2⟩, hb⟩
  obtain ⟨y, hym, rfl⟩ := List.mem_map.1 ((uniqL_mem ordr _ _).1 hx)
  obtain ⟨r, hr, hyr⟩ := List.mem_flatten.1 hym
  exact hy r hr y hyr
theorem Items_s3 (A : Option Addr) (n c : Nat) (ll : List (List Item)) (w : World) (hS : Sees3 w w.heap.size A ll) (hn : ll.length = n) (hn6 : n ≤ 1000) (hf : ll.flatten.length ≤ 10000) (hy : ∀ r ∈ ll, ∀ y ∈ r, y.length ≤ 1000) :
    Calls Tryz.prog 43 #[.slice A n c] w (BIs w (uniqL ahead ll.flatten)) := by
  obtain ⟨LL, rfl, hR⟩ := rows_of hS
  have hf2 : LL.flatten.length ≤ 10000 := by rw [keysOf_flat, List.length_map] at hf; exact hf
  rw [keysOf_flat]
  exact Items_rowsIn A n c LL w hR (by rw [← hn]; simp [keysOf]) hn6 hf2 fun r hr y hyr => hy _ (List.mem_map_of_mem hr) _ (List.mem_map_of_mem hyr)
theorem items_2 (h : BRow w A n c a) (g : BRow w B m d b) (hle : n + m ≤ 10000) (bb : Nat) (hbb : w.heap.size = bb) : Calls Tryz.prog 43 #[.slice (some ⟨bb, 0, none⟩) 2 2] (w.alloc (.cells #[.slice A n c, .slice B m d] 31)) (BIs w (uniqL ahead (a ++ b))) := by
  have h1 := h.len
  have g1 := g.len
  have hS : Sees3 (w.alloc (.cells #[.slice A n c, .slice B m d] 31)) (bb + 1) (some ⟨bb, 0, none⟩) [a, b] := Sees3.new _ _ hbb _ _ _ fun i hi => by
    subst hbb
    match i, hi with
    | 0, _ => exact ⟨A, c, by rw [← h1]; rfl, by show a.length ≤ c; rw [h1]; exact h.cap, h.sees⟩
    | 1, _ => exact ⟨B, d, by rw [← g1]; rfl, by show b.length ≤ d; rw [g1]; exact g.cap, g.sees⟩
  have := Items_s3 (some ⟨bb, 0, none⟩) 2 2 [a, b] _ (hS.more (by simp; omega)) rfl (by omega) (by simp; omega) (by simp; exact ⟨h.short, g.short⟩)
  rw [show [a, b].flatten = a ++ b from by simp] at this
  exact this.mono fun e w' hr => hr.back (below_newB w _)
theorem items_3 (h : BRow w A n c a) (g : BRow w B m d b) (f : BRow w C k e x) (hle : n + m + k ≤ 10000) (bb : Nat) (hbb : w.heap.size = bb) : Calls Tryz.prog 43 #[.slice (some ⟨bb, 0, none⟩) 3 3] (w.alloc (.cells #[.slice A n c, .slice B m d, .slice C k e] 31)) (BIs w (uniqL ahead (a ++ b ++ x))) := by
  have h1 := h.len
  have g1 := g.len
  have f1 := f.len
  have hS : Sees3 (w.alloc (.cells #[.slice A n c, .slice B m d, .slice C k e] 31)) (bb + 1) (some ⟨bb, 0, none⟩) [a, b, x] := Sees3.new _ _ hbb _ _ _ fun i hi => by
    subst hbb
    match i, hi with
    | 0, _ => exact ⟨A, c, by rw [← h1]; rfl, by show a.length ≤ c; rw [h1]; exact h.cap, h.sees⟩
    | 1, _ => exact ⟨B, d, by rw [← g1]; rfl, by show b.length ≤ d; rw [g1]; exact g.cap, g.sees⟩
    | 2, _ => exact ⟨C, e, by rw [← f1]; rfl, by show x.length ≤ e; rw [f1]; exact f.cap, f.sees⟩
  have := Items_s3 (some ⟨bb, 0, none⟩) 3 3 [a, b, x] _ (hS.more (by simp; omega)) rfl (by omega) (by simp; omega) (by simp; exact ⟨h.short, g.short, f.short⟩)
  rw [show [a, b, x].flatten = a ++ b ++ x from by simp] at this
  exact this.mono fun e w' hr => hr.back (below_newB w _)
theorem items_1 (h : BRow w A n c a) (bb : Nat) (hbb : w.heap.size = bb) : Calls Tryz.prog 43 #[.slice (some ⟨bb, 0, none⟩) 1 1] (w.alloc (.cells #[.slice A n c] 31)) (BIs w (uniqL ahead a)) := by
  have h1 := h.len
  have h0 := h.few
  have hS : Sees3 (w.alloc (.cells #[.slice A n c] 31)) (bb + 1) (some ⟨bb, 0, none⟩) [a] := Sees3.new _ _ hbb _ _ _ fun i hi => by
    subst hbb
    match i, hi with
    | 0, _ => exact ⟨A, c, by rw [← h1]; rfl, by show a.length ≤ c; rw [h1]; exact h.cap, h.sees⟩
  have := Items_s3 (some ⟨bb, 0, none⟩) 1 1 [a] _ (hS.more (by simp; omega)) rfl (by omega) (by simp; omega) (by simp; exact h.short)
  rw [show [a].flatten = a from by simp] at this
  exact this.mono fun e w' hr => hr.back (below_newB w _)
theorem bsame (h : BRow w A n c a) (g : BRow w B m d b) (he : a = b) : Calls Tryz.prog 21 #[.slice A n c, .slice B m d] w (Gives w (.bool true)) :=
  (Same_any A B n c m d a b h.len g.len w h.sees g.sees (by have := h.few; omega)).mono fun _ _ h => by
    obtain ⟨h1, q, h2⟩ := h
    exact ⟨by rw [h1, he]; simp, by rw [h2]; exact below_d (Below.refl _ _) q⟩
end
/-- append of one row onto a pile, at an operation of a plain statement. -/
theorem wpList_append_p {w : World} {ops : Array Oper} {rest : List Oper} {o : Oper} {a : Act} {Q : Exit → Act → World → Prop} (hgd : o.guard = none) (s x : Operand)
    (ho : o.op = .call { callee := .builtin .append, args := #[s, x], argTypes := #[36, 36] })
    (base : Nat) (v : Value) (n : Nat) (vs : List Value) (hs : a.eval s = v) (hown : w.ownsRow base 31 1 v n vs) (B : Nat) (A : Option Addr) (u : Value) (hx : a.eval x = .slice A 1 1) (hsee : Sees w B A [u]) (hu : u.oneCell' = true)
    (hlen : n ≤ 100000) (hbase : base ≤ w.heap.size)
    (h : ∀ v' w', w'.ownsRow base 31 1 v' (n + 1) (vs ++ [u]) → Onto w w' v v' → wpList Tryz.prog ops Q rest (a.put o.dst v') w') : wpList Tryz.prog ops Q (o :: rest) a w := by
  obtain ⟨ti, hi, hy0, hy1, hy2⟩ := info_parts KB.rowinfo
  exact wpList_append_v hgd s x 36 ho 31 ti _ 1 24 Tryz.underlying36 hi hy0 hy1 hy2 rfl (by omega) base v n vs hs hown B A 1 1 [u] hx rfl hsee (fun y hy => by simp at hy; subst hy; exact hu) (by simp only [maxLen]; omega) (by omega) hbase h
theorem sees_cell (w : World) (bb : Nat) (hbb : w.heap.size = bb) (u : Value) (t : TypeId) : Sees (w.alloc (.cells #[u] t)) (bb + 1) (some ⟨bb, 0, none⟩) [u] := by
  subst hbb
  exact ⟨.inr ⟨_, rfl, by simp, fun j x hx => by match j, hx with | 0, hx => (simp at hx; subst hx; rw [Addr.add_lit, World.cell?_alloc_at _ _ _ _ rfl]; rfl)⟩⟩
end Go.Proofs.YtadakaenbemedaaGreatDoor

/-
  The document's put and Items of rows of items, walked.
-/
namespace Go.Proofs.YtadakaenbemedaaGreatDoor.KB
open Go.RowKit

/-- put, of items where they lie. -/
def putE (xs : List El) (x : El) : List El := if (xs.map key)[cutG ahead (key x) (xs.map key)]? = some (key x) then xs else xs.take (cutG ahead (key x) (xs.map key)) ++ x :: xs.drop (cutG ahead (key x) (xs.map key))
theorem putE_key (xs : List El) (x : El) : (putE xs x).map key = putG ahead (xs.map key) (key x) := by
  unfold putE putG
  split
  · rfl
  · rw [List.map_append, List.map_take, List.map_cons, List.map_drop]
theorem putE_mem {xs : List El} {x y : El} (h : y ∈ putE xs x) : y = x ∨ y ∈ xs := by
  unfold putE at h
  split at h
  · exact .inr h
  · rcases List.mem_append.1 h with h | h
    · exact .inr (List.mem_of_mem_take h)
    · rcases List.mem_cons.1 h with h | h
      · exact .inl h
      · exact .inr (List.mem_of_mem_drop h)
theorem putE_len (xs : List El) (x : El) : (putE xs x).length ≤ xs.length + 1 := by
  unfold putE
  split
  · omega
  · simp only [List.length_append, List.length_cons, List.length_take, List.length_drop]; omega
/-- A row of items where they lie, given back. -/
def RowE (mo : Nat → Prop) (w : World) (xs : List El) (e : Ending) (w' : World) : Prop := ∃ A c, e = .returned (.slice A xs.length c) ∧ xs.length ≤ c ∧ SeesM (fun k => mo k ∨ (w.heap.size ≤ k ∧ k < w'.heap.size)) w' A (xs.map val) ∧ Below w.heap.size w w'
theorem val_ones (l : List El) : ∀ u ∈ l.map val, u.oneCell' = true := fun u hu => by obtain ⟨y, _, rfl⟩ := List.mem_map.1 hu; rfl
theorem wpList_append_e {w : World} {ops : Array Oper} {rest : List Oper} {o : Oper} {a : Act} {Q : Exit → Act → World → Prop} (hgd : o.guard = none) (s x : Operand)
    (ho : o.op = .call { callee := .builtin .append, args := #[s, x], argTypes := #[31, 31] })
    (base : Nat) (v : Value) (l : List El) (hs : a.eval s = v) (hown : w.ownsRow base 27 1 v l.length (l.map val)) (B : Nat) (A : Option Addr) (m c : Nat) (news : List El) (hx : a.eval x = .slice A m c) (hm : news.length = m) (hsee : Sees w B A (news.map val))
    (hlen : l.length + news.length ≤ 1099511627776) (hbase : base ≤ w.heap.size)
    (h : ∀ v' w', w'.ownsRow base 27 1 v' (l ++ news).length ((l ++ news).map val) → Onto w w' v v' → wpList Tryz.prog ops Q rest (a.put o.dst v') w') : wpList Tryz.prog ops Q (o :: rest) a w := by
  obtain ⟨ti, hi, hy0, hy1, hy2⟩ := info_parts (show (Tryz.prog.info? 27).map (fun i => (i.zero, i.size, i.bytes)) = some (some (.slice none 0 0), 1, 24) by kernel_rfl)
  subst hm
  refine wpList_append_v hgd s x 31 ho 27 ti _ 1 24 Tryz.underlying31 hi hy0 hy1 hy2 rfl (by omega) base v l.length (l.map val) hs hown B A news.length c (news.map val) hx (by rw [List.length_map, Nat.mul_one]) hsee (val_ones news) (by simp only [maxLen]; omega) (by omega) hbase (fun v' w' h1 h2 => h v' w' ?_ h2)
  rw [List.length_append, List.map_append]
  exact h1
theorem own_rowE {mo : Nat → Prop} {w w' : World} {v : Value} {l : List El} (h : w'.ownsRow w.heap.size 27 1 v l.length (l.map val)) (hb : Below w.heap.size w w') : RowE mo w l (.returned v) w' := by
  rcases h.2 with ⟨rfl, hn⟩ | ⟨g, cap, cur, rfl, hg, hh, hc, -⟩
  · exact ⟨none, 0, by rw [hn], by omega, ⟨.inl (by rw [List.eq_nil_of_length_eq_zero hn]; rfl)⟩, hb⟩
  · refine ⟨_, cap, rfl, hc, ⟨.inr ⟨⟨g, 0, none⟩, rfl, .inr ⟨hg, (Array.getElem?_eq_some_iff.1 hh).1⟩, h.cells (g := g) (by simp [Value.ownBlock])⟩⟩, hb⟩

set_option maxRecDepth 100000 in
set_option maxHeartbeats 1600000 in
theorem put_any (mo : Nat → Prop) (A : Option Addr) (n c : Nat) (xs : List El) (x : El) (hn : xs.length = n) (hnc : n ≤ c) (w : World) (hSM : SeesM mo w A (xs.map val)) (hmo : ∀ k, mo k → k < w.heap.size) (hok : ∀ y ∈ xs, EOk (fun k => k < w.heap.size) w y) (hx : EOk (fun k => k < w.heap.size) w x) (hlen : n ≤ 1000000000) :
    Calls Tryz.prog 60 #[.slice A n c, val x] w (RowE mo w (putE xs x)) := by
  have hS : Sees w w.heap.size A (xs.map val) := hSM.sees hmo
  have HSM := Lib.hid hSM
  clear hSM hmo
  obtain ⟨R, hR⟩ : ∃ R, putE xs x = R := ⟨_, rfl⟩
  rw [hR]
  have HR := Lib.hid hR
  have HN := Lib.hid hn
  have HOK := Lib.hid hok
  obtain ⟨xk, xA, xc⟩ := x
  have cv2 := fun p => run_str (w.drewN p) _ xA xk.length xc xk ((hx.sees.sees fun k e => e).drewN p) rfl
  have hxl : Hid (xk.length ≤ xc) := hx.cap
  clear hn hR hok hx
  simp only [val]
  go_enter Tryz.func60, Tryz.ntmps60
  go_wp2
  go_loopg [5] n (fun g i wr => ∃ k : Nat, k + g = n ∧ i = .int .i64 k ∧ Hid (∀ j (h : j < (xs.map key).length), j < k → ahead (xs.map key)[j] xk = true) ∧ ∃ q, wr = w.drewN q)
  case atStart => exact ⟨0, by omega, rfl, fun j h h0 => absurd h0 (by omega), 0, rfl⟩
  case round =>
    obtain ⟨k, hk, rfl, hah, q, rfl⟩ := hrel
    have hkl' : (xs.map key).length = n := by rw [List.length_map]; exact HN.out
    have hfin : (∀ h : k < (xs.map key).length, ahead (xs.map key)[k] xk = false) → Hid (R = if (xs.map key)[k]? = some xk then xs else xs.take k ++ (xk, xA, xc) :: xs.drop k) := fun h => by
      unfold Hid
      rw [← HR.out]
      unfold putE
      rw [show key (xk, xA, xc) = xk from rfl, cutG_eq (by omega) hah.out h]
    have HKL := Lib.hid hkl'
    clear hkl'
    by_cases hlt : k < n
    · obtain ⟨ad, rfl, hb, hcell⟩ := hS.at_ (k := k) (by rw [List.length_map]; have := HN.out; omega)
      have hkl : k < xs.length := by have := HN.out; omega
      have hgk : (xs.map key)[k]? = some (key xs[k]) := by rw [List.getElem?_map, List.getElem?_eq_getElem hkl]; rfl
      have hgk2 : (xs.map key)[k]'(by rw [List.length_map]; exact hkl) = key xs[k] := List.getElem_map ..
      have hyok := HOK.out _ (List.getElem_mem hkl)
      rw [List.getElem_map] at hcell
      obtain ⟨y, hy⟩ : ∃ y, xs[k] = y := ⟨_, rfl⟩
      rw [hy] at hcell hyok hgk hgk2
      obtain ⟨yk, yA, yc⟩ := y
      have cv1 := fun p => run_str (w.drewN p) _ yA yk.length yc yk ((hyok.sees.sees fun k e => e).drewN p) rfl
      simp only [val] at hcell
      rw [show key (yk, yA, yc) = yk from rfl] at hgk hgk2
      have hble : Op.bytesLess (strOf yk).toList (strOf xk).toList = ahead yk xk := by rw [strOf_toList, strOf_toList]; rfl
      by_cases hyx : ahead yk xk = true
      · have hT : Hid (∀ j (h : j < (xs.map key).length), j < k + 1 → ahead (xs.map key)[j] xk = true) := fun j h hj => by
          by_cases e : j = k
          · subst e; rw [hgk2]; exact hyx
          · exact hah.out j h (by omega)
        rw [hyx] at hble
        clear hah hfin hgk hgk2 hyx hy hyok
        go_wp2
        go_quiet (fail)
        go_wp2
        go_roundg (n - (k + 1))
        case measure => omega
        case rel => exact ⟨k + 1, by omega, by go_num, hT, _, rfl⟩
      · rw [Bool.not_eq_true] at hyx
        have hF := hfin (fun h => by rw [hgk2]; exact hyx)
        rw [hyx] at hble
        have hbeq : ((strOf yk).toList == (strOf xk).toList) = (yk == xk) := by rw [strOf_toList, strOf_toList]
        by_cases hxy : yk = xk
        · have HF : Hid (R = xs) := by have := hF.out; rw [hgk, hxy, if_pos rfl] at this; exact this
          rw [show (yk == xk) = true from by simpa using hxy] at hbeq
          clear hah hfin hgk hgk2 hF hxy hyx hy hyok
          go_wp2
          go_quiet (fail)
          go_wp2
          go_quiet (fail)
          go_wp2
          go_ret
          rw [HF.out]
          exact ⟨some ad, c, by rw [HN.out]; rfl, by rw [HN.out]; exact hnc, ((HSM.out.keep (Kept.drewN _ _ _)).keep (Kept.drewN _ _ _) |>.keep (Kept.drewN _ _ _)).mono fun k e => .inl e, below_d (below_d (below_d (Below.refl _ _) _) _) _⟩
        · have HF : Hid (R = xs.take k ++ (xk, xA, xc) :: xs.drop k) := by
            have := hF.out
            rw [hgk, if_neg (fun e => hxy (Option.some.inj e))] at this
            exact this
          rw [show (yk == xk) = false from by simpa using hxy] at hbeq
          have h1 := hS.take k
          rw [← List.map_take] at h1
          have h2 := Sees.cut' hS k
          rw [← List.map_drop] at h2
          have hlt1 : (xs.take k).length = k := by rw [List.length_take]; omega
          have hld : (xs.drop k).length = n - k := by rw [List.length_drop, HN.out]
          have HLT := Lib.hid hlt1
          have HLD := Lib.hid hld
          have hck : ¬ c = k := by omega
          have hkc : (k : Int) ≤ (c : Int) := by omega
          have hkn : (k : Int) ≤ (n : Int) := by omega
          have hl1 : (xs.take k).length ≤ 1000000000 := by omega
          have hl2 : (xs.drop k).length ≤ 1000000000 := by omega
          have HL1 := Lib.hid hl1
          have HL2 := Lib.hid hl2
          clear hah hfin hgk hgk2 hF hxy hyx hy hyok hlt1 hld hl1 hl2
          go_wp2
          go_quiet (fail)
          go_wp2
          go_quiet (fail)
          go_wp2_with (first
            | (at_builtin; refine wpList_append_e rfl (.tmp 38) (.tmp 41) rfl w.heap.size (.slice none 0 0) [] (by rfl) (World.ownsRow_nil _ _ _ _) w.heap.size (some ad) k c (xs.take k) (by rfl) HLT.out (h1.drewN _) (by have := HL1.out; simp; omega) (Nat.le_refl _) ?_; intro v1 w1 hown1 hon1; rw [List.nil_append] at hown1; have hb1' : Below w.heap.size w w1 := (below_d (Below.refl _ w) _).trans hon1.below_nil; have hs1 := hb1'.size; have hsee1 : Sees (w1.alloc (.cells #[.slice xA xk.length xc] 27)) (w1.heap.size + 1) (some ⟨w1.heap.size, 0, none⟩) ([(xk, xA, xc)].map val) := sees_cell w1 _ rfl _ _; have hown1' := hown1.alloc (.cells #[.slice xA xk.length xc] 27))
            | (at_builtin; refine wpList_append_e rfl (.tmp 43) (.tmp 45) rfl w.heap.size v1 (xs.take k) (by rfl) hown1' _ (some ⟨w1.heap.size, 0, none⟩) 1 1 [(xk, xA, xc)] (by rfl) rfl hsee1 (by have := HL1.out; simp; omega) (by simp; omega) ?_; intro v2 w2 hown2 hon2; have hb2 : Below w.heap.size w w2 := hb1'.trans ((((Below.refl _ w1).alloc (Nat.le_refl _) (.cells #[.slice xA xk.length xc] 27)).mono hs1).trans (hon2.below (by simp; omega) (fun j hj => (World.ownsRow.lt hown1 j hj).1))); have hs2 := hb2.size; have hsee2 := h2.below hb2)
            | (at_builtin; refine wpList_append_e rfl (.tmp 47) (.tmp 50) rfl w.heap.size v2 (xs.take k ++ [(xk, xA, xc)]) (by rfl) hown2 _ _ (n - k) (c - k) (xs.drop k) (by rfl) HLD.out hsee2 (by have := HL1.out; have := HL2.out; simp only [List.length_append, List.length_singleton]; omega) hs2 ?_; intro v3 w3 hown3 hon3; have hb3 : Below w.heap.size w w3 := hb2.trans (hon3.below hs2 (fun j hj => (World.ownsRow.lt hown2 j hj).1))))
          go_ret
          rw [HF.out, show xs.take k ++ (xk, xA, xc) :: xs.drop k = xs.take k ++ [(xk, xA, xc)] ++ xs.drop k from by simp]
          exact own_rowE hown3 hb3
    · have hkn0 : k = n := by omega
      have hF := hfin (fun h => absurd h (by have := HKL.out; omega))
      have HF : Hid (R = xs ++ [(xk, xA, xc)]) := by
        have := hF.out
        rw [List.getElem?_eq_none (by have := HKL.out; omega), if_neg (by simp), List.take_of_length_le (by have := HN.out; omega), List.drop_eq_nil_of_le (by have := HN.out; omega)] at this
        exact this
      subst hkn0
      have hkc : (k : Int) ≤ (c : Int) := by omega
      clear hah hfin hF
      cases A with
      | none =>
        by_cases hck : c = k
        · go_wp2
          go_quiet (fail)
          go_wp2
          go_quiet (fail)
          go_wp2_with (first
            | (at_builtin; refine wpList_append_e rfl (.tmp 38) (.tmp 41) rfl w.heap.size (.slice none 0 0) [] (by rfl) (World.ownsRow_nil _ _ _ _) w.heap.size none _ _ (xs) (by rfl) HN.out (hS.drewN _) (by have := HN.out; simp; omega) (Nat.le_refl _) ?_; intro v1 w1 hown1 hon1; rw [List.nil_append] at hown1; have hb1' : Below w.heap.size w w1 := (below_d (Below.refl _ w) _).trans hon1.below_nil; have hs1 := hb1'.size; have hsee1 : Sees (w1.alloc (.cells #[.slice xA xk.length xc] 27)) (w1.heap.size + 1) (some ⟨w1.heap.size, 0, none⟩) ([(xk, xA, xc)].map val) := sees_cell w1 _ rfl _ _; have hown1' := hown1.alloc (.cells #[.slice xA xk.length xc] 27))
            | (at_builtin; refine wpList_append_e rfl (.tmp 43) (.tmp 45) rfl w.heap.size v1 (xs) (by rfl) hown1' _ (some ⟨w1.heap.size, 0, none⟩) 1 1 [(xk, xA, xc)] (by rfl) rfl hsee1 (by have := HN.out; simp; omega) (by simp; omega) ?_; intro v2 w2 hown2 hon2; have hb2 : Below w.heap.size w w2 := hb1'.trans ((((Below.refl _ w1).alloc (Nat.le_refl _) (.cells #[.slice xA xk.length xc] 27)).mono hs1).trans (hon2.below (by simp; omega) (fun j hj => (World.ownsRow.lt hown1 j hj).1))); have hs2 := hb2.size)
            | (at_builtin; refine wpList_append_e rfl (.tmp 47) (.tmp 50) rfl w.heap.size v2 (xs ++ [(xk, xA, xc)]) (by rfl) hown2 _ _ _ _ [] (by rfl) (by simp) (Sees.nil _ w2.heap.size _) (by have := HN.out; simp only [List.length_append, List.length_singleton, List.length_nil]; omega) hs2 ?_; intro v3 w3 hown3 hon3; rw [List.append_nil] at hown3; have hb3 : Below w.heap.size w w3 := hb2.trans (hon3.below hs2 (fun j hj => (World.ownsRow.lt hown2 j hj).1))))
          go_ret
          rw [HF.out]
          exact own_rowE hown3 hb3
        · go_wp2
          go_quiet (fail)
          go_wp2
          go_quiet (fail)
          go_wp2_with (first
            | (at_builtin; refine wpList_append_e rfl (.tmp 38) (.tmp 41) rfl w.heap.size (.slice none 0 0) [] (by rfl) (World.ownsRow_nil _ _ _ _) w.heap.size none _ _ (xs) (by rfl) HN.out (hS.drewN _) (by have := HN.out; simp; omega) (Nat.le_refl _) ?_; intro v1 w1 hown1 hon1; rw [List.nil_append] at hown1; have hb1' : Below w.heap.size w w1 := (below_d (Below.refl _ w) _).trans hon1.below_nil; have hs1 := hb1'.size; have hsee1 : Sees (w1.alloc (.cells #[.slice xA xk.length xc] 27)) (w1.heap.size + 1) (some ⟨w1.heap.size, 0, none⟩) ([(xk, xA, xc)].map val) := sees_cell w1 _ rfl _ _; have hown1' := hown1.alloc (.cells #[.slice xA xk.length xc] 27))
            | (at_builtin; refine wpList_append_e rfl (.tmp 43) (.tmp 45) rfl w.heap.size v1 (xs) (by rfl) hown1' _ (some ⟨w1.heap.size, 0, none⟩) 1 1 [(xk, xA, xc)] (by rfl) rfl hsee1 (by have := HN.out; simp; omega) (by simp; omega) ?_; intro v2 w2 hown2 hon2; have hb2 : Below w.heap.size w w2 := hb1'.trans ((((Below.refl _ w1).alloc (Nat.le_refl _) (.cells #[.slice xA xk.length xc] 27)).mono hs1).trans (hon2.below (by simp; omega) (fun j hj => (World.ownsRow.lt hown1 j hj).1))); have hs2 := hb2.size)
            | (at_builtin; refine wpList_append_e rfl (.tmp 47) (.tmp 50) rfl w.heap.size v2 (xs ++ [(xk, xA, xc)]) (by rfl) hown2 _ _ _ _ [] (by rfl) (by simp) (Sees.nil _ w2.heap.size _) (by have := HN.out; simp only [List.length_append, List.length_singleton, List.length_nil]; omega) hs2 ?_; intro v3 w3 hown3 hon3; rw [List.append_nil] at hown3; have hb3 : Below w.heap.size w w3 := hb2.trans (hon3.below hs2 (fun j hj => (World.ownsRow.lt hown2 j hj).1))))
          go_ret
          rw [HF.out]
          exact own_rowE hown3 hb3
      | some ad =>
        by_cases hck : c = k
        · go_wp2
          go_quiet (fail)
          go_wp2
          go_quiet (fail)
          go_wp2_with (first
            | (at_builtin; refine wpList_append_e rfl (.tmp 38) (.tmp 41) rfl w.heap.size (.slice none 0 0) [] (by rfl) (World.ownsRow_nil _ _ _ _) w.heap.size (some ad) _ _ (xs) (by rfl) HN.out (hS.drewN _) (by have := HN.out; simp; omega) (Nat.le_refl _) ?_; intro v1 w1 hown1 hon1; rw [List.nil_append] at hown1; have hb1' : Below w.heap.size w w1 := (below_d (Below.refl _ w) _).trans hon1.below_nil; have hs1 := hb1'.size; have hsee1 : Sees (w1.alloc (.cells #[.slice xA xk.length xc] 27)) (w1.heap.size + 1) (some ⟨w1.heap.size, 0, none⟩) ([(xk, xA, xc)].map val) := sees_cell w1 _ rfl _ _; have hown1' := hown1.alloc (.cells #[.slice xA xk.length xc] 27))
            | (at_builtin; refine wpList_append_e rfl (.tmp 43) (.tmp 45) rfl w.heap.size v1 (xs) (by rfl) hown1' _ (some ⟨w1.heap.size, 0, none⟩) 1 1 [(xk, xA, xc)] (by rfl) rfl hsee1 (by have := HN.out; simp; omega) (by simp; omega) ?_; intro v2 w2 hown2 hon2; have hb2 : Below w.heap.size w w2 := hb1'.trans ((((Below.refl _ w1).alloc (Nat.le_refl _) (.cells #[.slice xA xk.length xc] 27)).mono hs1).trans (hon2.below (by simp; omega) (fun j hj => (World.ownsRow.lt hown1 j hj).1))); have hs2 := hb2.size)
            | (at_builtin; refine wpList_append_e rfl (.tmp 47) (.tmp 50) rfl w.heap.size v2 (xs ++ [(xk, xA, xc)]) (by rfl) hown2 _ _ _ _ [] (by rfl) (by simp) (Sees.nil _ w2.heap.size _) (by have := HN.out; simp only [List.length_append, List.length_singleton, List.length_nil]; omega) hs2 ?_; intro v3 w3 hown3 hon3; rw [List.append_nil] at hown3; have hb3 : Below w.heap.size w w3 := hb2.trans (hon3.below hs2 (fun j hj => (World.ownsRow.lt hown2 j hj).1))))
          go_ret
          rw [HF.out]
          exact own_rowE hown3 hb3
        · go_wp2
          go_quiet (fail)
          go_wp2
          go_quiet (fail)
          go_wp2_with (first
            | (at_builtin; refine wpList_append_e rfl (.tmp 38) (.tmp 41) rfl w.heap.size (.slice none 0 0) [] (by rfl) (World.ownsRow_nil _ _ _ _) w.heap.size (some ad) _ _ (xs) (by rfl) HN.out (hS.drewN _) (by have := HN.out; simp; omega) (Nat.le_refl _) ?_; intro v1 w1 hown1 hon1; rw [List.nil_append] at hown1; have hb1' : Below w.heap.size w w1 := (below_d (Below.refl _ w) _).trans hon1.below_nil; have hs1 := hb1'.size; have hsee1 : Sees (w1.alloc (.cells #[.slice xA xk.length xc] 27)) (w1.heap.size + 1) (some ⟨w1.heap.size, 0, none⟩) ([(xk, xA, xc)].map val) := sees_cell w1 _ rfl _ _; have hown1' := hown1.alloc (.cells #[.slice xA xk.length xc] 27))
            | (at_builtin; refine wpList_append_e rfl (.tmp 43) (.tmp 45) rfl w.heap.size v1 (xs) (by rfl) hown1' _ (some ⟨w1.heap.size, 0, none⟩) 1 1 [(xk, xA, xc)] (by rfl) rfl hsee1 (by have := HN.out; simp; omega) (by simp; omega) ?_; intro v2 w2 hown2 hon2; have hb2 : Below w.heap.size w w2 := hb1'.trans ((((Below.refl _ w1).alloc (Nat.le_refl _) (.cells #[.slice xA xk.length xc] 27)).mono hs1).trans (hon2.below (by simp; omega) (fun j hj => (World.ownsRow.lt hown1 j hj).1))); have hs2 := hb2.size)
            | (at_builtin; refine wpList_append_e rfl (.tmp 47) (.tmp 50) rfl w.heap.size v2 (xs ++ [(xk, xA, xc)]) (by rfl) hown2 _ _ _ _ [] (by rfl) (by simp) (Sees.nil _ w2.heap.size _) (by have := HN.out; simp only [List.length_append, List.length_singleton, List.length_nil]; omega) hs2 ?_; intro v3 w3 hown3 hon3; rw [List.append_nil] at hown3; have hb3 : Below w.heap.size w w3 := hb2.trans (hon3.below hs2 (fun j hj => (World.ownsRow.lt hown2 j hj).1))))
          go_ret
          rw [HF.out]
          exact own_rowE hown3 hb3
theorem sees2_of {w : World} {B : Nat} {A : Option Addr} {xs : List El} (h : Sees w B A (xs.map val)) (hok : ∀ x ∈ xs, EOk (fun k => k < B) w x) : Sees2 w B A (xs.map key) := ⟨fun i hi => by
  have hi' : i < xs.length := by simpa using hi
  obtain ⟨ad, e, hb, hc⟩ := h.at_ (k := i) (by simpa using hi')
  have hx := hok _ (List.getElem_mem hi')
  rw [List.getElem_map] at hc
  simp only [List.getElem_map]
  exact ⟨ad, (xs[i]).2.1, (xs[i]).2.2, e, hb, hc, hx.cap, hx.sees.sees fun k e => e⟩⟩
theorem take_flatE {ll : List (List El)} {k : Nat} (h : k < ll.length) : (ll.take (k + 1)).flatten = (ll.take k).flatten ++ ll[k] := by
  rw [List.take_succ_eq_append_getElem h, List.flatten_append]; simp
theorem flat_leE (ll : List (List El)) (k j : Nat) (h : k < ll.length) : ((ll.take k).flatten ++ (ll[k]).take j).length ≤ ll.flatten.length := by
  have e : ll.flatten = (ll.take k).flatten ++ (ll[k] ++ (ll.drop (k + 1)).flatten) := by
    rw [← List.flatten_cons, ← List.drop_eq_getElem_cons h, ← List.flatten_append, List.take_append_drop]
  rw [e]
  simp only [List.length_append, List.length_take]
  omega

theorem sees2M_of {m : Nat → Prop} {w : World} {A : Option Addr} {xs : List El} (h : SeesM m w A (xs.map val)) (hok : ∀ x ∈ xs, EOk m w x) : Sees2M m w A (xs.map key) := ⟨fun i hi => by
  have hi' : i < xs.length := by simpa using hi
  rcases h.out with h | ⟨ad, e, hb, hc⟩
  · have : xs.length = 0 := by rw [← List.length_map (f := val), h]; rfl
    omega
  have hx := hok _ (List.getElem_mem hi')
  simp only [List.getElem_map]
  exact ⟨ad, (xs[i]).2.1, (xs[i]).2.2, e, hb, hc i _ (by rw [List.getElem?_map, List.getElem?_eq_getElem hi']; rfl), hx.cap, hx.sees⟩⟩
def BIsM (m : Nat → Prop) (w : World) (l : List Item) (e : Ending) (w' : World) : Prop := ∃ A c, e = .returned (.slice A l.length c) ∧ BRow w' A l.length c l ∧ Sees2M (fun k => m k ∨ (w.heap.size ≤ k ∧ k < w'.heap.size)) w' A l ∧ Below w.heap.size w w'

set_option maxRecDepth 100000 in
set_option maxHeartbeats 1600000 in
theorem RefItems_any (m : Nat → Prop) (A : Option Addr) (n c : Nat) (ll : List (List El)) (w : World) (hR : KB.RowsIn m w A ll) (hm : ∀ k, m k → k < w.heap.size) (hn : ll.length = n) (hn6 : n ≤ 1000) (hK : ll.flatten.length ≤ 10000) (hsh : ∀ r ∈ ll, ∀ y ∈ r, y.1.length ≤ 1000) :
    Calls Tryz.prog 36 #[.slice A n c] w (BIsM m w (uniqL ahead (ll.flatten.map key))) := by
  have hU := putG_all (lt := ahead) ordr (ll.flatten.map key)
  obtain ⟨U, hUU⟩ : ∃ U, uniqL ahead (ll.flatten.map key) = U := ⟨_, rfl⟩
  rw [hUU] at hU ⊢
  have HU := Lib.hid hU
  have HN := Lib.hid hn
  have HKL := Lib.hid hK
  have HOK := Lib.hid (fun y (hy : y ∈ ll.flatten) => (by
    obtain ⟨r, hr, hyr⟩ := List.mem_flatten.1 hy
    obtain ⟨i, hi, rfl⟩ := List.mem_iff_getElem.1 hr
    obtain ⟨_, _, _, _, _, _, _, _, h6⟩ := hR.out i hi
    exact ⟨h6 y hyr, hsh _ hr y hyr⟩ : EOk m w y ∧ y.1.length ≤ 1000))
  clear hU hUU hn hK hsh
  go_enter Tryz.func36, Tryz.ntmps36
  go_wp2
  go_loopg [3, 4] n (fun g o i wr => ∃ (k : Nat) (Ao : Option Addr) (lo co : Nat) (out : List El), k + g = n ∧ i = .int .i64 k ∧ o = .slice Ao lo co ∧ Hid (out.length = lo) ∧ lo ≤ co ∧ Hid (out.map key = ((ll.take k).flatten.map key).foldl (putG ahead) []) ∧ Hid (∀ y ∈ out, y ∈ ll.flatten) ∧ SeesM (fun k => w.heap.size ≤ k ∧ k < wr.heap.size) wr Ao (out.map val) ∧ Below w.heap.size w wr)
  case atStart => exact ⟨0, none, 0, 0, [], by omega, rfl, rfl, rfl, Nat.le_refl _, rfl, (fun y hy => absurd hy (by simp)), ⟨.inl rfl⟩, Below.refl _ _⟩
  case round =>
    obtain ⟨k, Ao, lo, co, out, hk, rfl, rfl, hlo, hloc, hout, hin, hsee, hb⟩ := hrel
    by_cases hlt : k < n
    · obtain ⟨ad, Ak, ck, rfl, hadm, hcell0, hck, hrow, -⟩ := hR.out k (by have := HN.out; omega)
      have htf := take_flatE (ll := ll) (k := k) (by have := HN.out; omega)
      have hfl := fun j => flat_leE ll k j (by have := HN.out; omega)
      have hmr : ∀ y ∈ ll[k]'(by have := HN.out; omega), y ∈ ll.flatten := fun y hy => List.mem_flatten.2 ⟨_, List.getElem_mem _, hy⟩
      obtain ⟨r, hr⟩ : ∃ r, ll[k]'(by have := HN.out; omega) = r := ⟨_, rfl⟩
      rw [hr] at hcell0 hck hrow htf hmr
      simp only [hr] at hfl
      obtain ⟨lk, hlk⟩ : ∃ lk, r.length = lk := ⟨_, rfl⟩
      rw [hlk] at hcell0 hck
      have hlk9 : lk ≤ 1000000000 := by
        have := hfl lk
        rw [← hlk, List.take_length, List.length_append] at this
        have := HKL.out; omega
      have HTF := Lib.hid htf
      have HFL := Lib.hid hfl
      have HLK := Lib.hid hlk
      have HMR := Lib.hid hmr
      obtain ⟨wo, rfl⟩ : ∃ wo : World, wo = wr := ⟨_, rfl⟩
      clear htf hfl hlk hr hmr
      go_wp2
      go_loopg [3, 5] lk (fun g o i wr => ∃ (j : Nat) (Ao : Option Addr) (lo co : Nat) (out : List El), j + g = lk ∧ i = .int .i64 j ∧ o = .slice Ao lo co ∧ Hid (out.length = lo) ∧ lo ≤ co ∧ Hid (out.map key = (((ll.take k).flatten ++ r.take j).map key).foldl (putG ahead) []) ∧ Hid (∀ y ∈ out, y ∈ ll.flatten) ∧ SeesM (fun k => w.heap.size ≤ k ∧ k < wr.heap.size) wr Ao (out.map val) ∧ Below w.heap.size w wr)
      case atStart => exact ⟨0, Ao, lo, co, out, by omega, rfl, rfl, hlo.out, hloc, by unfold Hid; rw [hout.out]; simp, hin.out, hsee, hb⟩
      case round =>
        obtain ⟨j, Ap, lp, cp, op, hj, rfl, rfl, hlp, hlpc, hop, hinp, hseep, hbp⟩ := hrel
        clear hlo hloc hout hsee hb hin
        have hcell : wr.cell? (ad.add k) = some (.slice Ak lk ck) := (hbp.cell (by rw [add_block]; exact hm _ hadm)).trans hcell0
        have hszp := hbp.size
        by_cases hjl : j < lk
        · have hrowp := hrow.keep (Kept.of_below hbp hm)
          obtain ⟨adk, rfl, -, hx⟩ := (hrowp.sees (B := wr.heap.size) fun k e => Nat.lt_of_lt_of_le (hm k e) hbp.size).at_ (k := j) (by rw [List.length_map, HLK.out]; exact hjl)
          have htk := List.take_succ_eq_append_getElem (l := r) (i := j) (by rw [HLK.out]; exact hjl)
          rw [List.getElem_map] at hx
          have hxm := HMR.out _ (List.getElem_mem (by rw [HLK.out]; exact hjl : j < r.length))
          obtain ⟨x, hxe⟩ : ∃ x, r[j]'(by rw [HLK.out]; exact hjl) = x := ⟨_, rfl⟩
          rw [hxe] at hx htk hxm
          have hlp9 : lp ≤ 1000000000 := by
            have h1 := fold_len (lt := ahead) (((ll.take k).flatten ++ r.take j).map key) []
            rw [← hop.out, List.length_map, hlp.out, List.length_map] at h1
            have h2 := HFL.out j
            have h3 := HKL.out
            simp only [List.length_nil] at h1
            omega
          have hlift : ∀ y ∈ ll.flatten, EOk (fun k => k < wr.heap.size) wr y := fun y hy => ((HOK.out y hy).1.keep (Kept.of_below hbp hm)).mono fun k e => Nat.lt_of_lt_of_le (hm k e) hszp
          have hput := Lib.hid (put_any _ Ap lp cp op x hlp.out hlpc wr hseep (fun k e => e.2) (fun y hy => hlift y (hinp.out y hy)) (hlift x hxm) hlp9)
          have HTK := Lib.hid htk
          have HXM := Lib.hid hxm
          obtain ⟨vx, hvx⟩ : ∃ vx, val x = vx := ⟨_, rfl⟩
          rw [hvx] at hx hput
          clear htk hxe hrowp hlift hxm hvx
          go_wp2_with fail
          refine hput.out.mono ?_
          rintro e w2 ⟨A2, c2, rfl, hc2, hs2', hb2⟩
          have hs2 := hs2'.mono (m' := fun k => w.heap.size ≤ k ∧ k < w2.heap.size) fun k e => by
            have h1 := hb2.size
            have h2 := hbp.size
            rcases e with e | e
            · exact ⟨e.1, by omega⟩
            · exact ⟨by omega, e.2⟩
          clear hs2'
          have hb02 := hbp.trans (hb2.mono hbp.size)
          obtain ⟨l2, hl2⟩ : ∃ l2, (putE op x).length = l2 := ⟨_, rfl⟩
          rw [hl2] at hc2 ⊢
          have HL2 := Lib.hid hl2
          clear hput hb2 hl2
          go_wp2_with fail
          go_roundg (lk - (j + 1))
          case measure => omega
          case rel => exact ⟨j + 1, A2, l2, c2, _, by omega, by go_num, rfl, HL2.out, hc2, by unfold Hid; rw [putE_key, hop.out, HTK.out]; simp only [List.foldl_append, List.foldl_cons, List.foldl_nil, List.map_append, List.map_cons, List.map_nil], (fun y hy => (putE_mem hy).elim (fun e => e ▸ HXM.out) fun e => hinp.out y e), hs2, hb02⟩
        · have hje : j = lk := by omega
          have hoe : Hid (op.map key = ((ll.take (k + 1)).flatten.map key).foldl (putG ahead) []) := by
            unfold Hid
            rw [hop.out, HTF.out, hje, ← HLK.out, List.take_length]
          clear hje
          go_wp2_with fail
          go_roundg (n - (k + 1))
          case measure => omega
          case rel => exact ⟨k + 1, Ap, lp, cp, op, by omega, by go_num, rfl, hlp.out, hlpc, hoe, hinp.out, hseep, hbp⟩
    · have hoe : Hid (out.map key = U) := by
        have := hout.out
        rw [List.take_of_length_le (by have := HN.out; omega), HU.out] at this
        exact this
      have hsz := hb.size
      have hfull : Hid (BRow wr Ao lo co U ∧ Sees2M (fun k => m k ∨ (w.heap.size ≤ k ∧ k < wr.heap.size)) wr Ao U) := by
        unfold Hid
        have hlm : ∀ y ∈ out, EOk (fun k => m k ∨ (w.heap.size ≤ k ∧ k < wr.heap.size)) wr y := fun y hy => ((HOK.out y (hin.out y hy)).1.keep (Kept.of_below hb hm)).mono fun k e => .inl e
        have h1 := fold_len (lt := ahead) ((ll.take k).flatten.map key) []
        have h2 : (ll.take k).flatten.length ≤ ll.flatten.length := by rw [List.take_of_length_le (by have := HN.out; omega)]; exact Nat.le_refl _
        rw [← hout.out, List.length_map, hlo.out, List.length_map] at h1
        simp only [List.length_nil] at h1
        have h3 := HKL.out
        rw [← hoe.out]
        have h4 := sees2M_of (hsee.mono fun k e => .inr e) hlm
        exact ⟨⟨by rw [List.length_map]; exact hlo.out, hloc, by omega, fun x hx => by obtain ⟨y, hy, rfl⟩ := List.mem_map.1 hx; exact (HOK.out y (hin.out y hy)).2, h4.sees fun k e => by rcases e with e | e; exact Nat.lt_of_lt_of_le (hm k e) hsz; exact e.2⟩, h4⟩
      clear hout hoe
      go_wp2
      go_ret
      have h1 := hfull.out.1.len
      refine ⟨Ao, co, by rw [h1]; rfl, by rw [h1]; exact hfull.out.1, hfull.out.2, hb⟩
end Go.Proofs.YtadakaenbemedaaGreatDoor.KB
