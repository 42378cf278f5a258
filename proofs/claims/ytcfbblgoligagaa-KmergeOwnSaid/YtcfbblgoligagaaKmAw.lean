/-
  Several texts in one: KmSees3 KmAwake KmFew.
-/
import Derived.Test.YtcfbblgoligagaaKmItems
import Derived.Test.YtcfbblgoligagaaKmRef
/-
  Rows of rows of items, as they are seen; kmerge.Items of such.
-/
namespace Go.Proofs.Ytcfbblgoligagaa
open Go.RowKit

/-- Rows of items: how they are seen. -/
structure Sees3 (w : World) (B : Nat) (A : Option Addr) (ll : List (List Item)) : Prop where
  out : ∀ i (hi : i < ll.length), ∃ ad Ai ci, A = some ad ∧ ad.block < B ∧ w.cell? (ad.add i) = some (.slice Ai (ll[i]).length ci) ∧ (ll[i]).length ≤ ci ∧ Sees2 w B Ai ll[i]
theorem Sees3.below {w w' : World} {B : Nat} {A : Option Addr} {ll : List (List Item)} (h : Sees3 w B A ll) (hb : Below B w w') : Sees3 w' B A ll := ⟨fun i hi => by
  obtain ⟨ad, Ai, ci, h1, h2, h3, h4, h5⟩ := h.out i hi
  exact ⟨ad, Ai, ci, h1, h2, (hb.cell (by rw [add_block]; exact h2)).trans h3, h4, h5.below hb⟩⟩
theorem Sees3.more {w : World} {B B' : Nat} {A : Option Addr} {ll : List (List Item)} (h : Sees3 w B A ll) (hb : B ≤ B') : Sees3 w B' A ll := ⟨fun i hi => by
  obtain ⟨ad, Ai, ci, h1, h2, h3, h4, h5⟩ := h.out i hi
  exact ⟨ad, Ai, ci, h1, Nat.lt_of_lt_of_le h2 hb, h3, h4, h5.more hb⟩⟩
theorem Sees3.drewN {w : World} {B : Nat} {A : Option Addr} {ll : List (List Item)} (h : Sees3 w B A ll) (q : Nat) : Sees3 (w.drewN q) B A ll := h.below (below_d (Below.refl _ _) q)
namespace KB
theorem els_of {w : World} {B : Nat} {A : Option Addr} {ls : List Item} (h : Sees2 w B A ls) : ∃ xs : List El, xs.map key = ls ∧ SeesM (fun k => k < B) w A (xs.map val) ∧ ∀ x ∈ xs, EOk (fun k => k < B) w x := by
  cases ls with
  | nil => exact ⟨[], rfl, ⟨.inl rfl⟩, by simp⟩
  | cons y t =>
    obtain ⟨ad, -, -, rfl, hB, -⟩ := h.out 0 (by simp)
    generalize hL : y :: t = L at h
    have hk : ∀ k, k ≤ L.length → ∃ xs : List El, xs.length = k ∧ xs.map key = L.take k ∧ ∀ j (hj : j < xs.length), w.cell? (ad.add j) = some (val xs[j]) ∧ EOk (fun k => k < B) w xs[j] := fun k => by
      induction k with
      | zero => intro _; exact ⟨[], rfl, by simp, fun j hj => absurd hj (by simp)⟩
      | succ k ih =>
        intro hk
        obtain ⟨xs, h1, h2, h3⟩ := ih (by omega)
        obtain ⟨ad', Ai, ci, e, g1, g2, g3, g4⟩ := h.out k (by omega)
        obtain rfl := Option.some.inj e
        refine ⟨xs ++ [(L[k], Ai, ci)], by simp [h1], by rw [List.map_append, h2, List.take_succ_eq_append_getElem (by omega)]; rfl, fun j hj => ?_⟩
        by_cases hlt : j < xs.length
        · rw [List.getElem_append_left hlt]; exact h3 j hlt
        · have : j = xs.length := by simp at hj; omega
          subst this
          rw [List.getElem_append_right (Nat.le_refl _)]
          simp only [Nat.sub_self, List.getElem_cons_zero]
          exact ⟨by rw [h1]; exact g2, ⟨g4.toM, g3⟩⟩
    obtain ⟨xs, h1, h2, h3⟩ := hk L.length (Nat.le_refl _)
    refine ⟨xs, by rw [h2, List.take_length], ⟨.inr ⟨ad, rfl, hB, fun j u hu => ?_⟩⟩, fun x hx => ?_⟩
    · rw [List.getElem?_map] at hu
      obtain ⟨x, hx, rfl⟩ := Option.map_eq_some_iff.1 hu
      obtain ⟨hj, rfl⟩ := List.getElem?_eq_some_iff.1 hx
      exact (h3 j hj).1
    · obtain ⟨j, hj, rfl⟩ := List.mem_iff_getElem.1 hx
      exact (h3 j hj).2
theorem rows_of {w : World} {B : Nat} {A : Option Addr} {ll : List (List Item)} (h : Sees3 w B A ll) : ∃ LL : List (List El), keysOf LL = ll ∧ RowsIn (fun k => k < B) w A LL := by
  cases ll with
  | nil => exact ⟨[], rfl, ⟨fun i hi => absurd hi (by simp)⟩⟩
  | cons y t =>
    obtain ⟨ad, -, -, rfl, hB, -⟩ := h.out 0 (by simp)
    generalize hL : y :: t = L at h
    have hk : ∀ k, k ≤ L.length → ∃ LL : List (List El), LL.length = k ∧ keysOf LL = L.take k ∧ RowsIn (fun k => k < B) w (some ad) LL := fun k => by
      induction k with
      | zero => intro _; exact ⟨[], rfl, by simp [keysOf], ⟨fun i hi => absurd hi (by simp)⟩⟩
      | succ k ih =>
        intro hk
        obtain ⟨LL, h1, h2, h3⟩ := ih (by omega)
        obtain ⟨ad', Ai, ci, e, g1, g2, g3, g4⟩ := h.out k (by omega)
        obtain rfl := Option.some.inj e
        obtain ⟨xs, e1, e2, e3⟩ := els_of g4
        have exl : xs.length = (L[k]).length := by rw [← e1, List.length_map]
        refine ⟨LL ++ [xs], by simp [h1], ?_, ⟨fun j hj => ?_⟩⟩
        · rw [List.take_succ_eq_append_getElem (by omega), ← h2, ← e1]
          simp [keysOf]
        · by_cases hlt : j < LL.length
          · rw [List.getElem_append_left hlt]; exact h3.out j hlt
          · have : j = LL.length := by simp at hj; omega
            subst this
            rw [List.getElem_append_right (Nat.le_refl _)]
            simp only [Nat.sub_self, List.getElem_cons_zero]
            exact ⟨ad, Ai, ci, rfl, g1, by rw [h1, exl]; exact g2, by rw [exl]; exact g3, e2, e3⟩
    obtain ⟨LL, h1, h2, h3⟩ := hk L.length (Nat.le_refl _)
    exact ⟨LL, by rw [h2, List.take_length], h3⟩
/-- kmerge.Items of rows that are seen. -/
theorem Items_sees (A : Option Addr) (n c : Nat) (ll : List (List Item)) (w : World) (hS : Sees3 w w.heap.size A ll) (hn : ll.length = n) (hn6 : n ≤ 100000) (hl : ∀ r ∈ ll, r.length ≤ 1000000) (hf : ll.flatten.length ≤ 1000000000) (hy : ∀ r ∈ ll, ∀ y ∈ r, y.length ≤ 1099511627776) :
    Calls Try.prog 12 #[.slice A n c] w fun e w' => ∃ v, e = .returned v ∧ OwnQ (fun k => w.heap.size ≤ k ∧ k < w'.heap.size) w' w.heap.size v (uniqL ahead ll.flatten) ∧ Below w.heap.size w w' := by
  obtain ⟨LL, rfl, hR⟩ := rows_of hS
  have hf2 : LL.flatten.length ≤ 1000000000 := by rw [keysOf_flat, List.length_map] at hf; exact hf
  rw [keysOf_flat]
  exact Items_own A n c LL w hR (by rw [← hn]; simp [keysOf]) hn6 (fun r hr => by have := hl _ (List.mem_map_of_mem hr); simpa using this) hf2 fun r hr y hyr => hy _ (List.mem_map_of_mem hr) _ (List.mem_map_of_mem hyr)
end KB
end Go.Proofs.Ytcfbblgoligagaa

/-
  The document's examples of rows put together: the laws' own first call.
-/
namespace Go.Proofs.Ytcfbblgoligagaa
open Go.RowKit

theorem sees_mark' (w : World) (b : Nat) (hb : w.heap.size = b) (l : List UInt8) (t : TypeId) (m : Nat × Nat) (cs : Array Value) (h : cs = (bv l).toArray) : Sees (w.alloc (.cells cs t m)) (b + 1) (some ⟨b, 0, none⟩) (bv l) := by
  subst hb
  subst h
  refine ⟨.inr ⟨_, rfl, by simp, fun j u hu => ?_⟩⟩
  rw [Addr.add_lit, World.cell?_alloc_mark]
  simpa using hu
theorem run_const (w : World) (b : Nat) (hb : w.heap.size = b) (C : Array Value) (n c : Nat) :
    (convert 41 41 (.slice (some ⟨b, 0, none⟩) n c)).run Try.prog (w.alloc (.cells C 5)) = .ok (.slice (some ⟨b, 0, none⟩) n c) (w.alloc (.cells C 5 (C.size, C.size + 1))) := by
  subst hb
  exact Lib.run_convert_bytes_const (P := Try.prog) w 41 5 C n c Try.underlying41 Try.underlying5
/-- Rows of bytes in a block that was just made. -/
theorem Sees2.new (W : World) (b : Nat) (hb : W.heap.size = b) (cs : Array Value) (t : TypeId) (ls : List (List UInt8))
    (h : ∀ i (hi : i < ls.length), ∃ Ai ci, cs[i]? = some (.slice Ai (ls[i]).length ci) ∧ (ls[i]).length ≤ ci ∧ Sees W b Ai (bv ls[i])) : Sees2 (W.alloc (.cells cs t)) (b + 1) (some ⟨b, 0, none⟩) ls := by
  subst hb
  refine ⟨fun i hi => ?_⟩
  obtain ⟨Ai, ci, h1, h2, h3⟩ := h i hi
  exact ⟨_, Ai, ci, rfl, by simp, by rw [Addr.add_lit, World.cell?_alloc_at _ _ _ _ rfl]; simpa using h1, h2, (h3.alloc (Nat.le_refl _) _).more (by omega)⟩
theorem Sees2.alloc {w : World} {B : Nat} {A : Option Addr} {ls : List (List UInt8)} (h : Sees2 w B A ls) (hB : B ≤ w.heap.size) (o : Obj) : Sees2 (w.alloc o) B A ls :=
  h.below ((Below.refl B w).alloc hB o)
/-- Rows of rows in a block that was just made. -/
theorem Sees3.new (W : World) (b : Nat) (hb : W.heap.size = b) (cs : Array Value) (t : TypeId) (ll : List (List Item))
    (h : ∀ i (hi : i < ll.length), ∃ Ai ci, cs[i]? = some (.slice Ai (ll[i]).length ci) ∧ (ll[i]).length ≤ ci ∧ Sees2 W b Ai ll[i]) : Sees3 (W.alloc (.cells cs t)) (b + 1) (some ⟨b, 0, none⟩) ll := by
  subst hb
  refine ⟨fun i hi => ?_⟩
  obtain ⟨Ai, ci, h1, h2, h3⟩ := h i hi
  exact ⟨_, Ai, ci, rfl, by simp, by rw [Addr.add_lit, World.cell?_alloc_at _ _ _ _ rfl]; simpa using h1, h2, (h3.alloc (Nat.le_refl _) _).more (by omega)⟩
def exLL : List (List Item) := [[[98]], [[97], [98]]]
theorem ex_sees (w : World) : Sees3 ((((((w.alloc (.cells #[.int .u8 98] 5 (1, 2))).alloc (.cells #[.slice (some ⟨w.heap.size, 0, none⟩) 1 1] 41)).alloc (.cells #[.int .u8 97] 5 (1, 2))).alloc (.cells #[.int .u8 98] 5 (1, 2))).alloc
      (.cells #[.slice (some ⟨w.heap.size + 1 + 1, 0, none⟩) 1 1, .slice (some ⟨w.heap.size + 1 + 1 + 1, 0, none⟩) 1 1] 41)).alloc (.cells #[.slice (some ⟨w.heap.size + 1, 0, none⟩) 1 1, .slice (some ⟨w.heap.size + 1 + 1 + 1 + 1, 0, none⟩) 2 2] 26)) (w.heap.size + 1 + 1 + 1 + 1 + 1 + 1) (some ⟨w.heap.size + 1 + 1 + 1 + 1 + 1, 0, none⟩) exLL := by
  refine Sees3.new _ _ (by simp) _ _ _ fun i hi => ?_
  match i, hi with
  | 0, _ =>
    refine ⟨_, 1, rfl, by simp [exLL], Sees2.more (B := w.heap.size + 1 + 1) ((((Sees2.new _ (w.heap.size + 1) (by simp) _ _ [[98]] fun i hi => ?_).alloc (by simp) _).alloc (by simp) _).alloc (by simp) _) (by omega)⟩
    match i, hi with
    | 0, _ => exact ⟨_, 1, rfl, by simp, sees_mark' w _ rfl [98] _ _ _ (by simp [bv])⟩
  | 1, _ =>
    refine ⟨_, 2, rfl, by simp [exLL], Sees2.new _ (w.heap.size + 1 + 1 + 1 + 1) (by simp) _ _ [[97], [98]] fun i hi => ?_⟩
    match i, hi with
    | 0, _ => exact ⟨_, 1, rfl, by simp, ((sees_mark' _ (w.heap.size + 1 + 1) (by simp) [97] _ _ _ (by simp [bv])).alloc (by simp) _).more (by omega)⟩
    | 1, _ => exact ⟨_, 1, rfl, by simp, (sees_mark' _ (w.heap.size + 1 + 1 + 1) (by simp) [98] _ _ _ (by simp [bv])).more (by omega)⟩
theorem ex_items : uniqL ahead exLL.flatten = [[97], [98]] := by decide +kernel
theorem ex_ints : uniqL KI.lt ([1, 3] ++ [3, 2, 2]) = [1, 2, 3] ∧ KI.meetL [[1, 3], [3, 2]] = [3] ∧ KI.lessL [3, 1, 3] [1] = [3] := by decide +kernel

set_option maxRecDepth 100000 in
set_option maxHeartbeats 3200000 in
theorem awake_any (w : World) : Calls Try.prog 9 #[] w (IsTrue w) := by
  have kc := run_const
  go_enter Try.func9, Try.ntmps9
  go_wp2_with fail
  have hS0 := ex_sees w
  have hb0 : Below w.heap.size w ((((((w.alloc (.cells #[.int .u8 98] 5 (1, 2))).alloc (.cells #[.slice (some ⟨w.heap.size, 0, none⟩) 1 1] 41)).alloc (.cells #[.int .u8 97] 5 (1, 2))).alloc (.cells #[.int .u8 98] 5 (1, 2))).alloc
      (.cells #[.slice (some ⟨w.heap.size + 1 + 1, 0, none⟩) 1 1, .slice (some ⟨w.heap.size + 1 + 1 + 1, 0, none⟩) 1 1] 41)).alloc (.cells #[.slice (some ⟨w.heap.size + 1, 0, none⟩) 1 1, .slice (some ⟨w.heap.size + 1 + 1 + 1 + 1, 0, none⟩) 2 2] 26)) :=
    ((((((Below.refl _ w).alloc (Nat.le_refl _) _).alloc (by simp) _).alloc (by simp; omega) _).alloc (by simp; omega) _).alloc (by simp; omega) _).alloc (by simp; omega) _
  have hz0 : ((((((w.alloc (.cells #[.int .u8 98] 5 (1, 2))).alloc (.cells #[.slice (some ⟨w.heap.size, 0, none⟩) 1 1] 41)).alloc (.cells #[.int .u8 97] 5 (1, 2))).alloc (.cells #[.int .u8 98] 5 (1, 2))).alloc
      (.cells #[.slice (some ⟨w.heap.size + 1 + 1, 0, none⟩) 1 1, .slice (some ⟨w.heap.size + 1 + 1 + 1, 0, none⟩) 1 1] 41)).alloc (.cells #[.slice (some ⟨w.heap.size + 1, 0, none⟩) 1 1, .slice (some ⟨w.heap.size + 1 + 1 + 1 + 1, 0, none⟩) 2 2] 26)).heap.size = w.heap.size + 1 + 1 + 1 + 1 + 1 + 1 := by simp
  generalize ((((((w.alloc (.cells #[.int .u8 98] 5 (1, 2))).alloc (.cells #[.slice (some ⟨w.heap.size, 0, none⟩) 1 1] 41)).alloc (.cells #[.int .u8 97] 5 (1, 2))).alloc (.cells #[.int .u8 98] 5 (1, 2))).alloc
      (.cells #[.slice (some ⟨w.heap.size + 1 + 1, 0, none⟩) 1 1, .slice (some ⟨w.heap.size + 1 + 1 + 1, 0, none⟩) 1 1] 41)).alloc (.cells #[.slice (some ⟨w.heap.size + 1, 0, none⟩) 1 1, .slice (some ⟨w.heap.size + 1 + 1 + 1 + 1, 0, none⟩) 2 2] 26)) = W at hS0 hb0 hz0 ⊢
  rw [← hz0] at hS0
  have hP := KB.Items_sees _ 2 2 exLL W hS0 rfl (by omega) (by simp [exLL]) (by simp [exLL]) (by simp [exLL])
  rw [ex_items] at hP
  refine hP.mono ?_
  clear hP
  rintro en w2 ⟨v2, rfl, hown2, hb2⟩
  obtain ⟨A2, c2, rfl, hc2, hS2'⟩ := hown2.open_
  have hS2 : Sees2 w2 w2.heap.size A2 [[97], [98]] := hS2'.sees fun k e => e.2
  obtain ⟨ad, A0, c0, rfl, hadB, hcell', hc0, hs0⟩ := hS2.out 0 (by simp)
  have hcell : w2.cell? ad = some (.slice A0 1 c0) := by simpa [Addr.add] using hcell'
  have hb02 : Below w.heap.size w w2 := hb0.trans (hb2.mono hb0.size)
  have HK := Lib.hid (fun w' (hb : Below w2.heap.size w2 w') => (⟨(hb.cell hadB).trans hcell, run_str w' _ A0 1 c0 [97] ((hs0.below hb).more hb.size) rfl⟩ : w'.cell? ad = some (.slice A0 1 c0) ∧ (convert 41 9 (.slice A0 1 c0)).run Try.prog w' = .ok (.string (strOf [97])) w'))
  rw [show strOf [97] = ⟨#[97]⟩ from rfl] at HK
  have hbD : Below w2.heap.size w2 w2.drew := below_drew (Below.refl _ _)
  clear hS2 hS2' hown2 hcell' hcell hs0 kc hS0 hz0
  simp only [List.length_cons, List.length_nil, Nat.reduceAdd]
  go_wp2_with fail
  refine (KI.ints_2 (((KI.Row.new w2 _ rfl [1, 3] rfl (by decide)).below (KI.below_new _ _))) (KI.Row.new _ _ (by simp) [3, 2, 2] rfl (by decide)) _ (by simp)).mono ?_
  rw [ex_ints.1]
  rintro en w3 h3
  obtain ⟨A3, c3, rfl, hR3, hb3'⟩ := h3.row (by simp)
  have hb3 : Below w2.heap.size w2 w3 := (((Below.refl _ w2).alloc (Nat.le_refl _) _).alloc (by simp) _).trans (hb3'.mono (by simp; omega))
  clear h3 hb3'
  go_wp2_with fail
  refine (KI.same_2 (hR3.below (KI.below_new _ _)) (KI.Row.new _ _ (by simp) [1, 2, 3] rfl (by decide)) rfl).mono ?_
  rintro en w4 ⟨rfl, hb4'⟩
  have hb4 : Below w2.heap.size w2 w4 := (hb3.trans ((KI.below_new w3 _).mono hb3.size)).trans (hb4'.mono (by have := hb3.size; simp; omega))
  clear hb4'
  go_wp2_with fail
  refine (KI.meet_2 (((KI.Row.new w4 _ rfl [1, 3] rfl (by decide)).below (KI.below_new _ _))) (KI.Row.new _ _ (by simp) [3, 2] rfl (by decide)) _ (by simp)).mono ?_
  rw [ex_ints.2.1]
  rintro en w5 h5
  obtain ⟨A5, c5, rfl, hR5, hb5'⟩ := h5.row (by simp)
  have hb5 : Below w2.heap.size w2 w5 := hb4.trans (((((Below.refl _ w4).alloc (Nat.le_refl _) _).alloc (by simp) _).trans (hb5'.mono (by simp; omega))).mono hb4.size)
  clear h5 hb5'
  go_wp2_with fail
  refine (KI.same_2 (hR5.below (KI.below_new _ _)) (KI.Row.new _ _ (by simp) [3] rfl (by decide)) rfl).mono ?_
  rintro en w6 ⟨rfl, hb6'⟩
  have hb6 : Below w2.heap.size w2 w6 := (hb5.trans ((KI.below_new w5 _).mono hb5.size)).trans (hb6'.mono (by have := hb5.size; simp; omega))
  clear hb6'
  go_wp2_with fail
  refine (KI.less_2 (((KI.Row.new w6 _ rfl [3, 1, 3] rfl (by decide)).below (KI.below_new _ _))) (KI.Row.new _ _ (by simp) [1] rfl (by decide))).mono ?_
  rw [ex_ints.2.2]
  rintro en w7 h7
  obtain ⟨A7, c7, rfl, hR7, hb7'⟩ := h7.row (by simp)
  have hb7 : Below w2.heap.size w2 w7 := hb6.trans (((((Below.refl _ w6).alloc (Nat.le_refl _) _).alloc (by simp) _).trans (hb7'.mono (by simp; omega))).mono hb6.size)
  clear h7 hb7'
  go_wp2_with fail
  refine (KI.same_2 (hR7.below (KI.below_new _ _)) (KI.Row.new _ _ (by simp) [3] rfl (by decide)) rfl).mono ?_
  rintro en w8 ⟨rfl, hb8'⟩
  have hb8 : Below w2.heap.size w2 w8 := (hb7.trans ((KI.below_new w7 _).mono hb7.size)).trans (hb8'.mono (by have := hb7.size; simp; omega))
  clear hb8'
  obtain ⟨g1, g2⟩ := HK.out w8 hb8
  go_wp2_with fail
  go_ret
  exact ⟨by simp, hb02.trans (hb8.mono hb02.size)⟩
end Go.Proofs.Ytcfbblgoligagaa

/-
  Are rows few, and short?
-/
namespace Go.Proofs.Ytcfbblgoligagaa
open Go.RowKit KI

def shortB (ll : List (List Int)) : Bool := decide (ll.length ≤ 10) && ll.all fun r => decide (r.length ≤ 100)
theorem short_yes {ll : List (List Int)} (h : shortB ll = true) : ll.length ≤ 10 ∧ ∀ r ∈ ll, r.length ≤ 100 := by
  unfold shortB at h
  rw [Bool.and_eq_true, decide_eq_true_eq, List.all_eq_true] at h
  exact ⟨h.1, fun r hr => by simpa using h.2 r hr⟩
theorem flat_few {α : Type} {m : Nat} : ∀ {ll : List (List α)}, (∀ r ∈ ll, r.length ≤ m) → ll.flatten.length ≤ m * ll.length
  | [], _ => by simp
  | r :: t, h => by
    have h1 := h r (by simp)
    have h2 := flat_few (ll := t) fun r hr => h r (by simp [hr])
    rw [List.flatten_cons, List.length_append, List.length_cons, Nat.mul_add]
    omega
theorem all_at {α : Type} {p : α → Bool} {ls : List α} {k : Nat} (h : k < ls.length) : (ls.drop k).all p = (p ls[k] && (ls.drop (k + 1)).all p) := by
  rw [List.drop_eq_getElem_cons h]
  rfl

set_option maxRecDepth 100000 in
set_option maxHeartbeats 400000 in
theorem short_any (A : Option Addr) (n c : Nat) (ll : List (List Int)) (hn : ll.length = n) (w : World) (hS : KI.RowsIn (fun k => k < w.heap.size) w A ll) :
    Calls Try.prog 14 #[.slice A n c] w fun e w' => e = .returned (.bool (shortB ll)) ∧ w = w' := by
  obtain ⟨X, hX⟩ : ∃ X, shortB ll = X := ⟨_, rfl⟩
  rw [hX]
  unfold shortB at hX
  rw [hn] at hX
  by_cases h60 : 10 < n
  · have HF : Hid (X = false) := by unfold Hid; rw [← hX, decide_eq_false (by omega)]; rfl
    clear hX hn
    go_enter Try.func14, Try.ntmps14
    go_wp2
    go_ret
    rw [HF.out]
    exact ⟨rfl, rfl⟩
  rw [decide_eq_true (by omega), Bool.true_and] at hX
  have HX := Lib.hid hX
  have HN := Lib.hid hn
  clear hn hX
  go_enter Try.func14, Try.ntmps14
  go_wp2
  go_loopg [3] n (fun g i wr => ∃ k : Nat, k + g = n ∧ i = .int .i64 k ∧ Hid (X = (ll.drop k).all fun l => decide (l.length ≤ 100)) ∧ wr = w)
  case atStart => exact ⟨0, by omega, rfl, HX.out.symm, rfl⟩
  case round =>
    obtain ⟨k, hk, rfl, heq, rfl⟩ := hrel
    by_cases hlt : k < n
    · obtain ⟨ad, Ai, ci, rfl, hadB, hcell, hci, -, -⟩ := hS.out k (by have := HN.out; omega)
      have hstep := Lib.hid (heq.out.trans (all_at (ls := ll) (k := k) (by have := HN.out; omega)))
      obtain ⟨L, hL⟩ : ∃ L, ll[k]'(by have := HN.out; omega) = L := ⟨_, rfl⟩
      rw [hL] at hcell hci hstep
      clear hL heq
      by_cases hb : L.length ≤ 100
      · have hT : Hid (X = (ll.drop (k + 1)).all fun l => decide (l.length ≤ 100)) := by have := hstep.out; rw [decide_eq_true hb, Bool.true_and] at this; exact this
        clear hstep
        go_wp2
        go_roundg (n - (k + 1))
        case measure => omega
        case rel => exact ⟨k + 1, by omega, by go_num, hT, rfl⟩
      · have HF : Hid (X = false) := by have := hstep.out; rw [decide_eq_false hb, Bool.false_and] at this; exact this
        clear hstep
        go_wp2
        go_ret
        rw [HF.out]
        exact ⟨rfl, rfl⟩
    · have HF : Hid (X = true) := by have := heq.out; rw [List.drop_eq_nil_of_le (by have := HN.out; omega)] at this; exact this
      clear heq
      go_wp2
      go_ret
      rw [HF.out]
      exact ⟨rfl, rfl⟩

def rowB (r : List Item) : Bool := decide (r.length ≤ 60) && r.all fun x => decide (x.length ≤ 500)
def fewB (ll : List (List Item)) : Bool := decide (ll.length ≤ 10) && ll.all rowB
theorem few_yes {ll : List (List Item)} (h : fewB ll = true) : ll.length ≤ 10 ∧ ∀ r ∈ ll, r.length ≤ 60 ∧ ∀ x ∈ r, x.length ≤ 500 := by
  unfold fewB at h
  rw [Bool.and_eq_true, decide_eq_true_eq, List.all_eq_true] at h
  refine ⟨h.1, fun r hr => ?_⟩
  have := h.2 r hr
  unfold rowB at this
  rw [Bool.and_eq_true, decide_eq_true_eq, List.all_eq_true] at this
  exact ⟨this.1, fun x hx => by simpa using this.2 x hx⟩

set_option maxRecDepth 100000 in
set_option maxHeartbeats 800000 in
theorem few_any (A : Option Addr) (n c : Nat) (ll : List (List Item)) (hn : ll.length = n) (w : World) (hS : Sees3 w w.heap.size A ll) :
    Calls Try.prog 10 #[.slice A n c] w fun e w' => e = .returned (.bool (fewB ll)) ∧ w = w' := by
  obtain ⟨X, hX⟩ : ∃ X, fewB ll = X := ⟨_, rfl⟩
  rw [hX]
  unfold fewB at hX
  rw [hn] at hX
  by_cases h60 : 10 < n
  · have HF : Hid (X = false) := by unfold Hid; rw [← hX, decide_eq_false (by omega)]; rfl
    clear hX hn
    go_enter Try.func10, Try.ntmps10
    go_wp2
    go_ret
    rw [HF.out]
    exact ⟨rfl, rfl⟩
  rw [decide_eq_true (by omega), Bool.true_and] at hX
  have HX := Lib.hid hX
  have HN := Lib.hid hn
  clear hn hX
  go_enter Try.func10, Try.ntmps10
  go_wp2
  go_loopg [3] n (fun g i wr => ∃ k : Nat, k + g = n ∧ i = .int .i64 k ∧ Hid (X = (ll.drop k).all rowB) ∧ wr = w)
  case atStart => exact ⟨0, by omega, rfl, HX.out.symm, rfl⟩
  case round =>
    obtain ⟨k, hk, rfl, heq, rfl⟩ := hrel
    by_cases hlt : k < n
    · obtain ⟨ad, Ai, ci, rfl, hadB, hcell, hci, hrow⟩ := hS.out k (by have := HN.out; omega)
      have hstep := heq.out.trans (all_at (ls := ll) (k := k) (by have := HN.out; omega))
      obtain ⟨L, hL⟩ : ∃ L, ll[k]'(by have := HN.out; omega) = L := ⟨_, rfl⟩
      rw [hL] at hcell hci hstep hrow
      unfold rowB at hstep
      obtain ⟨lk, hlk⟩ : ∃ lk, L.length = lk := ⟨_, rfl⟩
      rw [hlk] at hcell hci hstep
      have HLK := Lib.hid hlk
      clear hL heq hlk
      by_cases hb : lk ≤ 60
      · rw [decide_eq_true hb, Bool.true_and] at hstep
        have hst := Lib.hid hstep
        clear hstep
        obtain ⟨wo, rfl⟩ : ∃ wo : World, wo = wr := ⟨_, rfl⟩
        go_wp2
        go_loopg [4] lk (fun g i wr => ∃ j : Nat, j + g = lk ∧ i = .int .i64 j ∧ Hid (X = ((L.drop j).all (fun x => decide (x.length ≤ 500)) && (ll.drop (k + 1)).all rowB)) ∧ wr = wo)
        case atStart => exact ⟨0, by omega, rfl, hst.out, rfl⟩
        case round =>
          obtain ⟨j, hj, rfl, hej, rfl⟩ := hrel
          clear hst
          by_cases hjl : j < lk
          · obtain ⟨ad2, Aj, cj, rfl, -, hcell2, hcj, -⟩ := hrow.out j (by have := HLK.out; omega)
            have hs2 := hej.out
            rw [all_at (ls := L) (k := j) (by have := HLK.out; omega)] at hs2
            obtain ⟨x, hx⟩ : ∃ x, L[j]'(by have := HLK.out; omega) = x := ⟨_, rfl⟩
            rw [hx] at hcell2 hcj hs2
            by_cases h5 : x.length ≤ 500
            · rw [decide_eq_true h5, Bool.true_and] at hs2
              have HS2 := Lib.hid hs2
              clear hs2 hx hej
              go_wp2
              go_roundg (lk - (j + 1))
              case measure => omega
              case rel => exact ⟨j + 1, by omega, by go_num, HS2.out, rfl⟩
            · have HF : Hid (X = false) := by rw [decide_eq_false h5, Bool.false_and, Bool.false_and] at hs2; exact hs2
              clear hs2 hx hej
              go_wp2
              go_ret
              rw [HF.out]
              exact ⟨rfl, rfl⟩
          · have hT : Hid (X = (ll.drop (k + 1)).all rowB) := by have := hej.out; rw [List.drop_eq_nil_of_le (by have := HLK.out; omega), List.all_nil, Bool.true_and] at this; exact this
            clear hej
            go_wp2
            go_roundg (n - (k + 1))
            case measure => omega
            case rel => exact ⟨k + 1, by omega, by go_num, hT, rfl⟩
      · have HF : Hid (X = false) := by rw [decide_eq_false hb, Bool.false_and, Bool.false_and] at hstep; exact hstep
        clear hstep
        go_wp2
        go_ret
        rw [HF.out]
        exact ⟨rfl, rfl⟩
    · have HF : Hid (X = true) := by have := heq.out; rw [List.drop_eq_nil_of_le (by have := HN.out; omega)] at this; exact this
      clear heq
      go_wp2
      go_ret
      rw [HF.out]
      exact ⟨rfl, rfl⟩
end Go.Proofs.Ytcfbblgoligagaa
