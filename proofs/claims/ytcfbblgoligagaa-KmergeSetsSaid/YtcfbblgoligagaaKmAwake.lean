/-
  The document's examples of rows put together: the laws' own first call.
-/
import Derived.Test.YtcfbblgoligagaaKmLaw0
import Derived.Test.YtcfbblgoligagaaKmSees3
namespace Go.Proofs.Ytcfbblgoligagaa
open Go.RowKit

theorem sees_mark' (w : World) (b : Nat) (hb : w.heap.size = b) (l : List UInt8) (t : TypeId) (m : Nat × Nat) (cs : Array Value) (h : cs = (bv l).toArray) : Sees (w.alloc (.cells cs t m)) (b + 1) (some ⟨b, 0, none⟩) (bv l) := by
  subst hb
  subst h
  refine ⟨.inr ⟨_, rfl, by simp, fun j u hu => ?_⟩⟩
  rw [Addr.add_lit, World.cell?_alloc_mark]
  simpa using hu
theorem run_const (w : World) (b : Nat) (hb : w.heap.size = b) (C : Array Value) (n c : Nat) :
    (convert 41 41 (.slice (some ⟨b, 0, none⟩) n c)).run Try.prog (w.alloc (.cells C 5)) = .ok (.slice (some ⟨b, 0, none⟩) n c) (w.alloc (.cells C 5 (C.size, C.size + 1))) := by
  subst hb
  exact Lib.run_convert_bytes_const (P := Try.prog) w 41 5 C n c Try.underlying41 Try.underlying5
/-- Rows of bytes in a block that was just made. -/
theorem Sees2.new (W : World) (b : Nat) (hb : W.heap.size = b) (cs : Array Value) (t : TypeId) (ls : List (List UInt8))
    (h : ∀ i (hi : i < ls.length), ∃ Ai ci, cs[i]? = some (.slice Ai (ls[i]).length ci) ∧ (ls[i]).length ≤ ci ∧ Sees W b Ai (bv ls[i])) : Sees2 (W.alloc (.cells cs t)) (b + 1) (some ⟨b, 0, none⟩) ls := by
  subst hb
  refine ⟨fun i hi => ?_⟩
  obtain ⟨Ai, ci, h1, h2, h3⟩ := h i hi
  exact ⟨_, Ai, ci, rfl, by simp, by rw [Addr.add_lit, World.cell?_alloc_at _ _ _ _ rfl]; simpa using h1, h2, (h3.alloc (Nat.le_refl _) _).more (by omega)⟩
theorem Sees2.alloc {w : World} {B : Nat} {A : Option Addr} {ls : List (List UInt8)} (h : Sees2 w B A ls) (hB : B ≤ w.heap.size) (o : Obj) : Sees2 (w.alloc o) B A ls :=
  h.below ((Below.refl B w).alloc hB o)
/-- Rows of rows in a block that was just made. -/
theorem Sees3.new (W : World) (b : Nat) (hb : W.heap.size = b) (cs : Array Value) (t : TypeId) (ll : List (List Item))
    (h : ∀ i (hi : i < ll.length), ∃ Ai ci, cs[i]? = some (.slice Ai (ll[i]).length ci) ∧ (ll[i]).length ≤ ci ∧ Sees2 W b Ai ll[i]) : Sees3 (W.alloc (.cells cs t)) (b + 1) (some ⟨b, 0, none⟩) ll := by
  subst hb
  refine ⟨fun i hi => ?_⟩
  obtain ⟨Ai, ci, h1, h2, h3⟩ := h i hi
  exact ⟨_, Ai, ci, rfl, by simp, by rw [Addr.add_lit, World.cell?_alloc_at _ _ _ _ rfl]; simpa using h1, h2, (h3.alloc (Nat.le_refl _) _).more (by omega)⟩
def exLL : List (List Item) := [[[98]], [[97], [98]]]
theorem ex_sees (w : World) : Sees3 ((((((w.alloc (.cells #[.int .u8 98] 5 (1, 2))).alloc (.cells #[.slice (some ⟨w.heap.size, 0, none⟩) 1 1] 41)).alloc (.cells #[.int .u8 97] 5 (1, 2))).alloc (.cells #[.int .u8 98] 5 (1, 2))).alloc
      (.cells #[.slice (some ⟨w.heap.size + 1 + 1, 0, none⟩) 1 1, .slice (some ⟨w.heap.size + 1 + 1 + 1, 0, none⟩) 1 1] 41)).alloc (.cells #[.slice (some ⟨w.heap.size + 1, 0, none⟩) 1 1, .slice (some ⟨w.heap.size + 1 + 1 + 1 + 1, 0, none⟩) 2 2] 26)) (w.heap.size + 1 + 1 + 1 + 1 + 1 + 1) (some ⟨w.heap.size + 1 + 1 + 1 + 1 + 1, 0, none⟩) exLL := by
  refine Sees3.new _ _ (by simp) _ _ _ fun i hi => ?_
  match i, hi with
  | 0, _ =>
    refine ⟨_, 1, rfl, by simp [exLL], Sees2.more (B := w.heap.size + 1 + 1) ((((Sees2.new _ (w.heap.size + 1) (by simp) _ _ [[98]] fun i hi => ?_).alloc (by simp) _).alloc (by simp) _).alloc (by simp) _) (by omega)⟩
    match i, hi with
    | 0, _ => exact ⟨_, 1, rfl, by simp, sees_mark' w _ rfl [98] _ _ _ (by simp [bv])⟩
  | 1, _ =>
    refine ⟨_, 2, rfl, by simp [exLL], Sees2.new _ (w.heap.size + 1 + 1 + 1 + 1) (by simp) _ _ [[97], [98]] fun i hi => ?_⟩
    match i, hi with
    | 0, _ => exact ⟨_, 1, rfl, by simp, ((sees_mark' _ (w.heap.size + 1 + 1) (by simp) [97] _ _ _ (by simp [bv])).alloc (by simp) _).more (by omega)⟩
    | 1, _ => exact ⟨_, 1, rfl, by simp, (sees_mark' _ (w.heap.size + 1 + 1 + 1) (by simp) [98] _ _ _ (by simp [bv])).more (by omega)⟩
theorem ex_items : uniqL ahead exLL.flatten = [[97], [98]] := by decide +kernel
theorem ex_ints : uniqL KI.lt ([1, 3] ++ [3, 2, 2]) = [1, 2, 3] ∧ KI.meetL [[1, 3], [3, 2]] = [3] ∧ KI.lessL [3, 1, 3] [1] = [3] := by decide +kernel

set_option maxRecDepth 100000 in
set_option maxHeartbeats 3200000 in
theorem awake_any (w : World) : Calls Try.prog 9 #[] w (IsTrue w) := by
  have kc := run_const
  go_enter Try.func9, Try.ntmps9
  go_wp2_with fail
  have hS0 := ex_sees w
  have hb0 : Below w.heap.size w ((((((w.alloc (.cells #[.int .u8 98] 5 (1, 2))).alloc (.cells #[.slice (some ⟨w.heap.size, 0, none⟩) 1 1] 41)).alloc (.cells #[.int .u8 97] 5 (1, 2))).alloc (.cells #[.int .u8 98] 5 (1, 2))).alloc
      (.cells #[.slice (some ⟨w.heap.size + 1 + 1, 0, none⟩) 1 1, .slice (some ⟨w.heap.size + 1 + 1 + 1, 0, none⟩) 1 1] 41)).alloc (.cells #[.slice (some ⟨w.heap.size + 1, 0, none⟩) 1 1, .slice (some ⟨w.heap.size + 1 + 1 + 1 + 1, 0, none⟩) 2 2] 26)) :=
    ((((((Below.refl _ w).alloc (Nat.le_refl _) _).alloc (by simp) _).alloc (by simp; omega) _).alloc (by simp; omega) _).alloc (by simp; omega) _).alloc (by simp; omega) _
  have hz0 : ((((((w.alloc (.cells #[.int .u8 98] 5 (1, 2))).alloc (.cells #[.slice (some ⟨w.heap.size, 0, none⟩) 1 1] 41)).alloc (.cells #[.int .u8 97] 5 (1, 2))).alloc (.cells #[.int .u8 98] 5 (1, 2))).alloc
      (.cells #[.slice (some ⟨w.heap.size + 1 + 1, 0, none⟩) 1 1, .slice (some ⟨w.heap.size + 1 + 1 + 1, 0, none⟩) 1 1] 41)).alloc (.cells #[.slice (some ⟨w.heap.size + 1, 0, none⟩) 1 1, .slice (some ⟨w.heap.size + 1 + 1 + 1 + 1, 0, none⟩) 2 2] 26)).heap.size = w.heap.size + 1 + 1 + 1 + 1 + 1 + 1 := by simp
  generalize ((((((w.alloc (.cells #[.int .u8 98] 5 (1, 2))).alloc (.cells #[.slice (some ⟨w.heap.size, 0, none⟩) 1 1] 41)).alloc (.cells #[.int .u8 97] 5 (1, 2))).alloc (.cells #[.int .u8 98] 5 (1, 2))).alloc
      (.cells #[.slice (some ⟨w.heap.size + 1 + 1, 0, none⟩) 1 1, .slice (some ⟨w.heap.size + 1 + 1 + 1, 0, none⟩) 1 1] 41)).alloc (.cells #[.slice (some ⟨w.heap.size + 1, 0, none⟩) 1 1, .slice (some ⟨w.heap.size + 1 + 1 + 1 + 1, 0, none⟩) 2 2] 26)) = W at hS0 hb0 hz0 ⊢
  rw [← hz0] at hS0
  have hP := KB.Items_sees _ 2 2 exLL W hS0 rfl (by omega) (by simp [exLL]) (by simp [exLL]) (by simp [exLL])
  rw [ex_items] at hP
  refine hP.mono ?_
  clear hP
  rintro en w2 ⟨v2, rfl, hown2, hb2⟩
  obtain ⟨A2, c2, rfl, hc2, hS2'⟩ := hown2.open_
  have hS2 : Sees2 w2 w2.heap.size A2 [[97], [98]] := hS2'.sees fun k e => e.2
  obtain ⟨ad, A0, c0, rfl, hadB, hcell', hc0, hs0⟩ := hS2.out 0 (by simp)
  have hcell : w2.cell? ad = some (.slice A0 1 c0) := by simpa [Addr.add] using hcell'
  have hb02 : Below w.heap.size w w2 := hb0.trans (hb2.mono hb0.size)
  have HK := Lib.hid (fun w' (hb : Below w2.heap.size w2 w') => (⟨(hb.cell hadB).trans hcell, run_str w' _ A0 1 c0 [97] ((hs0.below hb).more hb.size) rfl⟩ : w'.cell? ad = some (.slice A0 1 c0) ∧ (convert 41 9 (.slice A0 1 c0)).run Try.prog w' = .ok (.string (strOf [97])) w'))
  rw [show strOf [97] = ⟨#[97]⟩ from rfl] at HK
  have hbD : Below w2.heap.size w2 w2.drew := below_drew (Below.refl _ _)
  clear hS2 hS2' hown2 hcell' hcell hs0 kc hS0 hz0
  simp only [List.length_cons, List.length_nil, Nat.reduceAdd]
  go_wp2_with fail
  refine (KI.ints_2 (((KI.Row.new w2 _ rfl [1, 3] rfl (by decide)).below (KI.below_new _ _))) (KI.Row.new _ _ (by simp) [3, 2, 2] rfl (by decide)) _ (by simp)).mono ?_
  rw [ex_ints.1]
  rintro en w3 h3
  obtain ⟨A3, c3, rfl, hR3, hb3'⟩ := h3.row (by simp)
  have hb3 : Below w2.heap.size w2 w3 := (((Below.refl _ w2).alloc (Nat.le_refl _) _).alloc (by simp) _).trans (hb3'.mono (by simp; omega))
  clear h3 hb3'
  go_wp2_with fail
  refine (KI.same_2 (hR3.below (KI.below_new _ _)) (KI.Row.new _ _ (by simp) [1, 2, 3] rfl (by decide)) rfl).mono ?_
  rintro en w4 ⟨rfl, hb4'⟩
  have hb4 : Below w2.heap.size w2 w4 := (hb3.trans ((KI.below_new w3 _).mono hb3.size)).trans (hb4'.mono (by have := hb3.size; simp; omega))
  clear hb4'
  go_wp2_with fail
  refine (KI.meet_2 (((KI.Row.new w4 _ rfl [1, 3] rfl (by decide)).below (KI.below_new _ _))) (KI.Row.new _ _ (by simp) [3, 2] rfl (by decide)) _ (by simp)).mono ?_
  rw [ex_ints.2.1]
  rintro en w5 h5
  obtain ⟨A5, c5, rfl, hR5, hb5'⟩ := h5.row (by simp)
  have hb5 : Below w2.heap.size w2 w5 := hb4.trans (((((Below.refl _ w4).alloc (Nat.le_refl _) _).alloc (by simp) _).trans (hb5'.mono (by simp; omega))).mono hb4.size)
  clear h5 hb5'
  go_wp2_with fail
  refine (KI.same_2 (hR5.below (KI.below_new _ _)) (KI.Row.new _ _ (by simp) [3] rfl (by decide)) rfl).mono ?_
  rintro en w6 ⟨rfl, hb6'⟩
  have hb6 : Below w2.heap.size w2 w6 := (hb5.trans ((KI.below_new w5 _).mono hb5.size)).trans (hb6'.mono (by have := hb5.size; simp; omega))
  clear hb6'
  go_wp2_with fail
  refine (KI.less_2 (((KI.Row.new w6 _ rfl [3, 1, 3] rfl (by decide)).below (KI.below_new _ _))) (KI.Row.new _ _ (by simp) [1] rfl (by decide))).mono ?_
  rw [ex_ints.2.2]
  rintro en w7 h7
  obtain ⟨A7, c7, rfl, hR7, hb7'⟩ := h7.row (by simp)
  have hb7 : Below w2.heap.size w2 w7 := hb6.trans (((((Below.refl _ w6).alloc (Nat.le_refl _) _).alloc (by simp) _).trans (hb7'.mono (by simp; omega))).mono hb6.size)
  clear h7 hb7'
  go_wp2_with fail
  refine (KI.same_2 (hR7.below (KI.below_new _ _)) (KI.Row.new _ _ (by simp) [3] rfl (by decide)) rfl).mono ?_
  rintro en w8 ⟨rfl, hb8'⟩
  have hb8 : Below w2.heap.size w2 w8 := (hb7.trans ((KI.below_new w7 _).mono hb7.size)).trans (hb8'.mono (by have := hb7.size; simp; omega))
  clear hb8'
  obtain ⟨g1, g2⟩ := HK.out w8 hb8
  go_wp2_with fail
  go_ret
  exact ⟨by simp, hb02.trans (hb8.mono hb02.size)⟩
end Go.Proofs.Ytcfbblgoligagaa
