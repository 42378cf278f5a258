/-
  Rows of numbers put together for a call: the calls of the laws.
-/
import Derived.Test.YtcfbblgoligagaaKmMeet
namespace Go.Proofs.Ytcfbblgoligagaa.KI
open Go.RowKit

theorem rowsIn_new (w : World) (vs : List Value) (t : TypeId) (ll : List (List El)) (h : ∀ i (hi : i < ll.length), ∃ Ai ci, vs[i]? = some (.slice Ai (ll[i]).length ci) ∧ (ll[i]).length ≤ ci ∧ Sees w w.heap.size Ai (iv ll[i])) :
    RowsIn (fun k => k < (w.alloc (.cells vs.toArray t)).heap.size) (w.alloc (.cells vs.toArray t)) (some ⟨w.heap.size, 0, none⟩) ll := ⟨fun i hi => by
  obtain ⟨Ai, ci, h1, h2, h3⟩ := h i hi
  refine ⟨_, Ai, ci, rfl, by simp, ?_, h2, (h3.alloc (Nat.le_refl _) _).toM.mono fun k e => by simp; omega, fun x _ => ⟨trivial⟩⟩
  rw [Addr.add_lit, World.cell?_alloc_at _ _ _ _ rfl]
  simpa using h1⟩
theorem rowI_back {w w1 w' : World} {l : List Int} {e : Ending} (hb : Below w.heap.size w w1) (h : RowI w1 l e w') : RowI w l e w' := by
  obtain ⟨A, c, h1, h2, h3, h4⟩ := h
  exact ⟨A, c, h1, h2, h3, hb.trans (h4.mono hb.size)⟩
theorem below_new (w : World) (o : Obj) : Below w.heap.size w (w.alloc o) := (Below.refl _ w).alloc (Nat.le_refl _) _

/-- A row that is seen: how it is handed on. -/
structure Row (w : World) (A : Option Addr) (n c : Nat) (l : List Int) : Prop where
  len : l.length = n
  cap : n ≤ c
  few : n ≤ 1000000
  sees : Sees w w.heap.size A (iv l)
section
variable {w w' : World} {A B C : Option Addr} {n m k c d e : Nat} {a b x : List Int}
theorem Row.below (h : Row w A n c a) (hb : Below w.heap.size w w') : Row w' A n c a := ⟨h.len, h.cap, h.few, (h.sees.below hb).more hb.size⟩
theorem Row.drew (h : Row w A n c a) : Row w.drew A n c a := h.below (below_drew (Below.refl _ _))
theorem Row.new (w : World) (bb : Nat) (hbb : w.heap.size = bb) (l : List Int) (hl : l.length = n) (hn : n ≤ 1000000) : Row (w.alloc (.cells (iv l).toArray 3)) (some ⟨bb, 0, none⟩) n n l := by
  subst hbb
  exact ⟨hl, Nat.le_refl _, hn, ⟨.inr ⟨_, rfl, by simp, fun j u hu => by rw [Addr.add_lit, World.cell?_alloc_at _ _ _ _ rfl]; simpa using hu⟩⟩⟩
theorem ints_1 (h : Row w A n c a) (bb : Nat) (hbb : w.heap.size = bb) : Calls Try.prog 16 #[.slice (some ⟨bb, 0, none⟩) 1 1] (w.alloc (.cells #[.slice A n c] 30)) (RowI w (uniqL lt a)) := by
  subst hbb
  have h0 := h.few
  have h1 := h.len
  have := Ints_any (some ⟨w.heap.size, 0, none⟩) 1 1 [a] _ (rowsIn_new w [.slice A n c] 30 [a] (fun i hi => by
    match i, hi with
    | 0, _ => exact ⟨A, c, by rw [← h1]; rfl, by show a.length ≤ c; rw [h1]; exact h.cap, h.sees⟩)) rfl (by omega) (by simp; omega) (by simp; omega)
  rw [show [a].flatten = a from by simp] at this
  exact this.mono fun e w' hr => rowI_back (below_new w _) hr.rowI
theorem two_rows (h : Row w A n c a) (g : Row w B m d b) (t : TypeId) : RowsIn (fun k => k < (w.alloc (.cells #[.slice A n c, .slice B m d] t)).heap.size) (w.alloc (.cells #[.slice A n c, .slice B m d] t)) (some ⟨w.heap.size, 0, none⟩) [a, b] :=
  rowsIn_new w [.slice A n c, .slice B m d] t [a, b] (fun i hi => by
    match i, hi with
    | 0, _ => exact ⟨A, c, by rw [← h.len]; rfl, by show a.length ≤ c; rw [h.len]; exact h.cap, h.sees⟩
    | 1, _ => exact ⟨B, d, by rw [← g.len]; rfl, by show b.length ≤ d; rw [g.len]; exact g.cap, g.sees⟩)
theorem ints_2 (h : Row w A n c a) (g : Row w B m d b) (bb : Nat) (hbb : w.heap.size = bb) : Calls Try.prog 16 #[.slice (some ⟨bb, 0, none⟩) 2 2] (w.alloc (.cells #[.slice A n c, .slice B m d] 30)) (RowI w (uniqL lt (a ++ b))) := by
  subst hbb
  have h0 := h.few
  have h1 := h.len
  have g0 := g.few
  have g1 := g.len
  have := Ints_any (some ⟨w.heap.size, 0, none⟩) 2 2 [a, b] _ (two_rows h g 30) rfl (by omega) (by simp; omega) (by simp; omega)
  rw [show [a, b].flatten = a ++ b from by simp] at this
  exact this.mono fun e w' hr => rowI_back (below_new w _) hr.rowI
theorem meet_2 (h : Row w A n c a) (g : Row w B m d b) (bb : Nat) (hbb : w.heap.size = bb) : Calls Try.prog 18 #[.slice (some ⟨bb, 0, none⟩) 2 2] (w.alloc (.cells #[.slice A n c, .slice B m d] 30)) (RowI w (meetL [a, b])) := by
  subst hbb
  have h0 := h.few
  have h1 := h.len
  have g0 := g.few
  have g1 := g.len
  exact (Meet_any (some ⟨w.heap.size, 0, none⟩) 2 2 [a, b] _ (two_rows h g 30) rfl (by omega) (by simp; omega) (by simp; omega)).mono fun e w' hr => rowI_back (below_new w _) hr.rowI
theorem meet_3 (h : Row w A n c a) (g : Row w B m d b) (f : Row w C k e x) (bb : Nat) (hbb : w.heap.size = bb) : Calls Try.prog 18 #[.slice (some ⟨bb, 0, none⟩) 3 3] (w.alloc (.cells #[.slice A n c, .slice B m d, .slice C k e] 30)) (RowI w (meetL [a, b, x])) := by
  subst hbb
  have h0 := h.few
  have h1 := h.len
  have g0 := g.few
  have g1 := g.len
  have f0 := f.few
  have f1 := f.len
  exact (Meet_any (some ⟨w.heap.size, 0, none⟩) 3 3 [a, b, x] _ (rowsIn_new w [.slice A n c, .slice B m d, .slice C k e] 30 [a, b, x] (fun i hi => by
    match i, hi with
    | 0, _ => exact ⟨A, c, by rw [← h.len]; rfl, by show a.length ≤ c; rw [h.len]; exact h.cap, h.sees⟩
    | 1, _ => exact ⟨B, d, by rw [← g.len]; rfl, by show b.length ≤ d; rw [g.len]; exact g.cap, g.sees⟩
    | 2, _ => exact ⟨C, e, by rw [← f.len]; rfl, by show x.length ≤ e; rw [f.len]; exact f.cap, f.sees⟩)) rfl (by omega) (by simp; omega) (by simp; omega)).mono fun e w' hr => rowI_back (below_new w _) hr.rowI
theorem meet_0 (w : World) : Calls Try.prog 18 #[.slice none 0 0] w (RowI w []) :=
  (Meet_any none 0 0 [] w ⟨fun i hi => absurd hi (by simp)⟩ rfl (by omega) (by simp) (by simp)).mono fun e w' hr => hr.rowI
theorem less_2 (h : Row w A n c a) (g : Row w B m d b) : Calls Try.prog 20 #[.slice A n c, .slice B m d] w (RowI w (lessL a b)) := by
  rw [← less_plain]
  exact Less_any A B n c m d a b h.len h.cap g.len g.cap w h.sees g.sees h.few g.few
theorem same_2 (h : Row w A n c a) (g : Row w B m d b) (he : a = b) : Calls Try.prog 15 #[.slice A n c, .slice B m d] w (Gives w (.bool true)) :=
  (SameI_any A B n c m d a b h.len g.len w h.sees g.sees (by have := h.few; omega)).mono fun _ _ h => by
    obtain ⟨h1, q, h2⟩ := h
    exact ⟨by rw [h1, he]; simp, by rw [h2]; exact below_d (Below.refl _ _) q⟩
end
/-- What a call gave, as a row. -/
theorem RowI.row {w w' : World} {l : List Int} {e : Ending} (h : RowI w l e w') (hl : l.length ≤ 1000000) : ∃ A c, e = .returned (.slice A l.length c) ∧ Row w' A l.length c l ∧ Below w.heap.size w w' := by
  obtain ⟨A, c, h1, h2, h3, h4⟩ := h
  exact ⟨A, c, h1, ⟨rfl, h2, hl, h3⟩, h4⟩
end Go.Proofs.Ytcfbblgoligagaa.KI
