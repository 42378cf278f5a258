/-
  New, find, spent, Fuse, Pending, settle, walked.
-/
import Derived.Test.YteidkmiladkoiaaDoorSmDo
import Derived.Test.YteidkmiladkoiaaDoorShelf
import Derived.Shelf.SlMaps.Clone
namespace Go.Proofs.YteidkmiladkoiaaDoor
open Go.RowKit

section
variable {c F : Nat → Nat} {w w' : World} {f : Nat} {S : FsM}
theorem kept_set (hf : c f = 1) (j : Nat) (v : Value) : Kept (fun k => c k ≠ 0 ∧ k ≠ f) w (w.setCell ⟨f, j, none⟩ v) := fun k e => Below.heap_setCell _ _ _ _ e.2
theorem FsAt.setFuse (h : FsAt c F w f S) (n : Nat) : FsAt c F (w.setCell ⟨f, 4, none⟩ (.int .i64 (n : Int))) f (S.setFuse n) := by
  obtain ⟨bn, bk, v, h1, h2, h3, h4, h5, h6⟩ := h.out
  have hcf := h.col
  have hk := kept_set (w := w) hcf 4 (.int .i64 (n : Int))
  refine ⟨⟨bn, bk, v, h1.set 4 _, h2, h3, h4.keep (hk bn ⟨by omega, fun e => by rw [e] at h2; omega⟩), h5.keep (hk bk ⟨by omega, fun e => by rw [e] at h3; omega⟩), h6.keep (hk.mono fun k e => ⟨by omega, fun e2 => by rw [e2] at e; omega⟩)⟩, hcf, fun i hi => (h.files i hi).keep (hk.mono fun k e => ⟨by omega, fun e2 => by rw [e2] at e; omega⟩), fun k e => by rw [World.size_setCell]; exact h.lt k e⟩
end

theorem find_nil (p : Txt) (w : World) : Calls Tryd.prog 19 #[.pointer none, .string (strOf p)] w fun e w' => e = .returned (.tuple #[.pointer none, .int .i64 1]) ∧ w = w' := by
  go_enter Tryd.func19, Tryd.ntmps19
  go_wp2
  go_ret2
  exact ⟨rfl, rfl⟩

/-- What find answers. -/
def findV (F : Nat → Nat) (S : FsM) (p : Txt) : Value := .tuple #[optV F (S.look p), .int .i64 (if (S.look p).isSome then 0 else 60)]
set_option maxRecDepth 100000 in
theorem find_any {c F : Nat → Nat} {w : World} {f : Nat} {S : FsM} (h : FsAt c F w f S) (p : Txt) : Calls Tryd.prog 19 #[.pointer (some ⟨f, 0, none⟩), .string (strOf p)] w fun e w' => e = .returned (findV F S p) ∧ w = w' := by
  obtain ⟨bn, bk, A, n, h0, h1, h2, h3, h4, h5, h6, h7, h8, -⟩ := h.open_
  cases hl : S.look p with
  | none =>
    have hrun := dir_none h8 hl
    unfold findV
    rw [hl]
    clear h8 hl h
    go_enter Tryd.func19, Tryd.ntmps19
    go_wp2
    go_ret2
    exact ⟨rfl, rfl⟩
  | some n =>
    have hrun := dir_look h8 hl
    unfold findV
    rw [hl]
    clear h8 hl h
    go_enter Tryd.func19, Tryd.ntmps19
    go_wp2
    go_ret2
    exact ⟨rfl, rfl⟩

theorem spent_nil (w : World) : Calls Tryd.prog 20 #[.pointer none] w fun e w' => e = .returned (.bool false) ∧ w = w' := by
  go_enter Tryd.func20, Tryd.ntmps20
  go_wp2
  go_ret
  exact ⟨rfl, rfl⟩
theorem spent_any {c F : Nat → Nat} {w : World} {f : Nat} {S : FsM} (h : FsAt c F w f S) (hf : S.fuse ≤ 1099511627777) : Calls Tryd.prog 20 #[.pointer (some ⟨f, 0, none⟩)] w fun e w' => e = .returned (.bool S.spent.2) ∧ FsAt c F w' f S.spent.1 ∧ Turn (fun k => k = f) w w' := by
  obtain ⟨bn, bk, A, n, h0, h1, h2, h3, h4, h5, h6, h7, h8, -⟩ := h.open_
  obtain ⟨g, hg⟩ : ∃ g, S.fuse = g := ⟨_, rfl⟩
  have H := Lib.hid h
  by_cases g0 : g = 0
  · subst g0
    have e : S.spent = (S, false) := by unfold FsM.spent; rw [if_pos hg]
    rw [e]
    rw [hg] at h4
    clear h8 h hg hf e
    go_enter Tryd.func20, Tryd.ntmps20
    go_wp2
    go_ret
    exact ⟨rfl, H.out, Turn.refl _ _⟩
  by_cases g1 : g = 1
  · subst g1
    have e : S.spent = (S, true) := by unfold FsM.spent; rw [if_neg (by omega), if_pos hg]
    rw [e]
    rw [hg] at h4
    clear h8 h hg hf e g0
    go_enter Tryd.func20, Tryd.ntmps20
    go_wp2
    go_ret
    exact ⟨rfl, H.out, Turn.refl _ _⟩
  have e : S.spent = (S.setFuse (g - 1), false) := by unfold FsM.spent; rw [if_neg (by omega), if_neg (by omega), hg]; rfl
  rw [e]
  rw [hg] at h4 hf
  have h5' := h5 4
  have hw : IntKind.i64.wrap ((g : Int) - 1) = ((g - 1 : Nat) : Int) := by simp [IntKind.wrap, IntKind.signed, IntKind.bits]; omega
  have HP := Lib.hid (show FsAt c F (w.setCell ⟨f, 4, none⟩ (.int .i64 ((g - 1 : Nat) : Int))) f (S.setFuse (g - 1)) ∧ Turn (fun k => k = f) w (w.setCell ⟨f, 4, none⟩ (.int .i64 ((g - 1 : Nat) : Int))) from ⟨h.setFuse _, Turn.setCell _ _ _ rfl⟩)
  have b0 : (g : Int) ≠ 0 := by omega
  have b1 : (g : Int) ≠ 1 := by omega
  obtain ⟨g', hg'⟩ : ∃ g', g - 1 = g' := ⟨_, rfl⟩
  rw [hg'] at HP hw ⊢
  have G0 := Lib.hid g0
  have G1 := Lib.hid g1
  clear h8 h hg e g0 g1 hg' h5
  go_enter Tryd.func20, Tryd.ntmps20
  go_wp2
  go_ret
  exact ⟨rfl, HP.out⟩
/-- The struct, of which the paths as they stay and the changes are not known. -/
structure FsHalf (c F : Nat → Nat) (w : World) (f : Nat) (S : FsM) : Prop where
  out : ∃ (bn : Nat) (x y : Value), Blk w f #[.int .i64 (S.room : Int), .map (some bn), x, y, .int .i64 (S.fuse : Int)] 47 ∧ c bn = 2 ∧ MapIs w bn (S.now.map (pv F))
  col : c f = 1
  files : ∀ i, (∃ p, (p, i) ∈ S.now) → FileAt c w i (F i) (S.file i)
  lt : ∀ k, c k ≠ 0 → k < w.heap.size
theorem FsAt.half {c F : Nat → Nat} {w : World} {f : Nat} {S : FsM} (h : FsAt c F w f S) : FsHalf c F w f S := by
  obtain ⟨bn, bk, v, h1, h2, h3, h4, h5, h6⟩ := h.out
  exact ⟨⟨bn, .map (some bk), v, h1, h2, h4⟩, h.col, fun i hi => h.files i (.inl hi), h.lt⟩

set_option maxRecDepth 100000 in
theorem settle_half {c F : Nat → Nat} {w : World} {f : Nat} {S : FsM} (h : FsHalf c F w f S) : Calls Tryd.prog 24 #[.pointer (some ⟨f, 0, none⟩)] w fun e w' => (∃ v, e = .returned v) ∧ ∃ c', FsAt c' F w' f S.settle ∧ (∀ k, k < w.heap.size → c' k = c k) ∧ Turn (fun k => k = f) w w' := by
  obtain ⟨bn, x, y, h1, h2, h3⟩ := h.out
  obtain ⟨es, clock, g1, g2, g3⟩ := h3.out
  have hC := Lib.hid (AnyW.maps_Clone Tryd.cloneM bn es clock w g1)
  change Hid (Calls Tryd.prog 28 _ _ _) at hC
  have hcl := MapIs.clone w g1 h3
  have hcf := h.col
  have hflt := h1.lt
  have hbl := h3.lt
  obtain ⟨W1, hW1⟩ : ∃ W1, w.alloc (.map es clock) = W1 := ⟨_, rfl⟩
  rw [hW1] at hC hcl
  have hk0 : Kept (fun k => k < w.heap.size) w W1 := fun k e => by rw [← hW1]; exact Below.heap_alloc _ _ k e
  have hz1 : W1.heap.size = w.heap.size + 1 := by rw [← hW1]; simp
  have ht1 : Turn (fun k => k = f) w W1 := by rw [← hW1]; exact Turn.alloc w _
  have b1 := h1.keep (w' := W1) (hk0 f hflt)
  have c2 : W1.cell? ⟨f, 2, none⟩ = some x := b1.cell 2 rfl
  have d1 : w.cell? ⟨f, 1, none⟩ = some (.map (some bn)) := h1.cell 1 rfl
  have f2 := b1.frozen 2
  have b2 := b1.set 2 (.map (some w.heap.size))
  have c3 : (W1.setCell ⟨f, 2, none⟩ (.map (some w.heap.size))).cell? ⟨f, 3, none⟩ = some y := b2.cell 3 rfl
  have f3 := b2.frozen 3
  have b3 := b2.set 3 (.slice none 0 0)
  have hP := Lib.hid (show ∃ c', FsAt c' F ((W1.setCell ⟨f, 2, none⟩ (.map (some w.heap.size))).setCell ⟨f, 3, none⟩ (.slice none 0 0)) f S.settle ∧ (∀ k, k < w.heap.size → c' k = c k) ∧ Turn (fun k => k = f) w ((W1.setCell ⟨f, 2, none⟩ (.map (some w.heap.size))).setCell ⟨f, 3, none⟩ (.slice none 0 0)) from by
    have hk : Kept (fun k => k < w.heap.size + 1 ∧ k ≠ f) W1 ((W1.setCell ⟨f, 2, none⟩ (.map (some w.heap.size))).setCell ⟨f, 3, none⟩ (.slice none 0 0)) := fun k e => (Below.heap_setCell _ _ _ _ e.2).trans (Below.heap_setCell _ _ _ _ e.2)
    have hk1 : Kept (fun k => k < w.heap.size ∧ k ≠ f) w ((W1.setCell ⟨f, 2, none⟩ (.map (some w.heap.size))).setCell ⟨f, 3, none⟩ (.slice none 0 0)) := (hk0.mono fun k e => e.1).trans (hk.mono fun k e => ⟨by omega, e.2⟩)
    refine ⟨upd c w.heap.size 3, ⟨⟨bn, w.heap.size, .slice none 0 0, b3, ?_, ?_, h3.keep (hk1 bn ⟨hbl, fun e => by rw [e] at h2; omega⟩), hcl.keep (hk w.heap.size ⟨by omega, by omega⟩), ChgAt.nil _ _ _⟩, ?_, fun i hi => ?_, fun k hk => ?_⟩, fun k hk => ?_, ?_⟩
    · rw [upd_ne c 3 (by omega)]; exact h2
    · exact upd_same c _ 3
    · rw [upd_ne c 3 (by omega)]; exact hcf
    · have hi' : ∃ p, (p, i) ∈ S.now := by
        rcases hi with e | e | ⟨l, e, -⟩
        · exact e
        · exact e
        · simp [FsM.settle] at e
      refine ((h.files i hi').keep (hk1.mono fun k e => ⟨h.lt k (by omega), fun e2 => by rw [e2] at e; omega⟩)).recol fun k e => ?_
      exact upd_ne c 3 (by have := h.lt k (by omega); omega)
    · simp only [World.size_setCell, hz1]
      by_cases e : k = w.heap.size
      · omega
      · rw [upd_ne c 3 e] at hk
        have := h.lt k hk; omega
    · exact upd_ne c 3 (by omega)
    · exact (ht1.trans (Turn.setCell _ ⟨f, 2, none⟩ _ rfl)).trans (Turn.setCell _ ⟨f, 3, none⟩ _ rfl))
  clear hk0 hz1 ht1 hW1 h h1 h2 h3 g1 g2 g3 hcl b1 b2 b3
  go_enter Tryd.func24, Tryd.ntmps24
  go_wp2_with fail
  refine hC.out.mono ?_
  rintro e w1 ⟨rfl, rfl⟩
  go_wp2
  go_end0
  exact ⟨⟨_, rfl⟩, hP.out⟩
theorem pending_nil (w : World) : Calls Tryd.prog 16 #[.pointer none] w fun e w' => e = .returned (.int .i64 0) ∧ w = w' := by
  go_enter Tryd.func16, Tryd.ntmps16
  go_wp2
  go_ret
  exact ⟨rfl, rfl⟩
theorem pending_any {c F : Nat → Nat} {w : World} {f : Nat} {S : FsM} (h : FsAt c F w f S) : Calls Tryd.prog 16 #[.pointer (some ⟨f, 0, none⟩)] w fun e w' => e = .returned (.int .i64 S.chg.length) ∧ w = w' := by
  obtain ⟨bn, bk, A, n, h0, h1, h2, h3, h4, h5, h6, h7, h8, -⟩ := h.open_
  clear h8 h
  go_enter Tryd.func16, Tryd.ntmps16
  go_wp2
  go_ret
  exact ⟨rfl, rfl⟩
end Go.Proofs.YteidkmiladkoiaaDoor
