/-
  Several texts in one: SmOps SmChange SmRight SmRfRight SmStep SmStep2 SmRead SmAll SmUsed SmAppend SmSorted SmList.
-/
import Derived.Test.YteidkmiladkoiaaGreatDoorZLow
import Derived.Test.YteidkmiladkoiaaGreatDoorShelf
import Derived.Shelf.SlMaps.Clone
import Derived.Laws.CopyOwn
import Derived.Laws.OwnMore
import Derived.Shelf.SlIter.Nil
import Derived.Shelf.SortM.Plain
import Derived.Shelf.SortM.SortNone
import Derived.Sort.KeysCollected
import Derived.Maps.OwnSet
/-
  New, find, spent, Fuse, Pending, settle, walked.
-/
namespace Go.Proofs.YteidkmiladkoiaaGreatDoor
open Go.RowKit

section
variable {c F : Nat → Nat} {w w' : World} {f : Nat} {S : FsM}
theorem kept_set (_ : c f = 1) (j : Nat) (v : Value) : Kept (fun k => c k ≠ 0 ∧ k ≠ f) w (w.setCell ⟨f, j, none⟩ v) := fun _ e => Below.heap_setCell _ _ _ _ e.2
theorem FsAt.setFuse (h : FsAt c F w f S) (n : Nat) : FsAt c F (w.setCell ⟨f, 4, none⟩ (.int .i64 (n : Int))) f (S.setFuse n) := by
  obtain ⟨bn, bk, v, h1, h2, h3, h4, h5, h6⟩ := h.out
  have hcf := h.col
  have hk := kept_set (w := w) hcf 4 (.int .i64 (n : Int))
  refine ⟨⟨bn, bk, v, h1.set 4 _, h2, h3, h4.keep (hk bn ⟨by omega, fun e => by rw [e] at h2; omega⟩), h5.keep (hk bk ⟨by omega, fun e => by rw [e] at h3; omega⟩), h6.keep (hk.mono fun k e => ⟨by omega, fun e2 => by rw [e2] at e; omega⟩)⟩, hcf, fun i hi => (h.files i hi).keep (hk.mono fun k e => ⟨by omega, fun e2 => by rw [e2] at e; omega⟩), fun k e => by rw [World.size_setCell]; exact h.lt k e⟩
end

theorem find_nil (p : Txt) (w : World) : Calls Tryz.prog 43 #[.pointer none, .string (strOf p)] w fun e w' => e = .returned (.tuple #[.pointer none, .int .i64 1]) ∧ w = w' := by
  go_enter Tryz.func43, Tryz.ntmps43
  go_wp2
  go_ret2
  exact ⟨rfl, rfl⟩

/-- What find answers. -/
def findV (F : Nat → Nat) (S : FsM) (p : Txt) : Value := .tuple #[optV F (S.look p), .int .i64 (if (S.look p).isSome then 0 else 60)]
set_option maxRecDepth 100000 in
theorem find_any {c F : Nat → Nat} {w : World} {f : Nat} {S : FsM} (h : FsAt c F w f S) (p : Txt) : Calls Tryz.prog 43 #[.pointer (some ⟨f, 0, none⟩), .string (strOf p)] w fun e w' => e = .returned (findV F S p) ∧ w = w' := by
  obtain ⟨bn, bk, A, n, h0, h1, h2, h3, h4, h5, h6, h7, h8, -⟩ := h.open_
  cases hl : S.look p with
  | none =>
    have hrun := dir_none h8 hl
    unfold findV
    rw [hl]
    clear h8 hl h
    go_enter Tryz.func43, Tryz.ntmps43
    go_wp2
    go_ret2
    exact ⟨rfl, rfl⟩
  | some n =>
    have hrun := dir_look h8 hl
    unfold findV
    rw [hl]
    clear h8 hl h
    go_enter Tryz.func43, Tryz.ntmps43
    go_wp2
    go_ret2
    exact ⟨rfl, rfl⟩

theorem spent_nil (w : World) : Calls Tryz.prog 48 #[.pointer none] w fun e w' => e = .returned (.bool false) ∧ w = w' := by
  go_enter Tryz.func48, Tryz.ntmps48
  go_wp2
  go_ret
  exact ⟨rfl, rfl⟩
theorem spent_any {c F : Nat → Nat} {w : World} {f : Nat} {S : FsM} (h : FsAt c F w f S) (hf : S.fuse ≤ 1099511627777) : Calls Tryz.prog 48 #[.pointer (some ⟨f, 0, none⟩)] w fun e w' => e = .returned (.bool S.spent.2) ∧ FsAt c F w' f S.spent.1 ∧ Turn (fun k => k = f) w w' := by
  obtain ⟨bn, bk, A, n, h0, h1, h2, h3, h4, h5, h6, h7, h8, -⟩ := h.open_
  obtain ⟨g, hg⟩ : ∃ g, S.fuse = g := ⟨_, rfl⟩
  have H := Lib.hid h
  by_cases g0 : g = 0
  · subst g0
    have e : S.spent = (S, false) := by unfold FsM.spent; rw [if_pos hg]
    rw [e]
    rw [hg] at h4
    clear h8 h hg hf e
    go_enter Tryz.func48, Tryz.ntmps48
    go_wp2
    go_ret
    exact ⟨rfl, H.out, Turn.refl _ _⟩
  by_cases g1 : g = 1
  · subst g1
    have e : S.spent = (S, true) := by unfold FsM.spent; rw [if_neg (by omega), if_pos hg]
    rw [e]
    rw [hg] at h4
    clear h8 h hg hf e g0
    go_enter Tryz.func48, Tryz.ntmps48
    go_wp2
    go_ret
    exact ⟨rfl, H.out, Turn.refl _ _⟩
  have e : S.spent = (S.setFuse (g - 1), false) := by unfold FsM.spent; rw [if_neg (by omega), if_neg (by omega), hg]; rfl
  rw [e]
  rw [hg] at h4 hf
  have h5' := h5 4
  have hw : IntKind.i64.wrap ((g : Int) - 1) = ((g - 1 : Nat) : Int) := by simp [IntKind.wrap, IntKind.signed, IntKind.bits]; omega
  have HP := Lib.hid (show FsAt c F (w.setCell ⟨f, 4, none⟩ (.int .i64 ((g - 1 : Nat) : Int))) f (S.setFuse (g - 1)) ∧ Turn (fun k => k = f) w (w.setCell ⟨f, 4, none⟩ (.int .i64 ((g - 1 : Nat) : Int))) from ⟨h.setFuse _, Turn.setCell _ _ _ rfl⟩)
  have b0 : (g : Int) ≠ 0 := by omega
  have b1 : (g : Int) ≠ 1 := by omega
  obtain ⟨g', hg'⟩ : ∃ g', g - 1 = g' := ⟨_, rfl⟩
  rw [hg'] at HP hw ⊢
  have G0 := Lib.hid g0
  have G1 := Lib.hid g1
  clear h8 h hg e g0 g1 hg' h5
  go_enter Tryz.func48, Tryz.ntmps48
  go_wp2
  go_ret
  exact ⟨rfl, HP.out⟩
/-- The struct, of which the paths as they stay and the changes are not known. -/
structure FsHalf (c F : Nat → Nat) (w : World) (f : Nat) (S : FsM) : Prop where
  out : ∃ (bn : Nat) (x y : Value), Blk w f #[.int .i64 (S.room : Int), .map (some bn), x, y, .int .i64 (S.fuse : Int)] 64 ∧ c bn = 2 ∧ MapIs w bn (S.now.map (pv F))
  col : c f = 1
  files : ∀ i, (∃ p, (p, i) ∈ S.now) → FileAt c w i (F i) (S.file i)
  lt : ∀ k, c k ≠ 0 → k < w.heap.size
theorem FsAt.half {c F : Nat → Nat} {w : World} {f : Nat} {S : FsM} (h : FsAt c F w f S) : FsHalf c F w f S := by
  obtain ⟨bn, bk, v, h1, h2, h3, h4, h5, h6⟩ := h.out
  exact ⟨⟨bn, .map (some bk), v, h1, h2, h4⟩, h.col, fun i hi => h.files i (.inl hi), h.lt⟩

set_option maxRecDepth 100000 in
theorem settle_half {c F : Nat → Nat} {w : World} {f : Nat} {S : FsM} (h : FsHalf c F w f S) : Calls Tryz.prog 51 #[.pointer (some ⟨f, 0, none⟩)] w fun e w' => (∃ v, e = .returned v) ∧ ∃ c', FsAt c' F w' f S.settle ∧ (∀ k, k < w.heap.size → c' k = c k) ∧ Turn (fun k => k = f) w w' := by
  obtain ⟨bn, x, y, h1, h2, h3⟩ := h.out
  obtain ⟨es, clock, g1, g2, g3⟩ := h3.out
  have hC := Lib.hid (AnyW.maps_Clone Tryz.cloneM bn es clock w g1)
  change Hid (Calls Tryz.prog 55 _ _ _) at hC
  have hcl := MapIs.clone w g1 h3
  have hcf := h.col
  have hflt := h1.lt
  have hbl := h3.lt
  obtain ⟨W1, hW1⟩ : ∃ W1, w.alloc (.map es clock) = W1 := ⟨_, rfl⟩
  rw [hW1] at hC hcl
  have hk0 : Kept (fun k => k < w.heap.size) w W1 := fun k e => by rw [← hW1]; exact Below.heap_alloc _ _ k e
  have hz1 : W1.heap.size = w.heap.size + 1 := by rw [← hW1]; simp
  have ht1 : Turn (fun k => k = f) w W1 := by rw [← hW1]; exact Turn.alloc w _
  have b1 := h1.keep (w' := W1) (hk0 f hflt)
  have c2 : W1.cell? ⟨f, 2, none⟩ = some x := b1.cell 2 rfl
  have d1 : w.cell? ⟨f, 1, none⟩ = some (.map (some bn)) := h1.cell 1 rfl
  have f2 := b1.frozen 2
  have b2 := b1.set 2 (.map (some w.heap.size))
  have c3 : (W1.setCell ⟨f, 2, none⟩ (.map (some w.heap.size))).cell? ⟨f, 3, none⟩ = some y := b2.cell 3 rfl
  have f3 := b2.frozen 3
  have b3 := b2.set 3 (.slice none 0 0)
  have hP := Lib.hid (show ∃ c', FsAt c' F ((W1.setCell ⟨f, 2, none⟩ (.map (some w.heap.size))).setCell ⟨f, 3, none⟩ (.slice none 0 0)) f S.settle ∧ (∀ k, k < w.heap.size → c' k = c k) ∧ Turn (fun k => k = f) w ((W1.setCell ⟨f, 2, none⟩ (.map (some w.heap.size))).setCell ⟨f, 3, none⟩ (.slice none 0 0)) from by
    have hk : Kept (fun k => k < w.heap.size + 1 ∧ k ≠ f) W1 ((W1.setCell ⟨f, 2, none⟩ (.map (some w.heap.size))).setCell ⟨f, 3, none⟩ (.slice none 0 0)) := fun k e => (Below.heap_setCell _ _ _ _ e.2).trans (Below.heap_setCell _ _ _ _ e.2)
    have hk1 : Kept (fun k => k < w.heap.size ∧ k ≠ f) w ((W1.setCell ⟨f, 2, none⟩ (.map (some w.heap.size))).setCell ⟨f, 3, none⟩ (.slice none 0 0)) := (hk0.mono fun k e => e.1).trans (hk.mono fun k e => ⟨by omega, e.2⟩)
    refine ⟨upd c w.heap.size 3, ⟨⟨bn, w.heap.size, .slice none 0 0, b3, ?_, ?_, h3.keep (hk1 bn ⟨hbl, fun e => by rw [e] at h2; omega⟩), hcl.keep (hk w.heap.size ⟨by omega, by omega⟩), ChgAt.nil _ _ _⟩, ?_, fun i hi => ?_, fun k hk => ?_⟩, fun k hk => ?_, ?_⟩
    · rw [upd_ne c 3 (by omega)]; exact h2
    · exact upd_same c _ 3
    · rw [upd_ne c 3 (by omega)]; exact hcf
    · have hi' : ∃ p, (p, i) ∈ S.now := by
        rcases hi with e | e | ⟨l, e, -⟩
        · exact e
        · exact e
        · simp [FsM.settle] at e
      refine ((h.files i hi').keep (hk1.mono fun k e => ⟨h.lt k (by omega), fun e2 => by rw [e2] at e; omega⟩)).recol fun k e => ?_
      exact upd_ne c 3 (by have := h.lt k (by omega); omega)
    · simp only [World.size_setCell, hz1]
      by_cases e : k = w.heap.size
      · omega
      · rw [upd_ne c 3 e] at hk
        have := h.lt k hk; omega
    · exact upd_ne c 3 (by omega)
    · exact (ht1.trans (Turn.setCell _ ⟨f, 2, none⟩ _ rfl)).trans (Turn.setCell _ ⟨f, 3, none⟩ _ rfl))
  clear hk0 hz1 ht1 hW1 h h1 h2 h3 g1 g2 g3 hcl b1 b2 b3
  go_enter Tryz.func51, Tryz.ntmps51
  go_wp2_with fail
  refine hC.out.mono ?_
  rintro e w1 ⟨rfl, rfl⟩
  go_wp2
  go_end0
  exact ⟨⟨_, rfl⟩, hP.out⟩
theorem pending_nil (w : World) : Calls Tryz.prog 17 #[.pointer none] w fun e w' => e = .returned (.int .i64 0) ∧ w = w' := by
  go_enter Tryz.func17, Tryz.ntmps17
  go_wp2
  go_ret
  exact ⟨rfl, rfl⟩
theorem pending_any {c F : Nat → Nat} {w : World} {f : Nat} {S : FsM} (h : FsAt c F w f S) : Calls Tryz.prog 17 #[.pointer (some ⟨f, 0, none⟩)] w fun e w' => e = .returned (.int .i64 S.chg.length) ∧ w = w' := by
  obtain ⟨bn, bk, A, n, h0, h1, h2, h3, h4, h5, h6, h7, h8, -⟩ := h.open_
  clear h8 h
  go_enter Tryz.func17, Tryz.ntmps17
  go_wp2
  go_ret
  exact ⟨rfl, rfl⟩
theorem fuse_nil (n : Int) (w : World) : Calls Tryz.prog 29 #[.pointer none, .int .i64 n] w fun e w' => (∃ v, e = .returned v) ∧ w = w' := by
  go_enter Tryz.func29, Tryz.ntmps29
  go_wp2
  go_end0
  exact ⟨⟨_, rfl⟩, rfl⟩
theorem fuse_any {c F : Nat → Nat} {w : World} {f : Nat} {S : FsM} (h : FsAt c F w f S) (n : Int) : Calls Tryz.prog 29 #[.pointer (some ⟨f, 0, none⟩), .int .i64 n] w fun e w' => (∃ v, e = .returned v) ∧ FsAt c F w' f (S.setFuse (min n.toNat 1099511627776 + 1)) ∧ Turn (fun k => k = f) w w' := by
  obtain ⟨bn, bk, A, m, h0, h1, h2, h3, h4, h5, h6, h7, h8, -⟩ := h.open_
  have h5' := h5 4
  obtain ⟨g, hg⟩ : ∃ g, min n.toNat 1099511627776 + 1 = g := ⟨_, rfl⟩
  have HP := Lib.hid (show FsAt c F (w.setCell ⟨f, 4, none⟩ (.int .i64 (g : Int))) f (S.setFuse g) ∧ Turn (fun k => k = f) w (w.setCell ⟨f, 4, none⟩ (.int .i64 (g : Int))) from ⟨h.setFuse _, Turn.setCell _ _ _ rfl⟩)
  have hx : IntKind.i64.wrap (min (max n 0) 1099511627776 + 1) = (g : Int) := by simp [IntKind.wrap, IntKind.signed, IntKind.bits]; omega
  rw [hg]
  clear h8 h hg h5
  go_enter Tryz.func29, Tryz.ntmps29
  go_wp2
  go_end0
  exact ⟨⟨_, rfl⟩, HP.out⟩
end Go.Proofs.YteidkmiladkoiaaGreatDoor

/-
  The changes of paths, walked: change.
-/
namespace Go.Proofs.YteidkmiladkoiaaGreatDoor
open Go.RowKit

theorem Tryz.chginfo : (Tryz.prog.info? 94).map (fun i => (i.zero, i.size, i.bytes)) = some (some (.slice none 0 0), 1, 24) := by kernel_rfl

theorem sees_cells (w : World) (b : Nat) (hb : w.heap.size = b) (xs : List Value) (t : TypeId) (cs : Array Value) (h : cs = xs.toArray) : Sees (w.alloc (.cells cs t)) (b + 1) (some ⟨b, 0, none⟩) xs := by
  subst hb
  subst h
  refine ⟨.inr ⟨_, rfl, by simp, fun j u hu => ?_⟩⟩
  rw [Addr.add_lit, World.cell?_alloc_at _ _ _ _ rfl]
  simpa using hu
theorem row_open {w : World} {base n : Nat} {e : TypeId} {sz : Nat} {v : Value} {xs : List Value} (h : w.ownsRow base e sz v n xs) : ∃ A c, v = .slice A n c ∧ n ≤ c ∧ c ≤ maxLen := by
  rcases h.2 with ⟨rfl, hn⟩ | ⟨g, cap, cur, rfl, -, -, hc, hm, -⟩
  · exact ⟨none, 0, by rw [hn], by omega, by simp [maxLen]⟩
  · exact ⟨_, cap, rfl, hc, hm⟩
/-- A block's colour, where a value owns one. -/
def updO (c : Nat → Nat) (b : Option Nat) (x : Nat) : Nat → Nat := match b with
  | none => c
  | some b => upd c b x
theorem updO_same {c : Nat → Nat} {b : Option Nat} {x k : Nat} (h : b = some k) : updO c b x k = x := by subst h; exact upd_same c k x
theorem updO_ne {c : Nat → Nat} {b : Option Nat} {x k : Nat} (h : b ≠ some k) : updO c b x k = c k := by
  cases b with
  | none => rfl
  | some j => exact upd_ne c x (fun e => h (by rw [e]))
/-- Behind a step onto a row: what the row's block was coloured stays so. -/
theorem updO_keep {c : Nat → Nat} {w w' : World} {v v' : Value} {x : Nat} (hon : Onto w w' v v') (hv : ∀ k, v.ownBlock = some k → c k = x) {k : Nat} (hk : k < w.heap.size) : updO c v'.ownBlock x k = c k := by
  by_cases e : v'.ownBlock = some k
  · rw [updO_same e]
    rcases hon.at_ with h1 | ⟨g, h1, h2⟩
    · exact (hv k (h1 ▸ e)).symm
    · rw [h1] at e; injection e with e; omega
  · exact updO_ne e

section
variable {c c' F : Nat → Nat} {w w2 w3 : World} {v v' : Value} {L : List (List Giv)} {vs : List Value} {A : Option Addr} {n : Nat} {l : List Giv}
/-- One more change. -/
theorem ChgAt.put (h1 : w.ownsRow 0 94 1 v L.length vs) (h2 : ∀ k, v.ownBlock = some k → c k = 4)
    (h3 : ∀ i (hi : i < L.length), ∃ A n, vs[i]? = some (.slice A (L[i]).length n) ∧ (L[i]).length ≤ n ∧ SeesM (fun k => c k = 5) w A (givV F L[i]))
    (hc : ∀ k, c k ≠ 0 → k < w.heap.size) (hk : Kept (fun k => c k = 5) w w2) (hs : w.heap.size ≤ w2.heap.size) (hs5 : SeesM (fun k => c k = 5) w A (givV F l)) (hn : l.length ≤ n)
    (hown : w3.ownsRow 0 94 1 v' (L.length + 1) (vs ++ [.slice A l.length n])) (hon : Onto w2 w3 v v') : ChgAt (updO c v'.ownBlock 4) F w3 v' (L ++ [l]) := by
  have hvs : vs.length = L.length := by have := h1.1; omega
  have hk3 : Kept (fun k => c k = 5) w w3 := hk.trans fun k e => hon.grown.block k (by have := hc k (by omega); omega) (fun e2 => by have := h2 k e2.symm; omega)
  have hcol : ∀ k, c k = 5 → updO c v'.ownBlock 4 k = 5 := fun k e => (updO_keep hon h2 (by have := hc k (by omega); omega)).trans e
  refine ⟨vs ++ [.slice A l.length n], by rw [List.length_append]; exact hown, fun k e => updO_same e, fun i hi => ?_⟩
  by_cases hlt : i < L.length
  · obtain ⟨Ai, ci, g1, g2, g3⟩ := h3 i hlt
    rw [List.getElem_append_left hlt, List.getElem?_append_left (by omega)]
    exact ⟨Ai, ci, g1, g2, (g3.keep hk3).mono hcol⟩
  · have he : i = L.length := by simp at hi; omega
    subst he
    rw [List.getElem_append_right (Nat.le_refl _), List.getElem?_append_right (by omega)]
    refine ⟨A, n, by simp [hvs], by simpa using hn, ?_⟩
    simp only [Nat.sub_self, List.getElem_cons_zero]
    exact (hs5.keep hk3).mono hcol
end

set_option maxRecDepth 100000 in
set_option maxHeartbeats 800000 in
theorem change_any {c F : Nat → Nat} {w : World} {f : Nat} {S : FsM} (h : FsAt c F w f S) (hR : RiD S.now) (A : Option Addr) (n cap : Nat) (l : List Giv) (hl : l.length = n) (hc : n ≤ cap) (hn : n ≤ 1000) (hs : SeesM (fun k => c k = 5) w A (givV F l)) (hnew : ∀ p i, (p, some i) ∈ l → FileAt c w i (F i) (S.file i)) (hN : S.chg.length ≤ 100000) :
    Calls Tryz.prog 50 #[.pointer (some ⟨f, 0, none⟩), .slice A n cap] w fun e w' => e = .returned (.int .i64 0) ∧ ∃ c', FsAt c' F w' f (S.change l) ∧ (∀ k, k < w.heap.size → c' k = c k) ∧ Turn (fun k => k = f ∨ c k = 2 ∨ c k = 4) w w' := by
  obtain ⟨bn, bk, v, h1, h2, h3, h4, h5, h6⟩ := h.out
  obtain ⟨vs, r1, r2, r3⟩ := h6.out
  have hcf := h.col
  have hD := Lib.hid (do_any (fun k => c k = 5) A n cap bn F l S.now w hl hn hs (fun k e => ⟨h.lt k (by omega), fun e2 => by rw [e2] at e; omega⟩) h4 hR)
  have d1 : w.cell? ⟨f, 1, none⟩ = some (.map (some bn)) := h1.cell 1 rfl
  obtain ⟨L, hL⟩ : ∃ L, S.chg.length = L := ⟨_, rfl⟩
  rw [hL] at r1 hN
  have HX := Lib.hid (And.intro h (And.intro hR (And.intro hnew (And.intro r2 (And.intro r3 (And.intro h5 (And.intro hs hL)))))))
  obtain ⟨ti, hti, hz0, hz1, hz2⟩ := info_parts Tryz.chginfo
  have hone := hz1
  obtain ⟨A0, c0, hv, -, -⟩ := row_open r1
  subst hv
  have B1 := Lib.hid h1
  have H2 := Lib.hid h2
  have H3 := Lib.hid h3
  have HL := Lib.hid hl
  clear h h1 h2 h3 h4 h5 h6 r2 r3 hR hnew hs hL hl
  go_enter Tryz.func50, Tryz.ntmps50
  go_wp2_with fail
  refine hD.out.mono ?_
  rintro e w1 ⟨⟨v1, rfl⟩, hm1, ht1⟩
  have hs1 := ht1.size
  have hfb : f ≠ bn := fun e => by have := H2.out; rw [← e] at this; omega
  have b1 := B1.out.keep (ht1.block f B1.out.lt hfb)
  have d3 : w1.cell? ⟨f, 3, none⟩ = some (.slice A0 L c0) := b1.cell 3 rfl
  have r1' := ownsRow_kept r1 (w' := w1) fun k e => ht1.block k (World.ownsRow.lt r1 k e).2 (fun e2 => by obtain ⟨-, -, -, g, -⟩ := HX.out; have := g k e; have := H2.out; rw [← e2] at this; omega)
  have HM1 := Lib.hid hm1
  have HT1 := Lib.hid ht1
  clear hm1 ht1
  have hfr : ∀ g, (Value.slice A0 L c0).ownBlock = some g → g ≠ f := fun g e e2 => by obtain ⟨-, -, -, hg, -⟩ := HX.out; have := hg g e; have := HX.out.1.col; rw [← e2] at this; omega
  go_wp2_with (at_builtin; (refine wpList_append_v rfl (.tmp 15) (.tmp 17) 62 rfl 94 ti _ 1 24 Tryz.underlying62 hti hz0 hz1 hz2 rfl (by omega) 0 _ L vs (by rfl) (World.ownsRow.alloc r1' _) (w1.heap.size + 1) (some ⟨w1.heap.size, 0, none⟩) 1 1 [.slice A n cap] (by rfl) rfl (sees_cells w1 _ rfl _ _ _ rfl) (fun u hu => by simp at hu; subst hu; rfl) (by simp only [maxLen]; omega) (by omega) (by simp) ?_; intro v3 w3 hown3 hon3; obtain ⟨A3, c3, hv3, -, -⟩ := row_open hown3; subst hv3; have b2 := (b1.keep (w' := w1.alloc (.cells #[.slice A n cap] 94)) (Below.heap_alloc _ _ f b1.lt)).keep (hon3.grown.block f (by have := b1.lt; simp; omega) (fun e => hfr f e.symm rfl)); have e3 : w3.cell? ⟨f, 3, none⟩ = some (.slice A0 L c0) := b2.cell 3 rfl; have f3 := b2.frozen 3; have b3 := Lib.hid (b2.set 3 (.slice A3 (L + 1) c3)); have HOWN := Lib.hid hown3; have HON := Lib.hid hon3; clear hown3 hon3))
  go_ret
  refine ⟨rfl, updO c (Value.slice A3 (L + 1) c3).ownBlock 4, ?_⟩
  obtain ⟨h, hR, hnew, r2, r3, h5, hs, hL⟩ := HX.out
  have hbn := H2.out
  have hbk := H3.out
  have hcol : ∀ k, k < w.heap.size → updO c (Value.slice A3 (L + 1) c3).ownBlock 4 k = c k := fun k hk => updO_keep HON.out r2 (by simp; omega)
  have ht3 : Turn (fun k => k = f ∨ c k = 2 ∨ c k = 4) w1 (w3.setCell ⟨f, 3, none⟩ (.slice A3 (L + 1) c3)) := (Turn.alloc w1 _).trans ((Turn.onto HON.out fun k e => .inr (.inr (r2 k e))).trans (Turn.setCell _ _ _ (.inl rfl)))
  have ht : Turn (fun k => k = f ∨ c k = 2 ∨ c k = 4) w (w3.setCell ⟨f, 3, none⟩ (.slice A3 (L + 1) c3)) := (HT1.out.mono fun k _ e => .inr (.inl (by rw [e]; exact hbn))).trans ht3
  have hkb : ∀ k, k < w.heap.size → k ≠ f → c k ≠ 4 → (w3.setCell ⟨f, 3, none⟩ (.slice A3 (L + 1) c3)).heap[k]? = w1.heap[k]? := fun k hk hkf hk4 => by
    rw [Below.heap_setCell _ _ _ _ hkf, HON.out.grown.block k (by simp; omega) (fun e => hk4 (r2 k e.symm))]
    exact Below.heap_alloc _ _ k (by omega)
  have hkc : Kept (fun k => c k ≠ 0 ∧ c k ≠ 1 ∧ c k ≠ 2 ∧ c k ≠ 4) w (w3.setCell ⟨f, 3, none⟩ (.slice A3 (L + 1) c3)) := Kept.of_turn ht fun k e => ⟨h.lt k e.1, fun e2 => by
    rcases e2 with e2 | e2 | e2
    · rw [e2] at e; omega
    · omega
    · omega⟩
  have hcf' : updO c (Value.slice A3 (L + 1) c3).ownBlock 4 f = 1 := (hcol f B1.out.lt).trans hcf
  refine ⟨⟨⟨bn, bk, .slice A3 (L + 1) c3, ?_, (hcol bn (h.lt bn (by omega))).trans hbn, (hcol bk (h.lt bk (by omega))).trans hbk, ?_, ?_, ?_⟩, hcf', fun i hi => ?_, fun k hk => ?_⟩, hcol, ht⟩
  · exact b3.out
  · exact HM1.out.keep (hkb bn (h.lt bn (by omega)) (fun e => hfb e.symm) (by omega))
  · exact h5.keep (hkc bk ⟨by omega, by omega, by omega, by omega⟩)
  · have hp := ChgAt.put (F := F) (w2 := w1.alloc (.cells #[.slice A n cap] 94)) (A := A) (n := cap) (l := l) (by rw [hL]; exact r1) r2 r3 h.lt ((Kept.of_turn HT1.out fun k e => ⟨h.lt k (by omega), fun e2 => by rw [e2] at e; omega⟩).trans (Kept.of_below ((Below.refl _ w1).alloc (Nat.le_refl _) _) fun k e => by have := h.lt k (by omega); omega)) (by simp; omega) hs (by rw [HL.out]; exact hc) (by rw [hL, HL.out]; exact HOWN.out) HON.out
    exact hp.keep fun k e => Below.heap_setCell _ _ _ _ (fun e2 => by simp only at e2; rw [e2] at e; omega)
  · have hf1 : FileAt c w i (F i) (S.file i) := by
      rcases reach_change hR hi with e | ⟨p, e⟩
      · exact h.files i e
      · exact hnew p i e
    exact (hf1.keep (hkc.mono fun k e => ⟨by omega, by omega, by omega, by omega⟩)).recol fun k e => hcol k (h.lt k (by omega))
  · rw [World.size_setCell]
    by_cases e : (Value.slice A3 (L + 1) c3).ownBlock = some k
    · exact (World.ownsRow.lt HOWN.out k e).2
    · rw [updO_ne e] at hk
      have h1 := h.lt k hk
      have h2 := HON.out.size
      simp at h2
      omega
end Go.Proofs.YteidkmiladkoiaaGreatDoor

/-
  Whether a path may be: the program's walk.
-/
namespace Go.Proofs.YteidkmiladkoiaaGreatDoor
open Go.RowKit

def nameCs : List UInt8 := [97, 98, 99, 100, 101, 102, 103, 104, 105, 106, 107, 108, 109, 110, 111, 112, 113, 114, 115, 116, 117, 118, 119, 120, 121, 122, 48, 49, 50, 51, 52, 53, 54, 55, 56, 57, 46, 47]
def nameB (s : ByteArray) : Bool := decide (1 ≤ s.size) && decide (s.size ≤ 24) && s.data.toList.all FsM.rightC
theorem nameCs_has (c : UInt8) : nameCs.contains c = FsM.rightC c := by
  have h : ∀ n, n < 256 → nameCs.contains (UInt8.ofNat n) = FsM.rightC (UInt8.ofNat n) := by decide +kernel
  have := h c.toNat c.toNat_lt
  simpa using this
theorem trim_all (l : List UInt8) : (Lib.trimS l nameCs).isEmpty = l.all FsM.rightC := by
  have hd : ∀ m : List UInt8, (m.dropWhile (nameCs.contains ·)).isEmpty = m.all FsM.rightC := by
    intro m
    induction m with
    | nil => rfl
    | cons a t ih =>
      rw [List.dropWhile_cons, List.all_cons, nameCs_has]
      cases h : FsM.rightC a
      · rfl
      · simpa using ih
  have ha : ∀ m : List UInt8, (m.dropWhile (nameCs.contains ·)).all FsM.rightC = m.all FsM.rightC := by
    intro m
    induction m with
    | nil => rfl
    | cons a t ih =>
      rw [List.dropWhile_cons, nameCs_has]
      cases h : FsM.rightC a
      · rfl
      · rw [List.all_cons, h]; simpa using ih
  unfold Lib.trimS Lib.trimLeftS Lib.trimRightS
  rw [hd, List.all_reverse, ha, List.all_reverse]

theorem str_empty (l : List UInt8) : (⟨l.toArray⟩ : ByteArray).toList.isEmpty = l.isEmpty := by rw [Lib.toList_data]

set_option maxRecDepth 100000 in
set_option maxHeartbeats 400000 in
theorem right_str (s : ByteArray) (w : World) (hs : s.size ≤ 9223372036854775807) :
    Calls Tryz.prog 49 #[.string s] w (Gives w (.bool (nameB s))) := by
  have hT := Any.strings_Trim_laid Tryz.lays160 (by kernel_rfl) s ⟨nameCs.toArray⟩ w hs (by decide) (ascii_of_all (by decide))
  change Calls Tryz.prog 64 #[.string s, .string ⟨#[97, 98, 99, 100, 101, 102, 103, 104, 105, 106, 107, 108, 109, 110, 111, 112, 113, 114, 115, 116, 117, 118, 119, 120, 121, 122, 48, 49, 50, 51, 52, 53, 54, 55, 56, 57, 46, 47]⟩] w (fun e w' => e = .returned (.string ⟨(Lib.trimS s.data.toList nameCs).toArray⟩) ∧ Below w.heap.size w w') at hT
  have he := str_empty (Lib.trimS s.data.toList nameCs)
  rw [trim_all] at he
  obtain ⟨X, hX⟩ : ∃ X, nameB s = X := ⟨_, rfl⟩
  rw [hX]
  unfold nameB at hX
  generalize (⟨(Lib.trimS s.data.toList nameCs).toArray⟩ : ByteArray) = r at hT he
  generalize s.data.toList.all FsM.rightC = b at he hX
  have HT := Lib.hid hT
  by_cases h1 : 1 ≤ s.size
  · by_cases h2 : s.size ≤ 24
    · rw [decide_eq_true h1, decide_eq_true h2] at hX
      have HX : Hid (X = b) := by unfold Hid; rw [← hX]; rfl
      have h1' : (1 : Int) ≤ (s.size : Int) := by omega
      have h2' : (s.size : Int) ≤ 24 := by omega
      clear hX hT
      cases b
      all_goals
        go_enter Tryz.func49, Tryz.ntmps49
        go_wp2_with fail
        refine HT.out.mono ?_
        rintro e w1 ⟨rfl, hb⟩
        go_wp2
        go_ret
        rw [HX.out]
        exact ⟨rfl, hb⟩
    · rw [decide_eq_true h1, decide_eq_false h2] at hX
      have HX : Hid (X = false) := by unfold Hid; rw [← hX]; rfl
      have h1' : (1 : Int) ≤ (s.size : Int) := by omega
      have h2' : (24 : Int) < (s.size : Int) := by omega
      clear hX hT h2
      go_enter Tryz.func49, Tryz.ntmps49
      go_wp2
      go_ret
      rw [HX.out]
      exact ⟨rfl, Below.refl _ _⟩
  · rw [decide_eq_false h1] at hX
    have HX : Hid (X = false) := by unfold Hid; rw [← hX]; rfl
    have h1' : (s.size : Int) < 1 := by omega
    clear hX hT h1
    go_enter Tryz.func49, Tryz.ntmps49
    go_wp2
    go_ret
    rw [HX.out]
    exact ⟨rfl, Below.refl _ _⟩

theorem right_strOf (p : Txt) : nameB (strOf p) = FsM.right p := by
  have h1 : (strOf p).size = p.length := by simp [strOf, ByteArray.size]
  unfold nameB FsM.right
  rw [h1]
  rfl
theorem right_any (p : Txt) (w : World) (hp : p.length ≤ 1000000) : Calls Tryz.prog 49 #[.string (strOf p)] w (Gives w (.bool (FsM.right p))) := by
  have h1 : (strOf p).size = p.length := by simp [strOf, ByteArray.size]
  rw [← right_strOf]
  exact right_str (strOf p) w (by omega)
end Go.Proofs.YteidkmiladkoiaaGreatDoor

/-
  Whether a path may be: the document's answer, walked.
-/
namespace Go.Proofs.YteidkmiladkoiaaGreatDoor
open Go.RowKit

theorem all_at {l : List UInt8} {k : Nat} (h : k < l.length) : (l.drop k).all FsM.rightC = (FsM.rightC l[k] && (l.drop (k + 1)).all FsM.rightC) := by
  rw [List.drop_eq_getElem_cons h]
  rfl

set_option maxRecDepth 100000 in
set_option maxHeartbeats 400000 in
theorem refRight_str (s : ByteArray) (w : World) (hs : s.size ≤ 9223372036854775807) :
    Calls Tryz.prog 56 #[.string s] w fun e w' => e = .returned (.bool (nameB s)) ∧ w = w' := by
  obtain ⟨X, hX⟩ : ∃ X, nameB s = X := ⟨_, rfl⟩
  rw [hX]
  unfold nameB at hX
  by_cases h1 : 1 ≤ s.size
  · by_cases h2 : s.size ≤ 24
    · rw [decide_eq_true h1, decide_eq_true h2] at hX
      have HX : Hid (X = s.data.toList.all FsM.rightC) := by unfold Hid; rw [← hX]; rfl
      have h1' : (1 : Int) ≤ (s.size : Int) := by omega
      have h2' : (s.size : Int) ≤ 24 := by omega
      clear hX
      go_enter Tryz.func56, Tryz.ntmps56
      go_wp2
      go_loopg [3] s.size (fun g i wr => ∃ k : Nat, k + g = s.size ∧ i = .int .i64 k ∧ Hid (X = (s.data.toList.drop k).all FsM.rightC) ∧ wr = w)
      case atStart => exact ⟨0, by omega, rfl, HX.out, rfl⟩
      case round =>
        obtain ⟨k, hk, rfl, heq, rfl⟩ := hrel
        by_cases hlt : k < s.size
        · have hstep := Lib.hid (heq.out.trans (all_at (l := s.data.toList) (k := k) (by simpa using hlt)))
          have hsk : Hid (s.data.toList[k]'(by simpa using hlt) = s[k]) := rfl
          rw [hsk.out] at hstep
          have hy : (((s[k].toNat = 46 ∨ s[k].toNat = 47) ∨ (97 ≤ s[k].toNat ∧ s[k].toNat ≤ 122)) ∨ (48 ≤ s[k].toNat ∧ s[k].toNat ≤ 57)) → Hid (X = (s.data.toList.drop (k + 1)).all FsM.rightC) := fun h => by
            have := hstep.out
            have hc : FsM.rightC s[k] = true := by unfold FsM.rightC; simp only [Bool.or_eq_true, Bool.and_eq_true, decide_eq_true_eq]; omega
            rw [hc, Bool.true_and] at this
            exact this
          have hno : ¬ (((s[k].toNat = 46 ∨ s[k].toNat = 47) ∨ (97 ≤ s[k].toNat ∧ s[k].toNat ≤ 122)) ∨ (48 ≤ s[k].toNat ∧ s[k].toNat ≤ 57)) → Hid (X = false) := fun h => by
            have := hstep.out
            have hc : FsM.rightC s[k] = false := by
              rw [← Bool.not_eq_true]; intro e; apply h; unfold FsM.rightC at e; simp only [Bool.or_eq_true, Bool.and_eq_true, decide_eq_true_eq] at e; omega
            rw [hc, Bool.false_and] at this
            exact this
          have HY := Lib.hid hy
          have HO := Lib.hid hno
          clear hy hno hstep heq
          have hn1 : ((s[k].toNat : Int) != 46) = !(decide (s[k].toNat = 46)) := by rw [Bool.eq_iff_iff]; simp; omega
          have hn2 : ((s[k].toNat : Int) != 47) = !(decide (s[k].toNat = 47)) := by rw [Bool.eq_iff_iff]; simp; omega
          by_cases h46 : s[k].toNat = 46
          · rw [decide_eq_true h46] at hn1
            go_wp2
            all_goals first
              | (have hF := HO.out (by omega)
                 go_ret
                 rw [hF.out]
                 exact ⟨rfl, rfl⟩)
              | (have hT := HY.out (by omega)
                 go_roundg (s.size - (k + 1))
                 case measure => omega
                 case rel => exact ⟨k + 1, by omega, by go_num, hT, rfl⟩)
          · rw [decide_eq_false h46] at hn1
            by_cases h47 : s[k].toNat = 47
            · rw [decide_eq_true h47] at hn2
              go_wp2
              all_goals first
                | (have hF := HO.out (by omega)
                   go_ret
                   rw [hF.out]
                   exact ⟨rfl, rfl⟩)
                | (have hT := HY.out (by omega)
                   go_roundg (s.size - (k + 1))
                   case measure => omega
                   case rel => exact ⟨k + 1, by omega, by go_num, hT, rfl⟩)
            · rw [decide_eq_false h47] at hn2
              go_wp2
              all_goals first
                | (have hF := HO.out (by omega)
                   go_ret
                   rw [hF.out]
                   exact ⟨rfl, rfl⟩)
                | (have hT := HY.out (by omega)
                   go_roundg (s.size - (k + 1))
                   case measure => omega
                   case rel => exact ⟨k + 1, by omega, by go_num, hT, rfl⟩)
        · have HF : Hid (X = true) := by have := heq.out; rw [List.drop_eq_nil_of_le (by simp; omega)] at this; exact this
          clear heq
          go_wp2
          go_ret
          rw [HF.out]
          exact ⟨rfl, rfl⟩
    · rw [decide_eq_true h1, decide_eq_false h2] at hX
      have HX : Hid (X = false) := by unfold Hid; rw [← hX]; rfl
      have h1' : (1 : Int) ≤ (s.size : Int) := by omega
      have h2' : (24 : Int) < (s.size : Int) := by omega
      clear hX h2
      go_enter Tryz.func56, Tryz.ntmps56
      go_wp2
      go_ret
      rw [HX.out]
      exact ⟨rfl, rfl⟩
  · rw [decide_eq_false h1] at hX
    have HX : Hid (X = false) := by unfold Hid; rw [← hX]; rfl
    have h1' : (s.size : Int) < 1 := by omega
    clear hX h1
    go_enter Tryz.func56, Tryz.ntmps56
    go_wp2
    go_ret
    rw [HX.out]
    exact ⟨rfl, rfl⟩

theorem refRight_any (p : Txt) (w : World) (hp : p.length ≤ 1000000) : Calls Tryz.prog 56 #[.string (strOf p)] w fun e w' => e = .returned (.bool (FsM.right p)) ∧ w = w' := by
  have h1 : (strOf p).size = p.length := by simp [strOf, ByteArray.size]
  rw [← right_strOf]
  exact refRight_str (strOf p) w (by omega)
end Go.Proofs.YteidkmiladkoiaaGreatDoor

/-
  New; the calls that change files' paths, walked: Create, Rename, Link, Remove, SyncDir.
-/
namespace Go.Proofs.YteidkmiladkoiaaGreatDoor
open Go.RowKit

/-- A changing call: counted first. -/
def FsM.go (S : FsM) (act : FsM → FsM × Nat) : FsM × Nat := if S.spent.2 = true then (S.spent.1, 62) else act S.spent.1
theorem FsM.go_full {S : FsM} {act : FsM → FsM × Nat} (h : S.spent.2 = true) : S.go act = (S.spent.1, 62) := by unfold FsM.go; rw [if_pos h]
theorem FsM.go_on {S : FsM} {act : FsM → FsM × Nat} (h : S.spent.2 = false) : S.go act = act S.spent.1 := by unfold FsM.go; rw [h]; rfl
theorem FsM.spent_look (S : FsM) (p : Txt) : S.spent.1.look p = S.look p := by rw [S.spent_eq.1]; rfl
theorem FsM.more_file (S : FsM) {i : Nat} (h : i < S.files.length) : S.more.file i = S.file i := by
  unfold FsM.file FsM.more
  rw [List.getD_eq_getElem?_getD, List.getD_eq_getElem?_getD, List.getElem?_append_left h]
theorem FsM.more_new (S : FsM) : S.more.file S.files.length = ⟨[], 0⟩ := by
  unfold FsM.file FsM.more
  rw [List.getD_eq_getElem?_getD, List.getElem?_append_right (Nat.le_refl _)]
  simp

section
variable {c F : Nat → Nat} {w w' : World} {f : Nat} {S : FsM}
/-- A new block that is none of the files'. -/
theorem FsAt.giv (h : FsAt c F w f S) (o : Obj) : FsAt (upd c w.heap.size 5) F (w.alloc o) f S := by
  refine (h.below ((Below.refl _ w).alloc (Nat.le_refl _) o)).recol (fun k hk => upd_ne c 5 (by have := h.lt k hk; omega)) fun k hk => ?_
  rw [World.size_alloc]
  by_cases e : k = w.heap.size
  · omega
  · rw [upd_ne c 5 e] at hk
    have := h.lt k hk; omega
/-- A new file. -/
theorem FsAt.more (h : FsAt c F w f S) (hn : ∀ i, S.reach i → i < S.files.length) : FsAt (upd c w.heap.size (2 * S.files.length + 6)) (upd F S.files.length w.heap.size) (w.alloc (.cells #[.slice none 0 0, .int .i64 0] 77)) f S.more ∧
    FileAt (upd c w.heap.size (2 * S.files.length + 6)) (w.alloc (.cells #[.slice none 0 0, .int .i64 0] 77)) S.files.length w.heap.size (S.more.file S.files.length) := by
  have hF : ∀ i, S.reach i → upd F S.files.length w.heap.size i = F i := fun i hi => upd_ne F _ (by have := hn i hi; omega)
  have h2 : FsAt (upd c w.heap.size (2 * S.files.length + 6)) (upd F S.files.length w.heap.size) (w.alloc (.cells #[.slice none 0 0, .int .i64 0] 77)) f S := by
    refine ((h.below ((Below.refl _ w).alloc (Nat.le_refl _) _)).refile hF).recol (fun k hk => upd_ne c _ (by have := h.lt k hk; omega)) fun k hk => ?_
    rw [World.size_alloc]
    by_cases e : k = w.heap.size
    · omega
    · rw [upd_ne c _ e] at hk
      have := h.lt k hk; omega
  refine ⟨⟨h2.out, h2.col, fun i hi => ?_, h2.lt⟩, ?_⟩
  · rw [S.more_file (hn i hi)]
    exact h2.files i hi
  · rw [S.more_new]
    exact ⟨⟨.slice none 0 0, Blk.new w _ _, OwnB.nil _ _, fun k hk => by simp [Value.ownBlock] at hk⟩, upd_same c _ _⟩
theorem FsNew.of_turn {c' F' : Nat → Nat} {S' : FsM} (h : FsAt c' F' w' f S') (hc : ∀ k, k < w.heap.size → c k = 0 → c' k = 0) (ht : Turn (fun k => c k ≠ 0) w w') : FsNew c w f S' w' := ⟨⟨c', F', h, hc⟩, ht⟩
theorem FsNew.below {S' : FsM} {w0 : World} (h : FsNew c w f S' w') (hb : Below w0.heap.size w0 w) (_ : ∀ k, c k ≠ 0 → k < w0.heap.size) : FsNew c w0 f S' w' := by
  obtain ⟨c', F', h1, h2⟩ := h.out
  have := hb.size
  exact ⟨⟨c', F', h1, fun k hk e => h2 k (by omega) e⟩, (Turn.of_new hb).trans h.turn⟩
end

set_option maxRecDepth 100000 in
theorem new_any (n : Int) (w : World) : Calls Tryz.prog 9 #[.int .i64 n] w fun e w' => ∃ f c F, e = .returned (.pointer (some ⟨f, 0, none⟩)) ∧ FsAt c F w' f (FsM.new (min (max n 0) 16777216).toNat) ∧ (∀ k, k < w.heap.size → c k = 0) ∧ Below w.heap.size w w' := by
  obtain ⟨r, hr⟩ : ∃ r, (min (max n 0) 16777216).toNat = r := ⟨_, rfl⟩
  have hx : min (max n 0) 16777216 = (r : Int) := by omega
  rw [hr]
  have hmm := @run_makeMap Tryz.prog
  clear hr
  go_enter Tryz.func9, Tryz.ntmps9
  go_wp2
  go_ret
  refine ⟨w.heap.size + 1 + 1, upd (upd (upd (fun _ => 0) w.heap.size 2) (w.heap.size + 1) 3) (w.heap.size + 1 + 1) 1, fun _ => 0, rfl, ⟨⟨w.heap.size, w.heap.size + 1, .slice none 0 0, ?_, ?_, ?_, ?_, ?_, ChgAt.nil _ _ _⟩, upd_same _ _ _, fun i hi => ?_, fun k hk => ?_⟩, fun k hk => ?_, ((((Below.refl _ w).alloc (Nat.le_refl _) _).alloc (by simp) _).alloc (by simp; omega) _)⟩
  · refine ⟨?_⟩
    have := World.alloc_heap_new ((w.alloc (.map #[] 0)).alloc (.map #[] 0)) (.cells #[.int .i64 (r : Int), .map (some w.heap.size), .map (some (w.heap.size + 1)), .slice none 0 0, .int .i64 0] 64)
    simpa [fsV, FsM.new] using this
  · rw [upd_ne _ _ (by omega), upd_ne _ _ (by omega), upd_same]
  · rw [upd_ne _ _ (by omega), upd_same]
  · exact ((MapIs.new w).keep (Below.heap_alloc _ _ _ (by simp))).keep (Below.heap_alloc _ _ _ (by simp; omega))
  · have := MapIs.new (w.alloc (.map #[] 0))
    rw [World.size_alloc] at this
    exact this.keep (Below.heap_alloc _ _ _ (by simp))
  · rcases hi with ⟨p, e⟩ | ⟨p, e⟩ | ⟨l, e, -⟩ <;> simp [FsM.new] at e
  · simp only [World.size_alloc]
    simp only [upd] at hk
    split at hk
    · omega
    · split at hk
      · omega
      · split at hk
        · omega
        · exact absurd rfl hk
  · rw [upd_ne _ _ (by omega), upd_ne _ _ (by omega), upd_ne _ _ (by omega)]

/-- change, at a change that was just laid. -/
theorem change_lit {N : Nat} {c F : Nat → Nat} {w : World} {f : Nat} {S : FsM} (h : FsAt c F w f S) (hO : FsOk N S) (hN : N ≤ 10000) (l : List Giv) (n : Nat) (hn : l.length = n) (hn2 : n ≤ 2) (cs : Array Value) (hcs : cs = (givV F l).toArray) (hnew : ∀ p i, (p, some i) ∈ l → FileAt c w i (F i) (S.file i)) :
    Calls Tryz.prog 50 #[.pointer (some ⟨f, 0, none⟩), .slice (some ⟨w.heap.size, 0, none⟩) n n] (w.alloc (.cells cs 92)) fun e w' => e = .returned (.int .i64 0) ∧ FsNew c w f (S.change l) w' := by
  subst hcs
  have hkc : ∀ k, c k ≠ 0 → upd c w.heap.size 5 k = c k := fun k hk => upd_ne c 5 (by have := h.lt k hk; omega)
  have hb : Below w.heap.size w (w.alloc (.cells (givV F l).toArray 92)) := (Below.refl _ w).alloc (Nat.le_refl _) _
  refine (change_any (h.giv (.cells (givV F l).toArray 92)) hO.nowR (some ⟨w.heap.size, 0, none⟩) n n l hn (Nat.le_refl _) (by omega) ?_ (fun p i hp => ((hnew p i hp).keep (Kept.of_below hb fun k e => h.lt k (by omega))).recol fun k e => hkc k (by omega)) (by have := hO.many; omega)).mono ?_
  · have := sees_cells w _ rfl (givV F l) 92 _ rfl
    rcases this.out with e | ⟨ad, e1, e2, e3⟩
    · exact ⟨.inl e⟩
    · injection e1 with e1
      subst e1
      exact ⟨.inr ⟨_, rfl, upd_same c _ 5, e3⟩⟩
  · rintro e w' ⟨rfl, c', h1, h2, h3⟩
    refine ⟨rfl, ⟨c', F, h1, fun k hk e => ?_⟩, (Turn.of_new hb).trans' h3 fun k hk e => ?_⟩
    · rw [h2 k (by simp; omega), upd_ne c 5 (by omega)]; exact e
    · rw [upd_ne c 5 (by omega)] at e
      rcases e with e | e | e
      · rw [e, h.col]; omega
      · omega
      · omega

section
variable {c F : Nat → Nat} {w w' : World} {f : Nat} {S S' : FsM}
/-- Behind a counted call. -/
theorem spent_new (h : FsAt c F w f S) (h1 : FsAt c F w' f S.spent.1) (ht : Turn (fun k => k = f) w w') : FsNew c w f S.spent.1 w' := ⟨⟨c, F, h1, fun _ _ e => e⟩, ht.mono fun k _ e => by rw [e, h.col]; omega⟩
theorem FsNew.after {w1 : World} (ht : Turn (fun k => k = f) w w1) (hf : c f = 1) (h : FsNew c w1 f S' w') : FsNew c w f S' w' := by
  obtain ⟨c', F', h1, h2⟩ := h.out
  have := ht.size
  exact ⟨⟨c', F', h1, fun k hk e => h2 k (by omega) e⟩, (ht.mono fun k _ e => by rw [e, hf]; omega).trans h.turn⟩
end

set_option maxRecDepth 100000 in
set_option maxHeartbeats 800000 in
theorem create_any {N : Nat} {c F : Nat → Nat} {w : World} {f : Nat} {S : FsM} (h : FsAt c F w f S) (hO : FsOk N S) (hN : N ≤ 9000) (p : Txt) (hp : p.length ≤ 1000000) :
    Calls Tryz.prog 22 #[.pointer (some ⟨f, 0, none⟩), .string (strOf p)] w fun e w' => e = .returned (.int .i64 (S.go (·.create p)).2) ∧ FsNew c w f (S.go (·.create p)).1 w' := by
  have hfd := Lib.hid (find_any h p)
  have hsp := Lib.hid (spent_any h hO.fuseOk)
  have hO1 := Lib.hid hO.spent
  have hcf := h.col
  unfold findV at hfd
  have hlk := S.spent_look p
  have H := Lib.hid h
  cases hs : S.spent.2 with
  | true =>
    rw [FsM.go_full hs]
    rw [hs] at hsp
    cases hl : S.look p
    all_goals
      rw [hl] at hfd
      clear hs hl hlk h hO
      go_enter Tryz.func22, Tryz.ntmps22
      go_wp2_with fail
      refine hfd.out.mono ?_
      rintro e w1 ⟨rfl, rfl⟩
      go_wp2_with fail
      refine hsp.out.mono ?_
      rintro e w2 ⟨rfl, h2, ht2⟩
      go_wp2
      go_ret
      exact ⟨rfl, spent_new H.out h2 ht2⟩
  | false =>
    rw [FsM.go_on hs]
    rw [hs] at hsp
    obtain ⟨S1, hS1⟩ : ∃ S1, S.spent.1 = S1 := ⟨_, rfl⟩
    rw [hS1] at hlk hsp hO1 ⊢
    have hri := fun w => Lib.hid (right_any p w hp)
    cases hr : FsM.right p with
    | false =>
      have e : S1.create p = (S1, 63) := by unfold FsM.create; rw [if_pos hr]
      rw [e]
      rw [hr] at hri
      cases hl : S.look p
      all_goals
        rw [hl] at hfd
        clear hs hl hlk h hO hr e hS1
        go_enter Tryz.func22, Tryz.ntmps22
        go_wp2_with fail
        refine hfd.out.mono ?_
        rintro e w1 ⟨rfl, rfl⟩
        go_wp2_with fail
        refine hsp.out.mono ?_
        rintro e w2 ⟨rfl, h2, ht2⟩
        go_wp2_with fail
        refine (hri w2).out.mono ?_
        rintro e w3 ⟨rfl, hb3⟩
        go_wp2
        go_ret
        exact ⟨rfl, (FsNew.of_below h2 hb3).after ht2 hcf⟩
    | true =>
      rw [hr] at hri
      cases hl : S.look p with
      | some n =>
        have e : S1.create p = (S1, 61) := by unfold FsM.create; rw [if_neg (by simp [hr]), hlk, hl]; rfl
        rw [e]
        rw [hl] at hfd
        clear hs hl hlk h hO hr e hS1
        go_enter Tryz.func22, Tryz.ntmps22
        go_wp2_with fail
        refine hfd.out.mono ?_
        rintro e w1 ⟨rfl, rfl⟩
        go_wp2_with fail
        refine hsp.out.mono ?_
        rintro e w2 ⟨rfl, h2, ht2⟩
        go_wp2_with fail
        refine (hri w2).out.mono ?_
        rintro e w3 ⟨rfl, hb3⟩
        go_wp2
        go_ret
        exact ⟨rfl, (FsNew.of_below h2 hb3).after ht2 hcf⟩
      | none =>
        have e : S1.create p = (S1.more.change [(p, some S1.files.length)], 0) := by unfold FsM.create; rw [if_neg (by simp [hr]), hlk, hl]; rfl
        rw [e]
        rw [hl] at hfd
        clear hs hl hlk h hO hr e hS1
        go_enter Tryz.func22, Tryz.ntmps22
        go_wp2_with fail
        refine hfd.out.mono ?_
        rintro e w1 ⟨rfl, rfl⟩
        go_wp2_with fail
        refine hsp.out.mono ?_
        rintro e w2 ⟨rfl, h2, ht2⟩
        go_wp2_with fail
        refine (hri w2).out.mono ?_
        rintro e w3 ⟨rfl, hb3⟩
        have h3 := h2.below hb3
        have hmore := h3.more hO1.out.num
        have hch := Lib.hid (change_lit hmore.1 hO1.out.more (by omega) [(p, some S1.files.length)] 1 rfl (by omega) #[.string (strOf p), .pointer (some ⟨w3.heap.size, 0, none⟩)] (by simp [givV, optV, ptr, upd_same]) (fun q i hq => by
          simp only [List.mem_singleton, Prod.mk.injEq, Option.some.injEq] at hq
          rw [hq.2, upd_same]
          exact hmore.2))
        rw [World.size_alloc] at hch
        clear hri hfd hsp
        go_wp2_with fail
        refine hch.out.mono ?_
        rintro e w4 ⟨rfl, h4⟩
        clear hch
        go_wp2
        go_ret
        obtain ⟨c', F', g1, g2⟩ := h4.out
        have hs3 := hb3.size
        have hlt := h2.lt
        refine ⟨rfl, ((FsNew.mk ⟨c', F', g1, fun k hk e => g2 k (by simp; omega) ?_⟩ ((Turn.of_new (hb3.trans (((Below.refl _ w3).alloc (Nat.le_refl _) _).mono hs3))).trans' h4.turn fun k hk e => ?_) : FsNew c w2 f _ w4)).after ht2 hcf⟩
        · rw [upd_ne c _ (by omega)]; exact e
        · rw [upd_ne c _ (by omega)] at e; exact e
end Go.Proofs.YteidkmiladkoiaaGreatDoor

/-
  Rename, Link, Remove, SyncDir, walked; the calls on files that are none.
-/
namespace Go.Proofs.YteidkmiladkoiaaGreatDoor
open Go.RowKit

set_option maxRecDepth 100000 in
set_option maxHeartbeats 1600000 in
theorem rename_any {N : Nat} {c F : Nat → Nat} {w : World} {f : Nat} {S : FsM} (h : FsAt c F w f S) (hO : FsOk N S) (hN : N ≤ 9000) (p q : Txt) (hq : q.length ≤ 1000000) :
    Calls Tryz.prog 30 #[.pointer (some ⟨f, 0, none⟩), .string (strOf p), .string (strOf q)] w fun e w' => e = .returned (.int .i64 (S.go (·.rename p q)).2) ∧ FsNew c w f (S.go (·.rename p q)).1 w' := by
  have hfd := Lib.hid (find_any h p)
  unfold findV at hfd
  have hsp := Lib.hid (spent_any h hO.fuseOk)
  have hO1 := Lib.hid hO.spent
  have hcf := h.col
  have hlk := S.spent_look p
  have H := Lib.hid h
  cases hs : S.spent.2 with
  | true =>
    rw [FsM.go_full hs]
    rw [hs] at hsp
    cases hl : S.look p
    all_goals
      rw [hl] at hfd
      simp only [optV, ptr] at hfd
      clear hs hl hlk h hO
      go_enter Tryz.func30, Tryz.ntmps30
      go_wp2_with fail
      refine hfd.out.mono ?_
      rintro e w1 ⟨rfl, rfl⟩
      go_wp2_with fail
      refine hsp.out.mono ?_
      rintro e w2 ⟨rfl, h2, ht2⟩
      go_wp2
      go_ret
      exact ⟨rfl, spent_new H.out h2 ht2⟩
  | false =>
    rw [FsM.go_on hs]
    rw [hs] at hsp
    obtain ⟨S1, hS1⟩ : ∃ S1, S.spent.1 = S1 := ⟨_, rfl⟩
    rw [hS1] at hlk hsp hO1 ⊢
    cases hl : S.look p with
    | none =>
      have e : S1.rename p q = (S1, 60) := by unfold FsM.rename; rw [hlk, hl]
      rw [e]
      rw [hl] at hfd
      simp only [optV] at hfd
      clear e hs hl hlk h hO hS1
      go_enter Tryz.func30, Tryz.ntmps30
      go_wp2_with fail
      refine hfd.out.mono ?_
      rintro e w1 ⟨rfl, rfl⟩
      go_wp2_with fail
      refine hsp.out.mono ?_
      rintro e w2 ⟨rfl, h2, ht2⟩
      go_wp2
      go_ret
      exact ⟨rfl, ⟨⟨c, F, h2, fun _ _ e => e⟩, ht2.mono fun k _ e => by rw [e, hcf]; omega⟩⟩
    | some n =>
      have hri := fun w => Lib.hid (right_any q w hq)
      rw [hl] at hfd
      simp only [optV, ptr] at hfd
      cases hr : FsM.right q with
      | false =>
        have e : S1.rename p q = (S1, 63) := by unfold FsM.rename; rw [hlk, hl]; simp only [hr]; rfl
        rw [e]
        rw [hr] at hri
        clear e hs hl hlk h hO hr hS1
        go_enter Tryz.func30, Tryz.ntmps30
        go_wp2_with fail
        refine hfd.out.mono ?_
        rintro e w1 ⟨rfl, rfl⟩
        go_wp2_with fail
        refine hsp.out.mono ?_
        rintro e w2 ⟨rfl, h2, ht2⟩
        go_wp2_with fail
        refine (hri w2).out.mono ?_
        rintro e w3 ⟨rfl, hb3⟩
        go_wp2
        go_ret
        exact ⟨rfl, (FsNew.of_below h2 hb3).after ht2 hcf⟩
      | true =>
        have e : S1.rename p q = (S1.change [(p, none), (q, some n)], 0) := by unfold FsM.rename; rw [hlk, hl]; simp only [hr]; rfl
        rw [e]
        rw [hr] at hri
        have hln := Lib.hid (hlk.trans hl)
        clear e hs hl hlk h hO hr hS1
        go_enter Tryz.func30, Tryz.ntmps30
        go_wp2_with fail
        refine hfd.out.mono ?_
        rintro e w1 ⟨rfl, rfl⟩
        go_wp2_with fail
        refine hsp.out.mono ?_
        rintro e w2 ⟨rfl, h2, ht2⟩
        go_wp2_with fail
        refine (hri w2).out.mono ?_
        rintro e w3 ⟨rfl, hb3⟩
        have h3 := h2.below hb3
        have hch := Lib.hid (change_lit h3 hO1.out (by omega) [(p, none), (q, some n)] 2 rfl (by omega) #[.string (strOf p), .pointer none, .string (strOf q), .pointer (some ⟨F n, 0, none⟩)] (by simp [givV, optV, ptr]) (fun r i hr => by
          simp only [List.mem_cons, List.not_mem_nil, or_false, Prod.mk.injEq, Option.some.injEq, reduceCtorEq, and_false, false_or] at hr
          rw [hr.2]
          exact h3.files n (reach_now hln.out)))
        clear hri hfd hsp
        go_wp2_with fail
        refine hch.out.mono ?_
        rintro e w4 ⟨rfl, h4⟩
        clear hch
        go_wp2
        go_ret
        exact ⟨rfl, (h4.below hb3 h2.lt).after ht2 hcf⟩

set_option maxRecDepth 100000 in
set_option maxHeartbeats 1600000 in
theorem link_any {N : Nat} {c F : Nat → Nat} {w : World} {f : Nat} {S : FsM} (h : FsAt c F w f S) (hO : FsOk N S) (hN : N ≤ 9000) (p q : Txt) (hq : q.length ≤ 1000000) :
    Calls Tryz.prog 28 #[.pointer (some ⟨f, 0, none⟩), .string (strOf p), .string (strOf q)] w fun e w' => e = .returned (.int .i64 (S.go (·.link p q)).2) ∧ FsNew c w f (S.go (·.link p q)).1 w' := by
  have hfd := Lib.hid (find_any h p)
  unfold findV at hfd
  have hsp := Lib.hid (spent_any h hO.fuseOk)
  have hO1 := Lib.hid hO.spent
  have hcf := h.col
  have hlk := S.spent_look p
  have H := Lib.hid h
  cases hs : S.spent.2 with
  | true =>
    rw [FsM.go_full hs]
    rw [hs] at hsp
    cases hl : S.look p
    all_goals
      rw [hl] at hfd
      simp only [optV, ptr] at hfd
      clear hs hl hlk h hO
      go_enter Tryz.func28, Tryz.ntmps28
      go_wp2_with fail
      refine hfd.out.mono ?_
      rintro e w1 ⟨rfl, rfl⟩
      go_wp2_with fail
      refine hsp.out.mono ?_
      rintro e w2 ⟨rfl, h2, ht2⟩
      go_wp2
      go_ret
      exact ⟨rfl, spent_new H.out h2 ht2⟩
  | false =>
    rw [FsM.go_on hs]
    rw [hs] at hsp
    obtain ⟨S1, hS1⟩ : ∃ S1, S.spent.1 = S1 := ⟨_, rfl⟩
    rw [hS1] at hlk hsp hO1 ⊢
    cases hl : S.look p with
    | none =>
      have e : S1.link p q = (S1, 60) := by unfold FsM.link; rw [hlk, hl]
      rw [e]
      rw [hl] at hfd
      simp only [optV] at hfd
      clear e hs hl hlk h hO hS1
      go_enter Tryz.func28, Tryz.ntmps28
      go_wp2_with fail
      refine hfd.out.mono ?_
      rintro e w1 ⟨rfl, rfl⟩
      go_wp2_with fail
      refine hsp.out.mono ?_
      rintro e w2 ⟨rfl, h2, ht2⟩
      go_wp2
      go_ret
      exact ⟨rfl, ⟨⟨c, F, h2, fun _ _ e => e⟩, ht2.mono fun k _ e => by rw [e, hcf]; omega⟩⟩
    | some n =>
      have hri := fun w => Lib.hid (right_any q w hq)
      rw [hl] at hfd
      simp only [optV, ptr] at hfd
      cases hr : FsM.right q with
      | false =>
        have e : S1.link p q = (S1, 63) := by unfold FsM.link; rw [hlk, hl]; simp only [hr]; rfl
        rw [e]
        rw [hr] at hri
        clear e hs hl hlk h hO hr hS1
        go_enter Tryz.func28, Tryz.ntmps28
        go_wp2_with fail
        refine hfd.out.mono ?_
        rintro e w1 ⟨rfl, rfl⟩
        go_wp2_with fail
        refine hsp.out.mono ?_
        rintro e w2 ⟨rfl, h2, ht2⟩
        go_wp2_with fail
        refine (hri w2).out.mono ?_
        rintro e w3 ⟨rfl, hb3⟩
        go_wp2
        go_ret
        exact ⟨rfl, (FsNew.of_below h2 hb3).after ht2 hcf⟩
      | true =>
        rw [hr] at hri
        have hlq := S.spent_look q
        rw [hS1] at hlq
        cases hl2 : S.look q with
        | some m =>
          have e : S1.link p q = (S1, 61) := by unfold FsM.link; rw [hlk, hl]; simp only [hr, hlq, hl2]; rfl
          rw [e]
          have hln := Lib.hid (hlq.trans hl2)
          clear e hs hl hlk h hO hr hS1 hlq hl2
          go_enter Tryz.func28, Tryz.ntmps28
          go_wp2_with fail
          refine hfd.out.mono ?_
          rintro e w1 ⟨rfl, rfl⟩
          go_wp2_with fail
          refine hsp.out.mono ?_
          rintro e w2 ⟨rfl, h2, ht2⟩
          go_wp2_with fail
          refine (hri w2).out.mono ?_
          rintro e w3 ⟨rfl, hb3⟩
          have h3 := h2.below hb3
          obtain ⟨bn, bk, A, n0, -, g1, -, -, -, -, -, -, g2, -⟩ := h3.open_
          have hrun := dir_look g2 hln.out
          have hrun' : (Instr.lookup 61 (.map (some bn)) (.string (strOf q)) true).run Tryz.prog w3 = .ok (.tuple #[.pointer (some ⟨F m, 0, none⟩), .bool true]) w3 := hrun
          clear hrun g2
          go_wp2
          go_ret
          exact ⟨rfl, (FsNew.of_below h2 hb3).after ht2 hcf⟩
        | none =>
          have e : S1.link p q = (S1.change [(q, some n)], 0) := by unfold FsM.link; rw [hlk, hl]; simp only [hr, hlq, hl2]; rfl
          rw [e]
          have hln := Lib.hid (hlk.trans hl)
          have hln2 := Lib.hid (hlq.trans hl2)
          clear e hs hl hlk h hO hr hS1 hlq hl2
          go_enter Tryz.func28, Tryz.ntmps28
          go_wp2_with fail
          refine hfd.out.mono ?_
          rintro e w1 ⟨rfl, rfl⟩
          go_wp2_with fail
          refine hsp.out.mono ?_
          rintro e w2 ⟨rfl, h2, ht2⟩
          go_wp2_with fail
          refine (hri w2).out.mono ?_
          rintro e w3 ⟨rfl, hb3⟩
          have h3 := h2.below hb3
          obtain ⟨bn, bk, A, n0, -, g1, -, -, -, -, -, -, g2, -⟩ := h3.open_
          have hrun := dir_none g2 hln2.out
          have hch := Lib.hid (change_lit h3 hO1.out (by omega) [(q, some n)] 1 rfl (by omega) #[.string (strOf q), .pointer (some ⟨F n, 0, none⟩)] (by simp [givV, optV, ptr]) (fun r i hr => by
            simp only [List.mem_singleton, Prod.mk.injEq, Option.some.injEq] at hr
            rw [hr.2]
            exact h3.files n (reach_now hln.out)))
          clear hri hfd hsp g2
          go_wp2_with fail
          refine hch.out.mono ?_
          rintro e w4 ⟨rfl, h4⟩
          clear hch
          go_wp2
          go_ret
          exact ⟨rfl, (h4.below hb3 h2.lt).after ht2 hcf⟩

set_option maxRecDepth 100000 in
set_option maxHeartbeats 1600000 in
theorem remove_any {N : Nat} {c F : Nat → Nat} {w : World} {f : Nat} {S : FsM} (h : FsAt c F w f S) (hO : FsOk N S) (hN : N ≤ 9000) (p : Txt) :
    Calls Tryz.prog 27 #[.pointer (some ⟨f, 0, none⟩), .string (strOf p)] w fun e w' => e = .returned (.int .i64 (S.go (·.remove p)).2) ∧ FsNew c w f (S.go (·.remove p)).1 w' := by
  have hsp := Lib.hid (spent_any h hO.fuseOk)
  have hO1 := Lib.hid hO.spent
  have hcf := h.col
  have hlk := S.spent_look p
  have H := Lib.hid h
  cases hs : S.spent.2 with
  | true =>
    rw [FsM.go_full hs]
    rw [hs] at hsp
    clear hs hlk h hO
    go_enter Tryz.func27, Tryz.ntmps27
    go_wp2_with fail
    refine hsp.out.mono ?_
    rintro e w2 ⟨rfl, h2, ht2⟩
    go_wp2
    go_ret
    exact ⟨rfl, spent_new H.out h2 ht2⟩
  | false =>
    rw [FsM.go_on hs]
    rw [hs] at hsp
    obtain ⟨S1, hS1⟩ : ∃ S1, S.spent.1 = S1 := ⟨_, rfl⟩
    rw [hS1] at hlk hsp hO1 ⊢
    have hfd := fun w (h : FsAt c F w f S1) => Lib.hid (find_any h p)
    unfold findV at hfd
    rw [hlk] at hfd
    cases hl : S.look p with
    | none =>
      have e : S1.remove p = (S1, 60) := by unfold FsM.remove; rw [hlk, hl]
      rw [e]
      rw [hl] at hfd
      simp only [optV] at hfd
      clear e hs hl hlk h hO hS1
      go_enter Tryz.func27, Tryz.ntmps27
      go_wp2_with fail
      refine hsp.out.mono ?_
      rintro e w2 ⟨rfl, h2, ht2⟩
      have hf2 := hfd w2 h2
      clear hfd
      go_wp2_with fail
      refine hf2.out.mono ?_
      rintro e w3 ⟨rfl, rfl⟩
      go_wp2
      go_ret
      exact ⟨rfl, ⟨⟨c, F, h2, fun _ _ e => e⟩, ht2.mono fun k _ e => by rw [e, hcf]; omega⟩⟩
    | some n =>
      have e : S1.remove p = (S1.change [(p, none)], 0) := by unfold FsM.remove; rw [hlk, hl]
      rw [e]
      rw [hl] at hfd
      simp only [optV, ptr] at hfd
      clear e hs hl hlk h hO hS1
      go_enter Tryz.func27, Tryz.ntmps27
      go_wp2_with fail
      refine hsp.out.mono ?_
      rintro e w2 ⟨rfl, h2, ht2⟩
      have hf2 := hfd w2 h2
      have hch := Lib.hid (change_lit h2 hO1.out (by omega) [(p, none)] 1 rfl (by omega) #[.string (strOf p), .pointer none] (by simp [givV, optV]) (fun r i hr => by simp at hr))
      clear hfd hsp
      go_wp2_with fail
      refine hf2.out.mono ?_
      rintro e w3 ⟨rfl, rfl⟩
      go_wp2_with fail
      refine hch.out.mono ?_
      rintro e w4 ⟨rfl, h4⟩
      clear hch
      go_wp2
      go_ret
      exact ⟨rfl, h4.after ht2 hcf⟩

/-- SyncDir. -/
theorem settle_new {c F : Nat → Nat} {w w' : World} {f : Nat} {S : FsM} (hcf : c f = 1) (h : ∃ c', FsAt c' F w' f S ∧ (∀ k, k < w.heap.size → c' k = c k) ∧ Turn (fun k => k = f) w w') : FsNew c w f S w' := by
  obtain ⟨c', h1, h2, h3⟩ := h
  exact ⟨⟨c', F, h1, fun k hk e => (h2 k hk).trans e⟩, h3.mono fun k _ e => by rw [e, hcf]; omega⟩
set_option maxRecDepth 100000 in
theorem syncDir_any {N : Nat} {c F : Nat → Nat} {w : World} {f : Nat} {S : FsM} (h : FsAt c F w f S) (hO : FsOk N S) :
    Calls Tryz.prog 25 #[.pointer (some ⟨f, 0, none⟩)] w fun e w' => e = .returned (.int .i64 (S.go fun S => (S.settle, 0)).2) ∧ FsNew c w f (S.go fun S => (S.settle, 0)).1 w' := by
  have hsp := Lib.hid (spent_any h hO.fuseOk)
  have hcf := h.col
  have H := Lib.hid h
  cases hs : S.spent.2 with
  | true =>
    rw [FsM.go_full hs]
    rw [hs] at hsp
    clear hs h hO
    go_enter Tryz.func25, Tryz.ntmps25
    go_wp2_with fail
    refine hsp.out.mono ?_
    rintro e w2 ⟨rfl, h2, ht2⟩
    go_wp2
    go_ret
    exact ⟨rfl, spent_new H.out h2 ht2⟩
  | false =>
    rw [FsM.go_on hs]
    rw [hs] at hsp
    obtain ⟨S1, hS1⟩ : ∃ S1, S.spent.1 = S1 := ⟨_, rfl⟩
    rw [hS1] at hsp ⊢
    clear hs h hO
    go_enter Tryz.func25, Tryz.ntmps25
    go_wp2_with fail
    refine hsp.out.mono ?_
    rintro e w2 ⟨rfl, h2, ht2⟩
    have hst := Lib.hid (settle_half h2.half)
    go_wp2_with fail
    refine hst.out.mono ?_
    rintro e w3 ⟨⟨v, rfl⟩, h3⟩
    have h4 := Lib.hid (settle_new hcf h3)
    clear h3
    go_wp2
    go_ret
    exact ⟨rfl, h4.out.after ht2 hcf⟩

theorem create_nil (p : Txt) (w : World) : Calls Tryz.prog 22 #[.pointer none, .string (strOf p)] w fun e w' => e = .returned (.int .i64 1) ∧ w = w' := by
  have hfd := Lib.hid (find_nil p w)
  have hsp := Lib.hid (spent_nil w)
  go_enter Tryz.func22, Tryz.ntmps22
  go_wp2_with fail
  refine hfd.out.mono ?_
  rintro e w1 ⟨rfl, rfl⟩
  go_wp2
  go_ret
  exact ⟨rfl, rfl⟩
theorem sync_nil (p : Txt) (w : World) : Calls Tryz.prog 24 #[.pointer none, .string (strOf p)] w fun e w' => e = .returned (.int .i64 1) ∧ w = w' := by
  have hfd := Lib.hid (find_nil p w)
  have hsp := Lib.hid (spent_nil w)
  go_enter Tryz.func24, Tryz.ntmps24
  go_wp2_with fail
  refine hfd.out.mono ?_
  rintro e w1 ⟨rfl, rfl⟩
  go_wp2_with fail
  refine hsp.out.mono ?_
  rintro e w1 ⟨rfl, rfl⟩
  go_wp2
  go_ret
  exact ⟨rfl, rfl⟩
theorem rename_nil (p q : Txt) (w : World) : Calls Tryz.prog 30 #[.pointer none, .string (strOf p), .string (strOf q)] w fun e w' => e = .returned (.int .i64 1) ∧ w = w' := by
  have hfd := Lib.hid (find_nil p w)
  have hsp := Lib.hid (spent_nil w)
  go_enter Tryz.func30, Tryz.ntmps30
  go_wp2_with fail
  refine hfd.out.mono ?_
  rintro e w1 ⟨rfl, rfl⟩
  go_wp2_with fail
  refine hsp.out.mono ?_
  rintro e w1 ⟨rfl, rfl⟩
  go_wp2
  go_ret
  exact ⟨rfl, rfl⟩
theorem link_nil (p q : Txt) (w : World) : Calls Tryz.prog 28 #[.pointer none, .string (strOf p), .string (strOf q)] w fun e w' => e = .returned (.int .i64 1) ∧ w = w' := by
  have hfd := Lib.hid (find_nil p w)
  have hsp := Lib.hid (spent_nil w)
  go_enter Tryz.func28, Tryz.ntmps28
  go_wp2_with fail
  refine hfd.out.mono ?_
  rintro e w1 ⟨rfl, rfl⟩
  go_wp2_with fail
  refine hsp.out.mono ?_
  rintro e w1 ⟨rfl, rfl⟩
  go_wp2
  go_ret
  exact ⟨rfl, rfl⟩
theorem remove_nil (p : Txt) (w : World) : Calls Tryz.prog 27 #[.pointer none, .string (strOf p)] w fun e w' => e = .returned (.int .i64 1) ∧ w = w' := by
  have hfd := Lib.hid (find_nil p w)
  have hsp := Lib.hid (spent_nil w)
  go_enter Tryz.func27, Tryz.ntmps27
  go_wp2_with fail
  refine hsp.out.mono ?_
  rintro e w1 ⟨rfl, rfl⟩
  go_wp2_with fail
  refine hfd.out.mono ?_
  rintro e w1 ⟨rfl, rfl⟩
  go_wp2
  go_ret
  exact ⟨rfl, rfl⟩
theorem syncDir_nil (w : World) : Calls Tryz.prog 25 #[.pointer none] w fun e w' => e = .returned (.int .i64 1) ∧ w = w' := by
  go_enter Tryz.func25, Tryz.ntmps25
  go_wp2
  go_ret
  exact ⟨rfl, rfl⟩
end Go.Proofs.YteidkmiladkoiaaGreatDoor

/-
  Read, Sync, walked.
-/
namespace Go.Proofs.YteidkmiladkoiaaGreatDoor
open Go.RowKit

/-- 'make([]byte, n)', then 'copy' of n bytes that are seen. -/
theorem make_copy (w : World) (A : Option Addr) (n c : Nat) (l : List UInt8) (hl : l.length = n) (hn : n ≤ 1048576) (hS : Sees w w.heap.size A (bv l)) :
    ∃ W1 W2, (Instr.makeSlice 32 (.int .i64 (n : Int)) (.int .i64 (n : Int))).run Tryz.prog w = .ok (.slice (some ⟨w.heap.size, 0, none⟩) n n) W1 ∧
      (∀ ty, (Builtin.copy_ #[32, 32] ty #[.slice (some ⟨w.heap.size, 0, none⟩) n n, .slice A n c]).run Tryz.prog W1 = .ok (.int .i64 (n : Int)) W2) ∧ Hid (OwnB W2 w.heap.size (.slice (some ⟨w.heap.size, 0, none⟩) n n) l ∧ Below w.heap.size w W1 ∧ Below w.heap.size w W2) := by
  obtain ⟨i, hi, hz0, hz1, hz2⟩ := info_parts Tryz.binfo
  have hr := run_make (P := Tryz.prog) w 32 5 i _ Tryz.underlying32 hi hz0 .i64 .i64 (n : Int) (n : Int) (by omega) (Int.le_refl _) (by rw [hz2]; omega) (by omega)
  simp only [Int.toNat_natCast, hz1, Nat.mul_one] at hr
  obtain ⟨cur, hcur⟩ : ∃ cur, madeCells (Value.int .u8 0).cells n = cur := ⟨_, rfl⟩
  have hcs : cur.size = n := by rw [← hcur]; exact size_madeCells _ _
  rw [hcur] at hr
  have hg : (w.alloc (.cells cur 5)).heap[w.heap.size]? = some (.cells cur 5 (0, 0)) := World.alloc_heap_new w _
  have hb1 : Below w.heap.size w (w.alloc (.cells cur 5)) := (Below.refl _ w).alloc (Nat.le_refl _) _
  have hbl := bv_length l
  by_cases h0 : n = 0
  · subst h0
    have hlnil : l = [] := List.eq_nil_of_length_eq_zero hl
    subst hlnil
    have hc0 : cur = #[] := Array.eq_empty_of_size_eq_zero hcs
    subst hc0
    refine ⟨_, _, hr, fun ty => ?_, OwnB.new w _ (Nat.le_refl _) [] 0 rfl #[] rfl (by simp [maxLen]), hb1, hb1⟩
    exact run_copy_none _ _ _ ty 5 _ _ _ _ _ _ Tryz.underlying32 (by kernel_rfl) (by simp)
  · obtain ⟨ad, rfl, hab, hac⟩ : ∃ ad, A = some ad ∧ ad.block < w.heap.size ∧ ∀ j u, (bv l)[j]? = some u → w.cell? (ad.add j) = some u := by
      rcases hS.out with h | h
      · rw [h] at hbl; simp at hbl; omega
      · exact h
    have hsrc : ∀ j v, (bv l)[j]? = some v → (w.alloc (.cells cur 5)).cell? (ad.add j) = some v := fun j v hv => by
      rw [World.cell?_alloc_lt _ _ _ (by rw [add_block]; exact hab)]
      exact hac j v hv
    have hcells : (cur.toList.take 0 ++ bv l ++ cur.toList.drop (0 + (bv l).length)).toArray = (bv l).toArray := by
      rw [List.take_zero, List.nil_append, List.drop_eq_nil_of_le (by simp [hbl, hcs, hl]), List.append_nil]
    refine ⟨_, (w.alloc (.cells cur 5)).setRow w.heap.size (bv l).toArray, hr, fun ty => ?_, ?_⟩
    · have := run_copy_row (P := Tryz.prog) (w.alloc (.cells cur 5)) 32 32 ty 5 w.heap.size 0 n n ad n c cur 5 (bv l) Tryz.underlying32 (by kernel_rfl) hg (by rw [hbl, hl]; simp) hsrc (by rw [hbl, hcs]; omega) bv_one
      rw [this, hcells, hbl, hl]
      rfl
    · show _ ∧ _
      refine ⟨⟨by rw [hbl]; omega, .inr ⟨w.heap.size, n, (bv l).toArray, by rw [hl], Nat.le_refl _, setRow_heap _ _ cur _ _ _ hg, by omega, by simp only [maxLen]; omega, by simp [hbl, hl], ?_⟩⟩, hb1, hb1.trans ⟨rfl, rfl, rfl, by simp [World.setRow], fun k hk => setRow_other _ _ _ _ (by omega)⟩⟩
      rw [List.take_of_length_le (by simp [hbl])]

theorem read_nil (p : Txt) (w : World) : Calls Tryz.prog 13 #[.pointer none, .string (strOf p)] w fun e w' => e = .returned (.tuple #[.slice none 0 0, .int .i64 1]) ∧ w = w' := by
  have hfd := Lib.hid (find_nil p w)
  go_enter Tryz.func13, Tryz.ntmps13
  go_wp2_with fail
  refine hfd.out.mono ?_
  rintro e w1 ⟨rfl, rfl⟩
  go_wp2
  go_ret2
  exact ⟨rfl, rfl⟩

/-- Bytes, and an error's number. -/
def ReadIs (w : World) (r : Txt × Nat) (e : Ending) (w' : World) : Prop := ∃ v, e = .returned (.tuple #[v, .int .i64 (r.2 : Int)]) ∧ OwnB w' w.heap.size v r.1 ∧ Below w.heap.size w w'

set_option maxRecDepth 100000 in
set_option maxHeartbeats 800000 in
theorem read_any {N : Nat} {c F : Nat → Nat} {w : World} {f : Nat} {S : FsM} (h : FsAt c F w f S) (hO : FsOk N S) (p : Txt) :
    Calls Tryz.prog 13 #[.pointer (some ⟨f, 0, none⟩), .string (strOf p)] w (ReadIs w (S.read p)) := by
  have hfd := Lib.hid (find_any h p)
  unfold findV at hfd
  cases hl : S.look p with
  | none =>
    have e : S.read p = ([], 60) := by unfold FsM.read; rw [hl]
    rw [e]
    rw [hl] at hfd
    simp only [optV] at hfd
    clear e hl h hO
    go_enter Tryz.func13, Tryz.ntmps13
    go_wp2_with fail
    refine hfd.out.mono ?_
    rintro e w1 ⟨rfl, rfl⟩
    go_wp2
    go_ret2
    exact ⟨_, rfl, OwnB.nil _ _, Below.refl _ _⟩
  | some n =>
    have e : S.read p = ((S.file n).b, 0) := by unfold FsM.read; rw [hl]
    rw [e]
    rw [hl] at hfd
    simp only [optV, ptr] at hfd
    obtain ⟨A, m, c0, c1, -, hm, -, hS, -, -, -⟩ := (h.files n (reach_now hl)).open_
    have hlen := (hO.fileOk n).2
    have hlt : F n < w.heap.size := (h.files n (reach_now hl)).lt
    obtain ⟨x, hx⟩ : ∃ x, S.file n = x := ⟨_, rfl⟩
    rw [hx] at c0 c1 hm hS hlen ⊢
    obtain ⟨L, hL⟩ : ∃ L, x.b.length = L := ⟨_, rfl⟩
    obtain ⟨W1, W2, hmk, hcp, HX⟩ := make_copy w A L m x.b hL (by omega) hS
    rw [hL] at c0 hm hlen
    have d0 := HX.out.2.1.cell (p := ⟨F n, 0, none⟩) hlt
    rw [c0] at d0
    clear e hl h hO hx hL hS c1
    go_enter Tryz.func13, Tryz.ntmps13
    go_wp2_with fail
    refine hfd.out.mono ?_
    rintro e w1 ⟨rfl, rfl⟩
    go_wp2
    go_ret2
    exact ⟨_, rfl, HX.out.1, HX.out.2.2⟩

section
variable {c c' F : Nat → Nat} {w w' : World} {f n : Nat} {S : FsM} {x : FileM}
theorem FsM.setFile_file (S : FsM) {n : Nat} (hn : n < S.files.length) (x : FileM) (i : Nat) : (S.setFile n x).file i = if i = n then x else S.file i := by
  unfold FsM.file FsM.setFile
  simp only [List.getD_eq_getElem?_getD, List.getElem?_set]
  by_cases e : i = n
  · subst e
    simp [hn]
  · rw [if_neg (fun e2 => e e2.symm), if_neg e]
/-- A file is another. -/
theorem FsAt.file (h : FsAt c F w f S) (hnum : n < S.files.length) (hc : ∀ k, c k ≠ 0 → c' k = c k) (hl : ∀ k, c' k ≠ 0 → k < w'.heap.size) (ht : Turn (fun k => c k = 2 * n + 6 ∨ c k = 2 * n + 7) w w') (hx : FileAt c' w' n (F n) x) : FsAt c' F w' f (S.setFile n x) := by
  have hk : Kept (fun k => c k ≠ 0 ∧ c k ≠ 2 * n + 6 ∧ c k ≠ 2 * n + 7) w w' := Kept.of_turn ht fun k e => ⟨h.lt k e.1, fun e2 => by omega⟩
  obtain ⟨bn, bk, v, h1, h2, h3, h4, h5, h6⟩ := h.out
  have hcf := h.col
  refine ⟨⟨bn, bk, v, h1.keep (hk f (by omega)), (hc bn (by omega)).trans h2, (hc bk (by omega)).trans h3, h4.keep (hk bn (by omega)), h5.keep (hk bk (by omega)), (h6.keep (hk.mono fun k e => by omega)).recol fun k e => hc k (by omega)⟩, (hc f (by omega)).trans hcf, fun i hi => ?_, hl⟩
  rw [S.setFile_file hnum]
  split
  · rename_i e
    subst e
    exact hx
  · exact ((h.files i hi).keep (hk.mono fun k e => by omega)).recol fun k e => hc k (by omega)
theorem FsNew.of_file (h : FsAt c F w f S) (hnum : n < S.files.length) (hc : ∀ k, k < w.heap.size → c' k = c k) (hl : ∀ k, c' k ≠ 0 → k < w'.heap.size) (ht : Turn (fun k => c k = 2 * n + 6 ∨ c k = 2 * n + 7) w w') (hx : FileAt c' w' n (F n) x) : FsNew c w f (S.setFile n x) w' :=
  ⟨⟨c', F, h.file hnum (fun k hk => hc k (h.lt k hk)) hl ht hx, fun k hk e => (hc k hk).trans e⟩, ht.mono fun k _ e => by omega⟩
end

set_option maxRecDepth 100000 in
set_option maxHeartbeats 800000 in
theorem sync_any {N : Nat} {c F : Nat → Nat} {w : World} {f : Nat} {S : FsM} (h : FsAt c F w f S) (hO : FsOk N S) (p : Txt) :
    Calls Tryz.prog 24 #[.pointer (some ⟨f, 0, none⟩), .string (strOf p)] w fun e w' => e = .returned (.int .i64 (S.go (·.sync p)).2) ∧ FsNew c w f (S.go (·.sync p)).1 w' := by
  have hfd := Lib.hid (find_any h p)
  have hsp := Lib.hid (spent_any h hO.fuseOk)
  have hO1 := Lib.hid hO.spent
  have hcf := h.col
  unfold findV at hfd
  have hlk := S.spent_look p
  have H := Lib.hid h
  cases hs : S.spent.2 with
  | true =>
    rw [FsM.go_full hs]
    rw [hs] at hsp
    cases hl : S.look p
    all_goals
      rw [hl] at hfd
      simp only [optV, ptr] at hfd
      clear hs hl hlk h hO
      go_enter Tryz.func24, Tryz.ntmps24
      go_wp2_with fail
      refine hfd.out.mono ?_
      rintro e w1 ⟨rfl, rfl⟩
      go_wp2_with fail
      refine hsp.out.mono ?_
      rintro e w2 ⟨rfl, h2, ht2⟩
      go_wp2
      go_ret
      exact ⟨rfl, spent_new H.out h2 ht2⟩
  | false =>
    rw [FsM.go_on hs]
    rw [hs] at hsp
    obtain ⟨S1, hS1⟩ : ∃ S1, S.spent.1 = S1 := ⟨_, rfl⟩
    rw [hS1] at hlk hsp hO1 ⊢
    cases hl : S.look p with
    | none =>
      have e : S1.sync p = (S1, 60) := by unfold FsM.sync; rw [hlk, hl]
      rw [e]
      rw [hl] at hfd
      simp only [optV] at hfd
      clear e hs hl hlk h hO hS1
      go_enter Tryz.func24, Tryz.ntmps24
      go_wp2_with fail
      refine hfd.out.mono ?_
      rintro e w1 ⟨rfl, rfl⟩
      go_wp2_with fail
      refine hsp.out.mono ?_
      rintro e w2 ⟨rfl, h2, ht2⟩
      go_wp2
      go_ret
      exact ⟨rfl, ⟨⟨c, F, h2, fun _ _ e => e⟩, ht2.mono fun k _ e => by rw [e, hcf]; omega⟩⟩
    | some n =>
      have e : S1.sync p = (S1.setFile n { S1.file n with stays := (S1.file n).b.length }, 0) := by unfold FsM.sync; rw [hlk, hl]
      rw [e]
      rw [hl] at hfd
      simp only [optV, ptr] at hfd
      have hln := Lib.hid (hlk.trans hl)
      obtain ⟨L, hL⟩ : ∃ L, (S1.file n).b.length = L := ⟨_, rfl⟩
      have HL := Lib.hid hL
      rw [hL]
      clear e hs hl hlk h hO hS1 hL
      go_enter Tryz.func24, Tryz.ntmps24
      go_wp2_with fail
      refine hfd.out.mono ?_
      rintro e w1 ⟨rfl, rfl⟩
      go_wp2_with fail
      refine hsp.out.mono ?_
      rintro e w2 ⟨rfl, h2, ht2⟩
      have hfile := Lib.hid (h2.files n (reach_now hln.out))
      obtain ⟨A, m, c0, c1, fr, hm, -, -, hown, hblk, hrow⟩ := hfile.out.open_
      have fr1 := fr 1
      have hP := Lib.hid (show FsNew c w2 f (S1.setFile n { S1.file n with stays := L }) (w2.setCell ⟨F n, 1, none⟩ (.int .i64 (L : Int))) from
        FsNew.of_file h2 (hO1.out.num n (reach_now hln.out)) (c' := c) (fun _ _ => rfl) (fun k e => by rw [World.size_setCell]; exact h2.lt k e) (Turn.setCell _ _ _ (.inl hfile.out.col))
          ⟨⟨_, hblk.set 1 _, ownsRow_kept hown fun k e => Below.heap_setCell _ _ _ _ (fun e2 => by have := hrow k e; have := hfile.out.col; simp only at e2; rw [e2] at *; omega), hrow⟩, hfile.out.col⟩)
      rw [HL.out] at c0 hm
      clear fr hown hblk hrow hfd hsp
      go_wp2
      go_ret
      exact ⟨rfl, hP.out.after ht2 hcf⟩
end Go.Proofs.YteidkmiladkoiaaGreatDoor

/-
  all, Used, walked.
-/
namespace Go.Proofs.YteidkmiladkoiaaGreatDoor
open Go.RowKit

theorem fileinfo : ∃ j, Tryz.prog.info? 77 = some j ∧ j.size ≠ 0 := by
  obtain ⟨i, hi, hz0, hz1, hz2⟩ := info_parts (show (Tryz.prog.info? 77).map (fun i => (i.zero, i.size, i.bytes)) = some (some (.agg #[.slice none 0 0, .int .i64 0]), 2, 32) by kernel_rfl)
  exact ⟨i, hi, by omega⟩
theorem law_ptr (w : World) : KeyOk Tryz.prog 73 w (okPtr w) := by
  obtain ⟨j, h1, h2⟩ := fileinfo
  exact keyOk_ptr Tryz.underlying73 h1 h2 w
/-- An entry of a set of files. -/
def kb (F : Nat → Nat) (n : Nat) : Value × Value := (ptr (F n), .bool true)

section
variable {c F : Nat → Nat} {w w' : World} {f : Nat} {S : FsM}
theorem kb_keys (h : FsAt c F w f S) {L : List Nat} (hL : L.Nodup) (hr : ∀ n ∈ L, S.reach n) : (L.map (kb F)).Pairwise fun p q => p.1 ≠ q.1 := by
  rw [List.pairwise_map]
  refine List.Pairwise.imp_of_mem (fun {a b} ha hb hne => fun e => hne ?_) hL
  exact h.inj (hr a ha) (hr b hb) (ptr_inj e)
theorem kb_ok (h : FsAt c F w f S) {L : List Nat} (hr : ∀ n ∈ L, S.reach n) : ∀ p ∈ L.map (kb F), okPtr w p.1 := fun p hp => by
  obtain ⟨n, hn, rfl⟩ := List.mem_map.1 hp
  exact (h.files n (hr n hn)).okPtr
theorem kb_store (h : FsAt c F w f S) {b : Nat} {L : List Nat} (hM : MapIs w b (L.map (kb F))) (hL : L.Nodup) (hr : ∀ n ∈ L, S.reach n) {n : Nat} (hn : S.reach n) :
    ∃ (w' : World) (L' : List Nat), (Instr.mapUpdate 81 (.map (some b)) (ptr (F n)) (.bool true)).run Tryz.prog w = .ok () w' ∧ MapIs w' b (L'.map (kb F)) ∧ L'.Nodup ∧ (∀ m, m ∈ L' ↔ m = n ∨ m ∈ L) ∧ Turn (fun k => k = b) w w' := by
  obtain ⟨L', h1, h2⟩ : ∃ L' : List Nat, L'.Nodup ∧ ∀ m, m ∈ L' ↔ m = n ∨ m ∈ L := by
    by_cases e : n ∈ L
    · exact ⟨L, hL, fun m => ⟨fun hm => .inr hm, fun hm => by rcases hm with rfl | hm; exact e; exact hm⟩⟩
    · exact ⟨n :: L, List.nodup_cons.2 ⟨e, hL⟩, fun m => List.mem_cons⟩
  have hr' : ∀ m ∈ L', S.reach m := fun m hm => by
    rcases (h2 m).1 hm with rfl | hm
    · exact hn
    · exact hr m hm
  obtain ⟨w', g1, g2, g3, -⟩ := hM.store (law_ptr w) Tryz.underlying81 (kb_ok h hr) (x := ptr (F n)) (v := .bool true) (h.files n hn).okPtr (kb_keys h h1 hr') (fun p => by
    constructor
    · intro hp
      obtain ⟨m, hm, rfl⟩ := List.mem_map.1 hp
      rcases (h2 m).1 hm with rfl | hm'
      · exact .inl rfl
      · by_cases e : m = n
        · subst e; exact .inl rfl
        · exact .inr ⟨List.mem_map_of_mem (f := kb F) hm', fun e2 => e (h.inj (hr m hm') hn (ptr_inj e2))⟩
    · rintro (rfl | ⟨hp, -⟩)
      · exact List.mem_map.2 ⟨n, (h2 n).2 (.inl rfl), rfl⟩
      · obtain ⟨m, hm, rfl⟩ := List.mem_map.1 hp
        exact List.mem_map.2 ⟨m, (h2 m).2 (.inr hm), rfl⟩)
  exact ⟨w', L', g1, g2, h1, h2, .of_grown g3 fun k e => (Option.some.inj e).symm⟩
end

/-- The files that have a path, each once. -/
def AllIs (F : Nat → Nat) (w : World) (S : FsM) (e : Ending) (w' : World) : Prop := ∃ (b : Nat) (L : List Nat), e = .returned (.map (some b)) ∧ MapIs w' b (L.map (kb F)) ∧ L.Nodup ∧ (∀ n, n ∈ L ↔ ∃ p, (p, n) ∈ S.now) ∧ w.heap.size ≤ b ∧ Below w.heap.size w w'

set_option maxRecDepth 100000 in
set_option maxHeartbeats 800000 in
theorem all_any {c F : Nat → Nat} {w : World} {f : Nat} {S : FsM} (h : FsAt c F w f S) :
    Calls Tryz.prog 45 #[.pointer (some ⟨f, 0, none⟩)] w (AllIs F w S) := by
  obtain ⟨bn, bk, A, n, -, h1, -, -, -, -, h6, -, h8, -⟩ := h.open_
  obtain ⟨wb, hwb⟩ : ∃ wb, w.alloc (.map #[] 0) = wb := ⟨_, rfl⟩
  have hbb : Below w.heap.size w wb := by rw [← hwb]; exact (Below.refl _ w).alloc (Nat.le_refl _) _
  have hm0 : MapIs wb w.heap.size (([] : List Nat).map (kb F)) := by rw [← hwb]; exact MapIs.new w
  have hzb : wb.heap.size = w.heap.size + 1 := by rw [← hwb]; simp
  have hlf : f < w.heap.size := by have := h.lt f; have := h.col; omega
  have d1 : wb.cell? ⟨f, 1, none⟩ = some (.map (some bn)) := (hbb.cell hlf).trans h1
  obtain ⟨w1, hrg, hR1, hb1, hz1⟩ := (h8.keep (hbb.block bn h8.lt)).range (P := Tryz.prog) Tryz.underlying61
  have hmk := @run_makeMap Tryz.prog
  have HB := Lib.hid hbb
  have HM0 := Lib.hid hm0
  rw [hzb] at hR1
  have HR1 := Lib.hid hR1
  have HB1 := Lib.hid hb1
  have H := Lib.hid h
  have HZ := Lib.hid hzb
  have HBN := Lib.hid h8.lt
  rw [hzb] at hrg
  clear hbb hm0 hR1 hb1 h h8 h6 hz1 hzb
  go_enter Tryz.func45, Tryz.ntmps45
  go_wp2
  go_loopg [5] (S.now.map (pv F)).length (fun g u wr => ∃ (left : List (Value × Value)) (L : List Nat), left.length = g ∧ MapRng wr bn (w.heap.size + 1) (S.now.map (pv F)) left ∧ MapIs wr w.heap.size (L.map (kb F)) ∧ L.Nodup ∧ (∀ n ∈ L, ∃ p, (p, n) ∈ S.now) ∧ (∀ x ∈ S.now, x.2 ∈ L ∨ pv F x ∈ left) ∧ Below w.heap.size w wr)
  case atStart => exact ⟨_, [], rfl, HR1.out, HM0.out.keep (HB1.out.block _ (by have := HZ.out; omega)), List.nodup_nil, by simp, fun x hx => .inr (List.mem_map_of_mem (f := pv F) hx), HB.out.trans (HB1.out.mono (by have := HZ.out; omega))⟩
  case round =>
    obtain ⟨left, L, hg, hrng, hm, hnd, hin, hall, hb⟩ := hrel
    have hAt := H.out.below hb
    rcases hrng.next (P := Tryz.prog) 0 with ⟨h0, hnx⟩ | ⟨key, v, left', w2, hperm, hnx, hrng2, hgr, hz2, hen⟩
    · have HX := Lib.hid (And.intro hm (And.intro hnd (And.intro hin (And.intro hall (And.intro hb h0)))))
      clear hm hnd hin hall h0 hrng hAt
      go_wp2
      go_ret
      obtain ⟨hm, hnd, hin, hall, hb, h0⟩ := HX.out
      refine ⟨_, L, rfl, hm, hnd, fun n => ⟨hin n, fun ⟨p, hp⟩ => ?_⟩, Nat.le_refl _, hb⟩
      rcases hall _ hp with e | e
      · exact e
      · rw [h0] at e; cases e
    · have hkv : (key, v) ∈ S.now.map (pv F) := hrng.left_of _ (hperm.mem_iff.2 (by simp))
      obtain ⟨x, hx, hxe⟩ := List.mem_map.1 hkv
      obtain ⟨rfl, rfl⟩ : key = .string (strOf x.1) ∧ v = ptr (F x.2) := ⟨(congrArg Prod.fst hxe).symm, (congrArg Prod.snd hxe).symm⟩
      have hb2 : Below w.heap.size w w2 := hb.trans ((Below.refl _ _).grown hgr hb.size (fun g e => by injection e with e; have := HZ.out; omega))
      have hAt2 := H.out.below hb2
      have hm2 := hm.keep (w' := w2) (hgr.block _ hm.lt (fun e => by injection e with e; have := HZ.out; omega))
      obtain ⟨w3, L', hst, hm3, hnd3, hmem3, ht3⟩ := kb_store hAt2 hm2 hnd (fun n hn => .inl (hin n hn)) (n := x.2) (.inl ⟨x.1, hx⟩)
      have hst' : (Instr.mapUpdate 81 (.map (some w.heap.size)) (.pointer (some ⟨F x.2, 0, none⟩)) (.bool true)).run Tryz.prog w2 = .ok () w3 := hst
      have hen' : (Instr.entry (.pointer (some ⟨(w.heap.size + 1), 0, none⟩))).run Tryz.prog w2 = .ok (.tuple #[.string (strOf x.1), .pointer (some ⟨F x.2, 0, none⟩)]) w2 := hen
      have hlen := Lib.hid hperm.length_eq
      have HX := Lib.hid (show ∀ g', left'.length = g' → ∃ (left : List (Value × Value)) (L : List Nat), left.length = g' ∧ MapRng w3 bn (w.heap.size + 1) (S.now.map (pv F)) left ∧ MapIs w3 w.heap.size (L.map (kb F)) ∧ L.Nodup ∧ (∀ n ∈ L, ∃ p, (p, n) ∈ S.now) ∧ (∀ x ∈ S.now, x.2 ∈ L ∨ pv F x ∈ left) ∧ Below w.heap.size w w3 from fun g' hg' => by
        refine ⟨left', L', hg', hrng2.keep (ht3.block bn hrng2.is.lt (fun e => by have := HBN.out; omega)) (ht3.block _ hrng2.lt (fun e => by have := HZ.out; omega)), hm3, hnd3, fun n hn => ?_, fun y hy => ?_, hb2.trans (ht3.below (fun j e => by omega) hb2.size)⟩
        · rcases (hmem3 n).1 hn with rfl | hn
          · exact ⟨x.1, hx⟩
          · exact hin n hn
        · rcases hall y hy with e | e
          · exact .inl ((hmem3 _).2 (.inr e))
          · rcases List.mem_cons.1 (hperm.mem_iff.1 e) with e | e
            · refine .inl ((hmem3 _).2 (.inl ?_))
              have e2 : ptr (F y.2) = ptr (F x.2) := congrArg Prod.snd e
              exact hAt.inj (.inl ⟨y.1, hy⟩) (.inl ⟨x.1, hx⟩) (ptr_inj e2)
            · exact .inr e)
      clear hm hnd hin hall hrng hAt hperm hkv hxe hb2 hAt2 hm2 hst hm3 hnd3 hmem3 ht3 hrng2 hen hgr hz2 hb
      have hg2 := Lib.hid hg
      clear hg
      go_wp2
      go_roundg left'.length
      case measure => have := hlen.out; have := hg2.out; simp only [List.length_cons] at *; omega
      case rel => exact HX.out _ rfl
end Go.Proofs.YteidkmiladkoiaaGreatDoor

/-
  Used, walked.
-/
namespace Go.Proofs.YteidkmiladkoiaaGreatDoor
open Go.RowKit

theorem sum_le {l : List Nat} {m : Nat} (h : ∀ x ∈ l, x ≤ m) : l.sum ≤ l.length * m := by
  induction l with
  | nil => simp
  | cons a r ih =>
    have h1 := h a (by simp)
    have h2 := ih fun x hx => h x (by simp [hx])
    simp only [List.sum_cons, List.length_cons, Nat.succ_mul]
    omega
theorem used_le {N : Nat} {S : FsM} (h : FsOk N S) : S.used ≤ N * 1048576 := by
  unfold FsM.used
  have h1 := sum_le (l := ((List.range S.files.length).filter fun i => S.now.any fun p => decide (p.2 = i)).map fun i => (S.file i).b.length) (m := 1048576) fun x hx => by
    obtain ⟨i, -, rfl⟩ := List.mem_map.1 hx
    exact (h.fileOk i).2
  have h2 := List.length_filter_le (fun i => S.now.any fun p => decide (p.2 = i)) (List.range S.files.length)
  rw [List.length_map] at h1
  rw [List.length_range] at h2
  have h3 := h.filesN
  exact Nat.le_trans h1 (Nat.mul_le_mul_right _ (by omega))
theorem perm_sum {l m : List Nat} (h : l.Perm m) : l.sum = m.sum := by
  induction h with
  | nil => rfl
  | cons a _ ih => simp [ih]
  | swap a b l => simp only [List.sum_cons]; omega
  | trans _ _ i1 i2 => rw [i1, i2]
/-- The bytes of all files that have a path, by whatever list of them. -/
theorem used_eq {S : FsM} (hn : ∀ i, S.reach i → i < S.files.length) {L : List Nat} (hL : L.Nodup) (hm : ∀ n, n ∈ L ↔ ∃ p, (p, n) ∈ S.now) : (L.map fun i => (S.file i).b.length).sum = S.used := by
  unfold FsM.used
  refine perm_sum (List.Perm.map _ ((List.perm_ext_iff_of_nodup hL (List.nodup_range.filter _)).2 fun n => ?_))
  rw [hm n, List.mem_filter, List.mem_range, List.any_eq_true]
  constructor
  · rintro ⟨p, hp⟩
    exact ⟨hn n (.inl ⟨p, hp⟩), (p, n), hp, by simp⟩
  · rintro ⟨-, x, hx, e⟩
    rw [decide_eq_true_eq] at e
    exact ⟨x.1, by rw [← e]; exact hx⟩

theorem used_nil (w : World) : Calls Tryz.prog 15 #[.pointer none] w fun e w' => e = .returned (.int .i64 0) ∧ w = w' := by
  go_enter Tryz.func15, Tryz.ntmps15
  go_wp2
  go_ret
  exact ⟨rfl, rfl⟩

/-- The step of a range over a set of files. -/
theorem kb_next {w : World} {F : Nat → Nat} {b r : Nat} {L ls : List Nat} (h : MapRng w b r (L.map (kb F)) (ls.map (kb F))) :
    (ls = [] ∧ (Instr.next (.pointer (some ⟨r, 0, none⟩)) false 0).run Tryz.prog w = .ok (.tuple #[.bool false]) w) ∨
    ∃ n ls' w', ls.Perm (n :: ls') ∧ (Instr.next (.pointer (some ⟨r, 0, none⟩)) false 0).run Tryz.prog w = .ok (.tuple #[.bool true, .pointer (some ⟨F n, 0, none⟩), .bool true]) w' ∧
      MapRng w' b r (L.map (kb F)) (ls'.map (kb F)) ∧ Turn (fun k => k = r) w w' ∧ w'.heap.size = w.heap.size ∧ (Instr.entry (.pointer (some ⟨r, 0, none⟩))).run Tryz.prog w' = .ok (.tuple #[.pointer (some ⟨F n, 0, none⟩), .bool true]) w' := by
  rcases h.next (P := Tryz.prog) 0 with ⟨h0, hnx⟩ | ⟨key, v, left', w2, hperm, hnx, hrng2, hgr, hz2, hen⟩
  · exact .inl ⟨by simpa using h0, hnx⟩
  · obtain ⟨n, hn, hne⟩ := List.mem_map.1 (hperm.mem_iff.2 (List.mem_cons_self (a := (key, v)) (l := left')))
    obtain ⟨rfl, rfl⟩ : key = ptr (F n) ∧ v = .bool true := ⟨(congrArg Prod.fst hne).symm, (congrArg Prod.snd hne).symm⟩
    have hp := List.perm_cons_erase hn
    refine .inr ⟨n, ls.erase n, w2, hp, hnx, hrng2.perm ?_, .of_grown hgr fun k e => (Option.some.inj e).symm, hz2, hen⟩
    have h1 := hp.map (kb F)
    rw [List.map_cons] at h1
    exact (hperm.symm.trans h1).cons_inv

set_option maxRecDepth 100000 in
set_option maxHeartbeats 800000 in
theorem used_any {N : Nat} {c F : Nat → Nat} {w : World} {f : Nat} {S : FsM} (h : FsAt c F w f S) (hO : FsOk N S) (hN : N ≤ 100000) :
    Calls Tryz.prog 15 #[.pointer (some ⟨f, 0, none⟩)] w fun e w' => e = .returned (.int .i64 (S.used : Int)) ∧ Below w.heap.size w w' := by
  have hall := Lib.hid (all_any h)
  have hT := used_le hO
  have hEq := fun L => used_eq (S := S) hO.num (L := L)
  have hfo := fun n => (hO.fileOk n).2
  obtain ⟨T, hT0⟩ : ∃ T, S.used = T := ⟨_, rfl⟩
  rw [hT0] at hT hEq ⊢
  have hT2 : T ≤ 104857600000 := Nat.le_trans hT (Nat.mul_le_mul_right _ hN)
  have HEQ := Lib.hid hEq
  have HFO := Lib.hid hfo
  have H := Lib.hid h
  clear hT hT0 h hO hN hEq hfo
  go_enter Tryz.func15, Tryz.ntmps15
  go_wp2_with fail
  refine hall.out.mono ?_
  rintro e w1 ⟨b, L, rfl, hm, hnd, hmem, hbw, hb1⟩
  have hs1 := hb1.size
  obtain ⟨w2, hrg, hR2, hb2, hz2⟩ := hm.range (P := Tryz.prog) Tryz.underlying81
  have HS := Lib.hid (HEQ.out L hnd hmem)
  have HME := Lib.hid hmem
  have HR2 := Lib.hid hR2
  have HB2 := Lib.hid hb2
  have HB1 := Lib.hid hb1
  clear hR2 hb2 hb1 hmem hnd hz2 hall
  go_wp2
  go_loopg [3] L.length (fun g u wr => ∃ (ls : List Nat) (s : Nat), ls.length = g ∧ u = .int .i64 (s : Int) ∧ s + (ls.map fun i => (S.file i).b.length).sum = T ∧ MapRng wr b w1.heap.size (L.map (kb F)) (ls.map (kb F)) ∧ (∀ n ∈ ls, n ∈ L) ∧ Below w.heap.size w wr)
  case atStart => exact ⟨L, 0, rfl, rfl, by rw [Nat.zero_add]; exact HS.out, HR2.out, fun _ e => e, HB1.out.trans (HB2.out.mono hs1)⟩
  case round =>
    obtain ⟨ls, s, hg, rfl, hsum, hrng, hin, hb⟩ := hrel
    have hbs := hb.size
    rcases kb_next hrng with ⟨h0, hnx⟩ | ⟨n, ls', w3, hperm, hnx, hrng3, ht3, hz3, hen⟩
    · subst h0
      have hsT : Hid (s = T) := by unfold Hid; simpa using hsum
      clear hsum hrng hin hg
      go_wp2
      go_ret
      exact ⟨by rw [hsT.out]; rfl, hb⟩
    · have hb3 : Below w.heap.size w w3 := hb.trans (ht3.below (fun j e => by omega) hbs)
      have hnl : n ∈ ls := hperm.mem_iff.2 (by simp)
      obtain ⟨p, hp⟩ := (HME.out n).1 (hin n hnl)
      obtain ⟨A, m, c0, -, -, hm3, -, -, -, -, -⟩ := ((H.out.below hb3).files n (.inl ⟨p, hp⟩)).open_
      have hfl := HFO.out n
      have hsum2 := perm_sum (hperm.map fun i => (S.file i).b.length)
      obtain ⟨len, hlen⟩ : ∃ len, (S.file n).b.length = len := ⟨_, rfl⟩
      rw [List.map_cons, List.sum_cons, hlen] at hsum2
      rw [hlen] at c0 hm3 hfl
      obtain ⟨R, hR⟩ : ∃ R, (ls'.map fun i => (S.file i).b.length).sum = R := ⟨_, rfl⟩
      rw [hR] at hsum2
      rw [hsum2] at hsum
      have hl2 := Lib.hid hperm.length_eq
      have hwr : IntKind.i64.wrap ((s : Int) + (len : Int)) = ((s + len : Nat) : Int) := by simp [IntKind.wrap, IntKind.signed, IntKind.bits]; omega
      have HX := Lib.hid (show ∀ g', ls'.length = g' → ∃ (ls : List Nat) (s' : Nat), ls.length = g' ∧ Value.int .i64 ((s + len : Nat) : Int) = .int .i64 (s' : Int) ∧ s' + (ls.map fun i => (S.file i).b.length).sum = T ∧ MapRng w3 b w1.heap.size (L.map (kb F)) (ls.map (kb F)) ∧ (∀ n ∈ ls, n ∈ L) ∧ Below w.heap.size w w3 from fun g' hg' =>
        ⟨ls', s + len, hg', rfl, by rw [hR]; omega, hrng3, fun k hk => hin k (hperm.mem_iff.2 (by simp [hk])), hb3⟩)
      obtain ⟨q, hq⟩ : ∃ q, s + len = q := ⟨_, rfl⟩
      rw [hq] at hwr HX
      have hg2 := Lib.hid hg
      clear hperm hrng hin hb hb3 hnl hp hlen hR hsum2 hsum hrng3 ht3 hz3 hm3 hfl hg hq
      go_wp2
      go_roundg ls'.length
      case measure => have := hl2.out; have := hg2.out; simp only [List.length_cons] at *; omega
      case rel => exact HX.out _ rfl
end Go.Proofs.YteidkmiladkoiaaGreatDoor

/-
  Append, walked.
-/
namespace Go.Proofs.YteidkmiladkoiaaGreatDoor
open Go.RowKit

section
variable {c F : Nat → Nat} {w w3 : World} {f n : Nat} {S : FsM}
/-- Behind 'x.b = append(x.b, b...)'. -/
theorem append_done (h : FsAt c F w f S) (hnum : n < S.files.length) {A A3 : Option Addr} {m c3 L : Nat} {b : Txt} (hx : FileAt c w n (F n) (S.file n)) (hblk : Blk w (F n) #[.slice A (S.file n).b.length m, .int .i64 ((S.file n).stays : Int)] 77)
    (hrow : ∀ k, (Value.slice A (S.file n).b.length m).ownBlock = some k → c k = 2 * n + 7) (hown : OwnB w3 0 (.slice A3 L c3) ((S.file n).b ++ b)) (hon : Onto w w3 (.slice A (S.file n).b.length m) (.slice A3 L c3)) :
    FsNew c w f (S.setFile n { S.file n with b := (S.file n).b ++ b }) (w3.setCell ⟨F n, 0, none⟩ (.slice A3 L c3)) := by
  have hcF := hx.col
  have hFl := hx.lt
  have hFr : (Value.slice A (S.file n).b.length m).ownBlock ≠ some (F n) := fun e => by have := hrow _ e; omega
  have hcol : ∀ k, k < w.heap.size → updO c (Value.slice A3 L c3).ownBlock (2 * n + 7) k = c k := fun k hk => updO_keep hon hrow hk
  have hF3 : (Value.slice A3 L c3).ownBlock ≠ some (F n) := fun e => by
    have := updO_same (c := c) (x := 2 * n + 7) e
    rw [hcol _ hFl] at this
    omega
  refine FsNew.of_file h hnum (c' := updO c (Value.slice A3 L c3).ownBlock (2 * n + 7)) hcol (fun k hk => ?_) ((Turn.onto hon fun k e => .inr (hrow k e)).trans (Turn.setCell _ _ _ (.inl hcF))) ⟨⟨.slice A3 L c3, ?_, ?_, fun k e => updO_same e⟩, (hcol _ hFl).trans hcF⟩
  · rw [World.size_setCell]
    by_cases e : (Value.slice A3 L c3).ownBlock = some k
    · exact (World.ownsRow.lt hown k e).2
    · rw [updO_ne e] at hk
      have h1 := h.lt k hk
      have h2 := hon.size
      omega
  · exact (hblk.keep (hon.grown.block _ hFl (fun e => hFr e.symm))).set 0 _
  · exact ownsRow_kept hown fun k e => Below.heap_setCell _ _ _ _ (fun e2 => by subst e2; exact hF3 e)
end

set_option maxRecDepth 100000 in
set_option maxHeartbeats 3200000 in
theorem append_any {N : Nat} {c F : Nat → Nat} {w : World} {f : Nat} {S : FsM} (h : FsAt c F w f S) (hO : FsOk N S) (hN : N ≤ 9000) (p : Txt) (Ab : Option Addr) (lb cb : Nat) (b : Txt) (hb : b.length = lb) (hbc : lb ≤ cb) (hlb : lb ≤ 1000000000) (q : Nat → Prop) (hs : SeesM q w Ab (bv b)) (hq : ∀ k, q k → k < w.heap.size ∧ c k = 0) :
    Calls Tryz.prog 23 #[.pointer (some ⟨f, 0, none⟩), .string (strOf p), .slice Ab lb cb] w fun e w' => e = .returned (.int .i64 (S.go (·.append p b)).2) ∧ FsNew c w f (S.go (·.append p b)).1 w' := by
  have hfd := Lib.hid (find_any h p)
  have hsp := Lib.hid (spent_any h hO.fuseOk)
  have hO1 := Lib.hid hO.spent
  have hcf := h.col
  unfold findV at hfd
  have hlk := S.spent_look p
  have H := Lib.hid h
  have HB := Lib.hid hb
  have HS := Lib.hid hs
  have HQ := Lib.hid hq
  have see2 : ∀ w2 : World, Turn (fun k => k = f) w w2 → Sees w2 w2.heap.size Ab (bv b) := fun w2 ht2 => (HS.out.keep (Kept.of_turn ht2 fun k e => ⟨(HQ.out k e).1, fun e2 => by have := (HQ.out k e).2; rw [e2] at this; omega⟩)).sees fun k e => by have := (HQ.out k e).1; have := ht2.size; omega
  clear hs hq
  cases hs : S.spent.2 with
  | true =>
    rw [FsM.go_full hs]
    rw [hs] at hsp
    cases hl : S.look p
    all_goals
      rw [hl] at hfd
      simp only [optV, ptr] at hfd
      clear hs hl hlk h hO hb
      go_enter Tryz.func23, Tryz.ntmps23
      go_wp2_with fail
      refine hfd.out.mono ?_
      rintro e w1 ⟨rfl, rfl⟩
      go_wp2_with fail
      refine hsp.out.mono ?_
      rintro e w2 ⟨rfl, h2, ht2⟩
      go_wp2
      go_ret
      exact ⟨rfl, spent_new H.out h2 ht2⟩
  | false =>
    rw [FsM.go_on hs]
    rw [hs] at hsp
    obtain ⟨S1, hS1⟩ : ∃ S1, S.spent.1 = S1 := ⟨_, rfl⟩
    rw [hS1] at hlk hsp hO1 ⊢
    cases hl : S.look p with
    | none =>
      have e : S1.append p b = (S1, 60) := by unfold FsM.append; rw [hlk, hl]
      rw [e]
      rw [hl] at hfd
      simp only [optV] at hfd
      clear e hs hl hlk h hO hS1 hb
      go_enter Tryz.func23, Tryz.ntmps23
      go_wp2_with fail
      refine hfd.out.mono ?_
      rintro e w1 ⟨rfl, rfl⟩
      go_wp2_with fail
      refine hsp.out.mono ?_
      rintro e w2 ⟨rfl, h2, ht2⟩
      go_wp2
      go_ret
      exact ⟨rfl, ⟨⟨c, F, h2, fun _ _ e => e⟩, ht2.mono fun k _ e => by rw [e, hcf]; omega⟩⟩
    | some n =>
      rw [hl] at hfd
      simp only [optV, ptr] at hfd
      have hln := Lib.hid (hlk.trans hl)
      obtain ⟨L, hL⟩ : ∃ L, (S1.file n).b.length = L := ⟨_, rfl⟩
      have HL := Lib.hid hL
      have hLm : L ≤ 1048576 := by rw [← hL]; exact (hO1.out.fileOk n).2
      have hw8 : IntKind.i64.wrap ((L : Int) + (lb : Int)) = ((L + lb : Nat) : Int) := by simp [IntKind.wrap, IntKind.signed, IntKind.bits]; omega
      obtain ⟨T, hT⟩ : ∃ T, L + lb = T := ⟨_, rfl⟩
      rw [hT] at hw8
      by_cases hlim : 1048576 < T
      · have e : S1.append p b = (S1, 2) := by unfold FsM.append; rw [hlk, hl]; simp only [hL, hb, hT]; rw [if_pos hlim]
        rw [e]
        have hlim' : (1048576 : Int) < (T : Int) := by omega
        clear e hs hl hlk h hO hS1 hL hb hT hlim
        go_enter Tryz.func23, Tryz.ntmps23
        go_wp2_with fail
        refine hfd.out.mono ?_
        rintro e w1 ⟨rfl, rfl⟩
        go_wp2_with fail
        refine hsp.out.mono ?_
        rintro e w2 ⟨rfl, h2, ht2⟩
        have hfile := Lib.hid (h2.files n (reach_now hln.out))
        obtain ⟨A, m, c0, -, -, hm, -, -, -, -, -⟩ := hfile.out.open_
        rw [HL.out] at c0 hm
        have H2 := Lib.hid h2
        clear h2
        go_wp2
        go_ret
        exact ⟨rfl, ⟨⟨c, F, H2.out, fun _ _ e => e⟩, ht2.mono fun k _ e => by rw [e, hcf]; omega⟩⟩
      · have hlim' : (T : Int) ≤ 1048576 := by omega
        obtain ⟨U, hU⟩ : ∃ U, S1.used = U := ⟨_, rfl⟩
        have hUl : U ≤ 9437184000 := by rw [← hU]; have := used_le hO1.out; omega
        obtain ⟨R, hR⟩ : ∃ R, S1.room = R := ⟨_, rfl⟩
        by_cases h0 : lb = 0
        · have e : S1.append p b = (S1.setFile n { S1.file n with b := (S1.file n).b ++ b }, 0) := by unfold FsM.append; rw [hlk, hl]; simp only [hL, hb, hT]; rw [if_neg hlim, if_neg (by omega)]
          rw [e]
          subst h0
          clear e hs hl hlk h hO hS1 hL hb hT hlim hU hR
          go_enter Tryz.func23, Tryz.ntmps23
          go_wp2_with fail
          refine hfd.out.mono ?_
          rintro e w1 ⟨rfl, rfl⟩
          go_wp2_with fail
          refine hsp.out.mono ?_
          rintro e w2 ⟨rfl, h2, ht2⟩
          have hfile := Lib.hid (h2.files n (reach_now hln.out))
          obtain ⟨A, m, c0, c1, fr, hm, -, -, hown, hblk, hrow⟩ := hfile.out.open_
          rw [HL.out] at c0 hm hown hblk hrow
          have H2 := Lib.hid h2
          have HOWN := Lib.hid hown
          have HBLK := Lib.hid hblk
          have HROW := Lib.hid hrow
          have fr0 := fr 0
          have HSEE := Lib.hid (show Sees w2.drew w2.drew.heap.size Ab (bv b) from (see2 w2 ht2).drew)
          clear h2 hown hblk hrow fr c1
          go_wp2_with fail
          refine wp_region_noPanic ?_
          refine wp_region_held_drew (S := fun _ => True) (by kernel_rfl) ?_ (fun hHeld => ?_)
          · (trivial)
          refine wpAnyH_take (i := 0) (oi := { dst := some 33, op := Op.move (Operand.tmp 2), type := 32, pos := "simfs.go:125", after := #[], guard := none }) (v := ?_) rfl (by kernel_rfl) (by kernel_rfl) (by kernel_rfl) (fun _ _ _ h => h) (Or.inl ⟨by rfl, ?_⟩) hHeld ?_
          rotate_left
          · (intro w' hSw; (try dsimp only at hSw); go_split_ands; go_simp; first | done | with_reducible rfl)
          try simp only [Act.put, List.setIfInBounds_toArray, List.set_cons_zero, List.set_cons_succ]
          refine wpAnyH_take (i := 1) (oi := { dst := some 34, op := Op.call { callee := Callee.builtin Builtin.len, args := #[Operand.tmp 33], argTypes := #[32] }, type := 3, pos := "simfs.go:125", after := #[{ on := 0, ground := Ground.data }], guard := none }) (v := ?_) rfl (by kernel_rfl) (by kernel_rfl) (by kernel_rfl) (fun _ _ _ h => h) (Or.inl ⟨by rfl, ?_⟩) hHeld ?_
          rotate_left
          · (intro w' hSw; (try dsimp only at hSw); go_split_ands; go_simp; first | done | with_reducible rfl)
          try simp only [Act.put, List.setIfInBounds_toArray, List.set_cons_zero, List.set_cons_succ]
          refine wpAnyH_take (i := 2) (oi := { dst := some 35, op := Op.binOp BinOp.gtr 3 (Operand.tmp 34) (Operand.const (Value.int IntKind.i64 0)) 3, type := 4, pos := "simfs.go:125", after := #[{ on := 1, ground := Ground.data }], guard := none }) (v := (.bool false)) rfl (by kernel_rfl) (by kernel_rfl) (by kernel_rfl) (fun _ _ _ h => h) (Or.inl ⟨by rfl, ?_⟩) hHeld ?_
          · (intro w' hSw; (try dsimp only at hSw); go_split_ands; go_simp; first | done | with_reducible rfl | simp)
          try simp only [Act.put, List.setIfInBounds_toArray, List.set_cons_zero, List.set_cons_succ]
          refine wpAnyH_take (i := 3) (oi := { dst := some 36, op := Op.move (Operand.tmp 35), type := 4, pos := "simfs.go:125", after := #[{ on := 2, ground := Ground.data }], guard := none }) (v := ?_) rfl (by kernel_rfl) (by kernel_rfl) (by kernel_rfl) (fun _ _ _ h => h) (Or.inl ⟨by rfl, ?_⟩) hHeld ?_
          rotate_left
          · (intro w' hSw; (try dsimp only at hSw); go_split_ands; go_simp; first | done | with_reducible rfl)
          try simp only [Act.put, List.setIfInBounds_toArray, List.set_cons_zero, List.set_cons_succ]
          refine wpAnyH_take (i := 4) (oi := { dst := some 37, op := Op.move (Operand.tmp 0), type := 24, pos := "simfs.go:125", after := #[{ on := 3, ground := Ground.guard }], guard := some (3, true) }) (v := undef) rfl (by kernel_rfl) (by kernel_rfl) (by kernel_rfl) (fun _ _ _ h => h) (Or.inr ⟨by rfl, rfl⟩) hHeld ?_
          try simp only [Act.put, List.setIfInBounds_toArray, List.set_cons_zero, List.set_cons_succ]
          refine wpAnyH_take (i := 5) (oi := { dst := some 38, op := Op.call { callee := Callee.value (Operand.func 15), args := #[Operand.tmp 37], argTypes := #[24] }, type := 3, pos := "simfs.go:125", after := #[{ on := 4, ground := Ground.data }, { on := 3, ground := Ground.chain }, { on := 3, ground := Ground.guard }], guard := some (3, true) }) (v := undef) rfl (by kernel_rfl) (by kernel_rfl) (by kernel_rfl) (fun _ _ _ h => h) (Or.inr ⟨by rfl, rfl⟩) hHeld ?_
          try simp only [Act.put, List.setIfInBounds_toArray, List.set_cons_zero, List.set_cons_succ]
          refine wpAnyH_take (i := 6) (oi := { dst := some 39, op := Op.move (Operand.tmp 2), type := 32, pos := "simfs.go:125", after := #[{ on := 3, ground := Ground.guard }], guard := some (3, true) }) (v := undef) rfl (by kernel_rfl) (by kernel_rfl) (by kernel_rfl) (fun _ _ _ h => h) (Or.inr ⟨by rfl, rfl⟩) hHeld ?_
          try simp only [Act.put, List.setIfInBounds_toArray, List.set_cons_zero, List.set_cons_succ]
          refine wpAnyH_take (i := 7) (oi := { dst := some 40, op := Op.call { callee := Callee.builtin Builtin.len, args := #[Operand.tmp 39], argTypes := #[32] }, type := 3, pos := "simfs.go:125", after := #[{ on := 6, ground := Ground.data }, { on := 3, ground := Ground.guard }], guard := some (3, true) }) (v := undef) rfl (by kernel_rfl) (by kernel_rfl) (by kernel_rfl) (fun _ _ _ h => h) (Or.inr ⟨by rfl, rfl⟩) hHeld ?_
          try simp only [Act.put, List.setIfInBounds_toArray, List.set_cons_zero, List.set_cons_succ]
          refine wpAnyH_take (i := 8) (oi := { dst := some 41, op := Op.binOp BinOp.add 3 (Operand.tmp 38) (Operand.tmp 40) 3, type := 3, pos := "simfs.go:125", after := #[{ on := 5, ground := Ground.data }, { on := 7, ground := Ground.data }, { on := 3, ground := Ground.guard }], guard := some (3, true) }) (v := undef) rfl (by kernel_rfl) (by kernel_rfl) (by kernel_rfl) (fun _ _ _ h => h) (Or.inr ⟨by rfl, rfl⟩) hHeld ?_
          try simp only [Act.put, List.setIfInBounds_toArray, List.set_cons_zero, List.set_cons_succ]
          refine wpAnyH_take (i := 9) (oi := { dst := some 42, op := Op.move (Operand.tmp 0), type := 24, pos := "simfs.go:125", after := #[{ on := 3, ground := Ground.guard }], guard := some (3, true) }) (v := undef) rfl (by kernel_rfl) (by kernel_rfl) (by kernel_rfl) (fun _ _ _ h => h) (Or.inr ⟨by rfl, rfl⟩) hHeld ?_
          try simp only [Act.put, List.setIfInBounds_toArray, List.set_cons_zero, List.set_cons_succ]
          refine wpAnyH_take (i := 10) (oi := { dst := some 43, op := Op.nilCheck (Operand.tmp 42), type := 0, pos := "simfs.go:125", after := #[{ on := 9, ground := Ground.data }, { on := 3, ground := Ground.guard }], guard := some (3, true) }) (v := undef) rfl (by kernel_rfl) (by kernel_rfl) (by kernel_rfl) (fun _ _ _ h => h) (Or.inr ⟨by rfl, rfl⟩) hHeld ?_
          try simp only [Act.put, List.setIfInBounds_toArray, List.set_cons_zero, List.set_cons_succ]
          refine wpAnyH_take (i := 11) (oi := { dst := some 44, op := Op.fieldAddr 64 (Operand.tmp 43) 0, type := 0, pos := "simfs.go:125", after := #[{ on := 10, ground := Ground.data }, { on := 3, ground := Ground.guard }], guard := some (3, true) }) (v := undef) rfl (by kernel_rfl) (by kernel_rfl) (by kernel_rfl) (fun _ _ _ h => h) (Or.inr ⟨by rfl, rfl⟩) hHeld ?_
          try simp only [Act.put, List.setIfInBounds_toArray, List.set_cons_zero, List.set_cons_succ]
          refine wpAnyH_take (i := 12) (oi := { dst := some 45, op := Op.load 3 (Operand.tmp 44), type := 3, pos := "simfs.go:125", after := #[{ on := 11, ground := Ground.data }, { on := 3, ground := Ground.guard }], guard := some (3, true) }) (v := undef) rfl (by kernel_rfl) (by kernel_rfl) (by kernel_rfl) (fun _ _ _ h => h) (Or.inr ⟨by rfl, rfl⟩) hHeld ?_
          try simp only [Act.put, List.setIfInBounds_toArray, List.set_cons_zero, List.set_cons_succ]
          refine wpAnyH_take (i := 13) (oi := { dst := some 46, op := Op.binOp BinOp.gtr 3 (Operand.tmp 41) (Operand.tmp 45) 3, type := 4, pos := "simfs.go:125", after := #[{ on := 8, ground := Ground.data }, { on := 12, ground := Ground.data }, { on := 3, ground := Ground.guard }], guard := some (3, true) }) (v := undef) rfl (by kernel_rfl) (by kernel_rfl) (by kernel_rfl) (fun _ _ _ h => h) (Or.inr ⟨by rfl, rfl⟩) hHeld ?_
          try simp only [Act.put, List.setIfInBounds_toArray, List.set_cons_zero, List.set_cons_succ]
          refine wpAnyH_take (i := 14) (oi := { dst := some 47, op := Op.pick (Operand.tmp 36) (Operand.tmp 46) (Operand.const (Value.bool false)), type := 4, pos := "simfs.go:125", after := #[{ on := 3, ground := Ground.data }, { on := 13, ground := Ground.data }], guard := none }) (v := ?_) rfl (by kernel_rfl) (by kernel_rfl) (by kernel_rfl) (fun _ _ _ h => h) (Or.inl ⟨by rfl, ?_⟩) hHeld ?_
          rotate_left
          · (intro w' hSw; (try dsimp only at hSw); go_split_ands; go_simp; first | done | with_reducible rfl)
          try simp only [Act.put, List.setIfInBounds_toArray, List.set_cons_zero, List.set_cons_succ]
          refine wpAnyH_take (i := 15) (oi := { dst := some 32, op := Op.assign (Operand.tmp 47), type := 4, pos := "simfs.go:125", after := #[{ on := 14, ground := Ground.data }, { on := 5, ground := Ground.chain }], guard := none }) (v := ?_) rfl (by kernel_rfl) (by kernel_rfl) (by kernel_rfl) (fun _ _ _ h => h) (Or.inl ⟨by rfl, ?_⟩) hHeld ?_
          rotate_left
          · (intro w' hSw; (try dsimp only at hSw); go_split_ands; go_simp; first | done | with_reducible rfl)
          try simp only [Act.put, List.setIfInBounds_toArray, List.set_cons_zero, List.set_cons_succ]
          refine wpAnyH_done (by kernel_rfl) ?_ _
          refine NoPanic.normal ?_
          go_wp2_with (at_builtin; (refine wpList_append_b rfl (.tmp 52) (.tmp 53) rfl 0 _ (S1.file n).b (by rfl) (show OwnB w2.drew 0 _ _ from HOWN.out) w2.drew.heap.size Ab 0 cb b (by rfl) HB.out HSEE.out (by have := HL.out; have := HB.out; omega) (Nat.zero_le _) ?_; intro v5 w5 hown5 hon5; obtain ⟨A5, c5, hv5, -, -⟩ := row_open hown5; rw [List.length_append, HL.out, HB.out] at hv5; subst hv5; have hF5 : (Value.slice A L m).ownBlock ≠ some (F n) := fun e => (by have := HROW.out _ e; have := hfile.out.col; omega); have b5 := ((show Blk w2.drew _ _ _ from ⟨HBLK.out.out⟩)).keep (hon5.grown.block _ ((show Blk w2.drew _ _ _ from ⟨HBLK.out.out⟩)).lt (fun e => hF5 e.symm)); have e5 : w5.cell? ⟨F n, 0, none⟩ = some (.slice A L m) := b5.cell 0 rfl; have f5 := b5.frozen 0; have HOWN5 := Lib.hid hown5; have HON5 := Lib.hid hon5; clear hown5 hon5))
          go_ret
          have hfin := append_done (H2.out.below (below_drew (Below.refl _ w2))) (hO1.out.num n (reach_now hln.out)) (m := m) (b := b) (hfile.out.keep (w' := w2.drew) fun _ _ => rfl) (by rw [HL.out]; exact (show Blk w2.drew _ _ _ from ⟨HBLK.out.out⟩)) (by rw [HL.out]; exact HROW.out) HOWN5.out (by rw [HL.out]; exact HON5.out)
          exact ⟨rfl, (hfin.below (below_drew (Below.refl _ w2)) H2.out.lt).after ht2 hcf⟩
        · have hpos : (0 : Int) < (lb : Int) := by omega
          have hwu : IntKind.i64.wrap ((U : Int) + (lb : Int)) = ((U + lb : Nat) : Int) := by simp [IntKind.wrap, IntKind.signed, IntKind.bits]; omega
          obtain ⟨Q, hQ⟩ : ∃ Q, U + lb = Q := ⟨_, rfl⟩
          rw [hQ] at hwu
          by_cases hroom : R < Q
          · have e : S1.append p b = (S1, 62) := by unfold FsM.append; rw [hlk, hl]; simp only [hL, hb, hT, hU, hR, hQ]; rw [if_neg hlim, if_pos ⟨by omega, hroom⟩]
            rw [e]
            have hroom' : (R : Int) < (Q : Int) := by omega
            clear e hroom
            have HU := Lib.hid hU
            have HR := Lib.hid hR
            clear hs hl hlk h hO hS1 hL hb hT hlim hU hR hQ h0
            go_enter Tryz.func23, Tryz.ntmps23
            go_wp2_with fail
            refine hfd.out.mono ?_
            rintro e w1 ⟨rfl, rfl⟩
            go_wp2_with fail
            refine hsp.out.mono ?_
            rintro e w2 ⟨rfl, h2, ht2⟩
            have hfile := Lib.hid (h2.files n (reach_now hln.out))
            obtain ⟨A, m, c0, c1, fr, hm, -, -, hown, hblk, hrow⟩ := hfile.out.open_
            obtain ⟨bn, bk, A0, n0, r0, -⟩ := h2.open_
            rw [HL.out] at c0 hm hown hblk hrow
            rw [HR.out] at r0
            have H2 := Lib.hid h2
            have HOWN := Lib.hid hown
            have HBLK := Lib.hid hblk
            have HROW := Lib.hid hrow
            have hus := Lib.hid (used_any (h2.below (below_drew (Below.refl _ w2))) hO1.out (by omega))
            rw [HU.out] at hus
            have hfl : f < w2.heap.size := h2.lt f (by omega)
            clear h2 hown hblk hrow fr c1 hfd hsp
            go_wp2_with fail
            refine wp_region_noPanic ?_
            refine wp_region_held_drew (S := fun w' => w'.cell? ⟨f, 0, none⟩ = some (.int .i64 (R : Int))) (by kernel_rfl) ?_ (fun hHeld => ?_)
            · (exact r0)
            refine wpAnyH_take (i := 0) (oi := { dst := some 33, op := Op.move (Operand.tmp 2), type := 32, pos := "simfs.go:125", after := #[], guard := none }) (v := ?_) rfl (by kernel_rfl) (by kernel_rfl) (by kernel_rfl) (fun _ _ _ h => h) (Or.inl ⟨by rfl, ?_⟩) hHeld ?_
            rotate_left
            · (intro w' hSw; (try dsimp only at hSw); go_split_ands; go_simp; first | done | with_reducible rfl)
            try simp only [Act.put, List.setIfInBounds_toArray, List.set_cons_zero, List.set_cons_succ]
            refine wpAnyH_take (i := 1) (oi := { dst := some 34, op := Op.call { callee := Callee.builtin Builtin.len, args := #[Operand.tmp 33], argTypes := #[32] }, type := 3, pos := "simfs.go:125", after := #[{ on := 0, ground := Ground.data }], guard := none }) (v := ?_) rfl (by kernel_rfl) (by kernel_rfl) (by kernel_rfl) (fun _ _ _ h => h) (Or.inl ⟨by rfl, ?_⟩) hHeld ?_
            rotate_left
            · (intro w' hSw; (try dsimp only at hSw); go_split_ands; go_simp; first | done | with_reducible rfl)
            try simp only [Act.put, List.setIfInBounds_toArray, List.set_cons_zero, List.set_cons_succ]
            refine wpAnyH_take (i := 2) (oi := { dst := some 35, op := Op.binOp BinOp.gtr 3 (Operand.tmp 34) (Operand.const (Value.int IntKind.i64 0)) 3, type := 4, pos := "simfs.go:125", after := #[{ on := 1, ground := Ground.data }], guard := none }) (v := (.bool true)) rfl (by kernel_rfl) (by kernel_rfl) (by kernel_rfl) (fun _ _ _ h => h) (Or.inl ⟨by rfl, ?_⟩) hHeld ?_
            · (intro w' hSw; (try dsimp only at hSw); go_split_ands; go_simp; first | done | with_reducible rfl | omega)
            try simp only [Act.put, List.setIfInBounds_toArray, List.set_cons_zero, List.set_cons_succ]
            refine wpAnyH_take (i := 3) (oi := { dst := some 36, op := Op.move (Operand.tmp 35), type := 4, pos := "simfs.go:125", after := #[{ on := 2, ground := Ground.data }], guard := none }) (v := ?_) rfl (by kernel_rfl) (by kernel_rfl) (by kernel_rfl) (fun _ _ _ h => h) (Or.inl ⟨by rfl, ?_⟩) hHeld ?_
            rotate_left
            · (intro w' hSw; (try dsimp only at hSw); go_split_ands; go_simp; first | done | with_reducible rfl)
            try simp only [Act.put, List.setIfInBounds_toArray, List.set_cons_zero, List.set_cons_succ]
            refine wpAnyH_take (i := 4) (oi := { dst := some 37, op := Op.move (Operand.tmp 0), type := 24, pos := "simfs.go:125", after := #[{ on := 3, ground := Ground.guard }], guard := some (3, true) }) (v := ?_) rfl (by kernel_rfl) (by kernel_rfl) (by kernel_rfl) (fun _ _ _ h => h) (Or.inl ⟨by rfl, ?_⟩) hHeld ?_
            rotate_left
            · (intro w' hSw; (try dsimp only at hSw); go_split_ands; go_simp; first | done | with_reducible rfl)
            try simp only [Act.put, List.setIfInBounds_toArray, List.set_cons_zero, List.set_cons_succ]
            refine wpAnyH_take (i := 6) (oi := { dst := some 39, op := Op.move (Operand.tmp 2), type := 32, pos := "simfs.go:125", after := #[{ on := 3, ground := Ground.guard }], guard := some (3, true) }) (v := ?_) rfl (by kernel_rfl) (by kernel_rfl) (by kernel_rfl) (fun _ _ _ h => h) (Or.inl ⟨by rfl, ?_⟩) hHeld ?_
            rotate_left
            · (intro w' hSw; (try dsimp only at hSw); go_split_ands; go_simp; first | done | with_reducible rfl)
            try simp only [Act.put, List.setIfInBounds_toArray, List.set_cons_zero, List.set_cons_succ]
            refine wpAnyH_take (i := 7) (oi := { dst := some 40, op := Op.call { callee := Callee.builtin Builtin.len, args := #[Operand.tmp 39], argTypes := #[32] }, type := 3, pos := "simfs.go:125", after := #[{ on := 6, ground := Ground.data }, { on := 3, ground := Ground.guard }], guard := some (3, true) }) (v := ?_) rfl (by kernel_rfl) (by kernel_rfl) (by kernel_rfl) (fun _ _ _ h => h) (Or.inl ⟨by rfl, ?_⟩) hHeld ?_
            rotate_left
            · (intro w' hSw; (try dsimp only at hSw); go_split_ands; go_simp; first | done | with_reducible rfl)
            try simp only [Act.put, List.setIfInBounds_toArray, List.set_cons_zero, List.set_cons_succ]
            refine wpAnyH_take (i := 9) (oi := { dst := some 42, op := Op.move (Operand.tmp 0), type := 24, pos := "simfs.go:125", after := #[{ on := 3, ground := Ground.guard }], guard := some (3, true) }) (v := ?_) rfl (by kernel_rfl) (by kernel_rfl) (by kernel_rfl) (fun _ _ _ h => h) (Or.inl ⟨by rfl, ?_⟩) hHeld ?_
            rotate_left
            · (intro w' hSw; (try dsimp only at hSw); go_split_ands; go_simp; first | done | with_reducible rfl)
            try simp only [Act.put, List.setIfInBounds_toArray, List.set_cons_zero, List.set_cons_succ]
            refine wpAnyH_take (i := 10) (oi := { dst := some 43, op := Op.nilCheck (Operand.tmp 42), type := 0, pos := "simfs.go:125", after := #[{ on := 9, ground := Ground.data }, { on := 3, ground := Ground.guard }], guard := some (3, true) }) (v := ?_) rfl (by kernel_rfl) (by kernel_rfl) (by kernel_rfl) (fun _ _ _ h => h) (Or.inl ⟨by rfl, ?_⟩) hHeld ?_
            rotate_left
            · (intro w' hSw; (try dsimp only at hSw); go_split_ands; go_simp; first | done | with_reducible rfl)
            try simp only [Act.put, List.setIfInBounds_toArray, List.set_cons_zero, List.set_cons_succ]
            refine wpAnyH_take (i := 11) (oi := { dst := some 44, op := Op.fieldAddr 64 (Operand.tmp 43) 0, type := 0, pos := "simfs.go:125", after := #[{ on := 10, ground := Ground.data }, { on := 3, ground := Ground.guard }], guard := some (3, true) }) (v := ?_) rfl (by kernel_rfl) (by kernel_rfl) (by kernel_rfl) (fun _ _ _ h => h) (Or.inl ⟨by rfl, ?_⟩) hHeld ?_
            rotate_left
            · (intro w' hSw; (try dsimp only at hSw); go_split_ands; go_simp; first | done | with_reducible rfl)
            try simp only [Act.put, List.setIfInBounds_toArray, List.set_cons_zero, List.set_cons_succ]
            refine wpAnyH_take (i := 12) (oi := { dst := some 45, op := Op.load 3 (Operand.tmp 44), type := 3, pos := "simfs.go:125", after := #[{ on := 11, ground := Ground.data }, { on := 3, ground := Ground.guard }], guard := some (3, true) }) (v := ?_) rfl (by kernel_rfl) (by kernel_rfl) (by kernel_rfl) (fun _ _ _ h => h) (Or.inl ⟨by rfl, ?_⟩) hHeld ?_
            rotate_left
            · (intro w' hSw; (try dsimp only at hSw); go_split_ands; go_simp; first | done | with_reducible rfl)
            try simp only [Act.put, List.setIfInBounds_toArray, List.set_cons_zero, List.set_cons_succ]
            refine wpAnyH_ready (rs := [5]) (by kernel_rfl) (by simp) ?_
            refine AllReadyH.cons (o := { dst := some 38, op := Op.call { callee := Callee.value (Operand.func 15), args := #[Operand.tmp 37], argTypes := #[24] }, type := 3, pos := "simfs.go:125", after := #[{ on := 4, ground := Ground.data }, { on := 3, ground := Ground.chain }, { on := 3, ground := Ground.guard }], guard := some (3, true) }) rfl (fun K hK => ?_) AllReadyH.nil
            go_simp
            refine hus.out.mono ?_
            rintro e w4 ⟨rfl, hb4⟩
            have r4 : w4.cell? ⟨f, 0, none⟩ = some (.int .i64 (R : Int)) := (hb4.cell (p := ⟨f, 0, none⟩) hfl).trans r0
            go_wp2_with fail
            refine hK.out _ _ ?_ ?_
            · (exact r4)
            clear hK K hHeld; intro hHeld
            try simp only [Act.put, List.setIfInBounds_toArray, List.set_cons_zero, List.set_cons_succ]
            refine wpAnyH_take (i := 8) (oi := { dst := some 41, op := Op.binOp BinOp.add 3 (Operand.tmp 38) (Operand.tmp 40) 3, type := 3, pos := "simfs.go:125", after := #[{ on := 5, ground := Ground.data }, { on := 7, ground := Ground.data }, { on := 3, ground := Ground.guard }], guard := some (3, true) }) (v := ?_) rfl (by kernel_rfl) (by kernel_rfl) (by kernel_rfl) (fun _ _ _ h => h) (Or.inl ⟨by rfl, ?_⟩) hHeld ?_
            rotate_left
            · (intro w' hSw; (try dsimp only at hSw); go_split_ands; go_simp; first | done | with_reducible rfl)
            try simp only [Act.put, List.setIfInBounds_toArray, List.set_cons_zero, List.set_cons_succ]
            refine wpAnyH_take (i := 13) (oi := { dst := some 46, op := Op.binOp BinOp.gtr 3 (Operand.tmp 41) (Operand.tmp 45) 3, type := 4, pos := "simfs.go:125", after := #[{ on := 8, ground := Ground.data }, { on := 12, ground := Ground.data }, { on := 3, ground := Ground.guard }], guard := some (3, true) }) (v := ?_) rfl (by kernel_rfl) (by kernel_rfl) (by kernel_rfl) (fun _ _ _ h => h) (Or.inl ⟨by rfl, ?_⟩) hHeld ?_
            rotate_left
            · (intro w' hSw; (try dsimp only at hSw); go_split_ands; go_simp; first | done | with_reducible rfl)
            try simp only [Act.put, List.setIfInBounds_toArray, List.set_cons_zero, List.set_cons_succ]
            refine wpAnyH_take (i := 14) (oi := { dst := some 47, op := Op.pick (Operand.tmp 36) (Operand.tmp 46) (Operand.const (Value.bool false)), type := 4, pos := "simfs.go:125", after := #[{ on := 3, ground := Ground.data }, { on := 13, ground := Ground.data }], guard := none }) (v := ?_) rfl (by kernel_rfl) (by kernel_rfl) (by kernel_rfl) (fun _ _ _ h => h) (Or.inl ⟨by rfl, ?_⟩) hHeld ?_
            rotate_left
            · (intro w' hSw; (try dsimp only at hSw); go_split_ands; go_simp; first | done | with_reducible rfl)
            try simp only [Act.put, List.setIfInBounds_toArray, List.set_cons_zero, List.set_cons_succ]
            refine wpAnyH_take (i := 15) (oi := { dst := some 32, op := Op.assign (Operand.tmp 47), type := 4, pos := "simfs.go:125", after := #[{ on := 14, ground := Ground.data }, { on := 5, ground := Ground.chain }], guard := none }) (v := ?_) rfl (by kernel_rfl) (by kernel_rfl) (by kernel_rfl) (fun _ _ _ h => h) (Or.inl ⟨by rfl, ?_⟩) hHeld ?_
            rotate_left
            · (intro w' hSw; (try dsimp only at hSw); go_split_ands; go_simp; first | done | with_reducible rfl)
            try simp only [Act.put, List.setIfInBounds_toArray, List.set_cons_zero, List.set_cons_succ]
            refine wpAnyH_done (by kernel_rfl) ?_ _
            refine NoPanic.normal ?_
            go_wp2
            go_ret
            exact ⟨rfl, (FsNew.of_below H2.out (below_undrew hb4)).after ht2 hcf⟩
          · have e : S1.append p b = (S1.setFile n { S1.file n with b := (S1.file n).b ++ b }, 0) := by unfold FsM.append; rw [hlk, hl]; simp only [hL, hb, hT, hU, hR, hQ]; rw [if_neg hlim, if_neg (by omega)]
            rw [e]
            have hroom' : (Q : Int) ≤ (R : Int) := by omega
            clear e hroom
            have HU := Lib.hid hU
            have HR := Lib.hid hR
            clear hs hl hlk h hO hS1 hL hb hT hlim hU hR hQ h0
            go_enter Tryz.func23, Tryz.ntmps23
            go_wp2_with fail
            refine hfd.out.mono ?_
            rintro e w1 ⟨rfl, rfl⟩
            go_wp2_with fail
            refine hsp.out.mono ?_
            rintro e w2 ⟨rfl, h2, ht2⟩
            have hfile := Lib.hid (h2.files n (reach_now hln.out))
            obtain ⟨A, m, c0, c1, fr, hm, -, -, hown, hblk, hrow⟩ := hfile.out.open_
            obtain ⟨bn, bk, A0, n0, r0, -⟩ := h2.open_
            rw [HL.out] at c0 hm hown hblk hrow
            rw [HR.out] at r0
            have H2 := Lib.hid h2
            have HOWN := Lib.hid hown
            have HBLK := Lib.hid hblk
            have HROW := Lib.hid hrow
            have hus := Lib.hid (used_any (h2.below (below_drew (Below.refl _ w2))) hO1.out (by omega))
            rw [HU.out] at hus
            have hfl : f < w2.heap.size := h2.lt f (by omega)
            clear h2 hown hblk hrow fr c1 hfd hsp
            go_wp2_with fail
            refine wp_region_noPanic ?_
            refine wp_region_held_drew (S := fun w' => w'.cell? ⟨f, 0, none⟩ = some (.int .i64 (R : Int))) (by kernel_rfl) ?_ (fun hHeld => ?_)
            · (exact r0)
            refine wpAnyH_take (i := 0) (oi := { dst := some 33, op := Op.move (Operand.tmp 2), type := 32, pos := "simfs.go:125", after := #[], guard := none }) (v := ?_) rfl (by kernel_rfl) (by kernel_rfl) (by kernel_rfl) (fun _ _ _ h => h) (Or.inl ⟨by rfl, ?_⟩) hHeld ?_
            rotate_left
            · (intro w' hSw; (try dsimp only at hSw); go_split_ands; go_simp; first | done | with_reducible rfl)
            try simp only [Act.put, List.setIfInBounds_toArray, List.set_cons_zero, List.set_cons_succ]
            refine wpAnyH_take (i := 1) (oi := { dst := some 34, op := Op.call { callee := Callee.builtin Builtin.len, args := #[Operand.tmp 33], argTypes := #[32] }, type := 3, pos := "simfs.go:125", after := #[{ on := 0, ground := Ground.data }], guard := none }) (v := ?_) rfl (by kernel_rfl) (by kernel_rfl) (by kernel_rfl) (fun _ _ _ h => h) (Or.inl ⟨by rfl, ?_⟩) hHeld ?_
            rotate_left
            · (intro w' hSw; (try dsimp only at hSw); go_split_ands; go_simp; first | done | with_reducible rfl)
            try simp only [Act.put, List.setIfInBounds_toArray, List.set_cons_zero, List.set_cons_succ]
            refine wpAnyH_take (i := 2) (oi := { dst := some 35, op := Op.binOp BinOp.gtr 3 (Operand.tmp 34) (Operand.const (Value.int IntKind.i64 0)) 3, type := 4, pos := "simfs.go:125", after := #[{ on := 1, ground := Ground.data }], guard := none }) (v := (.bool true)) rfl (by kernel_rfl) (by kernel_rfl) (by kernel_rfl) (fun _ _ _ h => h) (Or.inl ⟨by rfl, ?_⟩) hHeld ?_
            · (intro w' hSw; (try dsimp only at hSw); go_split_ands; go_simp; first | done | with_reducible rfl | omega)
            try simp only [Act.put, List.setIfInBounds_toArray, List.set_cons_zero, List.set_cons_succ]
            refine wpAnyH_take (i := 3) (oi := { dst := some 36, op := Op.move (Operand.tmp 35), type := 4, pos := "simfs.go:125", after := #[{ on := 2, ground := Ground.data }], guard := none }) (v := ?_) rfl (by kernel_rfl) (by kernel_rfl) (by kernel_rfl) (fun _ _ _ h => h) (Or.inl ⟨by rfl, ?_⟩) hHeld ?_
            rotate_left
            · (intro w' hSw; (try dsimp only at hSw); go_split_ands; go_simp; first | done | with_reducible rfl)
            try simp only [Act.put, List.setIfInBounds_toArray, List.set_cons_zero, List.set_cons_succ]
            refine wpAnyH_take (i := 4) (oi := { dst := some 37, op := Op.move (Operand.tmp 0), type := 24, pos := "simfs.go:125", after := #[{ on := 3, ground := Ground.guard }], guard := some (3, true) }) (v := ?_) rfl (by kernel_rfl) (by kernel_rfl) (by kernel_rfl) (fun _ _ _ h => h) (Or.inl ⟨by rfl, ?_⟩) hHeld ?_
            rotate_left
            · (intro w' hSw; (try dsimp only at hSw); go_split_ands; go_simp; first | done | with_reducible rfl)
            try simp only [Act.put, List.setIfInBounds_toArray, List.set_cons_zero, List.set_cons_succ]
            refine wpAnyH_take (i := 6) (oi := { dst := some 39, op := Op.move (Operand.tmp 2), type := 32, pos := "simfs.go:125", after := #[{ on := 3, ground := Ground.guard }], guard := some (3, true) }) (v := ?_) rfl (by kernel_rfl) (by kernel_rfl) (by kernel_rfl) (fun _ _ _ h => h) (Or.inl ⟨by rfl, ?_⟩) hHeld ?_
            rotate_left
            · (intro w' hSw; (try dsimp only at hSw); go_split_ands; go_simp; first | done | with_reducible rfl)
            try simp only [Act.put, List.setIfInBounds_toArray, List.set_cons_zero, List.set_cons_succ]
            refine wpAnyH_take (i := 7) (oi := { dst := some 40, op := Op.call { callee := Callee.builtin Builtin.len, args := #[Operand.tmp 39], argTypes := #[32] }, type := 3, pos := "simfs.go:125", after := #[{ on := 6, ground := Ground.data }, { on := 3, ground := Ground.guard }], guard := some (3, true) }) (v := ?_) rfl (by kernel_rfl) (by kernel_rfl) (by kernel_rfl) (fun _ _ _ h => h) (Or.inl ⟨by rfl, ?_⟩) hHeld ?_
            rotate_left
            · (intro w' hSw; (try dsimp only at hSw); go_split_ands; go_simp; first | done | with_reducible rfl)
            try simp only [Act.put, List.setIfInBounds_toArray, List.set_cons_zero, List.set_cons_succ]
            refine wpAnyH_take (i := 9) (oi := { dst := some 42, op := Op.move (Operand.tmp 0), type := 24, pos := "simfs.go:125", after := #[{ on := 3, ground := Ground.guard }], guard := some (3, true) }) (v := ?_) rfl (by kernel_rfl) (by kernel_rfl) (by kernel_rfl) (fun _ _ _ h => h) (Or.inl ⟨by rfl, ?_⟩) hHeld ?_
            rotate_left
            · (intro w' hSw; (try dsimp only at hSw); go_split_ands; go_simp; first | done | with_reducible rfl)
            try simp only [Act.put, List.setIfInBounds_toArray, List.set_cons_zero, List.set_cons_succ]
            refine wpAnyH_take (i := 10) (oi := { dst := some 43, op := Op.nilCheck (Operand.tmp 42), type := 0, pos := "simfs.go:125", after := #[{ on := 9, ground := Ground.data }, { on := 3, ground := Ground.guard }], guard := some (3, true) }) (v := ?_) rfl (by kernel_rfl) (by kernel_rfl) (by kernel_rfl) (fun _ _ _ h => h) (Or.inl ⟨by rfl, ?_⟩) hHeld ?_
            rotate_left
            · (intro w' hSw; (try dsimp only at hSw); go_split_ands; go_simp; first | done | with_reducible rfl)
            try simp only [Act.put, List.setIfInBounds_toArray, List.set_cons_zero, List.set_cons_succ]
            refine wpAnyH_take (i := 11) (oi := { dst := some 44, op := Op.fieldAddr 64 (Operand.tmp 43) 0, type := 0, pos := "simfs.go:125", after := #[{ on := 10, ground := Ground.data }, { on := 3, ground := Ground.guard }], guard := some (3, true) }) (v := ?_) rfl (by kernel_rfl) (by kernel_rfl) (by kernel_rfl) (fun _ _ _ h => h) (Or.inl ⟨by rfl, ?_⟩) hHeld ?_
            rotate_left
            · (intro w' hSw; (try dsimp only at hSw); go_split_ands; go_simp; first | done | with_reducible rfl)
            try simp only [Act.put, List.setIfInBounds_toArray, List.set_cons_zero, List.set_cons_succ]
            refine wpAnyH_take (i := 12) (oi := { dst := some 45, op := Op.load 3 (Operand.tmp 44), type := 3, pos := "simfs.go:125", after := #[{ on := 11, ground := Ground.data }, { on := 3, ground := Ground.guard }], guard := some (3, true) }) (v := ?_) rfl (by kernel_rfl) (by kernel_rfl) (by kernel_rfl) (fun _ _ _ h => h) (Or.inl ⟨by rfl, ?_⟩) hHeld ?_
            rotate_left
            · (intro w' hSw; (try dsimp only at hSw); go_split_ands; go_simp; first | done | with_reducible rfl)
            try simp only [Act.put, List.setIfInBounds_toArray, List.set_cons_zero, List.set_cons_succ]
            refine wpAnyH_ready (rs := [5]) (by kernel_rfl) (by simp) ?_
            refine AllReadyH.cons (o := { dst := some 38, op := Op.call { callee := Callee.value (Operand.func 15), args := #[Operand.tmp 37], argTypes := #[24] }, type := 3, pos := "simfs.go:125", after := #[{ on := 4, ground := Ground.data }, { on := 3, ground := Ground.chain }, { on := 3, ground := Ground.guard }], guard := some (3, true) }) rfl (fun K hK => ?_) AllReadyH.nil
            go_simp
            refine hus.out.mono ?_
            rintro e w4 ⟨rfl, hb4⟩
            have r4 : w4.cell? ⟨f, 0, none⟩ = some (.int .i64 (R : Int)) := (hb4.cell (p := ⟨f, 0, none⟩) hfl).trans r0
            go_wp2_with fail
            refine hK.out _ _ ?_ ?_
            · (exact r4)
            clear hK K hHeld; intro hHeld
            try simp only [Act.put, List.setIfInBounds_toArray, List.set_cons_zero, List.set_cons_succ]
            refine wpAnyH_take (i := 8) (oi := { dst := some 41, op := Op.binOp BinOp.add 3 (Operand.tmp 38) (Operand.tmp 40) 3, type := 3, pos := "simfs.go:125", after := #[{ on := 5, ground := Ground.data }, { on := 7, ground := Ground.data }, { on := 3, ground := Ground.guard }], guard := some (3, true) }) (v := ?_) rfl (by kernel_rfl) (by kernel_rfl) (by kernel_rfl) (fun _ _ _ h => h) (Or.inl ⟨by rfl, ?_⟩) hHeld ?_
            rotate_left
            · (intro w' hSw; (try dsimp only at hSw); go_split_ands; go_simp; first | done | with_reducible rfl)
            try simp only [Act.put, List.setIfInBounds_toArray, List.set_cons_zero, List.set_cons_succ]
            refine wpAnyH_take (i := 13) (oi := { dst := some 46, op := Op.binOp BinOp.gtr 3 (Operand.tmp 41) (Operand.tmp 45) 3, type := 4, pos := "simfs.go:125", after := #[{ on := 8, ground := Ground.data }, { on := 12, ground := Ground.data }, { on := 3, ground := Ground.guard }], guard := some (3, true) }) (v := ?_) rfl (by kernel_rfl) (by kernel_rfl) (by kernel_rfl) (fun _ _ _ h => h) (Or.inl ⟨by rfl, ?_⟩) hHeld ?_
            rotate_left
            · (intro w' hSw; (try dsimp only at hSw); go_split_ands; go_simp; first | done | with_reducible rfl)
            try simp only [Act.put, List.setIfInBounds_toArray, List.set_cons_zero, List.set_cons_succ]
            refine wpAnyH_take (i := 14) (oi := { dst := some 47, op := Op.pick (Operand.tmp 36) (Operand.tmp 46) (Operand.const (Value.bool false)), type := 4, pos := "simfs.go:125", after := #[{ on := 3, ground := Ground.data }, { on := 13, ground := Ground.data }], guard := none }) (v := ?_) rfl (by kernel_rfl) (by kernel_rfl) (by kernel_rfl) (fun _ _ _ h => h) (Or.inl ⟨by rfl, ?_⟩) hHeld ?_
            rotate_left
            · (intro w' hSw; (try dsimp only at hSw); go_split_ands; go_simp; first | done | with_reducible rfl)
            try simp only [Act.put, List.setIfInBounds_toArray, List.set_cons_zero, List.set_cons_succ]
            refine wpAnyH_take (i := 15) (oi := { dst := some 32, op := Op.assign (Operand.tmp 47), type := 4, pos := "simfs.go:125", after := #[{ on := 14, ground := Ground.data }, { on := 5, ground := Ground.chain }], guard := none }) (v := ?_) rfl (by kernel_rfl) (by kernel_rfl) (by kernel_rfl) (fun _ _ _ h => h) (Or.inl ⟨by rfl, ?_⟩) hHeld ?_
            rotate_left
            · (intro w' hSw; (try dsimp only at hSw); go_split_ands; go_simp; first | done | with_reducible rfl)
            try simp only [Act.put, List.setIfInBounds_toArray, List.set_cons_zero, List.set_cons_succ]
            refine wpAnyH_done (by kernel_rfl) ?_ _
            refine NoPanic.normal ?_
            have hb4' := Lib.hid (below_undrew hb4)
            have H4 := Lib.hid (H2.out.below hb4'.out)
            have HF4 := Lib.hid (hfile.out.keep (Kept.of_below hb4'.out fun k e => H2.out.lt k (by omega)))
            have HB4 := Lib.hid (HBLK.out.keep (hb4'.out.block _ HBLK.out.lt))
            have HSEE := Lib.hid (((see2 w2 ht2).below hb4'.out).more hb4'.out.size)
            have HO4 := Lib.hid (ownsRow_kept HOWN.out fun k e => hb4'.out.block k (World.ownsRow.lt HOWN.out k e).2)
            clear hb4 r0 r4 c0
            have c4 : w4.cell? ⟨F n, 0, none⟩ = some (.slice A L m) := HB4.out.cell 0 rfl
            go_wp2_with (at_builtin; (refine wpList_append_b rfl (.tmp 52) (.tmp 53) rfl 0 _ (S1.file n).b (by rfl) (show OwnB w4 0 _ _ from HO4.out) w4.heap.size Ab lb cb b (by rfl) HB.out HSEE.out (by have := HL.out; have := HB.out; omega) (Nat.zero_le _) ?_; intro v5 w5 hown5 hon5; obtain ⟨A5, c5, hv5, -, -⟩ := row_open hown5; rw [List.length_append, HL.out, HB.out] at hv5; subst hv5; have hF5 : (Value.slice A L m).ownBlock ≠ some (F n) := fun e => (by have := HROW.out _ e; have := hfile.out.col; omega); have b5 := (HB4.out).keep (hon5.grown.block _ (HB4.out).lt (fun e => hF5 e.symm)); have e5 : w5.cell? ⟨F n, 0, none⟩ = some (.slice A L m) := b5.cell 0 rfl; have f5 := b5.frozen 0; have HOWN5 := Lib.hid hown5; have HON5 := Lib.hid hon5; clear hown5 hon5))
            go_ret
            have hfin := append_done (H4.out) (hO1.out.num n (reach_now hln.out)) (m := m) (b := b) (HF4.out) (by rw [HL.out]; exact HB4.out) (by rw [HL.out]; exact HROW.out) HOWN5.out (by rw [HL.out]; exact HON5.out)
            exact ⟨rfl, (hfin.below hb4'.out H2.out.lt).after ht2 hcf⟩
end Go.Proofs.YteidkmiladkoiaaGreatDoor

/-
  sorted: the paths, rising: the iterator, walked.
-/
namespace Go.Proofs.YteidkmiladkoiaaGreatDoor
open Go.RowKit Go.Maps Go.Sort Go.Shelf
open Go.WideElems (Fit rd rg pl rd_mk rg_of)

attribute [local go_sem] Oper.semAt_some

theorem sortsM (m : Nat) : AnyZ.SortsIn Tryz.prog Tryz.sortedM_ren Fence.wide m :=
  ⟨fun blk off cap ss W hH hblk hsz => callsIn_wide.2 (AnyM.slices_Sort_string Tryz.sortM blk off cap ss W hH hblk hsz),
   fun p cap W => callsIn_wide.2 (AnyM.slices_Sort_string_none Tryz.sortM p cap W)⟩
theorem maps_Keys_M (mb : Option Nat) (W : World) : CallsIn Fence.wide 5 Tryz.prog 62 #[.map mb] W fun e w' => e = .returned (.func (.func 69) #[] #[.pointer (some ⟨W.heap.size, 0, none⟩)]) ∧ w' = W.alloc (.cells #[.map mb] 61) :=
  AnyZ.keys_in Tryz.keysM Fence.wide 5 trivial rfl mb W
set_option maxHeartbeats 1000000 in
theorem slices_Sorted_M {H : Type} (b nn : Nat) (D0 : DataW H) (R : Value → Option (DataW H × List MemPlace)) (w : World) (hown : w.ownsMap Tryz.prog 9 R b nn D0) (hmax : Maps.size D0 ≤ maxLen) (hbytes : Maps.size D0 * 16 ≤ 140737488355328) :
    CallsIn Fence.wide 5 Tryz.prog 61 #[.func (.func 69) #[] #[.pointer (some ⟨w.heap.size, 0, none⟩)]] (w.alloc (.cells #[.map (some b)] 61)) fun e w' => ∃ (v : Value) (ss : List (List UInt8)), e = .returned v ∧ ss.Perm (strKeys D0) ∧
      w'.ownsRow (w.alloc (.cells #[.map (some b)] 61)).heap.size 9 1 v ss.length ((ss.mergeSort (fun x y => decide (x ≤ y))).map encStr) ∧ (v = .slice none 0 0 ↔ ss = []) ∧ Below (w.alloc (.cells #[.map (some b)] 61)).heap.size (w.alloc (.cells #[.map (some b)] 61)) w' := by
  have hbl := hown.lt
  have hseq : SeqGives Fence.wide 2 Tryz.prog 69 #[.pointer (some ⟨w.heap.size, 0, none⟩)] encStr (fun ss => ss.Perm (strKeys D0)) (Maps.size D0) (w.alloc (.cells #[.map (some b)] 61)) :=
    AnyZ.keys_gives (ρ := Tryz.keysM_ren) { Tryz.keysM with } Fence.wide _ trivial rfl (by omega) w.heap.size b nn D0 _ (by simp) (by simp) (by
      obtain ⟨es, clock, hb, Ft, hs, hD⟩ := hown
      exact ⟨es, clock, (Below.heap_alloc _ _ b hbl).trans hb, Ft, hs, hD⟩)
  exact AnyZ.sorted_in Tryz.sortedM Fence.wide 5 trivial trivial trivial trivial rfl (by omega) (sortsM _) (enters_of Tryz.func68 (by kernel_rfl) rfl) 69 #[.pointer (some ⟨w.heap.size, 0, none⟩)] trivial (enters_of Tryz.func69 (by kernel_rfl) rfl) _ _ hmax hbytes _ hseq

theorem str_size (l : Txt) : (strOf l).size = l.length := by simp [strOf, ByteArray.size]
/-- How the map's values read: not at all. -/
def anyEl : Value → Option (DataW Unit × List MemPlace) := fun _ => some (.lit (.bool true), [])
theorem dir_owns {w : World} {b : Nat} {F : Nat → Nat} {d : Dir} (h : MapIs w b (d.map (pv F))) (hp : ∀ x ∈ d, x.1.length ≤ 24) (hl : d.length ≤ 100000) :
    ∃ D : DataW Unit, w.ownsMap Tryz.prog 9 anyEl b d.length D ∧ (d.map (·.1)).Perm (strKeys D) ∧ Maps.size D = d.length := by
  obtain ⟨es, clock, hb, h2, h3⟩ := h.out
  have hlen : es.size = d.length := by have := h3.length_eq; simpa using this
  have hrd : ∀ x ∈ es.toList, ∃ p ∈ d, kvOf x = pv F p ∧ Go.WideElems.rd Tryz.prog 9 anyEl x = some (.string p.1, .lit (.bool true)) := fun x hx => by
    obtain ⟨p, hpd, hpe⟩ := List.mem_map.1 (h3.mem_iff.1 (List.mem_map_of_mem (f := kvOf) hx))
    have hk : x.key = .string (strOf p.1) := (congrArg Prod.fst hpe).symm
    have hkey : keyOf Tryz.prog 9 (.string (strOf p.1)) = some (.string p.1) := WideMaps.keyOf_string_mk Tryz.underlying9 (by rw [str_size]; have := hp p hpd; simp only [maxLen]; omega)
    refine ⟨p, hpd, hpe.symm, ?_⟩
    unfold Go.WideElems.rd
    rw [hk, hkey]
    rfl
  have hsz : Maps.size (DataW.map ((es.toList.map (rg Tryz.prog 9 anyEl)).foldr DataW.insert [])) = d.length := by simp [Maps.size, length_sorted, hlen]
  refine ⟨_, ⟨es, clock, hb, ⟨by rw [hlen]; simp only [maxLen]; omega, h2, fun x hx => by obtain ⟨p, -, -, e⟩ := hrd x hx; exact ⟨_, e⟩⟩, by omega, rfl⟩, ?_, hsz⟩
  have h4 : (strKeys (DataW.map ((es.toList.map (rg Tryz.prog 9 anyEl)).foldr DataW.insert []))).Perm ((es.toList.map (rg Tryz.prog 9 anyEl)).map fun p => Go.strOf p.1) := (WideShapes.sorted_perm _).map _
  refine List.Perm.trans ?_ h4.symm
  have h5 : (es.toList.map (rg Tryz.prog 9 anyEl)).map (fun p => Go.strOf p.1) = (es.toList.map kvOf).map fun q => match q.1 with | .string s => s.toList | _ => [] := by
    rw [List.map_map, List.map_map]
    refine List.map_congr_left fun x hx => ?_
    obtain ⟨p, -, e1, e2⟩ := hrd x hx
    simp only [Function.comp, rg_of e2, e1, pv]
    rw [strOf_toList]
    rfl
  rw [h5]
  have h6 : (d.map (pv F)).map (fun q : Value × Value => match q.1 with | .string s => s.toList | _ => []) = d.map (·.1) := by
    rw [List.map_map]
    refine List.map_congr_left fun x _ => ?_
    simp only [Function.comp, pv]
    exact strOf_toList x.1
  rw [← h6]
  exact (h3.map _).symm

theorem mergeSort_rises {l : List Txt} {d : Dir} (hp : l.Perm (d.map (·.1))) (h : RiD d) : l.mergeSort (fun x y => decide (x ≤ y)) = d.map (·.1) := by
  have h1 := mergeSort_of_perm hp
  unfold leB at h1
  rw [h1]
  refine List.mergeSort_of_pairwise ?_
  rw [List.pairwise_map]
  exact h.imp fun {x y} e => decide_eq_true (List.le_of_lt e)
/-- slices.Sorted(maps.Keys(m)): the paths. -/
theorem Sorted_dir {w : World} {b : Nat} {F : Nat → Nat} {d : Dir} (h : MapIs w b (d.map (pv F))) (hr : RiD d) (hp : ∀ x ∈ d, x.1.length ≤ 24) (hl : d.length ≤ 100000) :
    Calls Tryz.prog 61 #[.func (.func 69) #[] #[.pointer (some ⟨w.heap.size, 0, none⟩)]] (w.alloc (.cells #[.map (some b)] 61)) fun e w' => ∃ A c, e = .returned (.slice A d.length c) ∧ SeesM (fun k => w.heap.size ≤ k ∧ k < w'.heap.size) w' A ((d.map (·.1)).map encStr) ∧ Below w.heap.size w w' := by
  obtain ⟨D, h1, h2, h3⟩ := dir_owns h hp hl
  refine (callsIn_wide.1 (slices_Sorted_M b _ D _ w h1 (by rw [h3]; simp only [maxLen]; omega) (by rw [h3]; omega))).mono ?_
  rintro e w' ⟨v, ss, rfl, hss, hrow, -, hb⟩
  have hpm : ss.Perm (d.map (·.1)) := hss.trans h2.symm
  rw [mergeSort_rises hpm hr, hpm.length_eq, List.length_map] at hrow
  have hb2 : Below w.heap.size w w' := ((Below.refl _ w).alloc (Nat.le_refl _) _).trans (hb.mono (by simp))
  obtain ⟨A, c, rfl, -, -⟩ := row_open hrow
  refine ⟨A, c, rfl, ?_, hb2⟩
  rcases (Sees.of_own hrow).out with e | ⟨ad, e1, e2, e3⟩
  · exact ⟨.inl e⟩
  · refine ⟨.inr ⟨ad, e1, ⟨?_, e2⟩, e3⟩⟩
    have := (World.ownsRow.lt hrow ad.block (by rw [e1]; rfl)).1
    simp at this
    omega

/-- The blocks that the iterator reads. -/
def listR (c : Nat → Nat) (B1 : Nat) : Nat → Prop := fun k => c k ≠ 0 ∨ k = B1

set_option maxRecDepth 100000 in
set_option maxHeartbeats 3200000 in
theorem sorted1_seq {N : Nat} {c F : Nat → Nat} {w : World} {f : Nat} {S : FsM} (h : FsAt c F w f S) (hO : FsOk N S) (hN : N ≤ 100000) (B1 : Nat) (h1 : w.cell? ⟨B1, 0, none⟩ = some (.pointer (some ⟨f, 0, none⟩))) (hB1 : B1 < w.heap.size) (n : Nat) :
    SeqT Fence.wide n Tryz.prog 60 #[.pointer (some ⟨B1, 0, none⟩)] (fun p : Txt => #[.string (strOf p)]) (listR c B1) (fun _ => False) (fun _ _ _ _ => True) (fun xs => xs = S.now.map (·.1)) (fun _ => True) S.now.length w := by
  intro l J Jx W hW hJ hJx hY h0
  have hAt := h.below hW
  have h1W := (hW.cell (p := ⟨B1, 0, none⟩) hB1).trans h1
  have hlW := hW.size
  obtain ⟨bn, bk, A0, n0, -, d1, -, -, -, -, hcb, -, h8, -⟩ := hAt.open_
  have hK := Lib.hid (callsIn_wide.1 (maps_Keys_M (some bn) W))
  have hS := Lib.hid (Sorted_dir h8 hO.nowR hO.nowP (Nat.le_trans hO.nowN hN))
  obtain ⟨m, hm⟩ : ∃ m, S.now.length = m := ⟨_, rfl⟩
  rw [hm] at hS hY
  have HM := Lib.hid hm
  have hmN : m ≤ 100000 := by rw [← hm]; exact Nat.le_trans hO.nowN hN
  have hfl : f < W.heap.size := hAt.lt f (by have := hAt.col; omega)
  have HR : Hid (∀ k, listR c B1 k → k < W.heap.size) := fun k hk => by
    rcases hk with hk | rfl
    · exact hAt.lt k hk
    · omega
  clear h h1 hAt h8 hO hm hN hW hlW hB1
  refine callsIn_of_wp Tryz.func60 rfl trivial ?_ rfl
  simp only [Tryz.ntmps60, List.size_toArray, List.length_cons, List.length_nil, Nat.reduceAdd, Nat.reduceSub, Array.replicate_succ, Array.replicate_zero, List.push_toArray, List.append_toArray, List.nil_append, List.cons_append]
  gi_wp2_with fail
  refine ⟨trivial, fun h => absurd h (by simp [Fence.wide]), (callsIn_wide.2 hK.out).mono ?_⟩
  rintro e w1 ⟨rfl, rfl⟩
  gi_wp2_with fail
  refine ⟨trivial, fun h => absurd h (by simp [Fence.wide]), (callsIn_wide.2 hS.out).mono ?_⟩
  rintro e w2 ⟨A, cA, rfl, hA, hb2⟩
  have hs2 := hb2.size
  obtain ⟨s2, hs2e⟩ : ∃ s2, grown (fun _ => False) W w2 = s2 := ⟨_, rfl⟩
  have hJ0 := hJ _ _ _ _ h0 (Turn.of_new hb2)
  rw [hs2e] at hJ0
  have hs2i : Hid (∀ k, s2 k ↔ (W.heap.size ≤ k ∧ k < w2.heap.size)) := fun k => by rw [← hs2e]; unfold grown; simp
  have HA := Lib.hid hA
  clear hK hS hA hs2e h0
  gi_wp2_with fail
  gi_loopg [14] m (fun g i wr => ∃ k : Nat, k + g = m ∧ i = .int .i64 k ∧ J s2 ((S.now.map (·.1)).take k) wr ∧ Kept s2 w2 wr ∧ w2.heap.size ≤ wr.heap.size)
  case atStart => exact ⟨0, by omega, rfl, by rw [List.take_zero]; exact hJ0, Kept.refl _ _, Nat.le_refl _⟩
  case round =>
    obtain ⟨k, hk, rfl, hJk, hkp, hsz⟩ := hrel
    clear hJ0
    by_cases hlt : k < m
    · have hkl : k < S.now.length := by rw [HM.out]; exact hlt
      have hsee := (HA.out.mono (m' := s2) fun j e => (hs2i.out j).2 e).keep hkp
      obtain ⟨ad, rfl, hadq, hcell⟩ : ∃ ad, A = some ad ∧ s2 ad.block ∧ wr.cell? (ad.add k) = some (.string (strOf (S.now[k]'hkl).1)) := by
        rcases hsee.out with e | ⟨ad, e1, e2, e3⟩
        · have := congrArg List.length e
          simp at this
          rw [this] at hkl
          simp at hkl
        · exact ⟨ad, e1, e2, e3 k _ (by rw [List.getElem?_map, List.getElem?_map, List.getElem?_eq_getElem hkl]; rfl)⟩
      have hT := Lib.hid (show (S.now.map (·.1)).take (k + 1) = (S.now.map (·.1)).take k ++ [(S.now[k]'hkl).1] by rw [List.take_succ_eq_append_getElem (by simpa using hkl), List.getElem_map])
      have hpl : ((S.now.map (·.1)).take k).length = k := by rw [List.length_take, List.length_map]; omega
      obtain ⟨x, hx⟩ : ∃ x, (S.now[k]'hkl).1 = x := ⟨_, rfl⟩
      rw [hx] at hcell hT
      have hY1 := hY s2 ((S.now.map (·.1)).take k) x wr hJk (by rw [hpl]; exact hlt) trivial
      obtain ⟨fn, tmps, assign, body, hyy, hR⟩ := hY1
      try dsimp only at hyy
      clear hx hpl hkl hsee
      gi_wp2_with fail
      refine ⟨fun h => absurd h (by simp [Fence.wide]), hR.mono ?_⟩
      rintro e w4 (⟨rfl, hJ4, ht4⟩ | ⟨rfl, hJx4, -⟩)
      · have hk4 : Kept s2 wr w4 := Kept.of_turn ht4 (fun j hj => ⟨by have := (hs2i.out j).1 hj; omega, fun e => e.1 hj⟩)
        have HJ4 := Lib.hid hJ4
        have hs4 := ht4.size
        clear hJ4 ht4
        gi_wp2_with fail
        gi_roundg (m - (k + 1))
        case measure => omega
        case rel => exact ⟨k + 1, by omega, by go_num, by rw [hT.out]; exact HJ4.out, hkp.trans hk4, Nat.le_trans hsz hs4⟩
      · gi_wp2_with fail
        refine bodyPost_ret (results_none rfl _ _ _) rfl ?_
        exact ⟨⟨_, rfl⟩, .inr ⟨s2, _, trivial, hJx4⟩⟩
    · have hke : k = m := by omega
      have HJ4 := Lib.hid hJk
      clear hJk
      gi_wp2_with fail
      go_end0
      refine ⟨⟨_, rfl⟩, .inl ⟨s2, _, rfl, ?_⟩⟩
      have := HJ4.out
      rw [List.take_of_length_le (by rw [List.length_map, HM.out]; omega)] at this
      exact this
end Go.Proofs.YteidkmiladkoiaaGreatDoor

/-
  List, walked.
-/
namespace Go.Proofs.YteidkmiladkoiaaGreatDoor
open Go.RowKit Go.Shelf

attribute [local go_sem] Oper.semAt_some

/-- Does a text begin with another one? -/
def hasPre (v want : ByteArray) : Bool := decide (want.size ≤ v.size) && ((v.extract 0 want.size).toList == want.toList)
theorem hasPre_eq (y x : Txt) : hasPre (strOf y) (strOf x) = decide (x <+: y) := by
  unfold hasPre
  rw [str_size, str_size, strOf_toList]
  have e : ((strOf y).extract 0 x.length).toList = y.take x.length := by
    rw [Lib.toList_data]
    simp [strOf, ByteArray.extract, ByteArray.copySlice]
  rw [e, Bool.eq_iff_iff]
  simp only [Bool.and_eq_true, decide_eq_true_eq, beq_iff_eq, List.prefix_iff_eq_take]
  constructor
  · rintro ⟨-, h⟩
    exact h.symm
  · intro h
    refine ⟨?_, h.symm⟩
    have := congrArg List.length h
    rw [List.length_take] at this
    omega
set_option maxRecDepth 100000 in
set_option maxHeartbeats 400000 in
theorem stringsHasPrefix_any (v want : ByteArray) (w : World) : Calls Tryz.prog 63 #[.string v, .string want] w fun e w' => e = .returned (.bool (hasPre v want)) ∧ w = w' := by
  obtain ⟨X, hX⟩ : ∃ X, hasPre v want = X := ⟨_, rfl⟩
  rw [hX]
  unfold hasPre at hX
  by_cases h : want.size ≤ v.size
  · rw [decide_eq_true h] at hX
    have HX := Lib.hid hX
    clear hX
    go_enter Tryz.func63, Tryz.ntmps63
    go_wp2
    go_ret
    exact ⟨ret_bool (by rw [← HX.out, Bool.true_and]), rfl⟩
  · rw [decide_eq_false h] at hX
    have HX : Hid (X = false) := by unfold Hid; rw [← hX]; rfl
    have h' : (v.size : Int) < (want.size : Int) := by omega
    clear hX h
    go_enter Tryz.func63, Tryz.ntmps63
    go_wp2
    go_ret
    rw [HX.out]
    exact ⟨rfl, rfl⟩
set_option maxRecDepth 100000 in
set_option maxHeartbeats 400000 in
theorem HasPrefix_str (y x : Txt) (w : World) : Calls Tryz.prog 47 #[.string (strOf y), .string (strOf x)] w fun e w' => e = .returned (.bool (decide (x <+: y))) ∧ w = w' := by
  rw [← hasPre_eq]
  go_enter Tryz.func47, Tryz.ntmps47
  go_wp2_with fail
  refine (stringsHasPrefix_any (strOf y) (strOf x) w).mono ?_
  rintro e w1 ⟨rfl, rfl⟩
  go_wp2
  go_ret
  exact ⟨rfl, rfl⟩

theorem sorted_call (p : Option Addr) (w : World) : Calls Tryz.prog 46 #[.pointer p] w fun e w' => e = .returned (.func (.func 60) #[] #[.pointer (some ⟨w.heap.size, 0, none⟩)]) ∧ w' = w.alloc (.cells #[.pointer p] 24) := by
  go_enter Tryz.func46, Tryz.ntmps46
  go_wp2
  go_ret
  exact ⟨rfl, rfl⟩
theorem sorted1_nil (R : Nat → Prop) (w : World) (B1 : Nat) (h1 : w.cell? ⟨B1, 0, none⟩ = some (.pointer none)) (hB1 : B1 < w.heap.size) (n : Nat) :
    SeqT Fence.wide n Tryz.prog 60 #[.pointer (some ⟨B1, 0, none⟩)] (fun p : Txt => #[.string (strOf p)]) R (fun _ => False) (fun _ _ _ _ => True) (fun xs => xs = []) (fun _ => True) 0 w := by
  intro l J Jx W hW hJ hJx hY h0
  have h1W := (hW.cell (p := ⟨B1, 0, none⟩) hB1).trans h1
  clear hW h1 hY
  refine callsIn_of_wp Tryz.func60 rfl trivial ?_ rfl
  simp only [Tryz.ntmps60, List.size_toArray, List.length_cons, List.length_nil, Nat.reduceAdd, Nat.reduceSub, Array.replicate_succ, Array.replicate_zero, List.push_toArray, List.append_toArray, List.nil_append, List.cons_append]
  gi_wp2_with fail
  refine bodyPost_ret (results_none rfl _ _ _) rfl ?_
  exact ⟨⟨_, rfl⟩, .inl ⟨_, [], rfl, h0⟩⟩

theorem Tryz.strinfo : (Tryz.prog.info? 9).map (fun i => (i.zero, i.size, i.bytes)) = some (some (.string ⟨#[]⟩), 1, 16) := by kernel_rfl
/-- Texts as cells. -/
def tv (l : List Txt) : List Value := l.map fun p => .string (strOf p)
theorem tv_length (l : List Txt) : (tv l).length = l.length := by simp [tv]
theorem tv_one (l : List Txt) : ∀ u ∈ tv l, u.oneCell' = true := fun u hu => by obtain ⟨p, -, rfl⟩ := List.mem_map.1 hu; rfl
/-- A row of texts of the call's own. -/
def OwnT (w : World) (base : Nat) (v : Value) (l : List Txt) : Prop := w.ownsRow base 9 1 v l.length (tv l)
theorem OwnT.nil (w : World) (base : Nat) : OwnT w base (.slice none 0 0) [] := World.ownsRow_nil w base _ 1
/-- Texts are told. -/
def TextsIs (w : World) (l : List Txt) (e : Ending) (w' : World) : Prop := ∃ v, e = .returned v ∧ OwnT w' w.heap.size v l ∧ Below w.heap.size w w'
/-- What a loop over paths keeps. -/
structure ListI (w : World) (first : Txt) (s : Nat → Prop) (pre : List Txt) (W : World) : Prop where
  sep : ∀ k, s k → w.heap.size + 3 ≤ k ∧ k < W.heap.size
  below : Below w.heap.size w W
  size : w.heap.size + 3 ≤ W.heap.size
  box : Box1 W w.heap.size 9 (.string (strOf first))
  out : ∃ v, Box1 W (w.heap.size + 1) 45 v ∧ OwnT W (w.heap.size + 5) v (pre.filter fun p => decide (first <+: p)) ∧ ∀ k, v.ownBlock = some k → ¬ s k
section
variable {w A B : World} {first : Txt} {s : Nat → Prop} {pre : List Txt}
theorem ListI.grow (h : ListI w first s pre A) (ht : Turn s A B) : ListI w first (grown s A B) pre B := by
  obtain ⟨v, h1, h2, h3⟩ := h.out
  have hz := ht.size
  have hs := h.size
  refine ⟨fun k hk => ?_, h.below.trans (ht.below (fun j hj => by have := (h.sep j hj).1; omega) h.below.size), by omega, h.box.turn ht (fun e => by have := (h.sep _ e).1; omega), v, h1.turn ht (fun e => by have := (h.sep _ e).1; omega), ownsRow_kept h2 fun k e => ht.block k (World.ownsRow.lt h2 k e).2 (h3 k e), fun k e e2 => ?_⟩
  · rcases hk with hk | hk
    · have := h.sep k hk; omega
    · omega
  · rcases e2 with e2 | e2
    · exact h3 k e e2
    · have := (World.ownsRow.lt h2 k e).2; omega
theorem ListI.mark (h : ListI w first s pre A) (ht : Turn (fun k => k = w.heap.size + 3 ∨ k = w.heap.size + 3 + 1) A B) : ListI w first s pre B := by
  obtain ⟨v, h1, h2, h3⟩ := h.out
  have hz := ht.size
  have hs := h.size
  refine ⟨fun k hk => ⟨(h.sep k hk).1, by have := (h.sep k hk).2; omega⟩, h.below.trans (ht.below (fun j hj => by omega) h.below.size), by omega, h.box.turn ht (by omega), v, h1.turn ht (by omega), ownsRow_kept h2 fun k e => ht.block k (World.ownsRow.lt h2 k e).2 (by have := (World.ownsRow.lt h2 k e).1; omega), h3⟩
end

set_option maxRecDepth 100000 in
set_option maxHeartbeats 3200000 in
theorem list_core (w : World) (p : Option Addr) (first : Txt) (L : List Txt) (R : Nat → Prop) (hR : ∀ k, R k → k < w.heap.size ∨ k = w.heap.size + 2) (hL : L.length ≤ 100000)
    (hseq : ∀ W, Below w.heap.size w W → W.cell? ⟨w.heap.size + 2, 0, none⟩ = some (.pointer p) → w.heap.size + 2 < W.heap.size → SeqT Fence.wide 4 Tryz.prog 60 #[.pointer (some ⟨w.heap.size + 2, 0, none⟩)] (fun p : Txt => #[.string (strOf p)]) R (fun _ => False) (fun _ _ _ _ => True) (fun xs => xs = L) (fun _ => True) L.length W) :
    Calls Tryz.prog 19 #[.pointer p, .string (strOf first)] w (TextsIs w (L.filter fun p => decide (first <+: p))) := by
  have hsc := fun W => Lib.hid (sorted_call p W)
  refine (callsIn_wide (n := 5)).1 ?_
  refine callsIn_of_wp_marks Tryz.func19 rfl trivial ?_ rfl
  simp only [Tryz.ntmps19, List.size_toArray, List.length_cons, List.length_nil, Nat.reduceAdd, Nat.reduceSub, Array.replicate_succ, Array.replicate_zero, List.push_toArray, List.append_toArray, List.nil_append, List.cons_append]
  obtain ⟨w0, hw0⟩ : ∃ w0, w.alloc (.cells #[.string (strOf first)] 9) = w0 := ⟨_, rfl⟩
  obtain ⟨w1, hw1⟩ : ∃ w1, w0.alloc (.cells #[.slice none 0 0] 45) = w1 := ⟨_, rfl⟩
  have hz0 : w0.heap.size = w.heap.size + 1 := by rw [← hw0]; simp
  have hz1 : w1.heap.size = w.heap.size + 2 := by rw [← hw1]; simp [hz0]
  have hb0 : Below w.heap.size w w0 := by rw [← hw0]; exact (Below.refl _ w).alloc (Nat.le_refl _) _
  have hb1 : Below w0.heap.size w0 w1 := by rw [← hw1]; exact (Below.refl _ w0).alloc (Nat.le_refl _) _
  have x0 : Box1 w1 w.heap.size 9 (.string (strOf first)) := by rw [← hw1, ← hw0]; exact (Box1.new w _ _).alloc _
  have x1 : Box1 w1 (w.heap.size + 1) 45 (.slice none 0 0) := by have := Box1.new w0 45 (.slice none 0 0); rw [hw1, hz0] at this; exact this
  have HB := Lib.hid (hb0.trans (hb1.mono (by omega)))
  have X0 := Lib.hid x0
  have X1 := Lib.hid x1
  have HZ1 := Lib.hid hz1
  clear hb0 hb1 x0 x1
  gi_wp2_with fail
  refine ⟨trivial, (callsIn_wide.2 (hsc w1).out).mono ?_⟩
  rintro e w2 ⟨rfl, hw2⟩
  have hz2 : w2.heap.size = w.heap.size + 3 := by rw [hw2]; simp [hz1]
  have hb2 : Below w1.heap.size w1 w2 := by rw [hw2]; exact (Below.refl _ w1).alloc (Nat.le_refl _) _
  have HB2 := Lib.hid (HB.out.trans (hb2.mono (by rw [HZ1.out]; omega)))
  have y0 := Lib.hid (X0.out.below hb2 X0.out.lt)
  have y1 := Lib.hid (X1.out.below hb2 X1.out.lt)
  have y2 : Box1 w2 (w.heap.size + 2) 24 (.pointer p) := by have := Box1.new w1 24 (.pointer p); rw [← hw2, HZ1.out] at this; exact this
  have hD := hseq w2 HB2.out y2.cell y2.lt
  have HL := Lib.hid hL
  have HRR := Lib.hid hR
  clear hb2 hw2 hw1 hw0 hseq hsc hR
  rw [HZ1.out]
  gi_wp2_with fail
  refine wpIn_rangeFunc_T (F := Fence.wide) (n := 5) rfl (by omega) (gf := 60) (lb := #[.pointer (some ⟨w.heap.size + 2, 0, none⟩)]) rfl trivial (enters_of Tryz.func60 (by kernel_rfl) rfl)
    hD (Below.refl _ _) (fun _ => rfl) (fun k hk => by rcases hk with hk | hk; rcases HRR.out k hk with h | h <;> omega; exact hk.elim)
    (fun _ _ _ _ _ _ _ _ => trivial)
    (fun s pre W => ListI w first s pre W) (fun _ _ _ _ => False)
    ?hI ?hIx ?hI2 ?hIx2 ?h0 (fun y => { tmps := #[.pointer p, .string (strOf first), undef, .pointer (some ⟨w.heap.size, 0, none⟩), .slice none 0 0, .pointer (some ⟨w.heap.size + 1, 0, none⟩), .string (strOf y), .pointer p, .func (.func 60) #[] #[.pointer (some ⟨w.heap.size + 2, 0, none⟩)], .string (strOf y), undef, undef, undef, undef, undef, undef, undef, undef], defers := [] }) ?assign ?body ?done ?stop
  case hI => exact fun s pre A B h ht => h.grow ht
  case hIx => exact fun c s pre A B h ht => h
  case hI2 => rw [hz2]; exact fun s pre A B h ht => h.mark ht
  case hIx2 => exact fun c s pre A B h ht => h
  case h0 => exact ⟨fun k hk => hk.elim, HB2.out, by omega, y0.out, _, y1.out, OwnT.nil _ _, fun k hk => by simp [Value.ownBlock] at hk⟩
  case assign =>
    intro l y W K hK
    gi_wp2
    exact hK
  case body =>
    rintro l s pre y W hi hlt - hdW
    have hc0 := hi.box.cell
    obtain ⟨v, hbox, hown, hvs⟩ := hi.out
    obtain ⟨Av, cv, rfl, -, -⟩ := row_open hown
    have hc1 := hbox.cell
    have hf1 := hbox.frozen
    have hbW : w.heap.size + 5 ≤ W.heap.size := by omega
    have HW := Lib.hid hdW
    have HI := Lib.hid hi
    have hpl := List.length_filter_le (fun p => decide (first <+: p)) pre
    have hP := Lib.hid (HasPrefix_str y first W)
    have hfil : Hid (∀ b, decide (first <+: y) = b → (pre ++ [y]).filter (fun p => decide (first <+: p)) = if b = true then pre.filter (fun p => decide (first <+: p)) ++ [y] else pre.filter (fun p => decide (first <+: p))) := fun b hb => by
      rw [List.filter_append, List.filter_cons, hb]
      cases b <;> simp
    obtain ⟨b, hb⟩ : ∃ b, decide (first <+: y) = b := ⟨_, rfl⟩
    have hfb := hfil.out b hb
    rw [hb] at hP
    obtain ⟨K, hK⟩ : ∃ K, pre.filter (fun p => decide (first <+: p)) = K := ⟨_, rfl⟩
    rw [hK] at hfb hpl hown hc1 hbox hvs
    have HBX := Lib.hid hbox
    have HOW := Lib.hid hown
    have HVS := Lib.hid hvs
    have hKl : K.length ≤ 100000 := by have := HL.out; omega
    have hRw : Hid (∀ k, R k → k < w.heap.size ∨ k = w.heap.size + 2) := HRR.out
    clear hfil hb hpl hi hK hlt hdW
    cases b with
    | true =>
      have HFB : Hid ((pre ++ [y]).filter (fun p => decide (first <+: p)) = K ++ [y]) := by unfold Hid; rw [hfb]; rfl
      obtain ⟨i0, hi0, hy0, hy1, hy2⟩ := info_parts Tryz.strinfo
      have hnb : Hid ((Value.slice Av K.length cv).ownBlock ≠ some (w.heap.size + 1)) := fun e => by have := (World.ownsRow.lt HOW.out _ e).1; omega
      unfold OwnT at hown
      obtain ⟨kl, hkl⟩ : ∃ kl, K.length = kl := ⟨_, rfl⟩
      rw [hkl] at hown hc1 hKl
      have HKL := Lib.hid hkl
      clear hfb hvs hbox hkl
      gi_wp2_with fail
      refine ⟨trivial, (CallsIn.inRound l (callsIn_wide.2 hP.out)).mono ?_⟩
      rintro e wq ⟨rfl, rfl⟩
      gi_wp2_with (gi_at_builtin; (refine wpListIn_append_v rfl (.tmp 13) (.tmp 15) 45 rfl 9 i0 _ 1 16 Tryz.underlying45 hi0 hy0 hy1 hy2 rfl (by omega) (w.heap.size + 5) _ kl (tv K) (by rfl) (World.ownsRow.alloc hown _) (W.heap.size + 1) (some ⟨W.heap.size, 0, none⟩) 1 1 (tv [y]) (by rfl) rfl (sees_cells W _ rfl _ _ _ rfl) (tv_one _) (by simp only [maxLen]; omega) (by omega) (by simp; omega) ?_; intro v5 w5 hown5 hon5; obtain ⟨A5, c5, hv5, -, -⟩ := row_open hown5; subst hv5; have b5 := ((HBX.out.below ((Below.refl _ W).alloc (Nat.le_refl _) (.cells #[.string (strOf y)] 9)) HBX.out.lt).turn (Turn.onto (T := fun k => (Value.slice Av kl cv).ownBlock = some k) hon5 fun k e => e) (by have := hnb.out; rw [HKL.out] at this; exact this)); have e5 := b5.cell; have f5 := b5.frozen; have B5 := Lib.hid b5; have HOWN5 := Lib.hid hown5; have HON5 := Lib.hid hon5; clear hown5 hon5 b5))
      have htp : Turn (fun k => k = w.heap.size + 1 ∨ (Value.slice Av kl cv).ownBlock = some k) W (w5.setCell ⟨w.heap.size + 1, 0, none⟩ (.slice A5 (kl + 1) c5)) := ((Turn.alloc W _).trans (Turn.onto HON5.out fun k e => .inr e)).trans (Turn.setCell _ _ _ (.inl rfl))
      have hlv : ∀ k, (Value.slice Av kl cv).ownBlock = some k → w.heap.size + 5 ≤ k ∧ k < W.heap.size ∧ ¬ s k := fun k e => ⟨(World.ownsRow.lt hown k e).1, (World.ownsRow.lt hown k e).2, HVS.out k (by rw [HKL.out]; exact e)⟩
      have hz5 := HON5.out.size
      simp only [World.size_alloc] at hz5
      have hl5 : ∀ k, (Value.slice A5 (kl + 1) c5).ownBlock = some k → (Value.slice Av kl cv).ownBlock = some k ∨ W.heap.size ≤ k := fun k e => by
        rcases HON5.out.at_ with h | ⟨g, h, hg⟩
        · exact .inl (h ▸ e)
        · rw [h] at e; injection e with e; simp at hg; exact .inr (by omega)
      refine ⟨htp.mono fun k _ e => ?_, ⟨fun k e => ⟨(HI.out.sep k e).1, by have := (HI.out.sep k e).2; rw [World.size_setCell]; omega⟩, HI.out.below.trans (htp.below (fun j e => ?_) HI.out.below.size), by rw [World.size_setCell]; omega, HI.out.box.turn htp (fun e => ?_), _, (B5.out.set _), ?_, fun k e e2 => ?_⟩⟩
      · rcases e with rfl | e
        · exact ⟨fun e => by have := (HI.out.sep _ e).1; omega, fun e => by rcases hRw.out _ e with h | h <;> omega, by omega, by omega⟩
        · have := hlv k e
          exact ⟨this.2.2, fun e => by rcases hRw.out _ e with h | h <;> omega, by omega, by omega⟩
      · rcases e with rfl | e
        · omega
        · have := hlv j e; omega
      · rcases e with e | e
        · omega
        · have := hlv _ e; omega
      · rw [HFB.out]
        have h5 := ownsRow_kept HOWN5.out (w' := w5.setCell ⟨w.heap.size + 1, 0, none⟩ (.slice A5 (kl + 1) c5)) fun k e => Below.heap_setCell _ _ _ _ (fun e2 => by
          simp only at e2
          rcases hl5 k e with h | h
          · have := hlv k h; omega
          · omega)
        unfold OwnT
        have e1 : (K ++ [y]).length = kl + 1 := by rw [List.length_append, HKL.out]; rfl
        have e2 : tv (K ++ [y]) = tv K ++ tv [y] := by simp [tv]
        rw [e1, e2]
        exact h5
      · rcases hl5 k e with h | h
        · exact (hlv k h).2.2 e2
        · have := (HI.out.sep k e2).2; omega
    | false =>
      have HFB : Hid ((pre ++ [y]).filter (fun p => decide (first <+: p)) = K) := by unfold Hid; rw [hfb]; rfl
      clear hfb hown hvs hbox
      gi_wp2_with fail
      refine ⟨trivial, (CallsIn.inRound l (callsIn_wide.2 hP.out)).mono ?_⟩
      rintro e wq ⟨rfl, rfl⟩
      gi_wp2_with fail
      refine ⟨Turn.refl _ _, HI.out.sep, HI.out.below, HI.out.size, HI.out.box, _, HBX.out, ?_, HVS.out⟩
      rw [HFB.out]
      exact HOW.out
  case done =>
    rintro s xs W rfl hi hK
    obtain ⟨v, hbox, hown, hvs⟩ := hi.out
    obtain ⟨Av, cv, rfl, -, -⟩ := row_open hown
    have hc1 := hbox.cell
    have HZ2 := Lib.hid hz2
    have hpt := Turn.putObj W w2.heap.size (.deferred none) (T := fun k => k = w2.heap.size) rfl
    have hres : OwnT (W.putObj w2.heap.size (.deferred none)) (w.heap.size + 5) _ _ := ownsRow_kept hown fun k e => hpt.block k (World.ownsRow.lt hown k e).2 (by have := (World.ownsRow.lt hown k e).1; omega)
    have hbel := hi.below.trans (hpt.below (b := w.heap.size) (fun j hj => by omega) hi.below.size)
    have hres2 := Lib.hid (show OwnT (W.putObj w2.heap.size (.deferred none)) w.heap.size _ _ from by
      refine ⟨hres.1, ?_⟩
      rcases hres.2 with h | ⟨g, cap, cur, hv, hg, r⟩
      · exact .inl h
      · exact .inr ⟨g, cap, cur, hv, by omega, r⟩)
    obtain ⟨lz, hlz⟩ : ∃ lz, (xs.filter fun p => decide (first <+: p)).length = lz := ⟨_, rfl⟩
    rw [hlz] at hc1 hres2
    clear hz2 hlz hown hvs hbox hres hD HL hL
    gi_wp2_with fail
    refine ⟨by simp, .inl ⟨_, _, rfl, run_takeDeferred hK, ?_⟩⟩
    exact ⟨_, results_tmp rfl _ _ _, .slice Av lz cv, rfl, hres2.out, hbel⟩
  case stop => exact fun c s pre W _ h => h.elim

theorem list_any {N : Nat} {c F : Nat → Nat} {w : World} {f : Nat} {S : FsM} (h : FsAt c F w f S) (hO : FsOk N S) (hN : N ≤ 10000) (first : Txt) :
    Calls Tryz.prog 19 #[.pointer (some ⟨f, 0, none⟩), .string (strOf first)] w (TextsIs w (S.list first)) :=
  list_core w (some ⟨f, 0, none⟩) first (S.now.map (·.1)) (listR c (w.heap.size + 2)) (fun k hk => by rcases hk with hk | hk; exact .inl (h.lt k hk); exact .inr hk) (by rw [List.length_map]; have := hO.nowN; omega)
    fun W hW hc hl => by rw [List.length_map]; exact sorted1_seq (h.below hW) hO (by omega) _ hc hl 4
theorem list_nil (first : Txt) (w : World) : Calls Tryz.prog 19 #[.pointer none, .string (strOf first)] w (TextsIs w []) :=
  list_core w none first [] (fun _ => False) (fun k hk => hk.elim) (by simp) fun W _ hc hl => sorted1_nil _ W _ hc hl 4
end Go.Proofs.YteidkmiladkoiaaGreatDoor
