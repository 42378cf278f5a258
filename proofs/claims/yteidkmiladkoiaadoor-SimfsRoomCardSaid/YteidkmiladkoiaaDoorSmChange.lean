/-
  The changes of paths, walked: change.
-/
import Derived.Test.YteidkmiladkoiaaDoorSmOps
namespace Go.Proofs.YteidkmiladkoiaaDoor
open Go.RowKit

theorem Tryd.chginfo : (Tryd.prog.info? 60).map (fun i => (i.zero, i.size, i.bytes)) = some (some (.slice none 0 0), 1, 24) := by kernel_rfl

theorem sees_cells (w : World) (b : Nat) (hb : w.heap.size = b) (xs : List Value) (t : TypeId) (cs : Array Value) (h : cs = xs.toArray) : Sees (w.alloc (.cells cs t)) (b + 1) (some ⟨b, 0, none⟩) xs := by
  subst hb
  subst h
  refine ⟨.inr ⟨_, rfl, by simp, fun j u hu => ?_⟩⟩
  rw [Addr.add_lit, World.cell?_alloc_at _ _ _ _ rfl]
  simpa using hu
theorem row_open {w : World} {base n : Nat} {e : TypeId} {sz : Nat} {v : Value} {xs : List Value} (h : w.ownsRow base e sz v n xs) : ∃ A c, v = .slice A n c ∧ n ≤ c ∧ c ≤ maxLen := by
  rcases h.2 with ⟨rfl, hn⟩ | ⟨g, cap, cur, rfl, -, -, hc, hm, -⟩
  · exact ⟨none, 0, by rw [hn], by omega, by simp [maxLen]⟩
  · exact ⟨_, cap, rfl, hc, hm⟩
/-- A block's colour, where a value owns one. -/
def updO (c : Nat → Nat) (b : Option Nat) (x : Nat) : Nat → Nat := match b with
  | none => c
  | some b => upd c b x
theorem updO_same {c : Nat → Nat} {b : Option Nat} {x k : Nat} (h : b = some k) : updO c b x k = x := by subst h; exact upd_same c k x
theorem updO_ne {c : Nat → Nat} {b : Option Nat} {x k : Nat} (h : b ≠ some k) : updO c b x k = c k := by
  cases b with
  | none => rfl
  | some j => exact upd_ne c x (fun e => h (by rw [e]))
/-- Behind a step onto a row: what the row's block was coloured stays so. -/
theorem updO_keep {c : Nat → Nat} {w w' : World} {v v' : Value} {x : Nat} (hon : Onto w w' v v') (hv : ∀ k, v.ownBlock = some k → c k = x) {k : Nat} (hk : k < w.heap.size) : updO c v'.ownBlock x k = c k := by
  by_cases e : v'.ownBlock = some k
  · rw [updO_same e]
    rcases hon.at_ with h1 | ⟨g, h1, h2⟩
    · exact (hv k (h1 ▸ e)).symm
    · rw [h1] at e; injection e with e; omega
  · exact updO_ne e

section
variable {c c' F : Nat → Nat} {w w2 w3 : World} {v v' : Value} {L : List (List Giv)} {vs : List Value} {A : Option Addr} {n : Nat} {l : List Giv}
/-- One more change. -/
theorem ChgAt.put (h1 : w.ownsRow 0 60 1 v L.length vs) (h2 : ∀ k, v.ownBlock = some k → c k = 4)
    (h3 : ∀ i (hi : i < L.length), ∃ A n, vs[i]? = some (.slice A (L[i]).length n) ∧ (L[i]).length ≤ n ∧ SeesM (fun k => c k = 5) w A (givV F L[i]))
    (hc : ∀ k, c k ≠ 0 → k < w.heap.size) (hk : Kept (fun k => c k = 5) w w2) (hs : w.heap.size ≤ w2.heap.size) (hs5 : SeesM (fun k => c k = 5) w A (givV F l)) (hn : l.length ≤ n)
    (hown : w3.ownsRow 0 60 1 v' (L.length + 1) (vs ++ [.slice A l.length n])) (hon : Onto w2 w3 v v') : ChgAt (updO c v'.ownBlock 4) F w3 v' (L ++ [l]) := by
  have hvs : vs.length = L.length := by have := h1.1; omega
  have hk3 : Kept (fun k => c k = 5) w w3 := hk.trans fun k e => hon.grown.block k (by have := hc k (by omega); omega) (fun e2 => by have := h2 k e2.symm; omega)
  have hcol : ∀ k, c k = 5 → updO c v'.ownBlock 4 k = 5 := fun k e => (updO_keep hon h2 (by have := hc k (by omega); omega)).trans e
  refine ⟨vs ++ [.slice A l.length n], by rw [List.length_append]; exact hown, fun k e => updO_same e, fun i hi => ?_⟩
  by_cases hlt : i < L.length
  · obtain ⟨Ai, ci, g1, g2, g3⟩ := h3 i hlt
    rw [List.getElem_append_left hlt, List.getElem?_append_left (by omega)]
    exact ⟨Ai, ci, g1, g2, (g3.keep hk3).mono hcol⟩
  · have he : i = L.length := by simp at hi; omega
    subst he
    rw [List.getElem_append_right (Nat.le_refl _), List.getElem?_append_right (by omega)]
    refine ⟨A, n, by simp [hvs], by simpa using hn, ?_⟩
    simp only [Nat.sub_self, List.getElem_cons_zero]
    exact (hs5.keep hk3).mono hcol
end

set_option maxRecDepth 100000 in
set_option maxHeartbeats 800000 in
theorem change_any {c F : Nat → Nat} {w : World} {f : Nat} {S : FsM} (h : FsAt c F w f S) (hR : RiD S.now) (A : Option Addr) (n cap : Nat) (l : List Giv) (hl : l.length = n) (hc : n ≤ cap) (hn : n ≤ 1000) (hs : SeesM (fun k => c k = 5) w A (givV F l)) (hnew : ∀ p i, (p, some i) ∈ l → FileAt c w i (F i) (S.file i)) (hN : S.chg.length ≤ 100000) :
    Calls Tryd.prog 22 #[.pointer (some ⟨f, 0, none⟩), .slice A n cap] w fun e w' => e = .returned (.int .i64 0) ∧ ∃ c', FsAt c' F w' f (S.change l) ∧ (∀ k, k < w.heap.size → c' k = c k) ∧ Turn (fun k => k = f ∨ c k = 2 ∨ c k = 4) w w' := by
  obtain ⟨bn, bk, v, h1, h2, h3, h4, h5, h6⟩ := h.out
  obtain ⟨vs, r1, r2, r3⟩ := h6.out
  have hcf := h.col
  have hD := Lib.hid (do_any (fun k => c k = 5) A n cap bn F l S.now w hl hn hs (fun k e => ⟨h.lt k (by omega), fun e2 => by rw [e2] at e; omega⟩) h4 hR)
  have d1 : w.cell? ⟨f, 1, none⟩ = some (.map (some bn)) := h1.cell 1 rfl
  obtain ⟨L, hL⟩ : ∃ L, S.chg.length = L := ⟨_, rfl⟩
  rw [hL] at r1 hN
  have HX := Lib.hid (And.intro h (And.intro hR (And.intro hnew (And.intro r2 (And.intro r3 (And.intro h5 (And.intro hs hL)))))))
  obtain ⟨ti, hti, hz0, hz1, hz2⟩ := info_parts Tryd.chginfo
  have hone := hz1
  obtain ⟨A0, c0, hv, -, -⟩ := row_open r1
  subst hv
  have B1 := Lib.hid h1
  have H2 := Lib.hid h2
  have H3 := Lib.hid h3
  have HL := Lib.hid hl
  clear h h1 h2 h3 h4 h5 h6 r2 r3 hR hnew hs hL hl
  go_enter Tryd.func22, Tryd.ntmps22
  go_wp2_with fail
  refine hD.out.mono ?_
  rintro e w1 ⟨⟨v1, rfl⟩, hm1, ht1⟩
  have hs1 := ht1.size
  have hfb : f ≠ bn := fun e => by have := H2.out; rw [← e] at this; omega
  have b1 := B1.out.keep (ht1.block f B1.out.lt hfb)
  have d3 : w1.cell? ⟨f, 3, none⟩ = some (.slice A0 L c0) := b1.cell 3 rfl
  have r1' := ownsRow_kept r1 (w' := w1) fun k e => ht1.block k (World.ownsRow.lt r1 k e).2 (fun e2 => by obtain ⟨-, -, -, g, -⟩ := HX.out; have := g k e; have := H2.out; rw [← e2] at this; omega)
  have HM1 := Lib.hid hm1
  have HT1 := Lib.hid ht1
  clear hm1 ht1
  have hfr : ∀ g, (Value.slice A0 L c0).ownBlock = some g → g ≠ f := fun g e e2 => by obtain ⟨-, -, -, hg, -⟩ := HX.out; have := hg g e; have := HX.out.1.col; rw [← e2] at this; omega
  go_wp2_with (at_builtin; (refine wpList_append_v rfl (.tmp 15) (.tmp 17) 45 rfl 60 ti _ 1 24 Tryd.underlying45 hti hz0 hz1 hz2 rfl (by omega) 0 _ L vs (by rfl) (World.ownsRow.alloc r1' _) (w1.heap.size + 1) (some ⟨w1.heap.size, 0, none⟩) 1 1 [.slice A n cap] (by rfl) rfl (sees_cells w1 _ rfl _ _ _ rfl) (fun u hu => by simp at hu; subst hu; rfl) (by simp only [maxLen]; omega) (by omega) (by simp) ?_; intro v3 w3 hown3 hon3; obtain ⟨A3, c3, hv3, -, -⟩ := row_open hown3; subst hv3; have b2 := (b1.keep (w' := w1.alloc (.cells #[.slice A n cap] 60)) (Below.heap_alloc _ _ f b1.lt)).keep (hon3.grown.block f (by have := b1.lt; simp; omega) (fun e => hfr f e.symm rfl)); have e3 : w3.cell? ⟨f, 3, none⟩ = some (.slice A0 L c0) := b2.cell 3 rfl; have f3 := b2.frozen 3; have b3 := Lib.hid (b2.set 3 (.slice A3 (L + 1) c3)); have HOWN := Lib.hid hown3; have HON := Lib.hid hon3; clear hown3 hon3))
  go_ret
  refine ⟨rfl, updO c (Value.slice A3 (L + 1) c3).ownBlock 4, ?_⟩
  obtain ⟨h, hR, hnew, r2, r3, h5, hs, hL⟩ := HX.out
  have hbn := H2.out
  have hbk := H3.out
  have hcol : ∀ k, k < w.heap.size → updO c (Value.slice A3 (L + 1) c3).ownBlock 4 k = c k := fun k hk => updO_keep HON.out r2 (by simp; omega)
  have ht3 : Turn (fun k => k = f ∨ c k = 2 ∨ c k = 4) w1 (w3.setCell ⟨f, 3, none⟩ (.slice A3 (L + 1) c3)) := (Turn.alloc w1 _).trans ((Turn.onto HON.out fun k e => .inr (.inr (r2 k e))).trans (Turn.setCell _ _ _ (.inl rfl)))
  have ht : Turn (fun k => k = f ∨ c k = 2 ∨ c k = 4) w (w3.setCell ⟨f, 3, none⟩ (.slice A3 (L + 1) c3)) := (HT1.out.mono fun k _ e => .inr (.inl (by rw [e]; exact hbn))).trans ht3
  have hkb : ∀ k, k < w.heap.size → k ≠ f → c k ≠ 4 → (w3.setCell ⟨f, 3, none⟩ (.slice A3 (L + 1) c3)).heap[k]? = w1.heap[k]? := fun k hk hkf hk4 => by
    rw [Below.heap_setCell _ _ _ _ hkf, HON.out.grown.block k (by simp; omega) (fun e => hk4 (r2 k e.symm))]
    exact Below.heap_alloc _ _ k (by omega)
  have hkc : Kept (fun k => c k ≠ 0 ∧ c k ≠ 1 ∧ c k ≠ 2 ∧ c k ≠ 4) w (w3.setCell ⟨f, 3, none⟩ (.slice A3 (L + 1) c3)) := Kept.of_turn ht fun k e => ⟨h.lt k e.1, fun e2 => by
    rcases e2 with e2 | e2 | e2
    · rw [e2] at e; omega
    · omega
    · omega⟩
  have hcf' : updO c (Value.slice A3 (L + 1) c3).ownBlock 4 f = 1 := (hcol f B1.out.lt).trans hcf
  refine ⟨⟨⟨bn, bk, .slice A3 (L + 1) c3, ?_, (hcol bn (h.lt bn (by omega))).trans hbn, (hcol bk (h.lt bk (by omega))).trans hbk, ?_, ?_, ?_⟩, hcf', fun i hi => ?_, fun k hk => ?_⟩, hcol, ht⟩
  · exact b3.out
  · exact HM1.out.keep (hkb bn (h.lt bn (by omega)) (fun e => hfb e.symm) (by omega))
  · exact h5.keep (hkc bk ⟨by omega, by omega, by omega, by omega⟩)
  · have hp := ChgAt.put (F := F) (w2 := w1.alloc (.cells #[.slice A n cap] 60)) (A := A) (n := cap) (l := l) (by rw [hL]; exact r1) r2 r3 h.lt ((Kept.of_turn HT1.out fun k e => ⟨h.lt k (by omega), fun e2 => by rw [e2] at e; omega⟩).trans (Kept.of_below ((Below.refl _ w1).alloc (Nat.le_refl _) _) fun k e => by have := h.lt k (by omega); omega)) (by simp; omega) hs (by rw [HL.out]; exact hc) (by rw [hL, HL.out]; exact HOWN.out) HON.out
    exact hp.keep fun k e => Below.heap_setCell _ _ _ _ (fun e2 => by simp only at e2; rw [e2] at e; omega)
  · have hf1 : FileAt c w i (F i) (S.file i) := by
      rcases reach_change hR hi with e | ⟨p, e⟩
      · exact h.files i e
      · exact hnew p i e
    exact (hf1.keep (hkc.mono fun k e => ⟨by omega, by omega, by omega, by omega⟩)).recol fun k e => hcol k (h.lt k (by omega))
  · rw [World.size_setCell]
    by_cases e : (Value.slice A3 (L + 1) c3).ownBlock = some k
    · exact (World.ownsRow.lt HOWN.out k e).2
    · rw [updO_ne e] at hk
      have h1 := h.lt k hk
      have h2 := HON.out.size
      simp at h2
      omega
end Go.Proofs.YteidkmiladkoiaaDoor
