/-
  Rows that are gone through at once: Swap and Pop, walked.
-/
import Derived.Test.YtcfbblgoligagaaKmRowsI
namespace Go.Proofs.Ytcfbblgoligagaa.KI
open Go.RowKit
/-- One world as another, but for draws. -/
structure Alk (w' w : World) : Prop where
  heap : w'.heap = w.heap
  os : w'.os = w.os
  tape : w'.tape = w.tape
  output : w'.output = w.output
section
variable {m q : Nat → Prop} {w w' : World} {base P : Nat} {L : List (List El)}
theorem Alk.turn {T : Nat → Prop} {w w' v : World} (h : Alk w' w) (ht : Turn T v w) : Turn T v w' :=
  ⟨h.os.trans ht.os, h.tape.trans ht.tape, h.output.trans ht.output, by rw [h.heap]; exact ht.size, fun k a b => by rw [h.heap]; exact ht.block k a b⟩
theorem Alk.kept {m : Nat → Prop} {w w' : World} (h : Alk w' w) : Kept m w w' := fun k _ => by rw [h.heap]
set_option maxRecDepth 100000 in
set_option maxHeartbeats 1600000 in
theorem swap_raw (w : World) (P g i j N cap : Nat) (xi xj : Value) (hne : i ≠ j) (hi : i < N) (hj : j < N) (_hN : N ≤ 1000000) (_hcap : N ≤ cap) (hPg : g ≠ P)
    (p0 : w.cell? ⟨P, 0, none⟩ = some (.slice (some ⟨g, 0, none⟩) N cap)) (ci : w.cell? ⟨g, i, none⟩ = some xi) (cj : w.cell? ⟨g, j, none⟩ = some xj) (fi : w.frozen? ⟨g, i, none⟩ = false) (fj : w.frozen? ⟨g, j, none⟩ = false)
    (oi : ∃ a n c, xi = .slice a n c) (oj : ∃ a n c, xj = .slice a n c) :
    Calls Try.prog 108 #[.pointer (some ⟨P, 0, none⟩), .int .i64 i, .int .i64 j] w fun e w' => e = .returned (.tuple #[]) ∧ Alk w' ((w.setCell ⟨g, i, none⟩ xj).setCell ⟨g, j, none⟩ xi) := by
  obtain ⟨ai, ni, ki, rfl⟩ := oi
  obtain ⟨aj, nj, kj, rfl⟩ := oj
  go_enter Try.func108, Try.ntmps108
  go_wp2
  go_region
  all_goals (go_end0; exact ⟨rfl, rfl, rfl, rfl, rfl⟩)
set_option maxRecDepth 100000 in
set_option maxHeartbeats 1600000 in
theorem swap_raw1 (w : World) (P g i N cap : Nat) (xi : Value) (hi : i < N) (_hN : N ≤ 1000000) (_hcap : N ≤ cap) (_hPg : g ≠ P)
    (p0 : w.cell? ⟨P, 0, none⟩ = some (.slice (some ⟨g, 0, none⟩) N cap)) (ci : w.cell? ⟨g, i, none⟩ = some xi) (fi : w.frozen? ⟨g, i, none⟩ = false)
    (oi : ∃ a n c, xi = .slice a n c) :
    Calls Try.prog 108 #[.pointer (some ⟨P, 0, none⟩), .int .i64 i, .int .i64 i] w fun e w' => e = .returned (.tuple #[]) ∧ Alk w' ((w.setCell ⟨g, i, none⟩ xi).setCell ⟨g, i, none⟩ xi) := by
  obtain ⟨ai, ni, ki, rfl⟩ := oi
  go_enter Try.func108, Try.ntmps108
  go_wp2
  go_region
  all_goals (go_end0; exact ⟨rfl, rfl, rfl, rfl, rfl⟩)

theorem swap_any (h : RowsAt m q w base P L) (i j : Int) (hi0 : 0 ≤ i) (hi : i < (L.length : Nat)) (hj0 : 0 ≤ j) (hj : j < (L.length : Nat)) :
    Calls Try.prog 108 #[.pointer (some ⟨P, 0, none⟩), .int .i64 i, .int .i64 j] w fun e w' => e = .returned (.tuple #[]) ∧ RowsAt m q w' base P (swapG L i.toNat j.toNat) ∧ Turn q w w' := by
  obtain ⟨i, rfl⟩ := Int.eq_ofNat_of_zero_le hi0
  obtain ⟨j, rfl⟩ := Int.eq_ofNat_of_zero_le hj0
  rw [Int.toNat_natCast, Int.toNat_natCast]
  have hiL : i < L.length := by omega
  have hjL : j < L.length := by omega
  obtain ⟨g, cap, vs, h1, h2, h3, h4, h5, h6⟩ := h.some (by omega)
  obtain ⟨Ai, ci, i1, i2, i3⟩ := h6 i hiL
  obtain ⟨Aj, cj, j1, j2, j3⟩ := h6 j hjL
  have ei := World.ownsRow.cellAt h2 i (by omega)
  have ej := World.ownsRow.cellAt h2 j (by omega)
  have p0 := (cells_of h1 0).1
  simp only [List.getElem?_toArray, List.getElem?_cons_zero] at p0
  have hvs : vs.length = L.length := by have := h2.1; omega
  have key : Calls Try.prog 108 #[.pointer (some ⟨P, 0, none⟩), .int .i64 i, .int .i64 j] w fun e w' => e = .returned (.tuple #[]) ∧ Alk w' ((w.setCell ⟨g, i, none⟩ (.slice Aj (L[j]).length cj)).setCell ⟨g, j, none⟩ (.slice Ai (L[i]).length ci)) := by
    by_cases e : i = j
    · subst e
      have := i1.symm.trans j1
      rw [← Option.some.inj this]
      exact swap_raw1 w P g i L.length cap _ hiL h.few h5 h4 p0 (ei.trans i1) (World.ownsRow.frozenAt h2 i) ⟨_, _, _, rfl⟩
    · exact swap_raw w P g i j L.length cap _ _ e hiL hjL h.few h5 h4 p0 (ei.trans i1) (ej.trans j1) (World.ownsRow.frozenAt h2 i) (World.ownsRow.frozenAt h2 j) ⟨_, _, _, rfl⟩ ⟨_, _, _, rfl⟩
  refine key.mono fun e w' ⟨he, hw⟩ => ⟨he, ?_, ?_⟩
  · obtain ⟨s1, g1⟩ := World.ownsRow.stored h2 i (.slice Aj (L[j]).length cj)
    obtain ⟨s2, g2⟩ := World.ownsRow.stored s1 j (.slice Ai (L[i]).length ci)
    have hkk : Kept (fun k => k ≠ g) w w' := fun k hk => by
      rw [hw.heap]
      exact (Below.heap_setCell _ _ _ _ hk).trans (Below.heap_setCell _ _ _ _ hk)
    have hz : w'.heap.size = w.heap.size := by rw [hw.heap]; simp
    refine ⟨⟨.slice (some ⟨g, 0, none⟩) L.length cap, (vs.set i (.slice Aj (L[j]).length cj)).set j (.slice Ai (L[i]).length ci), (hkk P (Ne.symm h4)).trans ?_, ownsRow_kept (w := (w.setCell ⟨g, i, none⟩ (.slice Aj (L[j]).length cj)).setCell ⟨g, j, none⟩ (.slice Ai (L[i]).length ci)) ?_ (fun k _ => by rw [hw.heap]), ?_, ?_⟩, h.at_, ?_, h.apart, fun k e => by rw [hz]; exact h.lt k e, ?_⟩
    · exact h1
    · rw [swapG_length]; exact s2
    · intro k e
      obtain rfl : g = k := Option.some.inj e
      exact ⟨h3, h4⟩
    · intro k hk
      rw [swapG_length] at hk
      have hg := swapG_at hiL hjL k
      rw [atG_eq (by rw [swapG_length]; exact hk)] at hg
      have hkeep : ∀ {A : Option Addr} {xs : List Value}, SeesM (fun k => q k ∧ k ≠ P ∧ k ≠ g) w A xs → SeesM (fun k => q k ∧ k ≠ P ∧ (Value.slice (some ⟨g, 0, none⟩) L.length cap).ownBlock ≠ some k) w' A xs := fun hs =>
        (hs.keep (hkk.mono fun k e => e.2.2)).mono fun k e => ⟨e.1, e.2.1, fun e2 => e.2.2 (Option.some.inj e2).symm⟩
      rw [List.getElem?_set, List.length_set, List.getElem?_set]
      by_cases e1 : k = j
      · rw [if_pos e1, atG_eq hiL] at hg
        rw [hg, if_pos e1.symm, if_pos (by omega)]
        exact ⟨Ai, ci, rfl, i2, hkeep i3⟩
      · rw [if_neg e1] at hg
        rw [if_neg (fun e => e1 e.symm)]
        by_cases e2 : k = i
        · rw [if_pos e2, atG_eq hjL] at hg
          rw [hg, if_pos e2.symm, if_pos (by omega)]
          exact ⟨Aj, cj, rfl, j2, hkeep j3⟩
        · rw [if_neg e2, atG_eq hk] at hg
          rw [hg, if_neg (fun e => e2 e.symm)]
          obtain ⟨Ak, ck, k1, k2, k3⟩ := h6 k hk
          exact ⟨Ak, ck, k1, k2, hkeep k3⟩
    · intro r hr x hx
      exact (h.ok r ((swapG_perm hiL hjL).mem_iff.1 hr) x hx).keep (hkk.mono fun k e e2 => h.apart k e (e2 ▸ h3))
    · rw [swapG_length]; exact h.few
  · exact hw.turn ((Turn.setCell _ _ _ h3).trans (Turn.setCell _ _ _ h3))

set_option maxRecDepth 100000 in
set_option maxHeartbeats 400000 in
theorem pop_raw (w : World) (P g N cap : Nat) (xn _f : Value) (hN0 : 0 < N) (hN : N ≤ 1000000) (hcap : N ≤ cap) (_hPg : g ≠ P)
    (p0 : w.cell? ⟨P, 0, none⟩ = some (.slice (some ⟨g, 0, none⟩) N cap)) (cn : w.cell? ⟨g, N - 1, none⟩ = some xn) (f0 : w.frozen? ⟨P, 0, none⟩ = false) (on : ∃ a n c, xn = .slice a n c) :
    Calls Try.prog 107 #[.pointer (some ⟨P, 0, none⟩)] w fun e w' => (∃ v, e = .returned v) ∧ Alk w' (w.setCell ⟨P, 0, none⟩ (.slice (some ⟨g, 0, none⟩) (N - 1 : Nat) cap)) := by
  obtain ⟨an, nn, kn, rfl⟩ := on
  obtain ⟨j, hj⟩ : ∃ j, N - 1 = j := ⟨_, rfl⟩
  rw [hj] at cn ⊢
  have hsub : IntKind.i64.wrap ((N : Int) - 1) = (j : Int) := by rw [IntKind.wrap_i64]; omega
  have hjN : j < N := by omega
  have hsub2 : ((N : Int) - 1) = (j : Int) := by omega
  obtain rfl : N = j + 1 := by omega
  clear hj hsub hsub2
  go_enter Try.func107, Try.ntmps107
  go_wp2
  go_ret
  exact ⟨⟨_, rfl⟩, rfl, rfl, rfl, rfl⟩
theorem pop_any (h : RowsAt m q w base P L) (hL : L ≠ []) :
    Calls Try.prog 107 #[.pointer (some ⟨P, 0, none⟩)] w fun e w' => (∃ v, e = .returned v) ∧ RowsAt m q w' base P L.dropLast ∧ Turn q w w' := by
  have hpos : 0 < L.length := List.length_pos_iff.2 hL
  obtain ⟨g, cap, vs, h1, h2, h3, h4, h5, h6⟩ := h.some hpos
  obtain ⟨An, cn, n1, n2, n3⟩ := h6 (L.length - 1) (by omega)
  have en := World.ownsRow.cellAt h2 (L.length - 1) (by omega)
  have hvs : vs.length = L.length := by have := h2.1; omega
  have p0 := (cells_of h1 0).1
  have f0 := (cells_of h1 0).2
  simp only [List.getElem?_toArray, List.getElem?_cons_zero] at p0
  refine (pop_raw w P g L.length cap _ (.func (.func cmpF) #[] #[]) hpos h.few h5 h4 p0 (en.trans n1) f0 ⟨_, _, _, rfl⟩).mono fun e w' ⟨he, hw⟩ => ⟨he, ?_, ?_⟩
  · have hkk : Kept (fun k => k ≠ P) w w' := fun k hk => by
      rw [hw.heap]
      exact Below.heap_setCell _ _ _ _ hk
    have hz : w'.heap.size = w.heap.size := by rw [hw.heap]; simp
    have hn : L.length = (L.length - 1) + 1 := by omega
    have hrow : w.ownsRow base 30 1 (.slice (some ⟨g, 0, none⟩) (L.length - 1) cap) (L.length - 1) vs.dropLast := by
      have hx : vs = vs.dropLast ++ [vs.getLast (fun e => by rw [e] at hvs; simp at hvs; omega)] := (List.dropLast_concat_getLast _).symm
      have h2' := h2
      rw [hx] at h2'
      refine ownsRow_pop (last := [vs.getLast (fun e => by rw [e] at hvs; simp at hvs; omega)]) (by rw [List.length_dropLast]; omega) ?_
      rw [← hn]
      exact h2'
    refine ⟨⟨.slice (some ⟨g, 0, none⟩) (L.length - 1) cap, vs.dropLast, ?_, ?_, ?_, ?_⟩, h.at_, ?_, h.apart, fun k e => by rw [hz]; exact h.lt k e, by rw [List.length_dropLast]; have := h.few; omega⟩
    · rw [hw.heap]
      have hP := heap_setCell_same w P 0 _ _ (.slice (some ⟨g, 0, none⟩) (L.length - 1) cap) h1
      rw [hP]
      rfl
    · rw [List.length_dropLast]
      exact ownsRow_kept hrow fun k e => hkk k (by obtain rfl : g = k := Option.some.inj e; exact h4)
    · intro k e
      obtain rfl : g = k := Option.some.inj e
      exact ⟨h3, h4⟩
    · intro k hk
      rw [List.length_dropLast] at hk
      obtain ⟨Ak, ck, k1, k2, k3⟩ := h6 k (by omega)
      rw [List.getElem_dropLast, List.getElem?_dropLast, if_pos (by omega)]
      exact ⟨Ak, ck, k1, k2, (k3.keep (hkk.mono fun k e => e.2.1)).mono fun k e => ⟨e.1, e.2.1, fun e2 => e.2.2 (Option.some.inj e2).symm⟩⟩
    · intro r hr x hx
      exact (h.ok r ((List.dropLast_sublist L).subset hr) x hx).keep (hkk.mono fun k e e2 => h.apart k e (e2 ▸ h.at_))
  · exact hw.turn (Turn.setCell _ _ _ h.at_)

/-- What heap is asked over. -/
structure StAt (m q : Nat → Prop) (base P : Nat) (W0 : World) (L : List (List El)) (w : World) : Prop where
  rows : RowsAt m q w base P L
  turn : Turn q W0 w
theorem heapI (m q : Nat → Prop) (base P : Nat) (W0 : World) : HeapI 78 ⟨P, 0, none⟩ 105 106 108 107 (headLess lt key) (fun r => r ≠ []) (StAt m q base P W0) where
  wo := headLess_wo key ordr
  mN w := by kernel_rfl
  mL w := by kernel_rfl
  mS w := by kernel_rfl
  mP w := by kernel_rfl
  eN := enters_of Try.func105 (by kernel_rfl) rfl
  eL := enters_of Try.func106 (by kernel_rfl) rfl
  eS := enters_of Try.func108 (by kernel_rfl) rfl
  eP := enters_of Try.func107 (by kernel_rfl) rfl
  drew L w n h := ⟨h.rows.drewN n, h.turn.trans (Turn.drewN _ _)⟩
  few L w h := h.rows.few
  len L w h := len_any h.rows
  lss L w i j h h1 h2 h3 h4 n1 n2 := less_any h.rows i j h1 h2 h3 h4 n1 n2
  swp L w i j h h1 h2 h3 h4 := (swap_any h.rows i j h1 h2 h3 h4).mono fun e w' ⟨he, hr, ht⟩ => ⟨he, hr, h.turn.trans ht⟩
  pop L w h hL := (pop_any h.rows hL).mono fun e w' ⟨he, hr, ht⟩ => ⟨he, hr, h.turn.trans ht⟩
end
end Go.Proofs.Ytcfbblgoligagaa.KI
