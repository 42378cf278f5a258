/-
  Rows that are gone through at once: what they hold; their methods, walked.
-/
import Derived.Test.YtcfbblgoligagaaKmElB
import Derived.BigRegion
namespace Go.Proofs.Ytcfbblgoligagaa.KB
open Go.RowKit

/-- The rows, at P; what they hold in blocks of q, the things themselves in blocks of m. -/
structure RowsAt (m q : Nat → Prop) (w : World) (base P : Nat) (L : List (List El)) : Prop where
  out : ∃ (v : Value) (vs : List Value), w.heap[P]? = some (.cells #[v, .func (.func cmpF) #[] #[]] 72 (0, 0)) ∧ w.ownsRow base 26 1 v L.length vs ∧ (∀ k, v.ownBlock = some k → q k ∧ k ≠ P) ∧
    ∀ i (hi : i < L.length), ∃ Ai ci, vs[i]? = some (.slice Ai (L[i]).length ci) ∧ (L[i]).length ≤ ci ∧ SeesM (fun k => q k ∧ k ≠ P ∧ v.ownBlock ≠ some k) w Ai ((L[i]).map val)
  at_ : q P
  ok : ∀ r ∈ L, ∀ x ∈ r, EOk m w x
  apart : ∀ k, m k → ¬ q k
  lt : ∀ k, q k ∨ m k → k < w.heap.size
  few : L.length ≤ 1000000
section
variable {m q : Nat → Prop} {w w' : World} {base P : Nat} {L : List (List El)}
theorem RowsAt.keep (h : RowsAt m q w base P L) (hk : Kept (fun k => q k ∨ m k) w w') (hs : w.heap.size ≤ w'.heap.size) : RowsAt m q w' base P L := by
  obtain ⟨v, vs, h1, h2, h3, h4⟩ := h.out
  refine ⟨⟨v, vs, (hk P (.inl h.at_)).trans h1, ownsRow_kept h2 fun k e => hk k (.inl (h3 k e).1), h3, fun i hi => ?_⟩, h.at_, fun r hr x hx => (h.ok r hr x hx).keep (hk.mono fun k e => .inr e), h.apart, fun k e => Nat.lt_of_lt_of_le (h.lt k e) hs, h.few⟩
  obtain ⟨Ai, ci, g1, g2, g3⟩ := h4 i hi
  exact ⟨Ai, ci, g1, g2, g3.keep (hk.mono fun k e => .inl e.1)⟩
theorem RowsAt.drewN (h : RowsAt m q w base P L) (n : Nat) : RowsAt m q (w.drewN n) base P L := h.keep (Kept.drewN _ _ _) (Nat.le_refl _)

/-- Some rows: how they lie. -/
theorem RowsAt.some (h : RowsAt m q w base P L) (hL : 0 < L.length) : ∃ g cap vs, w.heap[P]? = some (.cells #[.slice (some ⟨g, 0, none⟩) L.length cap, .func (.func cmpF) #[] #[]] 72 (0, 0)) ∧ w.ownsRow base 26 1 (.slice (some ⟨g, 0, none⟩) L.length cap) L.length vs ∧ q g ∧ g ≠ P ∧ L.length ≤ cap ∧
    ∀ i (hi : i < L.length), ∃ Ai ci, vs[i]? = some (.slice Ai (L[i]).length ci) ∧ (L[i]).length ≤ ci ∧ SeesM (fun k => q k ∧ k ≠ P ∧ k ≠ g) w Ai ((L[i]).map val) := by
  obtain ⟨v, vs, h1, h2, h3, h4⟩ := h.out
  rcases h2.2 with ⟨rfl, hn⟩ | ⟨g, cap, cur, rfl, -, -, hc, -⟩
  · omega
  · refine ⟨g, cap, vs, h1, h2, (h3 g rfl).1, (h3 g rfl).2, hc, fun i hi => ?_⟩
    obtain ⟨Ai, ci, g1, g2, g3⟩ := h4 i hi
    exact ⟨Ai, ci, g1, g2, g3.mono fun k e => ⟨e.1, e.2.1, fun e2 => e.2.2 (by rw [e2]; rfl)⟩⟩
theorem cells_of {g : Nat} {cs : Array Value} {t : TypeId} (h : w.heap[g]? = some (.cells cs t (0, 0))) (j : Nat) : w.cell? ⟨g, j, none⟩ = cs[j]? ∧ w.frozen? ⟨g, j, none⟩ = false := by
  simp [World.cell?, World.frozen?, h]

set_option maxRecDepth 100000 in
set_option maxHeartbeats 400000 in
theorem len_any (h : RowsAt m q w base P L) : Calls Try.prog 101 #[.pointer (some ⟨P, 0, none⟩)] w fun e w' => e = .returned (.int .i64 (L.length : Nat)) ∧ w = w' := by
  obtain ⟨v, vs, h1, h2, h3, h4⟩ := h.out
  have hc0 := (cells_of h1 0).1
  have hsl : ∃ A c, v = .slice A L.length c := by
    rcases h2.2 with ⟨rfl, hn⟩ | ⟨g, cap, cur, rfl, -⟩
    · exact ⟨none, 0, by rw [hn]⟩
    · exact ⟨_, cap, rfl⟩
  obtain ⟨A, c, rfl⟩ := hsl
  simp only [List.getElem?_toArray, List.getElem?_cons_zero] at hc0
  clear h1 h2 h3 h4 h
  go_enter Try.func101, Try.ntmps101
  go_wp2
  go_ret
  exact ⟨rfl, rfl⟩

set_option maxRecDepth 100000 in
set_option maxHeartbeats 800000 in
theorem less_any (h : RowsAt m q w base P L) (i j : Int) (hi0 : 0 ≤ i) (hi : i < (L.length : Nat)) (hj0 : 0 ≤ j) (hj : j < (L.length : Nat)) (hri : atG L i.toNat ≠ []) (hrj : atG L j.toNat ≠ []) :
    Calls Try.prog 102 #[.pointer (some ⟨P, 0, none⟩), .int .i64 i, .int .i64 j] w (BoolIs w (headLess lt key (atG L i.toNat) (atG L j.toNat))) := by
  obtain ⟨i, rfl⟩ := Int.eq_ofNat_of_zero_le hi0
  obtain ⟨j, rfl⟩ := Int.eq_ofNat_of_zero_le hj0
  rw [Int.toNat_natCast] at hri hrj
  rw [Int.toNat_natCast, Int.toNat_natCast]
  have hiL : i < L.length := by omega
  have hjL : j < L.length := by omega
  obtain ⟨g, cap, vs, h1, h2, h3, h4, h5, h6⟩ := h.some (by omega)
  obtain ⟨Ai, ci, i1, i2, i3⟩ := h6 i hiL
  obtain ⟨Aj, cj, j1, j2, j3⟩ := h6 j hjL
  rw [atG_eq hiL] at hri
  rw [atG_eq hjL] at hrj
  have hoi := h.ok _ (List.getElem_mem hiL)
  have hoj := h.ok _ (List.getElem_mem hjL)
  rw [atG_eq hiL, atG_eq hjL]
  have ei := World.ownsRow.cellAt h2 i (by omega)
  have ej := World.ownsRow.cellAt h2 j (by omega)
  rw [i1] at ei
  rw [j1] at ej
  generalize L[i] = ri at *
  generalize L[j] = rj at *
  cases ri with
  | nil => exact absurd rfl hri
  | cons x ri =>
    cases rj with
    | nil => exact absurd rfl hrj
    | cons y rj =>
      have hmlt : ∀ k, m k → k < w.heap.size := fun k e => h.lt k (.inr e)
      have hcmp := fun n => Lib.hid (cmp_any (m := m) x y (w.drewN n) ((hoi x (by simp)).keep (Kept.drewN _ _ _)) ((hoj y (by simp)).keep (Kept.drewN _ _ _)) hmlt)
      have hres : headLess lt key (x :: ri) (y :: rj) = decide (cmpI x y < 0) := (cmp_neg x y).symm
      rw [hres]
      have ii : 0 < (ri.length + 1 : Nat) := by omega
      obtain ⟨adi, rfl, -, xi⟩ : ∃ ad, Ai = some ad ∧ True ∧ w.cell? ad = some (val x) := by
        rcases i3.out with e | ⟨ad, e1, -, e2⟩
        · simp at e
        · have := e2 0 (val x) (by simp)
          exact ⟨ad, e1, trivial, by simpa [Addr.add] using this⟩
      obtain ⟨adj, rfl, -, xj⟩ : ∃ ad, Aj = some ad ∧ True ∧ w.cell? ad = some (val y) := by
        rcases j3.out with e | ⟨ad, e1, -, e2⟩
        · simp at e
        · have := e2 0 (val y) (by simp)
          exact ⟨ad, e1, trivial, by simpa [Addr.add] using this⟩
      have p0 := (cells_of h1 0).1
      have p1 := (cells_of h1 1).1
      simp only [List.getElem?_toArray, List.getElem?_cons_zero, List.getElem?_cons_succ] at p0 p1
      obtain ⟨N, hN⟩ : ∃ N, L.length = N := ⟨_, rfl⟩
      rw [hN] at p0 h5 hi hj
      simp only [List.length_cons] at ei ej i2 j2
      generalize cmpI x y = r at hcmp ⊢
      generalize val x = vx at hcmp xi
      generalize val y = vy at hcmp xj
      unfold cmpF at p1 hcmp
      clear hN h1 h2 h6 i3 j3 hri hrj hoi hoj hres hiL hjL i1 j1 h hmlt hi0 hj0
      go_enter Try.func102, Try.ntmps102
      go_wp2
      go_quiet ((refine (hcmp _).out.mono ?_; rintro e w' ⟨rfl, rfl⟩; exact ⟨rfl, _, rfl⟩))
      go_wp2
      go_ret
      exact ⟨rfl, _, rfl⟩
end
end Go.Proofs.Ytcfbblgoligagaa.KB
