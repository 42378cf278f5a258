/-
  items.Unpack's memory: what is left, the first error, what the call owns.
-/
import Derived.Test.YtnjchdehjinooaaItNumber
import Derived.Test.YtnjchdehjinooaaRowOwn
namespace Go.Proofs.Ytnjchdehjinooaa
open Go.RowKit

/-- Bytes that are seen in blocks other than b and the one behind it. -/
structure SeesX (w : World) (b : Nat) (A : Option Addr) (xs : List Value) : Prop where
  out : xs = [] ∨ ∃ ad, A = some ad ∧ ad.block < w.heap.size ∧ (ad.block < b ∨ b + 1 < ad.block) ∧ ∀ j u, xs[j]? = some u → w.cell? (ad.add j) = some u
theorem SeesX.sees {w : World} {b : Nat} {A : Option Addr} {xs : List Value} (h : SeesX w b A xs) : Sees w w.heap.size A xs := by
  rcases h.out with h | ⟨ad, e, h1, _, h2⟩
  · exact ⟨.inl h⟩
  · exact ⟨.inr ⟨ad, e, h1, h2⟩⟩
theorem SeesX.kept {w w' : World} {b : Nat} {A : Option Addr} {xs : List Value} (h : SeesX w b A xs) (hs : w.heap.size ≤ w'.heap.size) (hk : ∀ k, k < w.heap.size → (k < b ∨ b + 1 < k) → w'.heap[k]? = w.heap[k]?) : SeesX w' b A xs := by
  rcases h.out with h | ⟨ad, e, h1, h3, h2⟩
  · exact ⟨.inl h⟩
  · exact ⟨.inr ⟨ad, e, by omega, h3, fun j u hu => (World.cell?_of_block (a := ad.add j) (by rw [add_block]; exact hk _ h1 h3)).trans (h2 j u hu)⟩⟩
theorem SeesX.cut {w : World} {b : Nat} {A : Option Addr} {xs : List Value} (h : SeesX w b A xs) {k cap : Nat} (hc : xs.length ≤ cap) : SeesX w b (if cap = k then A else A.map (fun x => x.add k)) (xs.drop k) := by
  by_cases hk : k < xs.length
  · rcases h.out with h | ⟨ad, rfl, h1, h3, hcell⟩
    · subst h; simp at hk
    · rw [if_neg (by omega)]
      refine ⟨.inr ⟨ad.add k, rfl, by rw [add_block]; exact h1, by rw [add_block]; exact h3, fun j u hu => ?_⟩⟩
      rw [add_add']
      exact hcell _ u (by rw [← hu, List.getElem?_drop])
  · exact ⟨.inl (List.drop_eq_nil_of_le (by omega))⟩
theorem sees2_pair (w : World) (A1 A2 : Option Addr) (n1 n2 c1 c2 : Nat) (l1 l2 : List UInt8) (h1 : l1.length = n1) (h2 : l2.length = n2) (hc1 : n1 ≤ c1) (hc2 : n2 ≤ c2) (hs1 : Sees w w.heap.size A1 (bv l1)) (hs2 : Sees w w.heap.size A2 (bv l2)) (t : TypeId) :
    Sees2 (w.alloc (.cells #[.slice A1 n1 c1, .slice A2 n2 c2] t)) (w.alloc (.cells #[.slice A1 n1 c1, .slice A2 n2 c2] t)).heap.size (some ⟨w.heap.size, 0, none⟩) [l1, l2] := by
  subst h1
  subst h2
  refine ⟨fun i hi => ?_⟩
  match i, hi with
  | 0, _ => exact ⟨_, A1, c1, rfl, by simp, by rw [Addr.add_lit, World.cell?_alloc_at _ _ _ _ rfl]; rfl, hc1, (hs1.alloc (Nat.le_refl _) _).more (by simp)⟩
  | 1, _ => exact ⟨_, A2, c2, rfl, by simp, by rw [Addr.add_lit, World.cell?_alloc_at _ _ _ _ rfl]; rfl, hc2, (hs2.alloc (Nat.le_refl _) _).more (by simp)⟩
theorem SeesX.of_sees {w : World} {b : Nat} {A : Option Addr} {xs : List Value} (h : Sees w b A xs) (hb : b ≤ w.heap.size) : SeesX w b A xs := by
  rcases h.out with h | ⟨ad, e, h1, h2⟩
  · exact ⟨.inl h⟩
  · exact ⟨.inr ⟨ad, e, by omega, .inl h1, h2⟩⟩
theorem SeesX.of_own {w : World} {base b : Nat} {v : Value} {A : Option Addr} {n c : Nat} {l : List UInt8} (h : OwnB w base v l) (hv : v = .slice A n c) (hb : b + 1 < base) : SeesX w b A (bv l) := by
  rcases (SeesN.of_own h hv none (by simp)).out with h | ⟨ad, e, h0, h1, _, h2⟩
  · exact ⟨.inl h⟩
  · exact ⟨.inr ⟨ad, e, h1, .inr (by omega), h2⟩⟩

theorem SeesX.kept2 {w w' : World} {b : Nat} {A : Option Addr} {xs : List Value} {ob : Option Nat} (h : SeesX w b A xs) (hA : ∀ ad : Addr, A = some ad → some ad.block ≠ ob) (hs : w.heap.size ≤ w'.heap.size) (hk : ∀ k, k < w.heap.size → some k ≠ ob → w'.heap[k]? = w.heap[k]?) : SeesX w' b A xs := by
  rcases h.out with h | ⟨ad, e, h1, h3, h2⟩
  · exact ⟨.inl h⟩
  · exact ⟨.inr ⟨ad, e, by omega, h3, fun j u hu => (World.cell?_of_block (a := ad.add j) (by rw [add_block]; exact hk _ h1 (hA _ e))).trans (h2 j u hu)⟩⟩

/-- From block B on, nothing has turned. -/
structure Later (B : Nat) (w w' : World) : Prop where
  size : w.heap.size ≤ w'.heap.size
  block : ∀ k, B ≤ k → k < w.heap.size → w'.heap[k]? = w.heap[k]?
theorem Later.refl (B : Nat) (w : World) : Later B w w := ⟨Nat.le_refl _, fun _ _ _ => rfl⟩
theorem Later.trans {B : Nat} {w w' w'' : World} (h : Later B w w') (k : Later B w' w'') : Later B w w'' :=
  ⟨Nat.le_trans h.size k.size, fun i h1 h2 => (k.block i h1 (Nat.lt_of_lt_of_le h2 h.size)).trans (h.block i h1 h2)⟩
theorem Later.of_below {B : Nat} {w w' : World} (h : Below w.heap.size w w') : Later B w w' := ⟨h.size, fun k _ hk => h.block k hk⟩
theorem SeesN.later {w w' : World} {base : Nat} {ob : Option Nat} {A : Option Addr} {xs : List Value} (h : SeesN w base ob A xs) (hl : Later base w w') : SeesN w' base ob A xs :=
  h.kept ob hl.size (fun b h0 h1 _ => hl.block b h0 h1) (fun _ _ _ h => h)
theorem OwnS.later {w w' : World} {base : Nat} {v : Value} {ls : List (List UInt8)} (h : OwnS w base v ls) (hl : Later base w w') : OwnS w' base v ls := by
  obtain ⟨vs, h1, h2⟩ := h.out
  refine ⟨vs, ⟨h1.1, ?_⟩, fun i hi => ?_⟩
  · rcases h1.2 with h3 | ⟨g, cap, cur, hv, hg, hh, r⟩
    · exact .inl h3
    · exact .inr ⟨g, cap, cur, hv, hg, (hl.block g hg (Array.getElem?_eq_some_iff.1 hh).1).trans hh, r⟩
  · obtain ⟨Ai, ci, h3, h4, h5⟩ := h2 i hi
    exact ⟨Ai, ci, h3, h4, h5.later hl⟩

/-- The two captured variables' blocks, just behind what lay in w0: what is left, the first error. -/
structure St (w0 w : World) (A : Option Addr) (n c : Nat) (r : List UInt8) (e : Nat) : Prop where
  err : OneErr w (w0.heap.size + 1) e
  row : OneRow w w0.heap.size A n c
  len : r.length = n
  nc : n ≤ c
  small : n ≤ 1000000
  sees : SeesX w w0.heap.size A (bv r)
  below : Below w0.heap.size w0 w

section
variable {w0 w : World} {A : Option Addr} {n c : Nat} {r : List UInt8} {e : Nat}
theorem St.size (h : St w0 w A n c r e) : w0.heap.size + 2 ≤ w.heap.size := lt_of_block h.err
theorem St.keep (h : St w0 w A n c r e) {w1 : World} (hb : Below w.heap.size w w1) : St w0 w1 A n c r e := by
  have hs := h.size
  exact ⟨(hb.block _ (by omega)).trans h.err, (hb.block _ (by omega)).trans h.row, h.len, h.nc, h.small, h.sees.kept hb.size (fun k hk _ => hb.block k hk), h.below.trans (hb.mono (by omega))⟩
theorem St.setErr (h : St w0 w A n c r e) (e' : Nat) : St w0 (w.setCell ⟨w0.heap.size + 1, 0, none⟩ (.int .i64 (e' : Nat))) A n c r e' := by
  have hs := h.size
  refine ⟨one_setCell h.err, ?_, h.len, h.nc, h.small, h.sees.kept (by rw [World.size_setCell]; exact Nat.le_refl _) (fun k _ hk => Below.heap_setCell _ _ _ _ (by simp only; omega)), h.below.trans ?_⟩
  · exact (Below.heap_setCell _ _ _ _ (by simp only; omega)).trans h.row
  · exact ⟨rfl, rfl, rfl, by rw [World.size_setCell]; exact Nat.le_refl _, fun k hk => Below.heap_setCell _ _ _ _ (by simp only; omega)⟩
theorem St.grown (h : St w0 w A n c r e) {w' : World} {ob : Option Nat} (hg : w.grownBy w' ob) (hob : ∀ k, ob = some k → w0.heap.size + 2 ≤ k) (hA : ∀ ad : Addr, A = some ad → some ad.block ≠ ob) : St w0 w' A n c r e := by
  have hs := h.size
  have hne : ∀ k, k < w0.heap.size + 2 → some k ≠ ob := fun k hk e => by have := hob k e.symm; omega
  exact ⟨(hg.block _ (by omega) (hne _ (by omega))).trans h.err, (hg.block _ (by omega) (hne _ (by omega))).trans h.row, h.len, h.nc, h.small, h.sees.kept2 hA hg.size (fun k hk h2 => hg.block k hk h2), h.below.trans ((Below.refl _ w).grown hg (by omega) (fun k hk => by have := hob k hk; omega))⟩
theorem later_setCell (B : Nat) (w : World) (a : Addr) (u : Value) (h : a.block < B) : Later B w (w.setCell a u) :=
  ⟨by rw [World.size_setCell]; exact Nat.le_refl _, fun k h1 _ => Below.heap_setCell _ _ _ _ (by omega)⟩
theorem St.setRow (h : St w0 w A n c r e) {A' : Option Addr} {c' : Nat} {r' : List UInt8} (hc : r'.length ≤ c') (hs' : r'.length ≤ 1000000) (hx : SeesX w w0.heap.size A' (bv r')) : St w0 (w.setCell ⟨w0.heap.size, 0, none⟩ (.slice A' r'.length c')) A' r'.length c' r' e := by
  have hs := h.size
  refine ⟨(Below.heap_setCell _ _ _ _ (by simp only; omega)).trans h.err, one_setCell h.row, rfl, hc, hs', hx.kept (by rw [World.size_setCell]; exact Nat.le_refl _) (fun k _ hk => Below.heap_setCell _ _ _ _ (by simp only; omega)), h.below.trans ?_⟩
  exact ⟨rfl, rfl, rfl, by rw [World.size_setCell]; exact Nat.le_refl _, fun k hk => Below.heap_setCell _ _ _ _ (by simp only; omega)⟩

theorem St.num_idle (h : St w0 w A n c r e) (he : e ≠ 0) :
    Calls Try.prog 21 #[ptrTo (w0.heap.size + 1), ptrTo w0.heap.size] w fun en w' => en = .returned (.int .i64 0) ∧ w = w' := number_idle _ _ e he w h.err

def StErr (w0 w : World) (A : Option Addr) (n c : Nat) (r : List UInt8) (e : Nat) (en : Ending) (w' : World) : Prop := en = .returned (.int .i64 0) ∧ St w0 w' A n c r e ∧ Later (w0.heap.size + 2) w w'
def StOk (w0 w : World) (u : Nat) (r : List UInt8) (en : Ending) (w' : World) : Prop := en = .returned (.int .i64 (u : Nat)) ∧ ∃ A c, St w0 w' A r.length c r 0 ∧ Later (w0.heap.size + 2) w w' ∧ ∀ ad : Addr, A = some ad → w.heap.size ≤ ad.block

theorem St.num_err (h : St w0 w A n c r 0) (e : Nat) (he : (numR r).2.2 = e) (he0 : e ≠ 0) :
    Calls Try.prog 21 #[ptrTo (w0.heap.size + 1), ptrTo w0.heap.size] w (StErr w0 w A n c r e) := by
  refine (number_err _ _ A n c r h.len h.nc h.small w h.err h.row h.sees.sees e he he0).mono ?_
  rintro en w' ⟨rfl, w1, hb, rfl⟩
  exact ⟨rfl, (h.keep hb).setErr e, (Later.of_below hb).trans (later_setCell _ _ _ _ (by simp))⟩
theorem numR_len (l : List UInt8) : (numR l).2.1.length ≤ l.length ∧ (numR l).1 ≤ 400 := by
  unfold numR
  split
  · simp
  · split
    · simp
    · simp only [List.length_drop]; omega
theorem St.num_ok (h : St w0 w A n c r 0) (u : Nat) (r' : List UInt8) (he : numR r = (u, r', 0)) :
    Calls Try.prog 21 #[ptrTo (w0.heap.size + 1), ptrTo w0.heap.size] w (StOk w0 w u r') := by
  have hs := h.size
  refine (number_ok _ _ A n c r h.len h.nc h.small w h.err h.row h.sees.sees u r' he).mono ?_
  rintro en w' ⟨rfl, w1, v, hb, hown, rfl⟩
  obtain ⟨A1, c1, rfl, hc1, hm1, hown', hs1⟩ := hown.open_
  have hl := (numR_len r).1
  rw [he] at hl
  refine ⟨rfl, A1, c1, (h.keep hb).setRow hc1 ?_ (SeesX.of_own hown' rfl (by omega)), (Later.of_below hb).trans (later_setCell _ _ _ _ (by simp)), fun ad e => by subst e; exact ((World.ownsRow.lt hown') _ rfl).1⟩
  have := h.small
  have := h.len
  simp only at hl
  omega
end
end Go.Proofs.Ytnjchdehjinooaa
