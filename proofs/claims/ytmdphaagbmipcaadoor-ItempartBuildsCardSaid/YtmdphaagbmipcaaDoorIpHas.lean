/-
  Has, From, Prefix: loops over a part's items from one on.
-/
import Derived.Test.YtmdphaagbmipcaaDoorIpFrom1
import Derived.RangeFuncBox
namespace Go.Proofs.YtmdphaagbmipcaaDoor
open Go.RowKit Go.Shelf

attribute [local go_sem] Oper.semAt_some

/-- Whatever boxes hold a part (or none) and an item, the iterator tells Y. -/
def SeqFrom (w : World) (p : Option Addr) (Bx : Option Addr) (lx dx : Nat) (Y : List Item) : Prop :=
  ∀ (W : World) (B1 B2 n : Nat), Below w.heap.size w W → W.cell? ⟨B1, 0, none⟩ = some (.pointer p) → W.cell? ⟨B2, 0, none⟩ = some (.slice Bx lx dx) → B1 < W.heap.size → B2 < W.heap.size →
    SeqT Fence.wide n Tryd.prog 62 #[.pointer (some ⟨B1, 0, none⟩), .pointer (some ⟨B2, 0, none⟩)] Told.vals (fun k => k < w.heap.size ∨ k = B1 ∨ k = B2) (fun _ => False) (FromOk w.heap.size Y) (fun xs => xs.map (·.1) = Y) (fun pre => pre.map (·.1) <+: Y) Y.length W
theorem seqFrom_part {m : Nat → Prop} {w : World} {P : Nat} {ls : List Item} (h : PartAt m w P ls) (hm : ∀ k, m k → k < w.heap.size) (x : Item) (Bx : Option Addr) (lx dx : Nat) (hx : Sees w w.heap.size Bx (bv x)) (hxl : x.length = lx) : SeqFrom w (some ⟨P, 0, none⟩) Bx lx dx (fromY ls x) :=
  fun W B1 B2 n hW h1 h2 hB1 hB2 => from1_seq (h.keep (Kept.of_below hW hm)) w.heap.size hm x Bx lx dx (hx.below hW) hxl B1 B2 h1 h2 hB1 hB2 hW.size n
theorem seqFrom_nil (w : World) (Bx : Option Addr) (lx dx : Nat) : SeqFrom w none Bx lx dx [] := by
  intro W0 B1 B2 n hW0 h1 h2 hB1 hB2 l J Jx W hW hJ hJx hY h0
  have h1W := (hW.cell (p := ⟨B1, 0, none⟩) hB1).trans h1
  have hL := Lib.hid (Len_nil W)
  clear hW0 h1 h2 hY
  refine callsIn_of_wp Tryd.func62 rfl trivial ?_ rfl
  simp only [Tryd.ntmps62, List.size_toArray, List.length_cons, List.length_nil, Nat.reduceAdd, Nat.reduceSub, Array.replicate_succ, Array.replicate_zero, List.push_toArray, List.append_toArray, List.nil_append, List.cons_append]
  gi_wp2_with fail
  refine ⟨trivial, fun h => absurd h (by simp [Fence.wide]), (callsIn_wide.2 hL.out).mono ?_⟩
  rintro e w1 ⟨rfl, rfl⟩
  gi_wp2_with fail
  refine bodyPost_ret (results_none rfl _ _ _) rfl ?_
  exact ⟨⟨_, rfl⟩, .inl ⟨_, [], rfl, h0⟩⟩

theorem fromOk_keep {n0 : Nat} {Y : List Item} {s : Nat → Prop} {D : Nat} {pre : List Told} {y : Told} {A B : World} (h : FromOk n0 Y s pre y A) (hn0 : n0 ≤ D) (ht : Turn (fun k => k = D ∨ k = D + 1) A B) : FromOk n0 Y s pre y B :=
  ⟨h.1.keep (Kept.of_turn ht fun k hk => ⟨Nat.lt_of_lt_of_le hk h.2.2.2, by rintro (e | e) <;> omega⟩), h.2.1, h.2.2.1, Nat.le_trans h.2.2.2 ht.size⟩

set_option maxRecDepth 100000 in
set_option maxHeartbeats 3200000 in
theorem Has_of (w : World) (p : Option Addr) (Bx : Option Addr) (lx dx : Nat) (x : Item) (Y : List Item) (hx : Sees w w.heap.size Bx (bv x)) (hxl : x.length = lx) (hseq : SeqFrom w p Bx lx dx Y) :
    Calls Tryd.prog 22 #[.pointer p, .slice Bx lx dx] w (Gives w (.bool (decide (Y.head? = some x)))) := by
  refine (callsIn_wide (n := 5)).1 ?_
  have HX := Lib.hid hx
  have HXL := Lib.hid hxl
  clear hx hxl
  have hF := fun W => Lib.hid (from_any p Bx lx dx W)
  refine callsIn_of_wp_marks Tryd.func22 rfl trivial ?_ rfl
  simp only [Tryd.ntmps22, List.size_toArray, List.length_cons, List.length_nil, Nat.reduceAdd, Nat.reduceSub, Array.replicate_succ, Array.replicate_zero, List.push_toArray, List.append_toArray, List.nil_append, List.cons_append]
  gi_wp2_with fail
  refine ⟨trivial, (callsIn_wide.2 (hF _).out).mono ?_⟩
  rintro e w1 ⟨rfl, hw1⟩
  have b0 := Box1.new w 23 (.slice Bx lx dx)
  have b1 := Box1.new (w.alloc (.cells #[.slice Bx lx dx] 23)) 4 (.bool false)
  have hb0 : Below w.heap.size w ((w.alloc (.cells #[.slice Bx lx dx] 23)).alloc (.cells #[.bool false] 4)) := ((Below.refl _ w).alloc (Nat.le_refl _) _).alloc (by simp) _
  have hz0 : ((w.alloc (.cells #[.slice Bx lx dx] 23)).alloc (.cells #[.bool false] 4)).heap.size = w.heap.size + 1 + 1 := by simp
  have b0' := b0.alloc (.cells #[.bool false] 4)
  rw [World.size_alloc] at b1
  generalize (w.alloc (.cells #[.slice Bx lx dx] 23)).alloc (.cells #[.bool false] 4) = Wa at b0' b1 hb0 hz0 hw1 ⊢
  clear b0
  have b2 := (Box1.new Wa 29 (.pointer p)).alloc (.cells #[.slice Bx lx dx] 23)
  have b3 := Box1.new (Wa.alloc (.cells #[.pointer p] 29)) 23 (.slice Bx lx dx)
  rw [← hw1] at b2 b3
  have hb1 : Below Wa.heap.size Wa w1 := by rw [hw1]; exact ((Below.refl _ Wa).alloc (Nat.le_refl _) _).alloc (by simp) _
  have hz1 : w1.heap.size = w.heap.size + 1 + 1 + 1 + 1 := by rw [hw1]; simp [hz0]
  rw [World.size_alloc, hz0] at b3
  rw [hz0] at b2
  have c0 := Box1.turn b0' (Turn.of_new (T := fun _ => False) hb1) (fun h => h)
  have c1 := Box1.turn b1 (Turn.of_new (T := fun _ => False) hb1) (fun h => h)
  have hbw : Below w.heap.size w w1 := hb0.trans (hb1.mono (by omega))
  have hD := hseq w1 (w.heap.size + 1 + 1) (w.heap.size + 1 + 1 + 1) 4 hbw b2.cell b3.cell (by omega) (by omega)
  clear hw1 b0' b1 hb0 hb1 b2 b3
  rw [hz0]
  gi_wp2_with fail
  refine wpIn_rangeFunc_T (F := Fence.wide) (n := 5) rfl (by omega) (gf := 62) (lb := #[.pointer (some ⟨w.heap.size + 1 + 1, 0, none⟩), .pointer (some ⟨w.heap.size + 1 + 1 + 1, 0, none⟩)]) rfl trivial (enters_of Tryd.func62 (by kernel_rfl) rfl)
    hD (Below.refl _ _) (fun _ => rfl) (fun k hk => by rcases hk with (hk | rfl | rfl) | hk <;> first | omega | exact hk.elim)
    (fun s pre y A B h hR ht => fromOk_keep h (by omega) ht)
    (fun s pre W => pre = [] ∧ (∀ k, s k → w.heap.size + 1 + 1 + 1 + 1 ≤ k) ∧ Below w.heap.size w W ∧ w1.heap.size ≤ W.heap.size ∧ Box1 W w.heap.size 23 (.slice Bx lx dx) ∧ Box1 W (w.heap.size + 1) 4 (.bool false))
    (fun c s pre W => c = .ret ∧ (∃ y, Y.head? = some y.1 ∧ pre = [y] ∧ Box1 W (w.heap.size + 1) 4 (.bool (decide (y.1 = x)))) ∧ (∀ k, s k → w.heap.size + 1 + 1 + 1 + 1 ≤ k) ∧ Below w.heap.size w W ∧ w1.heap.size ≤ W.heap.size)
    ?hI ?hIx ?hI2 ?hIx2 ?h0 (fun y => { tmps := #[.pointer p, .slice Bx lx dx, undef, .pointer (some ⟨w.heap.size, 0, none⟩), .pointer (some ⟨w.heap.size + 1, 0, none⟩), .slice y.2.1 y.1.length y.2.2, .pointer p, .slice Bx lx dx, .func (.func 62) #[] #[.pointer (some ⟨w.heap.size + 1 + 1, 0, none⟩), .pointer (some ⟨w.heap.size + 1 + 1 + 1, 0, none⟩)], .slice y.2.1 y.1.length y.2.2, undef, undef, undef], defers := [] }) ?assign ?body ?done ?stop
  case hI =>
    rintro s pre A B ⟨h1, h2, h3, h4, h5, h6⟩ ht
    have hA : ∀ k, grown s A B k → w.heap.size + 1 + 1 + 1 + 1 ≤ k := fun k hk => by rcases hk with hk | hk; exact h2 k hk; omega
    exact ⟨h1, hA, h3.trans (ht.below (fun j hj => by have := h2 j hj; omega) h3.size), Nat.le_trans h4 ht.size, h5.turn ht (fun e => by have := h2 _ e; omega), h6.turn ht (fun e => by have := h2 _ e; omega)⟩
  case hIx =>
    rintro c s pre A B ⟨h1, ⟨y, g1, g2, g3⟩, h2, h3, h4⟩ ht
    have hA : ∀ k, grown s A B k → w.heap.size + 1 + 1 + 1 + 1 ≤ k := fun k hk => by rcases hk with hk | hk; exact h2 k hk; omega
    exact ⟨h1, ⟨y, g1, g2, g3.turn ht (fun e => by have := h2 _ e; omega)⟩, hA, h3.trans (ht.below (fun j hj => by have := h2 j hj; omega) h3.size), Nat.le_trans h4 ht.size⟩
  case hI2 =>
    rintro s pre A B ⟨h1, h2, h3, h4, h5, h6⟩ ht
    exact ⟨h1, h2, h3.trans (ht.below (fun j hj => by omega) h3.size), Nat.le_trans h4 ht.size, h5.turn ht (by omega), h6.turn ht (by omega)⟩
  case hIx2 =>
    rintro c s pre A B ⟨h1, ⟨y, g1, g2, g3⟩, h2, h3, h4⟩ ht
    exact ⟨h1, ⟨y, g1, g2, g3.turn ht (by omega)⟩, h2, h3.trans (ht.below (fun j hj => by omega) h3.size), Nat.le_trans h4 ht.size⟩
  case h0 => exact ⟨rfl, fun k hk => hk.elim, hbw, Nat.le_refl _, c0, c1⟩
  case assign =>
    intro l y W K hK
    dsimp only [Told.vals]
    gi_wp2
    exact hK
  case body =>
    rintro l s pre y W ⟨rfl, h2, h3, h4, h5, h6⟩ hlt ⟨g1, g2, g3, g4⟩ hdW
    have hc5 := h5.cell
    have hc6 := h6.cell
    have hf6 := h6.frozen
    have hEq := Lib.hid (BytesEqual_any y.2.1 Bx y.1.length lx y.2.2 dx y.1 x rfl HXL.out W (g1.sees (fun k hk => by omega)) ((HX.out.below h3).more h3.size))
    gi_wp2_with fail
    refine ⟨trivial, (CallsIn.inRound l (callsIn_wide.2 hEq.out)).mono ?_⟩
    rintro e w2 ⟨rfl, rfl⟩
    gi_wp2_with fail
    have hhd : Y.head? = some y.1 := by
      obtain ⟨t, ht⟩ := g3
      rw [← ht]; simp
    refine ⟨Turn.setCell _ _ _ ⟨fun e => by have := h2 _ e; simp only at this; omega, by simp only; omega, by simp only; omega, by simp only; omega⟩, rfl, ⟨y, hhd, rfl, h6.set _⟩, h2, h3.setCell (p := ⟨w.heap.size + 1, 0, none⟩) (by simp) _, by rw [World.size_setCell]; exact h4⟩
  case done =>
    rintro s xs W hS ⟨rfl, h2, h3, h4, h5, h6⟩ hK
    have hc6 := h6.cell
    have hf6 := h6.frozen
    have hY0 : Y = [] := by simpa using hS.symm
    gi_wp2_with fail
    have ht : Turn (fun k => k = w.heap.size + 1) W (W.setCell ⟨w.heap.size + 1, 0, none⟩ (.bool false)) := Turn.setCell _ _ _ rfl
    have hK' := (ht.block _ (Array.getElem?_eq_some_iff.1 hK).1 (by omega)).trans hK
    refine ⟨by simp, .inl ⟨_, _, rfl, run_takeDeferred hK', ?_⟩⟩
    have hb7 := (h6.set (.bool false)).turn (Turn.putObj _ w1.heap.size (.deferred none) (T := fun k => k = w1.heap.size) rfl) (by omega)
    have hc7 := hb7.cell
    refine ⟨.bool false, ?_, by rw [hY0]; rfl, (h3.setCell (p := ⟨w.heap.size + 1, 0, none⟩) (by simp) _).trans ((Turn.putObj _ w1.heap.size (.deferred none) (T := fun k => k = w1.heap.size) rfl).below (fun j hj => by omega) (by rw [World.size_setCell]; exact h3.size))⟩
    simp [results, Tryd.f22, go_sem, hc7]
  case stop =>
    rintro c s pre W hS ⟨rfl, ⟨y, g1, rfl, g3⟩, h2, h3, h4⟩ hK
    gi_wp2_with fail
    refine ⟨by simp, .inl ⟨_, _, rfl, run_takeDeferred hK, ?_⟩⟩
    have hb7 := g3.turn (Turn.putObj _ w1.heap.size (.deferred none) (T := fun k => k = w1.heap.size) rfl) (by omega)
    have hc7 := hb7.cell
    refine ⟨.bool (decide (y.1 = x)), ?_, by rw [g1]; simp, h3.trans ((Turn.putObj _ w1.heap.size (.deferred none) (T := fun k => k = w1.heap.size) rfl).below (fun j hj => by omega) h3.size)⟩
    simp [results, Tryd.f22, go_sem, hc7]
end Go.Proofs.YtmdphaagbmipcaaDoor
