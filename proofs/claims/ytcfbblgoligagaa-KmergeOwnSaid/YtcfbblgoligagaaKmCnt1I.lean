/-
  All things of some rows, rising, each once, and how often it is there: the iterator, walked.
-/
import Derived.Test.YtcfbblgoligagaaKmCountI
namespace Go.Proofs.Ytcfbblgoligagaa.KI
open Go.RowKit Go.Shelf

attribute [local go_sem] Oper.semAt_some

/-- What is known of what is told. -/
def CntOk (n0 : Nat) (K : List Key) (_ : Nat → Prop) (pre : List (El × Nat)) (y : El × Nat) (W : World) : Prop :=
  EOk (fun k => k < n0) W y.1 ∧ (pre.map (tk key) ++ [tk key y]) <+: runs K ∧ n0 ≤ W.heap.size ∧ y.2 ≤ K.length
theorem ctold_lt {pre : List (El × Nat)} {y : El × Nat} {K : List Key} (h : (pre.map (tk key) ++ [tk key y]) <+: runs K) : pre.length < (runs K).length := by
  have := h.length_le
  rw [List.length_append, List.length_map, List.length_singleton] at this
  omega
theorem allOk_keep {n0 D : Nat} {K : List Key} {s : Nat → Prop} {pre : List El} {x : El} {A B : World} (h : AllOk n0 K s pre x A) (hn0 : n0 ≤ D) (ht : Turn (fun k => k = D ∨ k = D + 1) A B) : AllOk n0 K s pre x B :=
  ⟨h.1.keep (Kept.of_turn ht fun k hk => ⟨Nat.lt_of_lt_of_le hk h.2.2, by rintro (e | e) <;> omega⟩), h.2.1, Nat.le_trans h.2.2 ht.size⟩

set_option maxRecDepth 100000 in
set_option maxHeartbeats 3200000 in
theorem counted1_seq {w : World} {ll : List (List El)} {A : Option Addr} {n c : Nat} (n0 : Nat) (hR : RowsIn (fun k => k < n0) w A ll) (hn : ll.length = n) (hn6 : n ≤ 100000) (hl : ∀ r ∈ ll, r.length ≤ 1000000) (B2 B3 : Nat)
    (h2 : w.cell? ⟨B2, 0, none⟩ = some (.slice A n c)) (h3 : w.cell? ⟨B3, 0, none⟩ = some (.func (.func cmpF) #[] #[])) (hB2 : B2 < w.heap.size) (hB3 : B3 < w.heap.size) (hn0 : n0 ≤ w.heap.size) (hK12 : ll.flatten.length ≤ 1000000000000) (nf : Nat) :
    SeqT Fence.wide nf Try.prog 37 #[.pointer (some ⟨B2, 0, none⟩), .pointer (some ⟨B3, 0, none⟩)] (fun y : El × Nat => #[val y.1, .int .i64 (y.2 : Nat)]) (fun k => k < n0 ∨ k = B2 ∨ k = B3) (fun _ => False) (CntOk n0 (sortK lt (ll.flatten.map key))) (fun xs => xs.map (tk key) = runs (sortK lt (ll.flatten.map key))) (fun pre => pre.map (tk key) <+: runs (sortK lt (ll.flatten.map key))) (runs (sortK lt (ll.flatten.map key))).length w := by
  intro l J Jx W hW hJ hJx hY h0
  have hkR : Kept (fun k => k < n0 ∨ k = B2 ∨ k = B3) w W := Kept.of_below hW (fun k hk => by rcases hk with hk | rfl | rfl <;> omega)
  have hRW := hR.keep (hkR.mono fun k hk => .inl hk)
  have h2W := (hkR.cell (p := ⟨B2, 0, none⟩) (.inr (.inl rfl))).trans h2
  have h3W := (hkR.cell (p := ⟨B3, 0, none⟩) (.inr (.inr rfl))).trans h3
  have hnW : n0 ≤ W.heap.size := Nat.le_trans hn0 hW.size
  have hB2W : B2 < W.heap.size := Nat.lt_of_lt_of_le hB2 hW.size
  have hB3W : B3 < W.heap.size := Nat.lt_of_lt_of_le hB3 hW.size
  have hAll := fun (w' : World) (h : RowsIn (fun k => k < n0) w' A ll) (b2 b3 : Nat) e2 e3 l2 l3 ln => Lib.hid (all1_seq (c := c) n0 h hn hn6 hl b2 b3 e2 e3 l2 l3 ln 9)
  have hKl : (sortK lt (ll.flatten.map key)).length ≤ 1000000000000 := by rw [(sortK_perm _).length_eq, List.length_map]; exact hK12
  obtain ⟨K, hK⟩ : ∃ K, sortK lt (ll.flatten.map key) = K := ⟨_, rfl⟩
  rw [hK] at hY hKl ⊢
  simp only [hK] at hAll
  have HKL := Lib.hid hKl
  have hF := fun W => Lib.hid (all_any A n c W)
  clear hR h2 h3 hK hn hl hkR hW hB2 hB3 hn0 hK12 hKl
  have hbW3 : Below W.heap.size W (((W.alloc (.cells #[.func (.yield l) #[] #[]] 63)).alloc (.cells #[(.int .i64 0)] 3)).alloc (.cells #[.int .i64 0] 3)) := (((Below.refl _ W).alloc (Nat.le_refl _) _).alloc (by simp) _).alloc (by simp; omega) _
  have h2a := (hbW3.cell (p := ⟨B2, 0, none⟩) hB2W).trans h2W
  have h3a := (hbW3.cell (p := ⟨B3, 0, none⟩) hB3W).trans h3W
  have bY := ((Box1.new W 63 (.func (.yield l) #[] #[])).alloc (.cells #[(.int .i64 0)] 3)).alloc (.cells #[.int .i64 0] 3)
  have bL := (Box1.new (W.alloc (.cells #[.func (.yield l) #[] #[]] 63)) 3 (.int .i64 0)).alloc (.cells #[.int .i64 0] 3)
  have bN := Box1.new ((W.alloc (.cells #[.func (.yield l) #[] #[]] 63)).alloc (.cells #[(.int .i64 0)] 3)) 3 (.int .i64 0)
  have hz3 : (((W.alloc (.cells #[.func (.yield l) #[] #[]] 63)).alloc (.cells #[(.int .i64 0)] 3)).alloc (.cells #[.int .i64 0] 3)).heap.size = W.heap.size + 1 + 1 + 1 := by simp
  rw [World.size_alloc] at bL
  rw [World.size_alloc, World.size_alloc] at bN
  refine callsIn_wide.2 ((callsIn_wide (n := 10)).1 ?_)
  refine callsIn_of_wp_marks Try.func37 rfl trivial ?_ rfl
  simp only [Try.ntmps37, List.size_toArray, List.length_cons, List.length_nil, Nat.reduceAdd, Nat.reduceSub, Array.replicate_succ, Array.replicate_zero, List.push_toArray, List.append_toArray, List.nil_append, List.cons_append]
  gi_wp2_with fail
  generalize (((W.alloc (.cells #[.func (.yield l) #[] #[]] 63)).alloc (.cells #[(.int .i64 0)] 3)).alloc (.cells #[.int .i64 0] 3)) = Wa at *
  refine ⟨trivial, (callsIn_wide.2 (hF _).out).mono ?_⟩
  rintro e w1 ⟨rfl, hw1⟩
  have b3 := (Box1.new Wa 29 (.slice A n c)).alloc (.cells #[.func (.func cmpF) #[] #[]] 53)
  have b4 := Box1.new (Wa.alloc (.cells #[.slice A n c] 29)) 53 (.func (.func cmpF) #[] #[])
  rw [World.size_alloc] at b4
  rw [← hw1, hz3] at b3 b4
  have hbWa : Below Wa.heap.size Wa w1 := by rw [hw1]; exact ((Below.refl _ Wa).alloc (Nat.le_refl _) _).alloc (by simp) _
  have hz1 : w1.heap.size = W.heap.size + 1 + 1 + 1 + 1 + 1 := by rw [hw1]; simp [hz3]
  have hb1 : Below W.heap.size W w1 := hbW3.trans (hbWa.mono (by omega))
  have bY1 := bY.turn (Turn.of_new (T := fun _ => False) hbWa) id
  have bL1 := bL.turn (Turn.of_new (T := fun _ => False) hbWa) id
  have bN1 := bN.turn (Turn.of_new (T := fun _ => False) hbWa) id
  have hR1 := hRW.keep (Kept.of_below hb1 fun k hk => by omega)
  have hD := hAll w1 hR1 (W.heap.size + 1 + 1 + 1) (W.heap.size + 1 + 1 + 1 + 1) b3.cell b4.cell (by omega) (by omega) (by omega)
  have hJ1 := hJ _ _ _ _ h0 (Turn.of_new hb1)
  rw [hz3]
  clear bY bL bN h2a h3a hF hAll hw1 hbW3 hbWa hRW hR1 h0
  gi_wp2_with fail
  refine wpIn_rangeFunc_T (F := Fence.wide) (n := 10) rfl (by omega) (gf := 49) (lb := #[.pointer (some ⟨W.heap.size + 1 + 1 + 1 + 1, 0, none⟩), .pointer (some ⟨W.heap.size + 1 + 1 + 1, 0, none⟩)]) rfl trivial (enters_of Try.func49 (by kernel_rfl) rfl)
    hD.out (Below.refl _ _) (fun _ => rfl) (fun k hk => by rcases hk with (hk | rfl | rfl) | hk <;> first | omega | exact hk.elim)
    (fun s pre x A B h hR ht => allOk_keep h (by omega) ht)
    (fun s pre wr => Cnt J K n0 W.heap.size l (fun k => k < n0 ∨ k = B2 ∨ k = B3) W s pre wr)
    (fun c s pre wr => c = .ret ∧ CntX Jx K W.heap.size s wr)
    ?hI ?hIx ?hI2 ?hIx2 ?h0 (fun x => { tmps := #[.func (.yield l) #[] #[], .pointer (some ⟨B2, 0, none⟩), .pointer (some ⟨B3, 0, none⟩), .pointer (some ⟨W.heap.size, 0, none⟩), .pointer (some ⟨W.heap.size + 1, 0, none⟩), .pointer (some ⟨W.heap.size + 1 + 1, 0, none⟩), val x, .slice A n c, .func (.func cmpF) #[] #[], .func (.func 49) #[] #[.pointer (some ⟨W.heap.size + 1 + 1 + 1 + 1, 0, none⟩), .pointer (some ⟨W.heap.size + 1 + 1 + 1, 0, none⟩)], val x, undef, undef, undef, undef, undef, undef, undef, undef, undef, undef, undef, undef, undef, undef, undef, undef, undef, undef, undef, undef, undef, undef, undef], defers := [] }) ?assign ?body ?done ?stop
  case hI => exact fun s pre A B h ht => h.step hJ hnW (fun k e => by rcases e with e | rfl | rfl <;> omega) ht (fun k e => .inl e) (fun k e => e)
  case hIx => exact fun c s pre A B ⟨h0, h⟩ ht => ⟨h0, h.step hJx ht (fun k e => .inl e) (fun k e => e)⟩
  case hI2 => exact fun s pre A B h ht => h.step hJ hnW (fun k e => by rcases e with e | rfl | rfl <;> omega) ht (fun k e => .inr (by omega)) (fun k e => .inl e)
  case hIx2 => exact fun c s pre A B ⟨h0, h⟩ ht => ⟨h0, h.step hJx ht (fun k e => .inr (by omega)) (fun k e => .inl e)⟩
  case h0 => exact ⟨⟨_, [], default, 0, _, hJ1, bY1, bL1, bN1, fun h => by omega, CntI.start _, fun k e => e.elim, fun k a b c => .inr ⟨a, c⟩⟩, Kept.of_below hb1 fun k e => by rcases e with e | rfl | rfl <;> omega, by omega, fun k e => e.elim⟩
  case assign =>
    intro l y W K hK
    gi_wp2
    exact hK
  case body =>
    rintro l2 s pre x wr ⟨⟨s2, op, a, m, va, h1, h2, h3, h4, h5, h6, h7, h8⟩, hkept, hsz, hsep⟩ hlt ⟨k1, k2, k3⟩ hdW
    have cY : wr.cell? ⟨W.heap.size, 0, none⟩ = some (.func (.yield l) #[] #[]) := h2.cell
    have cL : wr.cell? ⟨W.heap.size + 1, 0, none⟩ = some va := h3.cell
    have fL : wr.frozen? ⟨W.heap.size + 1, 0, none⟩ = false := h3.frozen
    have cN : wr.cell? ⟨W.heap.size + 1 + 1, 0, none⟩ = some (.int .i64 (m : Nat)) := h4.cell
    have fN : wr.frozen? ⟨W.heap.size + 1 + 1, 0, none⟩ = false := h4.frozen
    have c3 : wr.cell? ⟨B3, 0, none⟩ = some (.func (.func cmpF) #[] #[]) := (hkept.cell (p := ⟨B3, 0, none⟩) (.inr (.inr rfl))).trans h3W
    have hen := enters_cmp
    have hm12 : m ≤ 1000000000000 := by have := h6.le; have := HKL.out; omega
    have hm0 : ∀ k, (k < n0 ∨ k = B2 ∨ k = B3) → k < W.heap.size := fun k e => by rcases e with e | rfl | rfl <;> omega
    have HM0 := Lib.hid hm0
    have H7 := Lib.hid h7
    have H8 := Lib.hid h8
    have HSEP := Lib.hid hsep
    have K2 := Lib.hid k2
    have hTs : ∀ (A B : World), Turn (fun k => k = W.heap.size + 1 ∨ k = W.heap.size + 2) A B → Turn (fun k => ¬ s k ∧ ¬ (k < n0 ∨ k = W.heap.size + 1 + 1 + 1 ∨ k = W.heap.size + 1 + 1 + 1 + 1) ∧ k ≠ w1.heap.size ∧ k ≠ w1.heap.size + 1) A B := fun A B ht => ht.mono fun j _ e => ⟨fun e2 => by have := hsep j e2; omega, by omega, by omega, by omega⟩
    have HTS := Lib.hid hTs
    clear hm0 h7 h8 hsep k2 hTs hJ1 bY1 bL1 bN1 b3 b4 hD hb1
    by_cases hm : 1 ≤ m
    · obtain ⟨rfl, hea⟩ := h5 hm
      have hcmp := cmp_any (m := fun k => k < n0) a x wr hea k1 (fun k e => by omega)
      by_cases hr : cmpI a x = 0
      · have h6' := h6.same hm K2.out ((cmp_ne a x).1 hr)
        obtain ⟨g1, g2⟩ := cnt_store (x := x) (m := m + 1) (W := W) (m0 := fun k => k < n0 ∨ k = B2 ∨ k = B3) hJ hnW HM0.out h1 h2 h3 h4 k1 h6' H7.out H8.out hkept hsz HSEP.out
        rw [show ((m + 1 : Nat) : Int) = (m : Int) + 1 from by omega] at g1 g2
        have G1 := Lib.hid g1
        have G2 := Lib.hid g2
        rw [hr] at hcmp
        have HC := Lib.hid hcmp
        have hmi : (0 : Int) < (m : Int) := by omega
        clear g1 g2 hcmp hr h1 h2 h3 h4 h5 h6 h6' hm
        dsimp only [val] at cL ⊢
        gi_wp2_with fail
        refine ⟨trivial, (CallsIn.inRound l2 (callsIn_wide.2 HC.out)).mono ?_⟩
        rintro e w2 ⟨rfl, rfl⟩
        clear HC
        gi_wp2_with fail
        exact ⟨HTS.out _ _ G2.out, G1.out⟩
      · obtain ⟨hpf, h6'⟩ := h6.other hm K2.out (fun e => hr ((cmp_ne a x).2 e))
        have hrz : (cmpI a x != 0) = true := by rw [bne_iff_ne]; exact hr
        have hY1 := hY s2 op (a, m) wr h1 (ctold_lt hpf) ⟨hea, hpf, k3, by have := h6.le; show m ≤ K.length; omega⟩
        obtain ⟨fn, tmps, assign, body, hyy, hR⟩ := hY1
        have HPF := Lib.hid hpf
        have H6 := Lib.hid h6'
        obtain ⟨r, hre⟩ : ∃ r, cmpI a x = r := ⟨_, rfl⟩
        rw [hre] at hcmp hrz
        have HC := Lib.hid hcmp
        have hmi : (0 : Int) < (m : Int) := by omega
        clear hcmp hr hpf h6' hre h5 h6 hm
        dsimp only [val] at cL hyy ⊢
        gi_wp2_with fail
        refine ⟨trivial, (CallsIn.inRound l2 (callsIn_wide.2 HC.out)).mono ?_⟩
        rintro e w2 ⟨rfl, rfl⟩
        clear HC
        gi_wp2_with fail
        refine (roundIn_any hR).mono ?_
        have hTot : ∀ w4, Turn (fun k => ¬ s2 k ∧ ¬ (k < n0 ∨ k = B2 ∨ k = B3)) wr w4 → Turn (fun k => ¬ s k ∧ ¬ (k < n0 ∨ k = W.heap.size + 1 + 1 + 1 ∨ k = W.heap.size + 1 + 1 + 1 + 1) ∧ k ≠ w1.heap.size ∧ k ≠ w1.heap.size + 1) wr w4 := fun w4 ht => ht.mono fun j hj e => ⟨fun e2 => e.1 (H7.out j e2), fun e2 => by
            rcases e2 with e2 | e2 | e2
            · exact e.2 (.inl e2)
            · exact e.1 (H8.out j (by omega) (by omega) hj)
            · exact e.1 (H8.out j (by omega) (by omega) hj), fun e2 => e.1 (H8.out j (by omega) (by omega) hj), fun e2 => e.1 (H8.out j (by omega) (by omega) hj)⟩
        have HTOT := Lib.hid hTot
        clear hTot
        rintro e w4 (⟨rfl, hJ4, ht4⟩ | ⟨rfl, hJx4, ht4⟩)
        · have hz4 := ht4.size
          have hs8 : ∀ j, W.heap.size ≤ j → j < W.heap.size + 7 → s2 j := fun j a b => H8.out j a b (by omega)
          have b2 := h2.turn ht4 (fun e => e.1 (hs8 _ (by omega) (by omega)))
          have b3 := h3.turn ht4 (fun e => e.1 (hs8 _ (by omega) (by omega)))
          have b4 := h4.turn ht4 (fun e => e.1 (hs8 _ (by omega) (by omega)))
          have hk4 : Kept (fun k => k < n0 ∨ k = B2 ∨ k = B3) wr w4 := Kept.of_turn ht4 fun k hk => ⟨by have := HM0.out k hk; omega, fun e => e.2 hk⟩
          have x4 := k1.keep (hk4.mono fun k e => .inl e)
          have ht5 : Turn s2 w4 (w4.setCell ⟨W.heap.size + 1 + 1, 0, none⟩ (.int .i64 0)) := Turn.setCell _ _ _ (hs8 _ (by simp only; omega) (by simp only; omega))
          have ht5' : Turn (fun k => k = W.heap.size + 2) w4 (w4.setCell ⟨W.heap.size + 1 + 1, 0, none⟩ (.int .i64 0)) := Turn.setCell _ _ _ rfl
          have hJ5 := hJ _ _ _ _ hJ4 ht5
          have b25 := b2.turn ht5' (by omega)
          have b35 := b3.turn ht5' (by omega)
          have b45 := b4.set (.int .i64 0)
          have x5 := x4.keep (Kept.of_turn ht5' fun k hk => ⟨by omega, by omega⟩)
          have hk5 := (hkept.trans hk4).trans (Kept.of_turn ht5' fun k hk => ⟨by have := HM0.out k hk; omega, by have := HM0.out k hk; omega⟩)
          have hz5 : (w4.setCell ⟨W.heap.size + 1 + 1, 0, none⟩ (.int .i64 0)).heap.size = w4.heap.size := World.size_setCell _ _ _
          obtain ⟨g1, g2⟩ := cnt_store (s := s) (x := x) (m := 1) (W := W) (m0 := fun k => k < n0 ∨ k = B2 ∨ k = B3) hJ hnW HM0.out hJ5 b25 b35 b45 x5 H6.out (fun k e => .inl (H7.out k e)) (fun k a b c => .inl (hs8 k a b)) hk5 (by omega) HSEP.out
          rw [show ((1 : Nat) : Int) = 1 from rfl] at g1 g2
          have cN4 : w4.cell? ⟨W.heap.size + 1 + 1, 0, none⟩ = some (.int .i64 (m : Nat)) := b4.cell
          have fN4 : w4.frozen? ⟨W.heap.size + 1 + 1, 0, none⟩ = false := b4.frozen
          have cL5 : (w4.setCell ⟨W.heap.size + 1 + 1, 0, none⟩ (.int .i64 0)).cell? ⟨W.heap.size + 1, 0, none⟩ = some (val a) := b35.cell
          have fL5 : (w4.setCell ⟨W.heap.size + 1 + 1, 0, none⟩ (.int .i64 0)).frozen? ⟨W.heap.size + 1, 0, none⟩ = false := b35.frozen
          have cL4 : w4.cell? ⟨W.heap.size + 1, 0, none⟩ = some (val a) := b3.cell
          have fL4 : w4.frozen? ⟨W.heap.size + 1, 0, none⟩ = false := b3.frozen
          have G1 := Lib.hid g1
          have G2 := Lib.hid ((HTOT.out _ ht4).trans ((HTS.out _ _ (ht5'.mono fun j _ e => .inr e)).trans (HTS.out _ _ g2)))
          clear g1 g2 x5 hk5 b45 b25 b35 ht5 ht5' hJ5 x4 hk4 b2 b3 b4 ht4 hJ4
          gi_wp2_with fail
          exact ⟨G2.out, G1.out⟩
        · have hz4 := ht4.size
          have hpt := HTOT.out _ ht4
          gi_wp2_with fail
          exact ⟨hpt, rfl, ⟨⟨s2, op ++ [(a, m)], hJx4, by rw [List.map_append]; exact HPF.out, H7.out, fun k a b c => H8.out k a b (by omega)⟩, by omega, HSEP.out⟩⟩
    · have hm0' : m = 0 := by omega
      subst hm0'
      obtain ⟨g1, g2⟩ := cnt_store (x := x) (m := 1) (W := W) (m0 := fun k => k < n0 ∨ k = B2 ∨ k = B3) hJ hnW HM0.out h1 h2 h3 h4 k1 (h6.first K2.out) H7.out H8.out hkept hsz HSEP.out
      rw [show ((1 : Nat) : Int) = 1 from rfl] at g1 g2
      have G1 := Lib.hid g1
      have G2 := Lib.hid g2
      have cN0 : wr.cell? ⟨W.heap.size + 1 + 1, 0, none⟩ = some (.int .i64 0) := h4.cell
      clear g1 g2 h1 h2 h3 h4 h5 h6 hm cN
      dsimp only [val]
      gi_wp2_with fail
      refine ⟨fun _ _ => trivial, ?_⟩
      gi_wp2_with fail
      exact ⟨HTS.out _ _ G2.out, G1.out⟩
  case done =>
    rintro s xs wr hS ⟨⟨s2, op, a, m, va, h1, h2, h3, h4, h5, h6, h7, h8⟩, hkept, hsz, hsep⟩ hKd
    have cY : wr.cell? ⟨W.heap.size, 0, none⟩ = some (.func (.yield l) #[] #[]) := h2.cell
    have cL : wr.cell? ⟨W.heap.size + 1, 0, none⟩ = some va := h3.cell
    have cN : wr.cell? ⟨W.heap.size + 1 + 1, 0, none⟩ = some (.int .i64 (m : Nat)) := h4.cell
    have hDs : s2 w1.heap.size := h8 _ (by omega) (by omega) (Array.getElem?_eq_some_iff.1 hKd).1
    rcases h6.done hS with ⟨rfl, hd⟩ | ⟨hm, hd⟩
    · have cN0 : wr.cell? ⟨W.heap.size + 1 + 1, 0, none⟩ = some (.int .i64 0) := h4.cell
      have HD := Lib.hid hd
      clear hd cN
      gi_wp2_with fail
      refine ⟨by simp, .inl ⟨_, _, rfl, run_takeDeferred hKd, ?_⟩⟩
      exact ⟨.tuple #[], results_none rfl _ _ _, ⟨_, rfl⟩, .inl ⟨_, op, HD.out, hJ _ _ _ _ h1 (Turn.putObj _ _ _ hDs)⟩⟩
    · obtain ⟨rfl, hea⟩ := h5 hm
      have hK' : n0 ≤ wr.heap.size := by omega
      have hpf : (op.map (tk key) ++ [tk key (a, m)]) <+: runs K := by rw [hd]; exact List.prefix_refl _
      have hml : m ≤ K.length := by
        have h1 := h6.le
        have h2 : (xs.map key).length = K.length := by rw [show xs.map key = K from hS]
        rw [List.length_map] at h2
        omega
      have hY1 := hY s2 op (a, m) wr h1 (ctold_lt hpf) ⟨hea, hpf, hK', hml⟩
      obtain ⟨fn, tmps, assign, body, hyy, hR⟩ := hY1
      have HPF := Lib.hid hpf
      have HD := Lib.hid hd
      have hm12 : m ≤ 1000000000000 := by have := HKL.out; omega
      have hmi : (0 : Int) < (m : Int) := by omega
      have hdl := (Array.getElem?_eq_some_iff.1 hKd).1
      clear hpf hd hml hm
      dsimp only [val] at cL hyy
      gi_wp2_with fail
      refine (roundIn_w hR).mono ?_
      rintro e w4 (⟨rfl, hJ4, ht4⟩ | ⟨rfl, hJx4, ht4⟩)
      · have hK4 := (ht4.block _ hdl (fun e => e.1 hDs)).trans hKd
        have hDs' := hDs
        rw [hz1] at hK4 hDs'
        gi_wp2_with fail
        refine ⟨by simp, .inl ⟨_, _, rfl, run_takeDeferred hK4, ?_⟩⟩
        exact ⟨.tuple #[], results_none rfl _ _ _, ⟨_, rfl⟩, .inl ⟨_, _, by rw [List.map_append]; exact HD.out, hJ _ _ _ _ hJ4 (Turn.putObj _ _ _ hDs')⟩⟩
      · have hK4 := (ht4.block _ hdl (fun e => e.1 hDs)).trans hKd
        have hDs' := hDs
        rw [hz1] at hK4 hDs'
        gi_wp2_with fail
        refine ⟨by simp, .inl ⟨_, _, rfl, run_takeDeferred hK4, ?_⟩⟩
        exact ⟨.tuple #[], results_none rfl _ _ _, ⟨_, rfl⟩, .inr ⟨_, _, by rw [List.map_append]; exact HPF.out, hJx _ _ _ _ hJx4 (Turn.putObj _ _ _ hDs')⟩⟩
  case stop =>
    rintro c s pre wr hS ⟨rfl, ⟨s2, op, h1, h2, h7, h8⟩, hsz, hsep⟩ hKd
    have hDs : s2 w1.heap.size := h8 _ (by omega) (by omega) (Array.getElem?_eq_some_iff.1 hKd).1
    gi_wp2_with fail
    refine ⟨by simp, .inl ⟨_, _, rfl, run_takeDeferred hKd, ?_⟩⟩
    exact ⟨.tuple #[], results_none rfl _ _ _, ⟨_, rfl⟩, .inr ⟨_, op, h2, hJx _ _ _ _ h1 (Turn.putObj _ _ _ hDs)⟩⟩
end Go.Proofs.Ytcfbblgoligagaa.KI
