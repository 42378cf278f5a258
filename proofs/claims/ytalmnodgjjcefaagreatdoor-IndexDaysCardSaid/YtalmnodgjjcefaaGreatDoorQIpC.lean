/- Several texts in one: IpCollect IpPrefix IpFrames. -/
import Derived.Test.YtalmnodgjjcefaaGreatDoorQIpB
import Derived.Test.YtalmnodgjjcefaaGreatDoorQFrm
namespace Go.Proofs.YtalmnodgjjcefaaGreatDoor
open Go.RowKit Go.Shelf
attribute [local go_sem] Oper.semAt_some
theorem OwnS.base_le {w : World} {base b : Nat} {v : Value} {ls : List (List UInt8)} (h : OwnS w base v ls) (hb : b ≤ base) : OwnS w b v ls := by
 obtain ⟨vs, h1, h2⟩ := h.out
 refine ⟨vs, ⟨h1.1, ?_⟩, fun i hi => ?_⟩
 ·rcases h1.2 with h | ⟨g, cap, cur, hv, hg, r⟩
  ·exact .inl h
  ·exact .inr ⟨g, cap, cur, hv, Nat.le_trans hb hg, r⟩
 ·obtain ⟨Ai, ci, g1, g2, g3⟩ := h2 i hi
  refine ⟨Ai, ci, g1, g2, ?_⟩
  rcases g3.out with e | ⟨ad, e, e1, e2⟩
  ·exact ⟨.inl e⟩
  ·exact ⟨.inr ⟨ad, e, Nat.le_trans hb e1, e2⟩⟩
end Go.Proofs.YtalmnodgjjcefaaGreatDoor
namespace Go.Proofs.YtalmnodgjjcefaaGreatDoor
open Go.RowKit Go.Shelf
attribute [local go_sem] Oper.semAt_some
def preB (x y : Item) : Bool := decide (x <+: y)
theorem preB_eq {x y : Item} (_h : x.length ≤ y.length) : preB x y = decide (y.take x.length = x) := by
 unfold preB
 rw [decide_eq_decide, List.prefix_iff_eq_take]
 exact eq_comm
theorem preB_short {x y : Item} (h : y.length < x.length) : preB x y = false := by
 unfold preB
 rw [decide_eq_false_iff_not]
 intro e
 have := e.length_le
 omega
set_option maxRecDepth 100000 in
set_option maxHeartbeats 800000 in
theorem HasPrefix_any (A B : Option Addr) (n c m d : Nat) (y x : Item) (hn : y.length = n) (hm : x.length = m) (hnc : n ≤ c) (_hn40 : n ≤ 1099511627776) (w : World) (hS : Sees w w.heap.size A (bv y)) (hS2 : Sees w w.heap.size B (bv x)) :
  Calls Tryz.prog 321 #[.slice A n c, .slice B m d] w fun e w' => e = .returned (.bool (preB x y)) ∧ w = w' := by
 by_cases h : m ≤ n
 ·have hpe := preB_eq (x := x) (y := y) (by omega)
  have ht : (y.take m).length = m := by rw [List.length_take]; omega
  have hE := Lib.hid (BytesEqual_any A B m m c d (y.take m) x ht hm w (by rw [bv_take]; exact hS.take m) hS2)
  rw [hm] at hpe
  rw [hpe]
  have i1 : (m : Int) ≤ (n : Int) := by omega
  have i2 : (m : Int) ≤ (c : Int) := by omega
  obtain ⟨b, hb⟩ : ∃ b, decide (y.take m = x) = b := ⟨_, rfl⟩
  rw [hb] at hE ⊢
  clear hpe ht hb hn hm
  go_enter Tryz.func321, Tryz.ntmps321
  go_wp2_with fail
  refine hE.out.mono ?_
  rintro e w1 ⟨rfl, rfl⟩
  go_wp2
  go_ret
  exact ⟨by simp, rfl⟩
 ·rw [preB_short (x := x) (y := y) (by omega)]
  have i1 : (n : Int) < (m : Int) := by omega
  clear hn hm
  go_enter Tryz.func321, Tryz.ntmps321
  go_wp2
  go_ret
  exact ⟨rfl, rfl⟩
theorem takeWhile_all {p : Item → Bool} : ∀ {l : List Item}, (∀ z ∈ l, p z = true) → l.takeWhile p = l
 | [], _ => rfl
 | x :: t, h => by rw [List.takeWhile_cons, if_pos (h x (by simp)), takeWhile_all fun z hz => h z (by simp [hz])]
theorem takeWhile_stop {p : Item → Bool} : ∀ {a : List Item} {y : Item} {b : List Item}, (∀ z ∈ a, p z = true) → p y = false → (a ++ y :: b).takeWhile p = a
 | [], y, b, _, h => by simp [h]
 | x :: t, y, b, h, h2 => by rw [List.cons_append, List.takeWhile_cons, if_pos (h x (by simp)), takeWhile_stop (fun z hz => h z (by simp [hz])) h2]
set_option maxRecDepth 100000 in
set_option maxHeartbeats 3200000 in
theorem Prefix_of (w : World) (p : Option Addr) (Bx : Option Addr) (lx dx : Nat) (x : Item) (hx : Sees w w.heap.size Bx (bv x)) (hxl : x.length = lx) (Y : List Item) (hY : ∀ y ∈ Y, y.length ≤ 400) (hYl : Y.length ≤ 2000) (hseq : SeqFrom w p Bx lx dx Y) :
  Calls Tryz.prog 324 #[.pointer p, .slice Bx lx dx] w fun e w' => ∃ v, e = .returned v ∧ OwnS w' w.heap.size v (Y.takeWhile (preB x)) ∧ Below w.heap.size w w' := by
 refine (callsIn_wide (n := 5)).1 ?_
 have HX := Lib.hid hx
 have HXL := Lib.hid hxl
 clear hx hxl
 have hF := fun W => Lib.hid (from_any p Bx lx dx W)
 refine callsIn_of_wp_marks Tryz.func324 rfl trivial ?_ rfl
 simp only [Tryz.ntmps324, List.size_toArray, List.length_cons, List.length_nil, Nat.reduceAdd, Nat.reduceSub, Array.replicate_succ, Array.replicate_zero, List.push_toArray, List.append_toArray, List.nil_append, List.cons_append]
 gi_wp2_with fail
 refine ⟨trivial, (callsIn_wide.2 (hF _).out).mono ?_⟩
 rintro e w1 ⟨rfl, hw1⟩
 have b0 := Box1.new w 48 (.slice Bx lx dx)
 have b1 := Box1.new (w.alloc (.cells #[.slice Bx lx dx] 48)) 47 (.slice none 0 0)
 have hb0 : Below w.heap.size w ((w.alloc (.cells #[.slice Bx lx dx] 48)).alloc (.cells #[.slice none 0 0] 47)) := ((Below.refl _ w).alloc (Nat.le_refl _) _).alloc (by simp) _
 have hz0 : ((w.alloc (.cells #[.slice Bx lx dx] 48)).alloc (.cells #[.slice none 0 0] 47)).heap.size = w.heap.size + 1 + 1 := by simp
 have b0' := b0.alloc (.cells #[.slice none 0 0] 47)
 rw [World.size_alloc] at b1
 generalize (w.alloc (.cells #[.slice Bx lx dx] 48)).alloc (.cells #[.slice none 0 0] 47) = Wa at b0' b1 hb0 hz0 hw1 ⊢
 clear b0
 have b2 := (Box1.new Wa 160 (.pointer p)).alloc (.cells #[.slice Bx lx dx] 48)
 have b3 := Box1.new (Wa.alloc (.cells #[.pointer p] 160)) 48 (.slice Bx lx dx)
 rw [← hw1] at b2 b3
 have hb1 : Below Wa.heap.size Wa w1 := by rw [hw1]; exact ((Below.refl _ Wa).alloc (Nat.le_refl _) _).alloc (by simp) _
 have hz1 : w1.heap.size = w.heap.size + 1 + 1 + 1 + 1 := by rw [hw1]; simp [hz0]
 rw [World.size_alloc, hz0] at b3
 rw [hz0] at b2
 have c0 := b0'.turn (Turn.of_new (T := fun _ => False) hb1) (fun h => h)
 have c1 := b1.turn (Turn.of_new (T := fun _ => False) hb1) (fun h => h)
 have hbw : Below w.heap.size w w1 := hb0.trans (hb1.mono (by omega))
 have hD := hseq w1 (w.heap.size + 1 + 1) (w.heap.size + 1 + 1 + 1) 4 hbw b2.cell b3.cell (by omega) (by omega)
 clear hw1 b0' b1 hb0 hb1 b2 b3
 rw [hz0]
 gi_wp2_with fail
 refine wpIn_rangeFunc_T (F := Fence.wide) (n := 5) rfl (by omega) (gf := 215) (lb := #[.pointer (some ⟨w.heap.size + 1 + 1, 0, none⟩), .pointer (some ⟨w.heap.size + 1 + 1 + 1, 0, none⟩)]) rfl trivial (enters_of Tryz.func215 (by kernel_rfl) rfl)
  hD (Below.refl _ _) (fun _ => rfl) (fun k hk => by rcases hk with (hk | rfl | rfl) | hk <;> first | omega | exact hk.elim)
  (fun s pre y A B h hR ht => fromOk_keep h (by omega) ht)
  (fun s pre W => (∀ k, s k → w.heap.size + 1 + 1 + 1 + 1 ≤ k ∧ k < W.heap.size) ∧ Below w.heap.size w W ∧ w1.heap.size ≤ W.heap.size ∧ Box1 W w.heap.size 48 (.slice Bx lx dx) ∧ (∀ z ∈ pre.map (·.1), preB x z = true) ∧ ∃ (v : Value) (q : Nat → Prop), Box1 W (w.heap.size + 1) 47 v ∧ OwnQ q W (w1.heap.size + 2) v (pre.map (·.1)) ∧ (∀ k, q k → (w1.heap.size + 2 ≤ k ∧ k < W.heap.size) ∧ ¬ s k))
  (fun c s pre W => c = .exit 0 ∧ (∀ k, s k → w.heap.size + 1 + 1 + 1 + 1 ≤ k ∧ k < W.heap.size) ∧ Below w.heap.size w W ∧ w1.heap.size ≤ W.heap.size ∧ (pre.map (·.1)) <+: Y ∧ ∃ (v : Value) (q : Nat → Prop), Box1 W (w.heap.size + 1) 47 v ∧ OwnQ q W (w1.heap.size + 2) v (Y.takeWhile (preB x)) ∧ (∀ k, q k → (w1.heap.size + 2 ≤ k ∧ k < W.heap.size) ∧ ¬ s k))
  ?hI ?hIx ?hI2 ?hIx2 ?h0 (fun y => { tmps := #[.pointer p, .slice Bx lx dx, undef, .pointer (some ⟨w.heap.size, 0, none⟩), .slice none 0 0, .pointer (some ⟨w.heap.size + 1, 0, none⟩), .slice y.2.1 y.1.length y.2.2, .pointer p, .slice Bx lx dx, .func (.func 215) #[] #[.pointer (some ⟨w.heap.size + 1 + 1, 0, none⟩), .pointer (some ⟨w.heap.size + 1 + 1 + 1, 0, none⟩)], .slice y.2.1 y.1.length y.2.2, undef, undef, undef, undef, undef, undef, undef, undef, undef, undef], defers := [] }) ?assign ?body ?done ?stop
 case hI =>
  rintro s pre A B ⟨h2, h3, h4, h5, h6, v, q, h7, h8, h9⟩ ht
  have hA : ∀ k, grown s A B k → w.heap.size + 1 + 1 + 1 + 1 ≤ k ∧ k < B.heap.size := fun k hk => by have hz := ht.size; rcases hk with hk | hk; have := h2 k hk; omega; omega
  refine ⟨hA, h3.trans (ht.below (fun j hj => by have := h2 j hj; omega) h3.size), by have := ht.size; omega, h5.turn ht (fun e => by have := h2 _ e; omega), h6, v, q, h7.turn ht (fun e => by have := h2 _ e; omega), h8.keep (Kept.of_turn ht fun k hk => ⟨(h9 k hk).1.2, (h9 k hk).2⟩), fun k hk => ⟨⟨(h9 k hk).1.1, Nat.lt_of_lt_of_le (h9 k hk).1.2 ht.size⟩, fun e => ?_⟩⟩
  rcases e with e | e
  ·exact (h9 k hk).2 e
  ·have := (h9 k hk).1.2; omega
 case hIx =>
  rintro c s pre A B ⟨h1, h2, h3, h4, h6, v, q, h7, h8, h9⟩ ht
  have hA : ∀ k, grown s A B k → w.heap.size + 1 + 1 + 1 + 1 ≤ k ∧ k < B.heap.size := fun k hk => by have hz := ht.size; rcases hk with hk | hk; have := h2 k hk; omega; omega
  refine ⟨h1, hA, h3.trans (ht.below (fun j hj => by have := h2 j hj; omega) h3.size), by have := ht.size; omega, h6, v, q, h7.turn ht (fun e => by have := h2 _ e; omega), h8.keep (Kept.of_turn ht fun k hk => ⟨(h9 k hk).1.2, (h9 k hk).2⟩), fun k hk => ⟨⟨(h9 k hk).1.1, Nat.lt_of_lt_of_le (h9 k hk).1.2 ht.size⟩, fun e => ?_⟩⟩
  rcases e with e | e
  ·exact (h9 k hk).2 e
  ·have := (h9 k hk).1.2; omega
 case hI2 =>
  rintro s pre A B ⟨h2, h3, h4, h5, h6, v, q, h7, h8, h9⟩ ht
  exact ⟨fun k hk => ⟨(h2 k hk).1, Nat.lt_of_lt_of_le (h2 k hk).2 ht.size⟩, h3.trans (ht.below (fun j hj => by omega) h3.size), by have := ht.size; omega, h5.turn ht (by omega), h6, v, q, h7.turn ht (by omega), h8.keep (Kept.of_turn ht fun k hk => ⟨(h9 k hk).1.2, by have := (h9 k hk).1.1; omega⟩), fun k hk => ⟨⟨(h9 k hk).1.1, Nat.lt_of_lt_of_le (h9 k hk).1.2 ht.size⟩, (h9 k hk).2⟩⟩
 case hIx2 =>
  rintro c s pre A B ⟨h1, h2, h3, h4, h6, v, q, h7, h8, h9⟩ ht
  exact ⟨h1, fun k hk => ⟨(h2 k hk).1, Nat.lt_of_lt_of_le (h2 k hk).2 ht.size⟩, h3.trans (ht.below (fun j hj => by omega) h3.size), by have := ht.size; omega, h6, v, q, h7.turn ht (by omega), h8.keep (Kept.of_turn ht fun k hk => ⟨(h9 k hk).1.2, by have := (h9 k hk).1.1; omega⟩), fun k hk => ⟨⟨(h9 k hk).1.1, Nat.lt_of_lt_of_le (h9 k hk).1.2 ht.size⟩, (h9 k hk).2⟩⟩
 case h0 => exact ⟨fun k hk => hk.elim, hbw, Nat.le_refl _, c0, by simp, _, fun _ => False, c1, OwnQ.nil _ _ _, fun k hk => hk.elim⟩
 case assign =>
  intro l y W K hK
  dsimp only [Told.vals]
  gi_wp2
  exact hK
 case body =>
  rintro l s pre y W ⟨h2, h3, h4, h5, h6, v, q, hbox, h8, h9⟩ hlt ⟨g1, g2, g3, g4⟩ hdW
  have hc5 := h5.cell
  have hc7 := hbox.cell
  have hf7 := hbox.frozen
  have hpl : pre.length < Y.length := told_len g3
  have hyY : y.1.length ≤ 400 := hY _ (g3.subset (by simp))
  obtain ⟨Av, cv, rfl, hcv, -⟩ := h8.open_
  obtain ⟨ln, hln⟩ : ∃ ln, (pre.map (·.1)).length = ln := ⟨_, rfl⟩
  rw [hln] at hc7 hbox hcv
  have HLNP : Hid (ln = pre.length) := by unfold Hid; rw [← hln, List.length_map]
  have h8l : OwnQ q W (w1.heap.size + 2) (.slice Av ln cv) (pre.map (·.1)) := by rw [← hln]; exact h8
  have HLN := Lib.hid hln
  have HZ1 := Lib.hid hz1
  clear hz1
  have hq : ∀ k, q k → w1.heap.size + 2 ≤ k ∧ k < W.heap.size := fun k hk => (h9 k hk).1
  have hP := Lib.hid (HasPrefix_any y.2.1 Bx y.1.length y.2.2 lx dx y.1 x rfl HXL.out g2 (by omega) W (g1.sees (fun k hk => Nat.lt_of_lt_of_le hk g4)) ((HX.out.below h3).more h3.size))
  obtain ⟨bp, hbp⟩ : ∃ bp, preB x y.1 = bp := ⟨_, rfl⟩
  rw [hbp] at hP
  cases bp with
  | true =>
   have HBP := Lib.hid hbp
   obtain ⟨i0, hi0, hz0, hz1', hz2⟩ := info_parts Tryz.sinfo
   obtain ⟨vs, k1', k2', k3⟩ := h8.out
   have k1 := k1'
   have k2 := k2'
   rw [hln] at k1 k2
   have hcl := fun W (hW : Sees W W.heap.size y.2.1 (bv y.1)) => Lib.hid (bytesClone_any y.2.1 y.1.length y.2.2 y.1 rfl W hW (by omega))
   obtain ⟨yl, hyl⟩ : ∃ yl, y.1.length = yl := ⟨_, rfl⟩
   rw [hyl] at hyY hP
   simp only [hyl] at hcl
   rw [hyl]
   have hgl : ∀ k, k < w.heap.size → k < W.heap.size := fun k hk => Nat.lt_of_lt_of_le hk g4
   have hbW : w1.heap.size + 2 ≤ W.heap.size := hdW
   have hz1 := hz1'
   have hnb : (Value.slice Av ln cv).ownBlock ≠ some (w.heap.size + 1) := fun e => by have := (hq _ (k2 _ e)).1; have := HZ1.out; omega
   have hln2 : ln ≤ 2000 := by have := HLNP.out; omega
   have HYL := Lib.hid hyl
   clear hyl hln hbp
   gi_wp2_with fail
   refine ⟨trivial, (CallsIn.inRound l (callsIn_wide.2 hP.out)).mono ?_⟩
   rintro e wq ⟨rfl, rfl⟩
   gi_wp2_with fail
   refine wpIn_round_held (S := fun _ => True) (by kernel_rfl) (by kernel_rfl) ?_ (fun hHeld => ?_)
   ·(trivial)
   have r0 : Below W.heap.size W W.drew := below_drew (Below.refl _ _)
   have c0 := (hbox.below r0 hbox.lt).cell
   have f0 := (hbox.below r0 hbox.lt).frozen
   generalize W.drew = wz0 at r0 c0 f0 hHeld ⊢
   refine wpAnyH_take (i := 1) (oi := { dst := some 16, op := Op.move (Operand.tmp 6), type := 48, pos := "itempart.go:204", after := #[], guard := none }) (v := ?_) rfl (by kernel_rfl) (by kernel_rfl) (by kernel_rfl) (fun _ _ _ h => h) (Or.inl ⟨by rfl, ?_⟩) hHeld ?_
   rotate_left
   ·(intro w' hSw; (try dsimp only at hSw); go_split_ands; go_simp; first | done | with_reducible rfl)
   try simp only [Act.put, List.setIfInBounds_toArray, List.set_cons_zero, List.set_cons_succ]
   refine wpAnyH_ready (rs := [0, 2]) (by kernel_rfl) (by simp) ?_
   refine AllReadyH.cons (o := { dst := some 15, op := Op.load 47 (Operand.tmp 5), type := 47, pos := "itempart.go:204", after := #[], guard := none }) rfl (fun K hK => ?_) ?_
   ·go_simp
    refine hK.out _ _ ?_ ?_
    ·(trivial)
    clear hK K hHeld; intro hHeld
    try simp only [Act.put, List.setIfInBounds_toArray, List.set_cons_zero, List.set_cons_succ]
    refine wpAnyH_ready (rs := [2]) (by kernel_rfl) (by simp) ?_
    refine AllReadyH.cons (o := { dst := some 17, op := Op.call { callee := Callee.value (Operand.func 103), args := #[Operand.tmp 16], argTypes := #[48] }, type := 48, pos := "itempart.go:204", after := #[{ on := 1, ground := Ground.data }], guard := none }) rfl (fun K hK => ?_) AllReadyH.nil
    go_simp
    refine (hcl wz0 ((g1.keep (Kept.of_below r0 hgl)).sees (fun k hk => Nat.lt_of_lt_of_le (hgl k hk) r0.size))).out.mono ?_
    rintro en wz1 ⟨vc, rfl, hownc, honc⟩
    have s1 := honc.below_nil
    obtain ⟨Ac, cc, ec, hcc, -, -, -⟩ := hownc.open_
    rw [HYL.out] at ec hcc
    subst ec
    have r1 := r0.trans (s1.mono r0.size)
    have sm1 : SeesU (fun k => W.heap.size ≤ k ∧ k < wz1.heap.size) wz1 Ac (bv y.1) := (ownB_seesU hownc).mono fun k e => ⟨Nat.le_trans r0.size e.1, e.2⟩
    have c1 := (hbox.below r1 hbox.lt).cell
    have f1 := (hbox.below r1 hbox.lt).frozen
    go_wp2_with fail
    refine hK.out _ _ ?_ ?_
    ·(trivial)
    clear hK K hHeld; intro hHeld
    try simp only [Act.put, List.setIfInBounds_toArray, List.set_cons_zero, List.set_cons_succ]
    refine wpAnyH_ready (rs := [3]) (by kernel_rfl) (by simp) ?_
    refine AllReadyH.cons (o := { dst := some 18, op := Op.buildSlice 47 1 #[(0, Operand.tmp 17)], type := 47, pos := "itempart.go:204", after := #[{ on := 2, ground := Ground.data }], guard := none }) rfl (fun K hK => ?_) AllReadyH.nil
    go_simp
    refine hK.out _ _ ?_ ?_
    ·(trivial)
    clear hK K hHeld; intro hHeld
    try simp only [Act.put, List.setIfInBounds_toArray, List.set_cons_zero, List.set_cons_succ]
    have s2 : Below wz1.heap.size wz1 (wz1.alloc (.cells #[.slice Ac yl cc] 48)) := (Below.refl _ _).alloc (Nat.le_refl _) _
    have hd2 : Sees (wz1.alloc (.cells #[.slice Ac yl cc] 48)) (wz1.alloc (.cells #[.slice Ac yl cc] 48)).heap.size (some ⟨wz1.heap.size, 0, none⟩) [.slice Ac yl cc] := ⟨.inr ⟨_, rfl, by simp, fun j u hu => by match j, hu with | 0, hu => (simp at hu; subst hu; rw [Addr.add_lit, World.cell?_alloc_at _ _ _ _ rfl]; rfl)⟩⟩
    obtain ⟨wz2, hwz2⟩ : ∃ wz2, (wz1.alloc (.cells #[.slice Ac yl cc] 48)) = wz2 := ⟨_, rfl⟩
    rw [hwz2] at s2 hd2 ⊢
    clear hHeld
    have hHeld : True := trivial
    have r2 := r1.trans (s2.mono r1.size)
    have c2 := (hbox.below r2 hbox.lt).cell
    have f2 := (hbox.below r2 hbox.lt).frozen
    have sm2 := (sm1.keep (Kept.of_below s2 fun k e => e.2)).mono (m' := fun k => W.heap.size ≤ k ∧ k < wz2.heap.size) fun k e => ⟨e.1, Nat.lt_of_lt_of_le e.2 s2.size⟩
    refine wpAnyH_ready (rs := [4]) (by kernel_rfl) (by simp) ?_
    refine AllReadyH.cons (o := { dst := some 19, op := Op.call { callee := Callee.builtin Builtin.append, args := #[Operand.tmp 15, Operand.tmp 18], argTypes := #[47, 47] }, type := 47, pos := "itempart.go:204", after := #[{ on := 0, ground := Ground.data }, { on := 3, ground := Ground.data }, { on := 2, ground := Ground.chain }], guard := none }) rfl (fun K hK => ?_) AllReadyH.nil
    refine step_append_v (by rfl) (.tmp 15) (.tmp 18) 47 (by rfl) 48 i0 _ 1 24 Tryz.underlying47 hi0 hz0 hz1 hz2 rfl (by omega) (w1.heap.size + 2) _ _ _ (by rfl) (ownsRow_kept k1 (fun k e => r2.block k (hq k (k2 k e)).2)) _ (some ⟨wz1.heap.size, 0, none⟩) 1 1 [.slice Ac yl cc] (by rfl) rfl hd2 (fun u hu => by simp at hu; subst hu; rfl) (by simp only [maxLen]; omega) (by omega) (Nat.le_trans hbW r2.size) ?_
    intro v' wz3 hown3 hon3
    obtain ⟨gv, cv', rfl⟩ := ownsRow_succ hown3
    have c3 := ((hbox.below r2 hbox.lt).turn (Turn.onto (T := fun k => _ = some k) hon3 fun k e => e) hnb).cell
    have f3 := ((hbox.below r2 hbox.lt).turn (Turn.onto (T := fun k => _ = some k) hon3 fun k e => e) hnb).frozen
    refine hK.out _ _ ?_ ?_
    ·(trivial)
    clear hK K hHeld; intro hHeld
    try simp only [Act.put, List.setIfInBounds_toArray, List.set_cons_zero, List.set_cons_succ]
    refine wpAnyH_ready (rs := [5]) (by kernel_rfl) (by simp) ?_
    refine AllReadyH.cons (o := { dst := none, op := Op.store 47 (Operand.tmp 5) (Operand.tmp 19), type := 0, pos := "itempart.go:204", after := #[{ on := 4, ground := Ground.data }, { on := 4, ground := Ground.chain }, { on := 0, ground := Ground.phase }, { on := 1, ground := Ground.phase }, { on := 2, ground := Ground.phase }, { on := 3, ground := Ground.phase }, { on := 4, ground := Ground.phase }], guard := none }) rfl (fun K hK => ?_) AllReadyH.nil
    go_simp
    refine hK.out _ _ ?_ ?_
    ·(trivial)
    clear hK K hHeld; intro hHeld
    try simp only [Act.put, List.setIfInBounds_toArray, List.set_cons_zero, List.set_cons_succ]
    refine wpAnyH_done (by kernel_rfl) ?_ _
    refine Only.normal ?_
    gi_wp2_with fail
    obtain rfl := HLN.out
    obtain rfl := HYL.out
    obtain ⟨q', hq', hQ', hB', hT'⟩ := coll_done (wp := wz2) hbox hq (by have := HZ1.out; omega) hbW k1' k2' k3 r2 sm2 hcc hown3 hon3
    have hTT := hT'.mono (T' := fun k => ¬ s k ∧ ¬ (k < w.heap.size ∨ k = w.heap.size + 1 + 1 ∨ k = w.heap.size + 1 + 1 + 1) ∧ k ≠ w1.heap.size ∧ k ≠ w1.heap.size + 1) (fun j _ e => by have hz := HZ1.out; rcases e with rfl | e; exact ⟨fun e => by have := h2 _ e; omega, by omega, by omega, by omega⟩; have h1 := (hq _ (k2' _ e)).1; exact ⟨(h9 _ (k2' _ e)).2, by omega, by omega, by omega⟩)
    have hTb := hT'.below (b := w.heap.size) (fun j e => by rcases e with rfl | e; omega; have h1 := (hq _ (k2' _ e)).1; have hz := HZ1.out; omega) (by have hz := HZ1.out; omega)
    have hq2 : ∀ k, q' k → (w1.heap.size + 2 ≤ k ∧ k < _) ∧ ¬ s k := fun k hk => by have h1 := hq' k hk; refine ⟨⟨?_, h1.2⟩, fun e => ?_⟩; (rcases h1.1 with g | g; exact (hq k g).1; omega); (rcases h1.1 with g | g; exact (h9 k g).2 e; exact absurd (h2 k e).2 (by omega))
    exact And.intro hTT ⟨fun k hk => ⟨(h2 k hk).1, Nat.lt_of_lt_of_le (h2 k hk).2 hT'.size⟩, h3.trans hTb, Nat.le_trans h4 hT'.size, h5.turn hT' (by rintro (e | e); omega; have h1 := (hq _ (k2' _ e)).1; have hz := HZ1.out; omega), by intro z hz; rw [List.map_append, List.mem_append] at hz; (rcases hz with hz | hz; exact h6 z hz; simp at hz; rw [hz]; exact HBP.out), _, q', hB', by rw [List.map_append]; exact hQ', hq2⟩
   refine AllReadyH.cons (o := { dst := some 17, op := Op.call { callee := Callee.value (Operand.func 103), args := #[Operand.tmp 16], argTypes := #[48] }, type := 48, pos := "itempart.go:204", after := #[{ on := 1, ground := Ground.data }], guard := none }) rfl (fun K hK => ?_) AllReadyH.nil
   go_simp
   refine (hcl wz0 ((g1.keep (Kept.of_below r0 hgl)).sees (fun k hk => Nat.lt_of_lt_of_le (hgl k hk) r0.size))).out.mono ?_
   rintro en wz1 ⟨vc, rfl, hownc, honc⟩
   have s1 := honc.below_nil
   obtain ⟨Ac, cc, ec, hcc, -, -, -⟩ := hownc.open_
   rw [HYL.out] at ec hcc
   subst ec
   have r1 := r0.trans (s1.mono r0.size)
   have sm1 : SeesU (fun k => W.heap.size ≤ k ∧ k < wz1.heap.size) wz1 Ac (bv y.1) := (ownB_seesU hownc).mono fun k e => ⟨Nat.le_trans r0.size e.1, e.2⟩
   have c1 := (hbox.below r1 hbox.lt).cell
   have f1 := (hbox.below r1 hbox.lt).frozen
   go_wp2_with fail
   refine hK.out _ _ ?_ ?_
   ·(trivial)
   clear hK K hHeld; intro hHeld
   try simp only [Act.put, List.setIfInBounds_toArray, List.set_cons_zero, List.set_cons_succ]
   refine wpAnyH_ready (rs := [0, 3]) (by kernel_rfl) (by simp) ?_
   refine AllReadyH.cons (o := { dst := some 15, op := Op.load 47 (Operand.tmp 5), type := 47, pos := "itempart.go:204", after := #[], guard := none }) rfl (fun K hK => ?_) ?_
   ·go_simp
    refine hK.out _ _ ?_ ?_
    ·(trivial)
    clear hK K hHeld; intro hHeld
    try simp only [Act.put, List.setIfInBounds_toArray, List.set_cons_zero, List.set_cons_succ]
    refine wpAnyH_ready (rs := [3]) (by kernel_rfl) (by simp) ?_
    refine AllReadyH.cons (o := { dst := some 18, op := Op.buildSlice 47 1 #[(0, Operand.tmp 17)], type := 47, pos := "itempart.go:204", after := #[{ on := 2, ground := Ground.data }], guard := none }) rfl (fun K hK => ?_) AllReadyH.nil
    go_simp
    refine hK.out _ _ ?_ ?_
    ·(trivial)
    clear hK K hHeld; intro hHeld
    try simp only [Act.put, List.setIfInBounds_toArray, List.set_cons_zero, List.set_cons_succ]
    have s2 : Below wz1.heap.size wz1 (wz1.alloc (.cells #[.slice Ac yl cc] 48)) := (Below.refl _ _).alloc (Nat.le_refl _) _
    have hd2 : Sees (wz1.alloc (.cells #[.slice Ac yl cc] 48)) (wz1.alloc (.cells #[.slice Ac yl cc] 48)).heap.size (some ⟨wz1.heap.size, 0, none⟩) [.slice Ac yl cc] := ⟨.inr ⟨_, rfl, by simp, fun j u hu => by match j, hu with | 0, hu => (simp at hu; subst hu; rw [Addr.add_lit, World.cell?_alloc_at _ _ _ _ rfl]; rfl)⟩⟩
    obtain ⟨wz2, hwz2⟩ : ∃ wz2, (wz1.alloc (.cells #[.slice Ac yl cc] 48)) = wz2 := ⟨_, rfl⟩
    rw [hwz2] at s2 hd2 ⊢
    clear hHeld
    have hHeld : True := trivial
    have r2 := r1.trans (s2.mono r1.size)
    have c2 := (hbox.below r2 hbox.lt).cell
    have f2 := (hbox.below r2 hbox.lt).frozen
    have sm2 := (sm1.keep (Kept.of_below s2 fun k e => e.2)).mono (m' := fun k => W.heap.size ≤ k ∧ k < wz2.heap.size) fun k e => ⟨e.1, Nat.lt_of_lt_of_le e.2 s2.size⟩
    refine wpAnyH_ready (rs := [4]) (by kernel_rfl) (by simp) ?_
    refine AllReadyH.cons (o := { dst := some 19, op := Op.call { callee := Callee.builtin Builtin.append, args := #[Operand.tmp 15, Operand.tmp 18], argTypes := #[47, 47] }, type := 47, pos := "itempart.go:204", after := #[{ on := 0, ground := Ground.data }, { on := 3, ground := Ground.data }, { on := 2, ground := Ground.chain }], guard := none }) rfl (fun K hK => ?_) AllReadyH.nil
    refine step_append_v (by rfl) (.tmp 15) (.tmp 18) 47 (by rfl) 48 i0 _ 1 24 Tryz.underlying47 hi0 hz0 hz1 hz2 rfl (by omega) (w1.heap.size + 2) _ _ _ (by rfl) (ownsRow_kept k1 (fun k e => r2.block k (hq k (k2 k e)).2)) _ (some ⟨wz1.heap.size, 0, none⟩) 1 1 [.slice Ac yl cc] (by rfl) rfl hd2 (fun u hu => by simp at hu; subst hu; rfl) (by simp only [maxLen]; omega) (by omega) (Nat.le_trans hbW r2.size) ?_
    intro v' wz3 hown3 hon3
    obtain ⟨gv, cv', rfl⟩ := ownsRow_succ hown3
    have c3 := ((hbox.below r2 hbox.lt).turn (Turn.onto (T := fun k => _ = some k) hon3 fun k e => e) hnb).cell
    have f3 := ((hbox.below r2 hbox.lt).turn (Turn.onto (T := fun k => _ = some k) hon3 fun k e => e) hnb).frozen
    refine hK.out _ _ ?_ ?_
    ·(trivial)
    clear hK K hHeld; intro hHeld
    try simp only [Act.put, List.setIfInBounds_toArray, List.set_cons_zero, List.set_cons_succ]
    refine wpAnyH_ready (rs := [5]) (by kernel_rfl) (by simp) ?_
    refine AllReadyH.cons (o := { dst := none, op := Op.store 47 (Operand.tmp 5) (Operand.tmp 19), type := 0, pos := "itempart.go:204", after := #[{ on := 4, ground := Ground.data }, { on := 4, ground := Ground.chain }, { on := 0, ground := Ground.phase }, { on := 1, ground := Ground.phase }, { on := 2, ground := Ground.phase }, { on := 3, ground := Ground.phase }, { on := 4, ground := Ground.phase }], guard := none }) rfl (fun K hK => ?_) AllReadyH.nil
    go_simp
    refine hK.out _ _ ?_ ?_
    ·(trivial)
    clear hK K hHeld; intro hHeld
    try simp only [Act.put, List.setIfInBounds_toArray, List.set_cons_zero, List.set_cons_succ]
    refine wpAnyH_done (by kernel_rfl) ?_ _
    refine Only.normal ?_
    gi_wp2_with fail
    obtain rfl := HLN.out
    obtain rfl := HYL.out
    obtain ⟨q', hq', hQ', hB', hT'⟩ := coll_done (wp := wz2) hbox hq (by have := HZ1.out; omega) hbW k1' k2' k3 r2 sm2 hcc hown3 hon3
    have hTT := hT'.mono (T' := fun k => ¬ s k ∧ ¬ (k < w.heap.size ∨ k = w.heap.size + 1 + 1 ∨ k = w.heap.size + 1 + 1 + 1) ∧ k ≠ w1.heap.size ∧ k ≠ w1.heap.size + 1) (fun j _ e => by have hz := HZ1.out; rcases e with rfl | e; exact ⟨fun e => by have := h2 _ e; omega, by omega, by omega, by omega⟩; have h1 := (hq _ (k2' _ e)).1; exact ⟨(h9 _ (k2' _ e)).2, by omega, by omega, by omega⟩)
    have hTb := hT'.below (b := w.heap.size) (fun j e => by rcases e with rfl | e; omega; have h1 := (hq _ (k2' _ e)).1; have hz := HZ1.out; omega) (by have hz := HZ1.out; omega)
    have hq2 : ∀ k, q' k → (w1.heap.size + 2 ≤ k ∧ k < _) ∧ ¬ s k := fun k hk => by have h1 := hq' k hk; refine ⟨⟨?_, h1.2⟩, fun e => ?_⟩; (rcases h1.1 with g | g; exact (hq k g).1; omega); (rcases h1.1 with g | g; exact (h9 k g).2 e; exact absurd (h2 k e).2 (by omega))
    exact And.intro hTT ⟨fun k hk => ⟨(h2 k hk).1, Nat.lt_of_lt_of_le (h2 k hk).2 hT'.size⟩, h3.trans hTb, Nat.le_trans h4 hT'.size, h5.turn hT' (by rintro (e | e); omega; have h1 := (hq _ (k2' _ e)).1; have hz := HZ1.out; omega), by intro z hz; rw [List.map_append, List.mem_append] at hz; (rcases hz with hz | hz; exact h6 z hz; simp at hz; rw [hz]; exact HBP.out), _, q', hB', by rw [List.map_append]; exact hQ', hq2⟩
   refine AllReadyH.cons (o := { dst := some 18, op := Op.buildSlice 47 1 #[(0, Operand.tmp 17)], type := 47, pos := "itempart.go:204", after := #[{ on := 2, ground := Ground.data }], guard := none }) rfl (fun K hK => ?_) AllReadyH.nil
   go_simp
   refine hK.out _ _ ?_ ?_
   ·(trivial)
   clear hK K hHeld; intro hHeld
   try simp only [Act.put, List.setIfInBounds_toArray, List.set_cons_zero, List.set_cons_succ]
   have s2 : Below wz1.heap.size wz1 (wz1.alloc (.cells #[.slice Ac yl cc] 48)) := (Below.refl _ _).alloc (Nat.le_refl _) _
   have hd2 : Sees (wz1.alloc (.cells #[.slice Ac yl cc] 48)) (wz1.alloc (.cells #[.slice Ac yl cc] 48)).heap.size (some ⟨wz1.heap.size, 0, none⟩) [.slice Ac yl cc] := ⟨.inr ⟨_, rfl, by simp, fun j u hu => by match j, hu with | 0, hu => (simp at hu; subst hu; rw [Addr.add_lit, World.cell?_alloc_at _ _ _ _ rfl]; rfl)⟩⟩
   obtain ⟨wz2, hwz2⟩ : ∃ wz2, (wz1.alloc (.cells #[.slice Ac yl cc] 48)) = wz2 := ⟨_, rfl⟩
   rw [hwz2] at s2 hd2 ⊢
   clear hHeld
   have hHeld : True := trivial
   have r2 := r1.trans (s2.mono r1.size)
   have c2 := (hbox.below r2 hbox.lt).cell
   have f2 := (hbox.below r2 hbox.lt).frozen
   have sm2 := (sm1.keep (Kept.of_below s2 fun k e => e.2)).mono (m' := fun k => W.heap.size ≤ k ∧ k < wz2.heap.size) fun k e => ⟨e.1, Nat.lt_of_lt_of_le e.2 s2.size⟩
   refine wpAnyH_ready (rs := [0]) (by kernel_rfl) (by simp) ?_
   refine AllReadyH.cons (o := { dst := some 15, op := Op.load 47 (Operand.tmp 5), type := 47, pos := "itempart.go:204", after := #[], guard := none }) rfl (fun K hK => ?_) AllReadyH.nil
   go_simp
   refine hK.out _ _ ?_ ?_
   ·(trivial)
   clear hK K hHeld; intro hHeld
   try simp only [Act.put, List.setIfInBounds_toArray, List.set_cons_zero, List.set_cons_succ]
   refine wpAnyH_ready (rs := [4]) (by kernel_rfl) (by simp) ?_
   refine AllReadyH.cons (o := { dst := some 19, op := Op.call { callee := Callee.builtin Builtin.append, args := #[Operand.tmp 15, Operand.tmp 18], argTypes := #[47, 47] }, type := 47, pos := "itempart.go:204", after := #[{ on := 0, ground := Ground.data }, { on := 3, ground := Ground.data }, { on := 2, ground := Ground.chain }], guard := none }) rfl (fun K hK => ?_) AllReadyH.nil
   refine step_append_v (by rfl) (.tmp 15) (.tmp 18) 47 (by rfl) 48 i0 _ 1 24 Tryz.underlying47 hi0 hz0 hz1 hz2 rfl (by omega) (w1.heap.size + 2) _ _ _ (by rfl) (ownsRow_kept k1 (fun k e => r2.block k (hq k (k2 k e)).2)) _ (some ⟨wz1.heap.size, 0, none⟩) 1 1 [.slice Ac yl cc] (by rfl) rfl hd2 (fun u hu => by simp at hu; subst hu; rfl) (by simp only [maxLen]; omega) (by omega) (Nat.le_trans hbW r2.size) ?_
   intro v' wz3 hown3 hon3
   obtain ⟨gv, cv', rfl⟩ := ownsRow_succ hown3
   have c3 := ((hbox.below r2 hbox.lt).turn (Turn.onto (T := fun k => _ = some k) hon3 fun k e => e) hnb).cell
   have f3 := ((hbox.below r2 hbox.lt).turn (Turn.onto (T := fun k => _ = some k) hon3 fun k e => e) hnb).frozen
   refine hK.out _ _ ?_ ?_
   ·(trivial)
   clear hK K hHeld; intro hHeld
   try simp only [Act.put, List.setIfInBounds_toArray, List.set_cons_zero, List.set_cons_succ]
   refine wpAnyH_ready (rs := [5]) (by kernel_rfl) (by simp) ?_
   refine AllReadyH.cons (o := { dst := none, op := Op.store 47 (Operand.tmp 5) (Operand.tmp 19), type := 0, pos := "itempart.go:204", after := #[{ on := 4, ground := Ground.data }, { on := 4, ground := Ground.chain }, { on := 0, ground := Ground.phase }, { on := 1, ground := Ground.phase }, { on := 2, ground := Ground.phase }, { on := 3, ground := Ground.phase }, { on := 4, ground := Ground.phase }], guard := none }) rfl (fun K hK => ?_) AllReadyH.nil
   go_simp
   refine hK.out _ _ ?_ ?_
   ·(trivial)
   clear hK K hHeld; intro hHeld
   try simp only [Act.put, List.setIfInBounds_toArray, List.set_cons_zero, List.set_cons_succ]
   refine wpAnyH_done (by kernel_rfl) ?_ _
   refine Only.normal ?_
   gi_wp2_with fail
   obtain rfl := HLN.out
   obtain rfl := HYL.out
   obtain ⟨q', hq', hQ', hB', hT'⟩ := coll_done (wp := wz2) hbox hq (by have := HZ1.out; omega) hbW k1' k2' k3 r2 sm2 hcc hown3 hon3
   have hTT := hT'.mono (T' := fun k => ¬ s k ∧ ¬ (k < w.heap.size ∨ k = w.heap.size + 1 + 1 ∨ k = w.heap.size + 1 + 1 + 1) ∧ k ≠ w1.heap.size ∧ k ≠ w1.heap.size + 1) (fun j _ e => by have hz := HZ1.out; rcases e with rfl | e; exact ⟨fun e => by have := h2 _ e; omega, by omega, by omega, by omega⟩; have h1 := (hq _ (k2' _ e)).1; exact ⟨(h9 _ (k2' _ e)).2, by omega, by omega, by omega⟩)
   have hTb := hT'.below (b := w.heap.size) (fun j e => by rcases e with rfl | e; omega; have h1 := (hq _ (k2' _ e)).1; have hz := HZ1.out; omega) (by have hz := HZ1.out; omega)
   have hq2 : ∀ k, q' k → (w1.heap.size + 2 ≤ k ∧ k < _) ∧ ¬ s k := fun k hk => by have h1 := hq' k hk; refine ⟨⟨?_, h1.2⟩, fun e => ?_⟩; (rcases h1.1 with g | g; exact (hq k g).1; omega); (rcases h1.1 with g | g; exact (h9 k g).2 e; exact absurd (h2 k e).2 (by omega))
   exact And.intro hTT ⟨fun k hk => ⟨(h2 k hk).1, Nat.lt_of_lt_of_le (h2 k hk).2 hT'.size⟩, h3.trans hTb, Nat.le_trans h4 hT'.size, h5.turn hT' (by rintro (e | e); omega; have h1 := (hq _ (k2' _ e)).1; have hz := HZ1.out; omega), by intro z hz; rw [List.map_append, List.mem_append] at hz; (rcases hz with hz | hz; exact h6 z hz; simp at hz; rw [hz]; exact HBP.out), _, q', hB', by rw [List.map_append]; exact hQ', hq2⟩
  | false =>
   have HBP := Lib.hid hbp
   clear hbp hln
   gi_wp2_with fail
   refine ⟨trivial, (CallsIn.inRound l (callsIn_wide.2 hP.out)).mono ?_⟩
   rintro e wq ⟨rfl, rfl⟩
   gi_wp2_with fail
   refine ⟨Turn.refl _ _, rfl, h2, h3, h4, ?_, _, q, hbox, ?_, h9⟩
   ·rw [List.map_append]; exact g3
   ·obtain ⟨t, ht⟩ := g3
    have htw : Y.takeWhile (preB x) = pre.map (·.1) := by
     rw [← ht, List.append_assoc]
     exact takeWhile_stop h6 HBP.out
    rw [htw]
    exact h8l
 case done =>
  rintro s xs W hS ⟨h2, h3, h4, h5, h6, v, q, hbox, h8, h9⟩ hK
  have hc7 := hbox.cell
  have hxs : xs.map (·.1) = Y := hS
  rw [hxs] at h8
  have hlen : Y.takeWhile (preB x) = Y := takeWhile_all (by rw [← hxs]; exact h6)
  rw [← hlen] at h8
  obtain ⟨Av, cv, rfl, hcv, -⟩ := h8.open_
  have HZ1 := Lib.hid hz1
  have hpt := Turn.putObj W w1.heap.size (.deferred none) (T := fun k => k = w1.heap.size) rfl
  have hres := (h8.keep (Kept.of_turn hpt fun k hk => ⟨(h9 k hk).1.2, by have := (h9 k hk).1.1; omega⟩)).toS (fun k hk => ⟨(h9 k hk).1.1, by rw [World.putObj_size]; exact (h9 k hk).1.2⟩)
  have hbel := h3.trans (hpt.below (b := w.heap.size) (fun j hj => by omega) h3.size)
  have hres2 : OwnS (W.putObj w1.heap.size (.deferred none)) w.heap.size (.slice Av (Y.takeWhile (preB x)).length cv) (Y.takeWhile (preB x)) := by
   exact OwnS.base_le hres (by omega)
  obtain ⟨lz, hlz⟩ : ∃ lz, (Y.takeWhile (preB x)).length = lz := ⟨_, rfl⟩
  rw [hlz] at hc7 hres2
  clear hz1 hlz
  gi_wp2_with fail
  refine ⟨by simp, .inl ⟨_, _, rfl, run_takeDeferred hK, ?_⟩⟩
  exact ⟨_, results_tmp rfl _ _ _, .slice Av lz cv, rfl, hres2, hbel⟩
 case stop =>
  rintro c s pre W hS ⟨rfl, h2, h3, h4, h6, v, q, hbox, h8, h9⟩ hK
  have hc7 := hbox.cell
  obtain ⟨Av, cv, rfl, hcv, -⟩ := h8.open_
  have HZ1 := Lib.hid hz1
  have hpt := Turn.putObj W w1.heap.size (.deferred none) (T := fun k => k = w1.heap.size) rfl
  have hres := (h8.keep (Kept.of_turn hpt fun k hk => ⟨(h9 k hk).1.2, by have := (h9 k hk).1.1; omega⟩)).toS (fun k hk => ⟨(h9 k hk).1.1, by rw [World.putObj_size]; exact (h9 k hk).1.2⟩)
  have hbel := h3.trans (hpt.below (b := w.heap.size) (fun j hj => by omega) h3.size)
  have hres2 : OwnS (W.putObj w1.heap.size (.deferred none)) w.heap.size (.slice Av (Y.takeWhile (preB x)).length cv) (Y.takeWhile (preB x)) := OwnS.base_le hres (by omega)
  obtain ⟨lz, hlz⟩ : ∃ lz, (Y.takeWhile (preB x)).length = lz := ⟨_, rfl⟩
  rw [hlz] at hc7 hres2
  clear hz1 hlz
  gi_wp2_with fail
  refine ⟨by simp, .inl ⟨_, _, rfl, run_takeDeferred hK, ?_⟩⟩
  exact ⟨_, results_tmp rfl _ _ _, .slice Av lz cv, rfl, hres2, hbel⟩
end Go.Proofs.YtalmnodgjjcefaaGreatDoor
namespace Go.Proofs.YtalmnodgjjcefaaGreatDoor
open Go.RowKit Go.Shelf
attribute [local go_sem] Oper.semAt_some
abbrev Framed := (Item × Nat) × (Option Addr × Nat)
def Framed.vals (y : Framed) : Array Value := #[.slice y.2.1 y.1.1.length y.2.2, .int .i64 (y.1.2 : Nat)]
end Go.Proofs.YtalmnodgjjcefaaGreatDoor
