/-
  kmerge.Items, walked: the items of all rows, rising, each once.
-/
import Derived.Test.YtcfbblgoligagaaKmCnt1B
import Derived.Test.YtcfbblgoligagaaBytesClone
namespace Go.Proofs.Ytcfbblgoligagaa.KB
open Go.RowKit Go.Shelf

attribute [local go_sem] Oper.semAt_some

theorem cntOk_keep {n0 D : Nat} {K : List Key} {s : Nat → Prop} {pre : List (El × Nat)} {y : El × Nat} {A B : World} (h : CntOk n0 K s pre y A) (hn0 : n0 ≤ D) (ht : Turn (fun k => k = D ∨ k = D + 1) A B) : CntOk n0 K s pre y B :=
  ⟨h.1.keep (Kept.of_turn ht fun k hk => ⟨Nat.lt_of_lt_of_le hk h.2.2.1, by rintro (e | e) <;> omega⟩), h.2.1, Nat.le_trans h.2.2.1 ht.size, h.2.2.2⟩
theorem runs_len (K : List Key) : (runs K).length ≤ K.length := by
  have hA : ∀ (t : List Key) (a : Key) (n : Nat), (runsA a n t).length ≤ t.length + 1 := fun t => by
    induction t with
    | nil => intro a n; simp [runsA]
    | cons y t ih =>
      intro a n
      unfold runsA
      split
      · have := ih a (n + 1); simp; omega
      · have := ih y 1; simp; omega
  cases K with
  | nil => simp [runs]
  | cons a t => exact hA t a 1
theorem runs_sub (K : List Key) : ∀ x ∈ (runs K).map (·.1), x ∈ K := by
  have hA : ∀ (t : List Key) (a : Key) (n : Nat), ∀ x ∈ (runsA a n t).map (·.1), x ∈ a :: t := fun t => by
    induction t with
    | nil => intro a n x hx; simpa [runsA] using hx
    | cons y t ih =>
      intro a n x hx
      unfold runsA at hx
      split at hx
      · rcases List.mem_cons.1 (ih a (n + 1) x hx) with h | h
        · simp [h]
        · simp [h]
      · rw [List.map_cons, List.mem_cons] at hx
        rcases hx with h | h
        · simp [show x = a from h]
        · exact List.mem_cons_of_mem _ (ih y 1 x h)
  cases K with
  | nil => simp [runs]
  | cons a t => exact hA t a 1
/-- The items of rows, as keys. -/
def keysOf (ll : List (List El)) : List (List Item) := ll.map fun r => r.map key
theorem keysOf_flat (ll : List (List El)) : (keysOf ll).flatten = ll.flatten.map key := by
  unfold keysOf
  rw [List.map_flatten]

set_option maxRecDepth 100000 in
set_option maxHeartbeats 3200000 in
theorem Items_own (A : Option Addr) (n c : Nat) (ll : List (List El)) (w : World) (hR : RowsIn (fun k => k < w.heap.size) w A ll) (hn : ll.length = n) (hn6 : n ≤ 100000) (hl : ∀ r ∈ ll, r.length ≤ 1000000) (hK12 : ll.flatten.length ≤ 1000000000) (hy : ∀ r ∈ ll, ∀ y ∈ r, y.1.length ≤ 1099511627776) :
    Calls Try.prog 12 #[.slice A n c] w fun e w' => ∃ v, e = .returned v ∧ OwnQ (fun k => w.heap.size ≤ k ∧ k < w'.heap.size) w' w.heap.size v (uniqL ahead (ll.flatten.map key)) ∧ Below w.heap.size w w' := by
  have hU : (runs (sortK lt (ll.flatten.map key))).map (·.1) = uniqL ahead (ll.flatten.map key) := rfl
  obtain ⟨U, hUU⟩ : ∃ U, uniqL ahead (ll.flatten.map key) = U := ⟨_, rfl⟩
  rw [hUU] at hU ⊢
  have HU := Lib.hid hU
  clear hU hUU
  have hYK : ∀ y ∈ sortK lt (ll.flatten.map key), y.length ≤ 1099511627776 := fun y hm => by
    have h1 := (sortK_perm _).mem_iff.1 hm
    obtain ⟨z, hz, rfl⟩ := List.mem_map.1 h1
    obtain ⟨r, hr, hzr⟩ := List.mem_flatten.1 hz
    exact hy r hr z hzr
  refine (callsIn_wide (n := 12)).1 ?_
  have hF := fun W => counted_any A n c W
  unfold cmpF at hF
  have HF := fun W => Lib.hid (hF W)
  clear hF
  refine callsIn_of_wp_marks Try.func12 rfl trivial ?_ rfl
  simp only [Try.ntmps12, List.size_toArray, List.length_cons, List.length_nil, Nat.reduceAdd, Nat.reduceSub, Array.replicate_succ, Array.replicate_zero, List.push_toArray, List.append_toArray, List.nil_append, List.cons_append]
  gi_wp2_with fail
  refine ⟨trivial, (callsIn_wide.2 (HF _).out).mono ?_⟩
  rintro e w1 ⟨rfl, hw1⟩
  have b0 := Box1.new w 26 (.slice none 0 0)
  have hb0 : Below w.heap.size w (w.alloc (.cells #[.slice none 0 0] 26)) := (Below.refl _ w).alloc (Nat.le_refl _) _
  have hz0 : (w.alloc (.cells #[.slice none 0 0] 26)).heap.size = w.heap.size + 1 := by simp
  generalize w.alloc (.cells #[.slice none 0 0] 26) = Wa at b0 hb0 hz0 hw1 ⊢
  have b2 := (Box1.new Wa 22 (.slice A n c)).alloc (.cells #[.func (.func 25) #[] #[]] 47)
  have b3 := Box1.new (Wa.alloc (.cells #[.slice A n c] 22)) 47 (.func (.func 25) #[] #[])
  rw [World.size_alloc] at b3
  rw [← hw1, hz0] at b2 b3
  have hb1 : Below Wa.heap.size Wa w1 := by rw [hw1]; exact ((Below.refl _ Wa).alloc (Nat.le_refl _) _).alloc (by simp) _
  have hz1 : w1.heap.size = w.heap.size + 1 + 1 + 1 := by rw [hw1]; simp [hz0]
  have c0 := b0.turn (Turn.of_new (T := fun _ => False) hb1) id
  have hbw : Below w.heap.size w w1 := hb0.trans (hb1.mono (by omega))
  have hD := counted1_seq (w := w1) (c := c) w.heap.size (hR.keep (Kept.of_below hbw fun k e => e)) hn hn6 hl (w.heap.size + 1) (w.heap.size + 1 + 1) b2.cell b3.cell (by omega) (by omega) (by omega) (by omega) 11
  have hKl : (sortK lt (ll.flatten.map key)).length ≤ 1000000000 := by rw [(sortK_perm _).length_eq, List.length_map]; exact hK12
  have hU := HU.out
  obtain ⟨K, hK⟩ : ∃ K, sortK lt (ll.flatten.map key) = K := ⟨_, rfl⟩
  rw [hK] at hD hKl hU hYK
  clear HU
  have HU := Lib.hid hU
  have HKL := Lib.hid hKl
  have HYK := Lib.hid hYK
  clear HF hw1 b0 hb0 hb1 b2 b3 hR hn hl hK12 hK hKl hU hYK hy
  rw [hz0]
  gi_wp2_with fail
  refine wpIn_rangeFunc_T (F := Fence.wide) (n := 12) rfl (by omega) (gf := 34) (lb := #[.pointer (some ⟨w.heap.size + 1, 0, none⟩), .pointer (some ⟨w.heap.size + 1 + 1, 0, none⟩)]) rfl trivial (enters_of Try.func34 (by kernel_rfl) rfl)
    hD (Below.refl _ _) (fun _ => rfl) (fun k hk => by rcases hk with (hk | rfl | rfl) | hk <;> first | omega | exact hk.elim)
    (fun s pre x A B h hR ht => cntOk_keep h (by omega) ht)
    (fun s pre W => (∀ k, s k → w.heap.size + 1 + 1 + 1 ≤ k ∧ k < W.heap.size) ∧ Below w.heap.size w W ∧ w1.heap.size ≤ W.heap.size ∧ ∃ (v : Value) (q : Nat → Prop), Box1 W w.heap.size 26 v ∧ OwnQ q W (w1.heap.size + 2) v (pre.map fun z => z.1.1) ∧ (∀ k, q k → (w1.heap.size + 2 ≤ k ∧ k < W.heap.size) ∧ ¬ s k))
    (fun c s pre wr => False)
    ?hI ?hIx ?hI2 ?hIx2 ?h0 (fun y => { tmps := #[.slice A n c, undef, .slice none 0 0, .pointer (some ⟨w.heap.size, 0, none⟩), .slice y.1.2.1 y.1.1.length y.1.2.2, .slice A n c, .func (.func 34) #[] #[.pointer (some ⟨w.heap.size + 1, 0, none⟩), .pointer (some ⟨w.heap.size + 1 + 1, 0, none⟩)], .slice y.1.2.1 y.1.1.length y.1.2.2, .int .i64 (y.2 : Nat), undef, undef, undef, undef, undef, undef], defers := [] }) ?assign ?body ?done ?stop
  case hI =>
    rintro s pre A B ⟨h2, h3, h4, v, q, h7, h8, h9⟩ ht
    have hA : ∀ k, grown s A B k → w.heap.size + 1 + 1 + 1 ≤ k ∧ k < B.heap.size := fun k hk => by have hz := ht.size; rcases hk with hk | hk; have := h2 k hk; omega; omega
    refine ⟨hA, h3.trans (ht.below (fun j hj => by have := h2 j hj; omega) h3.size), by have := ht.size; omega, v, q, h7.turn ht (fun e => by have := h2 _ e; omega), h8.keep (Kept.of_turn ht fun k hk => ⟨(h9 k hk).1.2, (h9 k hk).2⟩), fun k hk => ⟨⟨(h9 k hk).1.1, Nat.lt_of_lt_of_le (h9 k hk).1.2 ht.size⟩, fun e => ?_⟩⟩
    rcases e with e | e
    · exact (h9 k hk).2 e
    · have := (h9 k hk).1.2; omega
  case hIx => exact fun c s pre A B h ht => h
  case hI2 =>
    rintro s pre A B ⟨h2, h3, h4, v, q, h7, h8, h9⟩ ht
    exact ⟨fun k hk => ⟨(h2 k hk).1, Nat.lt_of_lt_of_le (h2 k hk).2 ht.size⟩, h3.trans (ht.below (fun j hj => by omega) h3.size), by have := ht.size; omega, v, q, h7.turn ht (by omega), h8.keep (Kept.of_turn ht fun k hk => ⟨(h9 k hk).1.2, by have := (h9 k hk).1.1; omega⟩), fun k hk => ⟨⟨(h9 k hk).1.1, Nat.lt_of_lt_of_le (h9 k hk).1.2 ht.size⟩, (h9 k hk).2⟩⟩
  case hIx2 => exact fun c s pre A B h ht => h
  case h0 => exact ⟨fun k hk => hk.elim, hbw, Nat.le_refl _, _, fun _ => False, c0, OwnQ.nil _ _ _, fun k hk => hk.elim⟩
  case assign =>
    intro l y W K hK
    dsimp only [val]
    gi_wp2
    exact hK
  case body =>
    rintro l s pre ⟨y, ym⟩ W ⟨h2, h3, h4, v, q, hbox, h8, h9⟩ hlt ⟨⟨g1, g2⟩, g3, g4, g5⟩ hdW
    have hc7 := hbox.cell
    have hf7 := hbox.frozen
    have hyY : y.1.length ≤ 1099511627776 := HYK.out _ (by
      have h1 : key y ∈ (runs K).map (·.1) := List.mem_map.2 ⟨tk key (y, ym), g3.subset (by simp), rfl⟩
      exact runs_sub K _ h1)
    obtain ⟨Av, cv, rfl, hcv, -⟩ := h8.open_
    obtain ⟨ln, hln⟩ : ∃ ln, (pre.map fun z : El × Nat => z.1.1).length = ln := ⟨_, rfl⟩
    rw [hln] at hc7 hbox hcv
    have HLNP : Hid (ln = pre.length) := by unfold Hid; rw [← hln, List.length_map]
    have HLN := Lib.hid hln
    have HZ1 := Lib.hid hz1
    clear hz1
    have hq : ∀ k, q k → w1.heap.size + 2 ≤ k ∧ k < W.heap.size := fun k hk => (h9 k hk).1
    obtain ⟨i0, hi0, hz0, hz1', hz2⟩ := info_parts Try.sinfo
    obtain ⟨vs, k1', k2', k3⟩ := h8.out
    have k1 := k1'
    have k2 := k2'
    rw [hln] at k1 k2
    have hcl := fun W (hW : Sees W W.heap.size y.2.1 (bv y.1)) => Lib.hid (bytesClone_any y.2.1 y.1.length y.2.2 y.1 rfl W hW (by omega))
    obtain ⟨yl, hyl⟩ : ∃ yl, y.1.length = yl := ⟨_, rfl⟩
    rw [hyl] at hyY
    simp only [hyl] at hcl
    simp only [hyl]
    have hgl : ∀ k, k < w.heap.size → k < W.heap.size := fun k hk => Nat.lt_of_lt_of_le hk g4
    have hbW : w1.heap.size + 2 ≤ W.heap.size := hdW
    have hz1 := hz1'
    have hnb : (Value.slice Av ln cv).ownBlock ≠ some w.heap.size := fun e => by have := (hq _ (k2 _ e)).1; have := HZ1.out; omega
    have hln2 : ln ≤ 1000000000 := by have := HLNP.out; have h1 := runs_len K; have := HKL.out; omega
    have HYL := Lib.hid hyl
    clear hyl hln
    gi_wp2_with fail
    refine wpIn_round_held (S := fun _ => True) (by kernel_rfl) (by kernel_rfl) ?_ (fun hHeld => ?_)
    · (trivial)
    have r0 : Below W.heap.size W W.drew := below_drew (Below.refl _ _)
    have c0 := (hbox.below r0 hbox.lt).cell
    have f0 := (hbox.below r0 hbox.lt).frozen
    generalize W.drew = wz0 at r0 c0 f0 hHeld ⊢
    refine wpAnyH_take (i := 1) (oi := { dst := some 10, op := Op.move (Operand.tmp 4), type := 41, pos := "kmerge.go:83", after := #[], guard := none }) (v := ?_) rfl (by kernel_rfl) (by kernel_rfl) (by kernel_rfl) (fun _ _ _ h => h) (Or.inl ⟨by rfl, ?_⟩) hHeld ?_
    rotate_left
    · (intro w' hSw; (try dsimp only at hSw); go_split_ands; go_simp; first | done | with_reducible rfl)
    try simp only [Act.put, List.setIfInBounds_toArray, List.set_cons_zero, List.set_cons_succ]
    refine wpAnyH_ready (rs := [0, 2]) (by kernel_rfl) (by simp) ?_
    refine AllReadyH.cons (o := { dst := some 9, op := Op.load 26 (Operand.tmp 3), type := 26, pos := "kmerge.go:83", after := #[], guard := none }) rfl (fun K hK => ?_) ?_
    · go_simp
      refine hK.out _ _ ?_ ?_
      · (trivial)
      clear hK K hHeld; intro hHeld
      try simp only [Act.put, List.setIfInBounds_toArray, List.set_cons_zero, List.set_cons_succ]
      refine wpAnyH_ready (rs := [2]) (by kernel_rfl) (by simp) ?_
      refine AllReadyH.cons (o := { dst := some 11, op := Op.call { callee := Callee.value (Operand.func 26), args := #[Operand.tmp 10], argTypes := #[41] }, type := 41, pos := "kmerge.go:83", after := #[{ on := 1, ground := Ground.data }], guard := none }) rfl (fun K hK => ?_) AllReadyH.nil
      go_simp
      refine (hcl wz0 ((g1.keep (Kept.of_below r0 hgl)).sees (fun k hk => Nat.lt_of_lt_of_le (hgl k hk) r0.size))).out.mono ?_
      rintro en wz1 ⟨vc, rfl, hownc, honc⟩
      have s1 := honc.below_nil
      obtain ⟨Ac, cc, ec, hcc, -, -, -⟩ := hownc.open_
      rw [HYL.out] at ec hcc
      subst ec
      have r1 := r0.trans (s1.mono r0.size)
      have sm1 : SeesU (fun k => W.heap.size ≤ k ∧ k < wz1.heap.size) wz1 Ac (bv y.1) := (ownB_seesU hownc).mono fun k e => ⟨Nat.le_trans r0.size e.1, e.2⟩
      have c1 := (hbox.below r1 hbox.lt).cell
      have f1 := (hbox.below r1 hbox.lt).frozen
      go_wp2_with fail
      refine hK.out _ _ ?_ ?_
      · (trivial)
      clear hK K hHeld; intro hHeld
      try simp only [Act.put, List.setIfInBounds_toArray, List.set_cons_zero, List.set_cons_succ]
      refine wpAnyH_ready (rs := [3]) (by kernel_rfl) (by simp) ?_
      refine AllReadyH.cons (o := { dst := some 12, op := Op.buildSlice 26 1 #[(0, Operand.tmp 11)], type := 26, pos := "kmerge.go:83", after := #[{ on := 2, ground := Ground.data }], guard := none }) rfl (fun K hK => ?_) AllReadyH.nil
      go_simp
      refine hK.out _ _ ?_ ?_
      · (trivial)
      clear hK K hHeld; intro hHeld
      try simp only [Act.put, List.setIfInBounds_toArray, List.set_cons_zero, List.set_cons_succ]
      have s2 : Below wz1.heap.size wz1 (wz1.alloc (.cells #[.slice Ac yl cc] 41)) := (Below.refl _ _).alloc (Nat.le_refl _) _
      have hd2 : Sees (wz1.alloc (.cells #[.slice Ac yl cc] 41)) (wz1.alloc (.cells #[.slice Ac yl cc] 41)).heap.size (some ⟨wz1.heap.size, 0, none⟩) [.slice Ac yl cc] := ⟨.inr ⟨_, rfl, by simp, fun j u hu => by match j, hu with | 0, hu => (simp at hu; subst hu; rw [Addr.add_lit, World.cell?_alloc_at _ _ _ _ rfl]; rfl)⟩⟩
      obtain ⟨wz2, hwz2⟩ : ∃ wz2, (wz1.alloc (.cells #[.slice Ac yl cc] 41)) = wz2 := ⟨_, rfl⟩
      rw [hwz2] at s2 hd2 ⊢
      clear hHeld
      have hHeld : True := trivial
      have r2 := r1.trans (s2.mono r1.size)
      have c2 := (hbox.below r2 hbox.lt).cell
      have f2 := (hbox.below r2 hbox.lt).frozen
      have sm2 := (sm1.keep (Kept.of_below s2 fun k e => e.2)).mono (m' := fun k => W.heap.size ≤ k ∧ k < wz2.heap.size) fun k e => ⟨e.1, Nat.lt_of_lt_of_le e.2 s2.size⟩
      refine wpAnyH_ready (rs := [4]) (by kernel_rfl) (by simp) ?_
      refine AllReadyH.cons (o := { dst := some 13, op := Op.call { callee := Callee.builtin Builtin.append, args := #[Operand.tmp 9, Operand.tmp 12], argTypes := #[26, 26] }, type := 26, pos := "kmerge.go:83", after := #[{ on := 0, ground := Ground.data }, { on := 3, ground := Ground.data }, { on := 2, ground := Ground.chain }], guard := none }) rfl (fun K hK => ?_) AllReadyH.nil
      refine step_append_v (by rfl) (.tmp 9) (.tmp 12) 26 (by rfl) 41 i0 _ 1 24 Try.underlying26 hi0 hz0 hz1 hz2 rfl (by omega) (w1.heap.size + 2) _ _ _ (by rfl) (ownsRow_kept k1 (fun k e => r2.block k (hq k (k2 k e)).2)) _ (some ⟨wz1.heap.size, 0, none⟩) 1 1 [.slice Ac yl cc] (by rfl) rfl hd2 (fun u hu => by simp at hu; subst hu; rfl) (by simp only [maxLen]; omega) (by omega) (Nat.le_trans hbW r2.size) ?_
      intro v' wz3 hown3 hon3
      obtain ⟨gv, cv', rfl⟩ := ownsRow_succ hown3
      have c3 := ((hbox.below r2 hbox.lt).turn (Turn.onto (T := fun k => _ = some k) hon3 fun k e => e) hnb).cell
      have f3 := ((hbox.below r2 hbox.lt).turn (Turn.onto (T := fun k => _ = some k) hon3 fun k e => e) hnb).frozen
      refine hK.out _ _ ?_ ?_
      · (trivial)
      clear hK K hHeld; intro hHeld
      try simp only [Act.put, List.setIfInBounds_toArray, List.set_cons_zero, List.set_cons_succ]
      refine wpAnyH_ready (rs := [5]) (by kernel_rfl) (by simp) ?_
      refine AllReadyH.cons (o := { dst := none, op := Op.store 26 (Operand.tmp 3) (Operand.tmp 13), type := 0, pos := "kmerge.go:83", after := #[{ on := 4, ground := Ground.data }, { on := 4, ground := Ground.chain }, { on := 0, ground := Ground.phase }, { on := 1, ground := Ground.phase }, { on := 2, ground := Ground.phase }, { on := 3, ground := Ground.phase }, { on := 4, ground := Ground.phase }], guard := none }) rfl (fun K hK => ?_) AllReadyH.nil
      go_simp
      refine hK.out _ _ ?_ ?_
      · (trivial)
      clear hK K hHeld; intro hHeld
      try simp only [Act.put, List.setIfInBounds_toArray, List.set_cons_zero, List.set_cons_succ]
      refine wpAnyH_done (by kernel_rfl) ?_ _
      refine Only.normal ?_
      gi_wp2_with fail
      obtain rfl := HLN.out
      obtain rfl := HYL.out
      obtain ⟨q', hq', hQ', hB', hT'⟩ := coll_done (wp := wz2) hbox hq (by have := HZ1.out; omega) hbW k1' k2' k3 r2 sm2 hcc hown3 hon3
      have hTT := hT'.mono (T' := fun k => ¬ s k ∧ ¬ (k < w.heap.size ∨ k = w.heap.size + 1 ∨ k = w.heap.size + 1 + 1) ∧ k ≠ w1.heap.size ∧ k ≠ w1.heap.size + 1) (fun j _ e => by have hz := HZ1.out; rcases e with rfl | e; exact ⟨fun e => by have := h2 _ e; omega, by omega, by omega, by omega⟩; have h1 := (hq _ (k2' _ e)).1; exact ⟨(h9 _ (k2' _ e)).2, by omega, by omega, by omega⟩)
      have hTb := hT'.below (b := w.heap.size) (fun j e => by rcases e with rfl | e; omega; have h1 := (hq _ (k2' _ e)).1; have hz := HZ1.out; omega) h3.size
      have hq2 : ∀ k, q' k → (w1.heap.size + 2 ≤ k ∧ k < _) ∧ ¬ s k := fun k hk => by have h1 := hq' k hk; refine ⟨⟨?_, h1.2⟩, fun e => ?_⟩; (rcases h1.1 with g | g; exact (hq k g).1; omega); (rcases h1.1 with g | g; exact (h9 k g).2 e; exact absurd (h2 k e).2 (by omega))
      exact And.intro hTT ⟨fun k hk => ⟨(h2 k hk).1, Nat.lt_of_lt_of_le (h2 k hk).2 hT'.size⟩, h3.trans hTb, Nat.le_trans h4 hT'.size, _, q', hB', by show OwnQ q' _ _ _ ((pre ++ [(y, ym)]).map fun z => z.1.1); rw [List.map_append]; exact hQ', hq2⟩
    refine AllReadyH.cons (o := { dst := some 11, op := Op.call { callee := Callee.value (Operand.func 26), args := #[Operand.tmp 10], argTypes := #[41] }, type := 41, pos := "kmerge.go:83", after := #[{ on := 1, ground := Ground.data }], guard := none }) rfl (fun K hK => ?_) AllReadyH.nil
    go_simp
    refine (hcl wz0 ((g1.keep (Kept.of_below r0 hgl)).sees (fun k hk => Nat.lt_of_lt_of_le (hgl k hk) r0.size))).out.mono ?_
    rintro en wz1 ⟨vc, rfl, hownc, honc⟩
    have s1 := honc.below_nil
    obtain ⟨Ac, cc, ec, hcc, -, -, -⟩ := hownc.open_
    rw [HYL.out] at ec hcc
    subst ec
    have r1 := r0.trans (s1.mono r0.size)
    have sm1 : SeesU (fun k => W.heap.size ≤ k ∧ k < wz1.heap.size) wz1 Ac (bv y.1) := (ownB_seesU hownc).mono fun k e => ⟨Nat.le_trans r0.size e.1, e.2⟩
    have c1 := (hbox.below r1 hbox.lt).cell
    have f1 := (hbox.below r1 hbox.lt).frozen
    go_wp2_with fail
    refine hK.out _ _ ?_ ?_
    · (trivial)
    clear hK K hHeld; intro hHeld
    try simp only [Act.put, List.setIfInBounds_toArray, List.set_cons_zero, List.set_cons_succ]
    refine wpAnyH_ready (rs := [0, 3]) (by kernel_rfl) (by simp) ?_
    refine AllReadyH.cons (o := { dst := some 9, op := Op.load 26 (Operand.tmp 3), type := 26, pos := "kmerge.go:83", after := #[], guard := none }) rfl (fun K hK => ?_) ?_
    · go_simp
      refine hK.out _ _ ?_ ?_
      · (trivial)
      clear hK K hHeld; intro hHeld
      try simp only [Act.put, List.setIfInBounds_toArray, List.set_cons_zero, List.set_cons_succ]
      refine wpAnyH_ready (rs := [3]) (by kernel_rfl) (by simp) ?_
      refine AllReadyH.cons (o := { dst := some 12, op := Op.buildSlice 26 1 #[(0, Operand.tmp 11)], type := 26, pos := "kmerge.go:83", after := #[{ on := 2, ground := Ground.data }], guard := none }) rfl (fun K hK => ?_) AllReadyH.nil
      go_simp
      refine hK.out _ _ ?_ ?_
      · (trivial)
      clear hK K hHeld; intro hHeld
      try simp only [Act.put, List.setIfInBounds_toArray, List.set_cons_zero, List.set_cons_succ]
      have s2 : Below wz1.heap.size wz1 (wz1.alloc (.cells #[.slice Ac yl cc] 41)) := (Below.refl _ _).alloc (Nat.le_refl _) _
      have hd2 : Sees (wz1.alloc (.cells #[.slice Ac yl cc] 41)) (wz1.alloc (.cells #[.slice Ac yl cc] 41)).heap.size (some ⟨wz1.heap.size, 0, none⟩) [.slice Ac yl cc] := ⟨.inr ⟨_, rfl, by simp, fun j u hu => by match j, hu with | 0, hu => (simp at hu; subst hu; rw [Addr.add_lit, World.cell?_alloc_at _ _ _ _ rfl]; rfl)⟩⟩
      obtain ⟨wz2, hwz2⟩ : ∃ wz2, (wz1.alloc (.cells #[.slice Ac yl cc] 41)) = wz2 := ⟨_, rfl⟩
      rw [hwz2] at s2 hd2 ⊢
      clear hHeld
      have hHeld : True := trivial
      have r2 := r1.trans (s2.mono r1.size)
      have c2 := (hbox.below r2 hbox.lt).cell
      have f2 := (hbox.below r2 hbox.lt).frozen
      have sm2 := (sm1.keep (Kept.of_below s2 fun k e => e.2)).mono (m' := fun k => W.heap.size ≤ k ∧ k < wz2.heap.size) fun k e => ⟨e.1, Nat.lt_of_lt_of_le e.2 s2.size⟩
      refine wpAnyH_ready (rs := [4]) (by kernel_rfl) (by simp) ?_
      refine AllReadyH.cons (o := { dst := some 13, op := Op.call { callee := Callee.builtin Builtin.append, args := #[Operand.tmp 9, Operand.tmp 12], argTypes := #[26, 26] }, type := 26, pos := "kmerge.go:83", after := #[{ on := 0, ground := Ground.data }, { on := 3, ground := Ground.data }, { on := 2, ground := Ground.chain }], guard := none }) rfl (fun K hK => ?_) AllReadyH.nil
      refine step_append_v (by rfl) (.tmp 9) (.tmp 12) 26 (by rfl) 41 i0 _ 1 24 Try.underlying26 hi0 hz0 hz1 hz2 rfl (by omega) (w1.heap.size + 2) _ _ _ (by rfl) (ownsRow_kept k1 (fun k e => r2.block k (hq k (k2 k e)).2)) _ (some ⟨wz1.heap.size, 0, none⟩) 1 1 [.slice Ac yl cc] (by rfl) rfl hd2 (fun u hu => by simp at hu; subst hu; rfl) (by simp only [maxLen]; omega) (by omega) (Nat.le_trans hbW r2.size) ?_
      intro v' wz3 hown3 hon3
      obtain ⟨gv, cv', rfl⟩ := ownsRow_succ hown3
      have c3 := ((hbox.below r2 hbox.lt).turn (Turn.onto (T := fun k => _ = some k) hon3 fun k e => e) hnb).cell
      have f3 := ((hbox.below r2 hbox.lt).turn (Turn.onto (T := fun k => _ = some k) hon3 fun k e => e) hnb).frozen
      refine hK.out _ _ ?_ ?_
      · (trivial)
      clear hK K hHeld; intro hHeld
      try simp only [Act.put, List.setIfInBounds_toArray, List.set_cons_zero, List.set_cons_succ]
      refine wpAnyH_ready (rs := [5]) (by kernel_rfl) (by simp) ?_
      refine AllReadyH.cons (o := { dst := none, op := Op.store 26 (Operand.tmp 3) (Operand.tmp 13), type := 0, pos := "kmerge.go:83", after := #[{ on := 4, ground := Ground.data }, { on := 4, ground := Ground.chain }, { on := 0, ground := Ground.phase }, { on := 1, ground := Ground.phase }, { on := 2, ground := Ground.phase }, { on := 3, ground := Ground.phase }, { on := 4, ground := Ground.phase }], guard := none }) rfl (fun K hK => ?_) AllReadyH.nil
      go_simp
      refine hK.out _ _ ?_ ?_
      · (trivial)
      clear hK K hHeld; intro hHeld
      try simp only [Act.put, List.setIfInBounds_toArray, List.set_cons_zero, List.set_cons_succ]
      refine wpAnyH_done (by kernel_rfl) ?_ _
      refine Only.normal ?_
      gi_wp2_with fail
      obtain rfl := HLN.out
      obtain rfl := HYL.out
      obtain ⟨q', hq', hQ', hB', hT'⟩ := coll_done (wp := wz2) hbox hq (by have := HZ1.out; omega) hbW k1' k2' k3 r2 sm2 hcc hown3 hon3
      have hTT := hT'.mono (T' := fun k => ¬ s k ∧ ¬ (k < w.heap.size ∨ k = w.heap.size + 1 ∨ k = w.heap.size + 1 + 1) ∧ k ≠ w1.heap.size ∧ k ≠ w1.heap.size + 1) (fun j _ e => by have hz := HZ1.out; rcases e with rfl | e; exact ⟨fun e => by have := h2 _ e; omega, by omega, by omega, by omega⟩; have h1 := (hq _ (k2' _ e)).1; exact ⟨(h9 _ (k2' _ e)).2, by omega, by omega, by omega⟩)
      have hTb := hT'.below (b := w.heap.size) (fun j e => by rcases e with rfl | e; omega; have h1 := (hq _ (k2' _ e)).1; have hz := HZ1.out; omega) h3.size
      have hq2 : ∀ k, q' k → (w1.heap.size + 2 ≤ k ∧ k < _) ∧ ¬ s k := fun k hk => by have h1 := hq' k hk; refine ⟨⟨?_, h1.2⟩, fun e => ?_⟩; (rcases h1.1 with g | g; exact (hq k g).1; omega); (rcases h1.1 with g | g; exact (h9 k g).2 e; exact absurd (h2 k e).2 (by omega))
      exact And.intro hTT ⟨fun k hk => ⟨(h2 k hk).1, Nat.lt_of_lt_of_le (h2 k hk).2 hT'.size⟩, h3.trans hTb, Nat.le_trans h4 hT'.size, _, q', hB', by show OwnQ q' _ _ _ ((pre ++ [(y, ym)]).map fun z => z.1.1); rw [List.map_append]; exact hQ', hq2⟩
    refine AllReadyH.cons (o := { dst := some 12, op := Op.buildSlice 26 1 #[(0, Operand.tmp 11)], type := 26, pos := "kmerge.go:83", after := #[{ on := 2, ground := Ground.data }], guard := none }) rfl (fun K hK => ?_) AllReadyH.nil
    go_simp
    refine hK.out _ _ ?_ ?_
    · (trivial)
    clear hK K hHeld; intro hHeld
    try simp only [Act.put, List.setIfInBounds_toArray, List.set_cons_zero, List.set_cons_succ]
    have s2 : Below wz1.heap.size wz1 (wz1.alloc (.cells #[.slice Ac yl cc] 41)) := (Below.refl _ _).alloc (Nat.le_refl _) _
    have hd2 : Sees (wz1.alloc (.cells #[.slice Ac yl cc] 41)) (wz1.alloc (.cells #[.slice Ac yl cc] 41)).heap.size (some ⟨wz1.heap.size, 0, none⟩) [.slice Ac yl cc] := ⟨.inr ⟨_, rfl, by simp, fun j u hu => by match j, hu with | 0, hu => (simp at hu; subst hu; rw [Addr.add_lit, World.cell?_alloc_at _ _ _ _ rfl]; rfl)⟩⟩
    obtain ⟨wz2, hwz2⟩ : ∃ wz2, (wz1.alloc (.cells #[.slice Ac yl cc] 41)) = wz2 := ⟨_, rfl⟩
    rw [hwz2] at s2 hd2 ⊢
    clear hHeld
    have hHeld : True := trivial
    have r2 := r1.trans (s2.mono r1.size)
    have c2 := (hbox.below r2 hbox.lt).cell
    have f2 := (hbox.below r2 hbox.lt).frozen
    have sm2 := (sm1.keep (Kept.of_below s2 fun k e => e.2)).mono (m' := fun k => W.heap.size ≤ k ∧ k < wz2.heap.size) fun k e => ⟨e.1, Nat.lt_of_lt_of_le e.2 s2.size⟩
    refine wpAnyH_ready (rs := [0]) (by kernel_rfl) (by simp) ?_
    refine AllReadyH.cons (o := { dst := some 9, op := Op.load 26 (Operand.tmp 3), type := 26, pos := "kmerge.go:83", after := #[], guard := none }) rfl (fun K hK => ?_) AllReadyH.nil
    go_simp
    refine hK.out _ _ ?_ ?_
    · (trivial)
    clear hK K hHeld; intro hHeld
    try simp only [Act.put, List.setIfInBounds_toArray, List.set_cons_zero, List.set_cons_succ]
    refine wpAnyH_ready (rs := [4]) (by kernel_rfl) (by simp) ?_
    refine AllReadyH.cons (o := { dst := some 13, op := Op.call { callee := Callee.builtin Builtin.append, args := #[Operand.tmp 9, Operand.tmp 12], argTypes := #[26, 26] }, type := 26, pos := "kmerge.go:83", after := #[{ on := 0, ground := Ground.data }, { on := 3, ground := Ground.data }, { on := 2, ground := Ground.chain }], guard := none }) rfl (fun K hK => ?_) AllReadyH.nil
    refine step_append_v (by rfl) (.tmp 9) (.tmp 12) 26 (by rfl) 41 i0 _ 1 24 Try.underlying26 hi0 hz0 hz1 hz2 rfl (by omega) (w1.heap.size + 2) _ _ _ (by rfl) (ownsRow_kept k1 (fun k e => r2.block k (hq k (k2 k e)).2)) _ (some ⟨wz1.heap.size, 0, none⟩) 1 1 [.slice Ac yl cc] (by rfl) rfl hd2 (fun u hu => by simp at hu; subst hu; rfl) (by simp only [maxLen]; omega) (by omega) (Nat.le_trans hbW r2.size) ?_
    intro v' wz3 hown3 hon3
    obtain ⟨gv, cv', rfl⟩ := ownsRow_succ hown3
    have c3 := ((hbox.below r2 hbox.lt).turn (Turn.onto (T := fun k => _ = some k) hon3 fun k e => e) hnb).cell
    have f3 := ((hbox.below r2 hbox.lt).turn (Turn.onto (T := fun k => _ = some k) hon3 fun k e => e) hnb).frozen
    refine hK.out _ _ ?_ ?_
    · (trivial)
    clear hK K hHeld; intro hHeld
    try simp only [Act.put, List.setIfInBounds_toArray, List.set_cons_zero, List.set_cons_succ]
    refine wpAnyH_ready (rs := [5]) (by kernel_rfl) (by simp) ?_
    refine AllReadyH.cons (o := { dst := none, op := Op.store 26 (Operand.tmp 3) (Operand.tmp 13), type := 0, pos := "kmerge.go:83", after := #[{ on := 4, ground := Ground.data }, { on := 4, ground := Ground.chain }, { on := 0, ground := Ground.phase }, { on := 1, ground := Ground.phase }, { on := 2, ground := Ground.phase }, { on := 3, ground := Ground.phase }, { on := 4, ground := Ground.phase }], guard := none }) rfl (fun K hK => ?_) AllReadyH.nil
    go_simp
    refine hK.out _ _ ?_ ?_
    · (trivial)
    clear hK K hHeld; intro hHeld
    try simp only [Act.put, List.setIfInBounds_toArray, List.set_cons_zero, List.set_cons_succ]
    refine wpAnyH_done (by kernel_rfl) ?_ _
    refine Only.normal ?_
    gi_wp2_with fail
    obtain rfl := HLN.out
    obtain rfl := HYL.out
    obtain ⟨q', hq', hQ', hB', hT'⟩ := coll_done (wp := wz2) hbox hq (by have := HZ1.out; omega) hbW k1' k2' k3 r2 sm2 hcc hown3 hon3
    have hTT := hT'.mono (T' := fun k => ¬ s k ∧ ¬ (k < w.heap.size ∨ k = w.heap.size + 1 ∨ k = w.heap.size + 1 + 1) ∧ k ≠ w1.heap.size ∧ k ≠ w1.heap.size + 1) (fun j _ e => by have hz := HZ1.out; rcases e with rfl | e; exact ⟨fun e => by have := h2 _ e; omega, by omega, by omega, by omega⟩; have h1 := (hq _ (k2' _ e)).1; exact ⟨(h9 _ (k2' _ e)).2, by omega, by omega, by omega⟩)
    have hTb := hT'.below (b := w.heap.size) (fun j e => by rcases e with rfl | e; omega; have h1 := (hq _ (k2' _ e)).1; have hz := HZ1.out; omega) h3.size
    have hq2 : ∀ k, q' k → (w1.heap.size + 2 ≤ k ∧ k < _) ∧ ¬ s k := fun k hk => by have h1 := hq' k hk; refine ⟨⟨?_, h1.2⟩, fun e => ?_⟩; (rcases h1.1 with g | g; exact (hq k g).1; omega); (rcases h1.1 with g | g; exact (h9 k g).2 e; exact absurd (h2 k e).2 (by omega))
    exact And.intro hTT ⟨fun k hk => ⟨(h2 k hk).1, Nat.lt_of_lt_of_le (h2 k hk).2 hT'.size⟩, h3.trans hTb, Nat.le_trans h4 hT'.size, _, q', hB', by show OwnQ q' _ _ _ ((pre ++ [(y, ym)]).map fun z => z.1.1); rw [List.map_append]; exact hQ', hq2⟩
  case done =>
    rintro s xs W hS ⟨h2, h3, h4, v, q, hbox, h8, h9⟩ hK
    have hc7 := hbox.cell
    have hxs : (xs.map fun z => z.1.1) = U := by rw [← HU.out, ← show xs.map (tk key) = runs K from hS, List.map_map]; rfl
    rw [hxs] at h8
    obtain ⟨Av, cv, rfl, hcv, -⟩ := h8.open_
    have hpt := Turn.putObj W w1.heap.size (.deferred none) (T := fun k => k = w1.heap.size) rfl
    have hres := (h8.keep (Kept.of_turn hpt fun k hk => ⟨(h9 k hk).1.2, by have := (h9 k hk).1.1; omega⟩)).mono (q' := fun k => w.heap.size ≤ k ∧ k < (W.putObj w1.heap.size (.deferred none)).heap.size) (fun k hk => ⟨by have := (h9 k hk).1.1; omega, by rw [World.putObj_size]; exact (h9 k hk).1.2⟩)
    have hbel := h3.trans (hpt.below (b := w.heap.size) (fun j hj => by omega) h3.size)
    have hres2 : OwnQ (fun k => w.heap.size ≤ k ∧ k < (W.putObj w1.heap.size (.deferred none)).heap.size) (W.putObj w1.heap.size (.deferred none)) w.heap.size (.slice Av U.length cv) U := hres.base_le (by omega)
    obtain ⟨lz, hlz⟩ : ∃ lz, U.length = lz := ⟨_, rfl⟩
    rw [hlz] at hc7 hres2
    have hbel' := Lib.hid hbel
    clear hz1 hlz hD c0 hbw hxs
    gi_wp2_with fail
    refine ⟨by simp, .inl ⟨_, _, rfl, run_takeDeferred hK, ?_⟩⟩
    exact ⟨_, results_tmp rfl _ _ _, .slice Av lz cv, rfl, hres2, hbel'.out⟩
  case stop => exact fun c s pre W h1 h2 h3 => h2.elim
end Go.Proofs.Ytcfbblgoligagaa.KB
