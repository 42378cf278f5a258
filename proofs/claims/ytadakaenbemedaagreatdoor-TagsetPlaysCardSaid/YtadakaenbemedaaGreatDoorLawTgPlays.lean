/-
  The law TagsetPlays, walked: a set under any script is what is told, step by step.
-/
import Derived.Test.YtadakaenbemedaaGreatDoorTgScript
namespace Go.Proofs.YtadakaenbemedaaGreatDoor
open Go.RowKit Go.Maps

set_option maxRecDepth 100000 in
set_option maxHeartbeats 6400000 in
theorem TagsetPlays_any (A : Option Addr) (n c : Nat) (ls : List Act) (hn : ls.length = n) (B : Option Addr) (lx dx : Nat) (x : Item) (hxl : x.length = lx) (most : Int) (w : World) (hS : ActsAt (fun k => k < w.heap.size) w A ls) (hX : Sees w w.heap.size B (bv x)) (hH : Halves w) :
    Calls Tryz.prog 4 #[.slice A n c, .slice B lx dx, .int .i64 most] w (IsTrue w) := by
  have hnot : ∀ (x : Bool) (w : World), (Op.unary .not (.bool x)).run Tryz.prog w = .ok (.bool (!x)) w := fun _ _ => rfl
  have HH := Lib.hid hH
  have HN := Lib.hid hn
  have HXL := Lib.hid hxl
  have HX := Lib.hid hX
  have hFw := fun w' (hb : Below w.heap.size w w') => Lib.hid (fewA_any (fun k => k < w.heap.size) A n c ls hn w' (hS.below hb))
  cases hf : fewA ls with
  | false =>
    rw [hf] at hFw
    clear hf hn hH hxl hX
    go_enter Tryz.func4, Tryz.ntmps4
    go_wp2_with fail
    refine (awake_any w HH.out).mono ?_
    rintro e w0 ⟨rfl, hb0⟩
    go_wp2_with fail
    refine (hFw w0 hb0).out.mono ?_
    rintro e w1 ⟨rfl, rfl⟩
    go_wp2
    go_ret
    exact ⟨rfl, hb0⟩
  | true =>
  rw [hf] at hFw
  obtain ⟨hl80, hsh⟩ := fewA_yes hf
  have HL80 := Lib.hid hl80
  have HSH := Lib.hid hsh
  have hn80 : n ≤ 80 := by omega
  by_cases hlong : 400 < lx
  · have hlong' : (400 : Int) < (lx : Int) := by omega
    clear hf hn hxl hX hH hsh hl80
    go_enter Tryz.func4, Tryz.ntmps4
    go_wp2_with fail
    refine (awake_any w HH.out).mono ?_
    rintro e w0 ⟨rfl, hb0⟩
    go_wp2_with fail
    refine (hFw w0 hb0).out.mono ?_
    rintro e w1 ⟨rfl, rfl⟩
    go_wp2
    go_ret
    exact ⟨rfl, hb0⟩
  have hshort : (lx : Int) ≤ 400 := by omega
  have hlx4 : lx ≤ 400 := by omega
  clear hf hn hH hsh hl80 hxl hX hlong
  go_enter Tryz.func4, Tryz.ntmps4
  go_wp2_with fail
  refine (awake_any w HH.out).mono ?_
  rintro e w0 ⟨rfl, hb0⟩
  go_wp2_with fail
  refine (hFw w0 hb0).out.mono ?_
  rintro e w0' ⟨rfl, rfl⟩
  go_wp2_with fail
  refine (new_any w0).mono ?_
  rintro e w1 ⟨rfl, hA1, hb1⟩
  obtain ⟨S, hS1⟩ : ∃ S, w0.heap.size + 1 = S := ⟨_, rfl⟩
  rw [hS1] at hA1 ⊢
  obtain ⟨w2, hw2⟩ : ∃ w2, w1.alloc (.cells #[.slice none 0 0, .slice none 0 0] 38) = w2 := ⟨_, rfl⟩
  have hb2 : Below w1.heap.size w1 w2 := by rw [← hw2]; exact (Below.refl _ w1).alloc (Nat.le_refl _) _
  have hbx : Box2 w2 w1.heap.size 38 (.slice none 0 0) (.slice none 0 0) := by rw [← hw2]; exact Box2.new w1 _ rfl _ _ _
  obtain ⟨HSC, HBW2⟩ := Script.start hb0 hA1 hb1 hb2 hbx
  have b0 := hbx.cell0
  have b1 := hbx.cell1
  have b2 := hbx.frozen 0
  have b3 := hbx.frozen 1
  clear hA1 hS1 hb0 hb1 hb2 hFw hbx
  go_wp2
  obtain ⟨D, hD⟩ : ∃ D, w1.heap.size = D := ⟨_, rfl⟩
  rw [hD] at HSC HBW2
  simp only [hD]
  clear b0 b1 b2 b3
  go_loopg [11] n (fun g i wr => ∃ k : Nat, k + g = n ∧ i = .int .i64 k ∧ Hid (Script w.heap.size wr S D (SetM.new.plays (ls.take k))) ∧ Below w.heap.size w wr)
  case atStart => exact ⟨0, by omega, rfl, HSC.out, HBW2.out⟩
  case round =>
    obtain ⟨k, hk, rfl, hpair, hb⟩ := hrel
    have hbs := hb.size
    by_cases hlt : k < n
    · have hkl : k < ls.length := by have := HN.out; omega
      obtain ⟨m, q, A0, c0, F0, d0, hP, hbx, hmD, hqD, hDl⟩ := hpair.out
      have hfit := plays_fit ls HL80.out k (by omega)
      obtain ⟨s, hs⟩ : ∃ s, SetM.new.plays (ls.take k) = s := ⟨_, rfl⟩
      have hnext := plays_succ SetM.new ls k hkl
      rw [hs] at hP hbx hfit hnext
      obtain ⟨ad, Ai, ci, rfl, had, g0, g1, g2, g3, hci, hsee⟩ := hS.out k hkl
      obtain ⟨y, hy⟩ : ∃ y, ls[k] = y := ⟨_, rfl⟩
      rw [hy] at g0 g1 g2 g3 hci hsee hnext
      have hy450 : y.item.length ≤ 450 := hy ▸ HSH.out k hkl
      obtain ⟨li, hli⟩ : ∃ li, y.item.length = li := ⟨_, rfl⟩
      rw [hli] at g1 hci hy450
      obtain ⟨a0, ha0⟩ : ∃ a, s.mem.length = a := ⟨_, rfl⟩
      obtain ⟨f0, hf0⟩ : ∃ a, s.fs.length = a := ⟨_, rfl⟩
      rw [ha0, hf0] at hP hbx
      obtain ⟨a1, ha1⟩ : ∃ a, (s.play y).mem.length = a := ⟨_, rfl⟩
      obtain ⟨f1, hf1⟩ : ∃ a, (s.play y).fs.length = a := ⟨_, rfl⟩
      have HLm := Lib.hid ha1
      have HLf := Lib.hid hf1
      have hKp : Kept (fun k => k < w.heap.size) w wr := Kept.of_below hb fun k e => e
      have hadk : (ad.add (k * 4)).block < w.heap.size := by rw [add_block]; exact had
      have q2 := (hKp.cell (p := ad.add (k * 4)) hadk).trans g0
      have q3 := (hKp.cell (p := ⟨(ad.add (k * 4)).block, (ad.add (k * 4)).off + 1, none⟩) hadk).trans g1
      have q4 := (hKp.cell (p := ⟨(ad.add (k * 4)).block, (ad.add (k * 4)).off + 2, none⟩) hadk).trans g2
      have q5 := (hKp.cell (p := ⟨(ad.add (k * 4)).block, (ad.add (k * 4)).off + 3, none⟩) hadk).trans g3
      obtain ⟨kd, hkd⟩ : ∃ x, y.kind = x := ⟨_, rfl⟩
      obtain ⟨aa, haa⟩ : ∃ x, y.a = x := ⟨_, rfl⟩
      obtain ⟨bb, hbb⟩ : ∃ x, y.b = x := ⟨_, rfl⟩
      have hDn := fun w' (hb' : Below wr.heap.size wr w') => Lib.hid (done_any w.heap.size m q w' S _ s (hP.below hb') hfit (HH.out.below (hb.trans (hb'.mono hbs)) HH.out.1) y Ai li ci hli hy450 hci (hsee.keep (hKp.trans (Kept.of_below hb' fun k e => by omega))))
      rw [hkd, haa, hbb] at hDn
      rw [hkd] at q2
      rw [haa] at q4
      rw [hbb] at q5
      have hKeep : ∀ W, Below w.heap.size wr W → Box2 W D 38 (.slice A0 a0 c0) (.slice F0 f0 d0) → W.cell? ⟨D, 0, none⟩ = some (.slice A0 a0 c0) ∧ W.cell? ⟨D, 1, none⟩ = some (.slice F0 f0 d0) ∧ W.cell? (ad.add (k * 4)) = some (.int .i64 kd) ∧ W.cell? ⟨(ad.add (k * 4)).block, (ad.add (k * 4)).off + 1, none⟩ = some (.slice Ai li ci) ∧ W.cell? ⟨(ad.add (k * 4)).block, (ad.add (k * 4)).off + 2, none⟩ = some (.int .i64 aa) ∧ W.cell? ⟨(ad.add (k * 4)).block, (ad.add (k * 4)).off + 3, none⟩ = some (.int .i64 bb) := fun W hb2 hB2 =>
        ⟨hB2.cell0, hB2.cell1, (hb2.cell (p := ad.add (k * 4)) hadk).trans q2, (hb2.cell (p := ⟨(ad.add (k * 4)).block, (ad.add (k * 4)).off + 1, none⟩) hadk).trans q3, (hb2.cell (p := ⟨(ad.add (k * 4)).block, (ad.add (k * 4)).off + 2, none⟩) hadk).trans q4, (hb2.cell (p := ⟨(ad.add (k * 4)).block, (ad.add (k * 4)).off + 3, none⟩) hadk).trans q5⟩
      have q0 := hbx.cell0
      have q1 := hbx.cell1
      have HP := Lib.hid hP
      have HBX := Lib.hid hbx
      have HNX := Lib.hid hnext
      have HKL := Lib.hid hkl
      clear hP hbx hnext hpair hfit hs hy hli ha0 hf0 ha1 hf1 hkd haa hbb g0 g1 g2 g3 hsee hKp HSC HBW2 hw2 hD
      go_upto_region 12 with fail
      go_cut [12, 13] (fun t u wx => ∃ B12 m2 q2 A1 c1 F1 d1, t = .pointer (some ⟨B12, 0, none⟩) ∧ u = .bool true ∧ Moved w.heap.size m m2 q q2 wr wx S (.agg #[.slice A1 a1 c1, .slice F1 f1 d1]) (s.play y) ∧ Box2 wx B12 38 (.slice A1 a1 c1) (.slice F1 f1 d1) ∧ Box2 wx D 38 (.slice A0 a0 c0) (.slice F0 f0 d0) ∧ wr.heap.size ≤ B12)
      case first =>
        refine wp_region_noPanic ?_
        refine wp_region_held_drew (S := fun w' => w'.cell? ⟨D, 0, none⟩ = some (.slice A0 a0 c0) ∧ w'.cell? ⟨D, 1, none⟩ = some (.slice F0 f0 d0) ∧ w'.cell? (ad.add (k * 4)) = some (.int .i64 kd) ∧ w'.cell? ⟨(ad.add (k * 4)).block, (ad.add (k * 4)).off + 1, none⟩ = some (.slice Ai li ci) ∧ w'.cell? ⟨(ad.add (k * 4)).block, (ad.add (k * 4)).off + 2, none⟩ = some (.int .i64 aa) ∧ w'.cell? ⟨(ad.add (k * 4)).block, (ad.add (k * 4)).off + 3, none⟩ = some (.int .i64 bb)) (by kernel_rfl) ?_ (fun hHeld => ?_)
        · (exact ⟨q0, q1, q2, q3, q4, q5⟩)
        refine wpAnyH_take (i := 0) (oi := { dst := some 36, op := Op.move (Operand.tmp 9), type := 23, pos := "law.go:75", after := #[], guard := none }) (v := ?_) rfl (by kernel_rfl) (by kernel_rfl) (by kernel_rfl) (fun _ _ _ h => h) (Or.inl ⟨by rfl, ?_⟩) hHeld ?_
        rotate_left
        · (intro w' hSw; (try dsimp only at hSw); go_split_ands; go_simp; first | done | with_reducible rfl)
        try simp only [Act.put, List.setIfInBounds_toArray, List.set_cons_zero, List.set_cons_succ]
        refine wpAnyH_take (i := 1) (oi := { dst := some 37, op := Op.load 38 (Operand.tmp 10), type := 38, pos := "law.go:75", after := #[], guard := none }) (v := ?_) rfl (by kernel_rfl) (by kernel_rfl) (by kernel_rfl) (fun _ _ _ h => h) (Or.inl ⟨by rfl, ?_⟩) hHeld ?_
        rotate_left
        · (intro w' hSw; (try dsimp only at hSw); go_split_ands; go_simp; first | done | with_reducible rfl)
        try simp only [Act.put, List.setIfInBounds_toArray, List.set_cons_zero, List.set_cons_succ]
        refine wpAnyH_take (i := 2) (oi := { dst := some 38, op := Op.move (Operand.tmp 0), type := 34, pos := "law.go:75", after := #[], guard := none }) (v := ?_) rfl (by kernel_rfl) (by kernel_rfl) (by kernel_rfl) (fun _ _ _ h => h) (Or.inl ⟨by rfl, ?_⟩) hHeld ?_
        rotate_left
        · (intro w' hSw; (try dsimp only at hSw); go_split_ands; go_simp; first | done | with_reducible rfl)
        try simp only [Act.put, List.setIfInBounds_toArray, List.set_cons_zero, List.set_cons_succ]
        refine wpAnyH_take (i := 3) (oi := { dst := some 39, op := Op.move (Operand.tmp 11), type := 3, pos := "law.go:75", after := #[], guard := none }) (v := ?_) rfl (by kernel_rfl) (by kernel_rfl) (by kernel_rfl) (fun _ _ _ h => h) (Or.inl ⟨by rfl, ?_⟩) hHeld ?_
        rotate_left
        · (intro w' hSw; (try dsimp only at hSw); go_split_ands; go_simp; first | done | with_reducible rfl)
        try simp only [Act.put, List.setIfInBounds_toArray, List.set_cons_zero, List.set_cons_succ]
        refine wpAnyH_take (i := 4) (oi := { dst := some 40, op := Op.indexAddr 34 (Operand.tmp 38) (Operand.tmp 39), type := 0, pos := "law.go:75", after := #[{ on := 2, ground := Ground.data }, { on := 3, ground := Ground.data }], guard := none }) (v := ?_) rfl (by kernel_rfl) (by kernel_rfl) (by kernel_rfl) (fun _ _ _ h => h) (Or.inl ⟨by rfl, ?_⟩) hHeld ?_
        rotate_left
        · (intro w' hSw; (try dsimp only at hSw); go_split_ands; go_simp; first | done | with_reducible rfl)
        try simp only [Act.put, List.setIfInBounds_toArray, List.set_cons_zero, List.set_cons_succ]
        refine wpAnyH_take (i := 5) (oi := { dst := some 41, op := Op.load 42 (Operand.tmp 40), type := 42, pos := "law.go:75", after := #[{ on := 4, ground := Ground.data }], guard := none }) (v := ?_) rfl (by kernel_rfl) (by kernel_rfl) (by kernel_rfl) (fun _ _ _ h => h) (Or.inl ⟨by rfl, ?_⟩) hHeld ?_
        rotate_left
        · (intro w' hSw; (try dsimp only at hSw); go_split_ands; go_simp; first | done | with_reducible rfl)
        try simp only [Act.put, List.setIfInBounds_toArray, List.set_cons_zero, List.set_cons_succ]
        refine wpAnyH_ready (rs := [6, 10]) (by kernel_rfl) (by simp) ?_
        refine AllReadyH.cons (o := { dst := some 42, op := Op.call { callee := Callee.value (Operand.func 16), args := #[Operand.tmp 36, Operand.tmp 37, Operand.tmp 41], argTypes := #[23, 38, 42] }, type := 39, pos := "law.go:75", after := #[{ on := 0, ground := Ground.data }, { on := 1, ground := Ground.data }, { on := 5, ground := Ground.data }], guard := none }) rfl (fun K hK => ?_) ?_
        · go_simp
          refine (hDn wr.drew (below_drew (Below.refl wr.heap.size wr))).out.mono ?_
          rintro e w2 ⟨v', m2, q2', rfl, mv⟩
          obtain ⟨A1, c1, F1, d1, hv1, -⟩ := mv.pair.ref.out
          rw [HLm.out, HLf.out] at hv1
          subst hv1
          have MV := Lib.hid mv
          clear mv
          have hD2 := (HBX.out.below (below_drew (Below.refl wr.heap.size wr)) HBX.out.lt).keep (W' := w2) (MV.out.turn.block D (Nat.lt_of_lt_of_le HBX.out.lt (below_drew (Below.refl wr.heap.size wr)).size) hmD)
          have HD2 := Lib.hid hD2
          clear hD2
          go_wp2_with fail
          refine hK.out _ _ ?_ ?_
          · (exact hKeep w2 ((below_drew (Below.refl wr.heap.size wr)).mono hbs |>.trans (MV.out.turn.below HP.out.old (Nat.le_trans hbs (below_drew (Below.refl wr.heap.size wr)).size))) HD2.out)
          clear hK K hHeld; intro hHeld
          try simp only [Act.put, List.setIfInBounds_toArray, List.set_cons_zero, List.set_cons_succ]
          refine wpAnyH_take (i := 7) (oi := { dst := some 35, op := Op.move (Operand.tmp 42), type := 39, pos := "law.go:75", after := #[{ on := 6, ground := Ground.data }], guard := none }) (v := ?_) rfl (by kernel_rfl) (by kernel_rfl) (by kernel_rfl) (fun _ _ _ h => h) (Or.inl ⟨by rfl, ?_⟩) hHeld ?_
          rotate_left
          · (intro w' hSw; (try dsimp only at hSw); go_split_ands; go_simp; first | done | with_reducible rfl)
          try simp only [Act.put, List.setIfInBounds_toArray, List.set_cons_zero, List.set_cons_succ]
          refine wpAnyH_take (i := 8) (oi := { dst := some 43, op := Op.extract (Operand.tmp 35) 0, type := 38, pos := "law.go:75", after := #[{ on := 7, ground := Ground.data }], guard := none }) (v := ?_) rfl (by kernel_rfl) (by kernel_rfl) (by kernel_rfl) (fun _ _ _ h => h) (Or.inl ⟨by rfl, ?_⟩) hHeld ?_
          rotate_left
          · (intro w' hSw; (try dsimp only at hSw); go_split_ands; go_simp; first | done | with_reducible rfl)
          try simp only [Act.put, List.setIfInBounds_toArray, List.set_cons_zero, List.set_cons_succ]
          refine wpAnyH_take (i := 9) (oi := { dst := some 44, op := Op.extract (Operand.tmp 35) 1, type := 4, pos := "law.go:75", after := #[{ on := 7, ground := Ground.data }, { on := 11, ground := Ground.gcOnly Departure.lateStores }], guard := none }) (v := ?_) rfl (by kernel_rfl) (by kernel_rfl) (by kernel_rfl) (fun _ _ _ h => h) (Or.inl ⟨by rfl, ?_⟩) hHeld ?_
          rotate_left
          · (intro w' hSw; (try dsimp only at hSw); go_split_ands; go_simp; first | done | with_reducible rfl)
          try simp only [Act.put, List.setIfInBounds_toArray, List.set_cons_zero, List.set_cons_succ]
          refine wpAnyH_ready (rs := [10]) (by kernel_rfl) (by simp) ?_
          refine AllReadyH.cons (o := { dst := some 12, op := Op.alloc 38, type := 0, pos := "law.go:75", after := #[], guard := none }) rfl (fun K hK => ?_) AllReadyH.nil
          go_simp
          refine hK.out _ _ ?_ ?_
          · (exact hKeep _ (((below_drew (Below.refl wr.heap.size wr)).mono hbs |>.trans (MV.out.turn.below HP.out.old hbs)).trans ((Below.refl w2.heap.size w2).alloc (Nat.le_refl _) _ |>.mono (Nat.le_trans hbs MV.out.turn.size))) (HD2.out.alloc _))
          clear hK K hHeld; intro hHeld
          try simp only [Act.put, List.setIfInBounds_toArray, List.set_cons_zero, List.set_cons_succ]
          obtain ⟨w4, hw4⟩ : ∃ w4, w2.alloc (.cells #[.slice none 0 0, .slice none 0 0] 38) = w4 := ⟨_, rfl⟩
          rw [hw4] at hHeld ⊢
          have hB4 : Box2 w4 w2.heap.size 38 (.slice none 0 0) (.slice none 0 0) := by rw [← hw4]; exact Box2.new w2 _ rfl _ _ _
          have hb4 : Below w2.heap.size w2 w4 := by rw [← hw4]; exact (Below.refl _ w2).alloc (Nat.le_refl _) _
          have x0 := hB4.cell0
          have x1 := hB4.cell1
          have y0 := hB4.frozen 0
          have y1 := hB4.frozen 1
          have HB4 := Lib.hid hB4
          clear hB4 hw4
          refine wpAnyH_ready (rs := [11]) (by kernel_rfl) (by simp) ?_
          refine AllReadyH.cons (o := { dst := none, op := Op.store 38 (Operand.tmp 12) (Operand.tmp 43), type := 0, pos := "law.go:75", after := #[{ on := 10, ground := Ground.data }, { on := 8, ground := Ground.data }, { on := 6, ground := Ground.chain }, { on := 0, ground := Ground.phase }, { on := 1, ground := Ground.phase }, { on := 2, ground := Ground.phase }, { on := 3, ground := Ground.phase }, { on := 4, ground := Ground.phase }, { on := 5, ground := Ground.phase }, { on := 6, ground := Ground.phase }, { on := 7, ground := Ground.phase }, { on := 8, ground := Ground.phase }, { on := 9, ground := Ground.textOnly Departure.lateStores }, { on := 10, ground := Ground.phase }], guard := none }) rfl (fun K hK => ?_) AllReadyH.nil
          have HH2 := Lib.hid hHeld
          clear hHeld
          have HBO := Lib.hid (Moved.boxed HP.out (below_drew (Below.refl wr.heap.size wr)) MV.out w2.heap.size (fun e => by have := MV.out.pair.set.lt _ e; omega) (fun e => by have := (MV.out.pair.sep _ e).1; omega) (by have := MV.out.turn.size; exact this) (x := .slice A1 a1 c1) (y := .slice F1 f1 d1) HB4.out hb4)
          go_simp
          have hHeld : True := trivial
          refine hK.out _ _ ?_ ?_
          · (obtain ⟨-, -, hk3, hk4⟩ := HBO.out; exact hKeep _ hk4 (hk3 D _ _ _ HBX.out hmD))
          clear hK K hHeld; intro hHeld
          try simp only [Act.put, List.setIfInBounds_toArray, List.set_cons_zero, List.set_cons_succ]
          refine wpAnyH_take (i := 12) (oi := { dst := some 13, op := Op.assign (Operand.tmp 44), type := 4, pos := "law.go:75", after := #[{ on := 9, ground := Ground.data }, { on := 11, ground := Ground.chain }, { on := 0, ground := Ground.phase }, { on := 1, ground := Ground.phase }, { on := 2, ground := Ground.phase }, { on := 3, ground := Ground.phase }, { on := 4, ground := Ground.phase }, { on := 5, ground := Ground.phase }, { on := 6, ground := Ground.phase }, { on := 7, ground := Ground.phase }, { on := 8, ground := Ground.phase }, { on := 9, ground := Ground.phase }, { on := 10, ground := Ground.phase }, { on := 11, ground := Ground.phase }], guard := none }) (v := ?_) rfl (by kernel_rfl) (by kernel_rfl) (by kernel_rfl) (fun _ _ _ h => h) (Or.inl ⟨by rfl, ?_⟩) hHeld ?_
          rotate_left
          · (intro w' hSw; (try dsimp only at hSw); go_split_ands; go_simp; first | done | with_reducible rfl)
          try simp only [Act.put, List.setIfInBounds_toArray, List.set_cons_zero, List.set_cons_succ]
          refine wpAnyH_done (by kernel_rfl) ?_ _
          refine NoPanic.normal ?_
          go_wp2_with fail
          go_meet
          obtain ⟨o1, o2, o3, o4⟩ := HBO.out
          exact ⟨_, m2, q2', A1, c1, F1, d1, rfl, rfl, o1, o2, o3 D _ _ _ HBX.out hmD, by have := MV.out.turn.size; exact this⟩
        refine AllReadyH.cons (o := { dst := some 12, op := Op.alloc 38, type := 0, pos := "law.go:75", after := #[], guard := none }) rfl (fun K hK => ?_) AllReadyH.nil
        go_simp
        refine hK.out _ _ ?_ ?_
        · (exact hKeep _ ((below_drew (Below.refl wr.heap.size wr)).mono hbs |>.trans ((Below.refl wr.drew.heap.size wr.drew).alloc (Nat.le_refl _) _ |>.mono hbs)) ((HBX.out.keep (W' := wr.drew) rfl).alloc _))
        clear hK K hHeld; intro hHeld
        try simp only [Act.put, List.setIfInBounds_toArray, List.set_cons_zero, List.set_cons_succ]
        obtain ⟨w4, hw4⟩ : ∃ w4, (wr.alloc (.cells #[.slice none 0 0, .slice none 0 0] 38)).drew = w4 := ⟨_, rfl⟩
        rw [hw4] at hHeld ⊢
        obtain ⟨B12, hB12⟩ : ∃ b, wr.heap.size = b := ⟨_, rfl⟩
        have hB4 : Box2 w4 B12 38 (.slice none 0 0) (.slice none 0 0) := by rw [← hw4]; exact (Box2.new wr _ hB12 _ _ _).keep rfl
        have hb4 : Below wr.heap.size wr w4 := by rw [← hw4]; exact below_drew ((Below.refl wr.heap.size wr).alloc (Nat.le_refl _) _)
        have hz4 : w4.heap.size = B12 + 1 := by rw [← hw4, ← hB12]; show (wr.alloc _).heap.size = _; simp
        try simp only [hB12]
        clear hw4
        refine wpAnyH_ready (rs := [6]) (by kernel_rfl) (by simp) ?_
        refine AllReadyH.cons (o := { dst := some 42, op := Op.call { callee := Callee.value (Operand.func 16), args := #[Operand.tmp 36, Operand.tmp 37, Operand.tmp 41], argTypes := #[23, 38, 42] }, type := 39, pos := "law.go:75", after := #[{ on := 0, ground := Ground.data }, { on := 1, ground := Ground.data }, { on := 5, ground := Ground.data }], guard := none }) rfl (fun K hK => ?_) AllReadyH.nil
        go_simp
        refine (hDn w4 hb4).out.mono ?_
        rintro e w2 ⟨v', m2, q2', rfl, mv⟩
        obtain ⟨A1, c1, F1, d1, hv1, -⟩ := mv.pair.ref.out
        rw [HLm.out, HLf.out] at hv1
        subst hv1
        have MV := Lib.hid mv
        clear mv
        have hD2 := (HBX.out.below hb4 HBX.out.lt).keep (W' := w2) (MV.out.turn.block D (Nat.lt_of_lt_of_le HBX.out.lt hb4.size) hmD)
        have hnm : ¬ m2 B12 := fun e => (MV.out.newm B12 e).elim (fun e => by have := HP.out.set.lt B12 e; omega) fun e => by omega
        have hnq : ¬ q2' B12 := fun e => (MV.out.newq B12 e).elim (fun e => by have := (HP.out.sep B12 e).1; omega) fun e => by omega
        have hB2 := hB4.keep (W' := w2) (MV.out.turn.block B12 hB4.lt (fun e => by have := HP.out.set.lt B12 e; omega))
        have x0 := hB2.cell0
        have x1 := hB2.cell1
        have y0 := hB2.frozen 0
        have y1 := hB2.frozen 1
        have HB2 := Lib.hid hB2
        clear hB2
        have HD2 := Lib.hid hD2
        clear hD2
        go_wp2_with fail
        refine hK.out _ _ ?_ ?_
        · (exact hKeep w2 (hb4.mono hbs |>.trans (MV.out.turn.below HP.out.old (Nat.le_trans hbs hb4.size))) HD2.out)
        clear hK K hHeld; intro hHeld
        try simp only [Act.put, List.setIfInBounds_toArray, List.set_cons_zero, List.set_cons_succ]
        refine wpAnyH_take (i := 7) (oi := { dst := some 35, op := Op.move (Operand.tmp 42), type := 39, pos := "law.go:75", after := #[{ on := 6, ground := Ground.data }], guard := none }) (v := ?_) rfl (by kernel_rfl) (by kernel_rfl) (by kernel_rfl) (fun _ _ _ h => h) (Or.inl ⟨by rfl, ?_⟩) hHeld ?_
        rotate_left
        · (intro w' hSw; (try dsimp only at hSw); go_split_ands; go_simp; first | done | with_reducible rfl)
        try simp only [Act.put, List.setIfInBounds_toArray, List.set_cons_zero, List.set_cons_succ]
        refine wpAnyH_take (i := 8) (oi := { dst := some 43, op := Op.extract (Operand.tmp 35) 0, type := 38, pos := "law.go:75", after := #[{ on := 7, ground := Ground.data }], guard := none }) (v := ?_) rfl (by kernel_rfl) (by kernel_rfl) (by kernel_rfl) (fun _ _ _ h => h) (Or.inl ⟨by rfl, ?_⟩) hHeld ?_
        rotate_left
        · (intro w' hSw; (try dsimp only at hSw); go_split_ands; go_simp; first | done | with_reducible rfl)
        try simp only [Act.put, List.setIfInBounds_toArray, List.set_cons_zero, List.set_cons_succ]
        refine wpAnyH_take (i := 9) (oi := { dst := some 44, op := Op.extract (Operand.tmp 35) 1, type := 4, pos := "law.go:75", after := #[{ on := 7, ground := Ground.data }, { on := 11, ground := Ground.gcOnly Departure.lateStores }], guard := none }) (v := ?_) rfl (by kernel_rfl) (by kernel_rfl) (by kernel_rfl) (fun _ _ _ h => h) (Or.inl ⟨by rfl, ?_⟩) hHeld ?_
        rotate_left
        · (intro w' hSw; (try dsimp only at hSw); go_split_ands; go_simp; first | done | with_reducible rfl)
        try simp only [Act.put, List.setIfInBounds_toArray, List.set_cons_zero, List.set_cons_succ]
        refine wpAnyH_ready (rs := [11]) (by kernel_rfl) (by simp) ?_
        refine AllReadyH.cons (o := { dst := none, op := Op.store 38 (Operand.tmp 12) (Operand.tmp 43), type := 0, pos := "law.go:75", after := #[{ on := 10, ground := Ground.data }, { on := 8, ground := Ground.data }, { on := 6, ground := Ground.chain }, { on := 0, ground := Ground.phase }, { on := 1, ground := Ground.phase }, { on := 2, ground := Ground.phase }, { on := 3, ground := Ground.phase }, { on := 4, ground := Ground.phase }, { on := 5, ground := Ground.phase }, { on := 6, ground := Ground.phase }, { on := 7, ground := Ground.phase }, { on := 8, ground := Ground.phase }, { on := 9, ground := Ground.textOnly Departure.lateStores }, { on := 10, ground := Ground.phase }], guard := none }) rfl (fun K hK => ?_) AllReadyH.nil
        have HH2 := Lib.hid hHeld
        clear hHeld
        have HBO := Lib.hid (Moved.boxed HP.out hb4 MV.out B12 hnm hnq (by omega) (x := .slice A1 a1 c1) (y := .slice F1 f1 d1) HB2.out (Below.refl _ w2))
        go_simp
        have hHeld : True := trivial
        refine hK.out _ _ ?_ ?_
        · (obtain ⟨-, -, hk3, hk4⟩ := HBO.out; exact hKeep _ hk4 (hk3 D _ _ _ HBX.out hmD))
        clear hK K hHeld; intro hHeld
        try simp only [Act.put, List.setIfInBounds_toArray, List.set_cons_zero, List.set_cons_succ]
        refine wpAnyH_take (i := 12) (oi := { dst := some 13, op := Op.assign (Operand.tmp 44), type := 4, pos := "law.go:75", after := #[{ on := 9, ground := Ground.data }, { on := 11, ground := Ground.chain }, { on := 0, ground := Ground.phase }, { on := 1, ground := Ground.phase }, { on := 2, ground := Ground.phase }, { on := 3, ground := Ground.phase }, { on := 4, ground := Ground.phase }, { on := 5, ground := Ground.phase }, { on := 6, ground := Ground.phase }, { on := 7, ground := Ground.phase }, { on := 8, ground := Ground.phase }, { on := 9, ground := Ground.phase }, { on := 10, ground := Ground.phase }, { on := 11, ground := Ground.phase }], guard := none }) (v := ?_) rfl (by kernel_rfl) (by kernel_rfl) (by kernel_rfl) (fun _ _ _ h => h) (Or.inl ⟨by rfl, ?_⟩) hHeld ?_
        rotate_left
        · (intro w' hSw; (try dsimp only at hSw); go_split_ands; go_simp; first | done | with_reducible rfl)
        try simp only [Act.put, List.setIfInBounds_toArray, List.set_cons_zero, List.set_cons_succ]
        refine wpAnyH_done (by kernel_rfl) ?_ _
        refine NoPanic.normal ?_
        go_wp2_with fail
        go_meet
        obtain ⟨o1, o2, o3, o4⟩ := HBO.out
        exact ⟨_, m2, q2', A1, c1, F1, d1, rfl, rfl, o1, o2, o3 D _ _ _ HBX.out hmD, by omega⟩
      case rest =>
        obtain ⟨B12, m2, q2', A1, c1, F1, d1, rfl, rfl, mv, hB12, hDx, hB12l⟩ := hcut
        have hDne : D ≠ B12 := by have := HBX.out.lt; omega
        obtain ⟨hsc, hbz⟩ := Script.stored HBX.out hmD hqD hDl HP.out.old HLm.out HLf.out mv
        have x0 := hB12.cell0
        have x1 := hB12.cell1
        have y0 := hDx.cell0
        have y1 := hDx.cell1
        have y2 := hDx.frozen 0
        have y3 := hDx.frozen 1
        have hzx := (hDx.set0 (.slice A1 a1 c1)).set1 (.slice F1 f1 d1)
        obtain ⟨wz, hwz⟩ : ∃ wz, (wc.setCell ⟨D, 0, none⟩ (.slice A1 a1 c1)).setCell ⟨D, 1, none⟩ (.slice F1 f1 d1) = wz := ⟨_, rfl⟩
        rw [hwz] at hsc hbz hzx
        have z0 := hzx.cell0
        have z1 := hzx.cell1
        obtain ⟨m3, q3', A3, c3, F3, d3, hP3, -⟩ := hsc.out
        have hFr := fun r => Lib.hid (fresh_any (hP3.set.keep (Kept.drewN _ wz r) (Nat.le_refl _)))
        have hPa := fun r => Lib.hid (parts_any (hP3.set.keep (Kept.drewN _ wz r) (Nat.le_refl _)))
        rw [HLm.out] at hFr
        rw [HLf.out] at hPa
        have HSZ := Lib.hid hsc
        have HBZ := Lib.hid (hb.trans hbz)
        clear mv hB12 hDx hzx hsc hbz hP3
        go_wp2_with fail
        go_quiet ((first | (refine (hFr _).out.mono ?_; rintro e w1 ⟨rfl, rfl⟩; exact ⟨rfl, _, rfl⟩) | (refine (hPa _).out.mono ?_; rintro e w1 ⟨rfl, rfl⟩; exact ⟨rfl, _, rfl⟩)))
        go_wp2
        go_roundg (n - (k + 1))
        case measure => have := HKL.out; have := HN.out; omega
        case rel => exact ⟨k + 1, by omega, by go_num, HNX.out.symm ▸ HSZ.out.below (below_d (Below.refl _ _) _), below_d HBZ.out _⟩
    · obtain rfl : k = n := by omega
      obtain ⟨m, q, A0, c0, F0, d0, hP, hbx, -, -, -⟩ := hpair.out
      have hfit := plays_fit ls HL80.out k (by have := HN.out; omega)
      obtain ⟨s, hs⟩ : ∃ s, SetM.new.plays (ls.take k) = s := ⟨_, rfl⟩
      rw [hs] at hP hbx hfit
      have hall := Lib.hid (refAll_any q wr _ s hP.ref (fun k e => (hP.sep k e).1) hfit)
      obtain ⟨a0, ha0⟩ : ∃ a, s.mem.length = a := ⟨_, rfl⟩
      obtain ⟨f0, hf0⟩ : ∃ a, s.fs.length = a := ⟨_, rfl⟩
      rw [ha0, hf0] at hP hbx hall
      have q0 := hbx.cell0
      have q1 := hbx.cell1
      have HP := Lib.hid hP
      have HBX := Lib.hid hbx
      have HFIT := Lib.hid hfit
      have hDl := hbx.lt
      obtain ⟨a, ha⟩ : ∃ a, s.all = a := ⟨_, rfl⟩
      have hal : a.length ≤ 900 := by rw [← ha]; have := all_len s; have := hfit.total; omega
      obtain ⟨la, hla⟩ : ∃ l, a.length = l := ⟨_, rfl⟩
      rw [hla] at hal
      rw [ha] at hall
      have HA := Lib.hid ha
      have HLA := Lib.hid hla
      clear hP hbx hpair hs hfit ha0 hf0 ha hla HSC HBW2 hw2 hD hlt
      go_wp2_with fail
      refine hall.out.mono ?_
      rintro e wt ⟨A9, c9, rfl, -, hs9, hbt0⟩
      rw [HLA.out]
      have hst := hbt0.size
      have hall9 : Sees2 wt wt.heap.size A9 a := hs9.sees fun k e => e.elim (fun e => by have := (HP.out.sep k e).1; omega) fun e => e.2
      replace q0 := (hbt0.cell (p := ⟨D, 0, none⟩) hDl).trans q0
      replace q1 := (hbt0.cell (p := ⟨D, 1, none⟩) hDl).trans q1
      have hDt : D < wt.heap.size := by omega
      have hbt := hb.trans (hbt0.mono hbs)
      have hPt := HP.out.below hbt0
      have HXw : ∀ W, Below w.heap.size w W → Sees W W.heap.size B (bv x) := fun W hW => (HX.out.below hW).more hW.size
      obtain ⟨lf, hlf⟩ : ∃ p, (fromL a x).take most.toNat = p := ⟨_, rfl⟩
      obtain ⟨lp, hlp⟩ : ∃ p, a.filter (preB x) = p := ⟨_, rfl⟩
      have hfl : lf.length ≤ 900 := by
        rw [← hlf]
        exact Nat.le_trans (List.length_take_le' _ _) (by
          unfold fromL
          exact Nat.le_trans (List.length_filter_le _ _) (by have := HLA.out; omega))
      have hpl : lp.length ≤ 900 := by rw [← hlp]; exact Nat.le_trans (List.length_filter_le _ _) (by have := HLA.out; omega)
      have hHas := fun W (hW : Below wt.heap.size wt W) => Lib.hid (setHas_any (hPt.set.below hW) HFIT.out B lx dx x HXL.out (by omega) (HXw W (hbt.trans (hW.mono hbt.size))))
      have hRHas := fun W (hW : Below wt.heap.size wt W) => Lib.hid (refHas_any q W _ s (hPt.below hW).ref (fun k e => ((hPt.below hW).sep k e).1) HFIT.out B lx dx x HXL.out (HXw W (hbt.trans (hW.mono hbt.size))))
      have hFrom := fun W (hW : Below wt.heap.size wt W) => Lib.hid (setFrom_any (dx := dx) (hPt.set.below hW) HFIT.out HXL.out (HXw W (hbt.trans (hW.mono hbt.size))) most)
      have hRFrom := fun W (hW : Below wt.heap.size wt W) => Lib.hid (RefFrom_any A9 la c9 a HLA.out W ((hall9.below hW).more hW.size) B lx dx x (HXw W (hbt.trans (hW.mono hbt.size))) HXL.out most (by omega))
      have hPre := fun W (hW : Below wt.heap.size wt W) => Lib.hid (setPrefix_any (dx := dx) (hPt.set.below hW) HFIT.out HXL.out (HXw W (hbt.trans (hW.mono hbt.size))))
      have hRPre := fun W (hW : Below wt.heap.size wt W) => Lib.hid (RefPrefix_any A9 la c9 a HLA.out W ((hall9.below hW).more hW.size) B lx dx x (HXw W (hbt.trans (hW.mono hbt.size))) HXL.out (by omega) (by omega))
      rw [HA.out] at hFrom hPre
      rw [hlf] at hFrom hRFrom
      rw [hlp] at hPre hRPre
      obtain ⟨nlf, hnlf⟩ : ∃ l, lf.length = l := ⟨_, rfl⟩
      obtain ⟨nlp, hnlp⟩ : ∃ l, lp.length = l := ⟨_, rfl⟩
      rw [hnlf] at hfl
      rw [hnlp] at hpl
      have HLF := Lib.hid hnlf
      have HLP := Lib.hid hnlp
      clear hall hs9 hall9 hbt0 hPt HXw hlf hlp hnlf hnlp
      go_wp2_with fail
      refine wp_region_noPanic ?_
      refine wp_region_held_drew (S := fun w' => w'.cell? ⟨D, 0, none⟩ = some (.slice A0 a0 c0) ∧ w'.cell? ⟨D, 1, none⟩ = some (.slice F0 f0 d0)) (by kernel_rfl) ?_ (fun hHeld => ?_)
      · (exact ⟨q0, q1⟩)
      refine wpAnyH_take (i := 0) (oi := { dst := some 66, op := Op.move (Operand.tmp 9), type := 23, pos := "law.go:82", after := #[], guard := none }) (v := ?_) rfl (by kernel_rfl) (by kernel_rfl) (by kernel_rfl) (fun _ _ _ h => h) (Or.inl ⟨by rfl, ?_⟩) hHeld ?_
      rotate_left
      · (intro w' hSw; (try dsimp only at hSw); go_split_ands; go_simp; first | done | with_reducible rfl)
      try simp only [Act.put, List.setIfInBounds_toArray, List.set_cons_zero, List.set_cons_succ]
      refine wpAnyH_take (i := 1) (oi := { dst := some 67, op := Op.move (Operand.tmp 1), type := 27, pos := "law.go:82", after := #[], guard := none }) (v := ?_) rfl (by kernel_rfl) (by kernel_rfl) (by kernel_rfl) (fun _ _ _ h => h) (Or.inl ⟨by rfl, ?_⟩) hHeld ?_
      rotate_left
      · (intro w' hSw; (try dsimp only at hSw); go_split_ands; go_simp; first | done | with_reducible rfl)
      try simp only [Act.put, List.setIfInBounds_toArray, List.set_cons_zero, List.set_cons_succ]
      refine wpAnyH_take (i := 3) (oi := { dst := some 69, op := Op.load 38 (Operand.tmp 10), type := 38, pos := "law.go:82", after := #[], guard := none }) (v := ?_) rfl (by kernel_rfl) (by kernel_rfl) (by kernel_rfl) (fun _ _ _ h => h) (Or.inl ⟨by rfl, ?_⟩) hHeld ?_
      rotate_left
      · (intro w' hSw; (try dsimp only at hSw); go_split_ands; go_simp; first | done | with_reducible rfl)
      try simp only [Act.put, List.setIfInBounds_toArray, List.set_cons_zero, List.set_cons_succ]
      refine wpAnyH_take (i := 4) (oi := { dst := some 70, op := Op.move (Operand.tmp 1), type := 27, pos := "law.go:82", after := #[], guard := none }) (v := ?_) rfl (by kernel_rfl) (by kernel_rfl) (by kernel_rfl) (fun _ _ _ h => h) (Or.inl ⟨by rfl, ?_⟩) hHeld ?_
      rotate_left
      · (intro w' hSw; (try dsimp only at hSw); go_split_ands; go_simp; first | done | with_reducible rfl)
      try simp only [Act.put, List.setIfInBounds_toArray, List.set_cons_zero, List.set_cons_succ]
      refine wpAnyH_ready (rs := [2]) (by kernel_rfl) (by simp) ?_
      refine AllReadyH.cons (o := { dst := some 68, op := Op.call { callee := Callee.value (Operand.func 19), args := #[Operand.tmp 66, Operand.tmp 67], argTypes := #[23, 27] }, type := 4, pos := "law.go:82", after := #[{ on := 0, ground := Ground.data }, { on := 1, ground := Ground.data }], guard := none }) rfl (fun K hK => ?_) AllReadyH.nil
      go_simp
      refine ((hHas wt.drew (below_drew (Below.refl wt.heap.size wt))).out).mono ?_
      rintro e u1 ⟨rfl, hn1⟩
      have kb1 := Lib.hid ((below_drew (Below.refl wt.heap.size wt)).trans (hn1.mono (below_drew (Below.refl wt.heap.size wt)).size))
      clear hn1
      go_wp2_with fail
      refine hK.out _ _ ?_ ?_
      · (exact ⟨(kb1.out.cell (p := ⟨D, 0, none⟩) hDt).trans q0, (kb1.out.cell (p := ⟨D, 1, none⟩) hDt).trans q1⟩)
      clear hK K hHeld; intro hHeld
      try simp only [Act.put, List.setIfInBounds_toArray, List.set_cons_zero, List.set_cons_succ]
      refine wpAnyH_ready (rs := [5]) (by kernel_rfl) (by simp) ?_
      refine AllReadyH.cons (o := { dst := some 71, op := Op.call { callee := Callee.value (Operand.func 20), args := #[Operand.tmp 69, Operand.tmp 70], argTypes := #[38, 27] }, type := 4, pos := "law.go:82", after := #[{ on := 3, ground := Ground.data }, { on := 4, ground := Ground.data }, { on := 2, ground := Ground.chain }], guard := none }) rfl (fun K hK => ?_) AllReadyH.nil
      go_simp
      refine ((hRHas u1 kb1.out).out).mono ?_
      rintro e u2 ⟨rfl, hn2⟩
      have kb2 := Lib.hid (kb1.out.trans (hn2.mono kb1.out.size))
      clear hn2
      go_wp2_with fail
      refine hK.out _ _ ?_ ?_
      · (exact ⟨(kb2.out.cell (p := ⟨D, 0, none⟩) hDt).trans q0, (kb2.out.cell (p := ⟨D, 1, none⟩) hDt).trans q1⟩)
      clear hK K hHeld; intro hHeld
      try simp only [Act.put, List.setIfInBounds_toArray, List.set_cons_zero, List.set_cons_succ]
      refine wpAnyH_take (i := 6) (oi := { dst := some 72, op := Op.binOp BinOp.eql 4 (Operand.tmp 68) (Operand.tmp 71) 4, type := 4, pos := "law.go:82", after := #[{ on := 2, ground := Ground.data }, { on := 5, ground := Ground.data }], guard := none }) (v := .bool true) rfl (by kernel_rfl) (by kernel_rfl) (by kernel_rfl) (fun _ _ _ h => h) (Or.inl ⟨by rfl, ?_⟩) hHeld ?_
      · (intro w' hSw; (try dsimp only at hSw); go_split_ands; go_simp; first | done | with_reducible rfl | simp)
      try simp only [Act.put, List.setIfInBounds_toArray, List.set_cons_zero, List.set_cons_succ]
      refine wpAnyH_take (i := 7) (oi := { dst := some 73, op := Op.move (Operand.tmp 72), type := 4, pos := "law.go:82", after := #[{ on := 6, ground := Ground.data }, { on := 5, ground := Ground.chain }], guard := none }) (v := ?_) rfl (by kernel_rfl) (by kernel_rfl) (by kernel_rfl) (fun _ _ _ h => h) (Or.inl ⟨by rfl, ?_⟩) hHeld ?_
      rotate_left
      · (intro w' hSw; (try dsimp only at hSw); go_split_ands; go_simp; first | done | with_reducible rfl)
      try simp only [Act.put, List.setIfInBounds_toArray, List.set_cons_zero, List.set_cons_succ]
      refine wpAnyH_take (i := 8) (oi := { dst := some 74, op := Op.move (Operand.tmp 9), type := 23, pos := "law.go:82", after := #[{ on := 7, ground := Ground.guard }], guard := some (7, true) }) (v := ?_) rfl (by kernel_rfl) (by kernel_rfl) (by kernel_rfl) (fun _ _ _ h => h) (Or.inl ⟨by rfl, ?_⟩) hHeld ?_
      rotate_left
      · (intro w' hSw; (try dsimp only at hSw); go_split_ands; go_simp; first | done | with_reducible rfl)
      try simp only [Act.put, List.setIfInBounds_toArray, List.set_cons_zero, List.set_cons_succ]
      refine wpAnyH_take (i := 9) (oi := { dst := some 75, op := Op.move (Operand.tmp 1), type := 27, pos := "law.go:82", after := #[{ on := 7, ground := Ground.guard }], guard := some (7, true) }) (v := ?_) rfl (by kernel_rfl) (by kernel_rfl) (by kernel_rfl) (fun _ _ _ h => h) (Or.inl ⟨by rfl, ?_⟩) hHeld ?_
      rotate_left
      · (intro w' hSw; (try dsimp only at hSw); go_split_ands; go_simp; first | done | with_reducible rfl)
      try simp only [Act.put, List.setIfInBounds_toArray, List.set_cons_zero, List.set_cons_succ]
      refine wpAnyH_take (i := 10) (oi := { dst := some 76, op := Op.move (Operand.tmp 2), type := 3, pos := "law.go:82", after := #[{ on := 7, ground := Ground.guard }], guard := some (7, true) }) (v := ?_) rfl (by kernel_rfl) (by kernel_rfl) (by kernel_rfl) (fun _ _ _ h => h) (Or.inl ⟨by rfl, ?_⟩) hHeld ?_
      rotate_left
      · (intro w' hSw; (try dsimp only at hSw); go_split_ands; go_simp; first | done | with_reducible rfl)
      try simp only [Act.put, List.setIfInBounds_toArray, List.set_cons_zero, List.set_cons_succ]
      refine wpAnyH_take (i := 12) (oi := { dst := some 78, op := Op.move (Operand.tmp 14), type := 31, pos := "law.go:82", after := #[{ on := 7, ground := Ground.guard }], guard := some (7, true) }) (v := ?_) rfl (by kernel_rfl) (by kernel_rfl) (by kernel_rfl) (fun _ _ _ h => h) (Or.inl ⟨by rfl, ?_⟩) hHeld ?_
      rotate_left
      · (intro w' hSw; (try dsimp only at hSw); go_split_ands; go_simp; first | done | with_reducible rfl)
      try simp only [Act.put, List.setIfInBounds_toArray, List.set_cons_zero, List.set_cons_succ]
      refine wpAnyH_take (i := 13) (oi := { dst := some 79, op := Op.move (Operand.tmp 1), type := 27, pos := "law.go:82", after := #[{ on := 7, ground := Ground.guard }], guard := some (7, true) }) (v := ?_) rfl (by kernel_rfl) (by kernel_rfl) (by kernel_rfl) (fun _ _ _ h => h) (Or.inl ⟨by rfl, ?_⟩) hHeld ?_
      rotate_left
      · (intro w' hSw; (try dsimp only at hSw); go_split_ands; go_simp; first | done | with_reducible rfl)
      try simp only [Act.put, List.setIfInBounds_toArray, List.set_cons_zero, List.set_cons_succ]
      refine wpAnyH_take (i := 14) (oi := { dst := some 80, op := Op.move (Operand.tmp 2), type := 3, pos := "law.go:82", after := #[{ on := 7, ground := Ground.guard }], guard := some (7, true) }) (v := ?_) rfl (by kernel_rfl) (by kernel_rfl) (by kernel_rfl) (fun _ _ _ h => h) (Or.inl ⟨by rfl, ?_⟩) hHeld ?_
      rotate_left
      · (intro w' hSw; (try dsimp only at hSw); go_split_ands; go_simp; first | done | with_reducible rfl)
      try simp only [Act.put, List.setIfInBounds_toArray, List.set_cons_zero, List.set_cons_succ]
      refine wpAnyH_ready (rs := [11]) (by kernel_rfl) (by simp) ?_
      refine AllReadyH.cons (o := { dst := some 77, op := Op.call { callee := Callee.value (Operand.func 14), args := #[Operand.tmp 74, Operand.tmp 75, Operand.tmp 76], argTypes := #[23, 27, 3] }, type := 31, pos := "law.go:82", after := #[{ on := 8, ground := Ground.data }, { on := 9, ground := Ground.data }, { on := 10, ground := Ground.data }, { on := 7, ground := Ground.chain }, { on := 7, ground := Ground.guard }], guard := some (7, true) }) rfl (fun K hK => ?_) AllReadyH.nil
      go_simp
      refine ((hFrom u2 kb2.out).out).mono ?_
      rintro e u3 ⟨Aa, ca, rfl, ra, hn3⟩
      have kb3 := Lib.hid (kb2.out.trans (hn3.mono kb2.out.size))
      rw [HLF.out]
      have sa := Lib.hid (ra.sees.sees (B := u3.heap.size) fun k e => e.2)
      clear ra
      clear hn3
      go_wp2_with fail
      refine hK.out _ _ ?_ ?_
      · (exact ⟨(kb3.out.cell (p := ⟨D, 0, none⟩) hDt).trans q0, (kb3.out.cell (p := ⟨D, 1, none⟩) hDt).trans q1⟩)
      clear hK K hHeld; intro hHeld
      try simp only [Act.put, List.setIfInBounds_toArray, List.set_cons_zero, List.set_cons_succ]
      refine wpAnyH_ready (rs := [15]) (by kernel_rfl) (by simp) ?_
      refine AllReadyH.cons (o := { dst := some 81, op := Op.call { callee := Callee.value (Operand.func 22), args := #[Operand.tmp 78, Operand.tmp 79, Operand.tmp 80], argTypes := #[31, 27, 3] }, type := 31, pos := "law.go:82", after := #[{ on := 12, ground := Ground.data }, { on := 13, ground := Ground.data }, { on := 14, ground := Ground.data }, { on := 11, ground := Ground.chain }, { on := 7, ground := Ground.guard }], guard := some (7, true) }) rfl (fun K hK => ?_) AllReadyH.nil
      go_simp
      refine ((hRFrom u3 kb3.out).out).mono ?_
      rintro e u4 ⟨vb, rfl, rb, hn4⟩
      have kb4 := Lib.hid (kb3.out.trans (hn4.mono kb3.out.size))
      obtain ⟨Ab, cb, rfl, -, sb'⟩ := rb.open_ hn4.size
      rw [HLF.out]
      have sb := Lib.hid sb'
      have sa2 := Lib.hid ((sa.out.below hn4).more hn4.size)
      clear rb sb' sa
      clear hn4
      go_wp2_with fail
      refine hK.out _ _ ?_ ?_
      · (exact ⟨(kb4.out.cell (p := ⟨D, 0, none⟩) hDt).trans q0, (kb4.out.cell (p := ⟨D, 1, none⟩) hDt).trans q1⟩)
      clear hK K hHeld; intro hHeld
      try simp only [Act.put, List.setIfInBounds_toArray, List.set_cons_zero, List.set_cons_succ]
      refine wpAnyH_ready (rs := [16]) (by kernel_rfl) (by simp) ?_
      refine AllReadyH.cons (o := { dst := some 82, op := Op.call { callee := Callee.value (Operand.func 21), args := #[Operand.tmp 77, Operand.tmp 81], argTypes := #[31, 31] }, type := 4, pos := "law.go:82", after := #[{ on := 11, ground := Ground.data }, { on := 15, ground := Ground.data }, { on := 15, ground := Ground.chain }, { on := 7, ground := Ground.guard }], guard := some (7, true) }) rfl (fun K hK => ?_) AllReadyH.nil
      go_simp
      refine (same_lists (w := u4) (c := ca) (d := cb) lf HLF.out HLF.out sa2.out sb.out (by omega)).mono ?_
      rintro e u5 ⟨rfl, hn5⟩
      have kb5 := Lib.hid (kb4.out.trans (hn5.mono kb4.out.size))
      clear hn5
      go_wp2_with fail
      refine hK.out _ _ ?_ ?_
      · (exact ⟨(kb5.out.cell (p := ⟨D, 0, none⟩) hDt).trans q0, (kb5.out.cell (p := ⟨D, 1, none⟩) hDt).trans q1⟩)
      clear hK K hHeld; intro hHeld
      try simp only [Act.put, List.setIfInBounds_toArray, List.set_cons_zero, List.set_cons_succ]
      refine wpAnyH_take (i := 17) (oi := { dst := some 83, op := Op.pick (Operand.tmp 73) (Operand.tmp 82) (Operand.const (Value.bool false)), type := 4, pos := "law.go:82", after := #[{ on := 7, ground := Ground.data }, { on := 16, ground := Ground.data }], guard := none }) (v := .bool true) rfl (by kernel_rfl) (by kernel_rfl) (by kernel_rfl) (fun _ _ _ h => h) (Or.inl ⟨by rfl, ?_⟩) hHeld ?_
      · (intro w' hSw; (try dsimp only at hSw); go_split_ands; go_simp; first | done | with_reducible rfl | simp)
      try simp only [Act.put, List.setIfInBounds_toArray, List.set_cons_zero, List.set_cons_succ]
      refine wpAnyH_take (i := 18) (oi := { dst := some 84, op := Op.move (Operand.tmp 83), type := 4, pos := "law.go:82", after := #[{ on := 17, ground := Ground.data }, { on := 16, ground := Ground.chain }], guard := none }) (v := ?_) rfl (by kernel_rfl) (by kernel_rfl) (by kernel_rfl) (fun _ _ _ h => h) (Or.inl ⟨by rfl, ?_⟩) hHeld ?_
      rotate_left
      · (intro w' hSw; (try dsimp only at hSw); go_split_ands; go_simp; first | done | with_reducible rfl)
      try simp only [Act.put, List.setIfInBounds_toArray, List.set_cons_zero, List.set_cons_succ]
      refine wpAnyH_take (i := 19) (oi := { dst := some 85, op := Op.move (Operand.tmp 9), type := 23, pos := "law.go:82", after := #[{ on := 18, ground := Ground.guard }], guard := some (18, true) }) (v := ?_) rfl (by kernel_rfl) (by kernel_rfl) (by kernel_rfl) (fun _ _ _ h => h) (Or.inl ⟨by rfl, ?_⟩) hHeld ?_
      rotate_left
      · (intro w' hSw; (try dsimp only at hSw); go_split_ands; go_simp; first | done | with_reducible rfl)
      try simp only [Act.put, List.setIfInBounds_toArray, List.set_cons_zero, List.set_cons_succ]
      refine wpAnyH_take (i := 20) (oi := { dst := some 86, op := Op.move (Operand.tmp 1), type := 27, pos := "law.go:82", after := #[{ on := 18, ground := Ground.guard }], guard := some (18, true) }) (v := ?_) rfl (by kernel_rfl) (by kernel_rfl) (by kernel_rfl) (fun _ _ _ h => h) (Or.inl ⟨by rfl, ?_⟩) hHeld ?_
      rotate_left
      · (intro w' hSw; (try dsimp only at hSw); go_split_ands; go_simp; first | done | with_reducible rfl)
      try simp only [Act.put, List.setIfInBounds_toArray, List.set_cons_zero, List.set_cons_succ]
      refine wpAnyH_take (i := 22) (oi := { dst := some 88, op := Op.move (Operand.tmp 14), type := 31, pos := "law.go:82", after := #[{ on := 18, ground := Ground.guard }], guard := some (18, true) }) (v := ?_) rfl (by kernel_rfl) (by kernel_rfl) (by kernel_rfl) (fun _ _ _ h => h) (Or.inl ⟨by rfl, ?_⟩) hHeld ?_
      rotate_left
      · (intro w' hSw; (try dsimp only at hSw); go_split_ands; go_simp; first | done | with_reducible rfl)
      try simp only [Act.put, List.setIfInBounds_toArray, List.set_cons_zero, List.set_cons_succ]
      refine wpAnyH_take (i := 23) (oi := { dst := some 89, op := Op.move (Operand.tmp 1), type := 27, pos := "law.go:82", after := #[{ on := 18, ground := Ground.guard }], guard := some (18, true) }) (v := ?_) rfl (by kernel_rfl) (by kernel_rfl) (by kernel_rfl) (fun _ _ _ h => h) (Or.inl ⟨by rfl, ?_⟩) hHeld ?_
      rotate_left
      · (intro w' hSw; (try dsimp only at hSw); go_split_ands; go_simp; first | done | with_reducible rfl)
      try simp only [Act.put, List.setIfInBounds_toArray, List.set_cons_zero, List.set_cons_succ]
      refine wpAnyH_ready (rs := [21]) (by kernel_rfl) (by simp) ?_
      refine AllReadyH.cons (o := { dst := some 87, op := Op.call { callee := Callee.value (Operand.func 23), args := #[Operand.tmp 85, Operand.tmp 86], argTypes := #[23, 27] }, type := 31, pos := "law.go:82", after := #[{ on := 19, ground := Ground.data }, { on := 20, ground := Ground.data }, { on := 18, ground := Ground.chain }, { on := 18, ground := Ground.guard }], guard := some (18, true) }) rfl (fun K hK => ?_) AllReadyH.nil
      go_simp
      refine ((hPre u5 kb5.out).out).mono ?_
      rintro e u6 ⟨Ac, cc, rfl, rc, hn6⟩
      have kb6 := Lib.hid (kb5.out.trans (hn6.mono kb5.out.size))
      rw [HLP.out]
      have sc := Lib.hid (rc.sees.sees (B := u6.heap.size) fun k e => e.2)
      clear rc
      clear hn6
      go_wp2_with fail
      refine hK.out _ _ ?_ ?_
      · (exact ⟨(kb6.out.cell (p := ⟨D, 0, none⟩) hDt).trans q0, (kb6.out.cell (p := ⟨D, 1, none⟩) hDt).trans q1⟩)
      clear hK K hHeld; intro hHeld
      try simp only [Act.put, List.setIfInBounds_toArray, List.set_cons_zero, List.set_cons_succ]
      refine wpAnyH_ready (rs := [24]) (by kernel_rfl) (by simp) ?_
      refine AllReadyH.cons (o := { dst := some 90, op := Op.call { callee := Callee.value (Operand.func 24), args := #[Operand.tmp 88, Operand.tmp 89], argTypes := #[31, 27] }, type := 31, pos := "law.go:82", after := #[{ on := 22, ground := Ground.data }, { on := 23, ground := Ground.data }, { on := 21, ground := Ground.chain }, { on := 18, ground := Ground.guard }], guard := some (18, true) }) rfl (fun K hK => ?_) AllReadyH.nil
      go_simp
      refine ((hRPre u6 kb6.out).out).mono ?_
      rintro e u7 ⟨vd, rfl, rd, hn7⟩
      have kb7 := Lib.hid (kb6.out.trans (hn7.mono kb6.out.size))
      obtain ⟨Ad, cd, rfl, -, sd'⟩ := rd.open_ hn7.size
      rw [HLP.out]
      have sd := Lib.hid sd'
      have sc2 := Lib.hid ((sc.out.below hn7).more hn7.size)
      clear rd sd' sc
      clear hn7
      go_wp2_with fail
      refine hK.out _ _ ?_ ?_
      · (exact ⟨(kb7.out.cell (p := ⟨D, 0, none⟩) hDt).trans q0, (kb7.out.cell (p := ⟨D, 1, none⟩) hDt).trans q1⟩)
      clear hK K hHeld; intro hHeld
      try simp only [Act.put, List.setIfInBounds_toArray, List.set_cons_zero, List.set_cons_succ]
      refine wpAnyH_ready (rs := [25]) (by kernel_rfl) (by simp) ?_
      refine AllReadyH.cons (o := { dst := some 91, op := Op.call { callee := Callee.value (Operand.func 21), args := #[Operand.tmp 87, Operand.tmp 90], argTypes := #[31, 31] }, type := 4, pos := "law.go:82", after := #[{ on := 21, ground := Ground.data }, { on := 24, ground := Ground.data }, { on := 24, ground := Ground.chain }, { on := 18, ground := Ground.guard }], guard := some (18, true) }) rfl (fun K hK => ?_) AllReadyH.nil
      go_simp
      refine (same_lists (w := u7) (c := cc) (d := cd) lp HLP.out HLP.out sc2.out sd.out (by omega)).mono ?_
      rintro e u8 ⟨rfl, hn8⟩
      have kb8 := Lib.hid (kb7.out.trans (hn8.mono kb7.out.size))
      clear hn8
      go_wp2_with fail
      refine hK.out _ _ ?_ ?_
      · (exact ⟨(kb8.out.cell (p := ⟨D, 0, none⟩) hDt).trans q0, (kb8.out.cell (p := ⟨D, 1, none⟩) hDt).trans q1⟩)
      clear hK K hHeld; intro hHeld
      try simp only [Act.put, List.setIfInBounds_toArray, List.set_cons_zero, List.set_cons_succ]
      refine wpAnyH_take (i := 26) (oi := { dst := some 92, op := Op.pick (Operand.tmp 84) (Operand.tmp 91) (Operand.const (Value.bool false)), type := 4, pos := "law.go:82", after := #[{ on := 18, ground := Ground.data }, { on := 25, ground := Ground.data }], guard := none }) (v := .bool true) rfl (by kernel_rfl) (by kernel_rfl) (by kernel_rfl) (fun _ _ _ h => h) (Or.inl ⟨by rfl, ?_⟩) hHeld ?_
      · (intro w' hSw; (try dsimp only at hSw); go_split_ands; go_simp; first | done | with_reducible rfl | simp)
      try simp only [Act.put, List.setIfInBounds_toArray, List.set_cons_zero, List.set_cons_succ]
      refine wpAnyH_take (i := 27) (oi := { dst := some 6, op := Op.assign (Operand.tmp 92), type := 4, pos := "law.go:82", after := #[{ on := 26, ground := Ground.data }, { on := 25, ground := Ground.chain }, { on := 0, ground := Ground.phase }, { on := 1, ground := Ground.phase }, { on := 2, ground := Ground.phase }, { on := 3, ground := Ground.phase }, { on := 4, ground := Ground.phase }, { on := 5, ground := Ground.phase }, { on := 6, ground := Ground.phase }, { on := 7, ground := Ground.phase }, { on := 8, ground := Ground.phase }, { on := 9, ground := Ground.phase }, { on := 10, ground := Ground.phase }, { on := 11, ground := Ground.phase }, { on := 12, ground := Ground.phase }, { on := 13, ground := Ground.phase }, { on := 14, ground := Ground.phase }, { on := 15, ground := Ground.phase }, { on := 16, ground := Ground.phase }, { on := 17, ground := Ground.phase }, { on := 18, ground := Ground.phase }, { on := 19, ground := Ground.phase }, { on := 20, ground := Ground.phase }, { on := 21, ground := Ground.phase }, { on := 22, ground := Ground.phase }, { on := 23, ground := Ground.phase }, { on := 24, ground := Ground.phase }, { on := 25, ground := Ground.phase }, { on := 26, ground := Ground.phase }], guard := none }) (v := ?_) rfl (by kernel_rfl) (by kernel_rfl) (by kernel_rfl) (fun _ _ _ h => h) (Or.inl ⟨by rfl, ?_⟩) hHeld ?_
      rotate_left
      · (intro w' hSw; (try dsimp only at hSw); go_split_ands; go_simp; first | done | with_reducible rfl)
      try simp only [Act.put, List.setIfInBounds_toArray, List.set_cons_zero, List.set_cons_succ]
      refine wpAnyH_done (by kernel_rfl) ?_ _
      refine NoPanic.normal ?_
      go_wp2
      go_ret
      exact ⟨rfl, hbt.trans (kb8.out.mono hbt.size)⟩
end Go.Proofs.YtadakaenbemedaaGreatDoor
