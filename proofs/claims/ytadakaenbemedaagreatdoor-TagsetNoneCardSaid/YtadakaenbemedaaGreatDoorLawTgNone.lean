/-
  The law TagsetNone, walked: a set that is none has nothing; what is told is new memory.
-/
import Derived.Test.YtadakaenbemedaaGreatDoorTgRow
import Derived.Test.YtadakaenbemedaaGreatDoorLawTgFull
import Derived.StillTailTactics
namespace Go.Proofs.YtadakaenbemedaaGreatDoor
open Go.RowKit Go.Maps

set_option maxRecDepth 100000 in
set_option maxHeartbeats 3200000 in
theorem TagsetNone_any (B : Option Addr) (lx dx : Nat) (x : Item) (hxl : x.length = lx) (A : Option Addr) (n c : Nat) (ls : List Act) (hn : ls.length = n) (w : World) (hX : Sees w w.heap.size B (bv x)) (hS : ActsAt (fun k => k < w.heap.size) w A ls) (hH : Halves w) :
    Calls Tryz.prog 7 #[.slice B lx dx, .slice A n c] w (IsTrue w) := by
  have hnot : ∀ (x : Bool) (w : World), (Op.unary .not (.bool x)).run Tryz.prog w = .ok (.bool (!x)) w := fun _ _ => rfl
  have HH := Lib.hid hH
  have HN := Lib.hid hn
  have HXL := Lib.hid hxl
  have HX := Lib.hid hX
  have hFw := fun w' (hb : Below w.heap.size w w') => Lib.hid (fewA_any (fun k => k < w.heap.size) A n c ls hn w' (hS.below hb))
  cases hf : fewA ls with
  | false =>
    rw [hf] at hFw
    clear hf hn hH hxl hX
    go_enter Tryz.func7, Tryz.ntmps7
    go_wp2_with fail
    refine (awake_any w HH.out).mono ?_
    rintro e w0 ⟨rfl, hb0⟩
    go_wp2_with fail
    refine (hFw w0 hb0).out.mono ?_
    rintro e w1 ⟨rfl, rfl⟩
    go_wp2
    go_ret
    exact ⟨rfl, hb0⟩
  | true =>
  rw [hf] at hFw
  obtain ⟨hl80, hsh⟩ := fewA_yes hf
  have HL80 := Lib.hid hl80
  have HSH := Lib.hid hsh
  have hn80 : n ≤ 80 := by omega
  by_cases hlong : 400 < lx
  · have hlong' : (400 : Int) < (lx : Int) := by omega
    clear hf hn hxl hX hH hsh hl80
    go_enter Tryz.func7, Tryz.ntmps7
    go_wp2_with fail
    refine (awake_any w HH.out).mono ?_
    rintro e w0 ⟨rfl, hb0⟩
    go_wp2_with fail
    refine (hFw w0 hb0).out.mono ?_
    rintro e w1 ⟨rfl, rfl⟩
    go_wp2
    go_ret
    exact ⟨rfl, hb0⟩
  have hshort : (lx : Int) ≤ 400 := by omega
  have hlx4 : lx ≤ 400 := by omega
  clear hf hn hH hsh hl80 hxl hX hlong
  go_enter Tryz.func7, Tryz.ntmps7
  go_wp2_with fail
  refine (awake_any w HH.out).mono ?_
  rintro e w0 ⟨rfl, hb0⟩
  go_wp2_with fail
  refine (hFw w0 hb0).out.mono ?_
  rintro e w0' ⟨rfl, rfl⟩
  have HXw : ∀ W, Below w.heap.size w W → Sees W W.heap.size B (bv x) := fun W hW => (HX.out.below hW).more hW.size
  have hFl := fun W => Lib.hid (flush_nil W)
  have hMg := fun W => Lib.hid (merge_nil W)
  have hAd := fun W => Lib.hid (add_nil B lx dx W)
  have hHs := fun W (hW : Below w.heap.size w W) => Lib.hid (setHas_nil W B lx dx x HXL.out (by omega) (HXw W hW))
  have hFm := fun W (hW : Below w.heap.size w W) => Lib.hid (setFrom_nil (dx := dx) W HXL.out (HXw W hW) 3)
  have hPf := fun W (hW : Below w.heap.size w W) => Lib.hid (setPrefix_nil (dx := dx) W HXL.out (HXw W hW))
  go_wp2_with fail
  refine (hFl _).out.mono ?_
  rintro e v0 ⟨rfl, rfl⟩
  go_wp2_with fail
  refine (hMg _).out.mono ?_
  rintro e v0 ⟨rfl, rfl⟩
  go_wp2_with fail
  refine (hAd _).out.mono ?_
  rintro e v0 ⟨rfl, rfl⟩
  go_wp2_with fail
  refine (hHs _ hb0).out.mono ?_
  rintro e v1 ⟨rfl, hv1'⟩
  have hv1 := hb0.trans (hv1'.mono hb0.size)
  clear hv1'
  go_wp2_with fail
  refine (hFm _ hv1).out.mono ?_
  rintro e v2 ⟨Av, cv, rfl, -, hv2'⟩
  rw [show ([] : List Item).length = 0 from rfl]
  have hv2 := hv1.trans (hv2'.mono hv1.size)
  clear hv2' hv1 hb0
  go_wp2_with fail
  refine (hPf _ hv2).out.mono ?_
  rintro e v3 ⟨Aw, cw, rfl, -, hv3'⟩
  rw [show ([] : List Item).length = 0 from rfl]
  have hb0 := hv2.trans (hv3'.mono hv2.size)
  have hFr := Lib.hid (fresh_nil v3)
  have hPa := Lib.hid (parts_nil v3)
  clear hv3' hv2 hFl hMg hAd hHs hFm hPf HXw
  go_wp2_with fail
  refine hFr.out.mono ?_
  rintro e v4 ⟨rfl, rfl⟩
  go_wp2_with fail
  refine hPa.out.mono ?_
  rintro e v4 ⟨rfl, rfl⟩
  clear hFr hPa
  go_wp2_with fail
  refine (new_any v3).mono ?_
  rintro e w1 ⟨rfl, hA1, hb1⟩
  obtain ⟨S, hS1⟩ : ∃ S, v3.heap.size + 1 = S := ⟨_, rfl⟩
  rw [hS1] at hA1 ⊢
  have hs0 := hb0.size
  have hs1 := hb1.size
  obtain ⟨w2, hw2⟩ : ∃ w2, w1.alloc (.cells #[.slice none 0 0, .slice none 0 0] 38) = w2 := ⟨_, rfl⟩
  have hb2 : Below w1.heap.size w1 w2 := by rw [← hw2]; exact (Below.refl _ w1).alloc (Nat.le_refl _) _
  have hbx : Box2 w2 w1.heap.size 38 (.slice none 0 0) (.slice none 0 0) := by rw [← hw2]; exact Box2.new w1 _ rfl _ _ _
  obtain ⟨HSC, HBW2⟩ := Script.start hb0 hA1 hb1 hb2 hbx
  have b0 := hbx.cell0
  have b1 := hbx.cell1
  have b2 := hbx.frozen 0
  have b3 := hbx.frozen 1
  clear hA1 hS1 hb0 hb1 hb2 hFw hbx
  go_wp2
  obtain ⟨D, hD⟩ : ∃ D, w1.heap.size = D := ⟨_, rfl⟩
  rw [hD] at HSC HBW2
  simp only [hD]
  clear b0 b1 b2 b3
  go_loopg [14] n (fun g i wr => ∃ k : Nat, k + g = n ∧ i = .int .i64 k ∧ Hid (Script w.heap.size wr S D (SetM.new.plays (ls.take k))) ∧ Below w.heap.size w wr)
  case atStart => exact ⟨0, by omega, rfl, HSC.out, HBW2.out⟩
  case round =>
    obtain ⟨k, hk, rfl, hpair, hb⟩ := hrel
    have hbs := hb.size
    by_cases hlt : k < n
    · have hkl : k < ls.length := by have := HN.out; omega
      obtain ⟨m, q, A0, c0, F0, d0, hP, hbx, hmD, hqD, hDl⟩ := hpair.out
      have hfit := plays_fit ls HL80.out k (by omega)
      obtain ⟨s, hs⟩ : ∃ s, SetM.new.plays (ls.take k) = s := ⟨_, rfl⟩
      have hnext := plays_succ SetM.new ls k hkl
      rw [hs] at hP hbx hfit hnext
      obtain ⟨ad, Ai, ci, rfl, had, g0, g1, g2, g3, hci, hsee⟩ := hS.out k hkl
      obtain ⟨y, hy⟩ : ∃ y, ls[k] = y := ⟨_, rfl⟩
      rw [hy] at g0 g1 g2 g3 hci hsee hnext
      have hy450 : y.item.length ≤ 450 := hy ▸ HSH.out k hkl
      obtain ⟨li, hli⟩ : ∃ li, y.item.length = li := ⟨_, rfl⟩
      rw [hli] at g1 hci hy450
      obtain ⟨a0, ha0⟩ : ∃ a, s.mem.length = a := ⟨_, rfl⟩
      obtain ⟨f0, hf0⟩ : ∃ a, s.fs.length = a := ⟨_, rfl⟩
      rw [ha0, hf0] at hP hbx
      obtain ⟨a1, ha1⟩ : ∃ a, (s.play y).mem.length = a := ⟨_, rfl⟩
      obtain ⟨f1, hf1⟩ : ∃ a, (s.play y).fs.length = a := ⟨_, rfl⟩
      have HLm := Lib.hid ha1
      have HLf := Lib.hid hf1
      have hKp : Kept (fun k => k < w.heap.size) w wr := Kept.of_below hb fun k e => e
      have hadk : (ad.add (k * 4)).block < w.heap.size := by rw [add_block]; exact had
      have q2 := (hKp.cell (p := ad.add (k * 4)) hadk).trans g0
      have q3 := (hKp.cell (p := ⟨(ad.add (k * 4)).block, (ad.add (k * 4)).off + 1, none⟩) hadk).trans g1
      have q4 := (hKp.cell (p := ⟨(ad.add (k * 4)).block, (ad.add (k * 4)).off + 2, none⟩) hadk).trans g2
      have q5 := (hKp.cell (p := ⟨(ad.add (k * 4)).block, (ad.add (k * 4)).off + 3, none⟩) hadk).trans g3
      obtain ⟨kd, hkd⟩ : ∃ x, y.kind = x := ⟨_, rfl⟩
      obtain ⟨aa, haa⟩ : ∃ x, y.a = x := ⟨_, rfl⟩
      obtain ⟨bb, hbb⟩ : ∃ x, y.b = x := ⟨_, rfl⟩
      have hDn := fun w' (hb' : Below wr.heap.size wr w') => Lib.hid (done_any w.heap.size m q w' S _ s (hP.below hb') hfit (HH.out.below (hb.trans (hb'.mono hbs)) HH.out.1) y Ai li ci hli hy450 hci (hsee.keep (hKp.trans (Kept.of_below hb' fun k e => by omega))))
      rw [hkd, haa, hbb] at hDn
      rw [hkd] at q2
      rw [haa] at q4
      rw [hbb] at q5
      have hKeep : ∀ w2, Below w.heap.size wr w2 → w2.cell? (ad.add (k * 4)) = some (.int .i64 kd) ∧ w2.cell? ⟨(ad.add (k * 4)).block, (ad.add (k * 4)).off + 1, none⟩ = some (.slice Ai li ci) ∧ w2.cell? ⟨(ad.add (k * 4)).block, (ad.add (k * 4)).off + 2, none⟩ = some (.int .i64 aa) ∧ w2.cell? ⟨(ad.add (k * 4)).block, (ad.add (k * 4)).off + 3, none⟩ = some (.int .i64 bb) := fun w2 hb2 =>
        ⟨(hb2.cell (p := ad.add (k * 4)) hadk).trans q2, (hb2.cell (p := ⟨(ad.add (k * 4)).block, (ad.add (k * 4)).off + 1, none⟩) hadk).trans q3, (hb2.cell (p := ⟨(ad.add (k * 4)).block, (ad.add (k * 4)).off + 2, none⟩) hadk).trans q4, (hb2.cell (p := ⟨(ad.add (k * 4)).block, (ad.add (k * 4)).off + 3, none⟩) hadk).trans q5⟩
      have b0 := hbx.cell0
      have b1 := hbx.cell1
      have HP := Lib.hid hP
      have HBX := Lib.hid hbx
      have HNX := Lib.hid hnext
      have HKL := Lib.hid hkl
      clear hP hbx hnext hpair hfit hs hy hli ha0 hf0 ha1 hf1 hkd haa hbb g0 g1 g2 g3 hsee hKp HSC HBW2 hw2 hD
      go_wp2_with fail
      refine wp_region_noPanic ?_
      refine wp_region_held_drew (S := fun w' => w'.cell? (ad.add (k * 4)) = some (.int .i64 kd) ∧ w'.cell? ⟨(ad.add (k * 4)).block, (ad.add (k * 4)).off + 1, none⟩ = some (.slice Ai li ci) ∧ w'.cell? ⟨(ad.add (k * 4)).block, (ad.add (k * 4)).off + 2, none⟩ = some (.int .i64 aa) ∧ w'.cell? ⟨(ad.add (k * 4)).block, (ad.add (k * 4)).off + 3, none⟩ = some (.int .i64 bb)) (by kernel_rfl) ?_ (fun hHeld => ?_)
      · (exact ⟨q2, q3, q4, q5⟩)
      refine wpAnyH_take (i := 0) (oi := { dst := some 89, op := Op.move (Operand.tmp 12), type := 23, pos := "law.go:240", after := #[], guard := none }) (v := ?_) rfl (by kernel_rfl) (by kernel_rfl) (by kernel_rfl) (fun _ _ _ h => h) (Or.inl ⟨by rfl, ?_⟩) hHeld ?_
      rotate_left
      · (intro w' hSw; (try dsimp only at hSw); go_split_ands; go_simp; first | done | with_reducible rfl)
      try simp only [Act.put, List.setIfInBounds_toArray, List.set_cons_zero, List.set_cons_succ]
      refine wpAnyH_take (i := 2) (oi := { dst := some 91, op := Op.move (Operand.tmp 1), type := 34, pos := "law.go:240", after := #[], guard := none }) (v := ?_) rfl (by kernel_rfl) (by kernel_rfl) (by kernel_rfl) (fun _ _ _ h => h) (Or.inl ⟨by rfl, ?_⟩) hHeld ?_
      rotate_left
      · (intro w' hSw; (try dsimp only at hSw); go_split_ands; go_simp; first | done | with_reducible rfl)
      try simp only [Act.put, List.setIfInBounds_toArray, List.set_cons_zero, List.set_cons_succ]
      refine wpAnyH_take (i := 3) (oi := { dst := some 92, op := Op.move (Operand.tmp 14), type := 3, pos := "law.go:240", after := #[], guard := none }) (v := ?_) rfl (by kernel_rfl) (by kernel_rfl) (by kernel_rfl) (fun _ _ _ h => h) (Or.inl ⟨by rfl, ?_⟩) hHeld ?_
      rotate_left
      · (intro w' hSw; (try dsimp only at hSw); go_split_ands; go_simp; first | done | with_reducible rfl)
      try simp only [Act.put, List.setIfInBounds_toArray, List.set_cons_zero, List.set_cons_succ]
      refine wpAnyH_take (i := 4) (oi := { dst := some 93, op := Op.indexAddr 34 (Operand.tmp 91) (Operand.tmp 92), type := 0, pos := "law.go:240", after := #[{ on := 2, ground := Ground.data }, { on := 3, ground := Ground.data }], guard := none }) (v := ?_) rfl (by kernel_rfl) (by kernel_rfl) (by kernel_rfl) (fun _ _ _ h => h) (Or.inl ⟨by rfl, ?_⟩) hHeld ?_
      rotate_left
      · (intro w' hSw; (try dsimp only at hSw); go_split_ands; go_simp; first | done | with_reducible rfl)
      try simp only [Act.put, List.setIfInBounds_toArray, List.set_cons_zero, List.set_cons_succ]
      refine wpAnyH_take (i := 5) (oi := { dst := some 94, op := Op.load 42 (Operand.tmp 93), type := 42, pos := "law.go:240", after := #[{ on := 4, ground := Ground.data }], guard := none }) (v := ?_) rfl (by kernel_rfl) (by kernel_rfl) (by kernel_rfl) (fun _ _ _ h => h) (Or.inl ⟨by rfl, ?_⟩) hHeld ?_
      rotate_left
      · (intro w' hSw; (try dsimp only at hSw); go_split_ands; go_simp; first | done | with_reducible rfl)
      try simp only [Act.put, List.setIfInBounds_toArray, List.set_cons_zero, List.set_cons_succ]
      refine wpAnyH_ready (rs := [1]) (by kernel_rfl) (by simp) ?_
      refine AllReadyH.cons (o := { dst := some 90, op := Op.load 38 (Operand.tmp 13), type := 38, pos := "law.go:240", after := #[], guard := none }) rfl (fun K hK => ?_) AllReadyH.nil
      go_simp
      refine hK.out _ _ ?_ ?_
      · (exact ⟨q2, q3, q4, q5⟩)
      clear hK K hHeld; intro hHeld
      try simp only [Act.put, List.setIfInBounds_toArray, List.set_cons_zero, List.set_cons_succ]
      refine wpAnyH_ready (rs := [6]) (by kernel_rfl) (by simp) ?_
      refine AllReadyH.cons (o := { dst := some 95, op := Op.call { callee := Callee.value (Operand.func 16), args := #[Operand.tmp 89, Operand.tmp 90, Operand.tmp 94], argTypes := #[23, 38, 42] }, type := 39, pos := "law.go:240", after := #[{ on := 0, ground := Ground.data }, { on := 1, ground := Ground.data }, { on := 5, ground := Ground.data }], guard := none }) rfl (fun K hK => ?_) AllReadyH.nil
      go_simp
      refine (hDn wr.drew (below_drew (Below.refl _ _))).out.mono ?_
      rintro e w2 ⟨v', m2, q2', rfl, mv⟩
      obtain ⟨A1, c1, F1, d1, hv1, -⟩ := mv.pair.ref.out
      rw [HLm.out, HLf.out] at hv1
      subst hv1
      have MV := Lib.hid mv
      clear mv
      go_wp2_with fail
      refine hK.out _ _ ?_ ?_
      · (exact hKeep w2 ((below_drew (Below.refl _ wr)).trans (MV.out.turn.below HP.out.old hbs)))
      clear hK K hHeld; intro hHeld
      try simp only [Act.put, List.setIfInBounds_toArray, List.set_cons_zero, List.set_cons_succ]
      have hb2 := HBX.out.keep (W' := w2) ((MV.out.turn.block D HBX.out.lt hmD).trans rfl)
      have z0 := hb2.frozen 0
      have z1 := hb2.frozen 1
      have y0 := hb2.cell0
      have y1 := hb2.cell1
      refine wpAnyH_take (i := 7) (oi := { dst := some 88, op := Op.move (Operand.tmp 95), type := 39, pos := "law.go:240", after := #[{ on := 6, ground := Ground.data }], guard := none }) (v := ?_) rfl (by kernel_rfl) (by kernel_rfl) (by kernel_rfl) (fun _ _ _ h => h) (Or.inl ⟨by rfl, ?_⟩) hHeld ?_
      rotate_left
      · (intro w' hSw; (try dsimp only at hSw); go_split_ands; go_simp; first | done | with_reducible rfl)
      try simp only [Act.put, List.setIfInBounds_toArray, List.set_cons_zero, List.set_cons_succ]
      refine wpAnyH_take (i := 8) (oi := { dst := some 96, op := Op.extract (Operand.tmp 88) 0, type := 38, pos := "law.go:240", after := #[{ on := 7, ground := Ground.data }], guard := none }) (v := ?_) rfl (by kernel_rfl) (by kernel_rfl) (by kernel_rfl) (fun _ _ _ h => h) (Or.inl ⟨by rfl, ?_⟩) hHeld ?_
      rotate_left
      · (intro w' hSw; (try dsimp only at hSw); go_split_ands; go_simp; first | done | with_reducible rfl)
      try simp only [Act.put, List.setIfInBounds_toArray, List.set_cons_zero, List.set_cons_succ]
      refine wpAnyH_take (i := 9) (oi := { dst := some 97, op := Op.extract (Operand.tmp 88) 1, type := 4, pos := "law.go:240", after := #[{ on := 7, ground := Ground.data }, { on := 10, ground := Ground.gcOnly Departure.lateStores }], guard := none }) (v := ?_) rfl (by kernel_rfl) (by kernel_rfl) (by kernel_rfl) (fun _ _ _ h => h) (Or.inl ⟨by rfl, ?_⟩) hHeld ?_
      rotate_left
      · (intro w' hSw; (try dsimp only at hSw); go_split_ands; go_simp; first | done | with_reducible rfl)
      try simp only [Act.put, List.setIfInBounds_toArray, List.set_cons_zero, List.set_cons_succ]
      refine wpAnyH_ready (rs := [10]) (by kernel_rfl) (by simp) ?_
      refine AllReadyH.cons (o := { dst := none, op := Op.store 38 (Operand.tmp 13) (Operand.tmp 96), type := 0, pos := "law.go:240", after := #[{ on := 8, ground := Ground.data }, { on := 6, ground := Ground.chain }, { on := 0, ground := Ground.phase }, { on := 1, ground := Ground.phase }, { on := 2, ground := Ground.phase }, { on := 3, ground := Ground.phase }, { on := 4, ground := Ground.phase }, { on := 5, ground := Ground.phase }, { on := 6, ground := Ground.phase }, { on := 7, ground := Ground.phase }, { on := 8, ground := Ground.phase }, { on := 9, ground := Ground.textOnly Departure.lateStores }], guard := none }) rfl (fun K hK => ?_) AllReadyH.nil
      have HH2 := Lib.hid hHeld
      clear hHeld
      go_simp
      have hHeld : True := trivial
      refine hK.out _ _ ?_ ?_
      · (exact hKeep _ ((below_drew (Below.refl _ wr)).trans (Script.stored (w := wr.drew) (HBX.out.keep rfl) hmD hqD hDl HP.out.old HLm.out HLf.out MV.out).2))
      clear hK K hHeld; intro hHeld
      try simp only [Act.put, List.setIfInBounds_toArray, List.set_cons_zero, List.set_cons_succ]
      refine wpAnyH_done (by kernel_rfl) ?_ _
      refine NoPanic.normal ?_
      go_wp2
      have hst := Script.stored (w := wr.drew) (HBX.out.keep rfl) hmD hqD hDl HP.out.old HLm.out HLf.out MV.out
      go_roundg (n - (k + 1))
      case measure => have := HKL.out; have := HN.out; omega
      case rel => exact ⟨k + 1, by omega, by go_num, HNX.out.symm ▸ hst.1, hb.trans ((below_drew (Below.refl _ wr)).trans hst.2)⟩
    · obtain rfl : k = n := by omega
      obtain ⟨m, q, A0, c0, F0, d0, hP, hbx, -, -, -⟩ := hpair.out
      have hfit := plays_fit ls HL80.out k (by have := HN.out; omega)
      obtain ⟨s, hs⟩ : ∃ s, SetM.new.plays (ls.take k) = s := ⟨_, rfl⟩
      rw [hs] at hP hbx hfit hpair
      obtain ⟨a, ha⟩ : ∃ a, s.all = a := ⟨_, rfl⟩
      have hal : a.length ≤ 900 := by rw [← ha]; have := all_len s; have := hfit.total; omega
      have hash : ∀ y ∈ a, y.length ≤ 400 := fun y hy => by
        rw [← ha] at hy
        rcases (mem_all s y).1 hy with e | e
        · obtain ⟨f, hf, e⟩ := List.mem_flatten.1 e
          exact (bad_len (hfit.ok.bad f (List.mem_cons_of_mem _ hf) y e)).2
        · exact (bad_len (hfit.ok.bad s.mem List.mem_cons_self y e)).2
      have hall : (fromL a []).take (1073741824 : Int).toNat = a := by
        rw [fromL_nil]
        exact List.take_of_length_le (by omega)
      obtain ⟨la, hla⟩ : ∃ l, a.length = l := ⟨_, rfl⟩
      rw [hla] at hal
      have hFm := fun W (hW : Below wr.heap.size wr W) => Lib.hid (setFrom_any (hP.set.below hW) hfit (x := []) (Bx := none) (lx := 0) (dx := 0) rfl ⟨.inl rfl⟩ 1073741824)
      have hAl := fun W (hW : Below wr.heap.size wr W) => Lib.hid (refAll_any q W _ s (hP.below hW).ref (fun k e => ((hP.below hW).sep k e).1) hfit)
      obtain ⟨a0, ha0⟩ : ∃ a, s.mem.length = a := ⟨_, rfl⟩
      obtain ⟨f0, hf0⟩ : ∃ a, s.fs.length = a := ⟨_, rfl⟩
      rw [ha0, hf0] at hP hbx hAl
      rw [ha, hall] at hFm
      rw [ha] at hAl
      have HSEP := Lib.hid hP.sep
      have HBX := Lib.hid hbx
      have HASH := Lib.hid hash
      have HLA := Lib.hid hla
      clear hP hbx hpair hs hfit ha0 hf0 ha hall hla hash HSC HBW2 hw2 hD hlt
      obtain ⟨wp, hwp⟩ : ∃ W, W = wr := ⟨_, rfl⟩
      subst hwp
      go_wp2_with fail
      refine (hFm wp (Below.refl _ _)).out.mono ?_
      rintro e w7 ⟨A7, c7, rfl, hrow', hb7⟩
      rw [HLA.out]
      have hrow7 := hrow'.rowAt
      have hw7 := hb7.size
      have hD9 := HBX.out.lt
      obtain ⟨z0, hz0⟩ : ∃ z, wp.heap.size = z := ⟨_, rfl⟩
      rw [hz0] at hrow7 hb7 hw7 hD9 hbs
      have HZ0 := Lib.hid hz0
      clear hrow' hz0
      go_wp2
      go_loopg [16] la (fun g' i wx => ∃ (k : Nat), k + g' = la ∧ i = .int .i64 k ∧ RowAt wx (fun k => z0 ≤ k ∧ k < w7.heap.size) A7 a ∧ Below z0 wp wx ∧ w7.heap.size ≤ wx.heap.size)
      case atStart => exact ⟨0, by omega, rfl, hrow7, hb7, Nat.le_refl _⟩
      case round =>
        obtain ⟨i, hi, rfl, hrow, hbx, hzx⟩ := hrel
        by_cases hlt2 : i < la
        · obtain ⟨ad, Ai, ci, rfl, hadq, -, -, -⟩ := hrow.out i (by have := HLA.out; omega)
          obtain ⟨Li, hLi⟩ : ∃ Li, (a[i]'(by have := HLA.out; omega)).length = Li := ⟨_, rfl⟩
          have hL500 : Li ≤ 400 := by rw [← hLi]; exact HASH.out _ (List.getElem_mem _)
          have HLI := Lib.hid hLi
          clear hLi
          go_wp2
          go_loopg [17] Li (fun g2 u wy => ∃ (j : Nat), j + g2 = Li ∧ u = .int .i64 j ∧ RowAt wy (fun k => z0 ≤ k ∧ k < w7.heap.size) (some ad) a ∧ Below z0 wp wy ∧ w7.heap.size ≤ wy.heap.size)
          case atStart => exact ⟨0, by omega, rfl, hrow, hbx, hzx⟩
          case round =>
            obtain ⟨j, hj, rfl, hrow2, hby, hzy⟩ := hrel
            obtain ⟨ad2, Ai2, ci2, hade, hadq2, hcell, hci, hby2⟩ := hrow2.out i (by have := HLA.out; omega)
            obtain rfl := Option.some.inj hade
            rw [HLI.out] at hcell hci hby2
            by_cases hlt3 : j < Li
            · obtain ⟨adi, rfl, ⟨⟨hq1, hq3⟩, hq2⟩, b, hbc, hbf⟩ := hby2.out j hlt3
              obtain ⟨z, hz3⟩ := xor255 b
              have hbfd : wr.drew.frozen? (adi.add j) = false := hbf
              have hbcd : wr.drew.cell? (adi.add j) = some (.int .u8 (b.toNat : Int)) := hbc
              have hrowE := hrow2.drew.set (adi.add j) (fun a e => by obtain rfl := Option.some.inj e; rw [add_block]; exact hq2) z
              have hbE : Below z0 wp (wr.drew.setCell (adi.add j) (.int .u8 (z.toNat : Int))) := (below_drew hby).setCell (by rw [add_block]; omega) _
              have hzE : w7.heap.size ≤ (wr.drew.setCell (adi.add j) (.int .u8 (z.toNat : Int))).heap.size := by rw [World.size_setCell]; exact hzy
              clear hrow2 hby hby2 hrow hbx hzx hzy hrow7 hb7
              go_wp2
              go_still_tail 14, (by kernel_rfl)
              change wpList _ _ _ _ _ wr.drew
              go_wp2
              go_roundg (Li - (j + 1))
              case measure => omega
              case rel => exact ⟨j + 1, by omega, by go_num, hrowE, hbE, hzE⟩
            · clear hby2 hrow hbx hzx hrow7 hb7
              go_wp2
              go_roundg (la - (i + 1))
              case measure => omega
              case rel => exact ⟨i + 1, by omega, by go_num, hrow2, hby, hzy⟩
        · have hDc := HBX.out
          have q0 := (hbx.cell (p := ⟨D, 0, none⟩) hD9).trans hDc.cell0
          have q1 := (hbx.cell (p := ⟨D, 1, none⟩) hD9).trans hDc.cell1
          have hbW : Below wp.heap.size wp wr := HZ0.out ▸ hbx
          have hDt : D < wr.heap.size := by omega
          have hbt := hb.trans (hbW.mono (by have := HZ0.out; omega))
          have HBW := Lib.hid hbW
          have hs9 := hbt.size
          clear hrow hbx hrow7 hb7 hDc hbW
          go_wp2_with fail
          refine wp_region_noPanic ?_
          refine wp_region_held_drew (S := fun w' => w'.cell? ⟨D, 0, none⟩ = some (.slice A0 a0 c0) ∧ w'.cell? ⟨D, 1, none⟩ = some (.slice F0 f0 d0)) (by kernel_rfl) ?_ (fun hHeld => ?_)
          · (exact ⟨q0, q1⟩)
          refine wpAnyH_take (i := 0) (oi := { dst := some 129, op := Op.move (Operand.tmp 12), type := 23, pos := "law.go:248", after := #[], guard := none }) (v := ?_) rfl (by kernel_rfl) (by kernel_rfl) (by kernel_rfl) (fun _ _ _ h => h) (Or.inl ⟨by rfl, ?_⟩) hHeld ?_
          rotate_left
          · (intro w' hSw; (try dsimp only at hSw); go_split_ands; go_simp; first | done | with_reducible rfl)
          try simp only [Act.put, List.setIfInBounds_toArray, List.set_cons_zero, List.set_cons_succ]
          refine wpAnyH_take (i := 2) (oi := { dst := some 131, op := Op.load 38 (Operand.tmp 13), type := 38, pos := "law.go:248", after := #[], guard := none }) (v := ?_) rfl (by kernel_rfl) (by kernel_rfl) (by kernel_rfl) (fun _ _ _ h => h) (Or.inl ⟨by rfl, ?_⟩) hHeld ?_
          rotate_left
          · (intro w' hSw; (try dsimp only at hSw); go_split_ands; go_simp; first | done | with_reducible rfl)
          try simp only [Act.put, List.setIfInBounds_toArray, List.set_cons_zero, List.set_cons_succ]
          refine wpAnyH_ready (rs := [1]) (by kernel_rfl) (by simp) ?_
          refine AllReadyH.cons (o := { dst := some 130, op := Op.call { callee := Callee.value (Operand.func 14), args := #[Operand.tmp 129, Operand.const (Value.slice none 0 0), Operand.const (Value.int IntKind.i64 1073741824)], argTypes := #[23, 27, 3] }, type := 31, pos := "law.go:248", after := #[{ on := 0, ground := Ground.data }], guard := none }) rfl (fun K hK => ?_) AllReadyH.nil
          go_simp
          refine (hFm wr.drew (HBW.out.trans ((below_drew (Below.refl wr.heap.size wr)).mono HBW.out.size))).out.mono ?_
          rintro e u1 ⟨Aa, ca, rfl, ra, hn1⟩
          rw [HLA.out]
          have kb1 := Lib.hid ((below_drew (Below.refl wr.heap.size wr)).trans hn1)
          have sa := Lib.hid (ra.sees.sees (B := u1.heap.size) fun k e => e.2)
          clear ra hn1
          go_wp2_with fail
          refine hK.out _ _ ?_ ?_
          · (exact ⟨(kb1.out.cell (p := ⟨D, 0, none⟩) hDt).trans q0, (kb1.out.cell (p := ⟨D, 1, none⟩) hDt).trans q1⟩)
          clear hK K hHeld; intro hHeld
          try simp only [Act.put, List.setIfInBounds_toArray, List.set_cons_zero, List.set_cons_succ]
          refine wpAnyH_ready (rs := [3]) (by kernel_rfl) (by simp) ?_
          refine AllReadyH.cons (o := { dst := some 132, op := Op.call { callee := Callee.value (Operand.func 18), args := #[Operand.tmp 131], argTypes := #[38] }, type := 31, pos := "law.go:248", after := #[{ on := 2, ground := Ground.data }, { on := 1, ground := Ground.chain }], guard := none }) rfl (fun K hK => ?_) AllReadyH.nil
          go_simp
          refine (hAl u1 (HBW.out.trans (kb1.out.mono HBW.out.size))).out.mono ?_
          rintro e u2 ⟨Ab, cb, rfl, -, rb, hn2⟩
          rw [HLA.out]
          have kb2 := Lib.hid (kb1.out.trans (hn2.mono kb1.out.size))
          have sb := Lib.hid (rb.sees (B := u2.heap.size) fun k e => e.elim (fun e => by have := (HSEP.out k e).1; have := HBW.out.size; have := kb2.out.size; omega) fun e => e.2)
          have sa2 := Lib.hid ((sa.out.below hn2).more hn2.size)
          clear rb hn2 sa
          go_wp2_with fail
          refine hK.out _ _ ?_ ?_
          · (exact ⟨(kb2.out.cell (p := ⟨D, 0, none⟩) hDt).trans q0, (kb2.out.cell (p := ⟨D, 1, none⟩) hDt).trans q1⟩)
          clear hK K hHeld; intro hHeld
          try simp only [Act.put, List.setIfInBounds_toArray, List.set_cons_zero, List.set_cons_succ]
          refine wpAnyH_ready (rs := [4]) (by kernel_rfl) (by simp) ?_
          refine AllReadyH.cons (o := { dst := some 133, op := Op.call { callee := Callee.value (Operand.func 21), args := #[Operand.tmp 130, Operand.tmp 132], argTypes := #[31, 31] }, type := 4, pos := "law.go:248", after := #[{ on := 1, ground := Ground.data }, { on := 3, ground := Ground.data }, { on := 3, ground := Ground.chain }], guard := none }) rfl (fun K hK => ?_) AllReadyH.nil
          go_simp
          refine (same_lists (w := u2) (c := ca) (d := cb) a HLA.out HLA.out sa2.out sb.out (by omega)).mono ?_
          rintro e u3 ⟨rfl, hn3⟩
          have kb3 := Lib.hid (kb2.out.trans (hn3.mono kb2.out.size))
          clear hn3
          go_wp2_with fail
          refine hK.out _ _ ?_ ?_
          · (exact ⟨(kb3.out.cell (p := ⟨D, 0, none⟩) hDt).trans q0, (kb3.out.cell (p := ⟨D, 1, none⟩) hDt).trans q1⟩)
          clear hK K hHeld; intro hHeld
          try simp only [Act.put, List.setIfInBounds_toArray, List.set_cons_zero, List.set_cons_succ]
          refine wpAnyH_take (i := 5) (oi := { dst := some 4, op := Op.assign (Operand.tmp 133), type := 4, pos := "law.go:248", after := #[{ on := 4, ground := Ground.data }, { on := 4, ground := Ground.chain }, { on := 0, ground := Ground.phase }, { on := 1, ground := Ground.phase }, { on := 2, ground := Ground.phase }, { on := 3, ground := Ground.phase }, { on := 4, ground := Ground.phase }], guard := none }) (v := ?_) rfl (by kernel_rfl) (by kernel_rfl) (by kernel_rfl) (fun _ _ _ h => h) (Or.inl ⟨by rfl, ?_⟩) hHeld ?_
          rotate_left
          · (intro w' hSw; (try dsimp only at hSw); go_split_ands; go_simp; first | done | with_reducible rfl)
          try simp only [Act.put, List.setIfInBounds_toArray, List.set_cons_zero, List.set_cons_succ]
          refine wpAnyH_done (by kernel_rfl) ?_ _
          refine NoPanic.normal ?_
          go_wp2
          go_ret
          exact ⟨rfl, hbt.trans (kb3.out.mono hs9)⟩
end Go.Proofs.YtadakaenbemedaaGreatDoor
