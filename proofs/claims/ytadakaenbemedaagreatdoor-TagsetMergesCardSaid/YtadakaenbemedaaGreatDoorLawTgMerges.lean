/-
  The law TagsetMerges, walked: what is put together has fewer files, and the same items.
-/
import Derived.Test.YtadakaenbemedaaGreatDoorTgScript
namespace Go.Proofs.YtadakaenbemedaaGreatDoor
open Go.RowKit Go.Maps

set_option maxRecDepth 100000 in
set_option maxHeartbeats 3200000 in
theorem TagsetMerges_any (A : Option Addr) (n c : Nat) (ls : List Act) (hn : ls.length = n) (first many : Int) (w : World) (hS : ActsAt (fun k => k < w.heap.size) w A ls) (hH : Halves w) :
    Calls Tryz.prog 6 #[.slice A n c, .int .i64 first, .int .i64 many] w (IsTrue w) := by
  have hnot : ∀ (x : Bool) (w : World), (Op.unary .not (.bool x)).run Tryz.prog w = .ok (.bool (!x)) w := fun _ _ => rfl
  have HH := Lib.hid hH
  have HN := Lib.hid hn
  have hFw := fun w' (hb : Below w.heap.size w w') => Lib.hid (fewA_any (fun k => k < w.heap.size) A n c ls hn w' (hS.below hb))
  cases hf : fewA ls with
  | false =>
    rw [hf] at hFw
    clear hf hn hH
    go_enter Tryz.func6, Tryz.ntmps6
    go_wp2_with fail
    refine (awake_any w HH.out).mono ?_
    rintro e w0 ⟨rfl, hb0⟩
    go_wp2_with fail
    refine (hFw w0 hb0).out.mono ?_
    rintro e w1 ⟨rfl, rfl⟩
    go_wp2
    go_ret
    exact ⟨rfl, hb0⟩
  | true =>
  rw [hf] at hFw
  obtain ⟨hl80, hsh⟩ := fewA_yes hf
  have HL80 := Lib.hid hl80
  have HSH := Lib.hid hsh
  have hn80 : n ≤ 80 := by omega
  clear hf hn hH hsh hl80
  go_enter Tryz.func6, Tryz.ntmps6
  go_wp2_with fail
  refine (awake_any w HH.out).mono ?_
  rintro e w0 ⟨rfl, hb0⟩
  go_wp2_with fail
  refine (hFw w0 hb0).out.mono ?_
  rintro e w0' ⟨rfl, rfl⟩
  go_wp2_with fail
  refine (new_any w0).mono ?_
  rintro e w1 ⟨rfl, hA1, hb1⟩
  obtain ⟨S, hS1⟩ : ∃ S, w0.heap.size + 1 = S := ⟨_, rfl⟩
  rw [hS1] at hA1 ⊢
  have hs0 := hb0.size
  have hs1 := hb1.size
  obtain ⟨w2, hw2⟩ : ∃ w2, w1.alloc (.cells #[.slice none 0 0, .slice none 0 0] 38) = w2 := ⟨_, rfl⟩
  have hb2 : Below w1.heap.size w1 w2 := by rw [← hw2]; exact (Below.refl _ w1).alloc (Nat.le_refl _) _
  have hbx : Box2 w2 w1.heap.size 38 (.slice none 0 0) (.slice none 0 0) := by rw [← hw2]; exact Box2.new w1 _ rfl _ _ _
  obtain ⟨HSC, HBW2⟩ := Script.start hb0 hA1 hb1 hb2 hbx
  have b0 := hbx.cell0
  have b1 := hbx.cell1
  have b2 := hbx.frozen 0
  have b3 := hbx.frozen 1
  clear hA1 hS1 hb0 hb1 hb2 hFw hbx
  go_wp2
  obtain ⟨D, hD⟩ : ∃ D, w1.heap.size = D := ⟨_, rfl⟩
  rw [hD] at HSC HBW2
  simp only [hD]
  clear b0 b1 b2 b3
  go_loopg [11] n (fun g i wr => ∃ k : Nat, k + g = n ∧ i = .int .i64 k ∧ Hid (Script w.heap.size wr S D (SetM.new.plays (ls.take k))) ∧ Below w.heap.size w wr)
  case atStart => exact ⟨0, by omega, rfl, HSC.out, HBW2.out⟩
  case round =>
    obtain ⟨k, hk, rfl, hpair, hb⟩ := hrel
    have hbs := hb.size
    by_cases hlt : k < n
    · have hkl : k < ls.length := by have := HN.out; omega
      obtain ⟨m, q, A0, c0, F0, d0, hP, hbx, hmD, hqD, hDl⟩ := hpair.out
      have hfit := plays_fit ls HL80.out k (by omega)
      obtain ⟨s, hs⟩ : ∃ s, SetM.new.plays (ls.take k) = s := ⟨_, rfl⟩
      have hnext := plays_succ SetM.new ls k hkl
      rw [hs] at hP hbx hfit hnext
      obtain ⟨ad, Ai, ci, rfl, had, g0, g1, g2, g3, hci, hsee⟩ := hS.out k hkl
      obtain ⟨y, hy⟩ : ∃ y, ls[k] = y := ⟨_, rfl⟩
      rw [hy] at g0 g1 g2 g3 hci hsee hnext
      have hy450 : y.item.length ≤ 450 := hy ▸ HSH.out k hkl
      obtain ⟨li, hli⟩ : ∃ li, y.item.length = li := ⟨_, rfl⟩
      rw [hli] at g1 hci hy450
      obtain ⟨a0, ha0⟩ : ∃ a, s.mem.length = a := ⟨_, rfl⟩
      obtain ⟨f0, hf0⟩ : ∃ a, s.fs.length = a := ⟨_, rfl⟩
      rw [ha0, hf0] at hP hbx
      obtain ⟨a1, ha1⟩ : ∃ a, (s.play y).mem.length = a := ⟨_, rfl⟩
      obtain ⟨f1, hf1⟩ : ∃ a, (s.play y).fs.length = a := ⟨_, rfl⟩
      have HLm := Lib.hid ha1
      have HLf := Lib.hid hf1
      have hKp : Kept (fun k => k < w.heap.size) w wr := Kept.of_below hb fun k e => e
      have hadk : (ad.add (k * 4)).block < w.heap.size := by rw [add_block]; exact had
      have q2 := (hKp.cell (p := ad.add (k * 4)) hadk).trans g0
      have q3 := (hKp.cell (p := ⟨(ad.add (k * 4)).block, (ad.add (k * 4)).off + 1, none⟩) hadk).trans g1
      have q4 := (hKp.cell (p := ⟨(ad.add (k * 4)).block, (ad.add (k * 4)).off + 2, none⟩) hadk).trans g2
      have q5 := (hKp.cell (p := ⟨(ad.add (k * 4)).block, (ad.add (k * 4)).off + 3, none⟩) hadk).trans g3
      obtain ⟨kd, hkd⟩ : ∃ x, y.kind = x := ⟨_, rfl⟩
      obtain ⟨aa, haa⟩ : ∃ x, y.a = x := ⟨_, rfl⟩
      obtain ⟨bb, hbb⟩ : ∃ x, y.b = x := ⟨_, rfl⟩
      have hDn := fun w' (hb' : Below wr.heap.size wr w') => Lib.hid (done_any w.heap.size m q w' S _ s (hP.below hb') hfit (HH.out.below (hb.trans (hb'.mono hbs)) HH.out.1) y Ai li ci hli hy450 hci (hsee.keep (hKp.trans (Kept.of_below hb' fun k e => by omega))))
      rw [hkd, haa, hbb] at hDn
      rw [hkd] at q2
      rw [haa] at q4
      rw [hbb] at q5
      have hKeep : ∀ w2, Below w.heap.size wr w2 → w2.cell? (ad.add (k * 4)) = some (.int .i64 kd) ∧ w2.cell? ⟨(ad.add (k * 4)).block, (ad.add (k * 4)).off + 1, none⟩ = some (.slice Ai li ci) ∧ w2.cell? ⟨(ad.add (k * 4)).block, (ad.add (k * 4)).off + 2, none⟩ = some (.int .i64 aa) ∧ w2.cell? ⟨(ad.add (k * 4)).block, (ad.add (k * 4)).off + 3, none⟩ = some (.int .i64 bb) := fun w2 hb2 =>
        ⟨(hb2.cell (p := ad.add (k * 4)) hadk).trans q2, (hb2.cell (p := ⟨(ad.add (k * 4)).block, (ad.add (k * 4)).off + 1, none⟩) hadk).trans q3, (hb2.cell (p := ⟨(ad.add (k * 4)).block, (ad.add (k * 4)).off + 2, none⟩) hadk).trans q4, (hb2.cell (p := ⟨(ad.add (k * 4)).block, (ad.add (k * 4)).off + 3, none⟩) hadk).trans q5⟩
      have b0 := hbx.cell0
      have b1 := hbx.cell1
      have HP := Lib.hid hP
      have HBX := Lib.hid hbx
      have HNX := Lib.hid hnext
      have HKL := Lib.hid hkl
      clear hP hbx hnext hpair hfit hs hy hli ha0 hf0 ha1 hf1 hkd haa hbb g0 g1 g2 g3 hsee hKp HSC HBW2 hw2 hD
      go_wp2_with fail
      refine wp_region_noPanic ?_
      refine wp_region_held_drew (S := fun w' => w'.cell? (ad.add (k * 4)) = some (.int .i64 kd) ∧ w'.cell? ⟨(ad.add (k * 4)).block, (ad.add (k * 4)).off + 1, none⟩ = some (.slice Ai li ci) ∧ w'.cell? ⟨(ad.add (k * 4)).block, (ad.add (k * 4)).off + 2, none⟩ = some (.int .i64 aa) ∧ w'.cell? ⟨(ad.add (k * 4)).block, (ad.add (k * 4)).off + 3, none⟩ = some (.int .i64 bb)) (by kernel_rfl) ?_ (fun hHeld => ?_)
      · (exact ⟨q2, q3, q4, q5⟩)
      refine wpAnyH_take (i := 0) (oi := { dst := some 34, op := Op.move (Operand.tmp 9), type := 23, pos := "law.go:185", after := #[], guard := none }) (v := ?_) rfl (by kernel_rfl) (by kernel_rfl) (by kernel_rfl) (fun _ _ _ h => h) (Or.inl ⟨by rfl, ?_⟩) hHeld ?_
      rotate_left
      · (intro w' hSw; (try dsimp only at hSw); go_split_ands; go_simp; first | done | with_reducible rfl)
      try simp only [Act.put, List.setIfInBounds_toArray, List.set_cons_zero, List.set_cons_succ]
      refine wpAnyH_take (i := 2) (oi := { dst := some 36, op := Op.move (Operand.tmp 0), type := 34, pos := "law.go:185", after := #[], guard := none }) (v := ?_) rfl (by kernel_rfl) (by kernel_rfl) (by kernel_rfl) (fun _ _ _ h => h) (Or.inl ⟨by rfl, ?_⟩) hHeld ?_
      rotate_left
      · (intro w' hSw; (try dsimp only at hSw); go_split_ands; go_simp; first | done | with_reducible rfl)
      try simp only [Act.put, List.setIfInBounds_toArray, List.set_cons_zero, List.set_cons_succ]
      refine wpAnyH_take (i := 3) (oi := { dst := some 37, op := Op.move (Operand.tmp 11), type := 3, pos := "law.go:185", after := #[], guard := none }) (v := ?_) rfl (by kernel_rfl) (by kernel_rfl) (by kernel_rfl) (fun _ _ _ h => h) (Or.inl ⟨by rfl, ?_⟩) hHeld ?_
      rotate_left
      · (intro w' hSw; (try dsimp only at hSw); go_split_ands; go_simp; first | done | with_reducible rfl)
      try simp only [Act.put, List.setIfInBounds_toArray, List.set_cons_zero, List.set_cons_succ]
      refine wpAnyH_take (i := 4) (oi := { dst := some 38, op := Op.indexAddr 34 (Operand.tmp 36) (Operand.tmp 37), type := 0, pos := "law.go:185", after := #[{ on := 2, ground := Ground.data }, { on := 3, ground := Ground.data }], guard := none }) (v := ?_) rfl (by kernel_rfl) (by kernel_rfl) (by kernel_rfl) (fun _ _ _ h => h) (Or.inl ⟨by rfl, ?_⟩) hHeld ?_
      rotate_left
      · (intro w' hSw; (try dsimp only at hSw); go_split_ands; go_simp; first | done | with_reducible rfl)
      try simp only [Act.put, List.setIfInBounds_toArray, List.set_cons_zero, List.set_cons_succ]
      refine wpAnyH_take (i := 5) (oi := { dst := some 39, op := Op.load 42 (Operand.tmp 38), type := 42, pos := "law.go:185", after := #[{ on := 4, ground := Ground.data }], guard := none }) (v := ?_) rfl (by kernel_rfl) (by kernel_rfl) (by kernel_rfl) (fun _ _ _ h => h) (Or.inl ⟨by rfl, ?_⟩) hHeld ?_
      rotate_left
      · (intro w' hSw; (try dsimp only at hSw); go_split_ands; go_simp; first | done | with_reducible rfl)
      try simp only [Act.put, List.setIfInBounds_toArray, List.set_cons_zero, List.set_cons_succ]
      refine wpAnyH_ready (rs := [1]) (by kernel_rfl) (by simp) ?_
      refine AllReadyH.cons (o := { dst := some 35, op := Op.load 38 (Operand.tmp 10), type := 38, pos := "law.go:185", after := #[], guard := none }) rfl (fun K hK => ?_) AllReadyH.nil
      go_simp
      refine hK.out _ _ ?_ ?_
      · (exact ⟨q2, q3, q4, q5⟩)
      clear hK K hHeld; intro hHeld
      try simp only [Act.put, List.setIfInBounds_toArray, List.set_cons_zero, List.set_cons_succ]
      refine wpAnyH_ready (rs := [6]) (by kernel_rfl) (by simp) ?_
      refine AllReadyH.cons (o := { dst := some 40, op := Op.call { callee := Callee.value (Operand.func 16), args := #[Operand.tmp 34, Operand.tmp 35, Operand.tmp 39], argTypes := #[23, 38, 42] }, type := 39, pos := "law.go:185", after := #[{ on := 0, ground := Ground.data }, { on := 1, ground := Ground.data }, { on := 5, ground := Ground.data }], guard := none }) rfl (fun K hK => ?_) AllReadyH.nil
      go_simp
      refine (hDn wr.drew (below_drew (Below.refl _ _))).out.mono ?_
      rintro e w2 ⟨v', m2, q2', rfl, mv⟩
      obtain ⟨A1, c1, F1, d1, hv1, -⟩ := mv.pair.ref.out
      rw [HLm.out, HLf.out] at hv1
      subst hv1
      have MV := Lib.hid mv
      clear mv
      go_wp2_with fail
      refine hK.out _ _ ?_ ?_
      · (exact hKeep w2 ((below_drew (Below.refl _ wr)).trans (MV.out.turn.below HP.out.old hbs)))
      clear hK K hHeld; intro hHeld
      try simp only [Act.put, List.setIfInBounds_toArray, List.set_cons_zero, List.set_cons_succ]
      have hb2 := HBX.out.keep (W' := w2) ((MV.out.turn.block D HBX.out.lt hmD).trans rfl)
      have z0 := hb2.frozen 0
      have z1 := hb2.frozen 1
      have y0 := hb2.cell0
      have y1 := hb2.cell1
      refine wpAnyH_take (i := 7) (oi := { dst := some 33, op := Op.move (Operand.tmp 40), type := 39, pos := "law.go:185", after := #[{ on := 6, ground := Ground.data }], guard := none }) (v := ?_) rfl (by kernel_rfl) (by kernel_rfl) (by kernel_rfl) (fun _ _ _ h => h) (Or.inl ⟨by rfl, ?_⟩) hHeld ?_
      rotate_left
      · (intro w' hSw; (try dsimp only at hSw); go_split_ands; go_simp; first | done | with_reducible rfl)
      try simp only [Act.put, List.setIfInBounds_toArray, List.set_cons_zero, List.set_cons_succ]
      refine wpAnyH_take (i := 8) (oi := { dst := some 41, op := Op.extract (Operand.tmp 33) 0, type := 38, pos := "law.go:185", after := #[{ on := 7, ground := Ground.data }], guard := none }) (v := ?_) rfl (by kernel_rfl) (by kernel_rfl) (by kernel_rfl) (fun _ _ _ h => h) (Or.inl ⟨by rfl, ?_⟩) hHeld ?_
      rotate_left
      · (intro w' hSw; (try dsimp only at hSw); go_split_ands; go_simp; first | done | with_reducible rfl)
      try simp only [Act.put, List.setIfInBounds_toArray, List.set_cons_zero, List.set_cons_succ]
      refine wpAnyH_take (i := 9) (oi := { dst := some 42, op := Op.extract (Operand.tmp 33) 1, type := 4, pos := "law.go:185", after := #[{ on := 7, ground := Ground.data }, { on := 10, ground := Ground.gcOnly Departure.lateStores }], guard := none }) (v := ?_) rfl (by kernel_rfl) (by kernel_rfl) (by kernel_rfl) (fun _ _ _ h => h) (Or.inl ⟨by rfl, ?_⟩) hHeld ?_
      rotate_left
      · (intro w' hSw; (try dsimp only at hSw); go_split_ands; go_simp; first | done | with_reducible rfl)
      try simp only [Act.put, List.setIfInBounds_toArray, List.set_cons_zero, List.set_cons_succ]
      refine wpAnyH_ready (rs := [10]) (by kernel_rfl) (by simp) ?_
      refine AllReadyH.cons (o := { dst := none, op := Op.store 38 (Operand.tmp 10) (Operand.tmp 41), type := 0, pos := "law.go:185", after := #[{ on := 8, ground := Ground.data }, { on := 6, ground := Ground.chain }, { on := 0, ground := Ground.phase }, { on := 1, ground := Ground.phase }, { on := 2, ground := Ground.phase }, { on := 3, ground := Ground.phase }, { on := 4, ground := Ground.phase }, { on := 5, ground := Ground.phase }, { on := 6, ground := Ground.phase }, { on := 7, ground := Ground.phase }, { on := 8, ground := Ground.phase }, { on := 9, ground := Ground.textOnly Departure.lateStores }], guard := none }) rfl (fun K hK => ?_) AllReadyH.nil
      have HH2 := Lib.hid hHeld
      clear hHeld
      go_simp
      have hHeld : True := trivial
      refine hK.out _ _ ?_ ?_
      · (exact hKeep _ ((below_drew (Below.refl _ wr)).trans (Script.stored (w := wr.drew) (HBX.out.keep rfl) hmD hqD hDl HP.out.old HLm.out HLf.out MV.out).2))
      clear hK K hHeld; intro hHeld
      try simp only [Act.put, List.setIfInBounds_toArray, List.set_cons_zero, List.set_cons_succ]
      refine wpAnyH_done (by kernel_rfl) ?_ _
      refine NoPanic.normal ?_
      go_wp2
      have hst := Script.stored (w := wr.drew) (HBX.out.keep rfl) hmD hqD hDl HP.out.old HLm.out HLf.out MV.out
      go_roundg (n - (k + 1))
      case measure => have := HKL.out; have := HN.out; omega
      case rel => exact ⟨k + 1, by omega, by go_num, HNX.out.symm ▸ hst.1, hb.trans ((below_drew (Below.refl _ wr)).trans hst.2)⟩
    · obtain rfl : k = n := by omega
      obtain ⟨m, q, A0, c0, F0, d0, hP, -, -, -, -⟩ := hpair.out
      have hfit := plays_fit ls HL80.out k (by have := HN.out; omega)
      obtain ⟨s, hs⟩ : ∃ s, SetM.new.plays (ls.take k) = s := ⟨_, rfl⟩
      rw [hs] at hP hfit
      have hAt := hP.set
      have hold := hP.old
      obtain ⟨nf, hnf⟩ : ∃ a, s.fs.length = a := ⟨_, rfl⟩
      obtain ⟨nm, hnm⟩ : ∃ a, s.mem.length = a := ⟨_, rfl⟩
      obtain ⟨la, hla⟩ : ∃ a, s.all.length = a := ⟨_, rfl⟩
      have hnf9 := hfit.fs
      have hla9 : la ≤ 2000 := by have := all_len s; have := hfit.total; omega
      have hPa := Lib.hid (parts_any hAt)
      have hFr := Lib.hid (fresh_any hAt)
      have hall : ∀ t : SetM, SetFit t → (fromL t.all []).take (1073741824 : Int).toNat = t.all := fun t ht => by
        rw [fromL_nil]
        exact List.take_of_length_le (by have := all_len t; have := ht.total; omega)
      have hFm := fun W (m' : Nat → Prop) (t : SetM) (h : SetAt m' W S t) (ht : SetFit t) => (hall t ht) ▸ setFrom_any h ht (x := []) (Bx := none) (lx := 0) (dx := 0) rfl ⟨.inl rfl⟩ 1073741824
      have hFR := Lib.hid (hFm wr m s hAt hfit)
      have HFM := Lib.hid hFm
      have HAT := Lib.hid hAt
      have HFIT := Lib.hid hfit
      have HOLD := Lib.hid hold
      have HNF := Lib.hid hnf
      have HNM := Lib.hid hnm
      have HLA := Lib.hid hla
      rw [hnf] at hPa hnf9
      rw [hnm] at hFr
      clear hP hpair hs hAt hfit hold hnf hnm hla hall hFm HSC HBW2 hw2 hD hlt
      go_wp2_with fail
      refine hPa.out.mono ?_
      rintro e w3 ⟨rfl, rfl⟩
      go_wp2_with fail
      refine hFr.out.mono ?_
      rintro e w3 ⟨rfl, rfl⟩
      go_wp2_with fail
      refine hFR.out.mono ?_
      rintro e w5 ⟨A5, c5, rfl, hrow, hb5⟩
      have hsee := Lib.hid hrow.sees
      rw [HLA.out]
      have hA5 := HAT.out.below hb5
      have hbw5 := hb.trans (hb5.mono hbs)
      have hs5 := hb5.size
      by_cases hmay : 2 ≤ many ∧ 0 ≤ first ∧ first ≤ s.fs.length ∧ many ≤ s.fs.length - first
      · obtain ⟨m1, m2, m3, m4⟩ := hmay
        obtain ⟨i, rfl⟩ : ∃ i : Nat, first = i := ⟨first.toNat, by omega⟩
        obtain ⟨j, rfl⟩ : ∃ j : Nat, many = j := ⟨many.toNat, by omega⟩
        have hM := Lib.hid (merge_good m w5 S s hA5 HFIT.out (HH.out.below hbw5 HH.out.1) i j (by omega) (by omega))
        have hmm : mayMerge s.fs.length i j = true := may_iff.2 ⟨m1, m2, m3, m4⟩
        have hmg : (s.merge i j).1 = ⟨s.mem, s.fs.take i ++ s.join i j :: s.fs.drop (i + j)⟩ := by
          unfold SetM.merge
          rw [if_pos hmm]
          rfl
        obtain ⟨s', hs'⟩ : ∃ s', (⟨s.mem, s.fs.take i ++ s.join i j :: s.fs.drop (i + j)⟩ : SetM) = s' := ⟨_, rfl⟩
        have hfl : s'.fs.length = nf - j + 1 := by rw [← hs', ← HNF.out]; simp; omega
        have hml : s'.mem.length = nm := by rw [← hs']; exact HNM.out
        have hal : s'.all = s.all := by rw [← hs', ← hmg]; exact merge_all s i j
        have hft : SetFit s' := by
          rw [← hs', ← hmg]
          exact ⟨HFIT.out.ok.merge (by have := HFIT.out.total; omega) i j, by have := merge_total s i j; have := HFIT.out.total; omega⟩
        rw [hs'] at hM
        rw [HNF.out] at m3 m4
        obtain ⟨r, hr⟩ : ∃ r, nf - j = r := ⟨_, rfl⟩
        rw [hr] at hfl
        have v1 : IntKind.i64.wrap ((nf : Int) - i) = (nf : Int) - i := by rw [IntKind.wrap_i64]; omega
        have v2 : IntKind.i64.wrap ((nf : Int) - j) = (r : Int) := by rw [IntKind.wrap_i64]; omega
        have v3 : IntKind.i64.wrap ((r : Int) + 1) = (r : Int) + 1 := by rw [IntKind.wrap_i64]; omega
        have HFL := Lib.hid hfl
        have HML := Lib.hid hml
        have HAL := Lib.hid hal
        have HFT := Lib.hid hft
        clear hmm hmg hs' hfl hml hal hft hr hPa hFr hFR hrow hA5
        go_wp2_with fail
        refine hM.out.mono ?_
        rintro e w6 ⟨A6, c6, rfl, fs⟩
        obtain ⟨m', st, -⟩ := fs.out
        have hA6 := st.set
        have hb6 : Below wr.heap.size wr w6 ∨ True := .inr trivial
        have hsee6 := Lib.hid (hsee.out.keep (w' := w6) (Kept.of_turn st.turn fun k e => ⟨e.2, fun e' => by have := HAT.out.lt k e'; omega⟩))
        have hbw6 := hbw5.trans (st.turn.below HOLD.out hbw5.size)
        have hs6 := st.turn.size
        have hP6 := Lib.hid (parts_any hA6)
        have hF6 := Lib.hid (fresh_any hA6)
        have hG6 := Lib.hid (HFM.out w6 m' s' hA6 HFT.out)
        rw [HFL.out] at hP6
        rw [HML.out] at hF6
        rw [HAL.out] at hG6
        clear hM fs st hA6 hb6
        go_wp2_with fail
        refine hP6.out.mono ?_
        rintro e w7 ⟨rfl, rfl⟩
        go_wp2_with fail
        refine hF6.out.mono ?_
        rintro e w7 ⟨rfl, rfl⟩
        go_wp2_with fail
        refine hG6.out.mono ?_
        rintro e w8 ⟨A8, c8, rfl, hrow8, hb8⟩
        rw [HLA.out]
        have hs8 := hb8.size
        have hSame := Lib.hid (same_lists (c := c8) (d := c5) s.all HLA.out HLA.out (hrow8.sees.sees fun k e => e.2) ((hsee6.out.keep (Kept.of_below hb8 fun k e => by omega)).sees (B := w8.heap.size) fun k e => by omega) hla9)
        clear hrow8 hG6 hF6 hP6
        go_wp2_with fail
        refine hSame.out.mono ?_
        rintro e w9 ⟨rfl, hb9⟩
        go_wp2
        go_ret
        exact ⟨rfl, (hbw6.trans (hb8.mono hbw6.size)).trans (hb9.mono (by omega))⟩
      · have hM := Lib.hid (merge_bad m w5 S s hA5 HFIT.out first many hmay)
        rw [HNF.out] at hmay
        have hP6 := Lib.hid (parts_any hA5)
        have hF6 := Lib.hid (fresh_any hA5)
        have hG6 := Lib.hid (HFM.out w5 m s hA5 HFIT.out)
        rw [HNF.out] at hP6
        rw [HNM.out] at hF6
        have v1 : 0 ≤ first → first ≤ nf → IntKind.i64.wrap ((nf : Int) - first) = (nf : Int) - first := fun _ _ => by rw [IntKind.wrap_i64]; omega
        clear hPa hFr hFR hrow hA5
        have hcases : many < 2 ∨ (2 ≤ many ∧ first < 0) ∨ (2 ≤ many ∧ 0 ≤ first ∧ (nf : Int) < first) ∨ (2 ≤ many ∧ 0 ≤ first ∧ first ≤ nf ∧ (nf : Int) - first < many ∧ IntKind.i64.wrap ((nf : Int) - first) = (nf : Int) - first) := by
          by_cases u1 : many < 2
          · exact .inl u1
          · by_cases u2 : first < 0
            · exact .inr (.inl ⟨by omega, u2⟩)
            · by_cases u3 : (nf : Int) < first
              · exact .inr (.inr (.inl ⟨by omega, by omega, u3⟩))
              · exact .inr (.inr (.inr ⟨by omega, by omega, by omega, by omega, v1 (by omega) (by omega)⟩))
        clear v1 hmay
        rcases hcases with u1 | ⟨u1, u2⟩ | ⟨u1, u2, u3⟩ | ⟨u1, u2, u3, u4, u5⟩
        all_goals
          go_wp2_with fail
          refine hM.out.mono ?_
          rintro e w6 ⟨rfl, rfl⟩
          go_wp2_with fail
          refine hP6.out.mono ?_
          rintro e w7 ⟨rfl, rfl⟩
          go_wp2_with fail
          refine hF6.out.mono ?_
          rintro e w7 ⟨rfl, rfl⟩
          go_wp2_with fail
          refine hG6.out.mono ?_
          rintro e w8 ⟨A8, c8, rfl, hrow8, hb8⟩
          rw [HLA.out]
          have hs8 := hb8.size
          have hSame := Lib.hid (same_lists (c := c8) (d := c5) s.all HLA.out HLA.out (hrow8.sees.sees fun k e => e.2) ((hsee.out.keep (Kept.of_below hb8 fun k e => by omega)).sees (B := w8.heap.size) fun k e => by omega) hla9)
          clear hrow8 hG6 hF6 hP6 hM
          go_wp2_with fail
          refine hSame.out.mono ?_
          rintro e w9 ⟨rfl, hb9⟩
          go_wp2
          go_ret
          exact ⟨rfl, (hbw5.trans (hb8.mono hbw5.size)).trans (hb9.mono (by omega))⟩
end Go.Proofs.YtadakaenbemedaaGreatDoor
