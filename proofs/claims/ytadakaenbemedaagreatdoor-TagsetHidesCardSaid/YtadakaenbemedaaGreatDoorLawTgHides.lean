/-
  The law TagsetHides, walked: a set that is flushed and put together tells what one tells that never is.
-/
import Derived.Test.YtadakaenbemedaaGreatDoorTgTwin
import Derived.Test.YtadakaenbemedaaGreatDoorTgScript
import Derived.Test.YtadakaenbemedaaGreatDoorTgAwake
namespace Go.Proofs.YtadakaenbemedaaGreatDoor
open Go.RowKit Go.Maps

set_option maxRecDepth 100000 in
set_option maxHeartbeats 3200000 in
theorem TagsetHides_any (A : Option Addr) (n c : Nat) (ls : List Act) (hn : ls.length = n) (B : Option Addr) (lx dx : Nat) (x : Item) (hxl : x.length = lx) (w : World) (hS : ActsAt (fun k => k < w.heap.size) w A ls) (hX : Sees w w.heap.size B (bv x)) (hH : Halves w) :
    Calls Tryz.prog 5 #[.slice A n c, .slice B lx dx] w (IsTrue w) := by
  have hnot : ∀ (x : Bool) (w : World), (Op.unary .not (.bool x)).run Tryz.prog w = .ok (.bool (!x)) w := fun _ _ => rfl
  have HH := Lib.hid hH
  have HN := Lib.hid hn
  have HXL := Lib.hid hxl
  have HX := Lib.hid hX
  have hFw := fun w' (hb : Below w.heap.size w w') => Lib.hid (fewA_any (fun k => k < w.heap.size) A n c ls hn w' (hS.below hb))
  cases hf : fewA ls with
  | false =>
    rw [hf] at hFw
    clear hf hn hxl hX hH
    go_enter Tryz.func5, Tryz.ntmps5
    go_wp2_with fail
    refine (awake_any w HH.out).mono ?_
    rintro e w0 ⟨rfl, hb0⟩
    go_wp2_with fail
    refine (hFw w0 hb0).out.mono ?_
    rintro e w1 ⟨rfl, rfl⟩
    go_wp2
    go_ret
    exact ⟨rfl, hb0⟩
  | true =>
  rw [hf] at hFw
  obtain ⟨hl80, hsh⟩ := fewA_yes hf
  rw [hn] at hl80
  have hn80 : n ≤ 80 := hl80
  have HSH := Lib.hid hsh
  by_cases hlong : 400 < lx
  · have hlong' : (400 : Int) < (lx : Int) := by omega
    clear hf hn hxl hX hH hsh
    go_enter Tryz.func5, Tryz.ntmps5
    go_wp2_with fail
    refine (awake_any w HH.out).mono ?_
    rintro e w0 ⟨rfl, hb0⟩
    go_wp2_with fail
    refine (hFw w0 hb0).out.mono ?_
    rintro e w1 ⟨rfl, rfl⟩
    go_wp2
    go_ret
    exact ⟨rfl, hb0⟩
  have hshort : (lx : Int) ≤ 400 := by omega
  have hlx4 : lx ≤ 400 := by omega
  clear hf hn hxl hX hH hsh hlong
  go_enter Tryz.func5, Tryz.ntmps5
  go_wp2_with fail
  refine (awake_any w HH.out).mono ?_
  rintro e w0 ⟨rfl, hb0⟩
  go_wp2_with fail
  refine (hFw w0 hb0).out.mono ?_
  rintro e w0' ⟨rfl, rfl⟩
  go_wp2_with fail
  refine (new_any w0).mono ?_
  rintro e w1 ⟨rfl, hA1, hb1⟩
  obtain ⟨S1, hS1⟩ : ∃ S, w0.heap.size + 1 = S := ⟨_, rfl⟩
  rw [hS1] at hA1 ⊢
  go_wp2_with fail
  refine (new_any w1).mono ?_
  rintro e w2 ⟨rfl, hA2, hb2⟩
  obtain ⟨S2, hS2⟩ : ∃ S, w1.heap.size + 1 = S := ⟨_, rfl⟩
  rw [hS2] at hA2 ⊢
  have hTw : Twin w.heap.size (fun _ => False) w2 S1 S2 SetM.new SetM.new := ⟨⟨_, _, hA1.below hb2, hA2, fun k e e' => by omega, fun k e => by have := hb0.size; omega, fun k e => by have := hb0.size; have := hb1.size; omega, fun k e => e.elim⟩, by have := hb0.size; have := hb1.size; have := hb2.size; omega, fun k e => e.elim⟩
  have hbw2 : Below w.heap.size w w2 := (hb0.trans (hb1.mono hb0.size)).trans (hb2.mono (Nat.le_trans hb0.size hb1.size))
  have HTW := Lib.hid hTw
  clear hA1 hA2 hS1 hS2 hb0 hb1 hb2 hFw hTw
  go_wp2
  go_loopg [9] n (fun g i wr => ∃ k : Nat, k + g = n ∧ i = .int .i64 k ∧ Hid (∃ z s1 s2, Twin w.heap.size z wr S1 S2 s1 s2 ∧ Same2 s1 s2 k) ∧ Below w.heap.size w wr)
  case atStart => exact ⟨0, by omega, rfl, ⟨_, _, _, HTW.out, Same2.new⟩, hbw2⟩
  case round =>
    obtain ⟨k, hk, rfl, hpair, hb⟩ := hrel
    obtain ⟨z, s1, s2, hT, hSm⟩ := hpair.out
    have hbs := hb.size
    by_cases hlt : k < n
    · have hkl : k < ls.length := by have := HN.out; omega
      obtain ⟨ad, Ai, ci, rfl, had, g0, g1, g2, g3, hci, hsee⟩ := hS.out k hkl
      obtain ⟨y, hy⟩ : ∃ y, ls[k] = y := ⟨_, rfl⟩
      rw [hy] at g0 g1 g2 g3 hci hsee
      have hy450 : y.item.length ≤ 450 := hy ▸ HSH.out k hkl
      obtain ⟨li, hli⟩ : ∃ li, y.item.length = li := ⟨_, rfl⟩
      rw [hli] at g1 hci hy450
      have hKp : Kept (fun k => k < w.heap.size) w wr := Kept.of_below hb fun k e => e
      have hadk : (ad.add (k * 4)).block < w.heap.size := by rw [add_block]; exact had
      have q2 := (hKp.cell (p := ad.add (k * 4)) hadk).trans g0
      have q3 := (hKp.cell (p := ⟨(ad.add (k * 4)).block, (ad.add (k * 4)).off + 1, none⟩) hadk).trans g1
      have q4 := (hKp.cell (p := ⟨(ad.add (k * 4)).block, (ad.add (k * 4)).off + 2, none⟩) hadk).trans g2
      have q5 := (hKp.cell (p := ⟨(ad.add (k * 4)).block, (ad.add (k * 4)).off + 3, none⟩) hadk).trans g3
      have hz := and7 y.kind
      obtain ⟨kd, hkd⟩ : ∃ x, y.kind = x := ⟨_, rfl⟩
      obtain ⟨aa, haa⟩ : ∃ x, y.a = x := ⟨_, rfl⟩
      obtain ⟨bb, hbb⟩ : ∃ x, y.b = x := ⟨_, rfl⟩
      rw [hkd] at q2 hz
      rw [haa] at q4
      rw [hbb] at q5
      obtain ⟨wx, hwx⟩ : ∃ wx, wr.alloc (.cells #[.int .i64 kd, .slice Ai li ci, .int .i64 aa, .int .i64 bb] 42) = wx := ⟨_, rfl⟩
      have hb1 : Below wr.heap.size wr wx := by rw [← hwx]; exact (Below.refl _ wr).alloc (Nat.le_refl _) _
      have hbox : Box4 wx wr.heap.size 42 (.int .i64 kd) (.slice Ai li ci) (.int .i64 aa) (.int .i64 bb) := by rw [← hwx]; exact Box4.new wr _ rfl _ _ _ _ _
      have hTx := hT.box hb1 hbox.lt
      have hbwx := hb.trans (hb1.mono hbs)
      have hsx : ∀ W, Below w.heap.size w W → Sees W W.heap.size Ai (bv y.item) := fun W hW => ((hsee.sees (B := w.heap.size) fun k e => e).below hW).more hW.size
      have HSX := Lib.hid hsx
      have c0 := hbox.cell0
      have c1 := hbox.cell1
      have c2 := hbox.cell2
      have c3 := hbox.cell3
      have HBX := Lib.hid hbox
      have HTX := Lib.hid hTx
      have HSM := Lib.hid hSm
      have HLI := Lib.hid hli
      have HKL := Lib.hid hkl
      have hm8 : 0 ≤ kd % 8 ∧ kd % 8 < 8 := by omega
      clear hT hSm hpair hsee g0 g1 g2 g3 hKp hkd haa hbb hy hli hbox hTx hsx HTW hbw2
      have hcase : (kd % 8 = 0 ∨ kd % 8 = 1 ∨ kd % 8 = 2 ∨ kd % 8 = 3 ∨ kd % 8 = 4) ∨ (kd % 8 = 5 ∨ kd % 8 = 6) ∨ kd % 8 = 7 := by omega
      clear hm8
      rcases hcase with hcase | hcase | hcase
      · have hA := Lib.hid (HTX.out.add (HSM.out.fit1 (by omega)) Ai li ci y.item HLI.out (by omega) (HSX.out wx hbwx))
        obtain ⟨E, hE⟩ : ∃ E, (s1.add y.item).2 = E := ⟨_, rfl⟩
        have HE2 := Lib.hid ((HSM.out.err (by omega) y.item).symm.trans hE)
        have HT1 := Lib.hid (HSM.out.add (by omega) y.item)
        rw [hE] at hA
        clear hE
        rcases hcase with e | e | e | e | e
        all_goals
          rw [e] at hz
          clear e
          go_wp2_with fail
          refine hA.out.mono ?_
          rintro e w3 ⟨rfl, lf⟩
          have hB := Lib.hid (lf.twin.swap.add (HSM.out.fit2 (by omega)) Ai li ci y.item HLI.out (by omega) (HSX.out w3 (hbwx.trans lf.below)))
          rw [HE2.out] at hB
          have hbox3 := HBX.out.keep (W' := w3) (lf.kept _ rfl)
          have d1 := hbox3.cell1
          have HBX3 := Lib.hid hbox3
          have hbw3 := hbwx.trans lf.below
          clear hA lf hbox3
          go_wp2_with fail
          refine hB.out.mono ?_
          rintro e w4 ⟨rfl, lf⟩
          have hbox4 := HBX3.out.keep (W' := w4) (lf.kept _ rfl)
          have e1 := hbox4.cell1
          have HTZ := Lib.hid lf.twin.swap
          have hbw4 := hbw3.trans lf.below
          have hlt4 := hbox4.lt
          clear hB lf hbox4
          go_wp2_with fail
          refine wp_region_noPanic ?_
          refine wp_region_held_drew (S := fun w' => w'.cell? ⟨wr.heap.size, 1, none⟩ = some (.slice Ai li ci)) (by kernel_rfl) ?_ (fun hHeld => ?_)
          · (exact e1)
          refine wpAnyH_take (i := 0) (oi := { dst := some 70, op := Op.move (Operand.tmp 7), type := 23, pos := "law.go:111", after := #[], guard := none }) (v := ?_) rfl (by kernel_rfl) (by kernel_rfl) (by kernel_rfl) (fun _ _ _ h => h) (Or.inl ⟨by rfl, ?_⟩) hHeld ?_
          rotate_left
          · (intro w' hSw; (try dsimp only at hSw); go_split_ands; go_simp; first | done | with_reducible rfl)
          try simp only [Act.put, List.setIfInBounds_toArray, List.set_cons_zero, List.set_cons_succ]
          refine wpAnyH_take (i := 1) (oi := { dst := some 71, op := Op.fieldAddr 42 (Operand.tmp 10) 1, type := 0, pos := "law.go:111", after := #[], guard := none }) (v := ?_) rfl (by kernel_rfl) (by kernel_rfl) (by kernel_rfl) (fun _ _ _ h => h) (Or.inl ⟨by rfl, ?_⟩) hHeld ?_
          rotate_left
          · (intro w' hSw; (try dsimp only at hSw); go_split_ands; go_simp; first | done | with_reducible rfl)
          try simp only [Act.put, List.setIfInBounds_toArray, List.set_cons_zero, List.set_cons_succ]
          refine wpAnyH_take (i := 2) (oi := { dst := some 72, op := Op.load 27 (Operand.tmp 71), type := 27, pos := "law.go:111", after := #[{ on := 1, ground := Ground.data }], guard := none }) (v := ?_) rfl (by kernel_rfl) (by kernel_rfl) (by kernel_rfl) (fun _ _ _ h => h) (Or.inl ⟨by rfl, ?_⟩) hHeld ?_
          rotate_left
          · (intro w' hSw; (try dsimp only at hSw); go_split_ands; go_simp; first | done | with_reducible rfl)
          try simp only [Act.put, List.setIfInBounds_toArray, List.set_cons_zero, List.set_cons_succ]
          refine wpAnyH_take (i := 4) (oi := { dst := some 74, op := Op.move (Operand.tmp 8), type := 23, pos := "law.go:111", after := #[], guard := none }) (v := ?_) rfl (by kernel_rfl) (by kernel_rfl) (by kernel_rfl) (fun _ _ _ h => h) (Or.inl ⟨by rfl, ?_⟩) hHeld ?_
          rotate_left
          · (intro w' hSw; (try dsimp only at hSw); go_split_ands; go_simp; first | done | with_reducible rfl)
          try simp only [Act.put, List.setIfInBounds_toArray, List.set_cons_zero, List.set_cons_succ]
          refine wpAnyH_take (i := 5) (oi := { dst := some 75, op := Op.fieldAddr 42 (Operand.tmp 10) 1, type := 0, pos := "law.go:111", after := #[], guard := none }) (v := ?_) rfl (by kernel_rfl) (by kernel_rfl) (by kernel_rfl) (fun _ _ _ h => h) (Or.inl ⟨by rfl, ?_⟩) hHeld ?_
          rotate_left
          · (intro w' hSw; (try dsimp only at hSw); go_split_ands; go_simp; first | done | with_reducible rfl)
          try simp only [Act.put, List.setIfInBounds_toArray, List.set_cons_zero, List.set_cons_succ]
          refine wpAnyH_take (i := 6) (oi := { dst := some 76, op := Op.load 27 (Operand.tmp 75), type := 27, pos := "law.go:111", after := #[{ on := 5, ground := Ground.data }], guard := none }) (v := ?_) rfl (by kernel_rfl) (by kernel_rfl) (by kernel_rfl) (fun _ _ _ h => h) (Or.inl ⟨by rfl, ?_⟩) hHeld ?_
          rotate_left
          · (intro w' hSw; (try dsimp only at hSw); go_split_ands; go_simp; first | done | with_reducible rfl)
          try simp only [Act.put, List.setIfInBounds_toArray, List.set_cons_zero, List.set_cons_succ]
          refine wpAnyH_ready (rs := [3]) (by kernel_rfl) (by simp) ?_
          refine AllReadyH.cons (o := { dst := some 73, op := Op.call { callee := Callee.value (Operand.func 19), args := #[Operand.tmp 70, Operand.tmp 72], argTypes := #[23, 27] }, type := 4, pos := "law.go:111", after := #[{ on := 0, ground := Ground.data }, { on := 2, ground := Ground.data }], guard := none }) rfl (fun K hK => ?_) AllReadyH.nil
          go_simp
          refine (HTZ.out.below (below_drew (Below.refl _ _)) |>.has (HT1.out.fit1 (by omega)) Ai li ci y.item HLI.out (by omega) ((HSX.out w4 hbw4).drew)).mono ?_
          rintro e w5 ⟨rfl, hb5⟩
          have hb45 : Below w4.heap.size w4 w5 := (below_drew (Below.refl _ w4)).trans hb5
          clear hb5
          go_wp2_with fail
          refine hK.out _ _ ?_ ?_
          · (exact (hb45.cell (p := ⟨wr.heap.size, 1, none⟩) hlt4).trans e1)
          clear hK K hHeld; intro hHeld
          try simp only [Act.put, List.setIfInBounds_toArray, List.set_cons_zero, List.set_cons_succ]
          have hs5 := hb45.size
          have HB45 := Lib.hid hb45
          clear hb45
          refine wpAnyH_ready (rs := [7]) (by kernel_rfl) (by simp) ?_
          refine AllReadyH.cons (o := { dst := some 77, op := Op.call { callee := Callee.value (Operand.func 19), args := #[Operand.tmp 74, Operand.tmp 76], argTypes := #[23, 27] }, type := 4, pos := "law.go:111", after := #[{ on := 4, ground := Ground.data }, { on := 6, ground := Ground.data }, { on := 3, ground := Ground.chain }], guard := none }) rfl (fun K hK => ?_) AllReadyH.nil
          go_simp
          refine ((HTZ.out.below HB45.out).swap.has (HT1.out.fit2 (by omega)) Ai li ci y.item HLI.out (by omega) (HSX.out w5 (hbw4.trans (HB45.out.mono hbw4.size)))).mono ?_
          rintro e w6 ⟨rfl, hb6⟩
          have hb46 := HB45.out.trans (hb6.mono hs5)
          rw [← HT1.out.has y.item]
          clear hb6
          go_wp2_with fail
          refine hK.out _ _ ?_ ?_
          · (exact (hb46.cell (p := ⟨wr.heap.size, 1, none⟩) hlt4).trans e1)
          clear hK K hHeld; intro hHeld
          try simp only [Act.put, List.setIfInBounds_toArray, List.set_cons_zero, List.set_cons_succ]
          have HB46 := Lib.hid hb46
          clear hb46
          refine wpAnyH_take (i := 8) (oi := { dst := some 78, op := Op.binOp BinOp.neq 4 (Operand.tmp 73) (Operand.tmp 77) 4, type := 4, pos := "law.go:111", after := #[{ on := 3, ground := Ground.data }, { on := 7, ground := Ground.data }], guard := none }) (v := ?_) rfl (by kernel_rfl) (by kernel_rfl) (by kernel_rfl) (fun _ _ _ h => h) (Or.inl ⟨by rfl, ?_⟩) hHeld ?_
          rotate_left
          · (intro w' hSw; (try dsimp only at hSw); go_split_ands; go_simp; first | done | with_reducible rfl)
          try simp only [Act.put, List.setIfInBounds_toArray, List.set_cons_zero, List.set_cons_succ]
          refine wpAnyH_done (by kernel_rfl) ?_ _
          refine NoPanic.normal ?_
          go_wp2
          go_roundg (n - (k + 1))
          case measure => have := HKL.out; have := HN.out; omega
          case rel => exact ⟨k + 1, by omega, by go_num, ⟨_, _, _, HTZ.out.below HB46.out, HT1.out⟩, hbw4.trans (HB46.out.mono hbw4.size)⟩
      · have hA := Lib.hid (HTX.out.flush (HSM.out.fit1 (by omega)) (HH.out.below hbwx HH.out.1))
        have HT1 := Lib.hid HSM.out.flush
        rcases hcase with e | e
        all_goals
          rw [e] at hz
          clear e
          go_wp2_with fail
          refine hA.out.mono ?_
          rintro e w4 ⟨v, rfl, lf⟩
          have hbox4 := HBX.out.keep (W' := w4) (lf.kept _ rfl)
          have e1 := hbox4.cell1
          have HTZ := Lib.hid lf.twin
          have hbw4 := hbwx.trans lf.below
          have hlt4 := hbox4.lt
          clear hA lf hbox4
          go_wp2_with fail
          refine wp_region_noPanic ?_
          refine wp_region_held_drew (S := fun w' => w'.cell? ⟨wr.heap.size, 1, none⟩ = some (.slice Ai li ci)) (by kernel_rfl) ?_ (fun hHeld => ?_)
          · (exact e1)
          refine wpAnyH_take (i := 0) (oi := { dst := some 70, op := Op.move (Operand.tmp 7), type := 23, pos := "law.go:111", after := #[], guard := none }) (v := ?_) rfl (by kernel_rfl) (by kernel_rfl) (by kernel_rfl) (fun _ _ _ h => h) (Or.inl ⟨by rfl, ?_⟩) hHeld ?_
          rotate_left
          · (intro w' hSw; (try dsimp only at hSw); go_split_ands; go_simp; first | done | with_reducible rfl)
          try simp only [Act.put, List.setIfInBounds_toArray, List.set_cons_zero, List.set_cons_succ]
          refine wpAnyH_take (i := 1) (oi := { dst := some 71, op := Op.fieldAddr 42 (Operand.tmp 10) 1, type := 0, pos := "law.go:111", after := #[], guard := none }) (v := ?_) rfl (by kernel_rfl) (by kernel_rfl) (by kernel_rfl) (fun _ _ _ h => h) (Or.inl ⟨by rfl, ?_⟩) hHeld ?_
          rotate_left
          · (intro w' hSw; (try dsimp only at hSw); go_split_ands; go_simp; first | done | with_reducible rfl)
          try simp only [Act.put, List.setIfInBounds_toArray, List.set_cons_zero, List.set_cons_succ]
          refine wpAnyH_take (i := 2) (oi := { dst := some 72, op := Op.load 27 (Operand.tmp 71), type := 27, pos := "law.go:111", after := #[{ on := 1, ground := Ground.data }], guard := none }) (v := ?_) rfl (by kernel_rfl) (by kernel_rfl) (by kernel_rfl) (fun _ _ _ h => h) (Or.inl ⟨by rfl, ?_⟩) hHeld ?_
          rotate_left
          · (intro w' hSw; (try dsimp only at hSw); go_split_ands; go_simp; first | done | with_reducible rfl)
          try simp only [Act.put, List.setIfInBounds_toArray, List.set_cons_zero, List.set_cons_succ]
          refine wpAnyH_take (i := 4) (oi := { dst := some 74, op := Op.move (Operand.tmp 8), type := 23, pos := "law.go:111", after := #[], guard := none }) (v := ?_) rfl (by kernel_rfl) (by kernel_rfl) (by kernel_rfl) (fun _ _ _ h => h) (Or.inl ⟨by rfl, ?_⟩) hHeld ?_
          rotate_left
          · (intro w' hSw; (try dsimp only at hSw); go_split_ands; go_simp; first | done | with_reducible rfl)
          try simp only [Act.put, List.setIfInBounds_toArray, List.set_cons_zero, List.set_cons_succ]
          refine wpAnyH_take (i := 5) (oi := { dst := some 75, op := Op.fieldAddr 42 (Operand.tmp 10) 1, type := 0, pos := "law.go:111", after := #[], guard := none }) (v := ?_) rfl (by kernel_rfl) (by kernel_rfl) (by kernel_rfl) (fun _ _ _ h => h) (Or.inl ⟨by rfl, ?_⟩) hHeld ?_
          rotate_left
          · (intro w' hSw; (try dsimp only at hSw); go_split_ands; go_simp; first | done | with_reducible rfl)
          try simp only [Act.put, List.setIfInBounds_toArray, List.set_cons_zero, List.set_cons_succ]
          refine wpAnyH_take (i := 6) (oi := { dst := some 76, op := Op.load 27 (Operand.tmp 75), type := 27, pos := "law.go:111", after := #[{ on := 5, ground := Ground.data }], guard := none }) (v := ?_) rfl (by kernel_rfl) (by kernel_rfl) (by kernel_rfl) (fun _ _ _ h => h) (Or.inl ⟨by rfl, ?_⟩) hHeld ?_
          rotate_left
          · (intro w' hSw; (try dsimp only at hSw); go_split_ands; go_simp; first | done | with_reducible rfl)
          try simp only [Act.put, List.setIfInBounds_toArray, List.set_cons_zero, List.set_cons_succ]
          refine wpAnyH_ready (rs := [3]) (by kernel_rfl) (by simp) ?_
          refine AllReadyH.cons (o := { dst := some 73, op := Op.call { callee := Callee.value (Operand.func 19), args := #[Operand.tmp 70, Operand.tmp 72], argTypes := #[23, 27] }, type := 4, pos := "law.go:111", after := #[{ on := 0, ground := Ground.data }, { on := 2, ground := Ground.data }], guard := none }) rfl (fun K hK => ?_) AllReadyH.nil
          go_simp
          refine (HTZ.out.below (below_drew (Below.refl _ _)) |>.has (HT1.out.fit1 (by omega)) Ai li ci y.item HLI.out (by omega) ((HSX.out w4 hbw4).drew)).mono ?_
          rintro e w5 ⟨rfl, hb5⟩
          have hb45 : Below w4.heap.size w4 w5 := (below_drew (Below.refl _ w4)).trans hb5
          clear hb5
          go_wp2_with fail
          refine hK.out _ _ ?_ ?_
          · (exact (hb45.cell (p := ⟨wr.heap.size, 1, none⟩) hlt4).trans e1)
          clear hK K hHeld; intro hHeld
          try simp only [Act.put, List.setIfInBounds_toArray, List.set_cons_zero, List.set_cons_succ]
          have hs5 := hb45.size
          have HB45 := Lib.hid hb45
          clear hb45
          refine wpAnyH_ready (rs := [7]) (by kernel_rfl) (by simp) ?_
          refine AllReadyH.cons (o := { dst := some 77, op := Op.call { callee := Callee.value (Operand.func 19), args := #[Operand.tmp 74, Operand.tmp 76], argTypes := #[23, 27] }, type := 4, pos := "law.go:111", after := #[{ on := 4, ground := Ground.data }, { on := 6, ground := Ground.data }, { on := 3, ground := Ground.chain }], guard := none }) rfl (fun K hK => ?_) AllReadyH.nil
          go_simp
          refine ((HTZ.out.below HB45.out).swap.has (HT1.out.fit2 (by omega)) Ai li ci y.item HLI.out (by omega) (HSX.out w5 (hbw4.trans (HB45.out.mono hbw4.size)))).mono ?_
          rintro e w6 ⟨rfl, hb6⟩
          have hb46 := HB45.out.trans (hb6.mono hs5)
          rw [← HT1.out.has y.item]
          clear hb6
          go_wp2_with fail
          refine hK.out _ _ ?_ ?_
          · (exact (hb46.cell (p := ⟨wr.heap.size, 1, none⟩) hlt4).trans e1)
          clear hK K hHeld; intro hHeld
          try simp only [Act.put, List.setIfInBounds_toArray, List.set_cons_zero, List.set_cons_succ]
          have HB46 := Lib.hid hb46
          clear hb46
          refine wpAnyH_take (i := 8) (oi := { dst := some 78, op := Op.binOp BinOp.neq 4 (Operand.tmp 73) (Operand.tmp 77) 4, type := 4, pos := "law.go:111", after := #[{ on := 3, ground := Ground.data }, { on := 7, ground := Ground.data }], guard := none }) (v := ?_) rfl (by kernel_rfl) (by kernel_rfl) (by kernel_rfl) (fun _ _ _ h => h) (Or.inl ⟨by rfl, ?_⟩) hHeld ?_
          rotate_left
          · (intro w' hSw; (try dsimp only at hSw); go_split_ands; go_simp; first | done | with_reducible rfl)
          try simp only [Act.put, List.setIfInBounds_toArray, List.set_cons_zero, List.set_cons_succ]
          refine wpAnyH_done (by kernel_rfl) ?_ _
          refine NoPanic.normal ?_
          go_wp2
          go_roundg (n - (k + 1))
          case measure => have := HKL.out; have := HN.out; omega
          case rel => exact ⟨k + 1, by omega, by go_num, ⟨_, _, _, HTZ.out.below HB46.out, HT1.out⟩, hbw4.trans (HB46.out.mono hbw4.size)⟩
      · have hA := Lib.hid (HTX.out.merge (HSM.out.fit1 (by omega)) (HH.out.below hbwx HH.out.1) aa bb)
        have HT1 := Lib.hid (HSM.out.merge (by omega) aa bb)
        rw [hcase] at hz
        clear hcase
        all_goals
          go_wp2_with fail
          refine hA.out.mono ?_
          rintro e w4 ⟨v, rfl, lf⟩
          have hbox4 := HBX.out.keep (W' := w4) (lf.kept _ rfl)
          have e1 := hbox4.cell1
          have HTZ := Lib.hid lf.twin
          have hbw4 := hbwx.trans lf.below
          have hlt4 := hbox4.lt
          clear hA lf hbox4
          go_wp2_with fail
          refine wp_region_noPanic ?_
          refine wp_region_held_drew (S := fun w' => w'.cell? ⟨wr.heap.size, 1, none⟩ = some (.slice Ai li ci)) (by kernel_rfl) ?_ (fun hHeld => ?_)
          · (exact e1)
          refine wpAnyH_take (i := 0) (oi := { dst := some 70, op := Op.move (Operand.tmp 7), type := 23, pos := "law.go:111", after := #[], guard := none }) (v := ?_) rfl (by kernel_rfl) (by kernel_rfl) (by kernel_rfl) (fun _ _ _ h => h) (Or.inl ⟨by rfl, ?_⟩) hHeld ?_
          rotate_left
          · (intro w' hSw; (try dsimp only at hSw); go_split_ands; go_simp; first | done | with_reducible rfl)
          try simp only [Act.put, List.setIfInBounds_toArray, List.set_cons_zero, List.set_cons_succ]
          refine wpAnyH_take (i := 1) (oi := { dst := some 71, op := Op.fieldAddr 42 (Operand.tmp 10) 1, type := 0, pos := "law.go:111", after := #[], guard := none }) (v := ?_) rfl (by kernel_rfl) (by kernel_rfl) (by kernel_rfl) (fun _ _ _ h => h) (Or.inl ⟨by rfl, ?_⟩) hHeld ?_
          rotate_left
          · (intro w' hSw; (try dsimp only at hSw); go_split_ands; go_simp; first | done | with_reducible rfl)
          try simp only [Act.put, List.setIfInBounds_toArray, List.set_cons_zero, List.set_cons_succ]
          refine wpAnyH_take (i := 2) (oi := { dst := some 72, op := Op.load 27 (Operand.tmp 71), type := 27, pos := "law.go:111", after := #[{ on := 1, ground := Ground.data }], guard := none }) (v := ?_) rfl (by kernel_rfl) (by kernel_rfl) (by kernel_rfl) (fun _ _ _ h => h) (Or.inl ⟨by rfl, ?_⟩) hHeld ?_
          rotate_left
          · (intro w' hSw; (try dsimp only at hSw); go_split_ands; go_simp; first | done | with_reducible rfl)
          try simp only [Act.put, List.setIfInBounds_toArray, List.set_cons_zero, List.set_cons_succ]
          refine wpAnyH_take (i := 4) (oi := { dst := some 74, op := Op.move (Operand.tmp 8), type := 23, pos := "law.go:111", after := #[], guard := none }) (v := ?_) rfl (by kernel_rfl) (by kernel_rfl) (by kernel_rfl) (fun _ _ _ h => h) (Or.inl ⟨by rfl, ?_⟩) hHeld ?_
          rotate_left
          · (intro w' hSw; (try dsimp only at hSw); go_split_ands; go_simp; first | done | with_reducible rfl)
          try simp only [Act.put, List.setIfInBounds_toArray, List.set_cons_zero, List.set_cons_succ]
          refine wpAnyH_take (i := 5) (oi := { dst := some 75, op := Op.fieldAddr 42 (Operand.tmp 10) 1, type := 0, pos := "law.go:111", after := #[], guard := none }) (v := ?_) rfl (by kernel_rfl) (by kernel_rfl) (by kernel_rfl) (fun _ _ _ h => h) (Or.inl ⟨by rfl, ?_⟩) hHeld ?_
          rotate_left
          · (intro w' hSw; (try dsimp only at hSw); go_split_ands; go_simp; first | done | with_reducible rfl)
          try simp only [Act.put, List.setIfInBounds_toArray, List.set_cons_zero, List.set_cons_succ]
          refine wpAnyH_take (i := 6) (oi := { dst := some 76, op := Op.load 27 (Operand.tmp 75), type := 27, pos := "law.go:111", after := #[{ on := 5, ground := Ground.data }], guard := none }) (v := ?_) rfl (by kernel_rfl) (by kernel_rfl) (by kernel_rfl) (fun _ _ _ h => h) (Or.inl ⟨by rfl, ?_⟩) hHeld ?_
          rotate_left
          · (intro w' hSw; (try dsimp only at hSw); go_split_ands; go_simp; first | done | with_reducible rfl)
          try simp only [Act.put, List.setIfInBounds_toArray, List.set_cons_zero, List.set_cons_succ]
          refine wpAnyH_ready (rs := [3]) (by kernel_rfl) (by simp) ?_
          refine AllReadyH.cons (o := { dst := some 73, op := Op.call { callee := Callee.value (Operand.func 19), args := #[Operand.tmp 70, Operand.tmp 72], argTypes := #[23, 27] }, type := 4, pos := "law.go:111", after := #[{ on := 0, ground := Ground.data }, { on := 2, ground := Ground.data }], guard := none }) rfl (fun K hK => ?_) AllReadyH.nil
          go_simp
          refine (HTZ.out.below (below_drew (Below.refl _ _)) |>.has (HT1.out.fit1 (by omega)) Ai li ci y.item HLI.out (by omega) ((HSX.out w4 hbw4).drew)).mono ?_
          rintro e w5 ⟨rfl, hb5⟩
          have hb45 : Below w4.heap.size w4 w5 := (below_drew (Below.refl _ w4)).trans hb5
          clear hb5
          go_wp2_with fail
          refine hK.out _ _ ?_ ?_
          · (exact (hb45.cell (p := ⟨wr.heap.size, 1, none⟩) hlt4).trans e1)
          clear hK K hHeld; intro hHeld
          try simp only [Act.put, List.setIfInBounds_toArray, List.set_cons_zero, List.set_cons_succ]
          have hs5 := hb45.size
          have HB45 := Lib.hid hb45
          clear hb45
          refine wpAnyH_ready (rs := [7]) (by kernel_rfl) (by simp) ?_
          refine AllReadyH.cons (o := { dst := some 77, op := Op.call { callee := Callee.value (Operand.func 19), args := #[Operand.tmp 74, Operand.tmp 76], argTypes := #[23, 27] }, type := 4, pos := "law.go:111", after := #[{ on := 4, ground := Ground.data }, { on := 6, ground := Ground.data }, { on := 3, ground := Ground.chain }], guard := none }) rfl (fun K hK => ?_) AllReadyH.nil
          go_simp
          refine ((HTZ.out.below HB45.out).swap.has (HT1.out.fit2 (by omega)) Ai li ci y.item HLI.out (by omega) (HSX.out w5 (hbw4.trans (HB45.out.mono hbw4.size)))).mono ?_
          rintro e w6 ⟨rfl, hb6⟩
          have hb46 := HB45.out.trans (hb6.mono hs5)
          rw [← HT1.out.has y.item]
          clear hb6
          go_wp2_with fail
          refine hK.out _ _ ?_ ?_
          · (exact (hb46.cell (p := ⟨wr.heap.size, 1, none⟩) hlt4).trans e1)
          clear hK K hHeld; intro hHeld
          try simp only [Act.put, List.setIfInBounds_toArray, List.set_cons_zero, List.set_cons_succ]
          have HB46 := Lib.hid hb46
          clear hb46
          refine wpAnyH_take (i := 8) (oi := { dst := some 78, op := Op.binOp BinOp.neq 4 (Operand.tmp 73) (Operand.tmp 77) 4, type := 4, pos := "law.go:111", after := #[{ on := 3, ground := Ground.data }, { on := 7, ground := Ground.data }], guard := none }) (v := ?_) rfl (by kernel_rfl) (by kernel_rfl) (by kernel_rfl) (fun _ _ _ h => h) (Or.inl ⟨by rfl, ?_⟩) hHeld ?_
          rotate_left
          · (intro w' hSw; (try dsimp only at hSw); go_split_ands; go_simp; first | done | with_reducible rfl)
          try simp only [Act.put, List.setIfInBounds_toArray, List.set_cons_zero, List.set_cons_succ]
          refine wpAnyH_done (by kernel_rfl) ?_ _
          refine NoPanic.normal ?_
          go_wp2
          go_roundg (n - (k + 1))
          case measure => have := HKL.out; have := HN.out; omega
          case rel => exact ⟨k + 1, by omega, by go_num, ⟨_, _, _, HTZ.out.below HB46.out, HT1.out⟩, hbw4.trans (HB46.out.mono hbw4.size)⟩
    · obtain rfl : k = n := by omega
      obtain ⟨m1, m2, hA, hB, -⟩ := hT.out
      have hf1 := hSm.fit1 (by omega)
      have hf2 := hSm.fit2 (by omega)
      obtain ⟨a, ha⟩ : ∃ a, s1.all = a := ⟨_, rfl⟩
      have hb' : s2.all = a := hSm.all.symm.trans ha
      have hal : a.length ≤ 900 := by rw [← ha]; have := all_len s1; have := hf1.total; omega
      have HXw : ∀ W, Below w.heap.size w W → Sees W W.heap.size B (bv x) := fun W hW => (HX.out.below hW).more hW.size
      have hfull : (fromL a []).take (1073741824 : Int).toNat = a := by
        rw [fromL_nil]
        exact List.take_of_length_le (by omega)
      have hpn : s2.fs.length = 0 := by rw [hSm.none]; rfl
      obtain ⟨pf, hpf⟩ : ∃ p, a.filter (preB x) = p := ⟨_, rfl⟩
      have hpl : pf.length ≤ 900 := by rw [← hpf]; exact Nat.le_trans (List.length_filter_le _ _) hal
      obtain ⟨f3, hf3⟩ : ∃ p, (fromL a x).take (3 : Int).toNat = p := ⟨_, rfl⟩
      have hfl : f3.length ≤ 900 := by
        rw [← hf3]
        refine Nat.le_trans (List.length_take_le _ _) (by decide)
      have F1 := fun W (hW : Below wr.heap.size wr W) => Lib.hid (setFrom_any (hA.below hW) hf1 (x := []) (Bx := none) (lx := 0) (dx := 0) rfl ⟨.inl rfl⟩ 1073741824)
      have F2 := fun W (hW : Below wr.heap.size wr W) => Lib.hid (setFrom_any (hB.below hW) hf2 (x := []) (Bx := none) (lx := 0) (dx := 0) rfl ⟨.inl rfl⟩ 1073741824)
      have P1 := fun W (hW : Below wr.heap.size wr W) => Lib.hid (setPrefix_any (dx := dx) (hA.below hW) hf1 HXL.out (HXw W (hb.trans (hW.mono hbs))))
      have P2 := fun W (hW : Below wr.heap.size wr W) => Lib.hid (setPrefix_any (dx := dx) (hB.below hW) hf2 HXL.out (HXw W (hb.trans (hW.mono hbs))))
      have G1 := fun W (hW : Below wr.heap.size wr W) => Lib.hid (setFrom_any (dx := dx) (hA.below hW) hf1 HXL.out (HXw W (hb.trans (hW.mono hbs))) 3)
      have G2 := fun W (hW : Below wr.heap.size wr W) => Lib.hid (setFrom_any (dx := dx) (hB.below hW) hf2 HXL.out (HXw W (hb.trans (hW.mono hbs))) 3)
      have PN := fun W (hW : Below wr.heap.size wr W) => Lib.hid (parts_any (hB.below hW))
      rw [ha, hfull] at F1
      rw [hb', hfull] at F2
      rw [ha, hpf] at P1
      rw [hb', hpf] at P2
      rw [ha, hf3] at G1
      rw [hb', hf3] at G2
      rw [hpn] at PN
      obtain ⟨la, hla⟩ : ∃ l, a.length = l := ⟨_, rfl⟩
      obtain ⟨lp, hlp⟩ : ∃ l, pf.length = l := ⟨_, rfl⟩
      obtain ⟨l3, hl3⟩ : ∃ l, f3.length = l := ⟨_, rfl⟩
      rw [hla] at hal
      rw [hlp] at hpl
      rw [hl3] at hfl
      have HLA := Lib.hid hla
      have HLP := Lib.hid hlp
      have HL3 := Lib.hid hl3
      clear hT hSm hpair hA hB ha hb' HXw hfull hpn hpf hf3 hla hlp hl3 hf1 hf2 HTW hbw2 hlt
      have hr := Lib.hid (Below.refl wr.heap.size wr)
      go_wp2_with fail
      refine (F1 _ hr.out).out.mono ?_
      rintro e u1 ⟨A1, ca1, rfl, ru1, hu1⟩
      rw [HLA.out]
      have ku1 := Lib.hid (hr.out.trans (hu1.mono hr.out.size))
      go_wp2_with fail
      refine (F2 _ ku1.out).out.mono ?_
      rintro e u2 ⟨B1, cb1, rfl, ru2, hu2⟩
      rw [HLA.out]
      have ku2 := Lib.hid (ku1.out.trans (hu2.mono ku1.out.size))
      have hs1 := Lib.hid (same_lists (c := ca1) (d := cb1) a HLA.out HLA.out ((ru1.sees.keep (Kept.of_below hu2 fun k e => e.2)).sees (B := u2.heap.size) fun k e => by have := hu2.size; omega) (ru2.sees.sees fun k e => e.2) (by omega))
      clear ru1 ru2 hu1 hu2
      go_wp2_with fail
      refine hs1.out.mono ?_
      rintro e u3 ⟨rfl, hu3⟩
      have ku3 := Lib.hid (ku2.out.trans (hu3.mono ku2.out.size))
      clear hu3 hs1
      go_wp2_with fail
      refine (P1 _ ku3.out).out.mono ?_
      rintro e u4 ⟨A2, ca2, rfl, ru4, hu4⟩
      rw [HLP.out]
      have ku4 := Lib.hid (ku3.out.trans (hu4.mono ku3.out.size))
      go_wp2_with fail
      refine (P2 _ ku4.out).out.mono ?_
      rintro e u5 ⟨B2, cb2, rfl, ru5, hu5⟩
      rw [HLP.out]
      have ku5 := Lib.hid (ku4.out.trans (hu5.mono ku4.out.size))
      have hs2 := Lib.hid (same_lists (c := ca2) (d := cb2) pf HLP.out HLP.out ((ru4.sees.keep (Kept.of_below hu5 fun k e => e.2)).sees (B := u5.heap.size) fun k e => by have := hu5.size; omega) (ru5.sees.sees fun k e => e.2) (by omega))
      clear ru4 ru5 hu4 hu5
      go_wp2_with fail
      refine hs2.out.mono ?_
      rintro e u6 ⟨rfl, hu6⟩
      have ku6 := Lib.hid (ku5.out.trans (hu6.mono ku5.out.size))
      clear hu6 hs2
      go_wp2_with fail
      refine (G1 _ ku6.out).out.mono ?_
      rintro e u7 ⟨A3, ca3, rfl, ru7, hu7⟩
      rw [HL3.out]
      have ku7 := Lib.hid (ku6.out.trans (hu7.mono ku6.out.size))
      go_wp2_with fail
      refine (G2 _ ku7.out).out.mono ?_
      rintro e u8 ⟨B3, cb3, rfl, ru8, hu8⟩
      rw [HL3.out]
      have ku8 := Lib.hid (ku7.out.trans (hu8.mono ku7.out.size))
      have hs3 := Lib.hid (same_lists (c := ca3) (d := cb3) f3 HL3.out HL3.out ((ru7.sees.keep (Kept.of_below hu8 fun k e => e.2)).sees (B := u8.heap.size) fun k e => by have := hu8.size; omega) (ru8.sees.sees fun k e => e.2) (by omega))
      clear ru7 ru8 hu7 hu8
      go_wp2_with fail
      refine hs3.out.mono ?_
      rintro e u9 ⟨rfl, hu9⟩
      have ku9 := Lib.hid (ku8.out.trans (hu9.mono ku8.out.size))
      clear hu9 hs3
      go_wp2_with fail
      refine (PN _ ku9.out).out.mono ?_
      rintro e ua ⟨rfl, rfl⟩
      go_wp2
      go_ret
      exact ⟨rfl, hb.trans (ku9.out.mono hbs)⟩
end Go.Proofs.YtadakaenbemedaaGreatDoor
