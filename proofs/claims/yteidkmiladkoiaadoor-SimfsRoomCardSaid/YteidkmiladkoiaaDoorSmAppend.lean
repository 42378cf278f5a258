/-
  Append, walked.
-/
import Derived.Test.YteidkmiladkoiaaDoorSmUsed
namespace Go.Proofs.YteidkmiladkoiaaDoor
open Go.RowKit

section
variable {c F : Nat → Nat} {w w3 : World} {f n : Nat} {S : FsM}
/-- Behind 'x.b = append(x.b, b...)'. -/
theorem append_done (h : FsAt c F w f S) (hnum : n < S.files.length) {A A3 : Option Addr} {m c3 L : Nat} {b : Txt} (hx : FileAt c w n (F n) (S.file n)) (hblk : Blk w (F n) #[.slice A (S.file n).b.length m, .int .i64 ((S.file n).stays : Int)] 54)
    (hrow : ∀ k, (Value.slice A (S.file n).b.length m).ownBlock = some k → c k = 2 * n + 7) (hown : OwnB w3 0 (.slice A3 L c3) ((S.file n).b ++ b)) (hon : Onto w w3 (.slice A (S.file n).b.length m) (.slice A3 L c3)) :
    FsNew c w f (S.setFile n { S.file n with b := (S.file n).b ++ b }) (w3.setCell ⟨F n, 0, none⟩ (.slice A3 L c3)) := by
  have hcF := hx.col
  have hFl := hx.lt
  have hFr : (Value.slice A (S.file n).b.length m).ownBlock ≠ some (F n) := fun e => by have := hrow _ e; omega
  have hcol : ∀ k, k < w.heap.size → updO c (Value.slice A3 L c3).ownBlock (2 * n + 7) k = c k := fun k hk => updO_keep hon hrow hk
  have hF3 : (Value.slice A3 L c3).ownBlock ≠ some (F n) := fun e => by
    have := updO_same (c := c) (x := 2 * n + 7) e
    rw [hcol _ hFl] at this
    omega
  refine FsNew.of_file h hnum (c' := updO c (Value.slice A3 L c3).ownBlock (2 * n + 7)) hcol (fun k hk => ?_) ((Turn.onto hon fun k e => .inr (hrow k e)).trans (Turn.setCell _ _ _ (.inl hcF))) ⟨⟨.slice A3 L c3, ?_, ?_, fun k e => updO_same e⟩, (hcol _ hFl).trans hcF⟩
  · rw [World.size_setCell]
    by_cases e : (Value.slice A3 L c3).ownBlock = some k
    · exact (World.ownsRow.lt hown k e).2
    · rw [updO_ne e] at hk
      have h1 := h.lt k hk
      have h2 := hon.size
      omega
  · exact (hblk.keep (hon.grown.block _ hFl (fun e => hFr e.symm))).set 0 _
  · exact ownsRow_kept hown fun k e => Below.heap_setCell _ _ _ _ (fun e2 => by subst e2; exact hF3 e)
end

set_option maxRecDepth 100000 in
set_option maxHeartbeats 3200000 in
theorem append_any {N : Nat} {c F : Nat → Nat} {w : World} {f : Nat} {S : FsM} (h : FsAt c F w f S) (hO : FsOk N S) (hN : N ≤ 9000) (p : Txt) (Ab : Option Addr) (lb cb : Nat) (b : Txt) (hb : b.length = lb) (hbc : lb ≤ cb) (hlb : lb ≤ 1000000000) (q : Nat → Prop) (hs : SeesM q w Ab (bv b)) (hq : ∀ k, q k → k < w.heap.size ∧ c k = 0) :
    Calls Tryd.prog 8 #[.pointer (some ⟨f, 0, none⟩), .string (strOf p), .slice Ab lb cb] w fun e w' => e = .returned (.int .i64 (S.go (·.append p b)).2) ∧ FsNew c w f (S.go (·.append p b)).1 w' := by
  have hfd := Lib.hid (find_any h p)
  have hsp := Lib.hid (spent_any h hO.fuseOk)
  have hO1 := Lib.hid hO.spent
  have hcf := h.col
  unfold findV at hfd
  have hlk := S.spent_look p
  have H := Lib.hid h
  have HB := Lib.hid hb
  have HS := Lib.hid hs
  have HQ := Lib.hid hq
  have see2 : ∀ w2 : World, Turn (fun k => k = f) w w2 → Sees w2 w2.heap.size Ab (bv b) := fun w2 ht2 => (HS.out.keep (Kept.of_turn ht2 fun k e => ⟨(HQ.out k e).1, fun e2 => by have := (HQ.out k e).2; rw [e2] at this; omega⟩)).sees fun k e => by have := (HQ.out k e).1; have := ht2.size; omega
  clear hs hq
  cases hs : S.spent.2 with
  | true =>
    rw [FsM.go_full hs]
    rw [hs] at hsp
    cases hl : S.look p
    all_goals
      rw [hl] at hfd
      simp only [optV, ptr] at hfd
      clear hs hl hlk h hO hb
      go_enter Tryd.func8, Tryd.ntmps8
      go_wp2_with fail
      refine hfd.out.mono ?_
      rintro e w1 ⟨rfl, rfl⟩
      go_wp2_with fail
      refine hsp.out.mono ?_
      rintro e w2 ⟨rfl, h2, ht2⟩
      go_wp2
      go_ret
      exact ⟨rfl, spent_new H.out h2 ht2⟩
  | false =>
    rw [FsM.go_on hs]
    rw [hs] at hsp
    obtain ⟨S1, hS1⟩ : ∃ S1, S.spent.1 = S1 := ⟨_, rfl⟩
    rw [hS1] at hlk hsp hO1 ⊢
    cases hl : S.look p with
    | none =>
      have e : S1.append p b = (S1, 60) := by unfold FsM.append; rw [hlk, hl]
      rw [e]
      rw [hl] at hfd
      simp only [optV, ptr] at hfd
      clear e hs hl hlk h hO hS1 hb
      go_enter Tryd.func8, Tryd.ntmps8
      go_wp2_with fail
      refine hfd.out.mono ?_
      rintro e w1 ⟨rfl, rfl⟩
      go_wp2_with fail
      refine hsp.out.mono ?_
      rintro e w2 ⟨rfl, h2, ht2⟩
      go_wp2
      go_ret
      exact ⟨rfl, ⟨⟨c, F, h2, fun _ _ e => e⟩, ht2.mono fun k _ e => by rw [e, hcf]; omega⟩⟩
    | some n =>
      rw [hl] at hfd
      simp only [optV, ptr] at hfd
      have hln := Lib.hid (hlk.trans hl)
      obtain ⟨L, hL⟩ : ∃ L, (S1.file n).b.length = L := ⟨_, rfl⟩
      have HL := Lib.hid hL
      have hLm : L ≤ 1048576 := by rw [← hL]; exact (hO1.out.fileOk n).2
      have hw8 : IntKind.i64.wrap ((L : Int) + (lb : Int)) = ((L + lb : Nat) : Int) := by simp [IntKind.wrap, IntKind.signed, IntKind.bits]; omega
      obtain ⟨T, hT⟩ : ∃ T, L + lb = T := ⟨_, rfl⟩
      rw [hT] at hw8
      by_cases hlim : 1048576 < T
      · have e : S1.append p b = (S1, 2) := by unfold FsM.append; rw [hlk, hl]; simp only [hL, hb, hT]; rw [if_pos hlim]
        rw [e]
        have hlim' : (1048576 : Int) < (T : Int) := by omega
        clear e hs hl hlk h hO hS1 hL hb hT hlim
        go_enter Tryd.func8, Tryd.ntmps8
        go_wp2_with fail
        refine hfd.out.mono ?_
        rintro e w1 ⟨rfl, rfl⟩
        go_wp2_with fail
        refine hsp.out.mono ?_
        rintro e w2 ⟨rfl, h2, ht2⟩
        have hfile := Lib.hid (h2.files n (reach_now hln.out))
        obtain ⟨A, m, c0, -, -, hm, -, -, -, -, -⟩ := hfile.out.open_
        rw [HL.out] at c0 hm
        have H2 := Lib.hid h2
        clear h2
        go_wp2
        go_ret
        exact ⟨rfl, ⟨⟨c, F, H2.out, fun _ _ e => e⟩, ht2.mono fun k _ e => by rw [e, hcf]; omega⟩⟩
      · have hlim' : (T : Int) ≤ 1048576 := by omega
        obtain ⟨U, hU⟩ : ∃ U, S1.used = U := ⟨_, rfl⟩
        have hUl : U ≤ 9437184000 := by rw [← hU]; have := used_le hO1.out; omega
        obtain ⟨R, hR⟩ : ∃ R, S1.room = R := ⟨_, rfl⟩
        by_cases h0 : lb = 0
        · have e : S1.append p b = (S1.setFile n { S1.file n with b := (S1.file n).b ++ b }, 0) := by unfold FsM.append; rw [hlk, hl]; simp only [hL, hb, hT]; rw [if_neg hlim, if_neg (by omega)]
          rw [e]
          subst h0
          clear e hs hl hlk h hO hS1 hL hb hT hlim hU hR
          go_enter Tryd.func8, Tryd.ntmps8
          go_wp2_with fail
          refine hfd.out.mono ?_
          rintro e w1 ⟨rfl, rfl⟩
          go_wp2_with fail
          refine hsp.out.mono ?_
          rintro e w2 ⟨rfl, h2, ht2⟩
          have hfile := Lib.hid (h2.files n (reach_now hln.out))
          obtain ⟨A, m, c0, c1, fr, hm, -, -, hown, hblk, hrow⟩ := hfile.out.open_
          rw [HL.out] at c0 hm hown hblk hrow
          have H2 := Lib.hid h2
          have HOWN := Lib.hid hown
          have HBLK := Lib.hid hblk
          have HROW := Lib.hid hrow
          have fr0 := fr 0
          have HSEE := Lib.hid (show Sees w2.drew w2.drew.heap.size Ab (bv b) from (see2 w2 ht2).drew)
          clear h2 hown hblk hrow fr c1
          go_wp2_with fail
          refine wp_region_noPanic ?_
          refine wp_region_held_drew (S := fun _ => True) (by kernel_rfl) ?_ (fun hHeld => ?_)
          · (trivial)
          refine wpAnyH_take (i := 0) (oi := { dst := some 33, op := Op.move (Operand.tmp 2), type := 28, pos := "simfs.go:125", after := #[], guard := none }) (v := ?_) rfl (by kernel_rfl) (by kernel_rfl) (by kernel_rfl) (fun _ _ _ h => h) (Or.inl ⟨by rfl, ?_⟩) hHeld ?_
          rotate_left
          · (intro w' hSw; (try dsimp only at hSw); go_split_ands; go_simp; first | done | with_reducible rfl)
          try simp only [Act.put, List.setIfInBounds_toArray, List.set_cons_zero, List.set_cons_succ]
          refine wpAnyH_take (i := 1) (oi := { dst := some 34, op := Op.call { callee := Callee.builtin Builtin.len, args := #[Operand.tmp 33], argTypes := #[28] }, type := 3, pos := "simfs.go:125", after := #[{ on := 0, ground := Ground.data }], guard := none }) (v := ?_) rfl (by kernel_rfl) (by kernel_rfl) (by kernel_rfl) (fun _ _ _ h => h) (Or.inl ⟨by rfl, ?_⟩) hHeld ?_
          rotate_left
          · (intro w' hSw; (try dsimp only at hSw); go_split_ands; go_simp; first | done | with_reducible rfl)
          try simp only [Act.put, List.setIfInBounds_toArray, List.set_cons_zero, List.set_cons_succ]
          refine wpAnyH_take (i := 2) (oi := { dst := some 35, op := Op.binOp BinOp.gtr 3 (Operand.tmp 34) (Operand.const (Value.int IntKind.i64 0)) 3, type := 4, pos := "simfs.go:125", after := #[{ on := 1, ground := Ground.data }], guard := none }) (v := (.bool false)) rfl (by kernel_rfl) (by kernel_rfl) (by kernel_rfl) (fun _ _ _ h => h) (Or.inl ⟨by rfl, ?_⟩) hHeld ?_
          · (intro w' hSw; (try dsimp only at hSw); go_split_ands; go_simp; first | done | with_reducible rfl | simp)
          try simp only [Act.put, List.setIfInBounds_toArray, List.set_cons_zero, List.set_cons_succ]
          refine wpAnyH_take (i := 3) (oi := { dst := some 36, op := Op.move (Operand.tmp 35), type := 4, pos := "simfs.go:125", after := #[{ on := 2, ground := Ground.data }], guard := none }) (v := ?_) rfl (by kernel_rfl) (by kernel_rfl) (by kernel_rfl) (fun _ _ _ h => h) (Or.inl ⟨by rfl, ?_⟩) hHeld ?_
          rotate_left
          · (intro w' hSw; (try dsimp only at hSw); go_split_ands; go_simp; first | done | with_reducible rfl)
          try simp only [Act.put, List.setIfInBounds_toArray, List.set_cons_zero, List.set_cons_succ]
          refine wpAnyH_take (i := 4) (oi := { dst := some 37, op := Op.move (Operand.tmp 0), type := 25, pos := "simfs.go:125", after := #[{ on := 3, ground := Ground.guard }], guard := some (3, true) }) (v := undef) rfl (by kernel_rfl) (by kernel_rfl) (by kernel_rfl) (fun _ _ _ h => h) (Or.inr ⟨by rfl, rfl⟩) hHeld ?_
          try simp only [Act.put, List.setIfInBounds_toArray, List.set_cons_zero, List.set_cons_succ]
          refine wpAnyH_take (i := 5) (oi := { dst := some 38, op := Op.call { callee := Callee.value (Operand.func 9), args := #[Operand.tmp 37], argTypes := #[25] }, type := 3, pos := "simfs.go:125", after := #[{ on := 4, ground := Ground.data }, { on := 3, ground := Ground.chain }, { on := 3, ground := Ground.guard }], guard := some (3, true) }) (v := undef) rfl (by kernel_rfl) (by kernel_rfl) (by kernel_rfl) (fun _ _ _ h => h) (Or.inr ⟨by rfl, rfl⟩) hHeld ?_
          try simp only [Act.put, List.setIfInBounds_toArray, List.set_cons_zero, List.set_cons_succ]
          refine wpAnyH_take (i := 6) (oi := { dst := some 39, op := Op.move (Operand.tmp 2), type := 28, pos := "simfs.go:125", after := #[{ on := 3, ground := Ground.guard }], guard := some (3, true) }) (v := undef) rfl (by kernel_rfl) (by kernel_rfl) (by kernel_rfl) (fun _ _ _ h => h) (Or.inr ⟨by rfl, rfl⟩) hHeld ?_
          try simp only [Act.put, List.setIfInBounds_toArray, List.set_cons_zero, List.set_cons_succ]
          refine wpAnyH_take (i := 7) (oi := { dst := some 40, op := Op.call { callee := Callee.builtin Builtin.len, args := #[Operand.tmp 39], argTypes := #[28] }, type := 3, pos := "simfs.go:125", after := #[{ on := 6, ground := Ground.data }, { on := 3, ground := Ground.guard }], guard := some (3, true) }) (v := undef) rfl (by kernel_rfl) (by kernel_rfl) (by kernel_rfl) (fun _ _ _ h => h) (Or.inr ⟨by rfl, rfl⟩) hHeld ?_
          try simp only [Act.put, List.setIfInBounds_toArray, List.set_cons_zero, List.set_cons_succ]
          refine wpAnyH_take (i := 8) (oi := { dst := some 41, op := Op.binOp BinOp.add 3 (Operand.tmp 38) (Operand.tmp 40) 3, type := 3, pos := "simfs.go:125", after := #[{ on := 5, ground := Ground.data }, { on := 7, ground := Ground.data }, { on := 3, ground := Ground.guard }], guard := some (3, true) }) (v := undef) rfl (by kernel_rfl) (by kernel_rfl) (by kernel_rfl) (fun _ _ _ h => h) (Or.inr ⟨by rfl, rfl⟩) hHeld ?_
          try simp only [Act.put, List.setIfInBounds_toArray, List.set_cons_zero, List.set_cons_succ]
          refine wpAnyH_take (i := 9) (oi := { dst := some 42, op := Op.move (Operand.tmp 0), type := 25, pos := "simfs.go:125", after := #[{ on := 3, ground := Ground.guard }], guard := some (3, true) }) (v := undef) rfl (by kernel_rfl) (by kernel_rfl) (by kernel_rfl) (fun _ _ _ h => h) (Or.inr ⟨by rfl, rfl⟩) hHeld ?_
          try simp only [Act.put, List.setIfInBounds_toArray, List.set_cons_zero, List.set_cons_succ]
          refine wpAnyH_take (i := 10) (oi := { dst := some 43, op := Op.nilCheck (Operand.tmp 42), type := 0, pos := "simfs.go:125", after := #[{ on := 9, ground := Ground.data }, { on := 3, ground := Ground.guard }], guard := some (3, true) }) (v := undef) rfl (by kernel_rfl) (by kernel_rfl) (by kernel_rfl) (fun _ _ _ h => h) (Or.inr ⟨by rfl, rfl⟩) hHeld ?_
          try simp only [Act.put, List.setIfInBounds_toArray, List.set_cons_zero, List.set_cons_succ]
          refine wpAnyH_take (i := 11) (oi := { dst := some 44, op := Op.fieldAddr 47 (Operand.tmp 43) 0, type := 0, pos := "simfs.go:125", after := #[{ on := 10, ground := Ground.data }, { on := 3, ground := Ground.guard }], guard := some (3, true) }) (v := undef) rfl (by kernel_rfl) (by kernel_rfl) (by kernel_rfl) (fun _ _ _ h => h) (Or.inr ⟨by rfl, rfl⟩) hHeld ?_
          try simp only [Act.put, List.setIfInBounds_toArray, List.set_cons_zero, List.set_cons_succ]
          refine wpAnyH_take (i := 12) (oi := { dst := some 45, op := Op.load 3 (Operand.tmp 44), type := 3, pos := "simfs.go:125", after := #[{ on := 11, ground := Ground.data }, { on := 3, ground := Ground.guard }], guard := some (3, true) }) (v := undef) rfl (by kernel_rfl) (by kernel_rfl) (by kernel_rfl) (fun _ _ _ h => h) (Or.inr ⟨by rfl, rfl⟩) hHeld ?_
          try simp only [Act.put, List.setIfInBounds_toArray, List.set_cons_zero, List.set_cons_succ]
          refine wpAnyH_take (i := 13) (oi := { dst := some 46, op := Op.binOp BinOp.gtr 3 (Operand.tmp 41) (Operand.tmp 45) 3, type := 4, pos := "simfs.go:125", after := #[{ on := 8, ground := Ground.data }, { on := 12, ground := Ground.data }, { on := 3, ground := Ground.guard }], guard := some (3, true) }) (v := undef) rfl (by kernel_rfl) (by kernel_rfl) (by kernel_rfl) (fun _ _ _ h => h) (Or.inr ⟨by rfl, rfl⟩) hHeld ?_
          try simp only [Act.put, List.setIfInBounds_toArray, List.set_cons_zero, List.set_cons_succ]
          refine wpAnyH_take (i := 14) (oi := { dst := some 47, op := Op.pick (Operand.tmp 36) (Operand.tmp 46) (Operand.const (Value.bool false)), type := 4, pos := "simfs.go:125", after := #[{ on := 3, ground := Ground.data }, { on := 13, ground := Ground.data }], guard := none }) (v := ?_) rfl (by kernel_rfl) (by kernel_rfl) (by kernel_rfl) (fun _ _ _ h => h) (Or.inl ⟨by rfl, ?_⟩) hHeld ?_
          rotate_left
          · (intro w' hSw; (try dsimp only at hSw); go_split_ands; go_simp; first | done | with_reducible rfl)
          try simp only [Act.put, List.setIfInBounds_toArray, List.set_cons_zero, List.set_cons_succ]
          refine wpAnyH_take (i := 15) (oi := { dst := some 32, op := Op.assign (Operand.tmp 47), type := 4, pos := "simfs.go:125", after := #[{ on := 14, ground := Ground.data }, { on := 5, ground := Ground.chain }], guard := none }) (v := ?_) rfl (by kernel_rfl) (by kernel_rfl) (by kernel_rfl) (fun _ _ _ h => h) (Or.inl ⟨by rfl, ?_⟩) hHeld ?_
          rotate_left
          · (intro w' hSw; (try dsimp only at hSw); go_split_ands; go_simp; first | done | with_reducible rfl)
          try simp only [Act.put, List.setIfInBounds_toArray, List.set_cons_zero, List.set_cons_succ]
          refine wpAnyH_done (by kernel_rfl) ?_ _
          refine NoPanic.normal ?_
          go_wp2_with (at_builtin; (refine wpList_append_b rfl (.tmp 52) (.tmp 53) rfl 0 _ (S1.file n).b (by rfl) (show OwnB w2.drew 0 _ _ from HOWN.out) w2.drew.heap.size Ab 0 cb b (by rfl) HB.out HSEE.out (by have := HL.out; have := HB.out; omega) (Nat.zero_le _) ?_; intro v5 w5 hown5 hon5; obtain ⟨A5, c5, hv5, -, -⟩ := row_open hown5; rw [List.length_append, HL.out, HB.out] at hv5; subst hv5; have hF5 : (Value.slice A L m).ownBlock ≠ some (F n) := fun e => (by have := HROW.out _ e; have := hfile.out.col; omega); have b5 := ((show Blk w2.drew _ _ _ from ⟨HBLK.out.out⟩)).keep (hon5.grown.block _ ((show Blk w2.drew _ _ _ from ⟨HBLK.out.out⟩)).lt (fun e => hF5 e.symm)); have e5 : w5.cell? ⟨F n, 0, none⟩ = some (.slice A L m) := b5.cell 0 rfl; have f5 := b5.frozen 0; have HOWN5 := Lib.hid hown5; have HON5 := Lib.hid hon5; clear hown5 hon5))
          go_ret
          have hfin := append_done (H2.out.below (below_drew (Below.refl _ w2))) (hO1.out.num n (reach_now hln.out)) (m := m) (b := b) (hfile.out.keep (w' := w2.drew) fun _ _ => rfl) (by rw [HL.out]; exact (show Blk w2.drew _ _ _ from ⟨HBLK.out.out⟩)) (by rw [HL.out]; exact HROW.out) HOWN5.out (by rw [HL.out]; exact HON5.out)
          exact ⟨rfl, (hfin.below (below_drew (Below.refl _ w2)) H2.out.lt).after ht2 hcf⟩
        · have hpos : (0 : Int) < (lb : Int) := by omega
          have hwu : IntKind.i64.wrap ((U : Int) + (lb : Int)) = ((U + lb : Nat) : Int) := by simp [IntKind.wrap, IntKind.signed, IntKind.bits]; omega
          obtain ⟨Q, hQ⟩ : ∃ Q, U + lb = Q := ⟨_, rfl⟩
          rw [hQ] at hwu
          by_cases hroom : R < Q
          · have e : S1.append p b = (S1, 62) := by unfold FsM.append; rw [hlk, hl]; simp only [hL, hb, hT, hU, hR, hQ]; rw [if_neg hlim, if_pos ⟨by omega, hroom⟩]
            rw [e]
            have hroom' : (R : Int) < (Q : Int) := by omega
            clear e hroom
            have HU := Lib.hid hU
            have HR := Lib.hid hR
            clear hs hl hlk h hO hS1 hL hb hT hlim hU hR hQ h0
            go_enter Tryd.func8, Tryd.ntmps8
            go_wp2_with fail
            refine hfd.out.mono ?_
            rintro e w1 ⟨rfl, rfl⟩
            go_wp2_with fail
            refine hsp.out.mono ?_
            rintro e w2 ⟨rfl, h2, ht2⟩
            have hfile := Lib.hid (h2.files n (reach_now hln.out))
            obtain ⟨A, m, c0, c1, fr, hm, -, -, hown, hblk, hrow⟩ := hfile.out.open_
            obtain ⟨bn, bk, A0, n0, r0, -⟩ := h2.open_
            rw [HL.out] at c0 hm hown hblk hrow
            rw [HR.out] at r0
            have H2 := Lib.hid h2
            have HOWN := Lib.hid hown
            have HBLK := Lib.hid hblk
            have HROW := Lib.hid hrow
            have hus := Lib.hid (used_any (h2.below (below_drew (Below.refl _ w2))) hO1.out (by omega))
            rw [HU.out] at hus
            have hfl : f < w2.heap.size := h2.lt f (by omega)
            clear h2 hown hblk hrow fr c1 hfd hsp
            go_wp2_with fail
            refine wp_region_noPanic ?_
            refine wp_region_held_drew (S := fun w' => w'.cell? ⟨f, 0, none⟩ = some (.int .i64 (R : Int))) (by kernel_rfl) ?_ (fun hHeld => ?_)
            · (exact r0)
            refine wpAnyH_take (i := 0) (oi := { dst := some 33, op := Op.move (Operand.tmp 2), type := 28, pos := "simfs.go:125", after := #[], guard := none }) (v := ?_) rfl (by kernel_rfl) (by kernel_rfl) (by kernel_rfl) (fun _ _ _ h => h) (Or.inl ⟨by rfl, ?_⟩) hHeld ?_
            rotate_left
            · (intro w' hSw; (try dsimp only at hSw); go_split_ands; go_simp; first | done | with_reducible rfl)
            try simp only [Act.put, List.setIfInBounds_toArray, List.set_cons_zero, List.set_cons_succ]
            refine wpAnyH_take (i := 1) (oi := { dst := some 34, op := Op.call { callee := Callee.builtin Builtin.len, args := #[Operand.tmp 33], argTypes := #[28] }, type := 3, pos := "simfs.go:125", after := #[{ on := 0, ground := Ground.data }], guard := none }) (v := ?_) rfl (by kernel_rfl) (by kernel_rfl) (by kernel_rfl) (fun _ _ _ h => h) (Or.inl ⟨by rfl, ?_⟩) hHeld ?_
            rotate_left
            · (intro w' hSw; (try dsimp only at hSw); go_split_ands; go_simp; first | done | with_reducible rfl)
            try simp only [Act.put, List.setIfInBounds_toArray, List.set_cons_zero, List.set_cons_succ]
            refine wpAnyH_take (i := 2) (oi := { dst := some 35, op := Op.binOp BinOp.gtr 3 (Operand.tmp 34) (Operand.const (Value.int IntKind.i64 0)) 3, type := 4, pos := "simfs.go:125", after := #[{ on := 1, ground := Ground.data }], guard := none }) (v := (.bool true)) rfl (by kernel_rfl) (by kernel_rfl) (by kernel_rfl) (fun _ _ _ h => h) (Or.inl ⟨by rfl, ?_⟩) hHeld ?_
            · (intro w' hSw; (try dsimp only at hSw); go_split_ands; go_simp; first | done | with_reducible rfl | omega)
            try simp only [Act.put, List.setIfInBounds_toArray, List.set_cons_zero, List.set_cons_succ]
            refine wpAnyH_take (i := 3) (oi := { dst := some 36, op := Op.move (Operand.tmp 35), type := 4, pos := "simfs.go:125", after := #[{ on := 2, ground := Ground.data }], guard := none }) (v := ?_) rfl (by kernel_rfl) (by kernel_rfl) (by kernel_rfl) (fun _ _ _ h => h) (Or.inl ⟨by rfl, ?_⟩) hHeld ?_
            rotate_left
            · (intro w' hSw; (try dsimp only at hSw); go_split_ands; go_simp; first | done | with_reducible rfl)
            try simp only [Act.put, List.setIfInBounds_toArray, List.set_cons_zero, List.set_cons_succ]
            refine wpAnyH_take (i := 4) (oi := { dst := some 37, op := Op.move (Operand.tmp 0), type := 25, pos := "simfs.go:125", after := #[{ on := 3, ground := Ground.guard }], guard := some (3, true) }) (v := ?_) rfl (by kernel_rfl) (by kernel_rfl) (by kernel_rfl) (fun _ _ _ h => h) (Or.inl ⟨by rfl, ?_⟩) hHeld ?_
            rotate_left
            · (intro w' hSw; (try dsimp only at hSw); go_split_ands; go_simp; first | done | with_reducible rfl)
            try simp only [Act.put, List.setIfInBounds_toArray, List.set_cons_zero, List.set_cons_succ]
            refine wpAnyH_take (i := 6) (oi := { dst := some 39, op := Op.move (Operand.tmp 2), type := 28, pos := "simfs.go:125", after := #[{ on := 3, ground := Ground.guard }], guard := some (3, true) }) (v := ?_) rfl (by kernel_rfl) (by kernel_rfl) (by kernel_rfl) (fun _ _ _ h => h) (Or.inl ⟨by rfl, ?_⟩) hHeld ?_
            rotate_left
            · (intro w' hSw; (try dsimp only at hSw); go_split_ands; go_simp; first | done | with_reducible rfl)
            try simp only [Act.put, List.setIfInBounds_toArray, List.set_cons_zero, List.set_cons_succ]
            refine wpAnyH_take (i := 7) (oi := { dst := some 40, op := Op.call { callee := Callee.builtin Builtin.len, args := #[Operand.tmp 39], argTypes := #[28] }, type := 3, pos := "simfs.go:125", after := #[{ on := 6, ground := Ground.data }, { on := 3, ground := Ground.guard }], guard := some (3, true) }) (v := ?_) rfl (by kernel_rfl) (by kernel_rfl) (by kernel_rfl) (fun _ _ _ h => h) (Or.inl ⟨by rfl, ?_⟩) hHeld ?_
            rotate_left
            · (intro w' hSw; (try dsimp only at hSw); go_split_ands; go_simp; first | done | with_reducible rfl)
            try simp only [Act.put, List.setIfInBounds_toArray, List.set_cons_zero, List.set_cons_succ]
            refine wpAnyH_take (i := 9) (oi := { dst := some 42, op := Op.move (Operand.tmp 0), type := 25, pos := "simfs.go:125", after := #[{ on := 3, ground := Ground.guard }], guard := some (3, true) }) (v := ?_) rfl (by kernel_rfl) (by kernel_rfl) (by kernel_rfl) (fun _ _ _ h => h) (Or.inl ⟨by rfl, ?_⟩) hHeld ?_
            rotate_left
            · (intro w' hSw; (try dsimp only at hSw); go_split_ands; go_simp; first | done | with_reducible rfl)
            try simp only [Act.put, List.setIfInBounds_toArray, List.set_cons_zero, List.set_cons_succ]
            refine wpAnyH_take (i := 10) (oi := { dst := some 43, op := Op.nilCheck (Operand.tmp 42), type := 0, pos := "simfs.go:125", after := #[{ on := 9, ground := Ground.data }, { on := 3, ground := Ground.guard }], guard := some (3, true) }) (v := ?_) rfl (by kernel_rfl) (by kernel_rfl) (by kernel_rfl) (fun _ _ _ h => h) (Or.inl ⟨by rfl, ?_⟩) hHeld ?_
            rotate_left
            · (intro w' hSw; (try dsimp only at hSw); go_split_ands; go_simp; first | done | with_reducible rfl)
            try simp only [Act.put, List.setIfInBounds_toArray, List.set_cons_zero, List.set_cons_succ]
            refine wpAnyH_take (i := 11) (oi := { dst := some 44, op := Op.fieldAddr 47 (Operand.tmp 43) 0, type := 0, pos := "simfs.go:125", after := #[{ on := 10, ground := Ground.data }, { on := 3, ground := Ground.guard }], guard := some (3, true) }) (v := ?_) rfl (by kernel_rfl) (by kernel_rfl) (by kernel_rfl) (fun _ _ _ h => h) (Or.inl ⟨by rfl, ?_⟩) hHeld ?_
            rotate_left
            · (intro w' hSw; (try dsimp only at hSw); go_split_ands; go_simp; first | done | with_reducible rfl)
            try simp only [Act.put, List.setIfInBounds_toArray, List.set_cons_zero, List.set_cons_succ]
            refine wpAnyH_take (i := 12) (oi := { dst := some 45, op := Op.load 3 (Operand.tmp 44), type := 3, pos := "simfs.go:125", after := #[{ on := 11, ground := Ground.data }, { on := 3, ground := Ground.guard }], guard := some (3, true) }) (v := ?_) rfl (by kernel_rfl) (by kernel_rfl) (by kernel_rfl) (fun _ _ _ h => h) (Or.inl ⟨by rfl, ?_⟩) hHeld ?_
            rotate_left
            · (intro w' hSw; (try dsimp only at hSw); go_split_ands; go_simp; first | done | with_reducible rfl)
            try simp only [Act.put, List.setIfInBounds_toArray, List.set_cons_zero, List.set_cons_succ]
            refine wpAnyH_ready (rs := [5]) (by kernel_rfl) (by simp) ?_
            refine AllReadyH.cons (o := { dst := some 38, op := Op.call { callee := Callee.value (Operand.func 9), args := #[Operand.tmp 37], argTypes := #[25] }, type := 3, pos := "simfs.go:125", after := #[{ on := 4, ground := Ground.data }, { on := 3, ground := Ground.chain }, { on := 3, ground := Ground.guard }], guard := some (3, true) }) rfl (fun K hK => ?_) AllReadyH.nil
            go_simp
            refine hus.out.mono ?_
            rintro e w4 ⟨rfl, hb4⟩
            have r4 : w4.cell? ⟨f, 0, none⟩ = some (.int .i64 (R : Int)) := (hb4.cell (p := ⟨f, 0, none⟩) hfl).trans r0
            go_wp2_with fail
            refine hK.out _ _ ?_ ?_
            · (exact r4)
            clear hK K hHeld; intro hHeld
            try simp only [Act.put, List.setIfInBounds_toArray, List.set_cons_zero, List.set_cons_succ]
            refine wpAnyH_take (i := 8) (oi := { dst := some 41, op := Op.binOp BinOp.add 3 (Operand.tmp 38) (Operand.tmp 40) 3, type := 3, pos := "simfs.go:125", after := #[{ on := 5, ground := Ground.data }, { on := 7, ground := Ground.data }, { on := 3, ground := Ground.guard }], guard := some (3, true) }) (v := ?_) rfl (by kernel_rfl) (by kernel_rfl) (by kernel_rfl) (fun _ _ _ h => h) (Or.inl ⟨by rfl, ?_⟩) hHeld ?_
            rotate_left
            · (intro w' hSw; (try dsimp only at hSw); go_split_ands; go_simp; first | done | with_reducible rfl)
            try simp only [Act.put, List.setIfInBounds_toArray, List.set_cons_zero, List.set_cons_succ]
            refine wpAnyH_take (i := 13) (oi := { dst := some 46, op := Op.binOp BinOp.gtr 3 (Operand.tmp 41) (Operand.tmp 45) 3, type := 4, pos := "simfs.go:125", after := #[{ on := 8, ground := Ground.data }, { on := 12, ground := Ground.data }, { on := 3, ground := Ground.guard }], guard := some (3, true) }) (v := ?_) rfl (by kernel_rfl) (by kernel_rfl) (by kernel_rfl) (fun _ _ _ h => h) (Or.inl ⟨by rfl, ?_⟩) hHeld ?_
            rotate_left
            · (intro w' hSw; (try dsimp only at hSw); go_split_ands; go_simp; first | done | with_reducible rfl)
            try simp only [Act.put, List.setIfInBounds_toArray, List.set_cons_zero, List.set_cons_succ]
            refine wpAnyH_take (i := 14) (oi := { dst := some 47, op := Op.pick (Operand.tmp 36) (Operand.tmp 46) (Operand.const (Value.bool false)), type := 4, pos := "simfs.go:125", after := #[{ on := 3, ground := Ground.data }, { on := 13, ground := Ground.data }], guard := none }) (v := ?_) rfl (by kernel_rfl) (by kernel_rfl) (by kernel_rfl) (fun _ _ _ h => h) (Or.inl ⟨by rfl, ?_⟩) hHeld ?_
            rotate_left
            · (intro w' hSw; (try dsimp only at hSw); go_split_ands; go_simp; first | done | with_reducible rfl)
            try simp only [Act.put, List.setIfInBounds_toArray, List.set_cons_zero, List.set_cons_succ]
            refine wpAnyH_take (i := 15) (oi := { dst := some 32, op := Op.assign (Operand.tmp 47), type := 4, pos := "simfs.go:125", after := #[{ on := 14, ground := Ground.data }, { on := 5, ground := Ground.chain }], guard := none }) (v := ?_) rfl (by kernel_rfl) (by kernel_rfl) (by kernel_rfl) (fun _ _ _ h => h) (Or.inl ⟨by rfl, ?_⟩) hHeld ?_
            rotate_left
            · (intro w' hSw; (try dsimp only at hSw); go_split_ands; go_simp; first | done | with_reducible rfl)
            try simp only [Act.put, List.setIfInBounds_toArray, List.set_cons_zero, List.set_cons_succ]
            refine wpAnyH_done (by kernel_rfl) ?_ _
            refine NoPanic.normal ?_
            go_wp2
            go_ret
            exact ⟨rfl, (FsNew.of_below H2.out (below_undrew hb4)).after ht2 hcf⟩
          · have e : S1.append p b = (S1.setFile n { S1.file n with b := (S1.file n).b ++ b }, 0) := by unfold FsM.append; rw [hlk, hl]; simp only [hL, hb, hT, hU, hR, hQ]; rw [if_neg hlim, if_neg (by omega)]
            rw [e]
            have hroom' : (Q : Int) ≤ (R : Int) := by omega
            clear e hroom
            have HU := Lib.hid hU
            have HR := Lib.hid hR
            clear hs hl hlk h hO hS1 hL hb hT hlim hU hR hQ h0
            go_enter Tryd.func8, Tryd.ntmps8
            go_wp2_with fail
            refine hfd.out.mono ?_
            rintro e w1 ⟨rfl, rfl⟩
            go_wp2_with fail
            refine hsp.out.mono ?_
            rintro e w2 ⟨rfl, h2, ht2⟩
            have hfile := Lib.hid (h2.files n (reach_now hln.out))
            obtain ⟨A, m, c0, c1, fr, hm, -, -, hown, hblk, hrow⟩ := hfile.out.open_
            obtain ⟨bn, bk, A0, n0, r0, -⟩ := h2.open_
            rw [HL.out] at c0 hm hown hblk hrow
            rw [HR.out] at r0
            have H2 := Lib.hid h2
            have HOWN := Lib.hid hown
            have HBLK := Lib.hid hblk
            have HROW := Lib.hid hrow
            have hus := Lib.hid (used_any (h2.below (below_drew (Below.refl _ w2))) hO1.out (by omega))
            rw [HU.out] at hus
            have hfl : f < w2.heap.size := h2.lt f (by omega)
            clear h2 hown hblk hrow fr c1 hfd hsp
            go_wp2_with fail
            refine wp_region_noPanic ?_
            refine wp_region_held_drew (S := fun w' => w'.cell? ⟨f, 0, none⟩ = some (.int .i64 (R : Int))) (by kernel_rfl) ?_ (fun hHeld => ?_)
            · (exact r0)
            refine wpAnyH_take (i := 0) (oi := { dst := some 33, op := Op.move (Operand.tmp 2), type := 28, pos := "simfs.go:125", after := #[], guard := none }) (v := ?_) rfl (by kernel_rfl) (by kernel_rfl) (by kernel_rfl) (fun _ _ _ h => h) (Or.inl ⟨by rfl, ?_⟩) hHeld ?_
            rotate_left
            · (intro w' hSw; (try dsimp only at hSw); go_split_ands; go_simp; first | done | with_reducible rfl)
            try simp only [Act.put, List.setIfInBounds_toArray, List.set_cons_zero, List.set_cons_succ]
            refine wpAnyH_take (i := 1) (oi := { dst := some 34, op := Op.call { callee := Callee.builtin Builtin.len, args := #[Operand.tmp 33], argTypes := #[28] }, type := 3, pos := "simfs.go:125", after := #[{ on := 0, ground := Ground.data }], guard := none }) (v := ?_) rfl (by kernel_rfl) (by kernel_rfl) (by kernel_rfl) (fun _ _ _ h => h) (Or.inl ⟨by rfl, ?_⟩) hHeld ?_
            rotate_left
            · (intro w' hSw; (try dsimp only at hSw); go_split_ands; go_simp; first | done | with_reducible rfl)
            try simp only [Act.put, List.setIfInBounds_toArray, List.set_cons_zero, List.set_cons_succ]
            refine wpAnyH_take (i := 2) (oi := { dst := some 35, op := Op.binOp BinOp.gtr 3 (Operand.tmp 34) (Operand.const (Value.int IntKind.i64 0)) 3, type := 4, pos := "simfs.go:125", after := #[{ on := 1, ground := Ground.data }], guard := none }) (v := (.bool true)) rfl (by kernel_rfl) (by kernel_rfl) (by kernel_rfl) (fun _ _ _ h => h) (Or.inl ⟨by rfl, ?_⟩) hHeld ?_
            · (intro w' hSw; (try dsimp only at hSw); go_split_ands; go_simp; first | done | with_reducible rfl | omega)
            try simp only [Act.put, List.setIfInBounds_toArray, List.set_cons_zero, List.set_cons_succ]
            refine wpAnyH_take (i := 3) (oi := { dst := some 36, op := Op.move (Operand.tmp 35), type := 4, pos := "simfs.go:125", after := #[{ on := 2, ground := Ground.data }], guard := none }) (v := ?_) rfl (by kernel_rfl) (by kernel_rfl) (by kernel_rfl) (fun _ _ _ h => h) (Or.inl ⟨by rfl, ?_⟩) hHeld ?_
            rotate_left
            · (intro w' hSw; (try dsimp only at hSw); go_split_ands; go_simp; first | done | with_reducible rfl)
            try simp only [Act.put, List.setIfInBounds_toArray, List.set_cons_zero, List.set_cons_succ]
            refine wpAnyH_take (i := 4) (oi := { dst := some 37, op := Op.move (Operand.tmp 0), type := 25, pos := "simfs.go:125", after := #[{ on := 3, ground := Ground.guard }], guard := some (3, true) }) (v := ?_) rfl (by kernel_rfl) (by kernel_rfl) (by kernel_rfl) (fun _ _ _ h => h) (Or.inl ⟨by rfl, ?_⟩) hHeld ?_
            rotate_left
            · (intro w' hSw; (try dsimp only at hSw); go_split_ands; go_simp; first | done | with_reducible rfl)
            try simp only [Act.put, List.setIfInBounds_toArray, List.set_cons_zero, List.set_cons_succ]
            refine wpAnyH_take (i := 6) (oi := { dst := some 39, op := Op.move (Operand.tmp 2), type := 28, pos := "simfs.go:125", after := #[{ on := 3, ground := Ground.guard }], guard := some (3, true) }) (v := ?_) rfl (by kernel_rfl) (by kernel_rfl) (by kernel_rfl) (fun _ _ _ h => h) (Or.inl ⟨by rfl, ?_⟩) hHeld ?_
            rotate_left
            · (intro w' hSw; (try dsimp only at hSw); go_split_ands; go_simp; first | done | with_reducible rfl)
            try simp only [Act.put, List.setIfInBounds_toArray, List.set_cons_zero, List.set_cons_succ]
            refine wpAnyH_take (i := 7) (oi := { dst := some 40, op := Op.call { callee := Callee.builtin Builtin.len, args := #[Operand.tmp 39], argTypes := #[28] }, type := 3, pos := "simfs.go:125", after := #[{ on := 6, ground := Ground.data }, { on := 3, ground := Ground.guard }], guard := some (3, true) }) (v := ?_) rfl (by kernel_rfl) (by kernel_rfl) (by kernel_rfl) (fun _ _ _ h => h) (Or.inl ⟨by rfl, ?_⟩) hHeld ?_
            rotate_left
            · (intro w' hSw; (try dsimp only at hSw); go_split_ands; go_simp; first | done | with_reducible rfl)
            try simp only [Act.put, List.setIfInBounds_toArray, List.set_cons_zero, List.set_cons_succ]
            refine wpAnyH_take (i := 9) (oi := { dst := some 42, op := Op.move (Operand.tmp 0), type := 25, pos := "simfs.go:125", after := #[{ on := 3, ground := Ground.guard }], guard := some (3, true) }) (v := ?_) rfl (by kernel_rfl) (by kernel_rfl) (by kernel_rfl) (fun _ _ _ h => h) (Or.inl ⟨by rfl, ?_⟩) hHeld ?_
            rotate_left
            · (intro w' hSw; (try dsimp only at hSw); go_split_ands; go_simp; first | done | with_reducible rfl)
            try simp only [Act.put, List.setIfInBounds_toArray, List.set_cons_zero, List.set_cons_succ]
            refine wpAnyH_take (i := 10) (oi := { dst := some 43, op := Op.nilCheck (Operand.tmp 42), type := 0, pos := "simfs.go:125", after := #[{ on := 9, ground := Ground.data }, { on := 3, ground := Ground.guard }], guard := some (3, true) }) (v := ?_) rfl (by kernel_rfl) (by kernel_rfl) (by kernel_rfl) (fun _ _ _ h => h) (Or.inl ⟨by rfl, ?_⟩) hHeld ?_
            rotate_left
            · (intro w' hSw; (try dsimp only at hSw); go_split_ands; go_simp; first | done | with_reducible rfl)
            try simp only [Act.put, List.setIfInBounds_toArray, List.set_cons_zero, List.set_cons_succ]
            refine wpAnyH_take (i := 11) (oi := { dst := some 44, op := Op.fieldAddr 47 (Operand.tmp 43) 0, type := 0, pos := "simfs.go:125", after := #[{ on := 10, ground := Ground.data }, { on := 3, ground := Ground.guard }], guard := some (3, true) }) (v := ?_) rfl (by kernel_rfl) (by kernel_rfl) (by kernel_rfl) (fun _ _ _ h => h) (Or.inl ⟨by rfl, ?_⟩) hHeld ?_
            rotate_left
            · (intro w' hSw; (try dsimp only at hSw); go_split_ands; go_simp; first | done | with_reducible rfl)
            try simp only [Act.put, List.setIfInBounds_toArray, List.set_cons_zero, List.set_cons_succ]
            refine wpAnyH_take (i := 12) (oi := { dst := some 45, op := Op.load 3 (Operand.tmp 44), type := 3, pos := "simfs.go:125", after := #[{ on := 11, ground := Ground.data }, { on := 3, ground := Ground.guard }], guard := some (3, true) }) (v := ?_) rfl (by kernel_rfl) (by kernel_rfl) (by kernel_rfl) (fun _ _ _ h => h) (Or.inl ⟨by rfl, ?_⟩) hHeld ?_
            rotate_left
            · (intro w' hSw; (try dsimp only at hSw); go_split_ands; go_simp; first | done | with_reducible rfl)
            try simp only [Act.put, List.setIfInBounds_toArray, List.set_cons_zero, List.set_cons_succ]
            refine wpAnyH_ready (rs := [5]) (by kernel_rfl) (by simp) ?_
            refine AllReadyH.cons (o := { dst := some 38, op := Op.call { callee := Callee.value (Operand.func 9), args := #[Operand.tmp 37], argTypes := #[25] }, type := 3, pos := "simfs.go:125", after := #[{ on := 4, ground := Ground.data }, { on := 3, ground := Ground.chain }, { on := 3, ground := Ground.guard }], guard := some (3, true) }) rfl (fun K hK => ?_) AllReadyH.nil
            go_simp
            refine hus.out.mono ?_
            rintro e w4 ⟨rfl, hb4⟩
            have r4 : w4.cell? ⟨f, 0, none⟩ = some (.int .i64 (R : Int)) := (hb4.cell (p := ⟨f, 0, none⟩) hfl).trans r0
            go_wp2_with fail
            refine hK.out _ _ ?_ ?_
            · (exact r4)
            clear hK K hHeld; intro hHeld
            try simp only [Act.put, List.setIfInBounds_toArray, List.set_cons_zero, List.set_cons_succ]
            refine wpAnyH_take (i := 8) (oi := { dst := some 41, op := Op.binOp BinOp.add 3 (Operand.tmp 38) (Operand.tmp 40) 3, type := 3, pos := "simfs.go:125", after := #[{ on := 5, ground := Ground.data }, { on := 7, ground := Ground.data }, { on := 3, ground := Ground.guard }], guard := some (3, true) }) (v := ?_) rfl (by kernel_rfl) (by kernel_rfl) (by kernel_rfl) (fun _ _ _ h => h) (Or.inl ⟨by rfl, ?_⟩) hHeld ?_
            rotate_left
            · (intro w' hSw; (try dsimp only at hSw); go_split_ands; go_simp; first | done | with_reducible rfl)
            try simp only [Act.put, List.setIfInBounds_toArray, List.set_cons_zero, List.set_cons_succ]
            refine wpAnyH_take (i := 13) (oi := { dst := some 46, op := Op.binOp BinOp.gtr 3 (Operand.tmp 41) (Operand.tmp 45) 3, type := 4, pos := "simfs.go:125", after := #[{ on := 8, ground := Ground.data }, { on := 12, ground := Ground.data }, { on := 3, ground := Ground.guard }], guard := some (3, true) }) (v := ?_) rfl (by kernel_rfl) (by kernel_rfl) (by kernel_rfl) (fun _ _ _ h => h) (Or.inl ⟨by rfl, ?_⟩) hHeld ?_
            rotate_left
            · (intro w' hSw; (try dsimp only at hSw); go_split_ands; go_simp; first | done | with_reducible rfl)
            try simp only [Act.put, List.setIfInBounds_toArray, List.set_cons_zero, List.set_cons_succ]
            refine wpAnyH_take (i := 14) (oi := { dst := some 47, op := Op.pick (Operand.tmp 36) (Operand.tmp 46) (Operand.const (Value.bool false)), type := 4, pos := "simfs.go:125", after := #[{ on := 3, ground := Ground.data }, { on := 13, ground := Ground.data }], guard := none }) (v := ?_) rfl (by kernel_rfl) (by kernel_rfl) (by kernel_rfl) (fun _ _ _ h => h) (Or.inl ⟨by rfl, ?_⟩) hHeld ?_
            rotate_left
            · (intro w' hSw; (try dsimp only at hSw); go_split_ands; go_simp; first | done | with_reducible rfl)
            try simp only [Act.put, List.setIfInBounds_toArray, List.set_cons_zero, List.set_cons_succ]
            refine wpAnyH_take (i := 15) (oi := { dst := some 32, op := Op.assign (Operand.tmp 47), type := 4, pos := "simfs.go:125", after := #[{ on := 14, ground := Ground.data }, { on := 5, ground := Ground.chain }], guard := none }) (v := ?_) rfl (by kernel_rfl) (by kernel_rfl) (by kernel_rfl) (fun _ _ _ h => h) (Or.inl ⟨by rfl, ?_⟩) hHeld ?_
            rotate_left
            · (intro w' hSw; (try dsimp only at hSw); go_split_ands; go_simp; first | done | with_reducible rfl)
            try simp only [Act.put, List.setIfInBounds_toArray, List.set_cons_zero, List.set_cons_succ]
            refine wpAnyH_done (by kernel_rfl) ?_ _
            refine NoPanic.normal ?_
            have hb4' := Lib.hid (below_undrew hb4)
            have H4 := Lib.hid (H2.out.below hb4'.out)
            have HF4 := Lib.hid (hfile.out.keep (Kept.of_below hb4'.out fun k e => H2.out.lt k (by omega)))
            have HB4 := Lib.hid (HBLK.out.keep (hb4'.out.block _ HBLK.out.lt))
            have HSEE := Lib.hid (((see2 w2 ht2).below hb4'.out).more hb4'.out.size)
            have HO4 := Lib.hid (ownsRow_kept HOWN.out fun k e => hb4'.out.block k (World.ownsRow.lt HOWN.out k e).2)
            clear hb4 r0 r4 c0
            have c4 : w4.cell? ⟨F n, 0, none⟩ = some (.slice A L m) := HB4.out.cell 0 rfl
            go_wp2_with (at_builtin; (refine wpList_append_b rfl (.tmp 52) (.tmp 53) rfl 0 _ (S1.file n).b (by rfl) (show OwnB w4 0 _ _ from HO4.out) w4.heap.size Ab lb cb b (by rfl) HB.out HSEE.out (by have := HL.out; have := HB.out; omega) (Nat.zero_le _) ?_; intro v5 w5 hown5 hon5; obtain ⟨A5, c5, hv5, -, -⟩ := row_open hown5; rw [List.length_append, HL.out, HB.out] at hv5; subst hv5; have hF5 : (Value.slice A L m).ownBlock ≠ some (F n) := fun e => (by have := HROW.out _ e; have := hfile.out.col; omega); have b5 := (HB4.out).keep (hon5.grown.block _ (HB4.out).lt (fun e => hF5 e.symm)); have e5 : w5.cell? ⟨F n, 0, none⟩ = some (.slice A L m) := b5.cell 0 rfl; have f5 := b5.frozen 0; have HOWN5 := Lib.hid hown5; have HON5 := Lib.hid hon5; clear hown5 hon5))
            go_ret
            have hfin := append_done (H4.out) (hO1.out.num n (reach_now hln.out)) (m := m) (b := b) (HF4.out) (by rw [HL.out]; exact HB4.out) (by rw [HL.out]; exact HROW.out) HOWN5.out (by rw [HL.out]; exact HON5.out)
            exact ⟨rfl, (hfin.below hb4'.out H2.out.lt).after ht2 hcf⟩
end Go.Proofs.YteidkmiladkoiaaDoor
