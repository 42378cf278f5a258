/-
  Files behind a script, walked.
-/
import Derived.Test.YteidkmiladkoiaaGreatDoorRsDone
import Derived.Test.YteidkmiladkoiaaGreatDoorZRsB
import Derived.Test.YteidkmiladkoiaaGreatDoorZOpn
namespace Go.Proofs.YteidkmiladkoiaaGreatDoor
open Go.RowKit

/-- An act of a row that is seen. -/
theorem ActsF.at_ {w W : World} {A : Option Addr} {ls : List ActF} (h : ActsF (fun k => k < w.heap.size) w A ls) (hb : Below w.heap.size w W) {k : Nat} (hk : k < ls.length) :
    ∃ ad Ai ci, A = some ad ∧ (ad.add (k * 6)).block < w.heap.size ∧ (W.cell? (ad.add (k * 6)) = some (.int .i64 ls[k].kind) ∧ W.cell? ⟨(ad.add (k * 6)).block, (ad.add (k * 6)).off + 1, none⟩ = some (.string (strOf ls[k].path)) ∧
    W.cell? ⟨(ad.add (k * 6)).block, (ad.add (k * 6)).off + 2, none⟩ = some (.string (strOf ls[k].into)) ∧ W.cell? ⟨(ad.add (k * 6)).block, (ad.add (k * 6)).off + 3, none⟩ = some (.slice Ai ls[k].b.length ci) ∧
    W.cell? ⟨(ad.add (k * 6)).block, (ad.add (k * 6)).off + 4, none⟩ = some (.int .i64 ls[k].n) ∧ W.cell? ⟨(ad.add (k * 6)).block, (ad.add (k * 6)).off + 5, none⟩ = some (.int .i64 ls[k].by_)) ∧ ls[k].b.length ≤ ci ∧ Sees w w.heap.size Ai (bv ls[k].b) := by
  obtain ⟨ad, Ai, ci, e, hm, g0, g1, g2, g3, g4, g5, hle, hS⟩ := h.out k hk
  have hbl : (ad.add (k * 6)).block < w.heap.size := by rw [add_block]; exact hm
  exact ⟨ad, Ai, ci, e, hbl, ⟨(hb.cell (p := ad.add (k * 6)) hbl).trans g0, (hb.cell (p := ⟨_, _, none⟩) hbl).trans g1, (hb.cell (p := ⟨_, _, none⟩) hbl).trans g2, (hb.cell (p := ⟨_, _, none⟩) hbl).trans g3, (hb.cell (p := ⟨_, _, none⟩) hbl).trans g4, (hb.cell (p := ⟨_, _, none⟩) hbl).trans g5⟩, hle, hS.sees fun k e => e⟩
/-- On the way: the program's files, the document's in a box. -/
structure BSt (w0 : World) (R f k : Nat) (S : FsM) (m : Nat → Prop) (cs : Array Value) (W : World) : Prop where
  own : OwnE w0 W f S m
  ref : RefAt (uq m (fun j => j = R)) W (.agg cs) S false 0
  bR : Blk W R cs 30
  nR : ¬ m R
  low : w0.heap.size ≤ R
  beh : Beh k S
section
variable {w0 w W W' : World} {R f k : Nat} {S T : FsM} {m : Nat → Prop} {cs : Array Value}
theorem BSt.newB (h : BSt w0 R f k S m cs W) (hb : Below W.heap.size W W') : BSt w0 R f k S m cs W' :=
  ⟨h.own.newB hb, h.ref.newB hb, h.bR.keep (hb.block _ h.bR.lt), h.nR, h.low, h.beh⟩
theorem BSt.next (h : BSt w0 R f k S m cs W) : BSt w0 R f (k + 1) S m cs W := ⟨h.own, h.ref, h.bR, h.nR, h.low, h.beh.mono (by omega)⟩
theorem BSt.q0 (h : BSt w0 R f k S m cs W) : ∀ j, (fun j => j = R) j → j < W.heap.size := fun j e => by rw [show j = R from e]; exact h.bR.lt
theorem BSt.hold (h : BSt w0 R f k S m cs W) {A : Option Addr} {xs : List Value} (hs : Sees w0 w0.heap.size A xs) : Hold (uq m (fun j => j = R)) W A xs :=
  Hold.of_old (hs.below h.own.below) h.own.below.size fun j e => by
    rcases e with e | e
    · exact h.own.lt j e
    · rw [show j = R from e]; exact ⟨h.low, h.bR.lt⟩
/-- An act over both: stored. -/
theorem BSt.done {x : ActF} {m' : Nat → Prop} {fu' : Bool} {lf' : Int} {a0 a1 a2 a3 a4 a5 a6 u0 u1 u2 u3 u4 u5 u6 : Value} (h : BSt w0 R f k S m #[a0, a1, a2, a3, a4, a5, a6] W) (ho : OwnE w0 W' f (S.doneM x) m') (hst : Stp m W m' W')
    (hr : RefAt (uq m' (fun j => j = R)) W' (.agg #[u0, u1, u2, u3, u4, u5, u6]) (S.refM false 0 x) fu' lf') (hx : fewF x = true) (hf : ¬ fuseF x) (e1 : fu' = fuM false x) (e2 : lf' = lfM false 0 x) :
    Blk W' R #[a0, a1, a2, a3, a4, a5, a6] 30 ∧ ∃ WF, (((((((W'.setCell ⟨R, 0, none⟩ u0).setCell ⟨R, 1, none⟩ u1).setCell ⟨R, 2, none⟩ u2).setCell ⟨R, 3, none⟩ u3).setCell ⟨R, 4, none⟩ u4).setCell ⟨R, 5, none⟩ u5).setCell ⟨R, 6, none⟩ u6) = WF ∧
      BSt w0 R f (k + 1) (S.doneM x) m' #[u0, u1, u2, u3, u4, u5, u6] WF := by
  have hfu : fu' = false := by rw [e1]; unfold fuM; rw [if_neg hf]; split <;> rfl
  have hlf : lf' = 0 := by rw [e2]; unfold lfM; rw [if_neg hf, if_neg (fun e => by cases e.2.1)]
  subst hfu hlf
  have hFu : FuseIs k S false 0 := ⟨by omega, .inl ⟨rfl, h.beh.fuse⟩⟩
  have bR' := h.bR.keep (hst.turn.block _ h.bR.lt h.nR)
  obtain ⟨j, hj⟩ : ∃ j, S.doneM x = (S.refM false 0 x).fz j := by
    unfold FsM.doneM FsM.refM
    rw [if_neg hf, if_neg hf]
    split
    · rw [if_neg (fun e => by cases e.1), go_eq h.beh.fuse]
      exact ⟨(actF x S).1.fuse, rfl⟩
    · exact ⟨0, rfl⟩
  have hr' := hr.fz j
  rw [← hj] at hr'
  obtain ⟨WF, eF, bF, -, stF⟩ := bR'.store7 0 (Nat.zero_le _) u0 u1 u2 u3 u4 u5 u6
  have s1 := stF (uq m' (fun j => j = R)) (.inr rfl)
  have t1 := (stF (fun k => k = R) rfl).turn
  have nR' : ¬ m' R := fun e => by
    rcases hst.new R e with e | e
    · exact h.nR e
    · have := h.bR.lt; omega
  exact ⟨bR', WF, eF, ho.other t1 (fun k e => by rw [e]; exact ⟨nR', h.low⟩), hr'.step s1, bF, nR', h.low, h.beh.step hx hf⟩
end

set_option maxRecDepth 100000 in
set_option maxHeartbeats 3200000 in
theorem behind_any (A : Option Addr) (n c : Nat) (ls : List ActF) (hn : ls.length = n) (w : World) (hS : ActsF (fun k => k < w.heap.size) w A ls) :
    Calls Tryz.prog 21 #[.int .i64 100000, .slice A n c] w fun e w' => ∃ f S m, e = .returned (.pointer (some ⟨f, 0, none⟩)) ∧ Beh 50 S ∧ OwnE w w' f S m := by
  have HN := Lib.hid hn
  have HS := Lib.hid hS
  have h0 := Lib.hid (new_own 100000 w)
  clear hn hS
  go_enter Tryz.func21, Tryz.ntmps21
  go_wp2_with fail
  refine h0.out.mono ?_
  rintro e w1 ⟨f, m1, rfl, o1⟩
  have o1' : OwnE w w1 f (FsM.new 100000) m1 := o1
  have k1 : Calls Tryz.prog 10 #[.int .i64 100000] w1 (RefIs m1 w1 (FsM.new 100000) false 0) := new_r m1 100000 w1 (fun k e => (o1'.lt k e).2)
  have K1 := Lib.hid k1
  have O1 := Lib.hid o1'
  clear h0 o1 o1' k1
  go_wp2_with fail
  refine K1.out.mono ?_
  rintro e w2 ⟨v2, rfl, hr2, hb2⟩
  obtain ⟨r, Af, nf, cf, An, nn, cn, Ak, nk, ck, Aq, nq, cq, h7⟩ := hr2.seven
  obtain rfl := h7.v_
  have b23 : Below w2.heap.size w2 (w2.alloc (.cells #[.int .i64 r, .slice Af nf cf, .slice An nn cn, .slice Ak nk ck, .slice Aq nq cq, .bool false, .int .i64 0] 30)) := (Below.refl _ _).alloc (Nat.le_refl _) _
  have bst : BSt w w2.heap.size f 0 (FsM.new 100000) m1 #[.int .i64 r, .slice Af nf cf, .slice An nn cn, .slice Ak nk ck, .slice Aq nq cq, .bool false, .int .i64 0] (w2.alloc (.cells #[.int .i64 r, .slice Af nf cf, .slice An nn cn, .slice Ak nk ck, .slice Aq nq cq, .bool false, .int .i64 0] 30)) := by
    have hlt : ∀ k, m1 k → k < w2.heap.size := fun k e => by have := (O1.out.lt k e).2; have := hb2.size; omega
    refine ⟨(O1.out.newB hb2).newB b23, (hr2.more fun k e => ?_).newB b23, Blk.new w2 _ _, fun e => ?_, by have := O1.out.below.size; have := hb2.size; omega, Beh.new⟩
    · rcases e with e | e
      · exact .inl e
      · exact .inr (by rw [show k = _ from e]; exact Nat.le_refl _)
    · have := hlt _ e; omega
  have B0 := Lib.hid bst
  clear K1 O1 hr2 h7 hb2 b23 bst
  go_wp2
  go_loopg [7] n (fun g i wr => ∃ (k : Nat) (S : FsM) (m : Nat → Prop) (cs : Array Value), k + g = n ∧ k ≤ 50 ∧ i = .int .i64 (k : Int) ∧ Hid (BSt w w2.heap.size f k S m cs wr))
  case atStart => exact ⟨0, _, _, _, by omega, by omega, rfl, B0.out⟩
  case round =>
    obtain ⟨k, S, m, cs, hk, hk50, rfl, bst⟩ := hrel
    by_cases hlt : k < n
    · by_cases hlt5 : (k : Int) < 50
      · have hkl : k < ls.length := by have := HN.out; omega
        have hbw := bst.out.own.below
        obtain ⟨ad, Ai, ci, rfl, hbl, ⟨g0, g1, g2, g3, g4, g5⟩, hle, hsee⟩ := HS.out.at_ hbw hkl
        obtain ⟨x, hx⟩ : ∃ x, ls[k] = x := ⟨_, rfl⟩
        rw [hx] at g0 g1 g2 g3 g4 g5 hle hsee
        obtain ⟨lb, hlb⟩ : ∃ n, x.b.length = n := ⟨_, rfl⟩
        rw [hlb] at g3 hle
        have hfew := fewF_any x Ai lb ci hlb wr
        unfold ActF.val at hfew
        have hsee' := Lib.hid hsee
        have HLB := Lib.hid hlb
        have HBW := Lib.hid hbw
        clear hx hsee hlb hbw
        obtain ⟨z, hz⟩ : ∃ z, x.kind % 32 = z := ⟨_, rfl⟩
        have hand : bits .and .i64 x.kind 31 = z := (and31 x.kind).trans hz
        have HZ := Lib.hid hz
        clear hz
        cases hfw : fewF x with
        | false =>
          rw [hfw] at hfew
          have HF := Lib.hid hfew
          clear hfew hfw
          go_wp2_with fail
          refine HF.out.mono ?_
          rintro e w4 ⟨rfl, hb4⟩
          have bst4 := Lib.hid (bst.out.newB hb4).next
          clear HF hb4 g0 g1 g2 g3 g4 g5
          go_wp2
          go_roundg (n - (k + 1))
          case measure => omega
          case rel => exact ⟨k + 1, _, _, _, by omega, by omega, by go_num, bst4.out⟩
        | true =>
          rw [hfw] at hfew
          have HF := Lib.hid hfew
          have HFW := Lib.hid hfw
          clear hfew hfw
          by_cases hz31 : z = 31
          · go_wp2_with fail
            refine HF.out.mono ?_
            rintro e w4 ⟨rfl, hb4⟩
            have bst4 := Lib.hid (bst.out.newB hb4).next
            have q0 : w4.cell? (ad.add (k * 6)) = some (.int .i64 x.kind) := (hb4.cell (Nat.lt_of_lt_of_le hbl HBW.out.size)).trans g0
            clear HF hb4 g0 g1 g2 g3 g4 g5
            go_wp2
            go_roundg (n - (k + 1))
            case measure => omega
            case rel => exact ⟨k + 1, _, _, _, by omega, by omega, by go_num, bst4.out⟩
          · go_wp2_with fail
            refine HF.out.mono ?_
            rintro e w4 ⟨rfl, hb4⟩
            have hbk : (ad.add (k * 6)).block < wr.heap.size := Nat.lt_of_lt_of_le hbl HBW.out.size
            have q0 : w4.cell? (ad.add (k * 6)) = some (.int .i64 x.kind) := (hb4.cell hbk).trans g0
            have q1 : w4.cell? ⟨(ad.add (k * 6)).block, (ad.add (k * 6)).off + 1, none⟩ = some (.string (strOf x.path)) := (hb4.cell (p := ⟨_, _, none⟩) hbk).trans g1
            have q2 : w4.cell? ⟨(ad.add (k * 6)).block, (ad.add (k * 6)).off + 2, none⟩ = some (.string (strOf x.into)) := (hb4.cell (p := ⟨_, _, none⟩) hbk).trans g2
            have q3 : w4.cell? ⟨(ad.add (k * 6)).block, (ad.add (k * 6)).off + 3, none⟩ = some (.slice Ai lb ci) := (hb4.cell (p := ⟨_, _, none⟩) hbk).trans g3
            have q4 : w4.cell? ⟨(ad.add (k * 6)).block, (ad.add (k * 6)).off + 4, none⟩ = some (.int .i64 x.n) := (hb4.cell (p := ⟨_, _, none⟩) hbk).trans g4
            have q5 : w4.cell? ⟨(ad.add (k * 6)).block, (ad.add (k * 6)).off + 5, none⟩ = some (.int .i64 x.by_) := (hb4.cell (p := ⟨_, _, none⟩) hbk).trans g5
            have bst4 := bst.out.newB hb4
            obtain ⟨r, Af, nf, cf, An, nn, cn, Ak, nk, ck, Aq, nq, cq, h7⟩ := bst4.ref.seven
            obtain rfl : cs = #[.int .i64 r, .slice Af nf cf, .slice An nn cn, .slice Ak nk ck, .slice Aq nq cq, .bool false, .int .i64 0] := by have := h7.v_; injection this
            have p0 := bst4.bR.cell 0 rfl
            have p1 := bst4.bR.cell 1 rfl
            have p2 := bst4.bR.cell 2 rfl
            have p3 := bst4.bR.cell 3 rfl
            have p4 := bst4.bR.cell 4 rfl
            have p5 := bst4.bR.cell 5 rfl
            have p6 := bst4.bR.cell 6 rfl
            have hfb := few_b HFW.out
            have hnf : Hid (¬ fuseF x) := fun e => hz31 (HZ.out.symm.trans e)
            have B4 := Lib.hid bst4
            have hcl := fun q => done_any (w := w4.drewN q) (B4.out.newB (below_d (Below.refl _ _) q)).q0 (B4.out.newB (below_d (Below.refl _ _) q)).own B4.out.beh.ok B4.out.beh.ok (by omega) false 0 (by omega) (by omega) _ (B4.out.newB (below_d (Below.refl _ _) q)).ref x Ai lb ci HLB.out hle (by have := HLB.out; omega) ((B4.out.newB (below_d (Below.refl _ _) q)).hold hsee'.out) (by omega) (by omega)
            unfold ActF.val at hcl
            have HC := Lib.hid hcl
            clear hcl HF hb4 g0 g1 g2 g3 g4 g5 h7 bst4 hfb bst
            go_wp2_with fail
            refine wp_region_noPanic ?_
            refine wp_region_any (by kernel_rfl) ?_
            change wpAny _ _ _ _ _ _ _ (World.drew _)
            refine wpAny_take (i := 0) (oi := { dst := some 39, op := Op.move (Operand.tmp 5), type := 24, pos := "law.go:139", after := #[], guard := none }) (v := ?_) rfl (by kernel_rfl) (by kernel_rfl) (by kernel_rfl) (fun _ _ _ h => h) (Or.inl ⟨by rfl, ?_⟩) ?_
            rotate_left
            · (intro w'; go_simp; first | done | with_reducible rfl)
            try simp only [Act.put, List.setIfInBounds_toArray, List.set_cons_zero, List.set_cons_succ]
            refine wpAny_take (i := 2) (oi := { dst := some 41, op := Op.move (Operand.tmp 1), type := 22, pos := "law.go:139", after := #[], guard := none }) (v := ?_) rfl (by kernel_rfl) (by kernel_rfl) (by kernel_rfl) (fun _ _ _ h => h) (Or.inl ⟨by rfl, ?_⟩) ?_
            rotate_left
            · (intro w'; go_simp; first | done | with_reducible rfl)
            try simp only [Act.put, List.setIfInBounds_toArray, List.set_cons_zero, List.set_cons_succ]
            refine wpAny_take (i := 3) (oi := { dst := some 42, op := Op.move (Operand.tmp 7), type := 3, pos := "law.go:139", after := #[], guard := none }) (v := ?_) rfl (by kernel_rfl) (by kernel_rfl) (by kernel_rfl) (fun _ _ _ h => h) (Or.inl ⟨by rfl, ?_⟩) ?_
            rotate_left
            · (intro w'; go_simp; first | done | with_reducible rfl)
            try simp only [Act.put, List.setIfInBounds_toArray, List.set_cons_zero, List.set_cons_succ]
            refine wpAny_take (i := 4) (oi := { dst := some 43, op := Op.indexAddr 22 (Operand.tmp 41) (Operand.tmp 42), type := 0, pos := "law.go:139", after := #[{ on := 2, ground := Ground.data }, { on := 3, ground := Ground.data }], guard := none }) (v := ?_) rfl (by kernel_rfl) (by kernel_rfl) (by kernel_rfl) (fun _ _ _ h => h) (Or.inl ⟨by rfl, ?_⟩) ?_
            rotate_left
            · (intro w'; go_simp; first | done | with_reducible rfl)
            try simp only [Act.put, List.setIfInBounds_toArray, List.set_cons_zero, List.set_cons_succ]
            refine wpAny_ready (rs := [1, 5]) (by kernel_rfl) (by simp) ?_
            refine AllReady.cons (o := { dst := some 40, op := Op.load 30 (Operand.tmp 6), type := 30, pos := "law.go:139", after := #[], guard := none }) rfl (fun K hK0 => ?_) ?_
            · have hK := Lib.hid hK0
              clear hK0
              go_simp
              refine hK.out _ _ ?_
              clear hK K
              try simp only [Act.put, List.setIfInBounds_toArray, List.set_cons_zero, List.set_cons_succ]
              refine wpAny_ready (rs := [5]) (by kernel_rfl) (by simp) ?_
              refine AllReady.cons (o := { dst := some 44, op := Op.load 34 (Operand.tmp 43), type := 34, pos := "law.go:139", after := #[{ on := 4, ground := Ground.data }], guard := none }) rfl (fun K hK0 => ?_) AllReady.nil
              have hK := Lib.hid hK0
              clear hK0
              go_simp
              refine hK.out _ _ ?_
              clear hK K
              try simp only [Act.put, List.setIfInBounds_toArray, List.set_cons_zero, List.set_cons_succ]
              refine wpAny_ready (rs := [6]) (by kernel_rfl) (by simp) ?_
              refine AllReady.cons (o := { dst := some 45, op := Op.call { callee := Callee.value (Operand.func 12), args := #[Operand.tmp 39, Operand.tmp 40, Operand.tmp 44], argTypes := #[24, 30, 34] }, type := 36, pos := "law.go:139", after := #[{ on := 0, ground := Ground.data }, { on := 1, ground := Ground.data }, { on := 5, ground := Ground.data }], guard := none }) rfl (fun K hK0 => ?_) AllReady.nil
              have hK := Lib.hid hK0
              clear hK0
              go_simp
              refine (HC.out 1).mono ?_
              rintro e w5 ⟨v5, m5, rfl, o5, st5, r5⟩
              obtain ⟨r', Af', nf', cf', An', nn', cn', Ak', nk', ck', Aq', nq', cq', h7⟩ := r5.seven
              obtain rfl := h7.v_
              obtain ⟨bR5, WF, eF, bF⟩ := (B4.out.newB (below_d (Below.refl _ _) 1)).done o5 st5 r5 HFW.out hnf.out rfl rfl
              have BF := Lib.hid bF
              have t0 := bR5.cell 0 rfl
              have t1 := bR5.cell 1 rfl
              have t2 := bR5.cell 2 rfl
              have t3 := bR5.cell 3 rfl
              have t4 := bR5.cell 4 rfl
              have t5 := bR5.cell 5 rfl
              have t6 := bR5.cell 6 rfl
              have s0 := bR5.frozen 0
              have s1 := bR5.frozen 1
              have s2 := bR5.frozen 2
              have s3 := bR5.frozen 3
              have s4 := bR5.frozen 4
              have s5 := bR5.frozen 5
              have s6 := bR5.frozen 6
              clear h7 o5 st5 r5 bR5 bF
              go_wp2_with fail
              refine hK.out _ _ ?_
              clear hK K
              try simp only [Act.put, List.setIfInBounds_toArray, List.set_cons_zero, List.set_cons_succ]
              refine wpAny_take (i := 7) (oi := { dst := some 38, op := Op.move (Operand.tmp 45), type := 36, pos := "law.go:139", after := #[{ on := 6, ground := Ground.data }], guard := none }) (v := ?_) rfl (by kernel_rfl) (by kernel_rfl) (by kernel_rfl) (fun _ _ _ h => h) (Or.inl ⟨by rfl, ?_⟩) ?_
              rotate_left
              · (intro w'; go_simp; first | done | with_reducible rfl)
              try simp only [Act.put, List.setIfInBounds_toArray, List.set_cons_zero, List.set_cons_succ]
              refine wpAny_take (i := 8) (oi := { dst := some 46, op := Op.extract (Operand.tmp 38) 0, type := 30, pos := "law.go:139", after := #[{ on := 7, ground := Ground.data }], guard := none }) (v := ?_) rfl (by kernel_rfl) (by kernel_rfl) (by kernel_rfl) (fun _ _ _ h => h) (Or.inl ⟨by rfl, ?_⟩) ?_
              rotate_left
              · (intro w'; go_simp; first | done | with_reducible rfl)
              try simp only [Act.put, List.setIfInBounds_toArray, List.set_cons_zero, List.set_cons_succ]
              refine wpAny_take (i := 9) (oi := { dst := some 47, op := Op.extract (Operand.tmp 38) 1, type := 4, pos := "law.go:139", after := #[{ on := 7, ground := Ground.data }, { on := 10, ground := Ground.gcOnly Departure.lateStores }], guard := none }) (v := ?_) rfl (by kernel_rfl) (by kernel_rfl) (by kernel_rfl) (fun _ _ _ h => h) (Or.inl ⟨by rfl, ?_⟩) ?_
              rotate_left
              · (intro w'; go_simp; first | done | with_reducible rfl)
              try simp only [Act.put, List.setIfInBounds_toArray, List.set_cons_zero, List.set_cons_succ]
              refine wpAny_ready (rs := [10]) (by kernel_rfl) (by simp) ?_
              refine AllReady.cons (o := { dst := none, op := Op.store 30 (Operand.tmp 6) (Operand.tmp 46), type := 0, pos := "law.go:139", after := #[{ on := 8, ground := Ground.data }, { on := 6, ground := Ground.chain }, { on := 0, ground := Ground.phase }, { on := 1, ground := Ground.phase }, { on := 2, ground := Ground.phase }, { on := 3, ground := Ground.phase }, { on := 4, ground := Ground.phase }, { on := 5, ground := Ground.phase }, { on := 6, ground := Ground.phase }, { on := 7, ground := Ground.phase }, { on := 8, ground := Ground.phase }, { on := 9, ground := Ground.textOnly Departure.lateStores }], guard := none }) rfl (fun K hK0 => ?_) AllReady.nil
              have hK := Lib.hid hK0
              clear hK0
              go_simp
              refine hK.out _ _ ?_
              clear hK K
              try simp only [Act.put, List.setIfInBounds_toArray, List.set_cons_zero, List.set_cons_succ]
              refine wpAny_done (by kernel_rfl) ?_ _
              refine NoPanic.normal ?_
              go_wp2
              go_roundg (n - (k + 1))
              case measure => omega
              case rel => exact ⟨k + 1, _, _, _, by omega, by omega, by go_num, BF.out⟩
            refine AllReady.cons (o := { dst := some 44, op := Op.load 34 (Operand.tmp 43), type := 34, pos := "law.go:139", after := #[{ on := 4, ground := Ground.data }], guard := none }) rfl (fun K hK0 => ?_) AllReady.nil
            have hK := Lib.hid hK0
            clear hK0
            go_simp
            refine hK.out _ _ ?_
            clear hK K
            try simp only [Act.put, List.setIfInBounds_toArray, List.set_cons_zero, List.set_cons_succ]
            refine wpAny_ready (rs := [1]) (by kernel_rfl) (by simp) ?_
            refine AllReady.cons (o := { dst := some 40, op := Op.load 30 (Operand.tmp 6), type := 30, pos := "law.go:139", after := #[], guard := none }) rfl (fun K hK0 => ?_) AllReady.nil
            have hK := Lib.hid hK0
            clear hK0
            go_simp
            refine hK.out _ _ ?_
            clear hK K
            try simp only [Act.put, List.setIfInBounds_toArray, List.set_cons_zero, List.set_cons_succ]
            refine wpAny_ready (rs := [6]) (by kernel_rfl) (by simp) ?_
            refine AllReady.cons (o := { dst := some 45, op := Op.call { callee := Callee.value (Operand.func 12), args := #[Operand.tmp 39, Operand.tmp 40, Operand.tmp 44], argTypes := #[24, 30, 34] }, type := 36, pos := "law.go:139", after := #[{ on := 0, ground := Ground.data }, { on := 1, ground := Ground.data }, { on := 5, ground := Ground.data }], guard := none }) rfl (fun K hK0 => ?_) AllReady.nil
            have hK := Lib.hid hK0
            clear hK0
            go_simp
            refine (HC.out 1).mono ?_
            rintro e w5 ⟨v5, m5, rfl, o5, st5, r5⟩
            obtain ⟨r', Af', nf', cf', An', nn', cn', Ak', nk', ck', Aq', nq', cq', h7⟩ := r5.seven
            obtain rfl := h7.v_
            obtain ⟨bR5, WF, eF, bF⟩ := (B4.out.newB (below_d (Below.refl _ _) 1)).done o5 st5 r5 HFW.out hnf.out rfl rfl
            have BF := Lib.hid bF
            have t0 := bR5.cell 0 rfl
            have t1 := bR5.cell 1 rfl
            have t2 := bR5.cell 2 rfl
            have t3 := bR5.cell 3 rfl
            have t4 := bR5.cell 4 rfl
            have t5 := bR5.cell 5 rfl
            have t6 := bR5.cell 6 rfl
            have s0 := bR5.frozen 0
            have s1 := bR5.frozen 1
            have s2 := bR5.frozen 2
            have s3 := bR5.frozen 3
            have s4 := bR5.frozen 4
            have s5 := bR5.frozen 5
            have s6 := bR5.frozen 6
            clear h7 o5 st5 r5 bR5 bF
            go_wp2_with fail
            refine hK.out _ _ ?_
            clear hK K
            try simp only [Act.put, List.setIfInBounds_toArray, List.set_cons_zero, List.set_cons_succ]
            refine wpAny_take (i := 7) (oi := { dst := some 38, op := Op.move (Operand.tmp 45), type := 36, pos := "law.go:139", after := #[{ on := 6, ground := Ground.data }], guard := none }) (v := ?_) rfl (by kernel_rfl) (by kernel_rfl) (by kernel_rfl) (fun _ _ _ h => h) (Or.inl ⟨by rfl, ?_⟩) ?_
            rotate_left
            · (intro w'; go_simp; first | done | with_reducible rfl)
            try simp only [Act.put, List.setIfInBounds_toArray, List.set_cons_zero, List.set_cons_succ]
            refine wpAny_take (i := 8) (oi := { dst := some 46, op := Op.extract (Operand.tmp 38) 0, type := 30, pos := "law.go:139", after := #[{ on := 7, ground := Ground.data }], guard := none }) (v := ?_) rfl (by kernel_rfl) (by kernel_rfl) (by kernel_rfl) (fun _ _ _ h => h) (Or.inl ⟨by rfl, ?_⟩) ?_
            rotate_left
            · (intro w'; go_simp; first | done | with_reducible rfl)
            try simp only [Act.put, List.setIfInBounds_toArray, List.set_cons_zero, List.set_cons_succ]
            refine wpAny_take (i := 9) (oi := { dst := some 47, op := Op.extract (Operand.tmp 38) 1, type := 4, pos := "law.go:139", after := #[{ on := 7, ground := Ground.data }, { on := 10, ground := Ground.gcOnly Departure.lateStores }], guard := none }) (v := ?_) rfl (by kernel_rfl) (by kernel_rfl) (by kernel_rfl) (fun _ _ _ h => h) (Or.inl ⟨by rfl, ?_⟩) ?_
            rotate_left
            · (intro w'; go_simp; first | done | with_reducible rfl)
            try simp only [Act.put, List.setIfInBounds_toArray, List.set_cons_zero, List.set_cons_succ]
            refine wpAny_ready (rs := [10]) (by kernel_rfl) (by simp) ?_
            refine AllReady.cons (o := { dst := none, op := Op.store 30 (Operand.tmp 6) (Operand.tmp 46), type := 0, pos := "law.go:139", after := #[{ on := 8, ground := Ground.data }, { on := 6, ground := Ground.chain }, { on := 0, ground := Ground.phase }, { on := 1, ground := Ground.phase }, { on := 2, ground := Ground.phase }, { on := 3, ground := Ground.phase }, { on := 4, ground := Ground.phase }, { on := 5, ground := Ground.phase }, { on := 6, ground := Ground.phase }, { on := 7, ground := Ground.phase }, { on := 8, ground := Ground.phase }, { on := 9, ground := Ground.textOnly Departure.lateStores }], guard := none }) rfl (fun K hK0 => ?_) AllReady.nil
            have hK := Lib.hid hK0
            clear hK0
            go_simp
            refine hK.out _ _ ?_
            clear hK K
            try simp only [Act.put, List.setIfInBounds_toArray, List.set_cons_zero, List.set_cons_succ]
            refine wpAny_done (by kernel_rfl) ?_ _
            refine NoPanic.normal ?_
            go_wp2
            go_roundg (n - (k + 1))
            case measure => omega
            case rel => exact ⟨k + 1, _, _, _, by omega, by omega, by go_num, BF.out⟩
      · go_wp2
        go_ret
        first | exact ⟨f, rfl, S, bst.out.beh.mono hk50, m, bst.out.own⟩ | exact ⟨f, S, m, rfl, bst.out.beh.mono hk50, bst.out.own⟩
    · go_wp2
      go_ret
      first | exact ⟨f, rfl, S, bst.out.beh.mono hk50, m, bst.out.own⟩ | exact ⟨f, S, m, rfl, bst.out.beh.mono hk50, bst.out.own⟩
end Go.Proofs.YteidkmiladkoiaaGreatDoor
