/-
  An act over both, walked: kinds 0 to 3.
-/
import Derived.Test.YteidkmiladkoiaaGreatDoorZRsB
namespace Go.Proofs.YteidkmiladkoiaaGreatDoor
open Go.RowKit

set_option maxRecDepth 100000 in
set_option maxHeartbeats 1600000 in
theorem done_0 {w0 w : World} {f N : Nat} {S T : FsM} {q m : Nat → Prop} (hq : ∀ k, q k → k < w.heap.size) (h0 : OwnE w0 w f S m) (hO : FsOk N S) (hP : FsOk N T) (hN : N ≤ 8000) (fu : Bool) (lf : Int) (hl0 : 0 ≤ lf) (hl1 : lf ≤ 9223372036854775807) (v : Value) (hr : RefAt (uq m q) w v T fu lf) (x : ActF) (A : Option Addr) (lb c : Nat) (_ : x.b.length = lb) (_ : lb ≤ c) (_ : lb ≤ 200) (hs : Hold (uq m q) w A (bv x.b)) (hp : x.path.length ≤ 60) (_ : x.into.length ≤ 60) (hk : x.kind % 16 = 0) (hsp0 : (spentR fu lf).2 = false) :
    Calls Tryz.prog 12 #[.pointer (some ⟨f, 0, none⟩), v, x.val A lb c] w (DoneIs w0 w f q m (S.go (actF x)).1 (actF x T).1 fu (spentR fu lf).1 (decide (((S.go (actF x)).2 : Int) = ((actF x T).2 : Int)))) := by
  have ea : actF x = (·.create x.path) := by funext S; unfold actF; simp [hk]
  obtain ⟨lf1, hlf1⟩ : ∃ z, (spentR fu lf).1 = z := ⟨_, rfl⟩
  have hspe : spentR fu lf = (lf1, false) := by rw [← hlf1, ← hsp0]
  rw [ea, hlf1]
  have L1 : Hid (T.now.length ≤ 90000) := Nat.le_trans hP.nowN (by omega)
  have L2 : Hid (T.chg.length ≤ 90000) := by have := hP.many; unfold Hid; omega
  have L3 : Hid (T.files.length ≤ 90000) := Nat.le_trans hP.filesN (by omega)
  have L4 : Hid (∀ p n, T.look p = some n → n < T.files.length) := fun p n e => (hP.lookP e).2
  have L5 : Hid (∀ n, (T.file n).b.length ≤ 1048576) := fun n => (hP.fileOk n).2
  have L6 : Hid (T.used ≤ 1099511627776) := Nat.le_trans (used_le hP) (by omega)
  obtain ⟨r, Af, nf, cf, An, nn, cn, Ak, nk, ck, Aq, nq, cq, hC7⟩ := hr.seven
  obtain rfl := hC7.v_
  unfold ActF.val
  obtain ⟨W1, W2, W3, e1, e2, e3, hD⟩ := dstart (lb := lb) (c := c) (x := x) hq h0 hr hs
  have D3 := Lib.hid hD
  have cb0 := hD.bB.cell 0 rfl
  have cb1 := hD.bB.cell 1 rfl
  have cb2 := hD.bB.cell 2 rfl
  have cb3 := hD.bB.cell 3 rfl
  have cb4 := hD.bB.cell 4 rfl
  have cb5 := hD.bB.cell 5 rfl
  have cb6 := hD.bB.cell 6 rfl
  have cx0 := hD.bX.cell 0 rfl
  have cx1 := hD.bX.cell 1 rfl
  have cx2 := hD.bX.cell 2 rfl
  have cx3 := hD.bX.cell 3 rfl
  have cx4 := hD.bX.cell 4 rfl
  have cx5 := hD.bX.cell 5 rfl
  have hand : bits .and .i64 x.kind 15 = 0 := (and15 x.kind).trans hk
  obtain ⟨z, hz⟩ : ∃ z, x.kind % 32 = z := ⟨_, rfl⟩
  have hand2 : bits .and .i64 x.kind 31 = z := (and31 x.kind).trans hz
  have hz31 : z ≠ 31 := by omega
  clear hC7 hD h0 hr hs hq
  clear hlf1 hsp0 hz hk ea
  have hsp := Lib.hid (spent_r _ T fu lf _ W3 D3.out.ref D3.out.lt hl0 hl1)
  go_enter Tryz.func12, Tryz.ntmps12
  go_wp2_with fail
  refine hsp.out.mono ?_
  rintro e w4 ⟨v4, rfl, hr4, hb4⟩
  rw [hspe] at hr4 ⊢
  obtain ⟨r', Af', nf', cf', An', nn', cn', Ak', nk', ck', Aq', nq', cq', h7⟩ := hr4.seven
  obtain rfl := h7.v_
  have D4 := D3.out.newB hb4
  obtain ⟨W5, e5⟩ : ∃ W5, w4.alloc (.cells #[.int .i64 r', .slice Af' nf' cf', .slice An' nn' cn', .slice Ak' nk' ck', .slice Aq' nq' cq', .bool fu, .int .i64 lf1] 30) = W5 := ⟨_, rfl⟩
  have b45 : Below w4.heap.size w4 W5 := e5 ▸ (Below.refl _ _).alloc (Nat.le_refl _) _
  have D5 := D4.newB b45
  have bE : Blk W5 w4.heap.size #[.int .i64 r', .slice Af' nf' cf', .slice An' nn' cn', .slice Ak' nk' ck', .slice Aq' nq' cq', .bool fu, .int .i64 lf1] 30 := e5 ▸ Blk.new w4 _ _
  have ca0 := bE.cell 0 rfl
  have ca1 := bE.cell 1 rfl
  have ca2 := bE.cell 2 rfl
  have ca3 := bE.cell 3 rfl
  have ca4 := bE.cell 4 rfl
  have ca5 := bE.cell 5 rfl
  have ca6 := bE.cell 6 rfl
  have fb0 := D5.bB.frozen 0
  have fb1 := D5.bB.frozen 1
  have fb2 := D5.bB.frozen 2
  have fb3 := D5.bB.frozen 3
  have fb4 := D5.bB.frozen 4
  have fb5 := D5.bB.frozen 5
  have fb6 := D5.bB.frozen 6
  obtain ⟨W6, e6, D6⟩ := D5.store (hr4.newB b45)
  have cd0 := D5.bB.cell 0 rfl
  have cd1 := D5.bB.cell 1 rfl
  have cd2 := D5.bB.cell 2 rfl
  have cd3 := D5.bB.cell 3 rfl
  have cd4 := D5.bB.cell 4 rfl
  have cd5 := D5.bB.cell 5 rfl
  have cd6 := D5.bB.cell 6 rfl
  have DD := Lib.hid D6
  clear hsp h7 hr4 hb4 D4 D5 D6 b45 bE D3 cb0 cb1 cb2 cb3 cb4 cb5 cb6
  have hcl := Lib.hid (create_own DD.out.own hO (by omega) x.path (by omega))
  have cx0 := DD.out.bX.cell 0 rfl
  have cx1 := DD.out.bX.cell 1 rfl
  have cx2 := DD.out.bX.cell 2 rfl
  have cx3 := DD.out.bX.cell 3 rfl
  have cx4 := DD.out.bX.cell 4 rfl
  have cx5 := DD.out.bX.cell 5 rfl
  go_wp2_with fail
  refine hcl.out.mono ?_
  rintro e w7 ⟨rfl, hst⟩
  obtain ⟨m7, D7⟩ := DD.out.prog hst
  have DE := Lib.hid D7
  obtain ⟨E1, hE1⟩ : ∃ E : Int, ((S.go (·.create x.path)).2 : Int) = E := ⟨_, rfl⟩
  rw [hE1]
  have hcr := Lib.hid (create_r _ T fu lf1 _ w7 DE.out.ref DE.out.lt L1.out L2.out L3.out x.path (by omega))
  have cx0 := DE.out.bX.cell 0 rfl
  have cx1 := DE.out.bX.cell 1 rfl
  have cx2 := DE.out.bX.cell 2 rfl
  have cx3 := DE.out.bX.cell 3 rfl
  have cx4 := DE.out.bX.cell 4 rfl
  have cx5 := DE.out.bX.cell 5 rfl
  have cc0 := DE.out.bB.cell 0 rfl
  have cc1 := DE.out.bB.cell 1 rfl
  have cc2 := DE.out.bB.cell 2 rfl
  have cc3 := DE.out.bB.cell 3 rfl
  have cc4 := DE.out.bB.cell 4 rfl
  have cc5 := DE.out.bB.cell 5 rfl
  have cc6 := DE.out.bB.cell 6 rfl
  have HE1 := Lib.hid hE1
  clear hcl hst D7 DD hE1
  go_wp2_with fail
  refine hcr.out.mono ?_
  rintro e w8 ⟨v8, rfl, hr8, hb8⟩
  obtain ⟨r2, Af2, nf2, cf2, An2, nn2, cn2, Ak2, nk2, ck2, Aq2, nq2, cq2, h7⟩ := hr8.seven
  obtain rfl := h7.v_
  have D8 := DE.out.newB hb8
  obtain ⟨W9, e9, D9⟩ := D8.store hr8
  have DG := Lib.hid D9
  have cd0 := D8.bB.cell 0 rfl
  have cd1 := D8.bB.cell 1 rfl
  have cd2 := D8.bB.cell 2 rfl
  have cd3 := D8.bB.cell 3 rfl
  have cd4 := D8.bB.cell 4 rfl
  have cd5 := D8.bB.cell 5 rfl
  have cd6 := D8.bB.cell 6 rfl
  have fh0 := D8.bB.frozen 0
  have fh1 := D8.bB.frozen 1
  have fh2 := D8.bB.frozen 2
  have fh3 := D8.bB.frozen 3
  have fh4 := D8.bB.frozen 4
  have fh5 := D8.bB.frozen 5
  have fh6 := D8.bB.frozen 6
  obtain ⟨E2, hE2⟩ : ∃ E : Int, ((T.create x.path).2 : Int) = E := ⟨_, rfl⟩
  rw [hE2]
  have HE2 := Lib.hid hE2
  clear hr8 h7 hcr cc0 cc1 cc2 cc3 cc4 cc5 cc6 DE D8 D9 hb8 hE2
  obtain ⟨WF, eF, bGF, oF, sF, rF⟩ := DG.out.fin (DG.out.ref)
  have OF := Lib.hid oF
  have SF := Lib.hid sF
  have RF := Lib.hid rF
  have ct0 := DG.out.bB.cell 0 rfl
  have ct1 := DG.out.bB.cell 1 rfl
  have ct2 := DG.out.bB.cell 2 rfl
  have ct3 := DG.out.bB.cell 3 rfl
  have ct4 := DG.out.bB.cell 4 rfl
  have ct5 := DG.out.bB.cell 5 rfl
  have ct6 := DG.out.bB.cell 6 rfl
  have cg0 := DG.out.bG.cell 0 rfl
  have cg1 := DG.out.bG.cell 1 rfl
  have cg2 := DG.out.bG.cell 2 rfl
  have cg3 := DG.out.bG.cell 3 rfl
  have cg4 := DG.out.bG.cell 4 rfl
  have cg5 := DG.out.bG.cell 5 rfl
  have cg6 := DG.out.bG.cell 6 rfl
  have fg0 := DG.out.bG.frozen 0
  have fg1 := DG.out.bG.frozen 1
  have fg2 := DG.out.bG.frozen 2
  have fg3 := DG.out.bG.frozen 3
  have fg4 := DG.out.bG.frozen 4
  have fg5 := DG.out.bG.frozen 5
  have fg6 := DG.out.bG.frozen 6
  have ce0 := bGF.cell 0 rfl
  have ce1 := bGF.cell 1 rfl
  have ce2 := bGF.cell 2 rfl
  have ce3 := bGF.cell 3 rfl
  have ce4 := bGF.cell 4 rfl
  have ce5 := bGF.cell 5 rfl
  have ce6 := bGF.cell 6 rfl
  clear bGF oF sF rF
  go_wp2
  refine bodyPost_ret (v := .tuple #[.agg #[.int .i64 r2, .slice Af2 nf2 cf2, .slice An2 nn2 cn2, .slice Ak2 nk2 ck2, .slice Aq2 nq2 cq2, .bool fu, .int .i64 lf1], .bool (E1 == E2)]) (by simp [results, Tryz.results12, go_sem, ce0, ce1, ce2, ce3, ce4, ce5, ce6]) rfl ?_
  refine ⟨_, _, ?_, OF.out, SF.out, RF.out⟩
  rw [HE1.out, HE2.out]
  rfl

set_option maxRecDepth 100000 in
set_option maxHeartbeats 1600000 in
theorem done_1 {w0 w : World} {f N : Nat} {S T : FsM} {q m : Nat → Prop} (hq : ∀ k, q k → k < w.heap.size) (h0 : OwnE w0 w f S m) (hO : FsOk N S) (hP : FsOk N T) (hN : N ≤ 8000) (fu : Bool) (lf : Int) (hl0 : 0 ≤ lf) (hl1 : lf ≤ 9223372036854775807) (v : Value) (hr : RefAt (uq m q) w v T fu lf) (x : ActF) (A : Option Addr) (lb c : Nat) (_ : x.b.length = lb) (_ : lb ≤ c) (_ : lb ≤ 200) (hs : Hold (uq m q) w A (bv x.b)) (hp : x.path.length ≤ 60) (_ : x.into.length ≤ 60) (hk : x.kind % 16 = 1) (hsp0 : (spentR fu lf).2 = false) :
    Calls Tryz.prog 12 #[.pointer (some ⟨f, 0, none⟩), v, x.val A lb c] w (DoneIs w0 w f q m (S.go (actF x)).1 (actF x T).1 fu (spentR fu lf).1 (decide (((S.go (actF x)).2 : Int) = ((actF x T).2 : Int)))) := by
  have ea : actF x = (·.create x.path) := by funext S; unfold actF; simp [hk]
  obtain ⟨lf1, hlf1⟩ : ∃ z, (spentR fu lf).1 = z := ⟨_, rfl⟩
  have hspe : spentR fu lf = (lf1, false) := by rw [← hlf1, ← hsp0]
  rw [ea, hlf1]
  have L1 : Hid (T.now.length ≤ 90000) := Nat.le_trans hP.nowN (by omega)
  have L2 : Hid (T.chg.length ≤ 90000) := by have := hP.many; unfold Hid; omega
  have L3 : Hid (T.files.length ≤ 90000) := Nat.le_trans hP.filesN (by omega)
  have L4 : Hid (∀ p n, T.look p = some n → n < T.files.length) := fun p n e => (hP.lookP e).2
  have L5 : Hid (∀ n, (T.file n).b.length ≤ 1048576) := fun n => (hP.fileOk n).2
  have L6 : Hid (T.used ≤ 1099511627776) := Nat.le_trans (used_le hP) (by omega)
  obtain ⟨r, Af, nf, cf, An, nn, cn, Ak, nk, ck, Aq, nq, cq, hC7⟩ := hr.seven
  obtain rfl := hC7.v_
  unfold ActF.val
  obtain ⟨W1, W2, W3, e1, e2, e3, hD⟩ := dstart (lb := lb) (c := c) (x := x) hq h0 hr hs
  have D3 := Lib.hid hD
  have cb0 := hD.bB.cell 0 rfl
  have cb1 := hD.bB.cell 1 rfl
  have cb2 := hD.bB.cell 2 rfl
  have cb3 := hD.bB.cell 3 rfl
  have cb4 := hD.bB.cell 4 rfl
  have cb5 := hD.bB.cell 5 rfl
  have cb6 := hD.bB.cell 6 rfl
  have cx0 := hD.bX.cell 0 rfl
  have cx1 := hD.bX.cell 1 rfl
  have cx2 := hD.bX.cell 2 rfl
  have cx3 := hD.bX.cell 3 rfl
  have cx4 := hD.bX.cell 4 rfl
  have cx5 := hD.bX.cell 5 rfl
  have hand : bits .and .i64 x.kind 15 = 1 := (and15 x.kind).trans hk
  obtain ⟨z, hz⟩ : ∃ z, x.kind % 32 = z := ⟨_, rfl⟩
  have hand2 : bits .and .i64 x.kind 31 = z := (and31 x.kind).trans hz
  have hz31 : z ≠ 31 := by omega
  clear hC7 hD h0 hr hs hq
  clear hlf1 hsp0 hz hk ea
  have hsp := Lib.hid (spent_r _ T fu lf _ W3 D3.out.ref D3.out.lt hl0 hl1)
  go_enter Tryz.func12, Tryz.ntmps12
  go_wp2_with fail
  refine hsp.out.mono ?_
  rintro e w4 ⟨v4, rfl, hr4, hb4⟩
  rw [hspe] at hr4 ⊢
  obtain ⟨r', Af', nf', cf', An', nn', cn', Ak', nk', ck', Aq', nq', cq', h7⟩ := hr4.seven
  obtain rfl := h7.v_
  have D4 := D3.out.newB hb4
  obtain ⟨W5, e5⟩ : ∃ W5, w4.alloc (.cells #[.int .i64 r', .slice Af' nf' cf', .slice An' nn' cn', .slice Ak' nk' ck', .slice Aq' nq' cq', .bool fu, .int .i64 lf1] 30) = W5 := ⟨_, rfl⟩
  have b45 : Below w4.heap.size w4 W5 := e5 ▸ (Below.refl _ _).alloc (Nat.le_refl _) _
  have D5 := D4.newB b45
  have bE : Blk W5 w4.heap.size #[.int .i64 r', .slice Af' nf' cf', .slice An' nn' cn', .slice Ak' nk' ck', .slice Aq' nq' cq', .bool fu, .int .i64 lf1] 30 := e5 ▸ Blk.new w4 _ _
  have ca0 := bE.cell 0 rfl
  have ca1 := bE.cell 1 rfl
  have ca2 := bE.cell 2 rfl
  have ca3 := bE.cell 3 rfl
  have ca4 := bE.cell 4 rfl
  have ca5 := bE.cell 5 rfl
  have ca6 := bE.cell 6 rfl
  have fb0 := D5.bB.frozen 0
  have fb1 := D5.bB.frozen 1
  have fb2 := D5.bB.frozen 2
  have fb3 := D5.bB.frozen 3
  have fb4 := D5.bB.frozen 4
  have fb5 := D5.bB.frozen 5
  have fb6 := D5.bB.frozen 6
  obtain ⟨W6, e6, D6⟩ := D5.store (hr4.newB b45)
  have cd0 := D5.bB.cell 0 rfl
  have cd1 := D5.bB.cell 1 rfl
  have cd2 := D5.bB.cell 2 rfl
  have cd3 := D5.bB.cell 3 rfl
  have cd4 := D5.bB.cell 4 rfl
  have cd5 := D5.bB.cell 5 rfl
  have cd6 := D5.bB.cell 6 rfl
  have DD := Lib.hid D6
  clear hsp h7 hr4 hb4 D4 D5 D6 b45 bE D3 cb0 cb1 cb2 cb3 cb4 cb5 cb6
  have hcl := Lib.hid (create_own DD.out.own hO (by omega) x.path (by omega))
  have cx0 := DD.out.bX.cell 0 rfl
  have cx1 := DD.out.bX.cell 1 rfl
  have cx2 := DD.out.bX.cell 2 rfl
  have cx3 := DD.out.bX.cell 3 rfl
  have cx4 := DD.out.bX.cell 4 rfl
  have cx5 := DD.out.bX.cell 5 rfl
  go_wp2_with fail
  refine hcl.out.mono ?_
  rintro e w7 ⟨rfl, hst⟩
  obtain ⟨m7, D7⟩ := DD.out.prog hst
  have DE := Lib.hid D7
  obtain ⟨E1, hE1⟩ : ∃ E : Int, ((S.go (·.create x.path)).2 : Int) = E := ⟨_, rfl⟩
  rw [hE1]
  have hcr := Lib.hid (create_r _ T fu lf1 _ w7 DE.out.ref DE.out.lt L1.out L2.out L3.out x.path (by omega))
  have cx0 := DE.out.bX.cell 0 rfl
  have cx1 := DE.out.bX.cell 1 rfl
  have cx2 := DE.out.bX.cell 2 rfl
  have cx3 := DE.out.bX.cell 3 rfl
  have cx4 := DE.out.bX.cell 4 rfl
  have cx5 := DE.out.bX.cell 5 rfl
  have cc0 := DE.out.bB.cell 0 rfl
  have cc1 := DE.out.bB.cell 1 rfl
  have cc2 := DE.out.bB.cell 2 rfl
  have cc3 := DE.out.bB.cell 3 rfl
  have cc4 := DE.out.bB.cell 4 rfl
  have cc5 := DE.out.bB.cell 5 rfl
  have cc6 := DE.out.bB.cell 6 rfl
  have HE1 := Lib.hid hE1
  clear hcl hst D7 DD hE1
  go_wp2_with fail
  refine hcr.out.mono ?_
  rintro e w8 ⟨v8, rfl, hr8, hb8⟩
  obtain ⟨r2, Af2, nf2, cf2, An2, nn2, cn2, Ak2, nk2, ck2, Aq2, nq2, cq2, h7⟩ := hr8.seven
  obtain rfl := h7.v_
  have D8 := DE.out.newB hb8
  obtain ⟨W9, e9, D9⟩ := D8.store hr8
  have DG := Lib.hid D9
  have cd0 := D8.bB.cell 0 rfl
  have cd1 := D8.bB.cell 1 rfl
  have cd2 := D8.bB.cell 2 rfl
  have cd3 := D8.bB.cell 3 rfl
  have cd4 := D8.bB.cell 4 rfl
  have cd5 := D8.bB.cell 5 rfl
  have cd6 := D8.bB.cell 6 rfl
  have fh0 := D8.bB.frozen 0
  have fh1 := D8.bB.frozen 1
  have fh2 := D8.bB.frozen 2
  have fh3 := D8.bB.frozen 3
  have fh4 := D8.bB.frozen 4
  have fh5 := D8.bB.frozen 5
  have fh6 := D8.bB.frozen 6
  obtain ⟨E2, hE2⟩ : ∃ E : Int, ((T.create x.path).2 : Int) = E := ⟨_, rfl⟩
  rw [hE2]
  have HE2 := Lib.hid hE2
  clear hr8 h7 hcr cc0 cc1 cc2 cc3 cc4 cc5 cc6 DE D8 D9 hb8 hE2
  obtain ⟨WF, eF, bGF, oF, sF, rF⟩ := DG.out.fin (DG.out.ref)
  have OF := Lib.hid oF
  have SF := Lib.hid sF
  have RF := Lib.hid rF
  have ct0 := DG.out.bB.cell 0 rfl
  have ct1 := DG.out.bB.cell 1 rfl
  have ct2 := DG.out.bB.cell 2 rfl
  have ct3 := DG.out.bB.cell 3 rfl
  have ct4 := DG.out.bB.cell 4 rfl
  have ct5 := DG.out.bB.cell 5 rfl
  have ct6 := DG.out.bB.cell 6 rfl
  have cg0 := DG.out.bG.cell 0 rfl
  have cg1 := DG.out.bG.cell 1 rfl
  have cg2 := DG.out.bG.cell 2 rfl
  have cg3 := DG.out.bG.cell 3 rfl
  have cg4 := DG.out.bG.cell 4 rfl
  have cg5 := DG.out.bG.cell 5 rfl
  have cg6 := DG.out.bG.cell 6 rfl
  have fg0 := DG.out.bG.frozen 0
  have fg1 := DG.out.bG.frozen 1
  have fg2 := DG.out.bG.frozen 2
  have fg3 := DG.out.bG.frozen 3
  have fg4 := DG.out.bG.frozen 4
  have fg5 := DG.out.bG.frozen 5
  have fg6 := DG.out.bG.frozen 6
  have ce0 := bGF.cell 0 rfl
  have ce1 := bGF.cell 1 rfl
  have ce2 := bGF.cell 2 rfl
  have ce3 := bGF.cell 3 rfl
  have ce4 := bGF.cell 4 rfl
  have ce5 := bGF.cell 5 rfl
  have ce6 := bGF.cell 6 rfl
  clear bGF oF sF rF
  go_wp2
  refine bodyPost_ret (v := .tuple #[.agg #[.int .i64 r2, .slice Af2 nf2 cf2, .slice An2 nn2 cn2, .slice Ak2 nk2 ck2, .slice Aq2 nq2 cq2, .bool fu, .int .i64 lf1], .bool (E1 == E2)]) (by simp [results, Tryz.results12, go_sem, ce0, ce1, ce2, ce3, ce4, ce5, ce6]) rfl ?_
  refine ⟨_, _, ?_, OF.out, SF.out, RF.out⟩
  rw [HE1.out, HE2.out]
  rfl

set_option maxRecDepth 100000 in
set_option maxHeartbeats 1600000 in
theorem done_2 {w0 w : World} {f N : Nat} {S T : FsM} {q m : Nat → Prop} (hq : ∀ k, q k → k < w.heap.size) (h0 : OwnE w0 w f S m) (hO : FsOk N S) (hP : FsOk N T) (hN : N ≤ 8000) (fu : Bool) (lf : Int) (hl0 : 0 ≤ lf) (hl1 : lf ≤ 9223372036854775807) (v : Value) (hr : RefAt (uq m q) w v T fu lf) (x : ActF) (A : Option Addr) (lb c : Nat) (_ : x.b.length = lb) (_ : lb ≤ c) (_ : lb ≤ 200) (hs : Hold (uq m q) w A (bv x.b)) (hp : x.path.length ≤ 60) (_ : x.into.length ≤ 60) (hk : x.kind % 16 = 2) (hsp0 : (spentR fu lf).2 = false) :
    Calls Tryz.prog 12 #[.pointer (some ⟨f, 0, none⟩), v, x.val A lb c] w (DoneIs w0 w f q m (S.go (actF x)).1 (actF x T).1 fu (spentR fu lf).1 (decide (((S.go (actF x)).2 : Int) = ((actF x T).2 : Int)))) := by
  have ea : actF x = (·.create x.path) := by funext S; unfold actF; simp [hk]
  obtain ⟨lf1, hlf1⟩ : ∃ z, (spentR fu lf).1 = z := ⟨_, rfl⟩
  have hspe : spentR fu lf = (lf1, false) := by rw [← hlf1, ← hsp0]
  rw [ea, hlf1]
  have L1 : Hid (T.now.length ≤ 90000) := Nat.le_trans hP.nowN (by omega)
  have L2 : Hid (T.chg.length ≤ 90000) := by have := hP.many; unfold Hid; omega
  have L3 : Hid (T.files.length ≤ 90000) := Nat.le_trans hP.filesN (by omega)
  have L4 : Hid (∀ p n, T.look p = some n → n < T.files.length) := fun p n e => (hP.lookP e).2
  have L5 : Hid (∀ n, (T.file n).b.length ≤ 1048576) := fun n => (hP.fileOk n).2
  have L6 : Hid (T.used ≤ 1099511627776) := Nat.le_trans (used_le hP) (by omega)
  obtain ⟨r, Af, nf, cf, An, nn, cn, Ak, nk, ck, Aq, nq, cq, hC7⟩ := hr.seven
  obtain rfl := hC7.v_
  unfold ActF.val
  obtain ⟨W1, W2, W3, e1, e2, e3, hD⟩ := dstart (lb := lb) (c := c) (x := x) hq h0 hr hs
  have D3 := Lib.hid hD
  have cb0 := hD.bB.cell 0 rfl
  have cb1 := hD.bB.cell 1 rfl
  have cb2 := hD.bB.cell 2 rfl
  have cb3 := hD.bB.cell 3 rfl
  have cb4 := hD.bB.cell 4 rfl
  have cb5 := hD.bB.cell 5 rfl
  have cb6 := hD.bB.cell 6 rfl
  have cx0 := hD.bX.cell 0 rfl
  have cx1 := hD.bX.cell 1 rfl
  have cx2 := hD.bX.cell 2 rfl
  have cx3 := hD.bX.cell 3 rfl
  have cx4 := hD.bX.cell 4 rfl
  have cx5 := hD.bX.cell 5 rfl
  have hand : bits .and .i64 x.kind 15 = 2 := (and15 x.kind).trans hk
  obtain ⟨z, hz⟩ : ∃ z, x.kind % 32 = z := ⟨_, rfl⟩
  have hand2 : bits .and .i64 x.kind 31 = z := (and31 x.kind).trans hz
  have hz31 : z ≠ 31 := by omega
  clear hC7 hD h0 hr hs hq
  clear hlf1 hsp0 hz hk ea
  have hsp := Lib.hid (spent_r _ T fu lf _ W3 D3.out.ref D3.out.lt hl0 hl1)
  go_enter Tryz.func12, Tryz.ntmps12
  go_wp2_with fail
  refine hsp.out.mono ?_
  rintro e w4 ⟨v4, rfl, hr4, hb4⟩
  rw [hspe] at hr4 ⊢
  obtain ⟨r', Af', nf', cf', An', nn', cn', Ak', nk', ck', Aq', nq', cq', h7⟩ := hr4.seven
  obtain rfl := h7.v_
  have D4 := D3.out.newB hb4
  obtain ⟨W5, e5⟩ : ∃ W5, w4.alloc (.cells #[.int .i64 r', .slice Af' nf' cf', .slice An' nn' cn', .slice Ak' nk' ck', .slice Aq' nq' cq', .bool fu, .int .i64 lf1] 30) = W5 := ⟨_, rfl⟩
  have b45 : Below w4.heap.size w4 W5 := e5 ▸ (Below.refl _ _).alloc (Nat.le_refl _) _
  have D5 := D4.newB b45
  have bE : Blk W5 w4.heap.size #[.int .i64 r', .slice Af' nf' cf', .slice An' nn' cn', .slice Ak' nk' ck', .slice Aq' nq' cq', .bool fu, .int .i64 lf1] 30 := e5 ▸ Blk.new w4 _ _
  have ca0 := bE.cell 0 rfl
  have ca1 := bE.cell 1 rfl
  have ca2 := bE.cell 2 rfl
  have ca3 := bE.cell 3 rfl
  have ca4 := bE.cell 4 rfl
  have ca5 := bE.cell 5 rfl
  have ca6 := bE.cell 6 rfl
  have fb0 := D5.bB.frozen 0
  have fb1 := D5.bB.frozen 1
  have fb2 := D5.bB.frozen 2
  have fb3 := D5.bB.frozen 3
  have fb4 := D5.bB.frozen 4
  have fb5 := D5.bB.frozen 5
  have fb6 := D5.bB.frozen 6
  obtain ⟨W6, e6, D6⟩ := D5.store (hr4.newB b45)
  have cd0 := D5.bB.cell 0 rfl
  have cd1 := D5.bB.cell 1 rfl
  have cd2 := D5.bB.cell 2 rfl
  have cd3 := D5.bB.cell 3 rfl
  have cd4 := D5.bB.cell 4 rfl
  have cd5 := D5.bB.cell 5 rfl
  have cd6 := D5.bB.cell 6 rfl
  have DD := Lib.hid D6
  clear hsp h7 hr4 hb4 D4 D5 D6 b45 bE D3 cb0 cb1 cb2 cb3 cb4 cb5 cb6
  have hcl := Lib.hid (create_own DD.out.own hO (by omega) x.path (by omega))
  have cx0 := DD.out.bX.cell 0 rfl
  have cx1 := DD.out.bX.cell 1 rfl
  have cx2 := DD.out.bX.cell 2 rfl
  have cx3 := DD.out.bX.cell 3 rfl
  have cx4 := DD.out.bX.cell 4 rfl
  have cx5 := DD.out.bX.cell 5 rfl
  go_wp2_with fail
  refine hcl.out.mono ?_
  rintro e w7 ⟨rfl, hst⟩
  obtain ⟨m7, D7⟩ := DD.out.prog hst
  have DE := Lib.hid D7
  obtain ⟨E1, hE1⟩ : ∃ E : Int, ((S.go (·.create x.path)).2 : Int) = E := ⟨_, rfl⟩
  rw [hE1]
  have hcr := Lib.hid (create_r _ T fu lf1 _ w7 DE.out.ref DE.out.lt L1.out L2.out L3.out x.path (by omega))
  have cx0 := DE.out.bX.cell 0 rfl
  have cx1 := DE.out.bX.cell 1 rfl
  have cx2 := DE.out.bX.cell 2 rfl
  have cx3 := DE.out.bX.cell 3 rfl
  have cx4 := DE.out.bX.cell 4 rfl
  have cx5 := DE.out.bX.cell 5 rfl
  have cc0 := DE.out.bB.cell 0 rfl
  have cc1 := DE.out.bB.cell 1 rfl
  have cc2 := DE.out.bB.cell 2 rfl
  have cc3 := DE.out.bB.cell 3 rfl
  have cc4 := DE.out.bB.cell 4 rfl
  have cc5 := DE.out.bB.cell 5 rfl
  have cc6 := DE.out.bB.cell 6 rfl
  have HE1 := Lib.hid hE1
  clear hcl hst D7 DD hE1
  go_wp2_with fail
  refine hcr.out.mono ?_
  rintro e w8 ⟨v8, rfl, hr8, hb8⟩
  obtain ⟨r2, Af2, nf2, cf2, An2, nn2, cn2, Ak2, nk2, ck2, Aq2, nq2, cq2, h7⟩ := hr8.seven
  obtain rfl := h7.v_
  have D8 := DE.out.newB hb8
  obtain ⟨W9, e9, D9⟩ := D8.store hr8
  have DG := Lib.hid D9
  have cd0 := D8.bB.cell 0 rfl
  have cd1 := D8.bB.cell 1 rfl
  have cd2 := D8.bB.cell 2 rfl
  have cd3 := D8.bB.cell 3 rfl
  have cd4 := D8.bB.cell 4 rfl
  have cd5 := D8.bB.cell 5 rfl
  have cd6 := D8.bB.cell 6 rfl
  have fh0 := D8.bB.frozen 0
  have fh1 := D8.bB.frozen 1
  have fh2 := D8.bB.frozen 2
  have fh3 := D8.bB.frozen 3
  have fh4 := D8.bB.frozen 4
  have fh5 := D8.bB.frozen 5
  have fh6 := D8.bB.frozen 6
  obtain ⟨E2, hE2⟩ : ∃ E : Int, ((T.create x.path).2 : Int) = E := ⟨_, rfl⟩
  rw [hE2]
  have HE2 := Lib.hid hE2
  clear hr8 h7 hcr cc0 cc1 cc2 cc3 cc4 cc5 cc6 DE D8 D9 hb8 hE2
  obtain ⟨WF, eF, bGF, oF, sF, rF⟩ := DG.out.fin (DG.out.ref)
  have OF := Lib.hid oF
  have SF := Lib.hid sF
  have RF := Lib.hid rF
  have ct0 := DG.out.bB.cell 0 rfl
  have ct1 := DG.out.bB.cell 1 rfl
  have ct2 := DG.out.bB.cell 2 rfl
  have ct3 := DG.out.bB.cell 3 rfl
  have ct4 := DG.out.bB.cell 4 rfl
  have ct5 := DG.out.bB.cell 5 rfl
  have ct6 := DG.out.bB.cell 6 rfl
  have cg0 := DG.out.bG.cell 0 rfl
  have cg1 := DG.out.bG.cell 1 rfl
  have cg2 := DG.out.bG.cell 2 rfl
  have cg3 := DG.out.bG.cell 3 rfl
  have cg4 := DG.out.bG.cell 4 rfl
  have cg5 := DG.out.bG.cell 5 rfl
  have cg6 := DG.out.bG.cell 6 rfl
  have fg0 := DG.out.bG.frozen 0
  have fg1 := DG.out.bG.frozen 1
  have fg2 := DG.out.bG.frozen 2
  have fg3 := DG.out.bG.frozen 3
  have fg4 := DG.out.bG.frozen 4
  have fg5 := DG.out.bG.frozen 5
  have fg6 := DG.out.bG.frozen 6
  have ce0 := bGF.cell 0 rfl
  have ce1 := bGF.cell 1 rfl
  have ce2 := bGF.cell 2 rfl
  have ce3 := bGF.cell 3 rfl
  have ce4 := bGF.cell 4 rfl
  have ce5 := bGF.cell 5 rfl
  have ce6 := bGF.cell 6 rfl
  clear bGF oF sF rF
  go_wp2
  refine bodyPost_ret (v := .tuple #[.agg #[.int .i64 r2, .slice Af2 nf2 cf2, .slice An2 nn2 cn2, .slice Ak2 nk2 ck2, .slice Aq2 nq2 cq2, .bool fu, .int .i64 lf1], .bool (E1 == E2)]) (by simp [results, Tryz.results12, go_sem, ce0, ce1, ce2, ce3, ce4, ce5, ce6]) rfl ?_
  refine ⟨_, _, ?_, OF.out, SF.out, RF.out⟩
  rw [HE1.out, HE2.out]
  rfl

set_option maxRecDepth 100000 in
set_option maxHeartbeats 1600000 in
theorem done_3 {w0 w : World} {f N : Nat} {S T : FsM} {q m : Nat → Prop} (hq : ∀ k, q k → k < w.heap.size) (h0 : OwnE w0 w f S m) (hO : FsOk N S) (hP : FsOk N T) (hN : N ≤ 8000) (fu : Bool) (lf : Int) (hl0 : 0 ≤ lf) (hl1 : lf ≤ 9223372036854775807) (v : Value) (hr : RefAt (uq m q) w v T fu lf) (x : ActF) (A : Option Addr) (lb c : Nat) (hb : x.b.length = lb) (hc : lb ≤ c) (hlb : lb ≤ 200) (hs : Hold (uq m q) w A (bv x.b)) (_ : x.path.length ≤ 60) (_ : x.into.length ≤ 60) (hk : x.kind % 16 = 3) (hsp0 : (spentR fu lf).2 = false) :
    Calls Tryz.prog 12 #[.pointer (some ⟨f, 0, none⟩), v, x.val A lb c] w (DoneIs w0 w f q m (S.go (actF x)).1 (actF x T).1 fu (spentR fu lf).1 (decide (((S.go (actF x)).2 : Int) = ((actF x T).2 : Int)))) := by
  have ea : actF x = (·.append x.path x.b) := by funext S; unfold actF; simp [hk]
  obtain ⟨lf1, hlf1⟩ : ∃ z, (spentR fu lf).1 = z := ⟨_, rfl⟩
  have hspe : spentR fu lf = (lf1, false) := by rw [← hlf1, ← hsp0]
  rw [ea, hlf1]
  have L1 : Hid (T.now.length ≤ 90000) := Nat.le_trans hP.nowN (by omega)
  have L2 : Hid (T.chg.length ≤ 90000) := by have := hP.many; unfold Hid; omega
  have L3 : Hid (T.files.length ≤ 90000) := Nat.le_trans hP.filesN (by omega)
  have L4 : Hid (∀ p n, T.look p = some n → n < T.files.length) := fun p n e => (hP.lookP e).2
  have L5 : Hid (∀ n, (T.file n).b.length ≤ 1048576) := fun n => (hP.fileOk n).2
  have L6 : Hid (T.used ≤ 1099511627776) := Nat.le_trans (used_le hP) (by omega)
  obtain ⟨r, Af, nf, cf, An, nn, cn, Ak, nk, ck, Aq, nq, cq, hC7⟩ := hr.seven
  obtain rfl := hC7.v_
  unfold ActF.val
  obtain ⟨W1, W2, W3, e1, e2, e3, hD⟩ := dstart (lb := lb) (c := c) (x := x) hq h0 hr hs
  have D3 := Lib.hid hD
  have cb0 := hD.bB.cell 0 rfl
  have cb1 := hD.bB.cell 1 rfl
  have cb2 := hD.bB.cell 2 rfl
  have cb3 := hD.bB.cell 3 rfl
  have cb4 := hD.bB.cell 4 rfl
  have cb5 := hD.bB.cell 5 rfl
  have cb6 := hD.bB.cell 6 rfl
  have cx0 := hD.bX.cell 0 rfl
  have cx1 := hD.bX.cell 1 rfl
  have cx2 := hD.bX.cell 2 rfl
  have cx3 := hD.bX.cell 3 rfl
  have cx4 := hD.bX.cell 4 rfl
  have cx5 := hD.bX.cell 5 rfl
  have hand : bits .and .i64 x.kind 15 = 3 := (and15 x.kind).trans hk
  obtain ⟨z, hz⟩ : ∃ z, x.kind % 32 = z := ⟨_, rfl⟩
  have hand2 : bits .and .i64 x.kind 31 = z := (and31 x.kind).trans hz
  have hz31 : z ≠ 31 := by omega
  clear hC7 hD h0 hr hs hq
  clear hlf1 hsp0 hz hk ea
  have hsp := Lib.hid (spent_r _ T fu lf _ W3 D3.out.ref D3.out.lt hl0 hl1)
  go_enter Tryz.func12, Tryz.ntmps12
  go_wp2_with fail
  refine hsp.out.mono ?_
  rintro e w4 ⟨v4, rfl, hr4, hb4⟩
  rw [hspe] at hr4 ⊢
  obtain ⟨r', Af', nf', cf', An', nn', cn', Ak', nk', ck', Aq', nq', cq', h7⟩ := hr4.seven
  obtain rfl := h7.v_
  have D4 := D3.out.newB hb4
  obtain ⟨W5, e5⟩ : ∃ W5, w4.alloc (.cells #[.int .i64 r', .slice Af' nf' cf', .slice An' nn' cn', .slice Ak' nk' ck', .slice Aq' nq' cq', .bool fu, .int .i64 lf1] 30) = W5 := ⟨_, rfl⟩
  have b45 : Below w4.heap.size w4 W5 := e5 ▸ (Below.refl _ _).alloc (Nat.le_refl _) _
  have D5 := D4.newB b45
  have bE : Blk W5 w4.heap.size #[.int .i64 r', .slice Af' nf' cf', .slice An' nn' cn', .slice Ak' nk' ck', .slice Aq' nq' cq', .bool fu, .int .i64 lf1] 30 := e5 ▸ Blk.new w4 _ _
  have ca0 := bE.cell 0 rfl
  have ca1 := bE.cell 1 rfl
  have ca2 := bE.cell 2 rfl
  have ca3 := bE.cell 3 rfl
  have ca4 := bE.cell 4 rfl
  have ca5 := bE.cell 5 rfl
  have ca6 := bE.cell 6 rfl
  have fb0 := D5.bB.frozen 0
  have fb1 := D5.bB.frozen 1
  have fb2 := D5.bB.frozen 2
  have fb3 := D5.bB.frozen 3
  have fb4 := D5.bB.frozen 4
  have fb5 := D5.bB.frozen 5
  have fb6 := D5.bB.frozen 6
  obtain ⟨W6, e6, D6⟩ := D5.store (hr4.newB b45)
  have cd0 := D5.bB.cell 0 rfl
  have cd1 := D5.bB.cell 1 rfl
  have cd2 := D5.bB.cell 2 rfl
  have cd3 := D5.bB.cell 3 rfl
  have cd4 := D5.bB.cell 4 rfl
  have cd5 := D5.bB.cell 5 rfl
  have cd6 := D5.bB.cell 6 rfl
  have DD := Lib.hid D6
  clear hsp h7 hr4 hb4 D4 D5 D6 b45 bE D3 cb0 cb1 cb2 cb3 cb4 cb5 cb6
  have hcl := Lib.hid (append_own DD.out.own hO (by omega) x.path A lb c x.b hb hc (by omega) (DD.out.hb.less fun k e => .inl (.inl e)))
  have cx0 := DD.out.bX.cell 0 rfl
  have cx1 := DD.out.bX.cell 1 rfl
  have cx2 := DD.out.bX.cell 2 rfl
  have cx3 := DD.out.bX.cell 3 rfl
  have cx4 := DD.out.bX.cell 4 rfl
  have cx5 := DD.out.bX.cell 5 rfl
  go_wp2_with fail
  refine hcl.out.mono ?_
  rintro e w7 ⟨rfl, hst⟩
  obtain ⟨m7, D7⟩ := DD.out.prog hst
  have DE := Lib.hid D7
  obtain ⟨E1, hE1⟩ : ∃ E : Int, ((S.go (·.append x.path x.b)).2 : Int) = E := ⟨_, rfl⟩
  rw [hE1]
  have hcr := Lib.hid (append_r _ T fu lf1 _ w7 DE.out.ref DE.out.lt L1.out L2.out L4.out L3.out L5.out L6.out x.path A lb c x.b hb hc (by omega) DE.out.hb)
  have cx0 := DE.out.bX.cell 0 rfl
  have cx1 := DE.out.bX.cell 1 rfl
  have cx2 := DE.out.bX.cell 2 rfl
  have cx3 := DE.out.bX.cell 3 rfl
  have cx4 := DE.out.bX.cell 4 rfl
  have cx5 := DE.out.bX.cell 5 rfl
  have cc0 := DE.out.bB.cell 0 rfl
  have cc1 := DE.out.bB.cell 1 rfl
  have cc2 := DE.out.bB.cell 2 rfl
  have cc3 := DE.out.bB.cell 3 rfl
  have cc4 := DE.out.bB.cell 4 rfl
  have cc5 := DE.out.bB.cell 5 rfl
  have cc6 := DE.out.bB.cell 6 rfl
  have HE1 := Lib.hid hE1
  clear hcl hst D7 DD hE1
  go_wp2_with fail
  refine hcr.out.mono ?_
  rintro e w8 ⟨v8, rfl, hr8, hb8⟩
  obtain ⟨r2, Af2, nf2, cf2, An2, nn2, cn2, Ak2, nk2, ck2, Aq2, nq2, cq2, h7⟩ := hr8.seven
  obtain rfl := h7.v_
  have D8 := DE.out.newB hb8
  obtain ⟨W9, e9, D9⟩ := D8.store hr8
  have DG := Lib.hid D9
  have cd0 := D8.bB.cell 0 rfl
  have cd1 := D8.bB.cell 1 rfl
  have cd2 := D8.bB.cell 2 rfl
  have cd3 := D8.bB.cell 3 rfl
  have cd4 := D8.bB.cell 4 rfl
  have cd5 := D8.bB.cell 5 rfl
  have cd6 := D8.bB.cell 6 rfl
  have fh0 := D8.bB.frozen 0
  have fh1 := D8.bB.frozen 1
  have fh2 := D8.bB.frozen 2
  have fh3 := D8.bB.frozen 3
  have fh4 := D8.bB.frozen 4
  have fh5 := D8.bB.frozen 5
  have fh6 := D8.bB.frozen 6
  obtain ⟨E2, hE2⟩ : ∃ E : Int, ((T.append x.path x.b).2 : Int) = E := ⟨_, rfl⟩
  rw [hE2]
  have HE2 := Lib.hid hE2
  clear hr8 h7 hcr cc0 cc1 cc2 cc3 cc4 cc5 cc6 DE D8 D9 hb8 hE2
  obtain ⟨WF, eF, bGF, oF, sF, rF⟩ := DG.out.fin (DG.out.ref)
  have OF := Lib.hid oF
  have SF := Lib.hid sF
  have RF := Lib.hid rF
  have ct0 := DG.out.bB.cell 0 rfl
  have ct1 := DG.out.bB.cell 1 rfl
  have ct2 := DG.out.bB.cell 2 rfl
  have ct3 := DG.out.bB.cell 3 rfl
  have ct4 := DG.out.bB.cell 4 rfl
  have ct5 := DG.out.bB.cell 5 rfl
  have ct6 := DG.out.bB.cell 6 rfl
  have cg0 := DG.out.bG.cell 0 rfl
  have cg1 := DG.out.bG.cell 1 rfl
  have cg2 := DG.out.bG.cell 2 rfl
  have cg3 := DG.out.bG.cell 3 rfl
  have cg4 := DG.out.bG.cell 4 rfl
  have cg5 := DG.out.bG.cell 5 rfl
  have cg6 := DG.out.bG.cell 6 rfl
  have fg0 := DG.out.bG.frozen 0
  have fg1 := DG.out.bG.frozen 1
  have fg2 := DG.out.bG.frozen 2
  have fg3 := DG.out.bG.frozen 3
  have fg4 := DG.out.bG.frozen 4
  have fg5 := DG.out.bG.frozen 5
  have fg6 := DG.out.bG.frozen 6
  have ce0 := bGF.cell 0 rfl
  have ce1 := bGF.cell 1 rfl
  have ce2 := bGF.cell 2 rfl
  have ce3 := bGF.cell 3 rfl
  have ce4 := bGF.cell 4 rfl
  have ce5 := bGF.cell 5 rfl
  have ce6 := bGF.cell 6 rfl
  clear bGF oF sF rF
  go_wp2
  refine bodyPost_ret (v := .tuple #[.agg #[.int .i64 r2, .slice Af2 nf2 cf2, .slice An2 nn2 cn2, .slice Ak2 nk2 ck2, .slice Aq2 nq2 cq2, .bool fu, .int .i64 lf1], .bool (E1 == E2)]) (by simp [results, Tryz.results12, go_sem, ce0, ce1, ce2, ce3, ce4, ce5, ce6]) rfl ?_
  refine ⟨_, _, ?_, OF.out, SF.out, RF.out⟩
  rw [HE1.out, HE2.out]
  rfl
end Go.Proofs.YteidkmiladkoiaaGreatDoor
