/-
  An act over both, walked: the fuse; a crash; spent.
-/
import Derived.Test.YteidkmiladkoiaaGreatDoorZRsB
namespace Go.Proofs.YteidkmiladkoiaaGreatDoor
open Go.RowKit

set_option maxRecDepth 100000 in
set_option maxHeartbeats 1600000 in
theorem done_fuse {w0 w : World} {f N : Nat} {S T : FsM} {q m : Nat → Prop} (hq : ∀ k, q k → k < w.heap.size) (h0 : OwnE w0 w f S m) (_ : FsOk N S) (_ : FsOk N T) (_ : N ≤ 8000) (fu : Bool) (lf : Int) (_ : 0 ≤ lf) (_ : lf ≤ 9223372036854775807) (v : Value) (hr : RefAt (uq m q) w v T fu lf) (x : ActF) (A : Option Addr) (lb c : Nat) (_ : x.b.length = lb) (_ : lb ≤ c) (_ : lb ≤ 200) (hs : Hold (uq m q) w A (bv x.b)) (_ : x.path.length ≤ 60) (_ : x.into.length ≤ 60) (hk : x.kind % 32 = 31) :
    Calls Tryz.prog 12 #[.pointer (some ⟨f, 0, none⟩), v, x.val A lb c] w (DoneIs w0 w f q m (S.setFuse (min x.n.toNat 1099511627776 + 1)) T true (max x.n 0) true) := by
  obtain ⟨r, Af, nf, cf, An, nn, cn, Ak, nk, ck, Aq, nq, cq, hC7⟩ := hr.seven
  obtain rfl := hC7.v_
  unfold ActF.val
  obtain ⟨W1, W2, W3, e1, e2, e3, hD⟩ := dstart (lb := lb) (c := c) (x := x) hq h0 hr hs
  have D3 := Lib.hid hD
  have cb0 := hD.bB.cell 0 rfl
  have cb1 := hD.bB.cell 1 rfl
  have cb2 := hD.bB.cell 2 rfl
  have cb3 := hD.bB.cell 3 rfl
  have cb4 := hD.bB.cell 4 rfl
  have cb5 := hD.bB.cell 5 rfl
  have cb6 := hD.bB.cell 6 rfl
  have cx0 := hD.bX.cell 0 rfl
  have cx1 := hD.bX.cell 1 rfl
  have cx2 := hD.bX.cell 2 rfl
  have cx3 := hD.bX.cell 3 rfl
  have cx4 := hD.bX.cell 4 rfl
  have cx5 := hD.bX.cell 5 rfl
  have hand : bits .and .i64 x.kind 15 = 15 := (and15 x.kind).trans (by omega)
  have hand2 : bits .and .i64 x.kind 31 = 31 := (and31 x.kind).trans hk
  have hfu := Lib.hid (fuse_own hD.own x.n)
  clear hC7 hD h0 hr hs hq
  go_enter Tryz.func12, Tryz.ntmps12
  go_wp2_with fail
  refine hfu.out.mono ?_
  rintro e w4 ⟨⟨v4, rfl⟩, hst⟩
  obtain ⟨m4, D4⟩ := D3.out.prog hst
  have DD := Lib.hid D4
  have cx0 := DD.out.bX.cell 0 rfl
  have cx1 := DD.out.bX.cell 1 rfl
  have cx2 := DD.out.bX.cell 2 rfl
  have cx3 := DD.out.bX.cell 3 rfl
  have cx4 := DD.out.bX.cell 4 rfl
  have cx5 := DD.out.bX.cell 5 rfl
  have cc0 := DD.out.bB.cell 0 rfl
  have cc1 := DD.out.bB.cell 1 rfl
  have cc2 := DD.out.bB.cell 2 rfl
  have cc3 := DD.out.bB.cell 3 rfl
  have cc4 := DD.out.bB.cell 4 rfl
  have cc5 := DD.out.bB.cell 5 rfl
  have cc6 := DD.out.bB.cell 6 rfl
  have hset := Lib.hid (set_r _ T fu lf _ w4 D4.ref D4.lt x.n)
  clear hfu hst D4 D3 cb0 cb1 cb2 cb3 cb4 cb5 cb6
  go_wp2_with fail
  refine hset.out.mono ?_
  rintro e w5 ⟨v5, rfl, hr5, hb5⟩
  obtain ⟨r', Af', nf', cf', An', nn', cn', Ak', nk', ck', Aq', nq', cq', h7⟩ := hr5.seven
  obtain rfl := h7.v_
  have DE := Lib.hid (DD.out.newB hb5)
  have R5 := Lib.hid hr5
  clear hr5 h7 hset cc0 cc1 cc2 cc3 cc4 cc5 cc6 DD
  obtain ⟨WF, eF, bGF, oF, sF, rF⟩ := DE.out.fin (R5.out)
  have OF := Lib.hid oF
  have SF := Lib.hid sF
  have RF := Lib.hid rF
  have cg0 := DE.out.bG.cell 0 rfl
  have cg1 := DE.out.bG.cell 1 rfl
  have cg2 := DE.out.bG.cell 2 rfl
  have cg3 := DE.out.bG.cell 3 rfl
  have cg4 := DE.out.bG.cell 4 rfl
  have cg5 := DE.out.bG.cell 5 rfl
  have cg6 := DE.out.bG.cell 6 rfl
  have fg0 := DE.out.bG.frozen 0
  have fg1 := DE.out.bG.frozen 1
  have fg2 := DE.out.bG.frozen 2
  have fg3 := DE.out.bG.frozen 3
  have fg4 := DE.out.bG.frozen 4
  have fg5 := DE.out.bG.frozen 5
  have fg6 := DE.out.bG.frozen 6
  have ce0 := bGF.cell 0 rfl
  have ce1 := bGF.cell 1 rfl
  have ce2 := bGF.cell 2 rfl
  have ce3 := bGF.cell 3 rfl
  have ce4 := bGF.cell 4 rfl
  have ce5 := bGF.cell 5 rfl
  have ce6 := bGF.cell 6 rfl
  clear bGF oF sF rF
  go_wp2
  refine bodyPost_ret (v := .tuple #[.agg #[.int .i64 r', .slice Af' nf' cf', .slice An' nn' cn', .slice Ak' nk' ck', .slice Aq' nq' cq', .bool true, .int .i64 (max x.n 0)], .bool true]) (by simp [results, Tryz.results12, go_sem, ce0, ce1, ce2, ce3, ce4, ce5, ce6]) rfl ?_
  exact ⟨_, _, rfl, OF.out, SF.out, RF.out⟩

set_option maxRecDepth 100000 in
set_option maxHeartbeats 1600000 in
theorem done_crash {w0 w : World} {f N : Nat} {S T : FsM} {q m : Nat → Prop} (hq : ∀ k, q k → k < w.heap.size) (h0 : OwnE w0 w f S m) (hO : FsOk N S) (hP : FsOk N T) (hN : N ≤ 8000) (fu : Bool) (lf : Int) (_ : 0 ≤ lf) (_ : lf ≤ 9223372036854775807) (v : Value) (hr : RefAt (uq m q) w v T fu lf) (x : ActF) (A : Option Addr) (lb c : Nat) (_ : x.b.length = lb) (_ : lb ≤ c) (_ : lb ≤ 200) (hs : Hold (uq m q) w A (bv x.b)) (_ : x.path.length ≤ 60) (_ : x.into.length ≤ 60) (hk : x.kind % 16 = 15) (hk2 : ¬ x.kind % 32 = 31) :
    Calls Tryz.prog 12 #[.pointer (some ⟨f, 0, none⟩), v, x.val A lb c] w (DoneIs w0 w f q m (S.crash x.n.toNat x.by_.toNat) (T.crash x.n.toNat x.by_.toNat) false lf true) := by
  obtain ⟨r, Af, nf, cf, An, nn, cn, Ak, nk, ck, Aq, nq, cq, hC7⟩ := hr.seven
  obtain rfl := hC7.v_
  unfold ActF.val
  obtain ⟨W1, W2, W3, e1, e2, e3, hD⟩ := dstart (lb := lb) (c := c) (x := x) hq h0 hr hs
  have D3 := Lib.hid hD
  have cb0 := hD.bB.cell 0 rfl
  have cb1 := hD.bB.cell 1 rfl
  have cb2 := hD.bB.cell 2 rfl
  have cb3 := hD.bB.cell 3 rfl
  have cb4 := hD.bB.cell 4 rfl
  have cb5 := hD.bB.cell 5 rfl
  have cb6 := hD.bB.cell 6 rfl
  have cx0 := hD.bX.cell 0 rfl
  have cx1 := hD.bX.cell 1 rfl
  have cx2 := hD.bX.cell 2 rfl
  have cx3 := hD.bX.cell 3 rfl
  have cx4 := hD.bX.cell 4 rfl
  have cx5 := hD.bX.cell 5 rfl
  have hand : bits .and .i64 x.kind 15 = 15 := (and15 x.kind).trans hk
  obtain ⟨z, hz⟩ : ∃ z, x.kind % 32 = z := ⟨_, rfl⟩
  have hand2 : bits .and .i64 x.kind 31 = z := (and31 x.kind).trans hz
  have hz31 : z ≠ 31 := by omega
  have hcr := Lib.hid (crash_own hD.own hO (by omega) x.n x.by_)
  clear hC7 hD h0 hr hs hq
  go_enter Tryz.func12, Tryz.ntmps12
  go_wp2_with fail
  refine hcr.out.mono ?_
  rintro e w4 ⟨⟨v4, rfl⟩, hst⟩
  obtain ⟨m4, D4⟩ := D3.out.prog hst
  have DD := Lib.hid D4
  have cx0 := DD.out.bX.cell 0 rfl
  have cx1 := DD.out.bX.cell 1 rfl
  have cx2 := DD.out.bX.cell 2 rfl
  have cx3 := DD.out.bX.cell 3 rfl
  have cx4 := DD.out.bX.cell 4 rfl
  have cx5 := DD.out.bX.cell 5 rfl
  have cc0 := DD.out.bB.cell 0 rfl
  have cc1 := DD.out.bB.cell 1 rfl
  have cc2 := DD.out.bB.cell 2 rfl
  have cc3 := DD.out.bB.cell 3 rfl
  have cc4 := DD.out.bB.cell 4 rfl
  have cc5 := DD.out.bB.cell 5 rfl
  have cc6 := DD.out.bB.cell 6 rfl
  have hset := Lib.hid (crash_r _ T fu lf _ w4 D4.ref D4.lt hP (by omega) x.n x.by_)
  clear hcr hst D4 D3 cb0 cb1 cb2 cb3 cb4 cb5 cb6
  go_wp2_with fail
  refine hset.out.mono ?_
  rintro e w5 ⟨v5, rfl, hr5, hb5⟩
  obtain ⟨r', Af', nf', cf', An', nn', cn', Ak', nk', ck', Aq', nq', cq', h7⟩ := hr5.seven
  obtain rfl := h7.v_
  have D5 := DD.out.newB hb5
  obtain ⟨W6, e6, D6⟩ := D5.store hr5
  have DE := Lib.hid D6
  have cd0 := D5.bB.cell 0 rfl
  have cd1 := D5.bB.cell 1 rfl
  have cd2 := D5.bB.cell 2 rfl
  have cd3 := D5.bB.cell 3 rfl
  have cd4 := D5.bB.cell 4 rfl
  have cd5 := D5.bB.cell 5 rfl
  have cd6 := D5.bB.cell 6 rfl
  have fb0 := D5.bB.frozen 0
  have fb1 := D5.bB.frozen 1
  have fb2 := D5.bB.frozen 2
  have fb3 := D5.bB.frozen 3
  have fb4 := D5.bB.frozen 4
  have fb5 := D5.bB.frozen 5
  have fb6 := D5.bB.frozen 6
  clear hr5 h7 hset cc0 cc1 cc2 cc3 cc4 cc5 cc6 DD D5 D6 hb5
  obtain ⟨WF, eF, bGF, oF, sF, rF⟩ := DE.out.fin (DE.out.ref)
  have OF := Lib.hid oF
  have SF := Lib.hid sF
  have RF := Lib.hid rF
  have ct0 := DE.out.bB.cell 0 rfl
  have ct1 := DE.out.bB.cell 1 rfl
  have ct2 := DE.out.bB.cell 2 rfl
  have ct3 := DE.out.bB.cell 3 rfl
  have ct4 := DE.out.bB.cell 4 rfl
  have ct5 := DE.out.bB.cell 5 rfl
  have ct6 := DE.out.bB.cell 6 rfl
  have cg0 := DE.out.bG.cell 0 rfl
  have cg1 := DE.out.bG.cell 1 rfl
  have cg2 := DE.out.bG.cell 2 rfl
  have cg3 := DE.out.bG.cell 3 rfl
  have cg4 := DE.out.bG.cell 4 rfl
  have cg5 := DE.out.bG.cell 5 rfl
  have cg6 := DE.out.bG.cell 6 rfl
  have fg0 := DE.out.bG.frozen 0
  have fg1 := DE.out.bG.frozen 1
  have fg2 := DE.out.bG.frozen 2
  have fg3 := DE.out.bG.frozen 3
  have fg4 := DE.out.bG.frozen 4
  have fg5 := DE.out.bG.frozen 5
  have fg6 := DE.out.bG.frozen 6
  have ce0 := bGF.cell 0 rfl
  have ce1 := bGF.cell 1 rfl
  have ce2 := bGF.cell 2 rfl
  have ce3 := bGF.cell 3 rfl
  have ce4 := bGF.cell 4 rfl
  have ce5 := bGF.cell 5 rfl
  have ce6 := bGF.cell 6 rfl
  clear bGF oF sF rF
  go_wp2
  refine bodyPost_ret (v := .tuple #[.agg #[.int .i64 r', .slice Af' nf' cf', .slice An' nn' cn', .slice Ak' nk' ck', .slice Aq' nq' cq', .bool false, .int .i64 lf], .bool true]) (by simp [results, Tryz.results12, go_sem, ce0, ce1, ce2, ce3, ce4, ce5, ce6]) rfl ?_
  exact ⟨_, _, rfl, OF.out, SF.out, RF.out⟩

set_option maxRecDepth 100000 in
set_option maxHeartbeats 1600000 in
theorem done_spent {w0 w : World} {f N : Nat} {S T : FsM} {q m : Nat → Prop} (hq : ∀ k, q k → k < w.heap.size) (h0 : OwnE w0 w f S m) (hO : FsOk N S) (_ : FsOk N T) (hN : N ≤ 8000) (fu : Bool) (lf : Int) (hl0 : 0 ≤ lf) (hl1 : lf ≤ 9223372036854775807) (v : Value) (hr : RefAt (uq m q) w v T fu lf) (x : ActF) (A : Option Addr) (lb c : Nat) (hb : x.b.length = lb) (hc : lb ≤ c) (hlb : lb ≤ 200) (hs : Hold (uq m q) w A (bv x.b)) (hp : x.path.length ≤ 60) (ht : x.into.length ≤ 60) (hk : x.kind % 16 < 15) (hfu : fu = true) (hlf : lf = 0) :
    Calls Tryz.prog 12 #[.pointer (some ⟨f, 0, none⟩), v, x.val A lb c] w (DoneIs w0 w f q m (S.go (actF x)).1 T fu lf (decide (((S.go (actF x)).2 : Int) = 62))) := by
  obtain ⟨lf1, hlf1⟩ : ∃ z, z = lf := ⟨_, rfl⟩
  have hspe : spentR fu lf = (lf1, true) := by unfold spentR; rw [hfu, if_neg (by decide), if_pos hlf, hlf1]
  obtain ⟨k, hk15⟩ : ∃ k, x.kind % 16 = k := ⟨_, rfl⟩
  have hk0 : k < 15 := by omega
  rw [← hlf1]
  obtain ⟨r, Af, nf, cf, An, nn, cn, Ak, nk, ck, Aq, nq, cq, hC7⟩ := hr.seven
  obtain rfl := hC7.v_
  unfold ActF.val
  obtain ⟨W1, W2, W3, e1, e2, e3, hD⟩ := dstart (lb := lb) (c := c) (x := x) hq h0 hr hs
  have D3 := Lib.hid hD
  have cb0 := hD.bB.cell 0 rfl
  have cb1 := hD.bB.cell 1 rfl
  have cb2 := hD.bB.cell 2 rfl
  have cb3 := hD.bB.cell 3 rfl
  have cb4 := hD.bB.cell 4 rfl
  have cb5 := hD.bB.cell 5 rfl
  have cb6 := hD.bB.cell 6 rfl
  have cx0 := hD.bX.cell 0 rfl
  have cx1 := hD.bX.cell 1 rfl
  have cx2 := hD.bX.cell 2 rfl
  have cx3 := hD.bX.cell 3 rfl
  have cx4 := hD.bX.cell 4 rfl
  have cx5 := hD.bX.cell 5 rfl
  have hand : bits .and .i64 x.kind 15 = k := (and15 x.kind).trans hk15
  obtain ⟨z, hz⟩ : ∃ z, x.kind % 32 = z := ⟨_, rfl⟩
  have hand2 : bits .and .i64 x.kind 31 = z := (and31 x.kind).trans hz
  have hz31 : z ≠ 31 := by omega
  clear hC7 hD h0 hr hs hq
  have HK := Lib.hid hk
  clear hfu hlf hlf1 hk15 hz hk
  have hsp := Lib.hid (spent_r _ T fu lf _ W3 D3.out.ref D3.out.lt hl0 hl1)
  go_enter Tryz.func12, Tryz.ntmps12
  go_wp2_with fail
  refine hsp.out.mono ?_
  rintro e w4 ⟨v4, rfl, hr4, hb4⟩
  rw [hspe] at hr4 ⊢
  obtain ⟨r', Af', nf', cf', An', nn', cn', Ak', nk', ck', Aq', nq', cq', h7⟩ := hr4.seven
  obtain rfl := h7.v_
  have D4 := D3.out.newB hb4
  obtain ⟨W5, e5⟩ : ∃ W5, w4.alloc (.cells #[.int .i64 r', .slice Af' nf' cf', .slice An' nn' cn', .slice Ak' nk' ck', .slice Aq' nq' cq', .bool fu, .int .i64 lf1] 30) = W5 := ⟨_, rfl⟩
  have b45 : Below w4.heap.size w4 W5 := e5 ▸ (Below.refl _ _).alloc (Nat.le_refl _) _
  have D5 := D4.newB b45
  have bE : Blk W5 w4.heap.size #[.int .i64 r', .slice Af' nf' cf', .slice An' nn' cn', .slice Ak' nk' ck', .slice Aq' nq' cq', .bool fu, .int .i64 lf1] 30 := e5 ▸ Blk.new w4 _ _
  have ca0 := bE.cell 0 rfl
  have ca1 := bE.cell 1 rfl
  have ca2 := bE.cell 2 rfl
  have ca3 := bE.cell 3 rfl
  have ca4 := bE.cell 4 rfl
  have ca5 := bE.cell 5 rfl
  have ca6 := bE.cell 6 rfl
  have fb0 := D5.bB.frozen 0
  have fb1 := D5.bB.frozen 1
  have fb2 := D5.bB.frozen 2
  have fb3 := D5.bB.frozen 3
  have fb4 := D5.bB.frozen 4
  have fb5 := D5.bB.frozen 5
  have fb6 := D5.bB.frozen 6
  obtain ⟨W6, e6, D6⟩ := D5.store (hr4.newB b45)
  have cd0 := D5.bB.cell 0 rfl
  have cd1 := D5.bB.cell 1 rfl
  have cd2 := D5.bB.cell 2 rfl
  have cd3 := D5.bB.cell 3 rfl
  have cd4 := D5.bB.cell 4 rfl
  have cd5 := D5.bB.cell 5 rfl
  have cd6 := D5.bB.cell 6 rfl
  have DD := Lib.hid D6
  clear hsp h7 hr4 hb4 D4 D5 D6 b45 bE D3 cb0 cb1 cb2 cb3 cb4 cb5 cb6
  have hcl := Lib.hid (callF_any DD.out.own hO (by omega) x A lb c hb hc (by omega) (DD.out.hb.less fun k e => .inl (.inl e)) (by omega) (by omega) HK.out)
  unfold ActF.val at hcl
  have cx0 := DD.out.bX.cell 0 rfl
  have cx1 := DD.out.bX.cell 1 rfl
  have cx2 := DD.out.bX.cell 2 rfl
  have cx3 := DD.out.bX.cell 3 rfl
  have cx4 := DD.out.bX.cell 4 rfl
  have cx5 := DD.out.bX.cell 5 rfl
  go_wp2_with fail
  refine hcl.out.mono ?_
  rintro e w7 ⟨rfl, hst⟩
  obtain ⟨m7, D7⟩ := DD.out.prog hst
  have DE := Lib.hid D7
  obtain ⟨E1, hE1⟩ : ∃ E : Int, ((S.go (actF x)).2 : Int) = E := ⟨_, rfl⟩
  rw [hE1]
  have HE1 := Lib.hid hE1
  clear hcl hst D7 DD hE1
  obtain ⟨WF, eF, bGF, oF, sF, rF⟩ := DE.out.fin (DE.out.ref)
  have OF := Lib.hid oF
  have SF := Lib.hid sF
  have RF := Lib.hid rF
  have ct0 := DE.out.bB.cell 0 rfl
  have ct1 := DE.out.bB.cell 1 rfl
  have ct2 := DE.out.bB.cell 2 rfl
  have ct3 := DE.out.bB.cell 3 rfl
  have ct4 := DE.out.bB.cell 4 rfl
  have ct5 := DE.out.bB.cell 5 rfl
  have ct6 := DE.out.bB.cell 6 rfl
  have cg0 := DE.out.bG.cell 0 rfl
  have cg1 := DE.out.bG.cell 1 rfl
  have cg2 := DE.out.bG.cell 2 rfl
  have cg3 := DE.out.bG.cell 3 rfl
  have cg4 := DE.out.bG.cell 4 rfl
  have cg5 := DE.out.bG.cell 5 rfl
  have cg6 := DE.out.bG.cell 6 rfl
  have fg0 := DE.out.bG.frozen 0
  have fg1 := DE.out.bG.frozen 1
  have fg2 := DE.out.bG.frozen 2
  have fg3 := DE.out.bG.frozen 3
  have fg4 := DE.out.bG.frozen 4
  have fg5 := DE.out.bG.frozen 5
  have fg6 := DE.out.bG.frozen 6
  have ce0 := bGF.cell 0 rfl
  have ce1 := bGF.cell 1 rfl
  have ce2 := bGF.cell 2 rfl
  have ce3 := bGF.cell 3 rfl
  have ce4 := bGF.cell 4 rfl
  have ce5 := bGF.cell 5 rfl
  have ce6 := bGF.cell 6 rfl
  clear bGF oF sF rF
  go_wp2
  refine bodyPost_ret (v := .tuple #[.agg #[.int .i64 r', .slice Af' nf' cf', .slice An' nn' cn', .slice Ak' nk' ck', .slice Aq' nq' cq', .bool fu, .int .i64 lf1], .bool (E1 == 62)]) (by simp [results, Tryz.results12, go_sem, ce0, ce1, ce2, ce3, ce4, ce5, ce6]) rfl ?_
  refine ⟨_, _, ?_, OF.out, SF.out, RF.out⟩
  rw [HE1.out]
  rfl
end Go.Proofs.YteidkmiladkoiaaGreatDoor
