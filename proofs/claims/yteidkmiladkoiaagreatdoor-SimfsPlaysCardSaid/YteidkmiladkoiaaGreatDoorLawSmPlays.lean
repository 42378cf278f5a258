/-
  The law SimfsPlays, walked.
-/
import Derived.Test.YteidkmiladkoiaaGreatDoorLawSmTwice
import Derived.Test.YteidkmiladkoiaaGreatDoorRsList2
import Derived.Test.YteidkmiladkoiaaGreatDoorOpenH
namespace Go.Proofs.YteidkmiladkoiaaGreatDoor
open Go.RowKit

/-- On the way, step by step: the program's files, the document's in a box, the fuses of both. -/
structure PSt (w0 : World) (R f k : Nat) (S : FsM) (fu : Bool) (lf : Int) (m : Nat → Prop) (cs : Array Value) (W : World) : Prop where
  own : OwnE w0 W f S m
  ref : RefAt (uq m (fun j => j = R)) W (.agg cs) S fu lf
  bR : Blk W R cs 30
  nR : ¬ m R
  low : w0.heap.size ≤ R
  ok : FsOk (4 * k) S
  fz : FuseIs k S fu lf
section
variable {w0 w W W' : World} {R f k : Nat} {S T : FsM} {fu : Bool} {lf : Int} {m : Nat → Prop} {cs : Array Value}
theorem PSt.newB (h : PSt w0 R f k S fu lf m cs W) (hb : Below W.heap.size W W') : PSt w0 R f k S fu lf m cs W' :=
  ⟨h.own.newB hb, h.ref.newB hb, h.bR.keep (hb.block _ h.bR.lt), h.nR, h.low, h.ok, h.fz⟩
theorem PSt.q0 (h : PSt w0 R f k S fu lf m cs W) : ∀ j, (fun j => j = R) j → j < W.heap.size := fun j e => by rw [show j = R from e]; exact h.bR.lt
theorem PSt.lt (h : PSt w0 R f k S fu lf m cs W) : ∀ j, uq m (fun j => j = R) j → j < W.heap.size := fun j e => by
  rcases e with e | e
  · exact (h.own.lt j e).2
  · exact h.q0 j e
theorem PSt.hold (h : PSt w0 R f k S fu lf m cs W) {A : Option Addr} {xs : List Value} (hs : Sees w0 w0.heap.size A xs) : Hold (uq m (fun j => j = R)) W A xs :=
  Hold.of_old (hs.below h.own.below) h.own.below.size fun j e => by
    rcases e with e | e
    · exact h.own.lt j e
    · rw [show j = R from e]; exact ⟨h.low, h.bR.lt⟩
theorem PSt.done {x : ActF} {m' : Nat → Prop} {a0 a1 a2 a3 a4 a5 a6 u0 u1 u2 u3 u4 u5 u6 : Value} {fu' : Bool} {lf' : Int} (h : PSt w0 R f k S fu lf m #[a0, a1, a2, a3, a4, a5, a6] W) (hk : k ≤ 1000) (hn : x.n ≤ 9223372036854775807) (ho : OwnE w0 W' f (S.doneM x) m') (hst : Stp m W m' W')
    (hr : RefAt (uq m' (fun j => j = R)) W' (.agg #[u0, u1, u2, u3, u4, u5, u6]) (S.refM fu lf x) fu' lf') (e1 : fuM fu x = fu') (e2 : lfM fu lf x = lf') :
    Blk W' R #[a0, a1, a2, a3, a4, a5, a6] 30 ∧ ∃ WF, (((((((W'.setCell ⟨R, 0, none⟩ u0).setCell ⟨R, 1, none⟩ u1).setCell ⟨R, 2, none⟩ u2).setCell ⟨R, 3, none⟩ u3).setCell ⟨R, 4, none⟩ u4).setCell ⟨R, 5, none⟩ u5).setCell ⟨R, 6, none⟩ u6) = WF ∧
      PSt w0 R f (k + 1) (S.doneM x) fu' lf' m' #[u0, u1, u2, u3, u4, u5, u6] WF ∧ Turn (fun k => k = R) W' WF := by
  obtain ⟨-, ⟨j, hj⟩, hfz⟩ := done_both hk h.fz x hn
  rw [e1, e2] at hfz
  have bR' := h.bR.keep (hst.turn.block _ h.bR.lt h.nR)
  have hr' := hr.fz j
  rw [← hj] at hr'
  obtain ⟨WF, eF, bF, -, stF⟩ := bR'.store7 0 (Nat.zero_le _) u0 u1 u2 u3 u4 u5 u6
  have s1 := stF (uq m' (fun j => j = R)) (.inr rfl)
  have t1 := (stF (fun k => k = R) rfl).turn
  have nR' : ¬ m' R := fun e => by
    rcases hst.new R e with e | e
    · exact h.nR e
    · have := h.bR.lt; omega
  exact ⟨bR', WF, eF, ⟨ho.other t1 (fun k e => by rw [e]; exact ⟨nR', h.low⟩), hr'.step s1, bF, nR', h.low, (doneM_ok h.ok x).mono (by omega), hfz⟩, t1⟩
end

set_option maxRecDepth 100000 in
set_option maxHeartbeats 6400000 in
theorem SimfsPlays_any (room : Int) (A : Option Addr) (n c : Nat) (ls : List ActF) (hn : ls.length = n) (hbn : ∀ x ∈ ls, x.n ≤ 9223372036854775807) (first : Txt) (w : World) (hS : ActsF (fun k => k < w.heap.size) w A ls) :
    Calls Tryz.prog 3 #[.int .i64 room, .slice A n c, .string (strOf first)] w (Gives w (.bool true)) := by
  have hA := Lib.hid (awake_any w)
  have HN := Lib.hid hn
  have HS0 := Lib.hid hS
  have HBN := Lib.hid hbn
  clear hn hS hbn
  go_enter Tryz.func3, Tryz.ntmps3
  go_wp2_with fail
  refine hA.out.mono ?_
  rintro en w0 ⟨rfl, hb0⟩
  have HS := Lib.hid (HS0.out.below hb0)
  have B0 := Lib.hid hb0
  obtain ⟨r0, hr0⟩ : ∃ r : Nat, (min (max room 0) 16777216).toNat = r := ⟨_, rfl⟩
  have hr16 : r0 ≤ 16777216 := by omega
  have k0 := new_own room w0
  rw [hr0] at k0
  have K0 := Lib.hid k0
  clear hA HS0 k0 hb0
  go_wp2_with fail
  refine K0.out.mono ?_
  rintro e w1 ⟨f, m1, rfl, o1⟩
  have k1 := new_r m1 room w1 (fun k e => (o1.lt k e).2)
  rw [hr0] at k1
  have K1 := Lib.hid k1
  have O1 := Lib.hid o1
  clear K0 o1 k1 hr0
  go_wp2_with fail
  refine K1.out.mono ?_
  rintro e w2 ⟨v2, rfl, hr2, hb2⟩
  obtain ⟨r, Af, nf, cf, An, nn, cn, Ak, nk, ck, Aq, nq, cq, h7⟩ := hr2.seven
  obtain rfl := h7.v_
  have b23 : Below w2.heap.size w2 (w2.alloc (.cells #[.int .i64 r, .slice Af nf cf, .slice An nn cn, .slice Ak nk ck, .slice Aq nq cq, .bool false, .int .i64 0] 30)) := (Below.refl _ _).alloc (Nat.le_refl _) _
  have bst : PSt w0 w2.heap.size f 0 (FsM.new r0) false 0 m1 #[.int .i64 r, .slice Af nf cf, .slice An nn cn, .slice Ak nk ck, .slice Aq nq cq, .bool false, .int .i64 0] (w2.alloc (.cells #[.int .i64 r, .slice Af nf cf, .slice An nn cn, .slice Ak nk ck, .slice Aq nq cq, .bool false, .int .i64 0] 30)) := by
    have hlt : ∀ k, m1 k → k < w2.heap.size := fun k e => by have := (O1.out.lt k e).2; have := hb2.size; omega
    refine ⟨(O1.out.newB hb2).newB b23, (hr2.more fun k e => ?_).newB b23, Blk.new w2 _ _, fun e => ?_, by have := O1.out.below.size; have := hb2.size; omega, FsOk.new hr16, ⟨by omega, .inl ⟨rfl, rfl⟩⟩⟩
    · rcases e with e | e
      · exact .inl e
      · exact .inr (by rw [show k = _ from e]; exact Nat.le_refl _)
    · have := hlt _ e; omega
  have P0 := Lib.hid bst
  clear K1 O1 hr2 h7 hb2 b23 bst
  go_wp2
  go_loopg [10] n (fun g i wr => ∃ (k : Nat) (S : FsM) (fu : Bool) (lf : Int) (m : Nat → Prop) (cs : Array Value), k + g = n ∧ k ≤ 50 ∧ i = .int .i64 (k : Int) ∧ Hid (PSt w0 w2.heap.size f k S fu lf m cs wr))
  case atStart => exact ⟨0, _, _, _, _, _, by omega, by omega, rfl, P0.out⟩
  case round =>
    obtain ⟨k, S, fu, lf, m, cs, hk, hk50, rfl, ps⟩ := hrel
    have hRX : w2.heap.size < wr.heap.size := ps.out.bR.lt
    have HBW := Lib.hid (B0.out.trans (ps.out.own.below.mono B0.out.size))
    by_cases hlt : k < n
    · by_cases hlt5 : (k : Int) < 50
      · have hkl : k < ls.length := by have := HN.out; omega
        obtain ⟨ad, Ai, ci, rfl, hbl, ⟨g0, g1, g2, g3, g4, g5⟩, hle, hsee⟩ := HS.out.at_ ps.out.own.below hkl
        have hxn := HBN.out _ (List.getElem_mem hkl)
        obtain ⟨x, hx⟩ : ∃ x, ls[k] = x := ⟨_, rfl⟩
        rw [hx] at g0 g1 g2 g3 g4 g5 hle hsee hxn
        obtain ⟨lb, hlb⟩ : ∃ n, x.b.length = n := ⟨_, rfl⟩
        rw [hlb] at g3 hle
        obtain ⟨W1, e1⟩ : ∃ W1, wr.alloc (.cells #[.int .i64 x.kind, .string (strOf x.path), .string (strOf x.into), .slice Ai lb ci, .int .i64 x.n, .int .i64 x.by_] 34) = W1 := ⟨_, rfl⟩
        have b01 : Below wr.heap.size wr W1 := e1 ▸ (Below.refl _ _).alloc (Nat.le_refl _) _
        have bX : Blk W1 wr.heap.size #[.int .i64 x.kind, .string (strOf x.path), .string (strOf x.into), .slice Ai lb ci, .int .i64 x.n, .int .i64 x.by_] 34 := e1 ▸ Blk.new wr _ _
        have P1 := Lib.hid (ps.out.newB b01)
        have nX : Hid (¬ m wr.heap.size) := fun e => by have := (ps.out.own.lt _ e).2; omega
        have BX1 := Lib.hid bX
        have y0 := bX.cell 0 rfl
        have y1 := bX.cell 1 rfl
        have y2 := bX.cell 2 rfl
        have y3 := bX.cell 3 rfl
        have y4 := bX.cell 4 rfl
        have y5 := bX.cell 5 rfl
        have hfew := fewF_any x Ai lb ci hlb W1
        unfold ActF.val at hfew
        obtain ⟨fw, hfw⟩ : ∃ fw, fewF x = fw := ⟨_, rfl⟩
        rw [hfw] at hfew
        have HF := Lib.hid hfew
        have HFW := Lib.hid hfw
        have HLB := Lib.hid hlb
        have HSE := Lib.hid hsee
        have HXN := Lib.hid hxn
        clear hx hsee hlb hfew hfw hxn ps bX b01
        go_wp2_with fail
        refine HF.out.mono ?_
        rintro e w4 ⟨rfl, hb4⟩
        have P4 := Lib.hid (P1.out.newB hb4)
        have BX4 := Lib.hid (BX1.out.keep (hb4.block _ BX1.out.lt))
        clear HF P1 BX1 y0 y1 y2 y3 y4 y5 g0 g1 g2 g3 g4 g5 hb4 e1
        cases fw with
        | false =>
          have HZ := Lib.hid (B0.out.trans (P4.out.own.below.mono B0.out.size))
          go_wp2
          go_ret
          exact ⟨rfl, HZ.out⟩
        | true =>
          obtain ⟨r, Af, nf, cf, An, nn, cn, Ak, nk, ck, Aq, nq, cq, h7⟩ := P4.out.ref.seven
          obtain rfl : cs = #[.int .i64 r, .slice Af nf cf, .slice An nn cn, .slice Ak nk ck, .slice Aq nq cq, .bool fu, .int .i64 lf] := by have := h7.v_; injection this
          have p0 := P4.out.bR.cell 0 rfl
          have p1 := P4.out.bR.cell 1 rfl
          have p2 := P4.out.bR.cell 2 rfl
          have p3 := P4.out.bR.cell 3 rfl
          have p4 := P4.out.bR.cell 4 rfl
          have p5 := P4.out.bR.cell 5 rfl
          have p6 := P4.out.bR.cell 6 rfl
          have y0 := BX4.out.cell 0 rfl
          have y1 := BX4.out.cell 1 rfl
          have y2 := BX4.out.cell 2 rfl
          have y3 := BX4.out.cell 3 rfl
          have y4 := BX4.out.cell 4 rfl
          have y5 := BX4.out.cell 5 rfl
          have hfb := few_b HFW.out
          have hdn := done_any P4.out.q0 P4.out.own P4.out.ok P4.out.ok (by omega) fu lf P4.out.fz.1.1 P4.out.fz.1.2 _ P4.out.ref x Ai lb ci HLB.out hle (by have := HLB.out; omega) (P4.out.hold HSE.out) (by omega) (by omega)
          rw [(done_both (by omega) P4.out.fz x HXN.out).1] at hdn
          obtain ⟨fu2, hfu2⟩ : ∃ b, fuM fu x = b := ⟨_, rfl⟩
          obtain ⟨lf2, hlf2⟩ : ∃ b, lfM fu lf x = b := ⟨_, rfl⟩
          rw [hfu2, hlf2] at hdn
          unfold ActF.val at hdn
          have HD := Lib.hid hdn
          have HFU := Lib.hid hfu2
          have HLF := Lib.hid hlf2
          clear hdn hfu2 hlf2 h7 hfb
          go_wp2_with fail
          refine HD.out.mono ?_
          rintro e w5 ⟨v5, m5, rfl, o5, st5, r5⟩
          obtain ⟨r', Af', nf', cf', An', nn', cn', Ak', nk', ck', Aq', nq', cq', h7⟩ := r5.seven
          obtain rfl := h7.v_
          obtain ⟨W6, e6⟩ : ∃ W6, w5.alloc (.cells #[.int .i64 r', .slice Af' nf' cf', .slice An' nn' cn', .slice Ak' nk' ck', .slice Aq' nq' cq', .bool fu2, .int .i64 lf2] 30) = W6 := ⟨_, rfl⟩
          have b56 : Below w5.heap.size w5 W6 := e6 ▸ (Below.refl _ _).alloc (Nat.le_refl _) _
          have bE : Blk W6 w5.heap.size #[.int .i64 r', .slice Af' nf' cf', .slice An' nn' cn', .slice Ak' nk' ck', .slice Aq' nq' cq', .bool fu2, .int .i64 lf2] 30 := e6 ▸ Blk.new w5 _ _
          obtain ⟨bR6, W7, e7, hP7, t7⟩ := P4.out.done (by omega) HXN.out (o5.newB b56) (st5.newB b56) (r5.newB b56) HFU.out HLF.out
          have BX5 := BX4.out.keep (st5.turn.block _ BX4.out.lt nX.out)
          have BX6 := BX5.keep (b56.block _ BX5.lt)
          have BX7 := Lib.hid (BX6.keep (t7.block _ BX6.lt (by omega)))
          have P7 := Lib.hid hP7
          have a0 := bE.cell 0 rfl
          have a1 := bE.cell 1 rfl
          have a2 := bE.cell 2 rfl
          have a3 := bE.cell 3 rfl
          have a4 := bE.cell 4 rfl
          have a5 := bE.cell 5 rfl
          have a6 := bE.cell 6 rfl
          have d0 := bR6.cell 0 rfl
          have d1 := bR6.cell 1 rfl
          have d2 := bR6.cell 2 rfl
          have d3 := bR6.cell 3 rfl
          have d4 := bR6.cell 4 rfl
          have d5 := bR6.cell 5 rfl
          have d6 := bR6.cell 6 rfl
          have s0 := bR6.frozen 0
          have s1 := bR6.frozen 1
          have s2 := bR6.frozen 2
          have s3 := bR6.frozen 3
          have s4 := bR6.frozen 4
          have s5 := bR6.frozen 5
          have s6 := bR6.frozen 6
          have x1 := BX7.out.cell 1 rfl
          obtain ⟨S2, hS2⟩ : ∃ S2, S.doneM x = S2 := ⟨_, rfl⟩
          rw [hS2] at P7
          have kr := read_own P7.out.own P7.out.ok x.path
          obtain ⟨tx, er, hxr⟩ : ∃ tx er, S2.read x.path = (tx, er) := ⟨_, _, rfl⟩
          rw [hxr] at kr
          have KR := Lib.hid kr
          have HXR := Lib.hid hxr
          have hN : 4 * (k + 1) ≤ 204 := by omega
          have L0 : Hid (S2.now.length ≤ 90000) := Nat.le_trans P7.out.ok.nowN (by omega)
          have L1 : Hid (S2.files.length ≤ 90000) := Nat.le_trans P7.out.ok.filesN (by omega)
          have L2 : Hid (∀ p n, S2.look p = some n → n < S2.files.length) := fun p n e => (P7.out.ok.lookP e).2
          have L3 : Hid (∀ n, (S2.file n).b.length ≤ 1048576) := fun n => (P7.out.ok.fileOk n).2
          have L4 : Hid (∀ x ∈ S2.now, x.1.length ≤ 24) := P7.out.ok.nowP
          clear HD o5 st5 r5 h7 b56 bE bR6 hP7 t7 BX5 BX6 P4 BX4 p0 p1 p2 p3 p4 p5 p6 y0 y1 y2 y3 y4 y5 hS2 kr hxr
          go_wp2_with fail
          refine KR.out.mono ?_
          rintro e w8 ⟨v8, rfl, hown8, hb8⟩
          dsimp only at hown8
          obtain ⟨A8, c8, rfl, hc8, -, -, -⟩ := hown8.open_
          dsimp only at hc8 ⊢
          obtain ⟨lt, hlt8⟩ : ∃ l, tx.length = l := ⟨_, rfl⟩
          rw [hlt8]
          have Z8 := Lib.hid (Hold.of_new (m := m5) hown8 fun k e => (P7.out.own.lt k e).2)
          have P8 := Lib.hid (P7.out.newB hb8)
          have BX8 := Lib.hid (BX7.out.keep (hb8.block _ BX7.out.lt))
          have d0 := P8.out.bR.cell 0 rfl
          have d1 := P8.out.bR.cell 1 rfl
          have d2 := P8.out.bR.cell 2 rfl
          have d3 := P8.out.bR.cell 3 rfl
          have d4 := P8.out.bR.cell 4 rfl
          have d5 := P8.out.bR.cell 5 rfl
          have d6 := P8.out.bR.cell 6 rfl
          have x1' := BX8.out.cell 1 rfl
          have kr := readR_any _ S2 fu2 lf2 _ w8 P8.out.ref P8.out.lt L2.out L0.out L1.out x.path
          rw [HXR.out] at kr
          have KR2 := Lib.hid kr
          have HLT := Lib.hid hlt8
          clear KR hown8 hc8 hb8 hlt8 kr P7 BX7 a0 a1 a2 a3 a4 a5 a6 s0 s1 s2 s3 s4 s5 s6 x1 e6 e7
          go_wp2_with fail
          refine KR2.out.mono ?_
          rintro e w9 ⟨rfl, hb9⟩
          have hd9 : Below w8.heap.size w8 w9.drew := hb9.trans ((below_drew (Below.refl _ _)).mono hb9.size)
          have P9 := Lib.hid (P8.out.newB hd9)
          have Z9 := Lib.hid (Z8.out.newB hd9)
          clear KR2 P8 Z8 BX8 x1' hb9 hd9 d0 d1 d2 d3 d4 d5 d6
          have d9_0 := P9.out.bR.cell 0 rfl
          have d9_1 := P9.out.bR.cell 1 rfl
          have d9_2 := P9.out.bR.cell 2 rfl
          have d9_3 := P9.out.bR.cell 3 rfl
          have d9_4 := P9.out.bR.cell 4 rfl
          have d9_5 := P9.out.bR.cell 5 rfl
          have d9_6 := P9.out.bR.cell 6 rfl
          have cv9 := run_str w9.drew _ A8 lt c8 tx Z9.out.sees HLT.out
          obtain ⟨U, hU⟩ : ∃ U, S2.used = U := ⟨_, rfl⟩
          have ku := used_own P9.out.own P9.out.ok (by omega)
          rw [hU] at ku
          have KU := Lib.hid ku
          have HU := Lib.hid hU
          clear ku hU
          go_wp2_with fail
          refine wp_region_noPanic ?_
          refine wp_region_held_drew (S := fun w' => (w'.cell? ⟨w2.heap.size, 0, none⟩ = some (.int .i64 r') ∧ w'.cell? ⟨w2.heap.size, 1, none⟩ = some (.slice Af' nf' cf') ∧ w'.cell? ⟨w2.heap.size, 2, none⟩ = some (.slice An' nn' cn') ∧ w'.cell? ⟨w2.heap.size, 3, none⟩ = some (.slice Ak' nk' ck') ∧ w'.cell? ⟨w2.heap.size, 4, none⟩ = some (.slice Aq' nq' cq') ∧ w'.cell? ⟨w2.heap.size, 5, none⟩ = some (.bool fu2) ∧ w'.cell? ⟨w2.heap.size, 6, none⟩ = some (.int .i64 lf2)) ∧ (convert 32 9 (.slice A8 lt c8)).run Tryz.prog w' = .ok (.string (strOf tx)) w') (by kernel_rfl) ?_ (fun hHeld => ?_)
          · (exact ⟨⟨d9_0, d9_1, d9_2, d9_3, d9_4, d9_5, d9_6⟩, cv9⟩)
          refine wpAnyH_take (i := 0) (oi := { dst := some 66, op := Op.move (Operand.tmp 14), type := 4, pos := "law.go:125", after := #[], guard := none }) (v := ?_) rfl (by kernel_rfl) (by kernel_rfl) (by kernel_rfl) (fun _ _ _ h => h) (Or.inl ⟨by rfl, ?_⟩) hHeld ?_
          rotate_left
          · (intro w' hSw; (try dsimp only at hSw); go_split_ands; go_simp; first | done | with_reducible rfl)
          try simp only [Act.put, List.setIfInBounds_toArray, List.set_cons_zero, List.set_cons_succ]
          refine wpAnyH_take (i := 1) (oi := { dst := some 67, op := Op.unOp UnOp.not 4 (Operand.tmp 66), type := 4, pos := "law.go:125", after := #[{ on := 0, ground := Ground.data }], guard := none }) (v := ?_) rfl (by kernel_rfl) (by kernel_rfl) (by kernel_rfl) (fun _ _ _ h => h) (Or.inl ⟨by rfl, ?_⟩) hHeld ?_
          rotate_left
          · (intro w' hSw; (try dsimp only at hSw); go_split_ands; go_simp; first | done | with_reducible rfl)
          try simp only [Act.put, List.setIfInBounds_toArray, List.set_cons_zero, List.set_cons_succ]
          refine wpAnyH_take (i := 2) (oi := { dst := some 68, op := Op.move (Operand.tmp 67), type := 4, pos := "law.go:125", after := #[{ on := 1, ground := Ground.data }], guard := none }) (v := ?_) rfl (by kernel_rfl) (by kernel_rfl) (by kernel_rfl) (fun _ _ _ h => h) (Or.inl ⟨by rfl, ?_⟩) hHeld ?_
          rotate_left
          · (intro w' hSw; (try dsimp only at hSw); go_split_ands; go_simp; first | done | with_reducible rfl)
          try simp only [Act.put, List.setIfInBounds_toArray, List.set_cons_zero, List.set_cons_succ]
          refine wpAnyH_take (i := 3) (oi := { dst := some 69, op := Op.move (Operand.tmp 16), type := 38, pos := "law.go:125", after := #[{ on := 2, ground := Ground.guard }], guard := some (2, false) }) (v := ?_) rfl (by kernel_rfl) (by kernel_rfl) (by kernel_rfl) (fun _ _ _ h => h) (Or.inl ⟨by rfl, ?_⟩) hHeld ?_
          rotate_left
          · (intro w' hSw; (try dsimp only at hSw); go_split_ands; go_simp; first | done | with_reducible rfl)
          try simp only [Act.put, List.setIfInBounds_toArray, List.set_cons_zero, List.set_cons_succ]
          refine wpAnyH_take (i := 4) (oi := { dst := some 70, op := Op.move (Operand.tmp 18), type := 38, pos := "law.go:125", after := #[{ on := 2, ground := Ground.guard }], guard := some (2, false) }) (v := ?_) rfl (by kernel_rfl) (by kernel_rfl) (by kernel_rfl) (fun _ _ _ h => h) (Or.inl ⟨by rfl, ?_⟩) hHeld ?_
          rotate_left
          · (intro w' hSw; (try dsimp only at hSw); go_split_ands; go_simp; first | done | with_reducible rfl)
          try simp only [Act.put, List.setIfInBounds_toArray, List.set_cons_zero, List.set_cons_succ]
          refine wpAnyH_take (i := 5) (oi := { dst := some 71, op := Op.binOp BinOp.neq 38 (Operand.tmp 69) (Operand.tmp 70) 38, type := 4, pos := "law.go:125", after := #[{ on := 3, ground := Ground.data }, { on := 4, ground := Ground.data }, { on := 2, ground := Ground.guard }], guard := some (2, false) }) (v := (.bool false)) rfl (by kernel_rfl) (by kernel_rfl) (by kernel_rfl) (fun _ _ _ h => h) (Or.inl ⟨by rfl, ?_⟩) hHeld ?_
          · (intro w' hSw; (try dsimp only at hSw); go_split_ands; go_simp; first | done | with_reducible rfl | simp)
          try simp only [Act.put, List.setIfInBounds_toArray, List.set_cons_zero, List.set_cons_succ]
          refine wpAnyH_take (i := 6) (oi := { dst := some 72, op := Op.pick (Operand.tmp 68) (Operand.const (Value.bool true)) (Operand.tmp 71), type := 4, pos := "law.go:125", after := #[{ on := 2, ground := Ground.data }, { on := 5, ground := Ground.data }], guard := none }) (v := ?_) rfl (by kernel_rfl) (by kernel_rfl) (by kernel_rfl) (fun _ _ _ h => h) (Or.inl ⟨by rfl, ?_⟩) hHeld ?_
          rotate_left
          · (intro w' hSw; (try dsimp only at hSw); go_split_ands; go_simp; first | done | with_reducible rfl)
          try simp only [Act.put, List.setIfInBounds_toArray, List.set_cons_zero, List.set_cons_succ]
          refine wpAnyH_take (i := 7) (oi := { dst := some 73, op := Op.move (Operand.tmp 72), type := 4, pos := "law.go:125", after := #[{ on := 6, ground := Ground.data }, { on := 2, ground := Ground.chain }], guard := none }) (v := ?_) rfl (by kernel_rfl) (by kernel_rfl) (by kernel_rfl) (fun _ _ _ h => h) (Or.inl ⟨by rfl, ?_⟩) hHeld ?_
          rotate_left
          · (intro w' hSw; (try dsimp only at hSw); go_split_ands; go_simp; first | done | with_reducible rfl)
          try simp only [Act.put, List.setIfInBounds_toArray, List.set_cons_zero, List.set_cons_succ]
          refine wpAnyH_take (i := 8) (oi := { dst := some 74, op := Op.move (Operand.tmp 15), type := 32, pos := "law.go:125", after := #[{ on := 7, ground := Ground.guard }], guard := some (7, false) }) (v := ?_) rfl (by kernel_rfl) (by kernel_rfl) (by kernel_rfl) (fun _ _ _ h => h) (Or.inl ⟨by rfl, ?_⟩) hHeld ?_
          rotate_left
          · (intro w' hSw; (try dsimp only at hSw); go_split_ands; go_simp; first | done | with_reducible rfl)
          try simp only [Act.put, List.setIfInBounds_toArray, List.set_cons_zero, List.set_cons_succ]
          refine wpAnyH_take (i := 9) (oi := { dst := some 75, op := Op.convert 32 9 (Operand.tmp 74), type := 9, pos := "law.go:125", after := #[{ on := 8, ground := Ground.data }, { on := 7, ground := Ground.guard }], guard := some (7, false) }) (v := ?_) rfl (by kernel_rfl) (by kernel_rfl) (by kernel_rfl) (fun _ _ _ h => h) (Or.inl ⟨by rfl, ?_⟩) hHeld ?_
          rotate_left
          · (intro w' hSw; (try dsimp only at hSw); go_split_ands; go_simp; first | done | with_reducible rfl)
          try simp only [Act.put, List.setIfInBounds_toArray, List.set_cons_zero, List.set_cons_succ]
          refine wpAnyH_take (i := 10) (oi := { dst := some 76, op := Op.move (Operand.tmp 17), type := 9, pos := "law.go:125", after := #[{ on := 7, ground := Ground.guard }], guard := some (7, false) }) (v := ?_) rfl (by kernel_rfl) (by kernel_rfl) (by kernel_rfl) (fun _ _ _ h => h) (Or.inl ⟨by rfl, ?_⟩) hHeld ?_
          rotate_left
          · (intro w' hSw; (try dsimp only at hSw); go_split_ands; go_simp; first | done | with_reducible rfl)
          try simp only [Act.put, List.setIfInBounds_toArray, List.set_cons_zero, List.set_cons_succ]
          refine wpAnyH_take (i := 11) (oi := { dst := some 77, op := Op.binOp BinOp.neq 9 (Operand.tmp 75) (Operand.tmp 76) 9, type := 4, pos := "law.go:125", after := #[{ on := 9, ground := Ground.data }, { on := 10, ground := Ground.data }, { on := 7, ground := Ground.guard }], guard := some (7, false) }) (v := (.bool false)) rfl (by kernel_rfl) (by kernel_rfl) (by kernel_rfl) (fun _ _ _ h => h) (Or.inl ⟨by rfl, ?_⟩) hHeld ?_
          · (intro w' hSw; (try dsimp only at hSw); go_split_ands; go_simp; first | done | with_reducible rfl | simp)
          try simp only [Act.put, List.setIfInBounds_toArray, List.set_cons_zero, List.set_cons_succ]
          refine wpAnyH_take (i := 12) (oi := { dst := some 78, op := Op.pick (Operand.tmp 73) (Operand.const (Value.bool true)) (Operand.tmp 77), type := 4, pos := "law.go:125", after := #[{ on := 7, ground := Ground.data }, { on := 11, ground := Ground.data }], guard := none }) (v := ?_) rfl (by kernel_rfl) (by kernel_rfl) (by kernel_rfl) (fun _ _ _ h => h) (Or.inl ⟨by rfl, ?_⟩) hHeld ?_
          rotate_left
          · (intro w' hSw; (try dsimp only at hSw); go_split_ands; go_simp; first | done | with_reducible rfl)
          try simp only [Act.put, List.setIfInBounds_toArray, List.set_cons_zero, List.set_cons_succ]
          refine wpAnyH_take (i := 13) (oi := { dst := some 79, op := Op.move (Operand.tmp 78), type := 4, pos := "law.go:125", after := #[{ on := 12, ground := Ground.data }, { on := 7, ground := Ground.chain }], guard := none }) (v := ?_) rfl (by kernel_rfl) (by kernel_rfl) (by kernel_rfl) (fun _ _ _ h => h) (Or.inl ⟨by rfl, ?_⟩) hHeld ?_
          rotate_left
          · (intro w' hSw; (try dsimp only at hSw); go_split_ands; go_simp; first | done | with_reducible rfl)
          try simp only [Act.put, List.setIfInBounds_toArray, List.set_cons_zero, List.set_cons_succ]
          refine wpAnyH_take (i := 14) (oi := { dst := some 80, op := Op.move (Operand.tmp 8), type := 24, pos := "law.go:125", after := #[{ on := 13, ground := Ground.guard }], guard := some (13, false) }) (v := ?_) rfl (by kernel_rfl) (by kernel_rfl) (by kernel_rfl) (fun _ _ _ h => h) (Or.inl ⟨by rfl, ?_⟩) hHeld ?_
          rotate_left
          · (intro w' hSw; (try dsimp only at hSw); go_split_ands; go_simp; first | done | with_reducible rfl)
          try simp only [Act.put, List.setIfInBounds_toArray, List.set_cons_zero, List.set_cons_succ]
          refine wpAnyH_take (i := 16) (oi := { dst := some 82, op := Op.load 30 (Operand.tmp 9), type := 30, pos := "law.go:125", after := #[{ on := 13, ground := Ground.guard }], guard := some (13, false) }) (v := ?_) rfl (by kernel_rfl) (by kernel_rfl) (by kernel_rfl) (fun _ _ _ h => h) (Or.inl ⟨by rfl, ?_⟩) hHeld ?_
          rotate_left
          · (intro w' hSw; (try dsimp only at hSw); go_split_ands; go_simp; first | done | with_reducible rfl)
          try simp only [Act.put, List.setIfInBounds_toArray, List.set_cons_zero, List.set_cons_succ]
          refine wpAnyH_ready (rs := [15]) (by kernel_rfl) (by simp) ?_
          refine AllReadyH.cons (o := { dst := some 81, op := Op.call { callee := Callee.value (Operand.func 15), args := #[Operand.tmp 80], argTypes := #[24] }, type := 3, pos := "law.go:125", after := #[{ on := 14, ground := Ground.data }, { on := 13, ground := Ground.chain }, { on := 13, ground := Ground.guard }], guard := some (13, false) }) rfl (fun K hK => ?_) AllReadyH.nil
          go_simp
          refine KU.out.mono ?_
          rintro e w10 ⟨rfl, hb10⟩
          have P10 := Lib.hid (P9.out.newB hb10)
          have Z10 := Lib.hid (Z9.out.newB hb10)
          have d10_0 := P10.out.bR.cell 0 rfl
          have d10_1 := P10.out.bR.cell 1 rfl
          have d10_2 := P10.out.bR.cell 2 rfl
          have d10_3 := P10.out.bR.cell 3 rfl
          have d10_4 := P10.out.bR.cell 4 rfl
          have d10_5 := P10.out.bR.cell 5 rfl
          have d10_6 := P10.out.bR.cell 6 rfl
          have cv10 := run_str _ _ A8 lt c8 tx Z10.out.sees HLT.out
          have ku := usedR_any _ S2 fu2 lf2 _ w10 P10.out.ref L0.out L1.out L3.out
          rw [HU.out] at ku
          have KU2 := Lib.hid ku
          clear ku hb10 KU
          go_wp2_with fail
          refine hK.out _ _ ?_ ?_
          · (exact ⟨⟨d10_0, d10_1, d10_2, d10_3, d10_4, d10_5, d10_6⟩, cv10⟩)
          clear hK K hHeld; intro hHeld
          try simp only [Act.put, List.setIfInBounds_toArray, List.set_cons_zero, List.set_cons_succ]
          refine wpAnyH_ready (rs := [17]) (by kernel_rfl) (by simp) ?_
          refine AllReadyH.cons (o := { dst := some 83, op := Op.call { callee := Callee.value (Operand.func 16), args := #[Operand.tmp 82], argTypes := #[30] }, type := 3, pos := "law.go:125", after := #[{ on := 16, ground := Ground.data }, { on := 15, ground := Ground.chain }, { on := 13, ground := Ground.guard }], guard := some (13, false) }) rfl (fun K hK => ?_) AllReadyH.nil
          go_simp
          refine KU2.out.mono ?_
          rintro e w11 ⟨rfl, hb11⟩
          have P11 := Lib.hid (P10.out.newB hb11)
          have Z11 := Lib.hid (Z10.out.newB hb11)
          have d11_0 := P11.out.bR.cell 0 rfl
          have d11_1 := P11.out.bR.cell 1 rfl
          have d11_2 := P11.out.bR.cell 2 rfl
          have d11_3 := P11.out.bR.cell 3 rfl
          have d11_4 := P11.out.bR.cell 4 rfl
          have d11_5 := P11.out.bR.cell 5 rfl
          have d11_6 := P11.out.bR.cell 6 rfl
          have cv11 := run_str _ _ A8 lt c8 tx Z11.out.sees HLT.out
          have kp := pending_own P11.out.own
          obtain ⟨r8, Af8, nf8, cf8, An8, nn8, cn8, Ak8, nk8, ck8, Aq8, nq8, cq8, h78⟩ := P11.out.ref.seven
          have hq : S2.chg.length = nq' := by
            have e1 := h78.v_
            simp only [Value.agg.injEq, Array.mk.injEq, List.cons.injEq, Value.slice.injEq] at e1
            rw [e1.2.2.2.2.1.2.1]
            exact h78.lq_
          rw [hq] at kp
          have KP := Lib.hid kp
          clear kp hb11 KU2 h78 hq
          go_wp2_with fail
          refine hK.out _ _ ?_ ?_
          · (exact ⟨⟨d11_0, d11_1, d11_2, d11_3, d11_4, d11_5, d11_6⟩, cv11⟩)
          clear hK K hHeld; intro hHeld
          try simp only [Act.put, List.setIfInBounds_toArray, List.set_cons_zero, List.set_cons_succ]
          refine wpAnyH_take (i := 18) (oi := { dst := some 84, op := Op.binOp BinOp.neq 3 (Operand.tmp 81) (Operand.tmp 83) 3, type := 4, pos := "law.go:125", after := #[{ on := 15, ground := Ground.data }, { on := 17, ground := Ground.data }, { on := 13, ground := Ground.guard }], guard := some (13, false) }) (v := (.bool false)) rfl (by kernel_rfl) (by kernel_rfl) (by kernel_rfl) (fun _ _ _ h => h) (Or.inl ⟨by rfl, ?_⟩) hHeld ?_
          · (intro w' hSw; (try dsimp only at hSw); go_split_ands; go_simp; first | done | with_reducible rfl | simp)
          try simp only [Act.put, List.setIfInBounds_toArray, List.set_cons_zero, List.set_cons_succ]
          refine wpAnyH_take (i := 19) (oi := { dst := some 85, op := Op.pick (Operand.tmp 79) (Operand.const (Value.bool true)) (Operand.tmp 84), type := 4, pos := "law.go:125", after := #[{ on := 13, ground := Ground.data }, { on := 18, ground := Ground.data }], guard := none }) (v := ?_) rfl (by kernel_rfl) (by kernel_rfl) (by kernel_rfl) (fun _ _ _ h => h) (Or.inl ⟨by rfl, ?_⟩) hHeld ?_
          rotate_left
          · (intro w' hSw; (try dsimp only at hSw); go_split_ands; go_simp; first | done | with_reducible rfl)
          try simp only [Act.put, List.setIfInBounds_toArray, List.set_cons_zero, List.set_cons_succ]
          refine wpAnyH_take (i := 20) (oi := { dst := some 86, op := Op.move (Operand.tmp 85), type := 4, pos := "law.go:125", after := #[{ on := 19, ground := Ground.data }, { on := 17, ground := Ground.chain }], guard := none }) (v := ?_) rfl (by kernel_rfl) (by kernel_rfl) (by kernel_rfl) (fun _ _ _ h => h) (Or.inl ⟨by rfl, ?_⟩) hHeld ?_
          rotate_left
          · (intro w' hSw; (try dsimp only at hSw); go_split_ands; go_simp; first | done | with_reducible rfl)
          try simp only [Act.put, List.setIfInBounds_toArray, List.set_cons_zero, List.set_cons_succ]
          refine wpAnyH_take (i := 21) (oi := { dst := some 87, op := Op.move (Operand.tmp 8), type := 24, pos := "law.go:125", after := #[{ on := 20, ground := Ground.guard }], guard := some (20, false) }) (v := ?_) rfl (by kernel_rfl) (by kernel_rfl) (by kernel_rfl) (fun _ _ _ h => h) (Or.inl ⟨by rfl, ?_⟩) hHeld ?_
          rotate_left
          · (intro w' hSw; (try dsimp only at hSw); go_split_ands; go_simp; first | done | with_reducible rfl)
          try simp only [Act.put, List.setIfInBounds_toArray, List.set_cons_zero, List.set_cons_succ]
          refine wpAnyH_take (i := 23) (oi := { dst := some 89, op := Op.fieldAddr 30 (Operand.tmp 9) 4, type := 0, pos := "law.go:125", after := #[{ on := 20, ground := Ground.guard }], guard := some (20, false) }) (v := ?_) rfl (by kernel_rfl) (by kernel_rfl) (by kernel_rfl) (fun _ _ _ h => h) (Or.inl ⟨by rfl, ?_⟩) hHeld ?_
          rotate_left
          · (intro w' hSw; (try dsimp only at hSw); go_split_ands; go_simp; first | done | with_reducible rfl)
          try simp only [Act.put, List.setIfInBounds_toArray, List.set_cons_zero, List.set_cons_succ]
          refine wpAnyH_take (i := 24) (oi := { dst := some 90, op := Op.load 28 (Operand.tmp 89), type := 28, pos := "law.go:125", after := #[{ on := 23, ground := Ground.data }, { on := 20, ground := Ground.guard }], guard := some (20, false) }) (v := ?_) rfl (by kernel_rfl) (by kernel_rfl) (by kernel_rfl) (fun _ _ _ h => h) (Or.inl ⟨by rfl, ?_⟩) hHeld ?_
          rotate_left
          · (intro w' hSw; (try dsimp only at hSw); go_split_ands; go_simp; first | done | with_reducible rfl)
          try simp only [Act.put, List.setIfInBounds_toArray, List.set_cons_zero, List.set_cons_succ]
          refine wpAnyH_take (i := 25) (oi := { dst := some 91, op := Op.call { callee := Callee.builtin Builtin.len, args := #[Operand.tmp 90], argTypes := #[28] }, type := 3, pos := "law.go:125", after := #[{ on := 24, ground := Ground.data }, { on := 20, ground := Ground.guard }], guard := some (20, false) }) (v := ?_) rfl (by kernel_rfl) (by kernel_rfl) (by kernel_rfl) (fun _ _ _ h => h) (Or.inl ⟨by rfl, ?_⟩) hHeld ?_
          rotate_left
          · (intro w' hSw; (try dsimp only at hSw); go_split_ands; go_simp; first | done | with_reducible rfl)
          try simp only [Act.put, List.setIfInBounds_toArray, List.set_cons_zero, List.set_cons_succ]
          refine wpAnyH_ready (rs := [22]) (by kernel_rfl) (by simp) ?_
          refine AllReadyH.cons (o := { dst := some 88, op := Op.call { callee := Callee.value (Operand.func 17), args := #[Operand.tmp 87], argTypes := #[24] }, type := 3, pos := "law.go:125", after := #[{ on := 21, ground := Ground.data }, { on := 20, ground := Ground.chain }, { on := 20, ground := Ground.guard }], guard := some (20, false) }) rfl (fun K hK => ?_) AllReadyH.nil
          go_simp
          refine KP.out.mono ?_
          rintro e w12 ⟨rfl, rfl⟩
          obtain ⟨F1, hF1⟩ : ∃ l, S2.list first = l := ⟨_, rfl⟩
          have hF1l := list_len P11.out.ok first
          rw [hF1] at hF1l
          obtain ⟨n1, hn1⟩ : ∃ n, F1.length = n := ⟨_, rfl⟩
          rw [hn1] at hF1l
          have hn1b : n1 ≤ 204 := by omega
          have kl := list_own P11.out.own P11.out.ok (by omega) first
          rw [hF1] at kl
          have KL := Lib.hid kl
          have HF1 := Lib.hid hF1
          have HN1 := Lib.hid hn1
          clear kl hF1 hF1l hn1 KP
          go_wp2_with fail
          refine hK.out _ _ ?_ ?_
          · (exact ⟨⟨d11_0, d11_1, d11_2, d11_3, d11_4, d11_5, d11_6⟩, cv11⟩)
          clear hK K hHeld; intro hHeld
          try simp only [Act.put, List.setIfInBounds_toArray, List.set_cons_zero, List.set_cons_succ]
          refine wpAnyH_take (i := 26) (oi := { dst := some 92, op := Op.binOp BinOp.neq 3 (Operand.tmp 88) (Operand.tmp 91) 3, type := 4, pos := "law.go:125", after := #[{ on := 22, ground := Ground.data }, { on := 25, ground := Ground.data }, { on := 20, ground := Ground.guard }], guard := some (20, false) }) (v := (.bool false)) rfl (by kernel_rfl) (by kernel_rfl) (by kernel_rfl) (fun _ _ _ h => h) (Or.inl ⟨by rfl, ?_⟩) hHeld ?_
          · (intro w' hSw; (try dsimp only at hSw); go_split_ands; go_simp; first | done | with_reducible rfl | simp)
          try simp only [Act.put, List.setIfInBounds_toArray, List.set_cons_zero, List.set_cons_succ]
          refine wpAnyH_take (i := 27) (oi := { dst := some 93, op := Op.pick (Operand.tmp 86) (Operand.const (Value.bool true)) (Operand.tmp 92), type := 4, pos := "law.go:125", after := #[{ on := 20, ground := Ground.data }, { on := 26, ground := Ground.data }], guard := none }) (v := ?_) rfl (by kernel_rfl) (by kernel_rfl) (by kernel_rfl) (fun _ _ _ h => h) (Or.inl ⟨by rfl, ?_⟩) hHeld ?_
          rotate_left
          · (intro w' hSw; (try dsimp only at hSw); go_split_ands; go_simp; first | done | with_reducible rfl)
          try simp only [Act.put, List.setIfInBounds_toArray, List.set_cons_zero, List.set_cons_succ]
          refine wpAnyH_take (i := 28) (oi := { dst := some 94, op := Op.move (Operand.tmp 93), type := 4, pos := "law.go:125", after := #[{ on := 27, ground := Ground.data }, { on := 22, ground := Ground.chain }], guard := none }) (v := ?_) rfl (by kernel_rfl) (by kernel_rfl) (by kernel_rfl) (fun _ _ _ h => h) (Or.inl ⟨by rfl, ?_⟩) hHeld ?_
          rotate_left
          · (intro w' hSw; (try dsimp only at hSw); go_split_ands; go_simp; first | done | with_reducible rfl)
          try simp only [Act.put, List.setIfInBounds_toArray, List.set_cons_zero, List.set_cons_succ]
          refine wpAnyH_take (i := 29) (oi := { dst := some 95, op := Op.move (Operand.tmp 8), type := 24, pos := "law.go:125", after := #[{ on := 28, ground := Ground.guard }], guard := some (28, false) }) (v := ?_) rfl (by kernel_rfl) (by kernel_rfl) (by kernel_rfl) (fun _ _ _ h => h) (Or.inl ⟨by rfl, ?_⟩) hHeld ?_
          rotate_left
          · (intro w' hSw; (try dsimp only at hSw); go_split_ands; go_simp; first | done | with_reducible rfl)
          try simp only [Act.put, List.setIfInBounds_toArray, List.set_cons_zero, List.set_cons_succ]
          refine wpAnyH_take (i := 30) (oi := { dst := some 96, op := Op.move (Operand.tmp 2), type := 9, pos := "law.go:125", after := #[{ on := 28, ground := Ground.guard }], guard := some (28, false) }) (v := ?_) rfl (by kernel_rfl) (by kernel_rfl) (by kernel_rfl) (fun _ _ _ h => h) (Or.inl ⟨by rfl, ?_⟩) hHeld ?_
          rotate_left
          · (intro w' hSw; (try dsimp only at hSw); go_split_ands; go_simp; first | done | with_reducible rfl)
          try simp only [Act.put, List.setIfInBounds_toArray, List.set_cons_zero, List.set_cons_succ]
          refine wpAnyH_take (i := 32) (oi := { dst := some 98, op := Op.load 30 (Operand.tmp 9), type := 30, pos := "law.go:125", after := #[{ on := 28, ground := Ground.guard }], guard := some (28, false) }) (v := ?_) rfl (by kernel_rfl) (by kernel_rfl) (by kernel_rfl) (fun _ _ _ h => h) (Or.inl ⟨by rfl, ?_⟩) hHeld ?_
          rotate_left
          · (intro w' hSw; (try dsimp only at hSw); go_split_ands; go_simp; first | done | with_reducible rfl)
          try simp only [Act.put, List.setIfInBounds_toArray, List.set_cons_zero, List.set_cons_succ]
          refine wpAnyH_take (i := 33) (oi := { dst := some 99, op := Op.move (Operand.tmp 2), type := 9, pos := "law.go:125", after := #[{ on := 28, ground := Ground.guard }], guard := some (28, false) }) (v := ?_) rfl (by kernel_rfl) (by kernel_rfl) (by kernel_rfl) (fun _ _ _ h => h) (Or.inl ⟨by rfl, ?_⟩) hHeld ?_
          rotate_left
          · (intro w' hSw; (try dsimp only at hSw); go_split_ands; go_simp; first | done | with_reducible rfl)
          try simp only [Act.put, List.setIfInBounds_toArray, List.set_cons_zero, List.set_cons_succ]
          refine wpAnyH_ready (rs := [31]) (by kernel_rfl) (by simp) ?_
          refine AllReadyH.cons (o := { dst := some 97, op := Op.call { callee := Callee.value (Operand.func 19), args := #[Operand.tmp 95, Operand.tmp 96], argTypes := #[24, 9] }, type := 45, pos := "law.go:125", after := #[{ on := 29, ground := Ground.data }, { on := 30, ground := Ground.data }, { on := 28, ground := Ground.chain }, { on := 28, ground := Ground.guard }], guard := some (28, false) }) rfl (fun K hK => ?_) AllReadyH.nil
          go_simp
          refine KL.out.mono ?_
          rintro e w12 ⟨v12, rfl, hown12, hb12⟩
          obtain ⟨B12, k12, rfl, hc12, hh12⟩ := hown12.hold HN1.out (m := m5) fun k e => (P11.out.own.lt k e).2
          have Y12 := Lib.hid hh12
          have P12 := Lib.hid (P11.out.newB hb12)
          have Z12 := Lib.hid (Z11.out.newB hb12)
          have d12_0 := P12.out.bR.cell 0 rfl
          have d12_1 := P12.out.bR.cell 1 rfl
          have d12_2 := P12.out.bR.cell 2 rfl
          have d12_3 := P12.out.bR.cell 3 rfl
          have d12_4 := P12.out.bR.cell 4 rfl
          have d12_5 := P12.out.bR.cell 5 rfl
          have d12_6 := P12.out.bR.cell 6 rfl
          have cv12 := run_str _ _ A8 lt c8 tx Z12.out.sees HLT.out
          have kl := listR2_any _ S2 fu2 lf2 _ _ P12.out.ref L0.out L4.out first
          rw [HF1.out] at kl
          have KM12 := Lib.hid kl
          clear kl hown12 hh12 hb12 KL
          go_wp2_with fail
          refine hK.out _ _ ?_ ?_
          · (exact ⟨⟨d12_0, d12_1, d12_2, d12_3, d12_4, d12_5, d12_6⟩, cv12⟩)
          clear hK K hHeld; intro hHeld
          try simp only [Act.put, List.setIfInBounds_toArray, List.set_cons_zero, List.set_cons_succ]
          refine wpAnyH_ready (rs := [34]) (by kernel_rfl) (by simp) ?_
          refine AllReadyH.cons (o := { dst := some 100, op := Op.call { callee := Callee.value (Operand.func 20), args := #[Operand.tmp 98, Operand.tmp 99], argTypes := #[30, 9] }, type := 45, pos := "law.go:125", after := #[{ on := 32, ground := Ground.data }, { on := 33, ground := Ground.data }, { on := 31, ground := Ground.chain }, { on := 28, ground := Ground.guard }], guard := some (28, false) }) rfl (fun K hK => ?_) AllReadyH.nil
          go_simp
          refine KM12.out.mono ?_
          rintro e w13 ⟨v13, rfl, hown13, hb13⟩
          obtain ⟨B13, k13, rfl, hc13, hh13⟩ := hown13.hold HN1.out (m := m5) fun k e => (P12.out.own.lt k e).2
          have Y13 := Lib.hid (Y12.out.newB hb13)
          have P13 := Lib.hid (P12.out.newB hb13)
          have Z13 := Lib.hid (Z12.out.newB hb13)
          have d13_0 := P13.out.bR.cell 0 rfl
          have d13_1 := P13.out.bR.cell 1 rfl
          have d13_2 := P13.out.bR.cell 2 rfl
          have d13_3 := P13.out.bR.cell 3 rfl
          have d13_4 := P13.out.bR.cell 4 rfl
          have d13_5 := P13.out.bR.cell 5 rfl
          have d13_6 := P13.out.bR.cell 6 rfl
          have cv13 := run_str _ _ A8 lt c8 tx Z13.out.sees HLT.out
          have ks := strings_r B12 B13 n1 k12 n1 k13 F1 F1 HN1.out HN1.out (by omega) _ Y13.out.sees hh13.sees
          rw [decide_eq_true rfl] at ks
          have KT13 := Lib.hid ks
          clear ks hown13 hh13 hb13 KM12
          go_wp2_with fail
          refine hK.out _ _ ?_ ?_
          · (exact ⟨⟨d13_0, d13_1, d13_2, d13_3, d13_4, d13_5, d13_6⟩, cv13⟩)
          clear hK K hHeld; intro hHeld
          try simp only [Act.put, List.setIfInBounds_toArray, List.set_cons_zero, List.set_cons_succ]
          refine wpAnyH_ready (rs := [35]) (by kernel_rfl) (by simp) ?_
          refine AllReadyH.cons (o := { dst := some 101, op := Op.call { callee := Callee.value (Operand.func 18), args := #[Operand.tmp 97, Operand.tmp 100], argTypes := #[45, 45] }, type := 4, pos := "law.go:125", after := #[{ on := 31, ground := Ground.data }, { on := 34, ground := Ground.data }, { on := 34, ground := Ground.chain }, { on := 28, ground := Ground.guard }], guard := some (28, false) }) rfl (fun K hK => ?_) AllReadyH.nil
          go_simp
          refine KT13.out.mono ?_
          rintro e w14 ⟨rfl, hb14⟩
          have P14 := Lib.hid (P13.out.newB hb14)
          have Z14 := Lib.hid (Z13.out.newB hb14)
          have d14_0 := P14.out.bR.cell 0 rfl
          have d14_1 := P14.out.bR.cell 1 rfl
          have d14_2 := P14.out.bR.cell 2 rfl
          have d14_3 := P14.out.bR.cell 3 rfl
          have d14_4 := P14.out.bR.cell 4 rfl
          have d14_5 := P14.out.bR.cell 5 rfl
          have d14_6 := P14.out.bR.cell 6 rfl
          have cv14 := run_str _ _ A8 lt c8 tx Z14.out.sees HLT.out
          obtain ⟨F2, hF2⟩ : ∃ l, S2.list [] = l := ⟨_, rfl⟩
          have hF2l := list_len P14.out.ok []
          rw [hF2] at hF2l
          obtain ⟨n2, hn2⟩ : ∃ n, F2.length = n := ⟨_, rfl⟩
          rw [hn2] at hF2l
          have hn2b : n2 ≤ 204 := by omega
          have kl := list_own P14.out.own P14.out.ok (by omega) []
          rw [hF2] at kl
          have KL2 := Lib.hid kl
          have HF2 := Lib.hid hF2
          have HN2 := Lib.hid hn2
          clear kl hF2 hF2l hn2
          clear hb14 KT13
          go_wp2_with fail
          refine hK.out _ _ ?_ ?_
          · (exact ⟨⟨d14_0, d14_1, d14_2, d14_3, d14_4, d14_5, d14_6⟩, cv14⟩)
          clear hK K hHeld; intro hHeld
          try simp only [Act.put, List.setIfInBounds_toArray, List.set_cons_zero, List.set_cons_succ]
          refine wpAnyH_take (i := 36) (oi := { dst := some 102, op := Op.unOp UnOp.not 4 (Operand.tmp 101), type := 4, pos := "law.go:125", after := #[{ on := 35, ground := Ground.data }, { on := 28, ground := Ground.guard }], guard := some (28, false) }) (v := ?_) rfl (by kernel_rfl) (by kernel_rfl) (by kernel_rfl) (fun _ _ _ h => h) (Or.inl ⟨by rfl, ?_⟩) hHeld ?_
          rotate_left
          · (intro w' hSw; (try dsimp only at hSw); go_split_ands; go_simp; first | done | with_reducible rfl)
          try simp only [Act.put, List.setIfInBounds_toArray, List.set_cons_zero, List.set_cons_succ]
          refine wpAnyH_take (i := 37) (oi := { dst := some 103, op := Op.pick (Operand.tmp 94) (Operand.const (Value.bool true)) (Operand.tmp 102), type := 4, pos := "law.go:125", after := #[{ on := 28, ground := Ground.data }, { on := 36, ground := Ground.data }], guard := none }) (v := ?_) rfl (by kernel_rfl) (by kernel_rfl) (by kernel_rfl) (fun _ _ _ h => h) (Or.inl ⟨by rfl, ?_⟩) hHeld ?_
          rotate_left
          · (intro w' hSw; (try dsimp only at hSw); go_split_ands; go_simp; first | done | with_reducible rfl)
          try simp only [Act.put, List.setIfInBounds_toArray, List.set_cons_zero, List.set_cons_succ]
          refine wpAnyH_take (i := 38) (oi := { dst := some 104, op := Op.move (Operand.tmp 103), type := 4, pos := "law.go:125", after := #[{ on := 37, ground := Ground.data }, { on := 35, ground := Ground.chain }], guard := none }) (v := ?_) rfl (by kernel_rfl) (by kernel_rfl) (by kernel_rfl) (fun _ _ _ h => h) (Or.inl ⟨by rfl, ?_⟩) hHeld ?_
          rotate_left
          · (intro w' hSw; (try dsimp only at hSw); go_split_ands; go_simp; first | done | with_reducible rfl)
          try simp only [Act.put, List.setIfInBounds_toArray, List.set_cons_zero, List.set_cons_succ]
          refine wpAnyH_take (i := 39) (oi := { dst := some 105, op := Op.move (Operand.tmp 8), type := 24, pos := "law.go:125", after := #[{ on := 38, ground := Ground.guard }], guard := some (38, false) }) (v := ?_) rfl (by kernel_rfl) (by kernel_rfl) (by kernel_rfl) (fun _ _ _ h => h) (Or.inl ⟨by rfl, ?_⟩) hHeld ?_
          rotate_left
          · (intro w' hSw; (try dsimp only at hSw); go_split_ands; go_simp; first | done | with_reducible rfl)
          try simp only [Act.put, List.setIfInBounds_toArray, List.set_cons_zero, List.set_cons_succ]
          refine wpAnyH_take (i := 41) (oi := { dst := some 107, op := Op.load 30 (Operand.tmp 9), type := 30, pos := "law.go:125", after := #[{ on := 38, ground := Ground.guard }], guard := some (38, false) }) (v := ?_) rfl (by kernel_rfl) (by kernel_rfl) (by kernel_rfl) (fun _ _ _ h => h) (Or.inl ⟨by rfl, ?_⟩) hHeld ?_
          rotate_left
          · (intro w' hSw; (try dsimp only at hSw); go_split_ands; go_simp; first | done | with_reducible rfl)
          try simp only [Act.put, List.setIfInBounds_toArray, List.set_cons_zero, List.set_cons_succ]
          refine wpAnyH_ready (rs := [40]) (by kernel_rfl) (by simp) ?_
          refine AllReadyH.cons (o := { dst := some 106, op := Op.call { callee := Callee.value (Operand.func 19), args := #[Operand.tmp 105, Operand.const (Value.string { data := #[] })], argTypes := #[24, 9] }, type := 45, pos := "law.go:125", after := #[{ on := 39, ground := Ground.data }, { on := 38, ground := Ground.chain }, { on := 38, ground := Ground.guard }], guard := some (38, false) }) rfl (fun K hK => ?_) AllReadyH.nil
          go_simp
          refine KL2.out.mono ?_
          rintro e w15 ⟨v15, rfl, hown15, hb15⟩
          obtain ⟨B15, k15, rfl, hc15, hh15⟩ := hown15.hold HN2.out (m := m5) fun k e => (P14.out.own.lt k e).2
          have Y15 := Lib.hid hh15
          have P15 := Lib.hid (P14.out.newB hb15)
          have Z15 := Lib.hid (Z14.out.newB hb15)
          have d15_0 := P15.out.bR.cell 0 rfl
          have d15_1 := P15.out.bR.cell 1 rfl
          have d15_2 := P15.out.bR.cell 2 rfl
          have d15_3 := P15.out.bR.cell 3 rfl
          have d15_4 := P15.out.bR.cell 4 rfl
          have d15_5 := P15.out.bR.cell 5 rfl
          have d15_6 := P15.out.bR.cell 6 rfl
          have cv15 := run_str _ _ A8 lt c8 tx Z15.out.sees HLT.out
          have kl := listR2_any _ S2 fu2 lf2 _ _ P15.out.ref L0.out L4.out []
          rw [HF2.out] at kl
          have KM15 := Lib.hid kl
          clear kl hown15 hh15 hb15 KL2
          go_wp2_with fail
          refine hK.out _ _ ?_ ?_
          · (exact ⟨⟨d15_0, d15_1, d15_2, d15_3, d15_4, d15_5, d15_6⟩, cv15⟩)
          clear hK K hHeld; intro hHeld
          try simp only [Act.put, List.setIfInBounds_toArray, List.set_cons_zero, List.set_cons_succ]
          refine wpAnyH_ready (rs := [42]) (by kernel_rfl) (by simp) ?_
          refine AllReadyH.cons (o := { dst := some 108, op := Op.call { callee := Callee.value (Operand.func 20), args := #[Operand.tmp 107, Operand.const (Value.string { data := #[] })], argTypes := #[30, 9] }, type := 45, pos := "law.go:125", after := #[{ on := 41, ground := Ground.data }, { on := 40, ground := Ground.chain }, { on := 38, ground := Ground.guard }], guard := some (38, false) }) rfl (fun K hK => ?_) AllReadyH.nil
          go_simp
          refine KM15.out.mono ?_
          rintro e w16 ⟨v16, rfl, hown16, hb16⟩
          obtain ⟨B16, k16, rfl, hc16, hh16⟩ := hown16.hold HN2.out (m := m5) fun k e => (P15.out.own.lt k e).2
          have Y16 := Lib.hid (Y15.out.newB hb16)
          have P16 := Lib.hid (P15.out.newB hb16)
          have Z16 := Lib.hid (Z15.out.newB hb16)
          have d16_0 := P16.out.bR.cell 0 rfl
          have d16_1 := P16.out.bR.cell 1 rfl
          have d16_2 := P16.out.bR.cell 2 rfl
          have d16_3 := P16.out.bR.cell 3 rfl
          have d16_4 := P16.out.bR.cell 4 rfl
          have d16_5 := P16.out.bR.cell 5 rfl
          have d16_6 := P16.out.bR.cell 6 rfl
          have cv16 := run_str _ _ A8 lt c8 tx Z16.out.sees HLT.out
          have ks := strings_r B15 B16 n2 k15 n2 k16 F2 F2 HN2.out HN2.out (by omega) _ Y16.out.sees hh16.sees
          rw [decide_eq_true rfl] at ks
          have KT16 := Lib.hid ks
          clear ks hown16 hh16 hb16 KM15
          go_wp2_with fail
          refine hK.out _ _ ?_ ?_
          · (exact ⟨⟨d16_0, d16_1, d16_2, d16_3, d16_4, d16_5, d16_6⟩, cv16⟩)
          clear hK K hHeld; intro hHeld
          try simp only [Act.put, List.setIfInBounds_toArray, List.set_cons_zero, List.set_cons_succ]
          refine wpAnyH_ready (rs := [43]) (by kernel_rfl) (by simp) ?_
          refine AllReadyH.cons (o := { dst := some 109, op := Op.call { callee := Callee.value (Operand.func 18), args := #[Operand.tmp 106, Operand.tmp 108], argTypes := #[45, 45] }, type := 4, pos := "law.go:125", after := #[{ on := 40, ground := Ground.data }, { on := 42, ground := Ground.data }, { on := 42, ground := Ground.chain }, { on := 38, ground := Ground.guard }], guard := some (38, false) }) rfl (fun K hK => ?_) AllReadyH.nil
          go_simp
          refine KT16.out.mono ?_
          rintro e w17 ⟨rfl, hb17⟩
          have P17 := Lib.hid (P16.out.newB hb17)
          have Z17 := Lib.hid (Z16.out.newB hb17)
          have d17_0 := P17.out.bR.cell 0 rfl
          have d17_1 := P17.out.bR.cell 1 rfl
          have d17_2 := P17.out.bR.cell 2 rfl
          have d17_3 := P17.out.bR.cell 3 rfl
          have d17_4 := P17.out.bR.cell 4 rfl
          have d17_5 := P17.out.bR.cell 5 rfl
          have d17_6 := P17.out.bR.cell 6 rfl
          have cv17 := run_str _ _ A8 lt c8 tx Z17.out.sees HLT.out
          clear hb17 KT16
          go_wp2_with fail
          refine hK.out _ _ ?_ ?_
          · (exact ⟨⟨d17_0, d17_1, d17_2, d17_3, d17_4, d17_5, d17_6⟩, cv17⟩)
          clear hK K hHeld; intro hHeld
          try simp only [Act.put, List.setIfInBounds_toArray, List.set_cons_zero, List.set_cons_succ]
          refine wpAnyH_take (i := 44) (oi := { dst := some 110, op := Op.unOp UnOp.not 4 (Operand.tmp 109), type := 4, pos := "law.go:125", after := #[{ on := 43, ground := Ground.data }, { on := 38, ground := Ground.guard }], guard := some (38, false) }) (v := ?_) rfl (by kernel_rfl) (by kernel_rfl) (by kernel_rfl) (fun _ _ _ h => h) (Or.inl ⟨by rfl, ?_⟩) hHeld ?_
          rotate_left
          · (intro w' hSw; (try dsimp only at hSw); go_split_ands; go_simp; first | done | with_reducible rfl)
          try simp only [Act.put, List.setIfInBounds_toArray, List.set_cons_zero, List.set_cons_succ]
          refine wpAnyH_take (i := 45) (oi := { dst := some 111, op := Op.pick (Operand.tmp 104) (Operand.const (Value.bool true)) (Operand.tmp 110), type := 4, pos := "law.go:125", after := #[{ on := 38, ground := Ground.data }, { on := 44, ground := Ground.data }], guard := none }) (v := ?_) rfl (by kernel_rfl) (by kernel_rfl) (by kernel_rfl) (fun _ _ _ h => h) (Or.inl ⟨by rfl, ?_⟩) hHeld ?_
          rotate_left
          · (intro w' hSw; (try dsimp only at hSw); go_split_ands; go_simp; first | done | with_reducible rfl)
          try simp only [Act.put, List.setIfInBounds_toArray, List.set_cons_zero, List.set_cons_succ]
          refine wpAnyH_done (by kernel_rfl) ?_ _
          refine NoPanic.normal ?_
          go_wp2
          go_roundg (n - (k + 1))
          case measure => omega
          case rel => exact ⟨k + 1, S2, fu2, lf2, m5, _, by omega, by omega, by go_num, P17.out⟩
      · go_wp2
        go_ret
        exact ⟨rfl, HBW.out⟩
    · go_wp2
      go_ret
      exact ⟨rfl, HBW.out⟩
theorem SimfsPlays_all (room : Int) (A : Option Addr) (n c : Nat) (ls : List ActF) (hn : ls.length = n) (hbn : ∀ x ∈ ls, x.n ≤ 9223372036854775807) (s : ByteArray) (w : World) (hS : ActsF (fun k => k < w.heap.size) w A ls) :
    Calls Tryz.prog 3 #[.int .i64 room, .slice A n c, .string s] w (Gives w (.bool true)) := by
  obtain ⟨p, rfl⟩ := txt_of s
  exact SimfsPlays_any room A n c ls hn hbn p w hS
end Go.Proofs.YteidkmiladkoiaaGreatDoor
