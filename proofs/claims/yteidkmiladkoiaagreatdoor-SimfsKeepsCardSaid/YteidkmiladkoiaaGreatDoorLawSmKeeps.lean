/-
  The law SimfsKeeps, walked.
-/
import Derived.Test.YteidkmiladkoiaaGreatDoorLawSmLinks
namespace Go.Proofs.YteidkmiladkoiaaGreatDoor
open Go.RowKit

set_option maxRecDepth 100000 in
set_option maxHeartbeats 3200000 in
theorem SimfsKeeps_any (A0 : Option Addr) (n0 c0 : Nat) (ls : List ActF) (h0 : ls.length = n0) (A1 : Option Addr) (n1 c1 : Nat) (b : Txt) (h1 : b.length = n1) (hc1 : n1 ≤ c1)
    (x0 x1 x2 x3 : Value) (N K0 : Int) (w : World) (hS0 : ActsF (fun k => k < w.heap.size) w A0 ls) (hS1 : Sees w w.heap.size A1 (bv b)) :
    Calls Tryz.prog 4 #[.slice A0 n0 c0, .slice A1 n1 c1, .agg #[x0, x1, x2, x3, .int .i64 N, .int .i64 K0]] w (Gives w (.bool true)) := by
  have kc := run_const
  obtain ⟨W1, hW1⟩ : ∃ W1, w.alloc (.cells #[x0, x1, x2, x3, .int .i64 N, .int .i64 K0] 34) = W1 := ⟨_, rfl⟩
  have hb1 : Below w.heap.size w W1 := hW1 ▸ (Below.refl _ w).alloc (Nat.le_refl _) _
  have q4 : W1.cell? ⟨w.heap.size, 4, none⟩ = some (.int .i64 N) := by rw [← hW1, World.cell?_alloc_at _ _ _ _ rfl]; rfl
  have q5 : W1.cell? ⟨w.heap.size, 5, none⟩ = some (.int .i64 K0) := by rw [← hW1, World.cell?_alloc_at _ _ _ _ rfl]; rfl
  have hs1 : w.heap.size < W1.heap.size := by rw [← hW1]; simp
  have Q4 := Lib.hid q4
  have Q5 := Lib.hid q5
  have hA := Lib.hid (awake_any W1)
  have HS0 := Lib.hid (hS0.below hb1)
  have HS1 := Lib.hid ((hS1.below hb1).more hb1.size)
  clear q4 q5 hS0 hS1
  go_enter Tryz.func4, Tryz.ntmps4
  go_wp2_with fail
  refine hA.out.mono ?_
  rintro en w2 ⟨rfl, hb2⟩
  have b2 : Below w.heap.size w w2 := hb1.trans (hb2.mono hb1.size)
  clear hA
  by_cases g1 : (200 : Int) < n1
  · go_wp2
    go_ret
    exact ⟨rfl, b2⟩
  have hbeh := Lib.hid (behind_any A0 n0 c0 ls h0 w2 (HS0.out.below hb2))
  go_wp2_with fail
  refine hbeh.out.mono ?_
  rintro e w3 ⟨f, S, m3, rfl, hB, o3⟩
  have ZB_3 := Lib.hid (Hold.of_old ((HS1.out.below hb2).more hb2.size |>.below o3.below) o3.below.size o3.lt)
  have O3 := Lib.hid o3
  have HB := Lib.hid hB
  have Hh1 := Lib.hid h1
  have BB := Lib.hid b2
  have BC : Hid (Below W1.heap.size W1 w2) := hb2
  clear hbeh o3 HS0 HS1 h0 h1 hB b2 hb2
  cases hK : S.look nmKept with
  | some n =>
    have hgo : S.go (·.create nmKept) = (S, 61) := by
      rw [go_eq HB.out.fuse]
      unfold FsM.create
      rw [if_neg (by rw [right_kept]; decide), hK]
      rfl
    have Hgo := Lib.hid hgo
    clear hK hgo
    have k3 := create_own O3.out HB.out.ok (by omega) nmKept (by simp [nmKept])
    rw [Hgo.out] at k3
    have K3 := Lib.hid k3
    clear k3
    go_wp2_with fail
    refine K3.out.mono ?_
    rintro e w4 ⟨rfl, m4, o4, st4⟩
    have O4 := Lib.hid o4
    have ZB_4 := Lib.hid (ZB_3.out.step st4)
    clear K3 o4 st4 O3 ZB_3
    obtain ⟨E4, hE4⟩ : ∃ E : Nat, (S.read nmLater).2 = E := ⟨_, rfl⟩
    obtain ⟨X4, hX4⟩ : ∃ X : Txt, (S.read nmLater).1 = X := ⟨_, rfl⟩
    have hr4 : S.read nmLater = (X4, E4) := by rw [← hE4, ← hX4]
    have Hr4 := Lib.hid hr4
    clear hE4 hX4 hr4
    have k4 := read_own O4.out HB.out.ok nmLater
    rw [Hr4.out] at k4
    have K4 := Lib.hid k4
    clear k4
    go_wp2_with fail
    refine K4.out.mono ?_
    rintro e w5 ⟨v5, rfl, hown5, hb5⟩
    dsimp only at hown5
    obtain ⟨A5, c5, rfl, hc5, -, -, -⟩ := hown5.open_
    dsimp only at hc5 ⊢
    have ZP_5 := Lib.hid (Hold.of_new hown5 fun k e => (O4.out.lt k e).2)
    have O5 := Lib.hid (O4.out.newB hb5)
    have ZB_5 := Lib.hid (ZB_4.out.newB hb5)
    clear K4 hb5 hown5 O4 ZB_4
    have HZ := Lib.hid (BB.out.trans (O5.out.below.mono BB.out.size))
    go_wp2
    go_ret
    exact ⟨rfl, HZ.out⟩
  | none =>
    cases hL : S.look nmLater with
    | some n2 =>
      have hgo := create_is HB.out.fuse right_kept hK
      obtain ⟨S1, hS1⟩ : ∃ S1, (S.more).change [(nmKept, some S.files.length)] = S1 := ⟨_, rfl⟩
      have hl1 : S1.look nmLater = some n2 := by rw [← hS1, look_change (S := S.more) HB.out.ok.nowR, if_neg (show ¬ nmLater = nmKept from by decide)]; exact hL
      rw [hS1] at hgo
      have o1 : FsOk 204 S1 := by have := go_ok HB.out.ok (act := (·.create nmKept)) (M := 204) (fun T h => (h.create _).mono (by omega)) (by omega); rwa [hgo] at this
      have hr : S1.read nmLater = ((S1.file n2).b, 0) := by unfold FsM.read; rw [hl1]
      obtain ⟨X4, hX4⟩ : ∃ X, (S1.file n2).b = X := ⟨_, rfl⟩
      rw [hX4] at hr
      have Hgo := Lib.hid hgo
      have Hr4 := Lib.hid hr
      have Ho1 := Lib.hid o1
      clear hgo hr o1 hl1 hS1 hX4 hK hL
      have k3 := create_own O3.out HB.out.ok (by omega) nmKept (by simp [nmKept])
      rw [Hgo.out] at k3
      have K3 := Lib.hid k3
      clear k3
      go_wp2_with fail
      refine K3.out.mono ?_
      rintro e w4 ⟨rfl, m4, o4, st4⟩
      have O4 := Lib.hid o4
      have ZB_4 := Lib.hid (ZB_3.out.step st4)
      clear K3 o4 st4 O3 ZB_3
      have k4 := read_own O4.out Ho1.out nmLater
      rw [Hr4.out] at k4
      have K4 := Lib.hid k4
      clear k4
      go_wp2_with fail
      refine K4.out.mono ?_
      rintro e w5 ⟨v5, rfl, hown5, hb5⟩
      dsimp only at hown5
      obtain ⟨A5, c5, rfl, hc5, -, -, -⟩ := hown5.open_
      dsimp only at hc5 ⊢
      have ZP_5 := Lib.hid (Hold.of_new hown5 fun k e => (O4.out.lt k e).2)
      have O5 := Lib.hid (O4.out.newB hb5)
      have ZB_5 := Lib.hid (ZB_4.out.newB hb5)
      clear K4 hb5 hown5 O4 ZB_4
      have HZ := Lib.hid (BB.out.trans (O5.out.below.mono BB.out.size))
      go_wp2
      go_ret
      exact ⟨rfl, HZ.out⟩
    | none =>
      obtain ⟨S1, S2, S3, S4, S5, S6, p1, p2, p3, p4, p5, p6, ⟨oo1, oo2, oo3, oo4, oo5, oo6⟩, hl1, hfin⟩ := keeps_chain HB.out (b := b) (by have := Hh1.out; omega) hK hL
      obtain ⟨f1, f2, f3⟩ := hfin N.toNat K0.toNat
      have r1 : S1.read nmLater = ([], 60) := by unfold FsM.read; rw [hl1]
      obtain ⟨j, hj⟩ : ∃ j, min K0.toNat 4 = j := ⟨_, rfl⟩
      rw [hj] at f1
      have hjI : min (max K0 0) 4 = (j : Int) := by omega
      have hj4 : j ≤ 4 := by omega
      obtain ⟨S7, hS7⟩ : ∃ S7, S6.crash N.toNat K0.toNat = S7 := ⟨_, rfl⟩
      rw [hS7] at f1 f2 f3
      have oo7 : FsOk 300 S7 := by rw [← hS7]; exact oo6.crash _ _
      obtain ⟨LE, hLE⟩ : ∃ E : Nat, (if 1 ≤ N.toNat then 0 else 60) = E := ⟨_, rfl⟩
      rw [hLE] at f2
      obtain ⟨X9, hX9⟩ : ∃ X : Txt, (S7.read nmLater).1 = X := ⟨_, rfl⟩
      have f2' : S7.read nmLater = (X9, LE) := by rw [← f2, ← hX9]
      have f3' : S7.chg.length = 0 := by rw [f3]; rfl
      have hLE' : Hid ((1 ≤ N ∧ LE = 0) ∨ (N < 1 ∧ LE = 60)) := by unfold Hid; rw [← hLE]; split <;> omega
      obtain ⟨kx, hkx⟩ : ∃ x, b ++ nmMore.take j = x := ⟨_, rfl⟩
      rw [hkx] at f1
      have Hp1 := Lib.hid p1
      have Hp2 := Lib.hid p2
      have Hp3 := Lib.hid p3
      have Hp4 := Lib.hid p4
      have Hp5 := Lib.hid p5
      have Hp6 := Lib.hid p6
      have Hr1 := Lib.hid r1
      have Hoo1 := Lib.hid oo1
      have Hoo2 := Lib.hid oo2
      have Hoo3 := Lib.hid oo3
      have Hoo4 := Lib.hid oo4
      have Hoo5 := Lib.hid oo5
      have Hoo6 := Lib.hid oo6
      have Hoo7 := Lib.hid oo7
      have Hf1 := Lib.hid f1
      have Hf2 := Lib.hid f2'
      have Hf3 := Lib.hid f3'
      have HS7 := Lib.hid hS7
      have Hkx := Lib.hid hkx
      clear p1 p2 p3 p4 p5 p6 r1 oo1 oo2 oo3 oo4 oo5 oo6 oo7 f1 f2 f2' f3 f3' hS7 hkx hLE hX9 hj hl1 hfin hK hL
      have k3 := create_own O3.out HB.out.ok (by omega) nmKept (by simp [nmKept])
      rw [Hp1.out] at k3
      have K3 := Lib.hid k3
      clear k3
      go_wp2_with fail
      refine K3.out.mono ?_
      rintro e w4 ⟨rfl, m4, o4, st4⟩
      have O4 := Lib.hid o4
      have ZB_4 := Lib.hid (ZB_3.out.step st4)
      clear K3 o4 st4 O3 ZB_3
      have k4 := read_own O4.out Hoo1.out nmLater
      rw [Hr1.out] at k4
      have K4 := Lib.hid k4
      clear k4
      go_wp2_with fail
      refine K4.out.mono ?_
      rintro e w5 ⟨v5, rfl, hown5, hb5⟩
      dsimp only at hown5
      obtain ⟨A5, c5, rfl, hc5, -, -, -⟩ := hown5.open_
      dsimp only at hc5 ⊢
      have ZP_5 := Lib.hid (Hold.of_new hown5 fun k e => (O4.out.lt k e).2)
      have O5 := Lib.hid (O4.out.newB hb5)
      have ZB_5 := Lib.hid (ZB_4.out.newB hb5)
      clear K4 hb5 hown5 O4 ZB_4
      have k5 := append_own O5.out Hoo1.out (by omega) nmKept A1 n1 c1 b Hh1.out hc1 (by omega) ZB_5.out
      rw [Hp2.out] at k5
      have K5 := Lib.hid k5
      clear k5
      go_wp2_with fail
      refine K5.out.mono ?_
      rintro e w6 ⟨rfl, m6, o6, st6⟩
      have O6 := Lib.hid o6
      have ZB_6 := Lib.hid (ZB_5.out.step st6)
      have ZP_6 := Lib.hid (ZP_5.out.step st6)
      clear K5 o6 st6 O5 ZB_5 ZP_5
      have k6 := sync_own O6.out Hoo2.out nmKept
      rw [Hp3.out] at k6
      have K6 := Lib.hid k6
      clear k6
      go_wp2_with fail
      refine K6.out.mono ?_
      rintro e w7 ⟨rfl, m7, o7, st7⟩
      have O7 := Lib.hid o7
      have ZB_7 := Lib.hid (ZB_6.out.step st7)
      have ZP_7 := Lib.hid (ZP_6.out.step st7)
      clear K6 o7 st7 O6 ZB_6 ZP_6
      have k7 := syncDir_own O7.out Hoo3.out
      rw [Hp4.out] at k7
      have K7 := Lib.hid k7
      clear k7
      go_wp2_with fail
      refine K7.out.mono ?_
      rintro e w8 ⟨rfl, m8, o8, st8⟩
      have O8 := Lib.hid o8
      have ZB_8 := Lib.hid (ZB_7.out.step st8)
      have ZP_8 := Lib.hid (ZP_7.out.step st8)
      clear K7 o8 st8 O7 ZB_7 ZP_7
      have k8 := append_lit O8.out Hoo4.out (by omega) nmKept 4 nmMore rfl (by omega) #[.int .u8 109, .int .u8 111, .int .u8 114, .int .u8 101] 5 (4, 5) (by simp [bv, nmMore])
      rw [Hp5.out] at k8
      have K8 := Lib.hid k8
      clear k8
      go_wp2_with fail
      refine K8.out.mono ?_
      rintro e w9 ⟨rfl, m9, o9, st9⟩
      have O9 := Lib.hid o9
      have ZB_9 := Lib.hid (ZB_8.out.step st9)
      have ZP_9 := Lib.hid (ZP_8.out.step st9)
      clear K8 o9 st9 O8 ZB_8 ZP_8
      have k9 := create_own O9.out Hoo5.out (by omega) nmLater (by simp [nmLater])
      rw [Hp6.out] at k9
      have K9 := Lib.hid k9
      clear k9
      go_wp2_with fail
      refine K9.out.mono ?_
      rintro e w10 ⟨rfl, m10, o10, st10⟩
      have O10 := Lib.hid o10
      have ZB_10 := Lib.hid (ZB_9.out.step st10)
      have ZP_10 := Lib.hid (ZP_9.out.step st10)
      clear K9 o10 st10 O9 ZB_9 ZP_9
      have b10 : Below W1.heap.size W1 w10 := BC.out.trans (O10.out.below.mono BC.out.size)
      have q4 := (b10.cell hs1).trans Q4.out
      have q5 := (b10.cell hs1).trans Q5.out
      have k10 := crash_own O10.out Hoo6.out (by omega) N K0
      rw [HS7.out] at k10
      have K10 := Lib.hid k10
      clear k10
      go_wp2_with fail
      refine K10.out.mono ?_
      rintro e w11 ⟨⟨v11, rfl⟩, m11, o11, st11⟩
      have O11 := Lib.hid o11
      have ZB_11 := Lib.hid (ZB_10.out.step st11)
      have ZP_11 := Lib.hid (ZP_10.out.step st11)
      clear K10 o11 st11 O10 ZB_10 ZP_10
      clear q4 q5 b10
      have k11 := read_own O11.out Hoo7.out nmKept
      rw [Hf1.out] at k11
      have K11 := Lib.hid k11
      clear k11
      go_wp2_with fail
      refine K11.out.mono ?_
      rintro e w12 ⟨v12, rfl, hown12, hb12⟩
      dsimp only at hown12
      obtain ⟨A12, c12, rfl, hc12, -, -, -⟩ := hown12.open_
      dsimp only at hc12 ⊢
      have ZX_12 := Lib.hid (Hold.of_new hown12 fun k e => (O11.out.lt k e).2)
      have O12 := Lib.hid (O11.out.newB hb12)
      have ZB_12 := Lib.hid (ZB_11.out.newB hb12)
      have ZP_12 := Lib.hid (ZP_11.out.newB hb12)
      clear K11 hb12 hown12 O11 ZB_11 ZP_11
      have b12 : Below W1.heap.size W1 w12 := BC.out.trans (O12.out.below.mono BC.out.size)
      have q5 := (b12.cell hs1).trans Q5.out
      have k12 := read_own O12.out Hoo7.out nmLater
      rw [Hf2.out] at k12
      have K12 := Lib.hid k12
      clear k12
      go_wp2_with fail
      refine K12.out.mono ?_
      rintro e w13 ⟨v13, rfl, hown13, hb13⟩
      dsimp only at hown13
      obtain ⟨A13, c13, rfl, hc13, -, -, -⟩ := hown13.open_
      dsimp only at hc13 ⊢
      have ZY_13 := Lib.hid (Hold.of_new hown13 fun k e => (O12.out.lt k e).2)
      have O13 := Lib.hid (O12.out.newB hb13)
      have ZB_13 := Lib.hid (ZB_12.out.newB hb13)
      have ZP_13 := Lib.hid (ZP_12.out.newB hb13)
      have ZX_13 := Lib.hid (ZX_12.out.newB hb13)
      clear K12 hb13 hown13 O12 ZB_12 ZP_12 ZX_12
      clear q5 b12
      obtain ⟨lx, hlx⟩ : ∃ l, kx.length = l := ⟨_, rfl⟩
      rw [hlx]
      have b13 : Below W1.heap.size W1 w13 := BC.out.trans (O13.out.below.mono BC.out.size)
      have q4 : w13.drew.cell? ⟨w.heap.size, 4, none⟩ = some (.int .i64 N) := (b13.cell hs1).trans Q4.out
      have hd := below_drew (Below.refl w13.heap.size w13)
      have cv1 := run_str w13.drew _ A1 n1 c1 b (ZB_13.out.newB hd).sees Hh1.out
      have cv2 := run_str w13.drew _ A12 lx c12 kx (ZX_13.out.newB hd).sees hlx
      rw [← Hkx.out, strOf_append, ← strOf_take] at cv2
      have sz1 := strOf_size b
      rw [Hh1.out] at sz1
      generalize strOf b = sb at cv1 cv2 sz1
      have zz1 : (sb.size : Int) = (n1 : Int) := by omega
      have sm : strOf nmMore = { data := #[109, 111, 114, 101] } := rfl
      rw [sm] at cv2
      obtain ⟨sj, hsj⟩ : ∃ s, ({ data := #[109, 111, 114, 101] } : ByteArray).extract 0 j = s := ⟨_, rfl⟩
      rw [hsj] at cv2
      have zj : sj.size = j := by rw [← hsj]; simp [ByteArray.size]; omega
      have zz2 : (sj.size : Int) = (j : Int) := by omega
      have hj4I : (j : Int) ≤ 4 := by omega
      have hcat : ¬ 9223372036854775807 < sb.size + sj.size := by omega
      have hpd := Lib.hid (fun q => pending_own (O13.out.newB (below_d (Below.refl _ _) q)))
      have HZ := Lib.hid (BB.out.trans (O13.out.below.mono BB.out.size))
      obtain ⟨cvB, hcvB⟩ : ∃ P : World → Prop, ∀ w', P w' ↔ (convert 32 9 (.slice A1 n1 c1)).run Tryz.prog w' = .ok (.string sb) w' := ⟨_, fun _ => Iff.rfl⟩
      clear hcvB cvB
      clear sz1 zj ZB_13 ZP_13 ZX_13 ZY_13 b13 hd sm hlx
      rcases hLE'.out with ⟨hN, rfl⟩ | ⟨hN, rfl⟩
      · go_wp2_with fail
        refine wp_region_noPanic ?_
        refine wp_region_held_drew (S := fun w' => (w'.cell? ⟨w.heap.size, 4, none⟩ = some (.int .i64 N) ∧ (convert 32 9 (.slice A1 n1 c1)).run Tryz.prog w' = .ok (.string sb) w') ∧ (convert 32 9 (.slice A12 lx c12)).run Tryz.prog w' = .ok (.string (sb ++ sj)) w') (by kernel_rfl) ?_ (fun hHeld => ?_)
        · (exact ⟨⟨q4, cv1⟩, cv2⟩)
        refine wpAnyH_take (i := 0) (oi := { dst := some 92, op := Op.move (Operand.tmp 15), type := 32, pos := "law.go:172", after := #[], guard := none }) (v := ?_) rfl (by kernel_rfl) (by kernel_rfl) (by kernel_rfl) (fun _ _ _ h => h) (Or.inl ⟨by rfl, ?_⟩) hHeld ?_
        rotate_left
        · (intro w' hSw; (try dsimp only at hSw); go_split_ands; go_simp; first | done | with_reducible rfl)
        try simp only [Act.put, List.setIfInBounds_toArray, List.set_cons_zero, List.set_cons_succ]
        refine wpAnyH_take (i := 1) (oi := { dst := some 93, op := Op.convert 32 9 (Operand.tmp 92), type := 9, pos := "law.go:172", after := #[{ on := 0, ground := Ground.data }], guard := none }) (v := ?_) rfl (by kernel_rfl) (by kernel_rfl) (by kernel_rfl) (fun _ _ _ h => h) (Or.inl ⟨by rfl, ?_⟩) hHeld ?_
        rotate_left
        · (intro w' hSw; (try dsimp only at hSw); go_split_ands; go_simp; first | done | with_reducible rfl)
        try simp only [Act.put, List.setIfInBounds_toArray, List.set_cons_zero, List.set_cons_succ]
        refine wpAnyH_take (i := 2) (oi := { dst := some 94, op := Op.move (Operand.tmp 1), type := 32, pos := "law.go:172", after := #[], guard := none }) (v := ?_) rfl (by kernel_rfl) (by kernel_rfl) (by kernel_rfl) (fun _ _ _ h => h) (Or.inl ⟨by rfl, ?_⟩) hHeld ?_
        rotate_left
        · (intro w' hSw; (try dsimp only at hSw); go_split_ands; go_simp; first | done | with_reducible rfl)
        try simp only [Act.put, List.setIfInBounds_toArray, List.set_cons_zero, List.set_cons_succ]
        refine wpAnyH_take (i := 3) (oi := { dst := some 95, op := Op.convert 32 9 (Operand.tmp 94), type := 9, pos := "law.go:172", after := #[{ on := 2, ground := Ground.data }], guard := none }) (v := ?_) rfl (by kernel_rfl) (by kernel_rfl) (by kernel_rfl) (fun _ _ _ h => h) (Or.inl ⟨by rfl, ?_⟩) hHeld ?_
        rotate_left
        · (intro w' hSw; (try dsimp only at hSw); go_split_ands; go_simp; first | done | with_reducible rfl)
        try simp only [Act.put, List.setIfInBounds_toArray, List.set_cons_zero, List.set_cons_succ]
        refine wpAnyH_take (i := 4) (oi := { dst := some 96, op := Op.move (Operand.tmp 17), type := 3, pos := "law.go:172", after := #[], guard := none }) (v := ?_) rfl (by kernel_rfl) (by kernel_rfl) (by kernel_rfl) (fun _ _ _ h => h) (Or.inl ⟨by rfl, ?_⟩) hHeld ?_
        rotate_left
        · (intro w' hSw; (try dsimp only at hSw); go_split_ands; go_simp; first | done | with_reducible rfl)
        try simp only [Act.put, List.setIfInBounds_toArray, List.set_cons_zero, List.set_cons_succ]
        refine wpAnyH_take (i := 5) (oi := { dst := some 97, op := Op.slice 9 (Operand.const (Value.string { data := #[109, 111, 114, 101] })) none (some (Operand.tmp 96)) none, type := 9, pos := "law.go:172", after := #[{ on := 4, ground := Ground.data }], guard := none }) (v := ?_) rfl (by kernel_rfl) (by kernel_rfl) (by kernel_rfl) (fun _ _ _ h => h) (Or.inl ⟨by rfl, ?_⟩) hHeld ?_
        rotate_left
        · (intro w' hSw; (try dsimp only at hSw); go_split_ands; go_simp; first | done | with_reducible rfl)
        try simp only [Act.put, List.setIfInBounds_toArray, List.set_cons_zero, List.set_cons_succ]
        refine wpAnyH_take (i := 6) (oi := { dst := some 98, op := Op.binOp BinOp.add 9 (Operand.tmp 95) (Operand.tmp 97) 9, type := 9, pos := "law.go:172", after := #[{ on := 3, ground := Ground.data }, { on := 5, ground := Ground.data }], guard := none }) (v := ?_) rfl (by kernel_rfl) (by kernel_rfl) (by kernel_rfl) (fun _ _ _ h => h) (Or.inl ⟨by rfl, ?_⟩) hHeld ?_
        rotate_left
        · (intro w' hSw; (try dsimp only at hSw); go_split_ands; go_simp; first | done | with_reducible rfl)
        try simp only [Act.put, List.setIfInBounds_toArray, List.set_cons_zero, List.set_cons_succ]
        refine wpAnyH_take (i := 7) (oi := { dst := some 99, op := Op.binOp BinOp.eql 9 (Operand.tmp 93) (Operand.tmp 98) 9, type := 4, pos := "law.go:172", after := #[{ on := 1, ground := Ground.data }, { on := 6, ground := Ground.data }], guard := none }) (v := (.bool true)) rfl (by kernel_rfl) (by kernel_rfl) (by kernel_rfl) (fun _ _ _ h => h) (Or.inl ⟨by rfl, ?_⟩) hHeld ?_
        · (intro w' hSw; (try dsimp only at hSw); go_split_ands; go_simp; first | done | with_reducible rfl | simp)
        try simp only [Act.put, List.setIfInBounds_toArray, List.set_cons_zero, List.set_cons_succ]
        refine wpAnyH_take (i := 8) (oi := { dst := some 100, op := Op.move (Operand.tmp 99), type := 4, pos := "law.go:172", after := #[{ on := 7, ground := Ground.data }], guard := none }) (v := ?_) rfl (by kernel_rfl) (by kernel_rfl) (by kernel_rfl) (fun _ _ _ h => h) (Or.inl ⟨by rfl, ?_⟩) hHeld ?_
        rotate_left
        · (intro w' hSw; (try dsimp only at hSw); go_split_ands; go_simp; first | done | with_reducible rfl)
        try simp only [Act.put, List.setIfInBounds_toArray, List.set_cons_zero, List.set_cons_succ]
        refine wpAnyH_take (i := 9) (oi := { dst := some 101, op := Op.move (Operand.tmp 19), type := 38, pos := "law.go:172", after := #[{ on := 8, ground := Ground.guard }], guard := some (8, true) }) (v := ?_) rfl (by kernel_rfl) (by kernel_rfl) (by kernel_rfl) (fun _ _ _ h => h) (Or.inl ⟨by rfl, ?_⟩) hHeld ?_
        rotate_left
        · (intro w' hSw; (try dsimp only at hSw); go_split_ands; go_simp; first | done | with_reducible rfl)
        try simp only [Act.put, List.setIfInBounds_toArray, List.set_cons_zero, List.set_cons_succ]
        refine wpAnyH_take (i := 10) (oi := { dst := some 102, op := Op.binOp BinOp.eql 38 (Operand.tmp 101) (Operand.const (Value.int IntKind.i64 0)) 38, type := 4, pos := "law.go:172", after := #[{ on := 9, ground := Ground.data }, { on := 8, ground := Ground.guard }], guard := some (8, true) }) (v := (.bool true)) rfl (by kernel_rfl) (by kernel_rfl) (by kernel_rfl) (fun _ _ _ h => h) (Or.inl ⟨by rfl, ?_⟩) hHeld ?_
        · (intro w' hSw; (try dsimp only at hSw); go_split_ands; go_simp; first | done | with_reducible rfl | simp)
        try simp only [Act.put, List.setIfInBounds_toArray, List.set_cons_zero, List.set_cons_succ]
        refine wpAnyH_take (i := 11) (oi := { dst := some 103, op := Op.fieldAddr 34 (Operand.tmp 5) 4, type := 0, pos := "law.go:172", after := #[{ on := 8, ground := Ground.guard }], guard := some (8, true) }) (v := ?_) rfl (by kernel_rfl) (by kernel_rfl) (by kernel_rfl) (fun _ _ _ h => h) (Or.inl ⟨by rfl, ?_⟩) hHeld ?_
        rotate_left
        · (intro w' hSw; (try dsimp only at hSw); go_split_ands; go_simp; first | done | with_reducible rfl)
        try simp only [Act.put, List.setIfInBounds_toArray, List.set_cons_zero, List.set_cons_succ]
        refine wpAnyH_take (i := 12) (oi := { dst := some 104, op := Op.load 3 (Operand.tmp 103), type := 3, pos := "law.go:172", after := #[{ on := 11, ground := Ground.data }, { on := 8, ground := Ground.guard }], guard := some (8, true) }) (v := ?_) rfl (by kernel_rfl) (by kernel_rfl) (by kernel_rfl) (fun _ _ _ h => h) (Or.inl ⟨by rfl, ?_⟩) hHeld ?_
        rotate_left
        · (intro w' hSw; (try dsimp only at hSw); go_split_ands; go_simp; first | done | with_reducible rfl)
        try simp only [Act.put, List.setIfInBounds_toArray, List.set_cons_zero, List.set_cons_succ]
        refine wpAnyH_take (i := 13) (oi := { dst := some 105, op := Op.binOp BinOp.geq 3 (Operand.tmp 104) (Operand.const (Value.int IntKind.i64 1)) 3, type := 4, pos := "law.go:172", after := #[{ on := 12, ground := Ground.data }, { on := 8, ground := Ground.guard }], guard := some (8, true) }) (v := (.bool true)) rfl (by kernel_rfl) (by kernel_rfl) (by kernel_rfl) (fun _ _ _ h => h) (Or.inl ⟨by rfl, ?_⟩) hHeld ?_
        · (intro w' hSw; (try dsimp only at hSw); go_split_ands; go_simp; first | done | with_reducible rfl | (simp; omega))
        try simp only [Act.put, List.setIfInBounds_toArray, List.set_cons_zero, List.set_cons_succ]
        refine wpAnyH_take (i := 14) (oi := { dst := some 106, op := Op.binOp BinOp.eql 4 (Operand.tmp 102) (Operand.tmp 105) 4, type := 4, pos := "law.go:172", after := #[{ on := 10, ground := Ground.data }, { on := 13, ground := Ground.data }, { on := 8, ground := Ground.guard }], guard := some (8, true) }) (v := (.bool true)) rfl (by kernel_rfl) (by kernel_rfl) (by kernel_rfl) (fun _ _ _ h => h) (Or.inl ⟨by rfl, ?_⟩) hHeld ?_
        · (intro w' hSw; (try dsimp only at hSw); go_split_ands; go_simp; first | done | with_reducible rfl | simp)
        try simp only [Act.put, List.setIfInBounds_toArray, List.set_cons_zero, List.set_cons_succ]
        refine wpAnyH_take (i := 15) (oi := { dst := some 107, op := Op.pick (Operand.tmp 100) (Operand.tmp 106) (Operand.const (Value.bool false)), type := 4, pos := "law.go:172", after := #[{ on := 8, ground := Ground.data }, { on := 14, ground := Ground.data }], guard := none }) (v := ?_) rfl (by kernel_rfl) (by kernel_rfl) (by kernel_rfl) (fun _ _ _ h => h) (Or.inl ⟨by rfl, ?_⟩) hHeld ?_
        rotate_left
        · (intro w' hSw; (try dsimp only at hSw); go_split_ands; go_simp; first | done | with_reducible rfl)
        try simp only [Act.put, List.setIfInBounds_toArray, List.set_cons_zero, List.set_cons_succ]
        refine wpAnyH_take (i := 16) (oi := { dst := some 108, op := Op.move (Operand.tmp 107), type := 4, pos := "law.go:172", after := #[{ on := 15, ground := Ground.data }, { on := 8, ground := Ground.chain }], guard := none }) (v := ?_) rfl (by kernel_rfl) (by kernel_rfl) (by kernel_rfl) (fun _ _ _ h => h) (Or.inl ⟨by rfl, ?_⟩) hHeld ?_
        rotate_left
        · (intro w' hSw; (try dsimp only at hSw); go_split_ands; go_simp; first | done | with_reducible rfl)
        try simp only [Act.put, List.setIfInBounds_toArray, List.set_cons_zero, List.set_cons_succ]
        refine wpAnyH_take (i := 17) (oi := { dst := some 109, op := Op.move (Operand.tmp 8), type := 24, pos := "law.go:172", after := #[{ on := 16, ground := Ground.guard }], guard := some (16, true) }) (v := ?_) rfl (by kernel_rfl) (by kernel_rfl) (by kernel_rfl) (fun _ _ _ h => h) (Or.inl ⟨by rfl, ?_⟩) hHeld ?_
        rotate_left
        · (intro w' hSw; (try dsimp only at hSw); go_split_ands; go_simp; first | done | with_reducible rfl)
        try simp only [Act.put, List.setIfInBounds_toArray, List.set_cons_zero, List.set_cons_succ]
        refine wpAnyH_ready (rs := [18]) (by kernel_rfl) (by simp) ?_
        refine AllReadyH.cons (o := { dst := some 110, op := Op.call { callee := Callee.value (Operand.func 17), args := #[Operand.tmp 109], argTypes := #[24] }, type := 3, pos := "law.go:172", after := #[{ on := 17, ground := Ground.data }, { on := 16, ground := Ground.chain }, { on := 16, ground := Ground.guard }], guard := some (16, true) }) rfl (fun K hK => ?_) AllReadyH.nil
        go_simp
        refine (hpd.out 1).mono ?_
        rintro e wz ⟨rfl, rfl⟩
        rw [Hf3.out]
        go_wp2_with fail
        refine hK.out _ _ ?_ ?_
        · (exact ⟨⟨q4, cv1⟩, cv2⟩)
        clear hK K hHeld; intro hHeld
        try simp only [Act.put, List.setIfInBounds_toArray, List.set_cons_zero, List.set_cons_succ]
        refine wpAnyH_take (i := 19) (oi := { dst := some 111, op := Op.binOp BinOp.eql 3 (Operand.tmp 110) (Operand.const (Value.int IntKind.i64 0)) 3, type := 4, pos := "law.go:172", after := #[{ on := 18, ground := Ground.data }, { on := 16, ground := Ground.guard }], guard := some (16, true) }) (v := ?_) rfl (by kernel_rfl) (by kernel_rfl) (by kernel_rfl) (fun _ _ _ h => h) (Or.inl ⟨by rfl, ?_⟩) hHeld ?_
        rotate_left
        · (intro w' hSw; (try dsimp only at hSw); go_split_ands; go_simp; first | done | with_reducible rfl)
        try simp only [Act.put, List.setIfInBounds_toArray, List.set_cons_zero, List.set_cons_succ]
        refine wpAnyH_take (i := 20) (oi := { dst := some 112, op := Op.pick (Operand.tmp 108) (Operand.tmp 111) (Operand.const (Value.bool false)), type := 4, pos := "law.go:172", after := #[{ on := 16, ground := Ground.data }, { on := 19, ground := Ground.data }], guard := none }) (v := ?_) rfl (by kernel_rfl) (by kernel_rfl) (by kernel_rfl) (fun _ _ _ h => h) (Or.inl ⟨by rfl, ?_⟩) hHeld ?_
        rotate_left
        · (intro w' hSw; (try dsimp only at hSw); go_split_ands; go_simp; first | done | with_reducible rfl)
        try simp only [Act.put, List.setIfInBounds_toArray, List.set_cons_zero, List.set_cons_succ]
        refine wpAnyH_take (i := 21) (oi := { dst := some 6, op := Op.assign (Operand.tmp 112), type := 4, pos := "law.go:172", after := #[{ on := 20, ground := Ground.data }, { on := 18, ground := Ground.chain }, { on := 0, ground := Ground.phase }, { on := 1, ground := Ground.phase }, { on := 2, ground := Ground.phase }, { on := 3, ground := Ground.phase }, { on := 4, ground := Ground.phase }, { on := 5, ground := Ground.phase }, { on := 6, ground := Ground.phase }, { on := 7, ground := Ground.phase }, { on := 8, ground := Ground.phase }, { on := 9, ground := Ground.phase }, { on := 10, ground := Ground.phase }, { on := 11, ground := Ground.phase }, { on := 12, ground := Ground.phase }, { on := 13, ground := Ground.phase }, { on := 14, ground := Ground.phase }, { on := 15, ground := Ground.phase }, { on := 16, ground := Ground.phase }, { on := 17, ground := Ground.phase }, { on := 18, ground := Ground.phase }, { on := 19, ground := Ground.phase }, { on := 20, ground := Ground.phase }], guard := none }) (v := ?_) rfl (by kernel_rfl) (by kernel_rfl) (by kernel_rfl) (fun _ _ _ h => h) (Or.inl ⟨by rfl, ?_⟩) hHeld ?_
        rotate_left
        · (intro w' hSw; (try dsimp only at hSw); go_split_ands; go_simp; first | done | with_reducible rfl)
        try simp only [Act.put, List.setIfInBounds_toArray, List.set_cons_zero, List.set_cons_succ]
        refine wpAnyH_done (by kernel_rfl) ?_ _
        refine NoPanic.normal ?_
        go_wp2
        go_ret
        exact ⟨rfl, below_d HZ.out _⟩
      · go_wp2_with fail
        refine wp_region_noPanic ?_
        refine wp_region_held_drew (S := fun w' => (w'.cell? ⟨w.heap.size, 4, none⟩ = some (.int .i64 N) ∧ (convert 32 9 (.slice A1 n1 c1)).run Tryz.prog w' = .ok (.string sb) w') ∧ (convert 32 9 (.slice A12 lx c12)).run Tryz.prog w' = .ok (.string (sb ++ sj)) w') (by kernel_rfl) ?_ (fun hHeld => ?_)
        · (exact ⟨⟨q4, cv1⟩, cv2⟩)
        refine wpAnyH_take (i := 0) (oi := { dst := some 92, op := Op.move (Operand.tmp 15), type := 32, pos := "law.go:172", after := #[], guard := none }) (v := ?_) rfl (by kernel_rfl) (by kernel_rfl) (by kernel_rfl) (fun _ _ _ h => h) (Or.inl ⟨by rfl, ?_⟩) hHeld ?_
        rotate_left
        · (intro w' hSw; (try dsimp only at hSw); go_split_ands; go_simp; first | done | with_reducible rfl)
        try simp only [Act.put, List.setIfInBounds_toArray, List.set_cons_zero, List.set_cons_succ]
        refine wpAnyH_take (i := 1) (oi := { dst := some 93, op := Op.convert 32 9 (Operand.tmp 92), type := 9, pos := "law.go:172", after := #[{ on := 0, ground := Ground.data }], guard := none }) (v := ?_) rfl (by kernel_rfl) (by kernel_rfl) (by kernel_rfl) (fun _ _ _ h => h) (Or.inl ⟨by rfl, ?_⟩) hHeld ?_
        rotate_left
        · (intro w' hSw; (try dsimp only at hSw); go_split_ands; go_simp; first | done | with_reducible rfl)
        try simp only [Act.put, List.setIfInBounds_toArray, List.set_cons_zero, List.set_cons_succ]
        refine wpAnyH_take (i := 2) (oi := { dst := some 94, op := Op.move (Operand.tmp 1), type := 32, pos := "law.go:172", after := #[], guard := none }) (v := ?_) rfl (by kernel_rfl) (by kernel_rfl) (by kernel_rfl) (fun _ _ _ h => h) (Or.inl ⟨by rfl, ?_⟩) hHeld ?_
        rotate_left
        · (intro w' hSw; (try dsimp only at hSw); go_split_ands; go_simp; first | done | with_reducible rfl)
        try simp only [Act.put, List.setIfInBounds_toArray, List.set_cons_zero, List.set_cons_succ]
        refine wpAnyH_take (i := 3) (oi := { dst := some 95, op := Op.convert 32 9 (Operand.tmp 94), type := 9, pos := "law.go:172", after := #[{ on := 2, ground := Ground.data }], guard := none }) (v := ?_) rfl (by kernel_rfl) (by kernel_rfl) (by kernel_rfl) (fun _ _ _ h => h) (Or.inl ⟨by rfl, ?_⟩) hHeld ?_
        rotate_left
        · (intro w' hSw; (try dsimp only at hSw); go_split_ands; go_simp; first | done | with_reducible rfl)
        try simp only [Act.put, List.setIfInBounds_toArray, List.set_cons_zero, List.set_cons_succ]
        refine wpAnyH_take (i := 4) (oi := { dst := some 96, op := Op.move (Operand.tmp 17), type := 3, pos := "law.go:172", after := #[], guard := none }) (v := ?_) rfl (by kernel_rfl) (by kernel_rfl) (by kernel_rfl) (fun _ _ _ h => h) (Or.inl ⟨by rfl, ?_⟩) hHeld ?_
        rotate_left
        · (intro w' hSw; (try dsimp only at hSw); go_split_ands; go_simp; first | done | with_reducible rfl)
        try simp only [Act.put, List.setIfInBounds_toArray, List.set_cons_zero, List.set_cons_succ]
        refine wpAnyH_take (i := 5) (oi := { dst := some 97, op := Op.slice 9 (Operand.const (Value.string { data := #[109, 111, 114, 101] })) none (some (Operand.tmp 96)) none, type := 9, pos := "law.go:172", after := #[{ on := 4, ground := Ground.data }], guard := none }) (v := ?_) rfl (by kernel_rfl) (by kernel_rfl) (by kernel_rfl) (fun _ _ _ h => h) (Or.inl ⟨by rfl, ?_⟩) hHeld ?_
        rotate_left
        · (intro w' hSw; (try dsimp only at hSw); go_split_ands; go_simp; first | done | with_reducible rfl)
        try simp only [Act.put, List.setIfInBounds_toArray, List.set_cons_zero, List.set_cons_succ]
        refine wpAnyH_take (i := 6) (oi := { dst := some 98, op := Op.binOp BinOp.add 9 (Operand.tmp 95) (Operand.tmp 97) 9, type := 9, pos := "law.go:172", after := #[{ on := 3, ground := Ground.data }, { on := 5, ground := Ground.data }], guard := none }) (v := ?_) rfl (by kernel_rfl) (by kernel_rfl) (by kernel_rfl) (fun _ _ _ h => h) (Or.inl ⟨by rfl, ?_⟩) hHeld ?_
        rotate_left
        · (intro w' hSw; (try dsimp only at hSw); go_split_ands; go_simp; first | done | with_reducible rfl)
        try simp only [Act.put, List.setIfInBounds_toArray, List.set_cons_zero, List.set_cons_succ]
        refine wpAnyH_take (i := 7) (oi := { dst := some 99, op := Op.binOp BinOp.eql 9 (Operand.tmp 93) (Operand.tmp 98) 9, type := 4, pos := "law.go:172", after := #[{ on := 1, ground := Ground.data }, { on := 6, ground := Ground.data }], guard := none }) (v := (.bool true)) rfl (by kernel_rfl) (by kernel_rfl) (by kernel_rfl) (fun _ _ _ h => h) (Or.inl ⟨by rfl, ?_⟩) hHeld ?_
        · (intro w' hSw; (try dsimp only at hSw); go_split_ands; go_simp; first | done | with_reducible rfl | simp)
        try simp only [Act.put, List.setIfInBounds_toArray, List.set_cons_zero, List.set_cons_succ]
        refine wpAnyH_take (i := 8) (oi := { dst := some 100, op := Op.move (Operand.tmp 99), type := 4, pos := "law.go:172", after := #[{ on := 7, ground := Ground.data }], guard := none }) (v := ?_) rfl (by kernel_rfl) (by kernel_rfl) (by kernel_rfl) (fun _ _ _ h => h) (Or.inl ⟨by rfl, ?_⟩) hHeld ?_
        rotate_left
        · (intro w' hSw; (try dsimp only at hSw); go_split_ands; go_simp; first | done | with_reducible rfl)
        try simp only [Act.put, List.setIfInBounds_toArray, List.set_cons_zero, List.set_cons_succ]
        refine wpAnyH_take (i := 9) (oi := { dst := some 101, op := Op.move (Operand.tmp 19), type := 38, pos := "law.go:172", after := #[{ on := 8, ground := Ground.guard }], guard := some (8, true) }) (v := ?_) rfl (by kernel_rfl) (by kernel_rfl) (by kernel_rfl) (fun _ _ _ h => h) (Or.inl ⟨by rfl, ?_⟩) hHeld ?_
        rotate_left
        · (intro w' hSw; (try dsimp only at hSw); go_split_ands; go_simp; first | done | with_reducible rfl)
        try simp only [Act.put, List.setIfInBounds_toArray, List.set_cons_zero, List.set_cons_succ]
        refine wpAnyH_take (i := 10) (oi := { dst := some 102, op := Op.binOp BinOp.eql 38 (Operand.tmp 101) (Operand.const (Value.int IntKind.i64 0)) 38, type := 4, pos := "law.go:172", after := #[{ on := 9, ground := Ground.data }, { on := 8, ground := Ground.guard }], guard := some (8, true) }) (v := (.bool false)) rfl (by kernel_rfl) (by kernel_rfl) (by kernel_rfl) (fun _ _ _ h => h) (Or.inl ⟨by rfl, ?_⟩) hHeld ?_
        · (intro w' hSw; (try dsimp only at hSw); go_split_ands; go_simp; first | done | with_reducible rfl | simp)
        try simp only [Act.put, List.setIfInBounds_toArray, List.set_cons_zero, List.set_cons_succ]
        refine wpAnyH_take (i := 11) (oi := { dst := some 103, op := Op.fieldAddr 34 (Operand.tmp 5) 4, type := 0, pos := "law.go:172", after := #[{ on := 8, ground := Ground.guard }], guard := some (8, true) }) (v := ?_) rfl (by kernel_rfl) (by kernel_rfl) (by kernel_rfl) (fun _ _ _ h => h) (Or.inl ⟨by rfl, ?_⟩) hHeld ?_
        rotate_left
        · (intro w' hSw; (try dsimp only at hSw); go_split_ands; go_simp; first | done | with_reducible rfl)
        try simp only [Act.put, List.setIfInBounds_toArray, List.set_cons_zero, List.set_cons_succ]
        refine wpAnyH_take (i := 12) (oi := { dst := some 104, op := Op.load 3 (Operand.tmp 103), type := 3, pos := "law.go:172", after := #[{ on := 11, ground := Ground.data }, { on := 8, ground := Ground.guard }], guard := some (8, true) }) (v := ?_) rfl (by kernel_rfl) (by kernel_rfl) (by kernel_rfl) (fun _ _ _ h => h) (Or.inl ⟨by rfl, ?_⟩) hHeld ?_
        rotate_left
        · (intro w' hSw; (try dsimp only at hSw); go_split_ands; go_simp; first | done | with_reducible rfl)
        try simp only [Act.put, List.setIfInBounds_toArray, List.set_cons_zero, List.set_cons_succ]
        refine wpAnyH_take (i := 13) (oi := { dst := some 105, op := Op.binOp BinOp.geq 3 (Operand.tmp 104) (Operand.const (Value.int IntKind.i64 1)) 3, type := 4, pos := "law.go:172", after := #[{ on := 12, ground := Ground.data }, { on := 8, ground := Ground.guard }], guard := some (8, true) }) (v := (.bool false)) rfl (by kernel_rfl) (by kernel_rfl) (by kernel_rfl) (fun _ _ _ h => h) (Or.inl ⟨by rfl, ?_⟩) hHeld ?_
        · (intro w' hSw; (try dsimp only at hSw); go_split_ands; go_simp; first | done | with_reducible rfl | (simp; omega))
        try simp only [Act.put, List.setIfInBounds_toArray, List.set_cons_zero, List.set_cons_succ]
        refine wpAnyH_take (i := 14) (oi := { dst := some 106, op := Op.binOp BinOp.eql 4 (Operand.tmp 102) (Operand.tmp 105) 4, type := 4, pos := "law.go:172", after := #[{ on := 10, ground := Ground.data }, { on := 13, ground := Ground.data }, { on := 8, ground := Ground.guard }], guard := some (8, true) }) (v := (.bool true)) rfl (by kernel_rfl) (by kernel_rfl) (by kernel_rfl) (fun _ _ _ h => h) (Or.inl ⟨by rfl, ?_⟩) hHeld ?_
        · (intro w' hSw; (try dsimp only at hSw); go_split_ands; go_simp; first | done | with_reducible rfl | simp)
        try simp only [Act.put, List.setIfInBounds_toArray, List.set_cons_zero, List.set_cons_succ]
        refine wpAnyH_take (i := 15) (oi := { dst := some 107, op := Op.pick (Operand.tmp 100) (Operand.tmp 106) (Operand.const (Value.bool false)), type := 4, pos := "law.go:172", after := #[{ on := 8, ground := Ground.data }, { on := 14, ground := Ground.data }], guard := none }) (v := ?_) rfl (by kernel_rfl) (by kernel_rfl) (by kernel_rfl) (fun _ _ _ h => h) (Or.inl ⟨by rfl, ?_⟩) hHeld ?_
        rotate_left
        · (intro w' hSw; (try dsimp only at hSw); go_split_ands; go_simp; first | done | with_reducible rfl)
        try simp only [Act.put, List.setIfInBounds_toArray, List.set_cons_zero, List.set_cons_succ]
        refine wpAnyH_take (i := 16) (oi := { dst := some 108, op := Op.move (Operand.tmp 107), type := 4, pos := "law.go:172", after := #[{ on := 15, ground := Ground.data }, { on := 8, ground := Ground.chain }], guard := none }) (v := ?_) rfl (by kernel_rfl) (by kernel_rfl) (by kernel_rfl) (fun _ _ _ h => h) (Or.inl ⟨by rfl, ?_⟩) hHeld ?_
        rotate_left
        · (intro w' hSw; (try dsimp only at hSw); go_split_ands; go_simp; first | done | with_reducible rfl)
        try simp only [Act.put, List.setIfInBounds_toArray, List.set_cons_zero, List.set_cons_succ]
        refine wpAnyH_take (i := 17) (oi := { dst := some 109, op := Op.move (Operand.tmp 8), type := 24, pos := "law.go:172", after := #[{ on := 16, ground := Ground.guard }], guard := some (16, true) }) (v := ?_) rfl (by kernel_rfl) (by kernel_rfl) (by kernel_rfl) (fun _ _ _ h => h) (Or.inl ⟨by rfl, ?_⟩) hHeld ?_
        rotate_left
        · (intro w' hSw; (try dsimp only at hSw); go_split_ands; go_simp; first | done | with_reducible rfl)
        try simp only [Act.put, List.setIfInBounds_toArray, List.set_cons_zero, List.set_cons_succ]
        refine wpAnyH_ready (rs := [18]) (by kernel_rfl) (by simp) ?_
        refine AllReadyH.cons (o := { dst := some 110, op := Op.call { callee := Callee.value (Operand.func 17), args := #[Operand.tmp 109], argTypes := #[24] }, type := 3, pos := "law.go:172", after := #[{ on := 17, ground := Ground.data }, { on := 16, ground := Ground.chain }, { on := 16, ground := Ground.guard }], guard := some (16, true) }) rfl (fun K hK => ?_) AllReadyH.nil
        go_simp
        refine (hpd.out 1).mono ?_
        rintro e wz ⟨rfl, rfl⟩
        rw [Hf3.out]
        go_wp2_with fail
        refine hK.out _ _ ?_ ?_
        · (exact ⟨⟨q4, cv1⟩, cv2⟩)
        clear hK K hHeld; intro hHeld
        try simp only [Act.put, List.setIfInBounds_toArray, List.set_cons_zero, List.set_cons_succ]
        refine wpAnyH_take (i := 19) (oi := { dst := some 111, op := Op.binOp BinOp.eql 3 (Operand.tmp 110) (Operand.const (Value.int IntKind.i64 0)) 3, type := 4, pos := "law.go:172", after := #[{ on := 18, ground := Ground.data }, { on := 16, ground := Ground.guard }], guard := some (16, true) }) (v := ?_) rfl (by kernel_rfl) (by kernel_rfl) (by kernel_rfl) (fun _ _ _ h => h) (Or.inl ⟨by rfl, ?_⟩) hHeld ?_
        rotate_left
        · (intro w' hSw; (try dsimp only at hSw); go_split_ands; go_simp; first | done | with_reducible rfl)
        try simp only [Act.put, List.setIfInBounds_toArray, List.set_cons_zero, List.set_cons_succ]
        refine wpAnyH_take (i := 20) (oi := { dst := some 112, op := Op.pick (Operand.tmp 108) (Operand.tmp 111) (Operand.const (Value.bool false)), type := 4, pos := "law.go:172", after := #[{ on := 16, ground := Ground.data }, { on := 19, ground := Ground.data }], guard := none }) (v := ?_) rfl (by kernel_rfl) (by kernel_rfl) (by kernel_rfl) (fun _ _ _ h => h) (Or.inl ⟨by rfl, ?_⟩) hHeld ?_
        rotate_left
        · (intro w' hSw; (try dsimp only at hSw); go_split_ands; go_simp; first | done | with_reducible rfl)
        try simp only [Act.put, List.setIfInBounds_toArray, List.set_cons_zero, List.set_cons_succ]
        refine wpAnyH_take (i := 21) (oi := { dst := some 6, op := Op.assign (Operand.tmp 112), type := 4, pos := "law.go:172", after := #[{ on := 20, ground := Ground.data }, { on := 18, ground := Ground.chain }, { on := 0, ground := Ground.phase }, { on := 1, ground := Ground.phase }, { on := 2, ground := Ground.phase }, { on := 3, ground := Ground.phase }, { on := 4, ground := Ground.phase }, { on := 5, ground := Ground.phase }, { on := 6, ground := Ground.phase }, { on := 7, ground := Ground.phase }, { on := 8, ground := Ground.phase }, { on := 9, ground := Ground.phase }, { on := 10, ground := Ground.phase }, { on := 11, ground := Ground.phase }, { on := 12, ground := Ground.phase }, { on := 13, ground := Ground.phase }, { on := 14, ground := Ground.phase }, { on := 15, ground := Ground.phase }, { on := 16, ground := Ground.phase }, { on := 17, ground := Ground.phase }, { on := 18, ground := Ground.phase }, { on := 19, ground := Ground.phase }, { on := 20, ground := Ground.phase }], guard := none }) (v := ?_) rfl (by kernel_rfl) (by kernel_rfl) (by kernel_rfl) (fun _ _ _ h => h) (Or.inl ⟨by rfl, ?_⟩) hHeld ?_
        rotate_left
        · (intro w' hSw; (try dsimp only at hSw); go_split_ands; go_simp; first | done | with_reducible rfl)
        try simp only [Act.put, List.setIfInBounds_toArray, List.set_cons_zero, List.set_cons_succ]
        refine wpAnyH_done (by kernel_rfl) ?_ _
        refine NoPanic.normal ?_
        go_wp2
        go_ret
        exact ⟨rfl, below_d HZ.out _⟩

end Go.Proofs.YteidkmiladkoiaaGreatDoor
