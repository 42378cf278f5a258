/-
  The law SimfsNone, walked.
-/
import Derived.Test.YteidkmiladkoiaaGreatDoorLawSmTwice
namespace Go.Proofs.YteidkmiladkoiaaGreatDoor
open Go.RowKit

/-- Two of them, each in blocks of its own. -/
structure Two (w0 W : World) (f g : Nat) (S T : FsM) (mf mg : Nat → Prop) : Prop where
  l : OwnE w0 W f S mf
  r : OwnE w0 W g T mg
  apart : ∀ k, mg k → ¬ mf k
section
variable {w0 W W' : World} {f g : Nat} {S T T' : FsM} {m mf mg : Nat → Prop}
theorem Pair2.two (h : Pair2 w0 W f g S T m) : ∃ mf mg, Two w0 W f g S T mf mg ∧ ∀ k, mg k → m k := by
  obtain ⟨c, F, c2, G, h1, h2, h3, h4⟩ := h.out
  exact ⟨_, _, ⟨OwnE.of h1, OwnE.of h2, fun k e e2 => (h3 k).elim (fun e3 => e2 e3) (fun e3 => e e3)⟩, fun k e => h4 k (.inr e)⟩
theorem Two.newB (h : Two w0 W f g S T mf mg) (hb : Below W.heap.size W W') : Two w0 W' f g S T mf mg := ⟨h.l.newB hb, h.r.newB hb, h.apart⟩
theorem Two.own (h : Two w0 W f g S T mf mg) {mg' : Nat → Prop} (o : OwnE w0 W' g T' mg') (st : Stp mg W mg' W') : Two w0 W' f g S T' mf mg' :=
  ⟨h.l.other st.turn fun k e => ⟨h.apart k e, (h.r.lt k e).1⟩, o, fun k e e2 => by
    rcases st.new k e with e3 | e3
    · exact h.apart k e3 e2
    · have := (h.l.lt k e2).2; omega⟩
end
def nmNew : Txt := [98, 114, 97, 110, 100, 46, 110, 101, 119]

set_option maxRecDepth 100000 in
set_option maxHeartbeats 3200000 in
theorem SimfsNone_any (p : Txt) (A0 : Option Addr) (n0 c0 : Nat) (ls : List ActF) (h0 : ls.length = n0) (x : ActF) (A : Option Addr) (lb c : Nat) (hb : x.b.length = lb) (hc : lb ≤ c)
    (w : World) (hS0 : ActsF (fun k => k < w.heap.size) w A0 ls) (hS1 : Sees w w.heap.size A (bv x.b)) :
    Calls Tryz.prog 7 #[.string (strOf p), .slice A0 n0 c0, x.val A lb c] w (Gives w (.bool true)) := by
  have kc := run_const
  unfold ActF.val
  obtain ⟨W1, hW1⟩ : ∃ W1, w.alloc (.cells #[.int .i64 x.kind, .string (strOf x.path), .string (strOf x.into), .slice A lb c, .int .i64 x.n, .int .i64 x.by_] 34) = W1 := ⟨_, rfl⟩
  have hb1 : Below w.heap.size w W1 := hW1 ▸ (Below.refl _ w).alloc (Nat.le_refl _) _
  have bX : Blk W1 w.heap.size #[.int .i64 x.kind, .string (strOf x.path), .string (strOf x.into), .slice A lb c, .int .i64 x.n, .int .i64 x.by_] 34 := hW1 ▸ Blk.new w _ _
  have hs1 : w.heap.size < W1.heap.size := bX.lt
  have BX := Lib.hid bX
  have hA := Lib.hid (awake_any W1)
  have HS0 := Lib.hid (hS0.below hb1)
  have HS1 := Lib.hid ((hS1.below hb1).more hb1.size)
  have hsp := strOf_size p
  have HSP := Lib.hid hsp
  obtain ⟨sp, hsp2⟩ : ∃ s, strOf p = s := ⟨_, rfl⟩
  have HS2 := Lib.hid hsp2
  rw [hsp2]
  rw [hsp2] at hsp
  obtain ⟨np, hnp⟩ : ∃ n, sp.size = n := ⟨_, rfl⟩
  clear bX hS0 hS1 hsp hsp2
  go_enter Tryz.func7, Tryz.ntmps7
  go_wp2_with fail
  refine hA.out.mono ?_
  rintro en w2 ⟨rfl, hb2⟩
  have b2 : Below w.heap.size w w2 := hb1.trans (hb2.mono hb1.size)
  have BX2 := Lib.hid (BX.out.keep (hb2.block _ BX.out.lt))
  have y0 := BX2.out.cell 0 rfl
  have y1 := BX2.out.cell 1 rfl
  have y2 := BX2.out.cell 2 rfl
  have y3 := BX2.out.cell 3 rfl
  have y4 := BX2.out.cell 4 rfl
  have y5 := BX2.out.cell 5 rfl
  have hfew := fewF_any x A lb c hb w2
  unfold ActF.val at hfew
  obtain ⟨fw, hfw⟩ : ∃ fw, fewF x = fw := ⟨_, rfl⟩
  rw [hfw] at hfew
  have HF := Lib.hid hfew
  have HFW := Lib.hid hfw
  have HB := Lib.hid hb
  have HSA := Lib.hid ((HS1.out.below hb2).more hb2.size)
  have HSB := Lib.hid (HS0.out.below hb2)
  clear hA hfew hfw hb HS0 HS1
  go_wp2_with fail
  refine HF.out.mono ?_
  rintro e w3 ⟨rfl, hb3⟩
  have b3 : Below w.heap.size w w3 := b2.trans (hb3.mono b2.size)
  have BX3 := Lib.hid (BX2.out.keep (hb3.block _ BX2.out.lt))
  have HSA3 := Lib.hid ((HSA.out.below hb3).more hb3.size)
  have HSB3 := Lib.hid (HSB.out.below hb3)
  clear HF HSA HSB BX2 y0 y1 y2 y3 y4 y5 hb3
  cases fw with
  | false =>
    go_wp2
    go_ret
    exact ⟨rfl, b3⟩
  | true =>
    by_cases hlen : (60 : Int) < (np : Int)
    · go_wp2
      go_ret
      exact ⟨rfl, b3⟩
    have hfb := few_b HFW.out
    have HFB := Lib.hid hfb
    clear hfb
    have k1 := Lib.hid (fuse_nil 1 w3)
    go_wp2_with fail
    refine k1.out.mono ?_
    rintro e u1 ⟨⟨v1, rfl⟩, rfl⟩
    clear k1
    have k2 := Lib.hid (crash_nil 1 1 w3)
    go_wp2_with fail
    refine k2.out.mono ?_
    rintro e u2 ⟨⟨v2, rfl⟩, rfl⟩
    clear k2
    have k3 := Lib.hid (read_nil p w3)
    rw [HS2.out] at k3
    go_wp2_with fail
    refine k3.out.mono ?_
    rintro e u3 ⟨rfl, rfl⟩
    clear k3
    have k4 := Lib.hid (syncDir_nil w3)
    go_wp2_with fail
    refine k4.out.mono ?_
    rintro e u4 ⟨rfl, rfl⟩
    clear k4
    have k5 := Lib.hid (create_nil p w3)
    rw [HS2.out] at k5
    go_wp2_with fail
    refine k5.out.mono ?_
    rintro e u5 ⟨rfl, rfl⟩
    clear k5
    have k6 := Lib.hid (append_nil sp none 0 0 w3)
    go_wp2_with fail
    refine k6.out.mono ?_
    rintro e u6 ⟨rfl, rfl⟩
    clear k6
    have k7 := Lib.hid (sync_nil p w3)
    rw [HS2.out] at k7
    go_wp2_with fail
    refine k7.out.mono ?_
    rintro e u7 ⟨rfl, rfl⟩
    clear k7
    have k8 := Lib.hid (rename_nil p p w3)
    rw [HS2.out] at k8
    go_wp2_with fail
    refine k8.out.mono ?_
    rintro e u8 ⟨rfl, rfl⟩
    clear k8
    have k9 := Lib.hid (link_nil p p w3)
    rw [HS2.out] at k9
    go_wp2_with fail
    refine k9.out.mono ?_
    rintro e u9 ⟨rfl, rfl⟩
    clear k9
    have k10 := Lib.hid (remove_nil p w3)
    rw [HS2.out] at k10
    go_wp2_with fail
    refine k10.out.mono ?_
    rintro e u10 ⟨rfl, rfl⟩
    clear k10
    have k11 : Hid (Calls Tryz.prog 19 #[.pointer none, .string (strOf [])] w3 (TextsIs w3 [])) := list_nil [] w3
    go_wp2_with fail
    refine k11.out.mono ?_
    rintro e w4 ⟨v4, rfl, hown4, hb4⟩
    obtain ⟨A4, c4, rfl, -, -⟩ := row_open hown4
    have b4 : Below w.heap.size w w4 := b3.trans (hb4.mono b3.size)
    have BX4 := Lib.hid (BX3.out.keep (hb4.block _ BX3.out.lt))
    have HSA4 := Lib.hid ((HSA3.out.below hb4).more hb4.size)
    have HSB4 := Lib.hid (HSB3.out.below hb4)
    clear k11 hown4 HSA3 HSB3 BX3 hb4
    have k12 := Lib.hid (used_nil w4)
    go_wp2_with fail
    refine k12.out.mono ?_
    rintro e u12 ⟨rfl, rfl⟩
    clear k12
    have k13 := Lib.hid (pending_nil w4)
    go_wp2_with fail
    refine k13.out.mono ?_
    rintro e u13 ⟨rfl, rfl⟩
    clear k13
    have k14 := Lib.hid (clone_nil w4)
    go_wp2_with fail
    refine k14.out.mono ?_
    rintro e u14 ⟨rfl, rfl⟩
    clear k14
    have hbeh := Lib.hid (behind_any A0 n0 c0 ls h0 w4 HSB4.out)
    go_wp2_with fail
    refine hbeh.out.mono ?_
    rintro e w5 ⟨f, S, m5, rfl, hB, o5⟩
    have HBe := Lib.hid hB
    have hb5 := o5.below
    have b5 : Below w.heap.size w w5 := b4.trans (hb5.mono b4.size)
    have BX5 := Lib.hid (BX4.out.keep (hb5.block _ BX4.out.lt))
    have hlX : ∀ k, w4.heap.size ≤ k → k ≠ w.heap.size := fun k hk => by have := BX4.out.lt; omega
    have HLX := Lib.hid hlX
    have hcl := Lib.hid (clone_own o5 hB.ok (by omega))
    clear hbeh h0 HSB4 hB o5 hlX
    go_wp2_with fail
    refine hcl.out.mono ?_
    rintro e w6 ⟨g, rfl, m6, pr, st6⟩
    obtain ⟨mf, mg, tw, -⟩ := pr.two
    have b6 : Below w.heap.size w w6 := b4.trans (tw.l.below.mono b4.size)
    have TW6 := Lib.hid tw
    have hus := used_own tw.l HBe.out.ok (by omega)
    have hU := used_le HBe.out.ok
    obtain ⟨U, hU0⟩ : ∃ U, S.used = U := ⟨_, rfl⟩
    rw [hU0] at hus hU
    have HU := Lib.hid hU0
    have KU := Lib.hid hus
    clear hcl pr st6 tw hus hU0
    go_wp2_with fail
    refine KU.out.mono ?_
    rintro e w7 ⟨rfl, hb7⟩
    have TW7 := Lib.hid (TW6.out.newB hb7)
    obtain ⟨L, hL⟩ : ∃ L, S.list [] = L := ⟨_, rfl⟩
    have hLl := list_len HBe.out.ok []
    rw [hL] at hLl
    obtain ⟨n, hn⟩ : ∃ n, L.length = n := ⟨_, rfl⟩
    rw [hn] at hLl
    have hn200 : n ≤ 200 := by omega
    have kl := list_own TW7.out.l HBe.out.ok (by omega) []
    rw [hL] at kl
    have KL := Lib.hid kl
    have HL := Lib.hid hL
    have HN := Lib.hid hn
    clear KU TW6 hb7 kl hL hn hLl
    go_wp2_with fail
    refine KL.out.mono ?_
    rintro e w8 ⟨v8, rfl, hown8, hb8⟩
    obtain ⟨A8, c8, rfl, hc8, hh8⟩ := hown8.hold HN.out (m := mg) fun k e => (TW7.out.r.lt k e).2
    have Z8 := Lib.hid hh8
    have TW8 := Lib.hid (TW7.out.newB hb8)
    have kp := pending_own TW8.out.l
    obtain ⟨P, hP⟩ : ∃ P, S.chg.length = P := ⟨_, rfl⟩
    rw [hP] at kp
    have HP := Lib.hid hP
    have KP := Lib.hid kp
    clear KL TW7 hown8 hb8 hh8 kp hP
    go_wp2_with fail
    refine KP.out.mono ?_
    rintro e w9 ⟨rfl, rfl⟩
    clear KP
    have BX8 := Lib.hid (BX4.out.keep (TW8.out.l.below.block _ BX4.out.lt))
    have mgX : ¬ mg w.heap.size := fun e => by have := (TW8.out.r.lt _ e).1; have := BX4.out.lt; omega
    have y0 := BX8.out.cell 0 rfl
    have y1 := BX8.out.cell 1 rfl
    have y2 := BX8.out.cell 2 rfl
    have y3 := BX8.out.cell 3 rfl
    have y4 := BX8.out.cell 4 rfl
    have y5 := BX8.out.cell 5 rfl
    have knew : Hid (∀ q, Calls Tryz.prog 10 #[.int .i64 0] (w8.drewN q) (RefIs mg (w8.drewN q) (FsM.new 0) false 0)) := fun q => new_r mg 0 (w8.drewN q) fun k e => (TW8.out.r.lt k e).2
    have MGX := Lib.hid mgX
    clear mgX
    go_wp2_with fail
    refine wp_region_noPanic ?_
    refine wp_region_held_drew (S := fun w' => w'.cell? ⟨w.heap.size, 0, none⟩ = some (.int .i64 x.kind) ∧ w'.cell? ⟨w.heap.size, 1, none⟩ = some (.string (strOf x.path)) ∧ w'.cell? ⟨w.heap.size, 2, none⟩ = some (.string (strOf x.into)) ∧ w'.cell? ⟨w.heap.size, 3, none⟩ = some (.slice A lb c) ∧ w'.cell? ⟨w.heap.size, 4, none⟩ = some (.int .i64 x.n) ∧ w'.cell? ⟨w.heap.size, 5, none⟩ = some (.int .i64 x.by_)) (by kernel_rfl) ?_ (fun hHeld => ?_)
    · (exact ⟨y0, y1, y2, y3, y4, y5⟩)
    refine wpAnyH_take (i := 0) (oi := { dst := some 115, op := Op.move (Operand.tmp 13), type := 24, pos := "law.go:321", after := #[], guard := none }) (v := ?_) rfl (by kernel_rfl) (by kernel_rfl) (by kernel_rfl) (fun _ _ _ h => h) (Or.inl ⟨by rfl, ?_⟩) hHeld ?_
    rotate_left
    · (intro w' hSw; (try dsimp only at hSw); go_split_ands; go_simp; first | done | with_reducible rfl)
    try simp only [Act.put, List.setIfInBounds_toArray, List.set_cons_zero, List.set_cons_succ]
    refine wpAnyH_take (i := 2) (oi := { dst := some 117, op := Op.load 34 (Operand.tmp 5), type := 34, pos := "law.go:321", after := #[], guard := none }) (v := ?_) rfl (by kernel_rfl) (by kernel_rfl) (by kernel_rfl) (fun _ _ _ h => h) (Or.inl ⟨by rfl, ?_⟩) hHeld ?_
    rotate_left
    · (intro w' hSw; (try dsimp only at hSw); go_split_ands; go_simp; first | done | with_reducible rfl)
    try simp only [Act.put, List.setIfInBounds_toArray, List.set_cons_zero, List.set_cons_succ]
    refine wpAnyH_ready (rs := [1]) (by kernel_rfl) (by simp) ?_
    refine AllReadyH.cons (o := { dst := some 116, op := Op.call { callee := Callee.value (Operand.func 10), args := #[Operand.const (Value.int IntKind.i64 0)], argTypes := #[3] }, type := 30, pos := "law.go:321", after := #[], guard := none }) rfl (fun K hK => ?_) AllReadyH.nil
    go_simp
    refine (knew.out 1).mono ?_
    rintro e wq ⟨vq, rfl, rq, bq⟩
    have bq0 : Below w8.heap.size w8 wq := (below_drew (Below.refl _ _)).trans bq
    have BXq := Lib.hid (BX8.out.keep (bq0.block _ BX8.out.lt))
    have TWq := Lib.hid (TW8.out.newB bq0)
    have z0 := BXq.out.cell 0 rfl
    have z1 := BXq.out.cell 1 rfl
    have z2 := BXq.out.cell 2 rfl
    have z3 := BXq.out.cell 3 rfl
    have z4 := BXq.out.cell 4 rfl
    have z5 := BXq.out.cell 5 rfl
    have Zq := Lib.hid (Z8.out.newB bq0)
    have hdn := done_any (q := fun _ => False) (fun _ e => e.elim) TWq.out.r HBe.out.ok ((FsOk.new (r := 0) (by omega)).mono (Nat.zero_le _)) (by omega) false 0 (by omega) (by omega) vq (rq.more fun k e => by rcases e with e | e; exact .inl e; exact e.elim) x A lb c HB.out hc (by have := HFB.out.2.2; have := HB.out; omega) (Hold.of_old (HSA4.out.below TWq.out.l.below) TWq.out.l.below.size fun k e => by rcases e with e | e; exact TWq.out.r.lt k e; exact e.elim) HFB.out.1 HFB.out.2.1
    unfold ActF.val at hdn
    have HD := Lib.hid hdn
    clear hdn bq rq bq0
    go_wp2_with fail
    refine hK.out _ _ ?_ ?_
    · (exact ⟨z0, z1, z2, z3, z4, z5⟩)
    clear hK K hHeld; intro hHeld
    try simp only [Act.put, List.setIfInBounds_toArray, List.set_cons_zero, List.set_cons_succ]
    refine wpAnyH_ready (rs := [3]) (by kernel_rfl) (by simp) ?_
    refine AllReadyH.cons (o := { dst := some 118, op := Op.call { callee := Callee.value (Operand.func 12), args := #[Operand.tmp 115, Operand.tmp 116, Operand.tmp 117], argTypes := #[24, 30, 34] }, type := 36, pos := "law.go:321", after := #[{ on := 0, ground := Ground.data }, { on := 1, ground := Ground.data }, { on := 2, ground := Ground.data }, { on := 1, ground := Ground.chain }], guard := none }) rfl (fun K hK => ?_) AllReadyH.nil
    go_simp
    refine HD.out.mono ?_
    rintro e wr ⟨vr, mr, rfl, or, str, -⟩
    have TWr := Lib.hid (TWq.out.own or str)
    have BXr := BXq.out.keep (str.turn.block _ BXq.out.lt MGX.out)
    have s0 := BXr.cell 0 rfl
    have s1 := BXr.cell 1 rfl
    have s2 := BXr.cell 2 rfl
    have s3 := BXr.cell 3 rfl
    have s4 := BXr.cell 4 rfl
    have s5 := BXr.cell 5 rfl
    have Zr := Lib.hid (Zq.out.step str)
    clear or str
    go_wp2_with fail
    refine hK.out _ _ ?_ ?_
    · (exact ⟨s0, s1, s2, s3, s4, s5⟩)
    clear hK K hHeld; intro hHeld
    try simp only [Act.put, List.setIfInBounds_toArray, List.set_cons_zero, List.set_cons_succ]
    refine wpAnyH_done (by kernel_rfl) ?_ _
    refine NoPanic.normal ?_
    have hok := doneM_ok HBe.out.ok x
    obtain ⟨T, hT⟩ : ∃ T, S.doneM x = T := ⟨_, rfl⟩
    rw [hT] at TWr hok
    have HOK := Lib.hid hok
    have k20 := create_own TWr.out.r hok (by omega) nmNew (by simp [nmNew])
    generalize ((T.go (·.create nmNew)).2 : Int) = E20 at k20
    have hok2 : FsOk 208 (T.go (·.create nmNew)).1 := go_ok hok (fun T h => (h.create _).mono (by omega)) (by omega)
    obtain ⟨T2, hT2⟩ : ∃ T2, (T.go (·.create nmNew)).1 = T2 := ⟨_, rfl⟩
    rw [hT2] at k20 hok2
    have K20 := Lib.hid k20
    have HOK2 := Lib.hid hok2
    clear hok hT k20 hok2 hT2 TW8 Z8 HD TWq Zq y0 y1 y2 y3 y4 y5 z0 z1 z2 z3 z4 z5 s0 s1 s2 s3 s4 s5
    go_wp2_with fail
    refine K20.out.mono ?_
    rintro e w20 ⟨rfl, m20, o20, st20⟩
    have TW20 := Lib.hid (TWr.out.own o20 st20)
    have Z20 := Lib.hid (Zr.out.step st20)
    have k21 := append_lit TW20.out.r HOK2.out (by omega) nmNew 1 [120] rfl (by omega) #[.int .u8 120] 5 (1, 2) (by simp [bv])
    generalize ((T2.go (·.append nmNew [120])).2 : Int) = E21 at k21
    have K21 := Lib.hid k21
    clear K20 o20 st20 TWr Zr k21
    go_wp2_with fail
    refine K21.out.mono ?_
    rintro e w21 ⟨rfl, m21, o21, st21⟩
    have TW21 := Lib.hid (TW20.out.own o21 st21)
    have Z21 := Lib.hid (Z20.out.step st21)
    have k22 := used_own TW21.out.l HBe.out.ok (by omega)
    rw [HU.out] at k22
    have K22 := Lib.hid k22
    clear K21 o21 st21 TW20 Z20 k22
    go_wp2_with fail
    refine K22.out.mono ?_
    rintro e w22 ⟨rfl, hb22⟩
    have TW22 := Lib.hid (TW21.out.newB hb22)
    have Z22 := Lib.hid (Z21.out.newB hb22)
    have k23 := list_own TW22.out.l HBe.out.ok (by omega) []
    rw [HL.out] at k23
    have K23 := Lib.hid k23
    clear K22 hb22 TW21 Z21 k23
    go_wp2_with fail
    refine K23.out.mono ?_
    rintro e w23 ⟨v23, rfl, hown23, hb23⟩
    obtain ⟨A23, c23, rfl, hc23, hh23⟩ := hown23.hold HN.out (m := m21) fun k e => (TW22.out.r.lt k e).2
    have TW23 := Lib.hid (TW22.out.newB hb23)
    have Z23 := Lib.hid (Z22.out.newB hb23)
    have ks := strings_r A23 A8 n c23 n c8 L L HN.out HN.out (by omega) w23 hh23.sees Z23.out.sees
    rw [decide_eq_true rfl] at ks
    have KS := Lib.hid ks
    clear K23 hown23 hb23 hh23 TW22 Z22 ks
    go_wp2_with fail
    refine KS.out.mono ?_
    rintro e w24 ⟨rfl, hb24⟩
    have TW24 := Lib.hid (TW23.out.newB hb24)
    have kp := pending_own TW24.out.l
    rw [HP.out] at kp
    have KP := Lib.hid kp
    have HZ := Lib.hid (b4.trans (TW24.out.l.below.mono b4.size))
    clear KS TW23 Z23 hb24 kp
    go_wp2_with fail
    refine KP.out.mono ?_
    rintro e w25 ⟨rfl, rfl⟩
    clear KP
    go_wp2
    go_ret
    exact ⟨rfl, HZ.out⟩
theorem SimfsNone_all (s : ByteArray) (A0 : Option Addr) (n0 c0 : Nat) (ls : List ActF) (h0 : ls.length = n0) (k : Int) (s1 t1 : ByteArray) (A : Option Addr) (n c : Nat) (l : Txt) (a b : Int) (hl : l.length = n) (hc : n ≤ c)
    (w : World) (hS0 : ActsF (fun k => k < w.heap.size) w A0 ls) (hS1 : Sees w w.heap.size A (bv l)) :
    Calls Tryz.prog 7 #[.string s, .slice A0 n0 c0, .agg #[.int .i64 k, .string s1, .string t1, .slice A n c, .int .i64 a, .int .i64 b]] w (Gives w (.bool true)) := by
  obtain ⟨p, rfl⟩ := txt_of s
  obtain ⟨p1, rfl⟩ := txt_of s1
  obtain ⟨p2, rfl⟩ := txt_of t1
  exact SimfsNone_any p A0 n0 c0 ls h0 ⟨k, p1, p2, l, a, b⟩ A n c hl hc w hS0 hS1
end Go.Proofs.YteidkmiladkoiaaGreatDoor
