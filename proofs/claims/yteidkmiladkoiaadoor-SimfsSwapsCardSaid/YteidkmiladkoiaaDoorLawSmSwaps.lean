/-
  The law SimfsSwaps, walked.
-/
import Derived.Test.YteidkmiladkoiaaDoorSmOwn2
import Derived.Test.YteidkmiladkoiaaDoorSmSwapsP
namespace Go.Proofs.YteidkmiladkoiaaDoor
open Go.RowKit

set_option maxRecDepth 100000 in
set_option maxHeartbeats 3200000 in
theorem SimfsSwaps_any (A1 : Option Addr) (n1 c1 : Nat) (one : Txt) (h1 : one.length = n1) (hc1 : n1 ≤ c1) (A2 : Option Addr) (n2 c2 : Nat) (two : Txt) (h2 : two.length = n2) (hc2 : n2 ≤ c2)
    (x0 x1 x2 x3 : Value) (N K0 : Int) (w : World) (hS1 : Sees w w.heap.size A1 (bv one)) (hS2 : Sees w w.heap.size A2 (bv two)) :
    Calls Tryd.prog 4 #[.slice A1 n1 c1, .slice A2 n2 c2, .agg #[x0, x1, x2, x3, .int .i64 N, .int .i64 K0]] w (Gives w (.bool true)) := by
  obtain ⟨W1, hW1⟩ : ∃ W1, w.alloc (.cells #[x0, x1, x2, x3, .int .i64 N, .int .i64 K0] 35) = W1 := ⟨_, rfl⟩
  have hb1 : Below w.heap.size w W1 := hW1 ▸ (Below.refl _ w).alloc (Nat.le_refl _) _
  have q4 : W1.cell? ⟨w.heap.size, 4, none⟩ = some (.int .i64 N) := by rw [← hW1, World.cell?_alloc_at _ _ _ _ rfl]; rfl
  have q5 : W1.cell? ⟨w.heap.size, 5, none⟩ = some (.int .i64 K0) := by rw [← hW1, World.cell?_alloc_at _ _ _ _ rfl]; rfl
  have hs1 : w.heap.size < W1.heap.size := by rw [← hW1]; simp
  have Q4 := Lib.hid q4
  have Q5 := Lib.hid q5
  have hA := Lib.hid (awake_any W1)
  clear q4 q5
  go_enter Tryd.func4, Tryd.ntmps4
  go_wp2_with fail
  refine hA.out.mono ?_
  rintro en w2 ⟨rfl, hb2⟩
  have b2 : Below w.heap.size w w2 := hb1.trans (hb2.mono hb1.size)
  clear hA
  by_cases g1 : (200 : Int) < n1
  · go_wp2
    go_ret
    exact ⟨rfl, b2⟩
  by_cases g2 : (200 : Int) < n2
  · go_wp2
    go_ret
    exact ⟨rfl, b2⟩
  have l1 : one.length ≤ 200 := by omega
  have l2 : two.length ≤ 200 := by omega
  have HL1 := Lib.hid l1
  have HL2 := Lib.hid l2
  have H1 := Lib.hid h1
  have H2 := Lib.hid h2
  have hA1 : Sees w2 w2.heap.size A1 (bv one) := (hS1.below b2).more b2.size
  have hA2 : Sees w2 w2.heap.size A2 (bv two) := (hS2.below b2).more b2.size
  have HA1 := Lib.hid hA1
  have HA2 := Lib.hid hA2
  clear l1 l2 h1 h2 hS1 hS2 hA1 hA2
  have hn := Lib.hid (new_own 100000 w2)
  go_wp2_with fail
  refine hn.out.mono ?_
  rintro e w3 ⟨f, m3, rfl, o3⟩
  have o3' : OwnE w2 w3 f (FsM.new 100000) m3 := o3
  have z1 : Hold m3 w3 A1 (bv one) := Hold.of_old (HA1.out.below o3'.below) o3'.below.size o3'.lt
  have z2 : Hold m3 w3 A2 (bv two) := Hold.of_old (HA2.out.below o3'.below) o3'.below.size o3'.lt
  have k3 := create_own o3' swo_0 (by omega) nmL (by simp [nmL])
  rw [swe_1] at k3
  have K3 := Lib.hid k3
  have Z1 := Lib.hid z1
  have Z2 := Lib.hid z2
  clear hn o3 o3' k3 z1 z2
  go_wp2_with fail
  refine K3.out.mono ?_
  rintro e w4 ⟨rfl, m4, o4, st4⟩
  have z1 := Z1.out.step st4
  have z2 := Z2.out.step st4
  clear Z1 Z2
  have k4 := append_own o4 swo_1 (by omega) nmL A1 n1 c1 one H1.out hc1 (by omega) z1
  rw [swe_2 HL1.out] at k4
  have K4 := Lib.hid k4
  have Z1 := Lib.hid z1
  have Z2 := Lib.hid z2
  have O4 := Lib.hid o4
  clear K3 o4 k4 z1 z2 st4
  go_wp2_with fail
  refine K4.out.mono ?_
  rintro e w5 ⟨rfl, m5, o5, st5⟩
  have z1 := Z1.out.step st5
  have z2 := Z2.out.step st5
  clear Z1 Z2
  have k5 := sync_own o5 (swo_2 HL1.out) nmL
  rw [swe_3] at k5
  have K5 := Lib.hid k5
  have Z1 := Lib.hid z1
  have Z2 := Lib.hid z2
  have O5 := Lib.hid o5
  clear K4 o5 k5 z1 z2 st5
  go_wp2_with fail
  refine K5.out.mono ?_
  rintro e w6 ⟨rfl, m6, o6, st6⟩
  have z1 := Z1.out.step st6
  have z2 := Z2.out.step st6
  clear Z1 Z2
  have k6 := syncDir_own o6 (swo_3 HL1.out)
  rw [swe_4] at k6
  have K6 := Lib.hid k6
  have Z1 := Lib.hid z1
  have Z2 := Lib.hid z2
  have O6 := Lib.hid o6
  clear K5 o6 k6 z1 z2 st6
  go_wp2_with fail
  refine K6.out.mono ?_
  rintro e w7 ⟨rfl, m7, o7, st7⟩
  have z1 := Z1.out.step st7
  have z2 := Z2.out.step st7
  clear Z1 Z2
  have k7 := create_own o7 (swo_4 HL1.out) (by omega) nmT (by simp [nmT])
  rw [swe_5] at k7
  have K7 := Lib.hid k7
  have Z1 := Lib.hid z1
  have Z2 := Lib.hid z2
  have O7 := Lib.hid o7
  clear K6 o7 k7 z1 z2 st7
  go_wp2_with fail
  refine K7.out.mono ?_
  rintro e w8 ⟨rfl, m8, o8, st8⟩
  have z1 := Z1.out.step st8
  have z2 := Z2.out.step st8
  clear Z1 Z2
  have k8 := append_own o8 (swo_5 HL1.out) (by omega) nmT A2 n2 c2 two H2.out hc2 (by omega) z2
  rw [swe_6 HL1.out HL2.out] at k8
  have K8 := Lib.hid k8
  have Z1 := Lib.hid z1
  have Z2 := Lib.hid z2
  have O8 := Lib.hid o8
  clear K7 o8 k8 z1 z2 st8
  go_wp2_with fail
  refine K8.out.mono ?_
  rintro e w9 ⟨rfl, m9, o9, st9⟩
  have z1 := Z1.out.step st9
  have z2 := Z2.out.step st9
  clear Z1 Z2
  have k9 := sync_own o9 (swo_6 HL1.out HL2.out) nmT
  rw [swe_7] at k9
  have K9 := Lib.hid k9
  have Z1 := Lib.hid z1
  have Z2 := Lib.hid z2
  have O9 := Lib.hid o9
  clear K8 o9 k9 z1 z2 st9
  go_wp2_with fail
  refine K9.out.mono ?_
  rintro e w10 ⟨rfl, m10, o10, st10⟩
  have z1 := Z1.out.step st10
  have z2 := Z2.out.step st10
  clear Z1 Z2
  have k10 := rename_own o10 (swo_7 HL1.out HL2.out) (by omega) nmT nmL (by simp [nmL])
  rw [swe_8] at k10
  have K10 := Lib.hid k10
  have Z1 := Lib.hid z1
  have Z2 := Lib.hid z2
  have O10 := Lib.hid o10
  clear K9 o10 k10 z1 z2 st10
  go_wp2_with fail
  refine K10.out.mono ?_
  rintro e w11 ⟨rfl, m11, o11, st11⟩
  have z1 := Z1.out.step st11
  have z2 := Z2.out.step st11
  clear Z1 Z2
  have k11 := read_own o11 (swo_8 HL1.out HL2.out) nmL
  rw [swe_9] at k11
  have K11 := Lib.hid k11
  have Z1 := Lib.hid z1
  have Z2 := Lib.hid z2
  have O11 := Lib.hid o11
  clear K10 o11 k11 z1 z2 st11
  go_wp2_with fail
  refine K11.out.mono ?_
  rintro e w12 ⟨v12, rfl, hown12, hb12⟩
  dsimp only at hown12
  obtain ⟨A12, c12, rfl, hc12, -, -, -⟩ := hown12.open_
  dsimp only at hc12 ⊢
  have hh12 := Hold.of_new (m := m11) hown12 fun k e => (O11.out.lt k e).2
  have o12 := O11.out.newB hb12
  have z1 := Z1.out.newB hb12
  have z2 := Z2.out.newB hb12
  clear Z1 Z2
  have bb : Below w2.heap.size w2 w12 := o12.below
  have b12 : Below W1.heap.size W1 w12 := hb2.trans (bb.mono hb2.size)
  have q4 := (b12.cell hs1).trans Q4.out
  have q5 := (b12.cell hs1).trans Q5.out
  have k12 := crash_own o12 (swo_8 HL1.out HL2.out) (by omega) N K0
  have K12 := Lib.hid k12
  have Z1 := Lib.hid z1
  have Z2 := Lib.hid z2
  have HH := Lib.hid hh12
  obtain ⟨lb, hlb⟩ : ∃ l, two.length = l := ⟨_, rfl⟩
  rw [hlb]
  clear K11 o12 k12 z1 z2 hb12 hown12 hh12 hc12 bb
  go_wp2_with fail
  refine K12.out.mono ?_
  rintro e w13 ⟨⟨v13, rfl⟩, m13, o13, st13⟩
  obtain ⟨x, er, y, r1, r2, hx⟩ := swe_10 one two N K0.toNat
  have k13 := read_own o13 (swo_9 HL1.out HL2.out N.toNat K0.toNat) nmL
  rw [r1] at k13
  have K13 := Lib.hid k13
  have O13 := Lib.hid o13
  have z1 := Lib.hid (Z1.out.step st13)
  have z2 := Lib.hid (Z2.out.step st13)
  have hh := Lib.hid (HH.out.step st13)
  clear K12 o13 k13 Z1 Z2 HH st13 q4 q5
  go_wp2_with fail
  refine K13.out.mono ?_
  rintro e w14 ⟨v14, rfl, hown14, hb14⟩
  dsimp only at hown14
  obtain ⟨A14, c14, rfl, hc14, -, -, -⟩ := hown14.open_
  dsimp only at hc14 ⊢
  have hx14 := Lib.hid (Hold.of_new (m := m13) hown14 fun k e => (O13.out.lt k e).2)
  have Z1 := Lib.hid (z1.out.newB hb14)
  have Z2 := Lib.hid (z2.out.newB hb14)
  have HH := Lib.hid (hh.out.newB hb14)
  have O14 := Lib.hid (O13.out.newB hb14)
  have k14 := read_own O14.out (swo_9 HL1.out HL2.out N.toNat K0.toNat) nmT
  rw [r2] at k14
  have K14 := Lib.hid k14
  clear K13 O13 k14 z1 z2 hh hown14 hb14 hc14
  go_wp2_with fail
  refine K14.out.mono ?_
  rintro e w15 ⟨v15, rfl, hown15, hb15⟩
  dsimp only at hown15
  obtain ⟨A15, c15, rfl, hc15, -, -, -⟩ := hown15.open_
  dsimp only at hc15 ⊢
  have bb : Below w2.heap.size w2 w15 := (O14.out.newB hb15).below
  have b15 : Below W1.heap.size W1 w15 := hb2.trans (bb.mono hb2.size)
  have q4 := (b15.cell hs1).trans Q4.out
  have cv1 := run_str w15 _ A1 n1 c1 one (Z1.out.newB hb15).sees H1.out
  have cv2 := run_str w15 _ A2 n2 c2 two (Z2.out.newB hb15).sees H2.out
  have cv3 := run_str w15 _ A12 lb c12 two (HH.out.newB hb15).sees hlb
  obtain ⟨lx, hlx⟩ : ∃ l, x.length = l := ⟨_, rfl⟩
  rw [hlx]
  have cv4 := run_str w15 _ A14 lx c14 x (hx14.out.newB hb15).sees hlx
  have HB := Lib.hid (b2.trans (bb.mono b2.size))
  generalize y.length = ly at *
  clear K14 Z1 Z2 HH O14 hx14 hown15 hb15 hc15 bb b15 hlx hlb r1 r2
  rcases hx with ⟨e1, rfl, rfl⟩ | ⟨e1, rfl, rfl⟩ | ⟨e1, rfl, rfl⟩
  · have e2 : ¬ N < 2 := by omega
    go_wp2_with fail
    go_ret
    exact ⟨by simp, HB.out⟩
  · subst e1
    go_wp2_with fail
    go_ret
    exact ⟨by simp, HB.out⟩
  · have e2 : ¬ 2 ≤ N := by omega
    have e3 : N < 2 := by omega
    have e4 : ¬ N = 1 := by omega
    go_wp2_with fail
    go_ret
    exact ⟨by simpa using e4, HB.out⟩
end Go.Proofs.YteidkmiladkoiaaDoor
