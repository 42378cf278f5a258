/-
  The example of the law's awake; whether a script is few.
-/
import Derived.Test.YtadakaenbemedaaGreatDoorTgRef4
namespace Go.Proofs.YtadakaenbemedaaGreatDoor
open Go.RowKit Go.Maps

/-- One byte, as a constant lays it. -/
theorem lit1 (w wa : World) (x : Nat) (hx : x < 256) (h : w.alloc (.cells #[.int .u8 (x : Int)] 5 (1, 2)) = wa) : Sees wa wa.heap.size (some ⟨w.heap.size, 0, none⟩) (bv [UInt8.ofNat x]) ∧ Below w.heap.size w wa ∧ wa.heap.size = w.heap.size + 1 := by
  subst h
  refine ⟨?_, (Below.refl _ w).alloc (Nat.le_refl _) _, by simp⟩
  have := sees_mark' w _ rfl [UInt8.ofNat x] 5 (1, 2) #[.int .u8 (x : Int)] (by simp [bv]; omega)
  simpa using this
theorem aw1 : SetM.new.add [98] = (⟨[[98]], []⟩, 0) := by kernel_rfl
theorem aw2 : (SetM.mk [[98]] []).add [97] = (⟨[[97], [98]], []⟩, 0) := by kernel_rfl
theorem aw3 : (SetM.mk [[97], [98]] []).flush.1 = ⟨[], [[[97], [98]]]⟩ ∧ (SetM.mk [[97], [98]] []).flush.2.2 = true := by constructor <;> kernel_rfl
theorem aw4 : (SetM.mk [] [[[97], [98]]]).add [99] = (⟨[[99]], [[[97], [98]]]⟩, 0) := by kernel_rfl
theorem aw5 : (SetM.mk [[99]] [[[97], [98]]]).add [97] = (⟨[[99]], [[[97], [98]]]⟩, 0) := by kernel_rfl
theorem aw6 : (fromL (SetM.mk [[99]] [[[97], [98]]]).all [97]).take (9 : Int).toNat = [[97], [98], [99]] := by kernel_rfl
theorem aw7 : (SetM.mk [[99]] [[[97], [98]]]).has [98] = true := by kernel_rfl
theorem aw8 : (SetM.mk [[99]] [[[97], [98]]]).all.filter (preB [98]) = [[98]] := by kernel_rfl
theorem str99 : (strOf [99]).toList = [99] := strOf_toList _

theorem addr_lit {w : World} {ad : Addr} {v : Value} (h : w.cell? ad = some v) : ∃ b o, ad = ⟨b, o, none⟩ := by
  obtain ⟨b, o, sp⟩ := ad
  cases sp with
  | none => exact ⟨b, o, rfl⟩
  | some s =>
    unfold World.cell? at h
    simp only [Option.isSome_some, if_true] at h
    split at h <;> cases h

set_option maxRecDepth 100000 in
set_option maxHeartbeats 3200000 in
theorem awake_any (w : World) (hH : Halves w) : Calls Tryz.prog 9 #[] w (IsTrue w) := by
  have kc := run_const
  have HH := Lib.hid hH
  have f1 : SetFit SetM.new := ⟨SetOk.new, by decide⟩
  have f2 : SetFit ⟨[[98]], []⟩ := ⟨by have := SetOk.new.add [98]; rw [aw1] at this; exact this, by decide⟩
  have f3 : SetFit ⟨[[97], [98]], []⟩ := ⟨by have := f2.ok.add [97]; rw [aw2] at this; exact this, by decide⟩
  have f4 : SetFit ⟨[], [[[97], [98]]]⟩ := ⟨by have := f3.ok.flush; rw [aw3.1] at this; exact this, by decide⟩
  have f5 : SetFit ⟨[[99]], [[[97], [98]]]⟩ := ⟨by have := f4.ok.add [99]; rw [aw4] at this; exact this, by decide⟩
  have F1 := Lib.hid f1
  have F2 := Lib.hid f2
  have F3 := Lib.hid f3
  have F4 := Lib.hid f4
  have F5 := Lib.hid f5
  have S99 := Lib.hid str99
  clear hH f1 f2 f3 f4 f5
  go_enter Tryz.func9, Tryz.ntmps9
  go_wp2_with fail
  refine (new_any w).mono ?_
  rintro e w1 ⟨rfl, hA1, hb1⟩
  obtain ⟨S, hS⟩ : ∃ S, w.heap.size + 1 = S := ⟨_, rfl⟩
  rw [hS] at hA1 ⊢
  obtain ⟨wa, hwa⟩ : ∃ wa, w1.alloc (.cells #[.int .u8 98] 5 (1, 2)) = wa := ⟨_, rfl⟩
  obtain ⟨hxa, hba, hza⟩ := lit1 w1 wa 98 (by omega) hwa
  have A1 := Lib.hid (add_any _ wa S _ (hA1.below hba) F1.out _ 1 1 [98] rfl (by omega) hxa)
  rw [aw1] at A1
  have hs1 := hb1.size
  have B1 := hb1.trans (hba.mono hs1)
  clear hxa hza hS
  go_wp2_with fail
  refine A1.out.mono ?_
  rintro e w2 ⟨rfl, st2⟩
  have hA2 := st2.set
  have B2 : Below w.heap.size w w2 := B1.trans (st2.turn.below (fun j e => e.1) B1.size)
  obtain ⟨wb, hwb⟩ : ∃ wb, w2.alloc (.cells #[.int .u8 97] 5 (1, 2)) = wb := ⟨_, rfl⟩
  obtain ⟨hxb, hbb, hzb⟩ := lit1 w2 wb 97 (by omega) hwb
  have A2 := Lib.hid (add_any _ wb S _ (hA2.below hbb) F2.out _ 1 1 [97] rfl (by omega) hxb)
  rw [aw2] at A2
  have B3 := B2.trans (hbb.mono B2.size)
  clear hwa A1 st2 hxb hzb
  go_wp2_with fail
  refine A2.out.mono ?_
  rintro e w3 ⟨rfl, st3⟩
  have hA3 := st3.set
  have B4 : Below w.heap.size w w3 := B3.trans (st3.turn.below (fun j e => e.1) B3.size)
  have A3 := Lib.hid (flush_any _ w3 S _ hA3 F3.out (HH.out.below B4 HH.out.1))
  rw [aw3.1, aw3.2] at A3
  clear hwb A2 st3
  go_wp2_with fail
  refine A3.out.mono ?_
  rintro e w4 ⟨A4, c4, rfl, fs4⟩
  obtain ⟨m4, st4, -⟩ := fs4.out
  have hA4 := st4.set
  have hm4 : ∀ j, m4 j → w.heap.size ≤ j := fun j e => by
    rcases st4.new j e with e | e
    · exact e.1
    · have := B4.size; omega
  have B5 : Below w.heap.size w w4 := B4.trans (st4.turn.below (fun j e => e.1) B4.size)
  obtain ⟨wc, hwc⟩ : ∃ wc, w4.alloc (.cells #[.int .u8 99] 5 (1, 2)) = wc := ⟨_, rfl⟩
  obtain ⟨hxc, hbc, hzc⟩ := lit1 w4 wc 99 (by omega) hwc
  have A4' := Lib.hid (add_any _ wc S _ (hA4.below hbc) F4.out _ 1 1 [99] rfl (by omega) hxc)
  rw [aw4] at A4'
  have B6 := B5.trans (hbc.mono B5.size)
  clear A3 fs4 st4 hxc hzc
  go_wp2_with fail
  refine A4'.out.mono ?_
  rintro e w5 ⟨rfl, st5⟩
  have hA5 := st5.set
  have B7 : Below w.heap.size w w5 := B6.trans (st5.turn.below hm4 B6.size)
  obtain ⟨wd, hwd⟩ : ∃ wd, w5.alloc (.cells #[.int .u8 97] 5 (1, 2)) = wd := ⟨_, rfl⟩
  obtain ⟨hxd, hbd, hzd⟩ := lit1 w5 wd 97 (by omega) hwd
  have A5 := Lib.hid (add_any _ wd S _ (hA5.below hbd) F5.out _ 1 1 [97] rfl (by omega) hxd)
  rw [aw5] at A5
  have B8 := B7.trans (hbd.mono B7.size)
  clear hwc A4' st5 hxd hzd
  go_wp2_with fail
  refine A5.out.mono ?_
  rintro e w6 ⟨rfl, st6⟩
  have hA6 := st6.set
  have B9 : Below w.heap.size w w6 := B8.trans (st6.turn.below hm4 B8.size)
  obtain ⟨we, hwe⟩ : ∃ we, w6.alloc (.cells #[.int .u8 97] 5 (1, 2)) = we := ⟨_, rfl⟩
  obtain ⟨hxe, hbe, hze⟩ := lit1 w6 we 97 (by omega) hwe
  have A6 := Lib.hid (setFrom_any (hA6.below hbe) F5.out (x := [97]) (lx := 1) (dx := 1) rfl hxe 9)
  rw [aw6] at A6
  have B10 := B9.trans (hbe.mono B9.size)
  clear hwd A5 st6 hxe hze
  go_wp2_with fail
  refine A6.out.mono ?_
  rintro e w7 ⟨A7, c7, rfl, hr7, hb7⟩
  have hA7 := (hA6.below hbe).below hb7
  have B11 := B10.trans (hb7.mono B10.size)
  have hs7 := hr7.sees
  obtain ⟨ad, A0, c0, hA70, -, hcell0, -, -⟩ := hs7.out 0 (by simp)
  obtain ⟨b, o, rfl⟩ := addr_lit (w := w7) (ad := ad) (by simpa [Addr.add] using hcell0)
  obtain ⟨ad', Ai, ci, e', -, hcell, -, hsee⟩ := hs7.out 2 (by simp)
  subst hA70
  obtain rfl := Option.some.inj e'
  rw [Addr.add_lit] at hcell
  have hcell2 : w7.cell? ⟨b, o + 2, none⟩ = some (.slice Ai 1 ci) := hcell
  have cv0 := run_str w7 _ Ai 1 ci [99] (hsee.sees (B := w7.heap.size) fun k e => e.2) rfl
  have hFr := Lib.hid (fresh_any hA7)
  have hPa := Lib.hid (parts_any hA7)
  have s99 := S99.out
  rw [show ([[97], [98], [99]] : List Item).length = 3 from rfl]
  clear hwe A6 hcell hsee hs7 hr7 hcell0 e'
  go_wp2_with fail
  refine hFr.out.mono ?_
  rintro e w8 ⟨rfl, rfl⟩
  go_wp2_with fail
  refine hPa.out.mono ?_
  rintro e w8 ⟨rfl, rfl⟩
  obtain ⟨wf, hwf⟩ : ∃ wf, w7.alloc (.cells #[.int .u8 98] 5 (1, 2)) = wf := ⟨_, rfl⟩
  obtain ⟨hxf, hbf, hzf⟩ := lit1 w7 wf 98 (by omega) hwf
  have A8 := Lib.hid (setHas_any (hA7.below hbf) F5.out _ 1 1 [98] rfl (by omega) hxf)
  rw [aw7] at A8
  have B12 := B11.trans (hbf.mono B11.size)
  clear hxf hzf hFr hPa
  go_wp2_with fail
  refine A8.out.mono ?_
  rintro e w8 ⟨rfl, hb8⟩
  have B13 := B12.trans (hb8.mono B12.size)
  have hA8 := (hA7.below hbf).below hb8
  obtain ⟨wg, hwg⟩ : ∃ wg, w8.alloc (.cells #[.int .u8 98] 5 (1, 2)) = wg := ⟨_, rfl⟩
  obtain ⟨hxg, hbg, hzg⟩ := lit1 w8 wg 98 (by omega) hwg
  have A9 := Lib.hid (setPrefix_any (hA8.below hbg) F5.out (x := [98]) (lx := 1) (dx := 1) rfl hxg)
  rw [aw8] at A9
  have B14 := B13.trans (hbg.mono B13.size)
  clear hwf hxg hzg A8 cv0
  go_wp2_with fail
  refine A9.out.mono ?_
  rintro e w9 ⟨A9', c9, rfl, -, hb9⟩
  rw [show ([[98]] : List Item).length = 1 from rfl]
  go_wp2
  go_ret
  exact ⟨rfl, B14.trans (hb9.mono B14.size)⟩
end Go.Proofs.YtadakaenbemedaaGreatDoor
