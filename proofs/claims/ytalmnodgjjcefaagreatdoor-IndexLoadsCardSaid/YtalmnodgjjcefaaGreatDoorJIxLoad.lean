/-
  An index that is loaded from files, walked.
-/
import Derived.Test.YtalmnodgjjcefaaGreatDoorJIxLds
namespace Go.Proofs.YtalmnodgjjcefaaGreatDoor
open Go.RowKit Go.Maps

theorem pre_all (s : SetM) : s.all.filter (preB []) = s.all := List.filter_eq_self.2 fun y _ => by simp [preB]
set_option maxRecDepth 100000 in
set_option maxHeartbeats 1600000 in
theorem ixLoad_any {X : List Ser} (A : Option Addr) (n c : Nat) (fs : List (List Item)) (hf : ∀ f ∈ fs, buildE f = 0) (hn : fs.length = n) (hn1 : n ≤ 100) (hF : SetFit ⟨[], fs⟩) (hI : Inv (SetM.mk [] fs).all X) (w : World) (hS : Sees2 w w.heap.size A (fs.map fileB)) (hH : Halves w) :
    Calls Tryz.prog 25 #[.slice A n c] w fun e w' => Below w.heap.size w w' ∧ ∃ P, e = .returned (.tuple #[.pointer (some ⟨P, 0, none⟩), .int .i64 0]) ∧ IxAt (fun k => w.heap.size ≤ k ∧ k < w'.heap.size) w' P ⟨[], fs⟩ := by
  have hL := Lib.hid (load_good A n c fs hf hn hn1 w hS hH)
  have HF := Lib.hid hF
  have HI := Lib.hid hI
  clear hF hI hf hn hS hH
  go_enter Tryz.func25, Tryz.ntmps25
  go_wp2_with fail
  refine hL.out.mono ?_
  rintro e w1 ⟨hb1, S, rfl, hA⟩
  have hP := setPrefix_any (Bx := none) (lx := 0) (dx := 0) (x := []) hA HF.out rfl ⟨.inl rfl⟩
  rw [pre_all] at hP
  obtain ⟨L, hLd⟩ : ∃ L, (SetM.mk [] fs).all = L := ⟨_, rfl⟩
  have hLl : L.length ≤ 1000 := by
    rw [← hLd]
    exact Nat.le_trans (all_len _) (by have := HF.out.total; omega)
  have hsh : ∀ y ∈ L, y.length ≤ 1000 := fun y hy => by
    rw [← hLd, mem_all] at hy
    rcases hy with hy | hy
    · obtain ⟨f, hf, hy⟩ := List.mem_flatten.1 hy
      exact set_short HF.out f (List.mem_append_left _ hf) y hy
    · exact set_short HF.out [] (by simp) y hy
  rw [hLd] at hP
  have HLD := Lib.hid hLd
  have HSH := Lib.hid hsh
  have HA := Lib.hid hA
  have HP := Lib.hid hP
  clear hL hA hP hLd hsh
  go_wp2_with fail
  refine HP.out.mono ?_
  rintro e w2 ⟨A2, c2, rfl, hRow, hb2⟩
  have HR := Lib.hid hRow.sees
  have hRc := hRow.cap
  obtain ⟨N, hN⟩ : ∃ N, L.length = N := ⟨_, rfl⟩
  rw [hN] at hLl hRc ⊢
  have HN := Lib.hid hN
  have HA2 := Lib.hid (HA.out.below hb2)
  have hb12 : Below w.heap.size w w2 := hb1.trans (hb2.mono hb1.size)
  have hs12 := hb2.size
  clear HP hRow hN HA hb2
  go_wp2
  go_loopg [21] N (fun g i wr => ∃ k : Nat, k + g = N ∧ i = .int .i64 (k : Int) ∧ Below w2.heap.size w2 wr)
  case atStart => exact ⟨0, by omega, rfl, Below.refl _ _⟩
  case round =>
    obtain ⟨k, hk, rfl, hb⟩ := hrel
    have hbs := hb.size
    by_cases hlt : k < N
    · have hkL : k < L.length := by rw [HN.out]; exact hlt
      obtain ⟨ad, Ay, cy, rfl, hadm, hcy, hyc, hsy⟩ := (HR.out.keep (Kept.of_below hb fun j e => e.2)).out k hkL
      have hyl := HSH.out L[k] (List.getElem_mem hkL)
      have hmem : L[k] ∈ (SetM.mk [] fs).all := by rw [HLD.out]; exact List.getElem_mem hkL
      have hPa := Lib.hid (Parse_any Ay (L[k]).length cy L[k] rfl hyc wr (hsy.sees fun j e => by omega) (by omega))
      obtain ⟨y, hy⟩ : ∃ y, L[k] = y := ⟨_, rfl⟩
      rw [hy] at hcy hPa hmem
      obtain ⟨r, hr, hmk⟩ := (HI.out.item y).1 hmem
      have HMY : Hid (¬ NoRow y) := fun e => e r (HI.out.may hr).1 hmk
      obtain ⟨ly, hly⟩ : ∃ ly, y.length = ly := ⟨_, rfl⟩
      rw [hly] at hcy hPa
      clear hsy hyc hy hly hyl hmem hr hmk
      go_wp2_with fail
      refine hPa.out.mono ?_
      rintro e w4 ⟨Al, nl, cl, kk, dd, ii, x1, x2, ll, er, rfl, hb4, hnl, hcl, hsl2, hres⟩
      obtain rfl : er = 0 := by
        rcases hres with ⟨h0, -⟩ | ⟨-, h1, -⟩
        · exact h0
        · exact absurd h1 HMY.out
      have hb4' : Below w2.heap.size w2 (w4.alloc (.cells #[.int .i64 kk, .slice Al nl cl, .string x1, .string x2, .int .i64 dd, .int .i64 ii] 92)) := (hb.trans (hb4.mono hbs)).alloc (by have := hb4.size; omega) _
      clear hPa hsl2 hres hnl hcl hb4
      go_wp2
      go_roundg (N - (k + 1))
      case measure => omega
      case rel => exact ⟨k + 1, by omega, by go_num, hb4'⟩
    · have hAz := (HA2.out.below hb).mono (m' := fun j => w.heap.size ≤ j ∧ j < wr.heap.size) (fun j e => ⟨e.1, by omega⟩) fun j e => e.2
      have HZ := Lib.hid (IxAt.boxed hAz (hb12.trans (hb.mono (by have := hb12.size; omega))))
      have HB := Lib.hid (hb12.trans (hb.mono (by have := hb12.size; omega)))
      clear hAz HA2
      go_wp2
      go_ret2
      exact ⟨HB.out.alloc (HB.out.size) _, _, rfl, HZ.out⟩
end Go.Proofs.YtalmnodgjjcefaaGreatDoor
