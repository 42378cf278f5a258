/- IndexDays: a series is found on just the days on which it was put in: the whole law, walked. -/
import Derived.Test.YtalmnodgjjcefaaGreatDoorQIxE
namespace Go.Proofs.YtalmnodgjjcefaaGreatDoor
open Go.RowKit
theorem idsXa_len (p : Ser → Bool) : ∀ (X : List Ser) (i : Nat), (idsXa p i X).length ≤ X.length
 | [], i => by simp [idsXa]
 | t :: X, i => by
  have := idsXa_len p X (i + 1)
  unfold idsXa
  split
  ·simpa using this
  ·simp only [List.length_cons]; omega
theorem on_days {N : Nat} {m : Nat → Prop} {w : World} {P : Nat} {s : SetM} {cs : List Lb} {o : Int} {D : List Int} (h : Live N m w P s (daysX cs o D)) (hN : N ≤ 900) (a b : Int) :
  Calls Tryz.prog 14 #[.pointer (some ⟨P, 0, none⟩), .slice none 0 0, .int .i64 a, .int .i64 b] w fun e w' => ∃ A n c, e = .returned (.tuple #[.slice A n c, .int .i64 0]) ∧ Below w.heap.size w w' ∧ (onDays cs o D a b).length = n ∧ n ≤ 1099511627776 ∧ n ≤ c ∧ Sees w' w'.heap.size A (KI.iv (onDays cs o D a b)) := by
 refine (on_live h hN none 0 0 [] rfl (fun f hf => nomatch hf) (Sees.nil _ _ _) (by omega) a b).mono fun e w' ⟨A, n, c, he, hb, hr⟩ => ?_
 rcases hr with ⟨_, hn, hc, hS⟩ | ⟨h1, _⟩
 ·have hl := idsXa_len (fun t => fitX [] t && onX a b t) (daysX cs o D) 1
  have hd : (daysX cs o D).length ≤ 2 := by unfold daysX; split; simp; split; simp; simp
  have hl2 : (onDays cs o D a b).length ≤ (daysX cs o D).length := hl
  exact ⟨A, n, c, he, hb, hn.symm, by rw [hn]; exact Nat.le_trans hl2 (by omega), hc, hS.sees fun k hk => hk.2⟩
 ·exact absurd rfl h1
set_option maxRecDepth 100000 in
set_option maxHeartbeats 6400000 in
theorem IndexDays_any (A : Option Addr) (n c : Nat) (ls : List Lb) (hn : ls.length = n) (hnc : n ≤ c) (A2 : Option Addr) (nd cd : Nat) (ds : List Int) (hd : ds.length = nd) (on : Int) (w : World) (hS : Sees w w.heap.size A (lv ls)) (hD : Sees w w.heap.size A2 (dv ds)) :
  Calls Tryz.prog 3 #[.slice A n c, .slice A2 nd cd, .int .i64 on] w (Gives w (.bool true)) := by
 have hAw := Lib.hid (awake_any w)
 have HN := Lib.hid hn
 have HD := Lib.hid hd
 have ho : 0 ≤ on % 1024 ∧ on % 1024 ≤ 1023 := by omega
 have hand := and1023 on
 obtain ⟨o, hoe⟩ : ∃ o, on % 1024 = o := ⟨_, rfl⟩
 rw [hoe] at ho hand
 have hJ := fun v W => Lib.hid (job_any v W)
 have hNw := fun W => Lib.hid (new_live W)
 clear hn hd hoe
 go_enter Tryz.func3, Tryz.ntmps3
 go_wp2_with fail
 refine hAw.out.mono ?_
 rintro e w1 ⟨rfl, hb1⟩
 have hz1 := hb1.size
 obtain ⟨Wa, hWa⟩ : ∃ Wa, w1.alloc (.cells #[.int .i64 0, .slice A n c, .int .i64 0, .int .i64 0, .int .i64 0] 27) = Wa := ⟨_, rfl⟩
 have hba : Below w1.heap.size w1 Wa := by rw [← hWa]; exact (Below.refl _ w1).alloc (Nat.le_refl _) _
 have hza : Wa.heap.size = w1.heap.size + 1 := by rw [← hWa]; simp
 have hS1 := (hS.below hb1).more hz1
 have hFw := Lib.hid (few_any _ (some ⟨w1.heap.size, 0, none⟩) 1 1 [⟨0, ls, 0, 0, 0⟩] rfl Wa (by rw [← hWa]; exact acts_one w1 w1.heap.size rfl A n c ls HN.out hnc hS1 _))
 clear hAw hS1
 go_wp2_with fail
 refine hFw.out.mono ?_
 rintro e w2 ⟨one, hone, rfl, rfl⟩
 have hba0 : Below w.heap.size w Wa := hb1.trans (hba.mono hz1)
 cases one with
 | false =>
  clear hFw hone
  go_wp2
  go_ret
  exact ⟨rfl, hba0⟩
 | true =>
  have hfl : FewL ls := (hone rfl).all ⟨0, ls, 0, 0, 0⟩ (by simp)
  have hsz := hfl.sz
  have hn8 : n ≤ 8 := by have := hfl.1; have := HN.out; omega
  clear hFw hone hfl
  by_cases h0 : nd = 0
  ·subst h0
   go_wp2
   go_ret
   exact ⟨rfl, hba0⟩
  by_cases h20 : 20 < nd
  ·have h0' : ¬ (nd : Int) = 0 := by omega
   have h20' : (20 : Int) < (nd : Int) := by omega
   have q1 : ((nd : Int) == 0) = false := beq_eq_false_iff_ne.2 h0'
   have q2 : decide ((20 : Int) < (nd : Int)) = true := decide_eq_true h20'
   go_wp2
   go_ret
   exact ⟨rfl, hba0⟩
  have h0' : ¬ (nd : Int) = 0 := by omega
  have h20' : (nd : Int) ≤ 20 := by omega
  have q1 : ((nd : Int) == 0) = false := beq_eq_false_iff_ne.2 h0'
  have q2 : decide ((20 : Int) < (nd : Int)) = false := decide_eq_false (by omega)
  have hNa := hNw Wa
  clear hNw
  go_wp2_with fail
  refine hNa.out.mono ?_
  rintro e w3 ⟨P, rfl, hL3, hb3⟩
  obtain ⟨m, hm⟩ : ∃ m : Nat → Prop, (fun k => Wa.heap.size ≤ k ∧ k < w3.heap.size) = m := ⟨_, rfl⟩
  rw [hm] at hL3
  have hlow : ∀ k, m k → w.heap.size ≤ k := fun k e => by rw [← hm] at e; have := hba0.size; omega
  have hb03 : Below w.heap.size w w3 := hba0.trans (hb3.mono hba0.size)
  clear hm hNa
  go_wp2_with fail
  refine (hJ _ _).out.mono ?_
  rintro e w4 ⟨rfl, hs4, hb4, hz4⟩
  have hA := Lib.hid (add_live (hL3.below hb4) (by omega) (some ⟨w3.heap.size, 0, none⟩) 1 1 [(sJ, vA)] rfl hs4 (by omega) (job_sz vA) o (evm vA eva).1 (by omega) (by omega))
  rw [(evm vA eva).2, daysX_nil (sortN ls) o] at hA
  have hb04 : Below w.heap.size w w4 := hb03.trans (hb4.mono hb03.size)
  clear hL3 hs4 hJ
  go_wp2_with fail
  refine hA.out.mono ?_
  rintro e w5 ⟨rfl, hL5, ht5⟩
  have hb05 : Below w.heap.size w w5 := hb04.trans (ht5.below hlow hb04.size)
  clear hA
  have HL5 := Lib.hid hL5
  have hidc : daysId (sortN ls) = 1 ∨ daysId (sortN ls) = 2 := by unfold daysId; split; exact .inl rfl; exact .inr rfl
  obtain ⟨cs, hcs⟩ : ∃ cs, sortN ls = cs := ⟨_, rfl⟩
  rw [hcs] at HL5 hidc
  have HCS := Lib.hid hcs
  obtain ⟨dI, hdI⟩ : ∃ dI, daysId cs = dI := ⟨_, rfl⟩
  rw [hdI] at hidc
  have HDI := Lib.hid hdI
  have HSZ := Lib.hid hsz
  have hdi1 : 1 ≤ dI ∧ dI ≤ 2 := by omega
  have HIDC := Lib.hid hidc
  clear hL5 hcs hdI hsz hidc
  go_wp2_with fail
  go_loopg [10, 11, 12] nd (fun g u10 u11 i wr => ∃ (k : Nat) (s : SetM), k + g = nd ∧ i = .int .i64 k ∧ u10 = .int .i64 (if k = 0 then 0 else dI) ∧ u11 = .bool ((putIn ds k).any fun d => decide (d = o)) ∧ Live (14 * (k + 1)) m wr P s (daysX cs o (putIn ds k)) ∧ Below w.heap.size w wr)
  case atStart => exact ⟨0, _, by omega, rfl, rfl, rfl, HL5.out.more (by omega), hb05⟩
  case round =>
   obtain ⟨k, s, hk, rfl, rfl, rfl, hLk, hbr⟩ := hrel
   obtain ⟨hv, hhv⟩ : ∃ hv, ((putIn ds k).any fun d => decide (d = o)) = hv := ⟨_, rfl⟩
   have HHV := Lib.hid hhv
   rw [hhv]
   have HLK := Lib.hid hLk
   by_cases hlt : k < nd
   ·have hkl : k < ds.length := by have := HD.out; omega
    obtain ⟨ad, rfl, hadB, hcell⟩ := dv_cell (hD.below hbr) hkl
    have hps := putIn_succ hkl
    obtain ⟨dk, hdk⟩ : ∃ dk, ds[k] = dk := ⟨_, rfl⟩
    rw [hdk] at hcell hps
    have hadk := and1023 dk
    have hd1 : 0 ≤ dk % 1024 ∧ dk % 1024 ≤ 1023 := by omega
    obtain ⟨d, hde⟩ : ∃ d, dk % 1024 = d := ⟨_, rfl⟩
    rw [hde] at hadk hd1 hps
    have HPS := Lib.hid hps
    have hSr := (hS.below hbr).more hbr.size
    clear hhv hLk hdk hde hps
    by_cases hm : MayL ls
    ·have hA := Lib.hid (add_live HLK.out (by omega) A n c ls HN.out hSr (by omega) HSZ.out d hm (by omega) (by omega))
     rw [HCS.out, (daysX_add cs o d (putIn ds k)).1, (daysX_add cs o d (putIn ds k)).2, ← HPS.out, HDI.out] at hA
     have hany : ((putIn ds (k + 1)).any fun d => decide (d = o)) = (hv || d == o) := by
      rw [HPS.out, List.any_cons, HHV.out, Bool.or_comm]
      congr 1
     have HANY := Lib.hid hany
     clear hSr hany
     by_cases hk0 : k = 0
     ·rw [if_pos hk0]
      have HK0 := Lib.hid hk0
      clear hk0
      go_wp2_with fail
      refine hA.out.mono ?_
      rintro e w6 ⟨rfl, hL6, ht6⟩
      have HL6 := Lib.hid hL6
      clear hL6 hA
      cases hv
      ·go_wp2_with fail
       go_roundg (nd - (k + 1))
       case measure => omega
       case rel => exact ⟨k + 1, _, by omega, by go_num, by rw [if_neg (by omega)], by rw [HANY.out]; rfl, HL6.out.more (by omega), hbr.trans (ht6.below hlow hbr.size)⟩
      ·go_wp2_with fail
       go_roundg (nd - (k + 1))
       case measure => omega
       case rel => exact ⟨k + 1, _, by omega, by go_num, by rw [if_neg (by omega)], by rw [HANY.out]; rfl, HL6.out.more (by omega), hbr.trans (ht6.below hlow hbr.size)⟩
     ·rw [if_neg hk0]
      have q3 : (dI == 0) = false := beq_eq_false_iff_ne.2 (by omega)
      have q4 : (dI == dI) = true := beq_self_eq_true dI
      go_wp2_with fail
      refine hA.out.mono ?_
      rintro e w6 ⟨rfl, hL6, ht6⟩
      have HL6 := Lib.hid hL6
      clear hL6 hA
      cases hv
      ·go_wp2_with fail
       go_roundg (nd - (k + 1))
       case measure => omega
       case rel => exact ⟨k + 1, _, by omega, by go_num, by rw [if_neg (by omega)], by rw [HANY.out]; rfl, HL6.out.more (by omega), hbr.trans (ht6.below hlow hbr.size)⟩
      ·go_wp2_with fail
       go_roundg (nd - (k + 1))
       case measure => omega
       case rel => exact ⟨k + 1, _, by omega, by go_num, by rw [if_neg (by omega)], by rw [HANY.out]; rfl, HL6.out.more (by omega), hbr.trans (ht6.below hlow hbr.size)⟩
    ·have hA := Lib.hid (add_none HLK.out A n c ls HN.out hSr (by omega) HSZ.out d hm)
     clear hSr hm
     obtain ⟨u, hu⟩ : ∃ u, (if k = 0 then (0 : Int) else dI) = u := ⟨_, rfl⟩
     rw [hu]
     clear hu
     go_wp2_with fail
     refine hA.out.mono ?_
     rintro e w6 ⟨rfl, hL6, ht6⟩
     have hb6 := hbr.trans (ht6.below hlow hbr.size)
     clear hL6 hA
     go_wp2
     go_ret
     exact ⟨rfl, hb6⟩
   ·have hkn : k = nd := by omega
    subst hkn
    rw [if_neg h0]
    have hpl : (putIn ds k).length = k := by have := HD.out; unfold putIn; rw [List.length_reverse, List.length_map, List.length_take]; omega
    have hne : putIn ds k ≠ [] := fun e => by rw [e] at hpl; exact h0 hpl.symm
    clear hpl
    have hin := putIn_in (ds := ds) (k := k)
    obtain ⟨D, hD0⟩ : ∃ D, putIn ds k = D := ⟨_, rfl⟩
    rw [hD0] at hne hin
    have HLK2 := HLK.out
    rw [hD0] at HLK2
    have HLK3 := Lib.hid HLK2
    have HHV2 := HHV.out
    rw [hD0] at HHV2
    have HHV3 := Lib.hid HHV2
    have HIN := Lib.hid hin
    have HNE := Lib.hid hne
    clear hhv hLk hD0 HLK HLK2 HHV2 hin hne
    have hO1 := Lib.hid (on_days HLK3.out (by omega) o o)
    go_wp2_with fail
    refine hO1.out.mono ?_
    rintro e w6 ⟨A1, n1, c1, rfl, hb6, hl1, hm1, hc1, hS1⟩
    have HL1 := Lib.hid hl1
    have hbw6 := hbr.trans (hb6.mono hbr.size)
    have hO2 := Lib.hid (on_days (HLK3.out.below hb6) (by omega) 0 1023)
    clear hl1 hO1
    go_wp2_with fail
    refine hO2.out.mono ?_
    rintro e w7 ⟨A3, n3, c3, rfl, hb7, hl3, hm3, hc3, hS3⟩
    have HL3 := Lib.hid hl3
    have hbw7 := hbw6.trans (hb7.mono hbw6.size)
    have hO3 := Lib.hid (on_days ((HLK3.out.below hb6).below hb7) (by omega) 1024 2000)
    clear hl3 hO2
    go_wp2_with fail
    refine hO3.out.mono ?_
    rintro e w8 ⟨A4, n4, c4, rfl, hb8, hl4, hm4, hc4, hS4⟩
    have hz4 : n4 = 0 := by rw [← hl4, on_no cs o D 1024 2000 (by omega) (fun d hd => by have := HIN.out d hd; omega)]; rfl
    subst hz4
    have hbw8 := hbw7.trans (hb8.mono hbw7.size)
    have hO4 := Lib.hid (on_days (((HLK3.out.below hb6).below hb7).below hb8) (by omega) 5 4)
    clear hl4 hO3 hS4 hm4 hc4
    go_wp2_with fail
    refine hO4.out.mono ?_
    rintro e w9 ⟨A5, n5, c5, rfl, hb9, hl5, hm5, hc5, hS5⟩
    have hz5 : n5 = 0 := by rw [← hl5, on_no cs o D 5 4 (by omega) (fun d hd => by have := HIN.out d hd; omega)]; rfl
    subst hz5
    have hbw9 := hbw8.trans (hb9.mono hbw8.size)
    clear hl5 hO4 hS5 hm5 hc5
    have hS19 := ((hS1.below hb7).more hb7.size |>.below hb8 |>.more hb8.size |>.below hb9 |>.more hb9.size)
    have hS39 := ((hS3.below hb8).more hb8.size |>.below hb9 |>.more hb9.size)
    have hI1 := Lib.hid (KI.In_any A1 n1 c1 _ dI HL1.out w9 hS19 hm1)
    have hI2 := Lib.hid (KI.In_any A1 n1 c1 _ 1 HL1.out w9 hS19 hm1)
    have hI3 := Lib.hid (KI.In_any A3 n3 c3 _ dI HL3.out w9 hS39 hm3)
    rw [decide_eq_true (on_first cs o D)] at hI2
    have hoa := on_all cs o D HNE.out ho HIN.out
    have hoh := on_has cs o D HNE.out
    rw [HDI.out] at hoa hoh
    rw [HHV3.out] at hoh
    rw [decide_eq_true hoa] at hI3
    obtain ⟨q, hq⟩ : ∃ q, decide (dI ∈ onDays cs o D o o) = q := ⟨_, rfl⟩
    rw [hq] at hI1 hoh
    have HOH := Lib.hid hoh
    clear hoh hoa hq hS1 hS3 hS19 hS39 hm1 hm3 hc1 hc3
    go_wp2_with fail
    refine hI1.out.mono ?_
    rintro e w10 ⟨rfl, rfl⟩
    clear hI1
    cases q <;> cases hv
    ·skip
     go_wp2_with fail
     refine hI2.out.mono ?_
     rintro e w10 ⟨rfl, rfl⟩
     clear hI2
     go_wp2_with fail
     refine hI3.out.mono ?_
     rintro e w10 ⟨rfl, rfl⟩
     clear hI3
     go_wp2
     go_ret
     exact ⟨rfl, hbw9⟩
    ·have q5 : (dI == 1) = true := by
      rcases HOH.out with h1 | h1
      ·exact absurd h1 (by decide)
      ·exact beq_iff_eq.2 h1
     go_wp2_with fail
     refine hI2.out.mono ?_
     rintro e w10 ⟨rfl, rfl⟩
     clear hI2
     go_wp2_with fail
     refine hI3.out.mono ?_
     rintro e w10 ⟨rfl, rfl⟩
     clear hI3
     go_wp2
     go_ret
     exact ⟨rfl, hbw9⟩
    ·have q5 : (dI == 1) = true := by
      rcases HOH.out with h1 | h1
      ·exact absurd h1 (by decide)
      ·exact beq_iff_eq.2 h1
     go_wp2_with fail
     refine hI2.out.mono ?_
     rintro e w10 ⟨rfl, rfl⟩
     clear hI2
     go_wp2_with fail
     refine hI3.out.mono ?_
     rintro e w10 ⟨rfl, rfl⟩
     clear hI3
     go_wp2
     go_ret
     exact ⟨rfl, hbw9⟩
    ·skip
     go_wp2_with fail
     refine hI2.out.mono ?_
     rintro e w10 ⟨rfl, rfl⟩
     clear hI2
     go_wp2_with fail
     refine hI3.out.mono ?_
     rintro e w10 ⟨rfl, rfl⟩
     clear hI3
     go_wp2
     go_ret
     exact ⟨rfl, hbw9⟩
end Go.Proofs.YtalmnodgjjcefaaGreatDoor
