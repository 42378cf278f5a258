/-
  The law RowsAlls, walked.
-/
import Derived.Test.YtpjiioeodcinpaaGreatDoorRwAwake
import Derived.Test.YtpjiioeodcinpaaGreatDoorRwRefAll
namespace Go.Proofs.YtpjiioeodcinpaaGreatDoor
open Go.RowKit

theorem alls_same {w w3 w' w4 : World} {ls : List Lb} {i : Int} {days : List Int} {e e' : Ending} (h : AllRows w ls i days e w3) (h' : AllRows w' ls i days e' w4) :
    ∃ (A A' : Option Addr) (n c c' k : Nat) (L : List (List UInt8)), e = .returned (.tuple #[.slice A n c, .int .i64 k]) ∧ e' = .returned (.tuple #[.slice A' n c', .int .i64 k]) ∧ Below w.heap.size w w3 ∧ Below w'.heap.size w' w4 ∧ BRow w3 A n c L ∧ BRow w4 A' n c' L := by
  obtain ⟨A, n, c, k, L, rfl, hb, hr, h1⟩ := h
  obtain ⟨A', n', c', k', L', rfl, hb', hr', h1'⟩ := h'
  have hk : k' = k ∧ L' = L := by
    rcases h1 with ⟨g1, g2, g3⟩ | ⟨g1, g2, g3⟩ <;> rcases h1' with ⟨j1, j2, j3⟩ | ⟨j1, j2, j3⟩
    · exact ⟨j2.trans g2.symm, j3.trans g3.symm⟩
    · exact absurd g1 j1
    · exact absurd j1 g1
    · exact ⟨j2.trans g2.symm, j3.trans g3.symm⟩
  obtain ⟨rfl, rfl⟩ := hk
  have hn : n' = n := hr'.len.symm.trans hr.len
  subst hn
  exact ⟨A, A', _, c, c', _, _, rfl, rfl, hb, hb', hr, hr'⟩

set_option maxRecDepth 100000 in
set_option maxHeartbeats 3200000 in
theorem RowsAlls_any (A A2 : Option Addr) (n c m c2 : Nat) (ls : List Lb) (days : List Int) (hn : ls.length = n) (hm : days.length = m) (i : Int) (w : World) (hS : Sees w w.heap.size A (lv ls)) (hD : Sees w w.heap.size A2 (dv days)) :
    Calls Tryz.prog 5 #[.slice A n c, .int .i64 i, .slice A2 m c2] w (Gives w (.bool true)) := by
  have HN := Lib.hid hn
  have HM := Lib.hid hm
  have hA := Lib.hid (awake_any w)
  clear hn hm
  go_enter Tryz.func5, Tryz.ntmps5
  go_wp2_with fail
  refine hA.out.mono ?_
  rintro en w2 ⟨rfl, hb2⟩
  have hF := Lib.hid (few_any A n c ls HN.out ⟨#[]⟩ ⟨#[]⟩ w2 ((hS.below hb2).more hb2.size))
  clear hA
  go_wp2_with fail
  refine hF.out.mono ?_
  rintro en w3 ⟨bf, hfew, rfl, hb3'⟩
  have b3 : Below w.heap.size w w3 := hb2.trans (hb3'.mono hb2.size)
  cases bf with
  | false =>
    clear hF
    go_wp2_with fail
    go_ret
    exact ⟨rfl, b3⟩
  | true =>
  have HFA := Lib.hid (hfew rfl)
  clear hfew hF
  by_cases hl : (20 : Int) < (m : Int)
  · go_wp2_with fail
    go_ret
    exact ⟨rfl, b3⟩
  have hP := Lib.hid (All_any A A2 n c m c2 ls days HN.out HM.out i w3 ((hS.below b3).more b3.size) ((hD.below b3).more b3.size) (by have := HFA.out.len; have := HN.out; omega) (by omega) HFA.out.sz.1)
  go_wp2_with fail
  refine hP.out.mono ?_
  rintro en w4 h4
  have hb4 : Below w3.heap.size w3 w4 := by obtain ⟨_, _, _, _, _, _, hb, _⟩ := h4; exact hb
  have b4 : Below w.heap.size w w4 := b3.trans (hb4.mono b3.size)
  have hQ := Lib.hid (RefAll_any A A2 n c m c2 ls days HN.out HM.out i w4 ((hS.below b4).more b4.size) ((hD.below b4).more b4.size) (by have := HFA.out.len; have := HN.out; omega) (by omega) HFA.out.sz.1)
  have H4 := Lib.hid h4
  obtain ⟨A4, n4, c4, k4, L4, rfl, -⟩ := h4
  clear hP
  go_wp2_with fail
  refine hQ.out.mono ?_
  rintro en w5 h5
  obtain ⟨A4', A5, n5, c4', c5, k5, L, e4, rfl, hb4', hb5, hr4, hr5⟩ := alls_same H4.out h5
  simp only [Ending.returned.injEq, Value.tuple.injEq] at e4
  obtain ⟨e41, e42⟩ : Value.slice A4 n4 c4 = .slice A4' n5 c4' ∧ Value.int .i64 (k4 : Int) = .int .i64 (k5 : Int) := by
    simpa using e4
  injection e41 with g1 g2 g3
  injection e42 with _ g4
  subst g1
  subst g2
  subst g3
  have g5 : k4 = k5 := by omega
  subst g5
  have b5 : Below w.heap.size w w5 := b4.trans (hb5.mono b4.size)
  have hSm := Lib.hid (bsame (hr4.below hb5) hr5 rfl)
  clear hQ h5 hr4 hr5 e4 g4 H4
  go_wp2_with fail
  refine hSm.out.mono ?_
  rintro en w6 ⟨rfl, hb6⟩
  go_wp2_with fail
  go_ret
  exact ⟨rfl, b5.trans (hb6.mono b5.size)⟩
end Go.Proofs.YtpjiioeodcinpaaGreatDoor
