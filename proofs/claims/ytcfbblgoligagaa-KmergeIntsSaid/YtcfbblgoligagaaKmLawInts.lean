/-
  The law KmergeInts, walked: the numbers of any rows, those that all have, and those that one has alone, are the document's.
-/
import Derived.Test.YtcfbblgoligagaaKmAw
namespace Go.Proofs.Ytcfbblgoligagaa
open Go.RowKit KI

theorem same_rows {w : World} {A B : Option Addr} {c d : Nat} {l : List Int} (h : Row w A l.length c l) (g : Row w B l.length d l) : Calls Try.prog 15 #[.slice A l.length c, .slice B l.length d] w (Gives w (.bool true)) := same_2 h g rfl

set_option maxRecDepth 100000 in
set_option maxHeartbeats 3200000 in
theorem KmergeInts_any (A B C : Option Addr) (n cn m cm k ck : Nat) (ll : List (List Int)) (a b : List Int) (hn : ll.length = n) (hm : a.length = m) (hmc : m ≤ cm) (hk : b.length = k) (hkc : k ≤ ck) (w : World) (hR : KI.RowsIn (fun k => k < w.heap.size) w A ll) (hS2 : Sees w w.heap.size B (iv a)) (hS3 : Sees w w.heap.size C (iv b)) :
    Calls Try.prog 4 #[.slice A n cn, .slice B m cm, .slice C k ck] w (IsTrue w) := by
  have hnot : ∀ (x : Bool) (w : World), (Op.unary .not (.bool x)).run Try.prog w = .ok (.bool (!x)) w := fun _ _ => rfl
  have hA := fun (w' : World) (hb : Below w.heap.size w w') => ((hR.keep (Kept.of_below hb fun k e => e)).mono (fun k e => Nat.lt_of_lt_of_le e hb.size) : KI.RowsIn (fun k => k < w'.heap.size) w' A ll)
  have hB := fun (w' : World) (hb : Below w.heap.size w w') (hle : m ≤ 100) => (⟨hm, hmc, by omega, (hS2.below hb).more hb.size⟩ : Row w' B m cm a)
  have hC := fun (w' : World) (hb : Below w.heap.size w w') (hle : k ≤ 100) => (⟨hk, hkc, by omega, (hS3.below hb).more hb.size⟩ : Row w' C k ck b)
  have HA := Lib.hid hA
  have HB := Lib.hid hB
  have HC := Lib.hid hC
  have HN := Lib.hid hn
  have HM := Lib.hid hm
  have HK := Lib.hid hk
  clear hA hB hC hn hm hk hR hS2 hS3
  go_enter Try.func4, Try.ntmps4
  go_wp2_with fail
  refine (awake_any w).mono ?_
  rintro e w1 ⟨rfl, hb1⟩
  have hsh := short_any A n cn ll HN.out w1 (HA.out w1 hb1)
  obtain ⟨s, hs⟩ : ∃ s, shortB ll = s := ⟨_, rfl⟩
  rw [hs] at hsh
  have HS := Lib.hid hs
  clear hs
  go_wp2_with fail
  refine hsh.mono ?_
  rintro e w2 ⟨rfl, rfl⟩
  clear hsh
  cases s with
  | false =>
    go_wp2
    go_ret
    exact ⟨rfl, hb1⟩
  | true =>
  by_cases h2 : m ≤ 100
  rotate_left
  · go_wp2
    go_ret
    exact ⟨rfl, hb1⟩
  by_cases h3 : k ≤ 100
  rotate_left
  · go_wp2
    go_ret
    exact ⟨rfl, hb1⟩
  have hy := short_yes HS.out
  have hn10 : n ≤ 10 := by have := HN.out; omega
  have hfl : ll.flatten.length ≤ 1000 := by have := flat_few hy.2; have := HN.out; omega
  have hl6 : Hid (∀ r ∈ ll, r.length ≤ 1000000) := fun r hr => by have := hy.2 r hr; omega
  have hu := uniqL_len ordr ll.flatten
  have hml := meet_len ll
  have hll : (lessL a b).length ≤ 100 := by have h1 := uniqL_len ordr (a.filter fun x => !decide (x ∈ b)); have h2 := List.length_filter_le (fun x => !decide (x ∈ b)) a; have := HM.out; unfold lessL; omega
  obtain ⟨U, hU⟩ : ∃ U, uniqL lt ll.flatten = U := ⟨_, rfl⟩
  obtain ⟨M, hM⟩ : ∃ M, meetL ll = M := ⟨_, rfl⟩
  obtain ⟨L, hL⟩ : ∃ L, lessL a b = L := ⟨_, rfl⟩
  rw [hU] at hu
  rw [hM] at hml
  rw [hL] at hll
  have HU := Lib.hid hU
  have HMM := Lib.hid hM
  have HL := Lib.hid hL
  have hU6 : U.length ≤ 1000000 := by omega
  have hM6 : M.length ≤ 1000000 := by omega
  have hL6 : L.length ≤ 1000000 := by omega
  clear hU hM hL hu hml hll hy
  go_wp2_with fail
  refine (Ints_any A n cn ll w1 (HA.out w1 hb1) HN.out (by omega) hl6.out (by omega)).mono ?_
  rw [HU.out]
  rintro e w3 g3
  obtain ⟨A3, c3, rfl, hR3, hb3⟩ := g3.rowI.row hU6
  have hb03 := hb1.trans (hb3.mono hb1.size)
  clear g3
  go_wp2_with fail
  refine (RefInts_any A n cn ll w3 (HA.out w3 hb03) HN.out (by omega) (by omega)).mono ?_
  rw [HU.out]
  rintro e w4 g4
  obtain ⟨A4, c4, rfl, hR4, hb4⟩ := g4.row hU6
  have hb04 := hb03.trans (hb4.mono hb03.size)
  replace hR3 := hR3.below hb4
  clear g4
  go_wp2_with fail
  refine (same_rows hR3 hR4).mono ?_
  rintro e w5 ⟨rfl, hb5⟩
  have hb05 := hb04.trans (hb5.mono hb04.size)
  clear hR3 hR4
  go_wp2_with fail
  refine (Meet_any A n cn ll w5 (HA.out w5 hb05) HN.out (by omega) hl6.out (by omega)).mono ?_
  rw [HMM.out]
  rintro e w6 g6
  obtain ⟨A6, c6, rfl, hR6, hb6⟩ := g6.rowI.row hM6
  have hb06 := hb05.trans (hb6.mono hb05.size)
  clear g6
  go_wp2_with fail
  refine (RefMeet_any A n cn ll w6 (HA.out w6 hb06) HN.out (by omega) (by omega)).mono ?_
  rw [HMM.out]
  rintro e w7 g7
  obtain ⟨A7, c7, rfl, hR7, hb7⟩ := g7.row hM6
  have hb07 := hb06.trans (hb7.mono hb06.size)
  replace hR6 := hR6.below hb7
  clear g7
  go_wp2_with fail
  refine (same_rows hR6 hR7).mono ?_
  rintro e w8 ⟨rfl, hb8⟩
  have hb08 := hb07.trans (hb8.mono hb07.size)
  clear hR6 hR7
  go_wp2_with fail
  refine (less_2 (HB.out w8 hb08 h2) (HC.out w8 hb08 h3)).mono ?_
  rw [HL.out]
  rintro e w9 g9
  obtain ⟨A9, c9, rfl, hR9, hb9⟩ := g9.row hL6
  have hb09 := hb08.trans (hb9.mono hb08.size)
  clear g9
  go_wp2_with fail
  refine (RefLess_any B C m cm k ck a b HM.out HK.out w9 (HB.out w9 hb09 h2).sees (HC.out w9 hb09 h3).sees (by omega) (by omega)).mono ?_
  rw [HL.out]
  rintro e wa ga
  obtain ⟨Aa, ca, rfl, hRa, hba⟩ := ga.row hL6
  have hb0a := hb09.trans (hba.mono hb09.size)
  replace hR9 := hR9.below hba
  clear ga
  go_wp2_with fail
  refine (same_rows hR9 hRa).mono ?_
  rintro e wb ⟨rfl, hbb⟩
  have hb0b := hb0a.trans (hbb.mono hb0a.size)
  go_wp2_with fail
  go_ret
  exact ⟨by simp, hb0b⟩
end Go.Proofs.Ytcfbblgoligagaa
