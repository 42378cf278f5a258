/-
  The law KmergeItems, walked: the items of any rows are the document's.
-/
import Derived.Test.YtcfbblgoligagaaKmPutB
namespace Go.Proofs.Ytcfbblgoligagaa
open Go.RowKit KB

set_option maxRecDepth 100000 in
set_option maxHeartbeats 1600000 in
theorem KmergeItems_small (A : Option Addr) (n cn : Nat) (LL : List (List El)) (hn : LL.length = n) (w : World) (hR : KB.RowsIn (fun k => k < w.heap.size) w A LL) (hf : fewB (keysOf LL) = true) (hS : Sees3 w w.heap.size A (keysOf LL)) :
    Calls Try.prog 3 #[.slice A n cn] w (IsTrue w) := by
  have hnot : ∀ (x : Bool) (w : World), (Op.unary .not (.bool x)).run Try.prog w = .ok (.bool (!x)) w := fun _ _ => rfl
  have hy := few_yes hf
  have hkl : (keysOf LL).length = n := by rw [← hn]; simp [keysOf]
  have hn10 : n ≤ 10 := by omega
  have hfl : LL.flatten.length ≤ 600 := by
    have h1 := flat_few fun r hr => (hy.2 r hr).1
    rw [keysOf_flat, List.length_map] at h1
    omega
  have hsh : ∀ r ∈ LL, ∀ y ∈ r, y.1.length ≤ 1000 := fun r hr y hyr => by
    have := (hy.2 _ (List.mem_map_of_mem hr)).2 _ (List.mem_map_of_mem hyr)
    exact Nat.le_trans this (by omega)
  have hR' := fun (w' : World) (hb : Below w.heap.size w w') => ((hR.keep (Kept.of_below hb fun k e => e)).mono (fun k e => Nat.lt_of_lt_of_le e hb.size) : KB.RowsIn (fun k => k < w'.heap.size) w' A LL)
  have HR := Lib.hid hR'
  have HN := Lib.hid hn
  have HF := Lib.hid hf
  have HSH := Lib.hid hsh
  have HS := Lib.hid hS
  have HKL := Lib.hid hkl
  clear hR hn hf hsh hS hy hR' hkl
  go_enter Try.func3, Try.ntmps3
  go_wp2_with fail
  refine (awake_any w).mono ?_
  rintro e w1 ⟨rfl, hb1⟩
  have hsh := few_any A n cn (keysOf LL) HKL.out w1 ((HS.out.below hb1).more hb1.size)
  rw [HF.out] at hsh
  go_wp2_with fail
  refine hsh.mono ?_
  rintro e w2 ⟨rfl, rfl⟩
  clear hsh HF
  go_wp2_with fail
  refine (Items_rowsIn A n cn LL w1 (HR.out w1 hb1) HN.out (by omega) (by omega) HSH.out).mono ?_
  obtain ⟨U, hU⟩ : ∃ U, uniqL ahead (LL.flatten.map key) = U := ⟨_, rfl⟩
  rw [hU]
  have HU := Lib.hid hU
  clear hU
  rintro e w2 ⟨A2, c2, rfl, hR2, hb2⟩
  have hb02 := hb1.trans (hb2.mono hb1.size)
  go_wp2_with fail
  refine (RefItems_any A n cn LL w2 (HR.out w2 hb02) HN.out (by omega) (by omega) HSH.out).mono ?_
  rw [HU.out]
  rintro e w3 ⟨A3, c3, rfl, hR3, hb3⟩
  have hb03 := hb02.trans (hb3.mono hb02.size)
  replace hR2 := hR2.below hb3
  go_wp2_with fail
  refine (bsame hR2 hR3 rfl).mono ?_
  rintro e w4 ⟨rfl, hb4⟩
  have hb04 := hb03.trans (hb4.mono hb03.size)
  go_wp2_with fail
  go_ret
  exact ⟨rfl, hb04⟩

set_option maxRecDepth 100000 in
set_option maxHeartbeats 400000 in
theorem KmergeItems_any (A : Option Addr) (n cn : Nat) (ll : List (List Item)) (hn : ll.length = n) (w : World) (hS : Sees3 w w.heap.size A ll) :
    Calls Try.prog 3 #[.slice A n cn] w (IsTrue w) := by
  have hnot : ∀ (x : Bool) (w : World), (Op.unary .not (.bool x)).run Try.prog w = .ok (.bool (!x)) w := fun _ _ => rfl
  obtain ⟨s, hs⟩ : ∃ s, fewB ll = s := ⟨_, rfl⟩
  cases s with
  | true =>
    obtain ⟨LL, rfl, hR⟩ := rows_of hS
    exact KmergeItems_small A n cn LL (by rw [← hn]; simp [keysOf]) w hR hs hS
  | false =>
    have hsh := fun (w1 : World) (hb1 : Below w.heap.size w w1) => few_any A n cn ll hn w1 ((hS.below hb1).more hb1.size)
    rw [hs] at hsh
    have HSH := Lib.hid hsh
    clear hs hn hS hsh
    go_enter Try.func3, Try.ntmps3
    go_wp2_with fail
    refine (awake_any w).mono ?_
    rintro e w1 ⟨rfl, hb1⟩
    go_wp2_with fail
    refine (HSH.out w1 hb1).mono ?_
    rintro e w2 ⟨rfl, rfl⟩
    go_wp2_with fail
    go_ret
    exact ⟨rfl, hb1⟩
end Go.Proofs.Ytcfbblgoligagaa
