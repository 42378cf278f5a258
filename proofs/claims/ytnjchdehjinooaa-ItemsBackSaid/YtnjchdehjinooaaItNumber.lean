/-
  items.Unpack's own function that takes a number off what is left.
-/
import Derived.Test.YtnjchdehjinooaaItPack
import Derived.Test.YtnjchdehjinooaaConcat
namespace Go.Proofs.Ytnjchdehjinooaa
open Go.RowKit

/-- One captured variable's block. -/
def OneErr (w : World) (b : Nat) (e : Int) : Prop := w.heap[b]? = some (.cells #[.int .i64 e] 29 (0, 0))
def OneRow (w : World) (b : Nat) (A : Option Addr) (n c : Nat) : Prop := w.heap[b]? = some (.cells #[.slice A n c] 23 (0, 0))

def numR (l : List UInt8) : Nat × List UInt8 × Nat :=
  if (vtake l).2.2 ≠ 0 then (0, l, (vtake l).2.2) else if 400 < (vtake l).1 then (0, l, 11) else ((vtake l).1, l.drop (vtake l).2.1, 0)

def ptrTo (b : Nat) : Value := .pointer (some ⟨b, 0, none⟩)

def NumErr (w : World) (bF : Nat) (e : Nat) (en : Ending) (w' : World) : Prop := en = .returned (.int .i64 0) ∧ ∃ w1, Below w.heap.size w w1 ∧ w' = w1.setCell ⟨bF, 0, none⟩ (.int .i64 (e : Nat))
def NumOk (w : World) (bR : Nat) (u : Nat) (r : List UInt8) (en : Ending) (w' : World) : Prop := en = .returned (.int .i64 (u : Nat)) ∧ ∃ w1 v, Below w.heap.size w w1 ∧ OwnB w1 w.heap.size v r ∧ w' = w1.setCell ⟨bR, 0, none⟩ v

set_option maxRecDepth 100000 in
set_option maxHeartbeats 400000 in
theorem number_idle (bF bR : Nat) (e0 : Nat) (he : e0 ≠ 0) (w : World) (hF : OneErr w bF e0) :
    Calls Try.prog 21 #[ptrTo bF, ptrTo bR] w fun e w' => e = .returned (.int .i64 0) ∧ w = w' := by
  have hcF := cell_of_one hF
  have hz : ((e0 : Int) != 0) = true := by rw [bne_iff_ne]; omega
  unfold ptrTo
  clear hF he
  go_enter Try.func21, Try.ntmps21
  go_wp2
  go_ret
  exact ⟨rfl, rfl⟩

set_option maxRecDepth 100000 in
set_option maxHeartbeats 400000 in
theorem number_err (bF bR : Nat) (A : Option Addr) (n c : Nat) (l : List UInt8) (hn : l.length = n) (hnc : n ≤ c) (hlen : n ≤ 1000000) (w : World) (hF : OneErr w bF 0) (hR : OneRow w bR A n c) (hS : Sees w w.heap.size A (bv l)) (e : Nat) (he : (numR l).2.2 = e) (he0 : e ≠ 0) :
    Calls Try.prog 21 #[ptrTo bF, ptrTo bR] w (NumErr w bF e) := by
  have hcF := cell_of_one hF
  have hcR := cell_of_one hR
  have hT := Lib.hid (Take_any A n c l hn w hS (by omega) (by omega))
  have hbF := lt_of_block hF
  have hF' := fun (w' : World) (hb : Below w.heap.size w w') => free_of_one ((hb.block bF hbF).trans hF)
  have hF2 := fun (w' : World) (hb : Below w.heap.size w w') => cell_of_one ((hb.block bF hbF).trans hF)
  have hz : ((0 : Int) != 0) = false := rfl
  unfold numR at he
  unfold ptrTo
  by_cases h1 : (vtake l).2.2 = 0
  · rw [if_neg (fun hh => hh h1)] at he
    simp only [h1, if_true] at hT
    by_cases h2 : 400 < (vtake l).1
    · rw [if_pos h2] at he
      simp only at he
      have HE := Lib.hid he
      have hu64 : Hid ((vtake l).1 = (vtake l).1) := rfl
      generalize (vtake l).1 = u at hT h2
      clear hu64
      generalize l.drop (vtake l).2.1 = r at hT
      have h2' : (400 : Int) < (u : Int) := by omega
      clear he h2 h1 hF hR hn
      go_enter Try.func21, Try.ntmps21
      go_wp2_with fail
      refine hT.out.mono ?_
      rintro en w1 ⟨v, rfl, hown, hb⟩
      have hfz := hF' w1 hb
      have hfc := hF2 w1 hb
      go_wp2_with fail
      go_ret
      exact ⟨rfl, w1, hb, by rw [← HE.out]; rfl⟩
    · rw [if_neg h2] at he
      exact absurd he.symm he0
  · rw [if_pos h1] at he
    simp only at he
    simp only [h1, if_false] at hT
    rw [he] at hT
    generalize (vtake l).1 = u at hT
    have hz2 : ((e : Int) != 0) = true := by rw [bne_iff_ne]; omega
    clear he h1 hF hR hn he0
    go_enter Try.func21, Try.ntmps21
    go_wp2_with fail
    refine hT.out.mono ?_
    rintro en w1 ⟨v, rfl, hown, hb⟩
    have hfz := hF' w1 hb
    have hfc := hF2 w1 hb
    go_wp2_with fail
    go_ret
    exact ⟨rfl, w1, hb, rfl⟩

set_option maxRecDepth 100000 in
set_option maxHeartbeats 400000 in
theorem number_ok (bF bR : Nat) (A : Option Addr) (n c : Nat) (l : List UInt8) (hn : l.length = n) (hnc : n ≤ c) (hlen : n ≤ 1000000) (w : World) (hF : OneErr w bF 0) (hR : OneRow w bR A n c) (hS : Sees w w.heap.size A (bv l)) (u : Nat) (r : List UInt8) (he : numR l = (u, r, 0)) :
    Calls Try.prog 21 #[ptrTo bF, ptrTo bR] w (NumOk w bR u r) := by
  have hcF := cell_of_one hF
  have hcR := cell_of_one hR
  have hT := Lib.hid (Take_any A n c l hn w hS (by omega) (by omega))
  have hbR := lt_of_block hR
  have hR' := fun (w' : World) (hb : Below w.heap.size w w') => free_of_one ((hb.block bR hbR).trans hR)
  have hR2 := fun (w' : World) (hb : Below w.heap.size w w') => cell_of_one ((hb.block bR hbR).trans hR)
  have hz : ((0 : Int) != 0) = false := rfl
  unfold numR at he
  unfold ptrTo
  by_cases h1 : (vtake l).2.2 = 0
  · rw [if_neg (fun hh => hh h1)] at he
    simp only [h1, if_true] at hT
    by_cases h2 : 400 < (vtake l).1
    · rw [if_pos h2] at he
      injection he with _ he
      injection he with _ he
      cases he
    · rw [if_neg h2] at he
      injection he with he1 he
      injection he with he2 he
      rw [he1, he2] at hT
      have h2' : (u : Int) ≤ 400 := by omega
      have h2d : decide ((400 : Int) < (u : Int)) = false := by rw [decide_eq_false_iff_not]; omega
      clear he1 he2 he h1 h2 hF hR hn
      go_enter Try.func21, Try.ntmps21
      go_wp2_with fail
      refine hT.out.mono ?_
      rintro en w1 ⟨v, rfl, hown, hb⟩
      obtain ⟨A1, c1, rfl, hc1, hm1, hown', hs1⟩ := hown.open_
      have hfz := hR' w1 hb
      have hfc := hR2 w1 hb
      go_wp2_with fail
      go_ret
      exact ⟨rfl, w1, _, hb, hown, rfl⟩
  · rw [if_pos h1] at he
    injection he with _ he
    injection he with _ he
    exact absurd he h1
end Go.Proofs.Ytnjchdehjinooaa
