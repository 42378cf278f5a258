/-
  items.Check: may items be a block?
-/
import Derived.Test.YtnjchdehjinooaaItSeek2
namespace Go.Proofs.Ytnjchdehjinooaa
open Go.RowKit

/-- Is this no item of a block? -/
def badL (l : List UInt8) : Bool := decide (l.length < 1) || decide (400 < l.length)
/-- items.Check's answer. -/
def checkN (ls : List (List UInt8)) : Nat := if 8 < ls.length then 2 else if ls.length = 0 ∨ ls.any badL = true ∨ risesB ls = false then 1 else 0

theorem bad_any (A : Option Addr) (n c : Nat) (l : List UInt8) (hn : l.length = n) (w : World) :
    Calls Try.prog 26 #[.slice A n c] w fun e w' => e = .returned (.bool (badL l)) ∧ w = w' := by
  have hb : badL l = (decide ((n : Int) < 1) || decide (400 < (n : Int))) := by unfold badL; rw [hn]; congr 1 <;> rw [decide_eq_decide] <;> omega
  rw [hb]
  clear hb hn
  go_enter Try.func26, Try.ntmps26
  go_wp2
  all_goals
    go_ret
    exact ⟨rfl, rfl⟩

theorem any_at {ls : List (List UInt8)} {k : Nat} (h : k < ls.length) : (ls.drop k).any badL = (badL ls[k] || (ls.drop (k + 1)).any badL) := by
  rw [List.drop_eq_getElem_cons h]
  rfl

def IdxIs (w : World) (b : Bool) (e : Ending) (w' : World) : Prop := w' = w ∧ ∃ z : Int, decide (0 ≤ z) = b ∧ e = .returned (.int .i64 z)

set_option maxRecDepth 100000 in
set_option maxHeartbeats 400000 in
theorem IndexFunc_any (A : Option Addr) (n c : Nat) (ls : List (List UInt8)) (hn : ls.length = n) (w : World) (hS : Sees2 w w.heap.size A ls) (hlen : n ≤ 1099511627776) :
    Calls Try.prog 34 #[.slice A n c, .func (.func 26) #[] #[]] w (IdxIs w (ls.any badL)) := by
  obtain ⟨X, hX⟩ : ∃ X, ls.any badL = X := ⟨_, rfl⟩
  rw [hX]
  have HX := Lib.hid hX
  have HN := Lib.hid hn
  clear hn hX
  go_enter Try.func34, Try.ntmps34
  go_wp2
  go_loopg [8] n (fun g i wr => ∃ k : Nat, k + g = n ∧ i = .int .i64 k ∧ Hid (X = (ls.drop k).any badL) ∧ wr = w)
  case atStart => exact ⟨0, by omega, rfl, HX.out.symm, rfl⟩
  case round =>
    obtain ⟨k, hk, rfl, heq, rfl⟩ := hrel
    by_cases hlt : k < n
    · obtain ⟨ad, Ai, ci, rfl, hadB, hcell, hci, hsee⟩ := hS.out k (by have := HN.out; omega)
      have hstep := Lib.hid (heq.out.trans (any_at (ls := ls) (k := k) (by have := HN.out; omega)))
      obtain ⟨L, hL⟩ : ∃ L, ls[k]'(by have := HN.out; omega) = L := ⟨_, rfl⟩
      rw [hL] at hcell hci hsee hstep
      have hC := Lib.hid (bad_any Ai L.length ci L rfl wr)
      clear hL heq
      obtain ⟨b, hb⟩ : ∃ b, badL L = b := ⟨_, rfl⟩
      rw [hb] at hstep hC
      clear hb
      cases b with
      | true =>
        have HF : Hid (X = true) := by have := hstep.out; rw [Bool.true_or] at this; exact this
        clear hstep
        go_wp2_with fail
        refine hC.out.mono ?_
        rintro e w1 ⟨rfl, rfl⟩
        go_wp2
        go_ret
        rw [HF.out]
        exact ⟨rfl, k, by simp, rfl⟩
      | false =>
        have hT : Hid (X = (ls.drop (k + 1)).any badL) := by have := hstep.out; rw [Bool.false_or] at this; exact this
        clear hstep
        go_wp2_with fail
        refine hC.out.mono ?_
        rintro e w1 ⟨rfl, rfl⟩
        go_wp2
        go_roundg (n - (k + 1))
        case measure => omega
        case rel => exact ⟨k + 1, by omega, by go_num, hT, rfl⟩
    · have HF : Hid (X = false) := by have := heq.out; rw [List.drop_eq_nil_of_le (by have := HN.out; omega)] at this; exact this
      clear heq
      go_wp2
      go_ret
      rw [HF.out]
      exact ⟨rfl, -1, by decide, rfl⟩

set_option maxRecDepth 100000 in
set_option maxHeartbeats 400000 in
theorem ContainsFunc_any (A : Option Addr) (n c : Nat) (ls : List (List UInt8)) (hn : ls.length = n) (w : World) (hS : Sees2 w w.heap.size A ls) (hlen : n ≤ 1099511627776) :
    Calls Try.prog 27 #[.slice A n c, .func (.func 26) #[] #[]] w fun e w' => e = .returned (.bool (ls.any badL)) ∧ w = w' := by
  have hC := Lib.hid (IndexFunc_any A n c ls hn w hS hlen)
  clear hn hS
  generalize ls.any badL = X at hC ⊢
  go_enter Try.func27, Try.ntmps27
  go_wp2_with fail
  refine hC.out.mono ?_
  rintro e w1 ⟨rfl, z, h1, rfl⟩
  subst h1
  go_wp2
  go_ret
  exact ⟨rfl, rfl⟩

set_option maxRecDepth 100000 in
set_option maxHeartbeats 400000 in
theorem Check_any (A : Option Addr) (n c : Nat) (ls : List (List UInt8)) (hn : ls.length = n) (w : World) (hS : Sees2 w w.heap.size A ls) (hlen : n ≤ 1099511627776) :
    Calls Try.prog 16 #[.slice A n c] w (NumIs w (checkN ls)) := by
  obtain ⟨X, hX⟩ : ∃ X, checkN ls = X := ⟨_, rfl⟩
  rw [hX]
  unfold checkN at hX
  rw [hn] at hX
  by_cases h8 : 8 < n
  · rw [if_pos h8] at hX
    have HX := Lib.hid hX
    clear hX hn
    go_enter Try.func16, Try.ntmps16
    go_wp2
    go_ret
    rw [← HX.out]
    exact ⟨rfl, 0, rfl⟩
  rw [if_neg h8] at hX
  by_cases h0 : n = 0
  · rw [if_pos (.inl h0)] at hX
    have HX := Lib.hid hX
    have hz : ((n : Int) == 0) = true := by rw [beq_iff_eq]; omega
    clear hX hn h0
    go_enter Try.func16, Try.ntmps16
    go_wp2
    go_ret
    rw [← HX.out]
    exact ⟨rfl, 0, rfl⟩
  have hz : ((n : Int) == 0) = false := by rw [beq_eq_false_iff_ne]; omega
  have hC := Lib.hid (ContainsFunc_any A n c ls hn w hS hlen)
  have hR := Lib.hid (rises_any A n c ls hn w hS hlen)
  by_cases hb : ls.any badL = true
  · rw [if_pos (.inr (.inl hb))] at hX
    rw [hb] at hC
    have HX := Lib.hid hX
    clear hX hn hb hR h0
    go_enter Try.func16, Try.ntmps16
    go_wp2_with fail
    refine hC.out.mono ?_
    rintro e w1 ⟨rfl, rfl⟩
    go_wp2
    go_ret
    rw [← HX.out]
    exact ⟨rfl, 0, rfl⟩
  rw [Bool.not_eq_true] at hb
  rw [hb] at hC
  by_cases hr : risesB ls = false
  · rw [if_pos (.inr (.inr hr))] at hX
    rw [hr] at hR
    have HX := Lib.hid hX
    clear hX hn hb hr h0
    go_enter Try.func16, Try.ntmps16
    go_wp2_with fail
    refine hC.out.mono ?_
    rintro e w1 ⟨rfl, rfl⟩
    go_wp2_with fail
    refine hR.out.mono ?_
    rintro e w1 ⟨rfl, q, rfl⟩
    go_wp2
    go_ret
    rw [← HX.out]
    exact ⟨rfl, q, rfl⟩
  · rw [if_neg (by rw [hb]; simp [hr, h0])] at hX
    rw [Bool.not_eq_false] at hr
    rw [hr] at hR
    have HX := Lib.hid hX
    clear hX hn hb hr h0
    go_enter Try.func16, Try.ntmps16
    go_wp2_with fail
    refine hC.out.mono ?_
    rintro e w1 ⟨rfl, rfl⟩
    go_wp2_with fail
    refine hR.out.mono ?_
    rintro e w1 ⟨rfl, q, rfl⟩
    go_wp2
    go_ret
    rw [← HX.out]
    exact ⟨rfl, q, rfl⟩
end Go.Proofs.Ytnjchdehjinooaa
