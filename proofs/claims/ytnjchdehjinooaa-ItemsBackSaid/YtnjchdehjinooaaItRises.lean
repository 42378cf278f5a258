/-
  Do items rise? The program's walk of it, and the document's.
-/
import Derived.Test.YtnjchdehjinooaaItRefCommon
namespace Go.Proofs.Ytnjchdehjinooaa
open Go.RowKit

/-- Do items rise? -/
def risesB : List (List UInt8) → Bool
  | a :: b :: t => ahead a b && risesB (b :: t)
  | _ => true
theorem rises_end {ls : List (List UInt8)} {k : Nat} (h : ls.length ≤ k + 1) : risesB (ls.drop k) = true := by
  by_cases hk : k < ls.length
  · rw [List.drop_eq_getElem_cons hk, List.drop_eq_nil_of_le (by omega)]; rfl
  · rw [List.drop_eq_nil_of_le (by omega)]; rfl
theorem rises_at {ls : List (List UInt8)} {k : Nat} (h : k + 1 < ls.length) : risesB (ls.drop k) = (ahead ls[k] ls[k + 1] && risesB (ls.drop (k + 1))) := by
  rw [List.drop_eq_getElem_cons (i := k) (by omega), List.drop_eq_getElem_cons (i := k + 1) h]
  rfl
def BoolIs (w : World) (b : Bool) (e : Ending) (w' : World) : Prop := e = .returned (.bool b) ∧ ∃ q, w' = w.drewN q

def cmpFn : Value := .func (.func 20) #[] #[]

set_option maxRecDepth 100000 in
set_option maxHeartbeats 400000 in
theorem rises_any (A : Option Addr) (n c : Nat) (ls : List (List UInt8)) (hn : ls.length = n) (w : World) (hS : Sees2 w w.heap.size A ls) (hlen : n ≤ 1099511627776) :
    Calls Try.prog 28 #[.slice A n c, cmpFn] w (BoolIs w (risesB ls)) := by
  unfold cmpFn
  obtain ⟨X, hX⟩ : ∃ X, risesB ls = X := ⟨_, rfl⟩
  rw [hX]
  have HX := Lib.hid hX
  have HN := Lib.hid hn
  clear hn hX
  by_cases hn0 : n = 0
  · subst hn0
    have HF : Hid (X = true) := HX.out.symm.trans (rises_end (k := 0) (by have := HN.out; omega))
    clear HX
    go_enter Try.func28, Try.ntmps28
    go_wp2
    go_loop [5] (fun i => i = .int .i64 1) (fun _ => 0)
    case atStart => rfl
    case round =>
      subst hrel
      go_wp2
      go_ret
      unfold BoolIs
      rw [HF.out]
      exact ⟨rfl, 0, rfl⟩
  go_enter Try.func28, Try.ntmps28
  go_wp2
  go_loopg [5] n (fun g i wr => ∃ k : Nat, k + g = n + 1 ∧ 1 ≤ k ∧ i = .int .i64 k ∧ Hid (X = risesB (ls.drop (k - 1))) ∧ ∃ q, wr = w.drewN q)
  case atStart => exact ⟨1, by omega, by omega, rfl, HX.out.symm, 0, rfl⟩
  case round =>
    obtain ⟨k, hk, hk1, rfl, heq, q, rfl⟩ := hrel
    by_cases hlt : k < n
    · obtain ⟨j, hj⟩ : ∃ j, k - 1 = j := ⟨_, rfl⟩
      have hjn : j < n := by omega
      have hjk : k = j + 1 := by omega
      obtain ⟨ad, Ai, ci, rfl, hadB, hcell, hci, hsee⟩ := hS.out j (by have := HN.out; omega)
      obtain ⟨ad2, Aj, cj, he2, hadB2, hcell2, hcj, hsee2⟩ := hS.out k (by have := HN.out; omega)
      injection he2 with he2
      subst he2
      rw [hj] at heq
      have hstep : Hid (X = (ahead (ls[j]'(by have := HN.out; omega)) (ls[k]'(by have := HN.out; omega)) && risesB (ls.drop k))) := by
        have := heq.out.trans (rises_at (ls := ls) (k := j) (by have := HN.out; omega))
        simp only [hjk]
        exact this
      clear heq
      obtain ⟨L, hL⟩ : ∃ L, ls[j]'(by have := HN.out; omega) = L := ⟨_, rfl⟩
      obtain ⟨R, hR⟩ : ∃ R, ls[k]'(by have := HN.out; omega) = R := ⟨_, rfl⟩
      rw [hL] at hcell hci hsee hstep
      rw [hR] at hcell2 hcj hsee2 hstep
      have hC := fun p => Lib.hid (Compare_any Ai Aj L.length R.length ci cj L R rfl rfl (w.drewN (q + p)) (hsee.drewN _) (hsee2.drewN _))
      clear hL hR
      have hsub : IntKind.i64.wrap ((k : Int) - 1) = (j : Int) := by rw [IntKind.wrap_i64]; omega
      clear hj hjk
      by_cases hah : ahead L R = true
      · have hT : Hid (X = risesB (ls.drop (k + 1 - 1))) := by have := hstep.out; rw [hah, Bool.true_and] at this; exact this
        have hcm := Lib.hid hah
        clear hstep hah
        have hlt0 : Lib.compareBytes L R < 0 := (cmp_lt L R).2 (by have := hcm.out; rw [ahead_eq, decide_eq_true_eq] at this; exact this)
        generalize Lib.compareBytes L R = z at hC hlt0
        go_wp2
        go_quiet ((refine (hC _).out.mono ?_; rintro e w1 ⟨rfl, rfl⟩; exact ⟨rfl, _, rfl⟩))
        go_wp2
        go_roundg (n - k)
        case measure => omega
        case rel => exact ⟨k + 1, by omega, by omega, by go_num, hT, _, rfl⟩
      · rw [Bool.not_eq_true] at hah
        have HF : Hid (X = false) := by have := hstep.out; rw [hah, Bool.false_and] at this; exact this
        have hge0 : 0 ≤ Lib.compareBytes L R := by have := cmp_pos L R; rw [hah] at this; simpa using this
        clear hstep hah
        generalize Lib.compareBytes L R = z at hC hge0
        go_wp2
        go_quiet ((refine (hC _).out.mono ?_; rintro e w1 ⟨rfl, rfl⟩; exact ⟨rfl, _, rfl⟩))
        go_wp2
        go_ret
        unfold BoolIs
        rw [HF.out]
        exact ⟨rfl, _, World.drewN_drewN _ _ _⟩
    · have HF : Hid (X = true) := heq.out.trans (rises_end (by have := HN.out; omega))
      clear heq
      go_wp2
      go_ret
      unfold BoolIs
      rw [HF.out]
      exact ⟨rfl, q, rfl⟩
end Go.Proofs.Ytnjchdehjinooaa
