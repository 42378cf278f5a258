/-
  slices.Equal at labels.
-/
import Derived.Test.YtbgnmojdkhlbaaaDoorLbCmp3
namespace Go.Proofs.YtbgnmojdkhlbaaaDoor
open Go.RowKit

set_option maxRecDepth 100000 in
set_option maxHeartbeats 800000 in
theorem EqualL_any (A A' : Option Addr) (n c m c' : Nat) (xs bs : List Lb) (hn : xs.length = n) (hm : bs.length = m) (w : World) (hS : Sees w w.heap.size A (lv xs)) (hT : Sees w w.heap.size A' (lv bs)) (hlen : n ≤ 1099511627776) (hlen2 : m ≤ 1099511627776) :
    Calls Tryd.prog 42 #[.slice A n c, .slice A' m c'] w (BoolIs w (sameLs xs bs)) := by
  obtain ⟨X, hX⟩ : ∃ X, sameLs xs bs = X := ⟨_, rfl⟩
  rw [hX]
  have HX := Lib.hid hX
  have HN := Lib.hid hn
  have HM := Lib.hid hm
  clear hn hm hX
  by_cases hnm : n = m
  · subst hnm
    go_enter Tryd.func42, Tryd.ntmps42
    go_wp2
    go_loopg [13] n (fun g i wr => ∃ k : Nat, k + g = n ∧ i = .int .i64 k ∧ Hid (X = sameLs (xs.drop k) (bs.drop k)) ∧ ∃ q, wr = w.drewN q)
    case atStart => exact ⟨0, by omega, rfl, HX.out.symm, 0, rfl⟩
    case round =>
      obtain ⟨k, hk, rfl, heq, q, rfl⟩ := hrel
      by_cases hlt : k < n
      · obtain ⟨ad, rfl, hadB, hc0, hc1⟩ := hS.lb (k := k) (by have := HN.out; omega)
        obtain ⟨ad2, rfl, hadB2, hd0, hd1⟩ := hT.lb (k := k) (by have := HM.out; omega)
        have hstep := Lib.hid (heq.out.trans (sameLs_at (a := xs) (b := bs) (k := k) (by have := HN.out; omega) (by have := HM.out; omega)))
        generalize xs[k]'(by have := HN.out; omega) = x at hc0 hc1 hstep
        generalize bs[k]'(by have := HM.out; omega) = y at hd0 hd1 hstep
        clear heq
        obtain ⟨x1, x2⟩ := x
        obtain ⟨y1, y2⟩ := y
        by_cases e1 : x1.toList = y1.toList
        · by_cases e2 : x2.toList = y2.toList
          · have hT1 : Hid (X = sameLs (xs.drop (k + 1)) (bs.drop (k + 1))) := by have := hstep.out; simp only [e1, e2, beq_self_eq_true, Bool.true_and] at this; exact this
            clear hstep
            go_wp2
            go_quiet (fail)
            go_wp2
            go_roundg (n - (k + 1))
            case measure => omega
            case rel => exact ⟨k + 1, by omega, by go_num, hT1, _, rfl⟩
          · have hF : Hid (X = false) := by have := hstep.out; rw [beq_eq_false_iff_ne.2 e2] at this; unfold Hid; simpa using this
            clear hstep
            go_wp2
            go_quiet (fail)
            go_wp2
            go_ret
            unfold BoolIs
            rw [hF.out]
            exact ⟨rfl, _, by first | rfl | exact World.drewN_drewN _ _ _⟩
        · have hF : Hid (X = false) := by have := hstep.out; rw [beq_eq_false_iff_ne.2 e1] at this; unfold Hid; simpa using this
          clear hstep
          go_wp2
          go_quiet (fail)
          go_wp2
          go_ret
          unfold BoolIs
          rw [hF.out]
          exact ⟨rfl, _, by first | rfl | exact World.drewN_drewN _ _ _⟩
      · have hF : Hid (X = true) := heq.out.trans (sameLs_end (by have := HN.out; omega) (by have := HM.out; omega))
        clear heq
        go_wp2
        go_ret
        unfold BoolIs
        rw [hF.out]
        exact ⟨rfl, _, rfl⟩
  · have hF : Hid (X = false) := HX.out.symm.trans (sameLs_len (by rw [HN.out, HM.out]; exact hnm))
    have g1 : ((n : Int) != (m : Int)) = true := by rw [bne_iff_ne]; omega
    clear HX
    go_enter Tryd.func42, Tryd.ntmps42
    go_wp2
    go_ret
    unfold BoolIs
    rw [hF.out]
    exact ⟨rfl, 0, rfl⟩
end Go.Proofs.YtbgnmojdkhlbaaaDoor
