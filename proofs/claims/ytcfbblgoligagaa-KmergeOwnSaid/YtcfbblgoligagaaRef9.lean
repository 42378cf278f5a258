/-
  The document's Rises and Same, walked.
-/
import Derived.Test.YtcfbblgoligagaaRises
namespace Go.Proofs.Ytcfbblgoligagaa
open Go.RowKit

set_option maxRecDepth 100000 in
set_option maxHeartbeats 400000 in
theorem RefRises_any (A : Option Addr) (n c : Nat) (ls : List (List UInt8)) (hn : ls.length = n) (w : World) (hS : Sees2 w w.heap.size A ls) (hlen : n ≤ 1099511627776) :
    Calls Try.prog 22 #[.slice A n c] w (BoolIs w (risesB ls)) := by
  obtain ⟨X, hX⟩ : ∃ X, risesB ls = X := ⟨_, rfl⟩
  rw [hX]
  have HX := Lib.hid hX
  have HN := Lib.hid hn
  clear hn hX
  by_cases hn0 : n = 0
  · subst hn0
    have HF : Hid (X = true) := HX.out.symm.trans (rises_end (k := 0) (by have := HN.out; omega))
    clear HX
    go_enter Try.func22, Try.ntmps22
    go_wp2
    go_loop [3] (fun i => i = .int .i64 1) (fun _ => 0)
    case atStart => rfl
    case round =>
      subst hrel
      go_wp2
      go_ret
      unfold BoolIs
      rw [HF.out]
      exact ⟨rfl, 0, rfl⟩
  go_enter Try.func22, Try.ntmps22
  go_wp2
  go_loopg [3] n (fun g i wr => ∃ k : Nat, k + g = n + 1 ∧ 1 ≤ k ∧ i = .int .i64 k ∧ Hid (X = risesB (ls.drop (k - 1))) ∧ ∃ q, wr = w.drewN q)
  case atStart => exact ⟨1, by omega, by omega, rfl, HX.out.symm, 0, rfl⟩
  case round =>
    obtain ⟨k, hk, hk1, rfl, heq, q, rfl⟩ := hrel
    by_cases hlt : k < n
    · obtain ⟨j, hj⟩ : ∃ j, k - 1 = j := ⟨_, rfl⟩
      have hjn : j < n := by omega
      have hjk : k = j + 1 := by omega
      obtain ⟨ad, Ai, ci, rfl, hadB, hcell, hci, hsee⟩ := hS.out j (by have := HN.out; omega)
      obtain ⟨ad2, Aj, cj, he2, hadB2, hcell2, hcj, hsee2⟩ := hS.out k (by have := HN.out; omega)
      injection he2 with he2
      subst he2
      rw [hj] at heq
      have hstep : Hid (X = (ahead (ls[j]'(by have := HN.out; omega)) (ls[k]'(by have := HN.out; omega)) && risesB (ls.drop k))) := by
        have := heq.out.trans (rises_at (ls := ls) (k := j) (by have := HN.out; omega))
        simp only [hjk]
        exact this
      clear heq
      obtain ⟨L, hL⟩ : ∃ L, ls[j]'(by have := HN.out; omega) = L := ⟨_, rfl⟩
      obtain ⟨R, hR⟩ : ∃ R, ls[k]'(by have := HN.out; omega) = R := ⟨_, rfl⟩
      rw [hL] at hcell hci hsee hstep
      rw [hR] at hcell2 hcj hsee2 hstep
      have cv1 := fun p => run_str (w.drewN p) _ Ai L.length ci L (hsee.drewN p) rfl
      have cv2 := fun p => run_str (w.drewN p) _ Aj R.length cj R (hsee2.drewN p) rfl
      clear hL hR
      have hsub : IntKind.i64.wrap ((k : Int) - 1) = (j : Int) := by rw [IntKind.wrap_i64]; omega
      clear hj hjk
      have hble : Op.bytesLess (strOf L).toList (strOf R).toList = ahead L R := by rw [strOf_toList, strOf_toList]; rfl
      obtain ⟨b, hb⟩ : ∃ b, ahead L R = b := ⟨_, rfl⟩
      rw [hb] at hble hstep
      clear hb
      cases b with
      | true =>
        have hT : Hid (X = risesB (ls.drop (k + 1 - 1))) := by have := hstep.out; rw [Bool.true_and] at this; exact this
        clear hstep
        go_wp2
        go_quiet (fail)
        go_wp2
        go_roundg (n - k)
        case measure => omega
        case rel => exact ⟨k + 1, by omega, by omega, by go_num, hT, _, rfl⟩
      | false =>
        have HF : Hid (X = false) := by have := hstep.out; rw [Bool.false_and] at this; exact this
        clear hstep
        go_wp2
        go_quiet (fail)
        go_wp2
        go_ret
        unfold BoolIs
        rw [HF.out]
        exact ⟨rfl, _, World.drewN_drewN _ _ _⟩
    · have HF : Hid (X = true) := heq.out.trans (rises_end (by have := HN.out; omega))
      clear heq
      go_wp2
      go_ret
      unfold BoolIs
      rw [HF.out]
      exact ⟨rfl, q, rfl⟩

def NumIs (w : World) (k : Nat) (e : Ending) (w' : World) : Prop := e = .returned (.int .i64 (k : Nat)) ∧ ∃ q, w' = w.drewN q

/-- Are two rows of items the same? -/
theorem same_step {ls rs : List (List UInt8)} {k : Nat} (h1 : k < ls.length) (h2 : k < rs.length) : (ls.drop k == rs.drop k) = (ls[k] == rs[k] && (ls.drop (k + 1) == rs.drop (k + 1))) := by
  rw [List.drop_eq_getElem_cons h1, List.drop_eq_getElem_cons h2]
  rfl

set_option maxRecDepth 100000 in
set_option maxHeartbeats 400000 in
theorem Same_any (A B : Option Addr) (n c m d : Nat) (ls rs : List (List UInt8)) (hn : ls.length = n) (hm : rs.length = m) (w : World) (hS : Sees2 w w.heap.size A ls) (hS2 : Sees2 w w.heap.size B rs) (hlen : n ≤ 1099511627776) :
    Calls Try.prog 11 #[.slice A n c, .slice B m d] w (BoolIs w (ls == rs)) := by
  obtain ⟨X, hX⟩ : ∃ X, (ls == rs) = X := ⟨_, rfl⟩
  rw [hX]
  have HX := Lib.hid hX
  have HN := Lib.hid hn
  have HM := Lib.hid hm
  by_cases hnm : n = m
  · subst hnm
    clear hn hm hX
    go_enter Try.func11, Try.ntmps11
    go_wp2
    go_loopg [5] n (fun g i wr => ∃ k : Nat, k + g = n ∧ i = .int .i64 k ∧ Hid (X = (ls.drop k == rs.drop k)) ∧ ∃ q, wr = w.drewN q)
    case atStart => exact ⟨0, by omega, rfl, HX.out.symm, 0, rfl⟩
    case round =>
      obtain ⟨k, hk, rfl, heq, q, rfl⟩ := hrel
      by_cases hlt : k < n
      · obtain ⟨ad, Ai, ci, rfl, hadB, hcell, hci, hsee⟩ := hS.out k (by have := HN.out; omega)
        obtain ⟨ad2, Aj, cj, rfl, hadB2, hcell2, hcj, hsee2⟩ := hS2.out k (by have := HM.out; omega)
        have hstep := Lib.hid (heq.out.trans (same_step (ls := ls) (rs := rs) (k := k) (by have := HN.out; omega) (by have := HM.out; omega)))
        clear heq
        obtain ⟨L, hL⟩ : ∃ L, ls[k]'(by have := HN.out; omega) = L := ⟨_, rfl⟩
        obtain ⟨R, hR⟩ : ∃ R, rs[k]'(by have := HM.out; omega) = R := ⟨_, rfl⟩
        rw [hL] at hcell hci hsee hstep
        rw [hR] at hcell2 hcj hsee2 hstep
        have cv1 := fun p => run_str (w.drewN p) _ Ai L.length ci L (hsee.drewN p) rfl
        have cv2 := fun p => run_str (w.drewN p) _ Aj R.length cj R (hsee2.drewN p) rfl
        clear hL hR
        have hble : ((strOf L).toList == (strOf R).toList) = (L == R) := by rw [strOf_toList, strOf_toList]
        obtain ⟨b, hb⟩ : ∃ b, (L == R) = b := ⟨_, rfl⟩
        rw [hb] at hble hstep
        clear hb
        have hble' : ((strOf L).toList != (strOf R).toList) = !b := by rw [bne, hble]
        cases b with
        | true =>
          have hT : Hid (X = (ls.drop (k + 1) == rs.drop (k + 1))) := by have := hstep.out; rw [Bool.true_and] at this; exact this
          clear hstep
          go_wp2
          go_quiet (fail)
          go_wp2
          go_roundg (n - (k + 1))
          case measure => omega
          case rel => exact ⟨k + 1, by omega, by go_num, hT, _, rfl⟩
        | false =>
          have HF : Hid (X = false) := by have := hstep.out; rw [Bool.false_and] at this; exact this
          clear hstep
          go_wp2
          go_quiet (fail)
          go_wp2
          go_ret
          unfold BoolIs
          rw [HF.out]
          exact ⟨rfl, _, World.drewN_drewN _ _ _⟩
      · have HF : Hid (X = true) := by have := heq.out; rw [List.drop_eq_nil_of_le (by have := HN.out; omega), List.drop_eq_nil_of_le (by have := HM.out; omega)] at this; exact this
        clear heq
        go_wp2
        go_ret
        unfold BoolIs
        rw [HF.out]
        exact ⟨rfl, q, rfl⟩
  · have hl2 : ((n : Int) != (m : Int)) = true := by rw [bne_iff_ne]; omega
    have HF : Hid (X = false) := by
      unfold Hid
      rw [← hX, beq_eq_false_iff_ne]
      rintro rfl
      exact hnm (hn.symm.trans hm)
    clear hnm hn hm hX
    go_enter Try.func11, Try.ntmps11
    go_wp2
    go_ret
    unfold BoolIs
    rw [HF.out]
    exact ⟨rfl, 0, rfl⟩
end Go.Proofs.Ytcfbblgoligagaa
