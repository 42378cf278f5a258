/-
  The document's check of items and their bytes, walked.
-/
import Derived.Test.YtmdphaagbmipcaaDoorRfTake
import Derived.Test.YtmdphaagbmipcaaDoorIpPlain
import Derived.Test.YtmdphaagbmipcaaDoorRange
namespace Go.Proofs.YtmdphaagbmipcaaDoor
open Go.RowKit

theorem check_of_ok {ls : List Item} (h8 : ls.length ≤ 8) (h0 : 0 < ls.length) (h : okB ls = true) : checkN ls = 0 := by
  obtain ⟨h1, h2⟩ := ok_parts h
  unfold checkN
  rw [if_neg (by omega), if_neg]
  rintro (g | g | g)
  · omega
  · rw [List.any_eq_true] at g
    obtain ⟨x, hx, hb⟩ := g
    rw [h2 x hx] at hb
    simp at hb
  · rw [h1] at g; simp at g
theorem check_of_bad {ls : List Item} (h8 : ls.length ≤ 8) (h : okB ls = false) : checkN ls = 1 := by
  unfold checkN
  rw [if_neg (by omega), if_pos]
  unfold okB at h
  rw [Bool.and_eq_false_iff] at h
  rcases h with h | h
  · exact .inr (.inr h)
  · refine .inr (.inl ?_)
    simpa using h
theorem not_ok_at {ls : List Item} {i : Nat} (h : i < ls.length) (hb : badL ls[i] = true) : okB ls = false := by
  cases ho : okB ls with
  | false => rfl
  | true =>
    have := (ok_parts ho).2 _ (List.getElem_mem h)
    rw [hb] at this
    exact absurd this (by simp)
theorem badL_iff (l : List UInt8) : badL l = true ↔ l.length < 1 ∨ 400 < l.length := by
  unfold badL
  rw [Bool.or_eq_true, decide_eq_true_eq, decide_eq_true_eq]

set_option maxRecDepth 100000 in
set_option maxHeartbeats 1600000 in
theorem RefCheck9_any (A : Option Addr) (n c : Nat) (ls : List Item) (hn : ls.length = n) (w : World) (hS : Sees2 w w.heap.size A ls) (hlen : n ≤ 1099511627776) :
    Calls Tryd.prog 53 #[.slice A n c] w (NumIs w (checkN ls)) := by
  have HN := Lib.hid hn
  by_cases h8 : 8 < n
  · have HE : Hid (checkN ls = 2) := by unfold Hid checkN; rw [hn, if_pos h8]
    have i8 : (8 : Int) < (n : Int) := by omega
    clear hn
    go_enter Tryd.func53, Tryd.ntmps53
    go_wp2
    go_ret
    unfold NumIs
    rw [HE.out]
    exact ⟨rfl, 0, rfl⟩
  have HB1 : Hid (okB ls = false → checkN ls = 1) := fun h => check_of_bad (by omega) h
  have HB0 : Hid (0 < n → okB ls = true → checkN ls = 0) := fun h0 h => check_of_ok (by omega) (by omega) h
  have HB2 : Hid (n = 0 → checkN ls = 1) := fun h0 => by unfold checkN; rw [if_neg (by omega), if_pos (.inl (by omega))]
  obtain ⟨X, hX⟩ : ∃ X, checkN ls = X := ⟨_, rfl⟩
  rw [hX] at HB1 HB0 HB2 ⊢
  clear hn hX
  go_enter Tryd.func53, Tryd.ntmps53
  go_wp2
  go_loopg [3] n (fun g i wr => ∃ k : Nat, k + g = n ∧ i = .int .i64 k ∧ Hid (OkTo ls k) ∧ ∃ q, wr = w.drewN q)
  case atStart => exact ⟨0, by omega, rfl, OkTo.zero ls, 0, rfl⟩
  case round =>
    obtain ⟨k, hk, rfl, hok, q, rfl⟩ := hrel
    by_cases hlt : k < n
    · obtain ⟨ad, Ai, ci, rfl, hadB, hcell, hci, hsee⟩ := hS.out k (by have := HN.out; omega)
      have hbad : Hid (badL (ls[k]'(by have := HN.out; omega)) = true → X = 1) := fun h => HB1.out (not_ok_at _ h)
      have hstep : Hid (badL (ls[k]'(by have := HN.out; omega)) = false → (∀ (_ : 0 < k), ahead (ls[k - 1]'(by have := HN.out; omega)) (ls[k]'(by have := HN.out; omega)) = true) → OkTo ls (k + 1)) := fun h1 h2 => by
        refine ⟨fun i hi him => ?_, fun i hi him => ?_⟩
        · by_cases he : i = k
          · subst he; exact h1
          · exact hok.out.fine i hi (by omega)
        · by_cases he : i + 1 = k
          · have := h2 (by omega)
            simp only [← he] at this
            exact this
          · exact hok.out.up i hi (by omega)
      have hno : Hid (∀ (_ : 0 < k), ahead (ls[k - 1]'(by have := HN.out; omega)) (ls[k]'(by have := HN.out; omega)) = false → X = 1) := fun h0 h => HB1.out (by
        have h1 : k - 1 + 1 < ls.length := by have := HN.out; omega
        refine not_ok_ahead h1 ?_
        simp only [show k - 1 + 1 = k from by omega]
        exact h)
      by_cases h0 : k ≤ 0
      · obtain ⟨L, hL⟩ : ∃ L, ls[k]'(by have := HN.out; omega) = L := ⟨_, rfl⟩
        rw [hL] at hcell hci hsee hbad hstep
        have hHS : Hid (badL L = false → OkTo ls (k + 1)) := fun h => by
          have h1 := hstep.out
          exact h1 h (fun h2 => absurd h2 (by omega))
        clear hstep hno hL hok
        by_cases hl0 : L.length < 1
        · have d1 : decide ((L.length : Int) < 1) = true := decide_eq_true (by omega)
          have HF : Hid (X = 1) := hbad.out ((badL_iff L).2 (.inl hl0))
          clear hbad hHS
          go_wp2
          go_quiet (fail)
          go_wp2
          go_ret
          unfold NumIs
          rw [HF.out]
          exact ⟨rfl, _, World.drewN_drewN _ _ _⟩
        have d1 : decide ((L.length : Int) < 1) = false := decide_eq_false (by omega)
        by_cases hl4 : 400 < L.length
        · have d4 : decide ((400 : Int) < (L.length : Int)) = true := decide_eq_true (by omega)
          have HF : Hid (X = 1) := hbad.out ((badL_iff L).2 (.inr hl4))
          clear hbad hHS
          go_wp2
          go_quiet (fail)
          go_wp2
          go_ret
          unfold NumIs
          rw [HF.out]
          exact ⟨rfl, _, World.drewN_drewN _ _ _⟩
        have d4 : decide ((400 : Int) < (L.length : Int)) = false := decide_eq_false (by omega)
        have HT : Hid (OkTo ls (k + 1)) := hHS.out (by cases hb : badL L with | false => rfl | true => have := (badL_iff L).1 hb; omega)
        have d0 : decide (0 < k) = false := decide_eq_false (by omega)
        clear hbad hHS
        go_wp2
        go_quiet (fail)
        go_wp2
        go_roundg (n - (k + 1))
        case measure => omega
        case rel => exact ⟨k + 1, by omega, by go_num, HT, _, rfl⟩
      · obtain ⟨j, hj⟩ : ∃ j, k - 1 = j := ⟨_, rfl⟩
        have hjn : j < n := by omega
        obtain ⟨ad2, Aj, cj, he2, hadB2, hcell2, hcj, hsee2⟩ := hS.out j (by have := HN.out; omega)
        injection he2 with he2
        subst he2
        simp only [hj] at hstep hno
        obtain ⟨L, hL⟩ : ∃ L, ls[k]'(by have := HN.out; omega) = L := ⟨_, rfl⟩
        obtain ⟨R, hR⟩ : ∃ R, ls[j]'(by have := HN.out; omega) = R := ⟨_, rfl⟩
        rw [hL] at hcell hci hsee hbad
        simp only [hL, hR] at hstep hno
        rw [hR] at hcell2 hcj hsee2
        have cv1 := fun p => run_str (w.drewN p) _ Ai L.length ci L (hsee.drewN p) rfl
        have cv2 := fun p => run_str (w.drewN p) _ Aj R.length cj R (hsee2.drewN p) rfl
        have hsub : IntKind.i64.wrap ((k : Int) - 1) = (j : Int) := by rw [IntKind.wrap_i64]; omega
        have hble : Op.bytesLess (strOf R).toList (strOf L).toList = ahead R L := by rw [strOf_toList, strOf_toList]; rfl
        clear hL hR hok hj
        by_cases hl0 : L.length < 1
        · have d1 : decide ((L.length : Int) < 1) = true := decide_eq_true (by omega)
          have HF : Hid (X = 1) := hbad.out ((badL_iff L).2 (.inl hl0))
          clear hbad hstep hno
          go_wp2
          go_quiet (fail)
          go_wp2
          go_ret
          unfold NumIs
          rw [HF.out]
          exact ⟨rfl, _, World.drewN_drewN _ _ _⟩
        have d1 : decide ((L.length : Int) < 1) = false := decide_eq_false (by omega)
        by_cases hl4 : 400 < L.length
        · have d4 : decide ((400 : Int) < (L.length : Int)) = true := decide_eq_true (by omega)
          have HF : Hid (X = 1) := hbad.out ((badL_iff L).2 (.inr hl4))
          clear hbad hstep hno
          go_wp2
          go_quiet (fail)
          go_wp2
          go_ret
          unfold NumIs
          rw [HF.out]
          exact ⟨rfl, _, World.drewN_drewN _ _ _⟩
        have d4 : decide ((400 : Int) < (L.length : Int)) = false := decide_eq_false (by omega)
        have d0 : decide (0 < k) = true := decide_eq_true (by omega)
        have hk1 : (0 : Int) < (k : Int) := by omega
        obtain ⟨b, hb⟩ : ∃ b, ahead R L = b := ⟨_, rfl⟩
        rw [hb] at hble
        simp only [hb] at hstep hno
        clear hb
        cases b with
        | true =>
          have HT : Hid (OkTo ls (k + 1)) := hstep.out (by cases hb : badL L with | false => rfl | true => have := (badL_iff L).1 hb; omega) (fun _ => rfl)
          clear hbad hstep hno
          go_wp2
          go_quiet (fail)
          go_wp2
          go_roundg (n - (k + 1))
          case measure => omega
          case rel => exact ⟨k + 1, by omega, by go_num, HT, _, rfl⟩
        | false =>
          have HF : Hid (X = 1) := hno.out (by omega) rfl
          clear hbad hstep hno
          go_wp2
          go_quiet (fail)
          go_wp2
          go_ret
          unfold NumIs
          rw [HF.out]
          exact ⟨rfl, _, World.drewN_drewN _ _ _⟩
    · have hkn : Hid (k = n) := (by show _ = _; omega)
      by_cases h0 : n ≤ 0
      · have HF : Hid (X = 1) := HB2.out (by omega)
        have e0 : ((n : Int) == 0) = true := by rw [beq_iff_eq]; omega
        clear hok
        go_wp2
        go_ret
        unfold NumIs
        rw [HF.out]
        exact ⟨rfl, q, rfl⟩
      · have HF : Hid (X = 0) := HB0.out (by omega) (hok.out.ok (by have := HN.out; omega))
        have e0 : ((n : Int) == 0) = false := by rw [beq_eq_false_iff_ne]; omega
        clear hok
        go_wp2
        go_ret
        unfold NumIs
        rw [HF.out]
        exact ⟨rfl, q, rfl⟩

end Go.Proofs.YtmdphaagbmipcaaDoor
