/-
  Where an item stands; the document's Rises, Seek, Same.
-/
import Derived.Test.YtnjchdehjinooaaItRises
namespace Go.Proofs.Ytnjchdehjinooaa
open Go.RowKit

/-- How many of the first items are ahead of x, till one isn't. -/
def firstNot (x : List UInt8) : List (List UInt8) → Nat
  | a :: t => if ahead a x then firstNot x t + 1 else 0
  | [] => 0
theorem firstNot_end {x : List UInt8} {ls : List (List UInt8)} {k : Nat} (h : ls.length ≤ k) : firstNot x (ls.drop k) = 0 := by rw [List.drop_eq_nil_of_le h]; rfl
theorem firstNot_at {x : List UInt8} {ls : List (List UInt8)} {k : Nat} (h : k < ls.length) : firstNot x (ls.drop k) = if ahead ls[k] x then firstNot x (ls.drop (k + 1)) + 1 else 0 := by
  rw [List.drop_eq_getElem_cons h]
  rfl
theorem firstNot_eq {x : List UInt8} : ∀ {ls : List (List UInt8)} {k : Nat}, k ≤ ls.length → (∀ j (h : j < ls.length), j < k → ahead ls[j] x = true) → (∀ h : k < ls.length, ahead ls[k] x = false) → firstNot x ls = k
  | [], k, h, _, _ => by have : k = 0 := by simpa using h
                         subst this; rfl
  | a :: t, 0, _, _, h2 => by
    have := h2 (by simp)
    simp only [List.getElem_cons_zero] at this
    simp [firstNot, this]
  | a :: t, k + 1, h, h1, h2 => by
    have h0 := h1 0 (by simp) (by omega)
    simp only [List.getElem_cons_zero] at h0
    have ih := firstNot_eq (ls := t) (k := k) (by simpa using h) (fun j hj hjk => by have := h1 (j + 1) (by simpa using hj) (by omega); simpa using this) (fun hk => by have := h2 (by simpa using hk); simpa using this)
    simp [firstNot, h0, ih]
theorem firstNot_le (x : List UInt8) : ∀ ls : List (List UInt8), firstNot x ls ≤ ls.length
  | [] => by simp [firstNot]
  | a :: t => by have := firstNot_le x t; simp only [firstNot, List.length_cons]; split <;> omega
theorem firstNot_lt {x : List UInt8} : ∀ {ls : List (List UInt8)} {j : Nat} (h : j < ls.length), j < firstNot x ls → ahead ls[j] x = true
  | a :: t, 0, _, h => by
    simp only [firstNot] at h
    split at h
    · assumption
    · omega
  | a :: t, j + 1, hj, h => by
    simp only [firstNot] at h
    split at h
    · simpa using firstNot_lt (ls := t) (j := j) (by simpa using hj) (by omega)
    · omega
theorem firstNot_not {x : List UInt8} : ∀ {ls : List (List UInt8)} (h : firstNot x ls < ls.length), ahead ls[firstNot x ls] x = false
  | a :: t, h => by
    by_cases ha : ahead a x = true
    · simp only [firstNot, ha, if_true, List.length_cons] at h ⊢
      simpa using firstNot_not (ls := t) (by omega)
    · simp only [firstNot, ha, if_false]
      simpa using ha
theorem rises_pair : ∀ {ls : List (List UInt8)} (_ : risesB ls = true) {i j : Nat} (hi : i < ls.length) (hj : j < ls.length), i < j → ahead ls[i] ls[j] = true
  | [a], _, i, j, hi, hj, hij => by simp at hi hj; omega
  | a :: b :: t, h, i, j, hi, hj, hij => by
    simp only [risesB, Bool.and_eq_true] at h
    have ih := @rises_pair (b :: t) h.2
    match i, j, hij with
    | 0, 1, _ => simpa using h.1
    | 0, j + 2, _ => exact ahead_trans h.1 (ih (i := 0) (j := j + 1) (by simp) (by simpa using hj) (by omega))
    | i + 1, j + 1, _ => simpa using ih (i := i) (j := j) (by simpa using hi) (by simpa using hj) (by omega)

set_option maxRecDepth 100000 in
set_option maxHeartbeats 400000 in
theorem RefRises_any (A : Option Addr) (n c : Nat) (ls : List (List UInt8)) (hn : ls.length = n) (w : World) (hS : Sees2 w w.heap.size A ls) (hlen : n ≤ 1099511627776) :
    Calls Try.prog 12 #[.slice A n c] w (BoolIs w (risesB ls)) := by
  obtain ⟨X, hX⟩ : ∃ X, risesB ls = X := ⟨_, rfl⟩
  rw [hX]
  have HX := Lib.hid hX
  have HN := Lib.hid hn
  clear hn hX
  by_cases hn0 : n = 0
  · subst hn0
    have HF : Hid (X = true) := HX.out.symm.trans (rises_end (k := 0) (by have := HN.out; omega))
    clear HX
    go_enter Try.func12, Try.ntmps12
    go_wp2
    go_loop [3] (fun i => i = .int .i64 1) (fun _ => 0)
    case atStart => rfl
    case round =>
      subst hrel
      go_wp2
      go_ret
      unfold BoolIs
      rw [HF.out]
      exact ⟨rfl, 0, rfl⟩
  go_enter Try.func12, Try.ntmps12
  go_wp2
  go_loopg [3] n (fun g i wr => ∃ k : Nat, k + g = n + 1 ∧ 1 ≤ k ∧ i = .int .i64 k ∧ Hid (X = risesB (ls.drop (k - 1))) ∧ ∃ q, wr = w.drewN q)
  case atStart => exact ⟨1, by omega, by omega, rfl, HX.out.symm, 0, rfl⟩
  case round =>
    obtain ⟨k, hk, hk1, rfl, heq, q, rfl⟩ := hrel
    by_cases hlt : k < n
    · obtain ⟨j, hj⟩ : ∃ j, k - 1 = j := ⟨_, rfl⟩
      have hjn : j < n := by omega
      have hjk : k = j + 1 := by omega
      obtain ⟨ad, Ai, ci, rfl, hadB, hcell, hci, hsee⟩ := hS.out j (by have := HN.out; omega)
      obtain ⟨ad2, Aj, cj, he2, hadB2, hcell2, hcj, hsee2⟩ := hS.out k (by have := HN.out; omega)
      injection he2 with he2
      subst he2
      rw [hj] at heq
      have hstep : Hid (X = (ahead (ls[j]'(by have := HN.out; omega)) (ls[k]'(by have := HN.out; omega)) && risesB (ls.drop k))) := by
        have := heq.out.trans (rises_at (ls := ls) (k := j) (by have := HN.out; omega))
        simp only [hjk]
        exact this
      clear heq
      obtain ⟨L, hL⟩ : ∃ L, ls[j]'(by have := HN.out; omega) = L := ⟨_, rfl⟩
      obtain ⟨R, hR⟩ : ∃ R, ls[k]'(by have := HN.out; omega) = R := ⟨_, rfl⟩
      rw [hL] at hcell hci hsee hstep
      rw [hR] at hcell2 hcj hsee2 hstep
      have cv1 := fun p => run_str (w.drewN p) _ Ai L.length ci L (hsee.drewN p) rfl
      have cv2 := fun p => run_str (w.drewN p) _ Aj R.length cj R (hsee2.drewN p) rfl
      clear hL hR
      have hsub : IntKind.i64.wrap ((k : Int) - 1) = (j : Int) := by rw [IntKind.wrap_i64]; omega
      clear hj hjk
      have hble : Op.bytesLess (strOf L).toList (strOf R).toList = ahead L R := by rw [strOf_toList, strOf_toList]; rfl
      obtain ⟨b, hb⟩ : ∃ b, ahead L R = b := ⟨_, rfl⟩
      rw [hb] at hble hstep
      clear hb
      cases b with
      | true =>
        have hT : Hid (X = risesB (ls.drop (k + 1 - 1))) := by have := hstep.out; rw [Bool.true_and] at this; exact this
        clear hstep
        go_wp2
        go_quiet (fail)
        go_wp2
        go_roundg (n - k)
        case measure => omega
        case rel => exact ⟨k + 1, by omega, by omega, by go_num, hT, _, rfl⟩
      | false =>
        have HF : Hid (X = false) := by have := hstep.out; rw [Bool.false_and] at this; exact this
        clear hstep
        go_wp2
        go_quiet (fail)
        go_wp2
        go_ret
        unfold BoolIs
        rw [HF.out]
        exact ⟨rfl, _, World.drewN_drewN _ _ _⟩
    · have HF : Hid (X = true) := heq.out.trans (rises_end (by have := HN.out; omega))
      clear heq
      go_wp2
      go_ret
      unfold BoolIs
      rw [HF.out]
      exact ⟨rfl, q, rfl⟩

def NumIs (w : World) (k : Nat) (e : Ending) (w' : World) : Prop := e = .returned (.int .i64 (k : Nat)) ∧ ∃ q, w' = w.drewN q

set_option maxRecDepth 100000 in
set_option maxHeartbeats 400000 in
theorem RefSeek_any (A B : Option Addr) (n c m d : Nat) (ls : List (List UInt8)) (x : List UInt8) (hn : ls.length = n) (hm : x.length = m) (w : World) (hS : Sees2 w w.heap.size A ls) (hS2 : Sees w w.heap.size B (bv x)) (hlen : n ≤ 1099511627776) :
    Calls Try.prog 13 #[.slice A n c, .slice B m d] w (NumIs w (firstNot x ls)) := by
  obtain ⟨X, hX⟩ : ∃ X, firstNot x ls = X := ⟨_, rfl⟩
  have hXl := firstNot_le x ls
  rw [hX] at hXl ⊢
  have HX := Lib.hid hX
  have HL := Lib.hid hXl
  have HN := Lib.hid hn
  have cv2 := fun p => run_str (w.drewN p) _ B m d x (hS2.drewN p) hm
  clear hn hX hXl hm
  go_enter Try.func13, Try.ntmps13
  go_wp2
  go_loopg [5] n (fun g i wr => ∃ k : Nat, k + g = n ∧ i = .int .i64 k ∧ Hid (X = k + firstNot x (ls.drop k)) ∧ ∃ q, wr = w.drewN q)
  case atStart => exact ⟨0, by omega, rfl, by unfold Hid; rw [← HX.out]; simp, 0, rfl⟩
  case round =>
    obtain ⟨k, hk, rfl, heq, q, rfl⟩ := hrel
    by_cases hlt : k < n
    · obtain ⟨ad, Ai, ci, rfl, hadB, hcell, hci, hsee⟩ := hS.out k (by have := HN.out; omega)
      have hstep := Lib.hid (heq.out.trans (congrArg (k + ·) (firstNot_at (x := x) (ls := ls) (k := k) (by have := HN.out; omega))))
      obtain ⟨L, hL⟩ : ∃ L, ls[k]'(by have := HN.out; omega) = L := ⟨_, rfl⟩
      rw [hL] at hcell hci hsee hstep
      have cv1 := fun p => run_str (w.drewN p) _ Ai L.length ci L (hsee.drewN p) rfl
      clear hL heq
      have hble : Op.bytesLess (strOf L).toList (strOf x).toList = ahead L x := by rw [strOf_toList, strOf_toList]; rfl
      obtain ⟨b, hb⟩ : ∃ b, ahead L x = b := ⟨_, rfl⟩
      rw [hb] at hble hstep
      clear hb
      cases b with
      | true =>
        have hT : Hid (X = k + 1 + firstNot x (ls.drop (k + 1))) := by have := hstep.out; rw [if_pos rfl] at this; unfold Hid; omega
        clear hstep
        go_wp2
        go_quiet (fail)
        go_wp2
        go_roundg (n - (k + 1))
        case measure => omega
        case rel => exact ⟨k + 1, by omega, by go_num, hT, _, rfl⟩
      | false =>
        have HF : Hid (X = k) := by have := hstep.out; rw [if_neg (by simp)] at this; unfold Hid; omega
        clear hstep
        go_wp2
        go_quiet (fail)
        go_wp2
        go_ret
        unfold NumIs
        rw [HF.out]
        exact ⟨rfl, _, World.drewN_drewN _ _ _⟩
    · have HF : Hid (X = k) := by have := heq.out; rw [firstNot_end (by have := HN.out; omega)] at this; unfold Hid; omega
      clear heq
      go_wp2
      go_quiet (fail)
      go_wp2
      go_ret
      unfold NumIs
      rw [HF.out]
      exact ⟨rfl, _, World.drewN_drewN _ _ _⟩

/-- Are two rows of items the same? -/
theorem same_step {ls rs : List (List UInt8)} {k : Nat} (h1 : k < ls.length) (h2 : k < rs.length) : (ls.drop k == rs.drop k) = (ls[k] == rs[k] && (ls.drop (k + 1) == rs.drop (k + 1))) := by
  rw [List.drop_eq_getElem_cons h1, List.drop_eq_getElem_cons h2]
  rfl

set_option maxRecDepth 100000 in
set_option maxHeartbeats 400000 in
theorem Same_any (A B : Option Addr) (n c m d : Nat) (ls rs : List (List UInt8)) (hn : ls.length = n) (hm : rs.length = m) (w : World) (hS : Sees2 w w.heap.size A ls) (hS2 : Sees2 w w.heap.size B rs) (hlen : n ≤ 1099511627776) :
    Calls Try.prog 17 #[.slice A n c, .slice B m d] w (BoolIs w (ls == rs)) := by
  obtain ⟨X, hX⟩ : ∃ X, (ls == rs) = X := ⟨_, rfl⟩
  rw [hX]
  have HX := Lib.hid hX
  have HN := Lib.hid hn
  have HM := Lib.hid hm
  by_cases hnm : n = m
  · subst hnm
    clear hn hm hX
    go_enter Try.func17, Try.ntmps17
    go_wp2
    go_loopg [5] n (fun g i wr => ∃ k : Nat, k + g = n ∧ i = .int .i64 k ∧ Hid (X = (ls.drop k == rs.drop k)) ∧ ∃ q, wr = w.drewN q)
    case atStart => exact ⟨0, by omega, rfl, HX.out.symm, 0, rfl⟩
    case round =>
      obtain ⟨k, hk, rfl, heq, q, rfl⟩ := hrel
      by_cases hlt : k < n
      · obtain ⟨ad, Ai, ci, rfl, hadB, hcell, hci, hsee⟩ := hS.out k (by have := HN.out; omega)
        obtain ⟨ad2, Aj, cj, rfl, hadB2, hcell2, hcj, hsee2⟩ := hS2.out k (by have := HM.out; omega)
        have hstep := Lib.hid (heq.out.trans (same_step (ls := ls) (rs := rs) (k := k) (by have := HN.out; omega) (by have := HM.out; omega)))
        clear heq
        obtain ⟨L, hL⟩ : ∃ L, ls[k]'(by have := HN.out; omega) = L := ⟨_, rfl⟩
        obtain ⟨R, hR⟩ : ∃ R, rs[k]'(by have := HM.out; omega) = R := ⟨_, rfl⟩
        rw [hL] at hcell hci hsee hstep
        rw [hR] at hcell2 hcj hsee2 hstep
        have cv1 := fun p => run_str (w.drewN p) _ Ai L.length ci L (hsee.drewN p) rfl
        have cv2 := fun p => run_str (w.drewN p) _ Aj R.length cj R (hsee2.drewN p) rfl
        clear hL hR
        have hble : ((strOf L).toList == (strOf R).toList) = (L == R) := by rw [strOf_toList, strOf_toList]
        obtain ⟨b, hb⟩ : ∃ b, (L == R) = b := ⟨_, rfl⟩
        rw [hb] at hble hstep
        clear hb
        have hble' : ((strOf L).toList != (strOf R).toList) = !b := by rw [bne, hble]
        cases b with
        | true =>
          have hT : Hid (X = (ls.drop (k + 1) == rs.drop (k + 1))) := by have := hstep.out; rw [Bool.true_and] at this; exact this
          clear hstep
          go_wp2
          go_quiet (fail)
          go_wp2
          go_roundg (n - (k + 1))
          case measure => omega
          case rel => exact ⟨k + 1, by omega, by go_num, hT, _, rfl⟩
        | false =>
          have HF : Hid (X = false) := by have := hstep.out; rw [Bool.false_and] at this; exact this
          clear hstep
          go_wp2
          go_quiet (fail)
          go_wp2
          go_ret
          unfold BoolIs
          rw [HF.out]
          exact ⟨rfl, _, World.drewN_drewN _ _ _⟩
      · have HF : Hid (X = true) := by have := heq.out; rw [List.drop_eq_nil_of_le (by have := HN.out; omega), List.drop_eq_nil_of_le (by have := HM.out; omega)] at this; exact this
        clear heq
        go_wp2
        go_ret
        unfold BoolIs
        rw [HF.out]
        exact ⟨rfl, q, rfl⟩
  · have hl2 : ((n : Int) != (m : Int)) = true := by rw [bne_iff_ne]; omega
    have HF : Hid (X = false) := by
      unfold Hid
      rw [← hX, beq_eq_false_iff_ne]
      rintro rfl
      exact hnm (hn.symm.trans hm)
    clear hnm hn hm hX
    go_enter Try.func17, Try.ntmps17
    go_wp2
    go_ret
    unfold BoolIs
    rw [HF.out]
    exact ⟨rfl, 0, rfl⟩
end Go.Proofs.Ytnjchdehjinooaa
