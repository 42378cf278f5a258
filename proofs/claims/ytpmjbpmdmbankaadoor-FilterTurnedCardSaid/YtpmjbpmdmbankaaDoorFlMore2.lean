/-
  The document's All; Exact: the program's and the document's.
-/
import Derived.Test.YtpmjbpmdmbankaaDoorFlMore
namespace Go.Proofs.YtpmjbpmdmbankaaDoor
open Go.RowKit

def numB (fs : List Flt) (ls : List Lb) : Nat := (fs.filter fun f => oneB f ls).length
theorem numB_at {fs : List Flt} {ls : List Lb} {k : Nat} (h : k < fs.length) : numB (fs.drop k) ls = (if oneB fs[k] ls then 1 else 0) + numB (fs.drop (k + 1)) ls := by
  rw [List.drop_eq_getElem_cons h]
  unfold numB
  rw [List.filter_cons]
  split <;> simp <;> omega
theorem numB_end {fs : List Flt} {ls : List Lb} {k : Nat} (h : fs.length ≤ k) : numB (fs.drop k) ls = 0 := by
  rw [List.drop_eq_nil_of_le h]
  rfl
theorem numB_le (fs : List Flt) (ls : List Lb) : numB fs ls ≤ fs.length := List.length_filter_le _ _
theorem numB_all : ∀ (fs : List Flt) (ls : List Lb), decide (numB fs ls = fs.length) = allB fs ls
  | [], _ => rfl
  | f :: t, ls => by
    have ih := numB_all t ls
    have hl := numB_le t ls
    unfold numB allB at *
    rw [List.filter_cons, List.all_cons]
    cases h : oneB f ls
    · simp
      omega
    · simpa using ih

set_option maxRecDepth 100000 in
set_option maxHeartbeats 800000 in
theorem RefAll_any (A : Option Addr) (n c : Nat) (fs : List Flt) (hn : fs.length = n) (B : Option Addr) (m d : Nat) (ls : List Lb) (hm : ls.length = m) (w : World) (hS : Sees w w.heap.size A (fv fs)) (hT : Sees w w.heap.size B (lv ls)) (hlen : n ≤ 1099511627776) (hlen2 : m ≤ 1099511627776) :
    Calls Tryd.prog 15 #[.slice A n c, .slice B m d] w (Gives w (.bool (allB fs ls))) := by
  have hle := numB_le fs ls
  have hfin := Lib.hid (numB_all fs ls)
  obtain ⟨X, hX⟩ : ∃ X, numB fs ls = X := ⟨_, rfl⟩
  rw [hX, hn] at hle
  have HX := Lib.hid hX
  have HN := Lib.hid hn
  have HM := Lib.hid hm
  obtain ⟨Y, hY⟩ : ∃ Y, allB fs ls = Y := ⟨_, rfl⟩
  rw [hY] at hfin ⊢
  clear hX hn hm hY
  go_enter Tryd.func15, Tryd.ntmps15
  go_wp2
  go_loopg [5, 6] n (fun g t i wr => ∃ k j : Nat, k + g = n ∧ j ≤ k ∧ t = .int .i64 j ∧ i = .int .i64 k ∧ Hid (X = j + numB (fs.drop k) ls) ∧ Below w.heap.size w wr)
  case atStart => exact ⟨0, 0, by omega, by omega, rfl, rfl, by unfold Hid; rw [← HX.out]; simp, Below.refl _ _⟩
  case round =>
    obtain ⟨k, j, hk, hj, rfl, rfl, heq, hbr⟩ := hrel
    by_cases hlt : k < n
    · obtain ⟨ad, rfl, hadB, hc0, hc1, hc2, hc3⟩ := (hS.below hbr).fl (k := k) (by have := HN.out; omega)
      have hstep := Lib.hid (heq.out.trans (congrArg (j + ·) (numB_at (fs := fs) (ls := ls) (k := k) (by have := HN.out; omega))))
      generalize fs[k]'(by have := HN.out; omega) = x at hc0 hc1 hc2 hc3 hstep
      have hO := RefOne_any x B m d ls HM.out wr ((hT.below hbr).more hbr.size) hlen2
      generalize oneB x ls = b at hO hstep
      have HO := Lib.hid hO
      clear heq hO
      cases b with
      | true =>
        have hT2 : Hid (X = (j + 1) + numB (fs.drop (k + 1)) ls) := by have := hstep.out; rw [if_pos rfl] at this; unfold Hid; omega
        clear hstep
        go_wp2_with fail
        refine HO.out.mono ?_
        rintro e w1 ⟨rfl, hb1⟩
        go_wp2
        go_roundg (n - (k + 1))
        case measure => omega
        case rel => exact ⟨k + 1, j + 1, by omega, by omega, by go_num, by go_num, hT2, hbr.trans (hb1.mono hbr.size)⟩
      | false =>
        have hT2 : Hid (X = j + numB (fs.drop (k + 1)) ls) := by have := hstep.out; rw [if_neg (by simp)] at this; unfold Hid; omega
        clear hstep
        go_wp2_with fail
        refine HO.out.mono ?_
        rintro e w1 ⟨rfl, hb1⟩
        go_wp2
        go_roundg (n - (k + 1))
        case measure => omega
        case rel => exact ⟨k + 1, j, by omega, by omega, rfl, by go_num, hT2, hbr.trans (hb1.mono hbr.size)⟩
    · have HR : Hid (X = j) := by have := heq.out; rw [numB_end (by have := HN.out; omega)] at this; unfold Hid; omega
      clear heq
      go_wp2
      go_ret
      refine ⟨ret_bool ?_, hbr⟩
      have h1 := hfin.out
      rw [HX.out, HN.out, HR.out] at h1
      rw [← h1, Bool.eq_iff_iff, beq_iff_eq, decide_eq_true_eq]
      omega

def exactF (f : Flt) : Bool := !f.inv && (!f.pre && !f.value.toList.isEmpty)
/-- How many stand ahead of the first exact filter. -/
def exactN : List Flt → Nat
  | f :: t => if exactF f then 0 else exactN t + 1
  | [] => 0
def exactZ (fs : List Flt) : Int := if exactN fs < fs.length then (exactN fs : Int) else -1
theorem exactN_at {fs : List Flt} {k : Nat} (h : k < fs.length) : exactN (fs.drop k) = if exactF fs[k] then 0 else exactN (fs.drop (k + 1)) + 1 := by
  rw [List.drop_eq_getElem_cons h]
  rfl
theorem exactN_end {fs : List Flt} {k : Nat} (h : fs.length ≤ k) : exactN (fs.drop k) = 0 := by
  rw [List.drop_eq_nil_of_le h]
  rfl
theorem exactN_le : ∀ fs : List Flt, exactN fs ≤ fs.length
  | [] => by simp [exactN]
  | f :: t => by have := exactN_le t; simp only [exactN, List.length_cons]; split <;> omega

set_option maxRecDepth 100000 in
set_option maxHeartbeats 800000 in
theorem RefExact_any (A : Option Addr) (n c : Nat) (fs : List Flt) (hn : fs.length = n) (w : World) (hS : Sees w w.heap.size A (fv fs)) (hlen : n ≤ 1099511627776) :
    Calls Tryd.prog 17 #[.slice A n c] w fun e w' => e = .returned (.int .i64 (exactZ fs)) ∧ w = w' := by
  have hnot : ∀ (x : Bool) (w : World), (Op.unary .not (.bool x)).run Tryd.prog w = .ok (.bool (!x)) w := fun _ _ => rfl
  obtain ⟨Z, hZ⟩ : ∃ Z, exactZ fs = Z := ⟨_, rfl⟩
  rw [hZ]
  unfold exactZ at hZ
  obtain ⟨X, hX⟩ : ∃ X, exactN fs = X := ⟨_, rfl⟩
  rw [hX, hn] at hZ
  have HX := Lib.hid hX
  have HZ := Lib.hid hZ
  have HN := Lib.hid hn
  clear hX hn hZ
  go_enter Tryd.func17, Tryd.ntmps17
  go_wp2
  go_loopg [3] n (fun g i wr => ∃ k : Nat, k + g = n ∧ i = .int .i64 k ∧ Hid (X = k + exactN (fs.drop k)) ∧ wr = w)
  case atStart => exact ⟨0, by omega, rfl, by unfold Hid; rw [← HX.out]; simp, rfl⟩
  case round =>
    obtain ⟨k, hk, rfl, heq, rfl⟩ := hrel
    by_cases hlt : k < n
    · obtain ⟨ad, rfl, hadB, hc0, hc1, hc2, hc3⟩ := hS.fl (k := k) (by have := HN.out; omega)
      have hstep := Lib.hid (heq.out.trans (congrArg (k + ·) (exactN_at (fs := fs) (k := k) (by have := HN.out; omega))))
      generalize fs[k]'(by have := HN.out; omega) = x at hc0 hc1 hc2 hc3 hstep
      clear heq
      unfold exactF at hstep
      obtain ⟨a, b, p, q⟩ := x
      simp only at hc0 hc1 hc2 hc3 hstep
      obtain ⟨em, hem⟩ : ∃ em, b.toList.isEmpty = em := ⟨_, rfl⟩
      rw [hem] at hstep
      cases em <;> cases p <;> cases q
      all_goals
        simp only [Bool.not_true, Bool.not_false, Bool.and_true, Bool.and_false, Bool.true_and, Bool.false_and, if_true, if_false] at hstep
      · have HR : Hid (X = k) := hstep.out
        clear hstep
        go_wp2
        go_ret
        have hz := HZ.out
        rw [HR.out, if_pos hlt] at hz
        exact ⟨ret_int hz, rfl⟩
      all_goals
        have hT : Hid (X = (k + 1) + exactN (fs.drop (k + 1))) := by have := hstep.out; rw [if_neg (by simp)] at this; unfold Hid; omega
        clear hstep
        go_wp2
        go_roundg (n - (k + 1))
        case measure => omega
        case rel => exact ⟨k + 1, by omega, by go_num, hT, rfl⟩
    · have HR : Hid (X = n) := by have := heq.out; rw [exactN_end (by have := HN.out; omega)] at this; unfold Hid; omega
      clear heq
      go_wp2
      go_ret
      have hz := HZ.out
      rw [HR.out, if_neg (by omega)] at hz
      exact ⟨ret_int hz, rfl⟩

set_option maxRecDepth 100000 in
set_option maxHeartbeats 800000 in
theorem Exact_any (A : Option Addr) (n c : Nat) (fs : List Flt) (hn : fs.length = n) (w : World) (hS : Sees w w.heap.size A (fv fs)) (hlen : n ≤ 1099511627776) :
    Calls Tryd.prog 16 #[.slice A n c] w (Gives w (.int .i64 (exactZ fs))) := by
  obtain ⟨Z, hZ⟩ : ∃ Z, exactZ fs = Z := ⟨_, rfl⟩
  rw [hZ]
  unfold exactZ at hZ
  obtain ⟨X, hX⟩ : ∃ X, exactN fs = X := ⟨_, rfl⟩
  rw [hX, hn] at hZ
  have HX := Lib.hid hX
  have HZ := Lib.hid hZ
  have HN := Lib.hid hn
  clear hX hn hZ
  go_enter Tryd.func16, Tryd.ntmps16
  go_wp2
  go_step3
  go_wp2
  go_step3
  go_wp2
  go_loopg [3, 8] n (fun g a i wr => ∃ k : Nat, k + g = n ∧ a = .int .i64 (-1) ∧ i = .int .i64 k ∧ Hid (X = k + exactN (fs.drop k)) ∧ Below w.heap.size w wr)
  case atStart => exact ⟨0, by omega, rfl, rfl, by unfold Hid; rw [← HX.out]; simp, Below.refl _ _⟩
  case round =>
    obtain ⟨k, hk, rfl, rfl, heq, hbr⟩ := hrel
    by_cases hlt : k < n
    · obtain ⟨ad, rfl, hadB, hc0, hc1, hc2, hc3⟩ := (hS.below hbr).fl (k := k) (by have := HN.out; omega)
      have hstep := Lib.hid (heq.out.trans (congrArg (k + ·) (exactN_at (fs := fs) (k := k) (by have := HN.out; omega))))
      generalize fs[k]'(by have := HN.out; omega) = x at hc0 hc1 hc2 hc3 hstep
      clear heq
      unfold exactF at hstep
      obtain ⟨a, b, p, q⟩ := x
      simp only at hc0 hc1 hc2 hc3 hstep
      have hb0 : Below w.heap.size w (wr.alloc (.cells #[.string a, .string b, .bool p, .bool q] 28)) := hbr.trans ((Below.refl _ wr).alloc hbr.size _)
      obtain ⟨em, hem⟩ : ∃ em, b.toList.isEmpty = em := ⟨_, rfl⟩
      rw [hem] at hstep
      cases em <;> cases p <;> cases q
      all_goals
        simp only [Bool.not_true, Bool.not_false, Bool.and_true, Bool.and_false, Bool.true_and, Bool.false_and, if_true, if_false] at hstep
      · have HR : Hid (X = k) := hstep.out
        clear hstep
        go_wp2
        rw [Exit.noGoto_ret]
        go_ret
        have hz := HZ.out
        rw [HR.out, if_pos hlt] at hz
        exact ⟨ret_int hz, hb0⟩
      all_goals
        have hT : Hid (X = (k + 1) + exactN (fs.drop (k + 1))) := by have := hstep.out; rw [if_neg (by simp)] at this; unfold Hid; omega
        clear hstep
        go_wp2
        go_roundg (n - (k + 1))
        case measure => omega
        case rel => exact ⟨k + 1, by omega, rfl, by go_num, hT, hb0⟩
    · have HR : Hid (X = n) := by have := heq.out; rw [exactN_end (by have := HN.out; omega)] at this; unfold Hid; omega
      clear heq
      go_wp2
      rw [Exit.noGoto_ret]
      go_ret
      have hz := HZ.out
      rw [HR.out, if_neg (by omega)] at hz
      exact ⟨ret_int hz, hbr⟩
end Go.Proofs.YtpmjbpmdmbankaaDoor
