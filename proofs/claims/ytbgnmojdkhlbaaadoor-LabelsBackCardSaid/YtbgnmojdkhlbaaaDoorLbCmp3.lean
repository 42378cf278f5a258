/-
  labels.Compare, the document's, and whether two rows of labels are the same.
-/
import Derived.Test.YtbgnmojdkhlbaaaDoorLbCmp2
namespace Go.Proofs.YtbgnmojdkhlbaaaDoor
open Go.RowKit

set_option maxRecDepth 100000 in
set_option maxHeartbeats 400000 in
theorem LCompare_any (A A' : Option Addr) (n c m c' : Nat) (xs bs : List Lb) (hn : xs.length = n) (hm : bs.length = m) (w : World) (hS : Sees w w.heap.size A (lv xs)) (hT : Sees w w.heap.size A' (lv bs)) (hlen : n ≤ 1099511627776) (hlen2 : m ≤ 1099511627776) :
    Calls Tryd.prog 18 #[.slice A n c, .slice A' m c'] w (Gives w (.int .i64 (cmpLs xs bs))) := by
  have hC := Lib.hid (CompareFunc_any A A' n c m c' xs bs hn hm w hS hT hlen hlen2)
  clear hn hm hS hT
  go_enter Tryd.func18, Tryd.ntmps18
  go_wp2_with fail
  refine hC.out.mono ?_
  rintro e w1 ⟨rfl, hb1⟩
  go_wp2
  go_ret
  exact ⟨rfl, hb1⟩

/-- A number, a new place on the tape. -/
def IntIs (w : World) (i : Int) (e : Ending) (w' : World) : Prop := e = .returned (.int .i64 i) ∧ ∃ q, w' = w.drewN q

set_option maxRecDepth 100000 in
set_option maxHeartbeats 800000 in
theorem RefCompare_any (A A' : Option Addr) (n c m c' : Nat) (xs bs : List Lb) (hn : xs.length = n) (hm : bs.length = m) (w : World) (hS : Sees w w.heap.size A (lv xs)) (hT : Sees w w.heap.size A' (lv bs)) (hlen : n ≤ 1099511627776) (hlen2 : m ≤ 1099511627776) :
    Calls Tryd.prog 19 #[.slice A n c, .slice A' m c'] w (IntIs w (cmpLs xs bs)) := by
  obtain ⟨X, hX⟩ : ∃ X, cmpLs xs bs = X := ⟨_, rfl⟩
  rw [hX]
  have HX := Lib.hid hX
  have HN := Lib.hid hn
  have HM := Lib.hid hm
  clear hn hm hX
  go_enter Tryd.func19, Tryd.ntmps19
  go_wp2
  go_loopg [5] n (fun g i wr => ∃ k : Nat, k + g = n ∧ k ≤ m ∧ i = .int .i64 k ∧ Hid (X = cmpLs (xs.drop k) (bs.drop k)) ∧ ∃ q, wr = w.drewN q)
  case atStart => exact ⟨0, by omega, by omega, rfl, HX.out.symm, 0, rfl⟩
  case round =>
    obtain ⟨k, hk, hkm, rfl, heq, q, rfl⟩ := hrel
    by_cases hlt : k < n
    · by_cases hlt2 : k < m
      · obtain ⟨ad, rfl, hadB, hc0, hc1⟩ := hS.lb (k := k) (by have := HN.out; omega)
        obtain ⟨ad2, rfl, hadB2, hd0, hd1⟩ := hT.lb (k := k) (by have := HM.out; omega)
        have hstep := Lib.hid (heq.out.trans (cmpLs_at (a := xs) (b := bs) (k := k) (by have := HN.out; omega) (by have := HM.out; omega)))
        generalize xs[k]'(by have := HN.out; omega) = x at hc0 hc1 hstep
        generalize bs[k]'(by have := HM.out; omega) = y at hd0 hd1 hstep
        clear heq
        have hC1 : ∀ W, Hid (Calls Tryd.prog 39 #[.string x.1, .string y.1] W _) := fun W => Lib.hid (texts_any x.1 y.1 W)
        have hC2 : ∀ W, Hid (Calls Tryd.prog 39 #[.string x.2, .string y.2] W _) := fun W => Lib.hid (texts_any x.2 y.2 W)
        unfold cmpL at hstep
        obtain ⟨z1, hz1⟩ : ∃ z, cmpB x.1 y.1 = z := ⟨_, rfl⟩
        obtain ⟨z2, hz2⟩ : ∃ z, cmpB x.2 y.2 = z := ⟨_, rfl⟩
        simp only [hz1] at hC1
        simp only [hz2] at hC2
        rw [hz1, hz2] at hstep
        clear hz1 hz2
        by_cases e1 : z1 = 0
        · subst e1
          by_cases e2 : z2 = 0
          · subst e2
            have hT1 : Hid (X = cmpLs (xs.drop (k + 1)) (bs.drop (k + 1))) := hstep.out
            clear hstep
            go_wp2
            go_quiet ((refine (hC1 _).out.mono ?_; rintro e w1 ⟨rfl, rfl⟩; exact ⟨rfl, _, rfl⟩))
            go_wp2
            go_quiet ((refine (hC2 _).out.mono ?_; rintro e w1 ⟨rfl, rfl⟩; exact ⟨rfl, _, rfl⟩))
            go_wp2
            go_roundg (n - (k + 1))
            case measure => omega
            case rel => exact ⟨k + 1, by omega, by omega, by go_num, hT1, _, rfl⟩
          · have hF : Hid (X = z2) := by have := hstep.out; unfold or2 at this; rw [if_pos rfl, if_neg e2] at this; exact this
            have hzb : (z2 != 0) = true := by rw [bne_iff_ne]; exact e2
            clear hstep
            go_wp2
            go_quiet ((refine (hC1 _).out.mono ?_; rintro e w1 ⟨rfl, rfl⟩; exact ⟨rfl, _, rfl⟩))
            go_wp2
            go_quiet ((refine (hC2 _).out.mono ?_; rintro e w1 ⟨rfl, rfl⟩; exact ⟨rfl, _, rfl⟩))
            go_wp2
            go_ret
            unfold IntIs
            rw [hF.out]
            exact ⟨rfl, _, by first | rfl | exact World.drewN_drewN _ _ _⟩
        · have hF : Hid (X = z1) := by have := hstep.out; unfold or2 at this; rw [if_neg e1, if_neg e1] at this; exact this
          have hzb : (z1 != 0) = true := by rw [bne_iff_ne]; exact e1
          clear hstep
          go_wp2
          go_quiet ((refine (hC1 _).out.mono ?_; rintro e w1 ⟨rfl, rfl⟩; exact ⟨rfl, _, rfl⟩))
          go_wp2
          go_ret
          unfold IntIs
          rw [hF.out]
          exact ⟨rfl, _, by first | rfl | exact World.drewN_drewN _ _ _⟩
      · have hF : Hid (X = 1) := heq.out.trans (cmpLs_gt (by have := HN.out; omega) (by have := HM.out; omega))
        have g1 : (m : Int) ≤ (k : Int) := by omega
        have g2 : (m : Int) < (n : Int) := by omega
        clear heq
        go_wp2
        go_ret
        unfold IntIs
        rw [hF.out]
        exact ⟨rfl, _, rfl⟩
    · have hkn : k = n := by omega
      subst hkn
      by_cases hlt2 : k < m
      · have hF : Hid (X = -1) := heq.out.trans (cmpLs_lt (by have := HN.out; omega) (by have := HM.out; omega))
        have g1 : (k : Int) < (m : Int) := by omega
        clear heq
        go_wp2
        go_ret
        unfold IntIs
        rw [hF.out]
        exact ⟨rfl, _, rfl⟩
      · have hF : Hid (X = 0) := heq.out.trans (cmpLs_eq (by have := HN.out; omega) (by have := HM.out; omega))
        have hkm2 : k = m := by omega
        subst hkm2
        clear heq
        go_wp2
        go_ret
        unfold IntIs
        rw [hF.out]
        exact ⟨rfl, _, rfl⟩

/-- Are two rows of labels the same? -/
def sameLs : List Lb → List Lb → Bool
  | x :: a, y :: b => x.1.toList == y.1.toList && x.2.toList == y.2.toList && sameLs a b
  | [], [] => true
  | _, _ => false
theorem sameLs_self (a : List Lb) : sameLs a a = true := by
  induction a with
  | nil => rfl
  | cons x a ih => unfold sameLs; rw [ih]; simp
theorem sameLs_true : ∀ {a b : List Lb}, sameLs a b = true → a = b
  | [], [], _ => rfl
  | (a1, a2) :: a, (b1, b2) :: b, h => by
    unfold sameLs at h
    simp only [Bool.and_eq_true, beq_iff_eq] at h
    rw [bytes_same h.1.1, bytes_same h.1.2, sameLs_true h.2]
  | [], _ :: _, h => by simp [sameLs] at h
  | _ :: _, [], h => by simp [sameLs] at h
theorem sameLs_len : ∀ {a b : List Lb}, a.length ≠ b.length → sameLs a b = false := by
  intro a b h
  cases hs : sameLs a b with
  | false => rfl
  | true => exact absurd (congrArg List.length (sameLs_true hs)) h
theorem sameLs_at {a b : List Lb} {k : Nat} (h : k < a.length) (h2 : k < b.length) : sameLs (a.drop k) (b.drop k) = (a[k].1.toList == b[k].1.toList && a[k].2.toList == b[k].2.toList && sameLs (a.drop (k + 1)) (b.drop (k + 1))) := by
  rw [List.drop_eq_getElem_cons h, List.drop_eq_getElem_cons h2]; rfl
theorem sameLs_end {a b : List Lb} {k : Nat} (h : a.length ≤ k) (h2 : b.length ≤ k) : sameLs (a.drop k) (b.drop k) = true := by
  rw [List.drop_eq_nil_of_le h, List.drop_eq_nil_of_le h2]; rfl
/-- A truth, a new place on the tape. -/
def BoolIs (w : World) (b : Bool) (e : Ending) (w' : World) : Prop := e = .returned (.bool b) ∧ ∃ q, w' = w.drewN q

set_option maxRecDepth 100000 in
set_option maxHeartbeats 800000 in
theorem Same_any (A A' : Option Addr) (n c m c' : Nat) (xs bs : List Lb) (hn : xs.length = n) (hm : bs.length = m) (w : World) (hS : Sees w w.heap.size A (lv xs)) (hT : Sees w w.heap.size A' (lv bs)) (hlen : n ≤ 1099511627776) (hlen2 : m ≤ 1099511627776) :
    Calls Tryd.prog 13 #[.slice A n c, .slice A' m c'] w (BoolIs w (sameLs xs bs)) := by
  obtain ⟨X, hX⟩ : ∃ X, sameLs xs bs = X := ⟨_, rfl⟩
  rw [hX]
  have HX := Lib.hid hX
  have HN := Lib.hid hn
  have HM := Lib.hid hm
  clear hn hm hX
  by_cases hnm : n = m
  · subst hnm
    go_enter Tryd.func13, Tryd.ntmps13
    go_wp2
    go_loopg [5] n (fun g i wr => ∃ k : Nat, k + g = n ∧ i = .int .i64 k ∧ Hid (X = sameLs (xs.drop k) (bs.drop k)) ∧ ∃ q, wr = w.drewN q)
    case atStart => exact ⟨0, by omega, rfl, HX.out.symm, 0, rfl⟩
    case round =>
      obtain ⟨k, hk, rfl, heq, q, rfl⟩ := hrel
      by_cases hlt : k < n
      · obtain ⟨ad, rfl, hadB, hc0, hc1⟩ := hS.lb (k := k) (by have := HN.out; omega)
        obtain ⟨ad2, rfl, hadB2, hd0, hd1⟩ := hT.lb (k := k) (by have := HM.out; omega)
        have hstep := Lib.hid (heq.out.trans (sameLs_at (a := xs) (b := bs) (k := k) (by have := HN.out; omega) (by have := HM.out; omega)))
        generalize xs[k]'(by have := HN.out; omega) = x at hc0 hc1 hstep
        generalize bs[k]'(by have := HM.out; omega) = y at hd0 hd1 hstep
        clear heq
        obtain ⟨x1, x2⟩ := x
        obtain ⟨y1, y2⟩ := y
        by_cases e1 : x1.toList = y1.toList
        · by_cases e2 : x2.toList = y2.toList
          · have hT1 : Hid (X = sameLs (xs.drop (k + 1)) (bs.drop (k + 1))) := by have := hstep.out; simp only [e1, e2, beq_self_eq_true, Bool.true_and] at this; exact this
            clear hstep
            go_wp2
            go_quiet (fail)
            go_wp2
            go_roundg (n - (k + 1))
            case measure => omega
            case rel => exact ⟨k + 1, by omega, by go_num, hT1, _, rfl⟩
          · have hF : Hid (X = false) := by have := hstep.out; rw [beq_eq_false_iff_ne.2 e2] at this; unfold Hid; simpa using this
            clear hstep
            go_wp2
            go_quiet (fail)
            go_wp2
            go_ret
            unfold BoolIs
            rw [hF.out]
            exact ⟨rfl, _, by first | rfl | exact World.drewN_drewN _ _ _⟩
        · have hF : Hid (X = false) := by have := hstep.out; rw [beq_eq_false_iff_ne.2 e1] at this; unfold Hid; simpa using this
          clear hstep
          go_wp2
          go_quiet (fail)
          go_wp2
          go_ret
          unfold BoolIs
          rw [hF.out]
          exact ⟨rfl, _, by first | rfl | exact World.drewN_drewN _ _ _⟩
      · have hF : Hid (X = true) := heq.out.trans (sameLs_end (by have := HN.out; omega) (by have := HM.out; omega))
        clear heq
        go_wp2
        go_ret
        unfold BoolIs
        rw [hF.out]
        exact ⟨rfl, _, rfl⟩
  · have hF : Hid (X = false) := HX.out.symm.trans (sameLs_len (by rw [HN.out, HM.out]; exact hnm))
    have g1 : ((n : Int) != (m : Int)) = true := by rw [bne_iff_ne]; omega
    clear HX
    go_enter Tryd.func13, Tryd.ntmps13
    go_wp2
    go_ret
    unfold BoolIs
    rw [hF.out]
    exact ⟨rfl, 0, rfl⟩
end Go.Proofs.YtbgnmojdkhlbaaaDoor
