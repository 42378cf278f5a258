/-
  The law ItemsCommon, walked: what two items begin with alike goes both ways, and decides which is ahead.
-/
import Derived.Test.YtnjchdehjinooaaItAwake
namespace Go.Proofs.Ytnjchdehjinooaa
open Go.RowKit

theorem common_pre : ∀ (l r : List UInt8), l.take (common l r) = r.take (common l r)
  | a :: s, b :: t => by
    have ih := common_pre s t
    simp only [common]
    by_cases h : a = b
    · subst h; simp [ih]
    · rw [if_neg h]; rfl
  | [], r => by simp [common]
  | a :: s, [] => by simp [common]
theorem ahead_cons (a b : UInt8) (s t : List UInt8) : ahead (a :: s) (b :: t) = (decide (a < b) || (a == b && ahead s t)) := by simp [ahead, Op.bytesLess]
theorem common_stop : ∀ (l r : List UInt8) (h1 : common l r < l.length) (h2 : common l r < r.length), l[common l r] ≠ r[common l r] ∧ ahead l r = decide (l[common l r] < r[common l r])
  | a :: s, b :: t, h1, h2 => by
    by_cases h : a = b
    · subst h
      have e : common (a :: s) (a :: t) = common s t + 1 := by simp [common]
      have ih := common_stop s t (by rw [e] at h1; simpa using h1) (by rw [e] at h2; simpa using h2)
      simp only [e, List.getElem_cons_succ]
      refine ⟨ih.1, ?_⟩
      rw [ahead_cons, ← ih.2]
      simp [UInt8.lt_irrefl]
    · have e : common (a :: s) (b :: t) = 0 := by simp [common, h]
      simp only [e, List.getElem_cons_zero]
      refine ⟨h, ?_⟩
      rw [ahead_cons]
      have : (a == b) = false := by simpa using h
      rw [this]; simp
  | [], r, h1, _ => by simp at h1
  | a :: s, [], _, h2 => by simp at h2
theorem common_whole : ∀ (l r : List UInt8), common l r = l.length ∨ common l r = r.length → (!ahead r l) = decide (l.length ≤ r.length)
  | a :: s, b :: t, h => by
    by_cases hab : a = b
    · subst hab
      have e : common (a :: s) (a :: t) = common s t + 1 := by simp [common]
      have ih := common_whole s t (by rw [e] at h; simpa using h)
      rw [ahead_cons]
      have : (decide (a < a) || (a == a && ahead t s)) = ahead t s := by simp [UInt8.lt_irrefl]
      rw [this, ih]; simp
    · have e : common (a :: s) (b :: t) = 0 := by simp [common, hab]
      rw [e] at h; simp at h
  | [], r, h => by
    have : ahead r [] = false := by cases r <;> rfl
    rw [this]; simp
  | a :: s, [], h => by
    have : ahead [] (a :: s) = true := rfl
    rw [this]; simp

theorem ret_true {b : Bool} (h : b = true) : Ending.returned (.bool b) = .returned (.bool true) := by rw [h]
theorem leq_eq (l r : List UInt8) : ((Op.bytesLess l r || l == r) == !ahead r l) = true := by
  show ((ahead l r || l == r) == !ahead r l) = true
  by_cases h1 : ahead l r = true
  · have h2 : ahead r l = false := by
      rw [← Bool.not_eq_true]; intro h; have := ahead_trans h1 h; rw [ahead_irrefl] at this; cases this
    rw [h1, h2]; rfl
  · rw [Bool.not_eq_true] at h1
    by_cases h2 : ahead r l = true
    · have h3 : (l == r) = false := by rw [beq_eq_false_iff_ne]; rintro rfl; rw [ahead_irrefl] at h2; cases h2
      rw [h1, h2, h3]; rfl
    · rw [Bool.not_eq_true] at h2
      have := ahead_tri h1 h2
      subst this
      rw [h1]; simp

set_option maxRecDepth 100000 in
set_option maxHeartbeats 1600000 in
theorem ItemsCommon_small (A B : Option Addr) (n m c d : Nat) (l r : List UInt8) (hn : l.length = n) (hm : r.length = m) (hn6 : n ≤ 600) (hm6 : m ≤ 600) (hnc : n ≤ c) (hmd : m ≤ d) (w : World) (hS : Sees w w.heap.size A (bv l)) (hS2 : Sees w w.heap.size B (bv r)) :
    Calls Try.prog 6 #[.slice A n c, .slice B m d] w (IsTrue w) := by
  have hnot : ∀ (x : Bool) (w : World), (Op.unary .not (.bool x)).run Try.prog w = .ok (.bool (!x)) w := fun _ _ => rfl
  have hXl := common_le l r
  have hpre := Lib.hid (common_pre l r)
  have hstop := Lib.hid (common_stop l r)
  have hwhole := Lib.hid (common_whole l r)
  have HN := Lib.hid hn
  have HM := Lib.hid hm
  rw [hn, hm] at hXl
  obtain ⟨hXn, hXm⟩ := hXl
  have hcm := Lib.hid (common_comm l r)
  clear hn hm
  go_enter Try.func6, Try.ntmps6
  go_wp2_with fail
  refine (awake_any w).mono ?_
  rintro e w1 ⟨rfl, hb1⟩
  have hs1 := hb1.size
  have hS1 := (hS.below hb1).more hs1
  have hT1 := (hS2.below hb1).more hs1
  go_wp2_with fail
  refine (Common_any A B n m c d l r HN.out HM.out w1 hS1 hT1 (by rw [HN.out]; omega) (by rw [HM.out]; omega)).mono ?_
  rintro e w2 ⟨rfl, q, rfl⟩
  have hC := fun p => Lib.hid (show Calls _ _ _ _ (CommonIs (w1.drewN (q + p)) l r) from by
    have := Common_any B A m n d c r l HM.out HN.out (w1.drewN (q + p)) (hT1.drewN _) (hS1.drewN _) (by rw [HM.out]; omega) (by rw [HN.out]; omega)
    rw [← common_comm] at this
    exact this)
  obtain ⟨X, hX⟩ : ∃ X, common l r = X := ⟨_, rfl⟩
  have HX := Lib.hid hX
  unfold CommonIs at hC
  rw [hX] at hXn hXm
  simp only [hX] at hC ⊢
  have htl : (l.take X).length = X := by rw [List.length_take, HN.out]; omega
  have htr : (r.take X).length = X := by rw [List.length_take, HM.out]; omega
  have cv1 := fun p => run_str (w1.drewN p) _ A X c (l.take X) (by rw [bv_take]; exact (hS1.drewN p).take X) htl
  have cv2 := fun p => run_str (w1.drewN p) _ B X d (l.take X) (by rw [← HX.out, hpre.out, HX.out, bv_take]; exact (hT1.drewN p).take X) htl
  have dv1 := fun p => run_str (w1.drewN p) _ A n c l (hS1.drewN p) HN.out
  have dv2 := fun p => run_str (w1.drewN p) _ B m d r (hT1.drewN p) HM.out
  obtain ⟨s, hs⟩ : ∃ s, strOf (l.take X) = s := ⟨_, rfl⟩
  simp only [hs] at cv1 cv2
  clear hs hX htl htr
  have hxx : ((X : Int) != (X : Int)) = false := by simp
  have g1 : (X : Int) ≤ (n : Int) := by omega
  have g2 : (X : Int) ≤ (m : Int) := by omega
  have g3 : (X : Int) ≤ (c : Int) := by omega
  have g4 : (X : Int) ≤ (d : Int) := by omega
  have g5 : decide ((n : Int) < (X : Int)) = false := by rw [decide_eq_false_iff_not]; omega
  have g6 : decide ((m : Int) < (X : Int)) = false := by rw [decide_eq_false_iff_not]; omega
  have g5' : decide (n < X) = false := by rw [decide_eq_false_iff_not]; omega
  have g6' : decide (m < X) = false := by rw [decide_eq_false_iff_not]; omega
  have g7 : (s.toList != s.toList) = false := by simp
  go_wp2_with fail
  go_quiet ((refine (hC _).out.mono ?_; rintro e w3 ⟨rfl, q3, rfl⟩; exact ⟨rfl, _, by rw [World.drewN_drewN, Nat.add_assoc]⟩))
  have hend : ∀ q : Nat, Below w.heap.size w (w1.drewN q) := fun q => below_d hb1 q
  by_cases hf : X = n ∨ X = m
  · have hw : Hid (((Op.bytesLess (strOf l).toList (strOf r).toList || (strOf l).toList == (strOf r).toList) == decide (n ≤ m)) = true) := by
      have h1 := hwhole.out (by rw [HX.out, HN.out, HM.out]; exact hf)
      rw [HN.out, HM.out] at h1
      unfold Hid
      rw [← h1, strOf_toList, strOf_toList]
      exact leq_eq l r
    clear hpre hstop hwhole HX hcm
    rcases hf with hf | hf
    · have h1 : ((X : Int) == (n : Int)) = true := by rw [beq_iff_eq]; omega
      clear hf
      go_wp2_with fail
      all_goals
        go_ret
        exact ⟨ret_true hw.out, hend _⟩
    · have h1 : ((X : Int) == (m : Int)) = true := by rw [beq_iff_eq]; omega
      clear hf
      go_wp2_with fail
      all_goals
        go_ret
        exact ⟨ret_true hw.out, hend _⟩
  · have h1 : ((X : Int) == (n : Int)) = false := by rw [beq_eq_false_iff_ne]; omega
    have h2 : ((X : Int) == (m : Int)) = false := by rw [beq_eq_false_iff_ne]; omega
    have h3 : X < n := by omega
    have h4 : X < m := by omega
    have hst := hstop.out
    simp only [HX.out] at hst
    obtain ⟨e1, e2⟩ := hst (by rw [HN.out]; exact h3) (by rw [HM.out]; exact h4)
    obtain ⟨ad, hA, hbA, hcA⟩ := hS1.at_ (k := X) (by rw [bv_length, HN.out]; exact h3)
    obtain ⟨ad2, hB, hbB, hcB⟩ := hT1.at_ (k := X) (by rw [bv_length, HM.out]; exact h4)
    subst hA
    subst hB
    rw [bv_get l X (by rw [HN.out]; exact h3)] at hcA
    rw [bv_get r X (by rw [HM.out]; exact h4)] at hcB
    generalize l[X]'(by rw [HN.out]; exact h3) = x at hcA e1 e2
    generalize r[X]'(by rw [HM.out]; exact h4) = y at hcB e1 e2
    have hx1 : ((x.toNat : Int) != (y.toNat : Int)) = true := by rw [bne_iff_ne]; exact fun e => e1 (UInt8.toNat_inj.1 (by omega))
    have hw : Hid ((Op.bytesLess (strOf l).toList (strOf r).toList == decide (x.toNat < y.toNat)) = true) := by
      unfold Hid
      rw [strOf_toList, strOf_toList]
      show (ahead l r == _) = true
      rw [e2]
      simp [UInt8.lt_iff_toNat_lt]
    clear hf e1 e2 hst hpre hstop hwhole HX hcm
    go_wp2_with fail
    go_quiet (fail)
    go_wp2
    go_ret
    exact ⟨ret_true hw.out, below_d (hend _) _⟩

set_option maxRecDepth 100000 in
set_option maxHeartbeats 400000 in
theorem ItemsCommon_any (A B : Option Addr) (n m c d : Nat) (l r : List UInt8) (hn : l.length = n) (hm : r.length = m) (hnc : n ≤ c) (hmd : m ≤ d) (w : World) (hS : Sees w w.heap.size A (bv l)) (hS2 : Sees w w.heap.size B (bv r)) :
    Calls Try.prog 6 #[.slice A n c, .slice B m d] w (IsTrue w) := by
  by_cases h1 : n ≤ 600
  · by_cases h2 : m ≤ 600
    · exact ItemsCommon_small A B n m c d l r hn hm h1 h2 hnc hmd w hS hS2
    · have h2' : (600 : Int) < (m : Int) := by omega
      have h1' : (n : Int) ≤ 600 := by omega
      clear hn hm hS hS2
      go_enter Try.func6, Try.ntmps6
      go_wp2_with fail
      refine (awake_any w).mono ?_
      rintro e w1 ⟨rfl, hb1⟩
      go_wp2_with fail
      go_ret
      exact ⟨rfl, hb1⟩
  · have h1' : (600 : Int) < (n : Int) := by omega
    clear hn hm hS hS2
    go_enter Try.func6, Try.ntmps6
    go_wp2_with fail
    refine (awake_any w).mono ?_
    rintro e w1 ⟨rfl, hb1⟩
    go_wp2_with fail
    go_ret
    exact ⟨rfl, hb1⟩
end Go.Proofs.Ytnjchdehjinooaa
