/-
  The law ItemsOrder, walked: Seek stands between what is ahead and what isn't.
-/
import Derived.Test.YtnjchdehjinooaaLawItSeeks
namespace Go.Proofs.Ytnjchdehjinooaa
open Go.RowKit

theorem firstNot_self {ls : List (List UInt8)} (hr : risesB ls = true) {i : Nat} (hi : i < ls.length) : firstNot ls[i] ls = i :=
  firstNot_eq (Nat.le_of_lt hi) (fun j hj hji => rises_pair hr hj hi hji) (fun _ => ahead_irrefl _)
theorem firstNot_nil (ls : List (List UInt8)) : firstNot [] ls = 0 := by
  refine firstNot_eq (Nat.zero_le _) (fun j _ h => absurd h (by omega)) (fun h => ?_)
  cases ls[0] <;> rfl

set_option maxRecDepth 100000 in
set_option maxHeartbeats 1600000 in
theorem ItemsOrder_small (A B : Option Addr) (n m c d : Nat) (ls : List (List UInt8)) (r : List UInt8) (hn : ls.length = n) (hm : r.length = m) (hf : fewB ls = true) (hr : risesB ls = true) (hm6 : m ≤ 600) (w : World) (hS : Sees2 w w.heap.size A ls) (hS2 : Sees w w.heap.size B (bv r)) :
    Calls Try.prog 5 #[.slice A n c, .slice B m d] w (IsTrue w) := by
  have hnot : ∀ (x : Bool) (w : World), (Op.unary .not (.bool x)).run Try.prog w = .ok (.bool (!x)) w := fun _ _ => rfl
  obtain ⟨h60, hall⟩ := few_yes hf
  have hn60 : n ≤ 60 := by omega
  have HF := Lib.hid hf
  have HR := Lib.hid hr
  have HN := Lib.hid hn
  have HM := Lib.hid hm
  clear hn hm hf hall h60 hr
  go_enter Try.func5, Try.ntmps5
  go_wp2_with fail
  refine (awake_any w).mono ?_
  rintro e w1 ⟨rfl, hb1⟩
  have hs1 := hb1.size
  have hS1 := (hS.below hb1).more hs1
  have hT1 := (hS2.below hb1).more hs1
  have hFew := few_any A n c ls HN.out w1 hS1
  rw [HF.out] at hFew
  have hRi := RefRises_any A n c ls HN.out w1 hS1 (by omega)
  unfold BoolIs at hRi
  rw [HR.out] at hRi
  have hRi' := Lib.hid hRi
  clear hRi
  go_wp2_with fail
  refine hFew.mono ?_
  rintro e w2 ⟨rfl, rfl⟩
  clear hFew
  go_wp2_with fail
  refine hRi'.out.mono ?_
  rintro e w2 ⟨rfl, q, rfl⟩
  clear hRi'
  have hSk := fun p => Lib.hid (Seek_any A B n c m d ls r HN.out HM.out (w1.drewN p) (hS1.drew p) (hT1.drewN p) (by omega))
  unfold SeekIs at hSk
  go_upto_region 8 with (refine (hSk q).out.mono ?_; rintro e w3 ⟨rfl, k, hk3, hk4, rfl⟩; have hK := Lib.hid (hk4 HR.out); clear hk4)
  have hkn : k ≤ n := by have := HN.out; omega
  have hlo : ∀ j (h : j < ls.length), j < k → Hid (ahead ls[j] r = true) := fun j h hj => firstNot_lt h (by rw [← hK.out]; exact hj)
  have hhi : ∀ (h : k < ls.length), Hid (ahead ls[k] r = false) := fun h => by
    have := firstNot_not (x := r) (ls := ls) (by rw [← hK.out]; exact h)
    unfold Hid
    simp only [← hK.out] at this
    exact this
  clear hk3
  go_cut [67] from 29 to 67 (fun t wx => t = .bool false ∧ ∃ q', wx = w1.drewN q')
  case first =>
    have cv2 := fun p => run_str (w1.drewN p) _ B m d r (hT1.drewN p) HM.out
    have hnk : decide (n < k) = false := by rw [decide_eq_false_iff_not]; omega
    have hnk' : decide ((n : Int) < (k : Int)) = false := by rw [decide_eq_false_iff_not]; omega
    have hnz : decide ((k : Int) < 0) = false := by rw [decide_eq_false_iff_not]; omega
    by_cases h0 : 0 < k
    · obtain ⟨j, hj⟩ : ∃ j, k - 1 = j := ⟨_, rfl⟩
      have hjn : j < n := by omega
      obtain ⟨ad, Ai, ci, hA, hadB, hcell, hci, hsee⟩ := hS1.out j (by have := HN.out; omega)
      subst hA
      have hah := hlo j (by have := HN.out; omega) (by omega)
      obtain ⟨L, hL⟩ : ∃ L, ls[j]'(by have := HN.out; omega) = L := ⟨_, rfl⟩
      rw [hL] at hcell hci hsee hah
      clear hL
      have cv1 := fun p => run_str (w1.drewN p) _ Ai L.length ci L (hsee.drewN p) rfl
      have hsub : IntKind.i64.wrap ((k : Int) - 1) = (j : Int) := by rw [IntKind.wrap_i64]; omega
      have hble : Op.bytesLess (strOf L).toList (strOf r).toList = true := by rw [strOf_toList, strOf_toList]; exact hah.out
      have hk1 : decide (0 < k) = true := by simpa using h0
      have hk1' : decide ((0 : Int) < (k : Int)) = true := by simpa using h0
      clear hj
      by_cases h1 : k < n
      · obtain ⟨ad2, Aj, cj, hA2, hadB2, hcell2, hcj, hsee2⟩ := hS1.out k (by have := HN.out; omega)
        injection hA2 with hA2; subst hA2
        have hah2 := hhi (by have := HN.out; omega)
        obtain ⟨R, hR⟩ : ∃ R, ls[k]'(by have := HN.out; omega) = R := ⟨_, rfl⟩
        rw [hR] at hcell2 hcj hsee2 hah2
        clear hR
        have cv3 := fun p => run_str (w1.drewN p) _ Aj R.length cj R (hsee2.drewN p) rfl
        have hbl2 : Op.bytesLess (strOf R).toList (strOf r).toList = false := by rw [strOf_toList, strOf_toList]; exact hah2.out
        have hk2 : decide (k < n) = true := by simpa using h1
        have hk2' : decide ((k : Int) < (n : Int)) = true := by simpa using h1
        clear hlo hhi
        go_quiet (fail)
        go_wp2_with fail
        go_meet
        exact ⟨rfl, _, World.drewN_drewN _ _ _⟩
      · have hk2 : decide (k < n) = false := by simpa using h1
        have hk2' : decide ((k : Int) < (n : Int)) = false := by simpa using h1
        clear hlo hhi
        go_quiet (fail)
        go_wp2_with fail
        go_meet
        exact ⟨rfl, _, World.drewN_drewN _ _ _⟩
    · have hk1 : decide (0 < k) = false := by simpa using h0
      have hk1' : decide ((0 : Int) < (k : Int)) = false := by simpa using h0
      by_cases h1 : k < n
      · obtain ⟨ad2, Aj, cj, hA2, hadB2, hcell2, hcj, hsee2⟩ := hS1.out k (by have := HN.out; omega)
        subst hA2
        have hah2 := hhi (by have := HN.out; omega)
        obtain ⟨R, hR⟩ : ∃ R, ls[k]'(by have := HN.out; omega) = R := ⟨_, rfl⟩
        rw [hR] at hcell2 hcj hsee2 hah2
        clear hR
        have cv3 := fun p => run_str (w1.drewN p) _ Aj R.length cj R (hsee2.drewN p) rfl
        have hbl2 : Op.bytesLess (strOf R).toList (strOf r).toList = false := by rw [strOf_toList, strOf_toList]; exact hah2.out
        have hk2 : decide (k < n) = true := by simpa using h1
        have hk2' : decide ((k : Int) < (n : Int)) = true := by simpa using h1
        clear hlo hhi
        go_quiet (fail)
        go_wp2_with fail
        go_meet
        exact ⟨rfl, _, World.drewN_drewN _ _ _⟩
      · have hk2 : decide (k < n) = false := by simpa using h1
        have hk2' : decide ((k : Int) < (n : Int)) = false := by simpa using h1
        clear hlo hhi
        go_quiet (fail)
        go_wp2_with fail
        go_meet
        exact ⟨rfl, _, World.drewN_drewN _ _ _⟩
  case rest =>
    obtain ⟨rfl, q', rfl⟩ := hcut
    clear hlo hhi hK hkn hSk
    go_wp2_with fail
    go_loopg [8] n (fun g i wr => ∃ k : Nat, k + g = n ∧ i = .int .i64 k ∧ wr = w1.drewN q')
    case atStart => exact ⟨0, by omega, rfl, rfl⟩
    case round =>
      obtain ⟨k, hk, rfl, rfl⟩ := hrel
      by_cases hlt : k < n
      · obtain ⟨ad, Ai, ci, rfl, hadB, hcell, hci, hsee⟩ := hS1.out k (by have := HN.out; omega)
        have hself := Lib.hid (firstNot_self HR.out (i := k) (by have := HN.out; omega))
        obtain ⟨L, hL⟩ : ∃ L, ls[k]'(by have := HN.out; omega) = L := ⟨_, rfl⟩
        rw [hL] at hcell hci hsee hself
        clear hL
        have hSk := Lib.hid (Seek_any (some ad) Ai n c L.length ci ls L HN.out rfl (w1.drewN q') (hS1.drew q') (hsee.drewN q') (by omega))
        unfold SeekIs at hSk
        go_wp2_with fail
        refine hSk.out.mono ?_
        rintro e w3 ⟨rfl, k3, hk3, hk4, rfl⟩
        have hk5 := hk4 HR.out
        rw [hself.out] at hk5
        subst hk5
        clear hk3 hk4
        have hxx : ((k3 : Int) != (k3 : Int)) = false := by simp
        go_wp2
        go_roundg (n - (k3 + 1))
        case measure => omega
        case rel => exact ⟨k3 + 1, by omega, by go_num, rfl⟩
      · have hSk := Lib.hid (Seek_any A none n c 0 0 ls [] HN.out rfl (w1.drewN q') (hS1.drew q') (Sees.nil _ _ _) (by omega))
        have hSn := Lib.hid (Seek_any none B 0 0 m d [] r rfl HM.out (w1.drewN q') (Sees2.nil _ _ _) (hT1.drewN q') (by omega))
        unfold SeekIs at hSk hSn
        go_wp2_with fail
        refine hSk.out.mono ?_
        rintro e w3 ⟨rfl, k3, hk3, hk4, rfl⟩
        have hk5 := hk4 HR.out
        rw [firstNot_nil] at hk5
        subst hk5
        clear hk3 hk4
        go_wp2_with fail
        refine hSn.out.mono ?_
        rintro e w3 ⟨rfl, k3, hk3, hk4, rfl⟩
        obtain rfl : k3 = 0 := by simpa using hk3
        clear hk3 hk4
        go_wp2
        go_ret
        exact ⟨rfl, below_d hb1 _⟩

set_option maxRecDepth 100000 in
set_option maxHeartbeats 400000 in
theorem ItemsOrder_any (A B : Option Addr) (n m c d : Nat) (ls : List (List UInt8)) (r : List UInt8) (hn : ls.length = n) (hm : r.length = m) (w : World) (hS : Sees2 w w.heap.size A ls) (hS2 : Sees w w.heap.size B (bv r)) :
    Calls Try.prog 5 #[.slice A n c, .slice B m d] w (IsTrue w) := by
  obtain ⟨b, hb⟩ : ∃ b, fewB ls = b := ⟨_, rfl⟩
  have hnot : ∀ (x : Bool) (w : World), (Op.unary .not (.bool x)).run Try.prog w = .ok (.bool (!x)) w := fun _ _ => rfl
  have hF := fun (w : World) (h : Sees2 w w.heap.size A ls) => few_any A n c ls hn w h
  cases b with
  | true =>
    have hn60 : n ≤ 60 := by have := (few_yes hb).1; omega
    by_cases h2 : m ≤ 600
    · obtain ⟨b2, hb2⟩ : ∃ b, risesB ls = b := ⟨_, rfl⟩
      cases b2 with
      | true => exact ItemsOrder_small A B n m c d ls r hn hm hb hb2 h2 w hS hS2
      | false =>
        have hR := fun (w : World) (h : Sees2 w w.heap.size A ls) => RefRises_any A n c ls hn w h (by omega)
        unfold BoolIs at hR
        rw [hb2] at hR
        rw [hb] at hF
        have HF := Lib.hid hF
        have HR := Lib.hid hR
        have h2' : (m : Int) ≤ 600 := by omega
        clear hn hm hb hF hS2 hb2 hR
        go_enter Try.func5, Try.ntmps5
        go_wp2_with fail
        refine (awake_any w).mono ?_
        rintro e w1 ⟨rfl, hb1⟩
        go_wp2_with fail
        refine (HF.out w1 ((hS.below hb1).more hb1.size)).mono ?_
        rintro e w2 ⟨rfl, rfl⟩
        go_wp2_with fail
        refine (HR.out w1 ((hS.below hb1).more hb1.size)).mono ?_
        rintro e w2 ⟨rfl, q, rfl⟩
        go_wp2_with fail
        go_ret
        exact ⟨rfl, below_d hb1 _⟩
    · have h2' : (600 : Int) < (m : Int) := by omega
      rw [hb] at hF
      have HF := Lib.hid hF
      clear hn hm hb hF hS2
      go_enter Try.func5, Try.ntmps5
      go_wp2_with fail
      refine (awake_any w).mono ?_
      rintro e w1 ⟨rfl, hb1⟩
      go_wp2_with fail
      refine (HF.out w1 ((hS.below hb1).more hb1.size)).mono ?_
      rintro e w2 ⟨rfl, rfl⟩
      go_wp2_with fail
      go_ret
      exact ⟨rfl, hb1⟩
  | false =>
    rw [hb] at hF
    have HF := Lib.hid hF
    clear hn hm hb hF hS2
    go_enter Try.func5, Try.ntmps5
    go_wp2_with fail
    refine (awake_any w).mono ?_
    rintro e w1 ⟨rfl, hb1⟩
    go_wp2_with fail
    refine (HF.out w1 ((hS.below hb1).more hb1.size)).mono ?_
    rintro e w2 ⟨rfl, rfl⟩
    go_wp2_with fail
    go_ret
    exact ⟨rfl, hb1⟩
end Go.Proofs.Ytnjchdehjinooaa
