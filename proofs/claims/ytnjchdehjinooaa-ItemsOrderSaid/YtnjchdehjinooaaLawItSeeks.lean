/-
  The law ItemsSeeks, walked: how much any two items begin with alike; where any item stands among rising ones.
-/
import Derived.Test.YtnjchdehjinooaaLawItCommon
namespace Go.Proofs.Ytnjchdehjinooaa
open Go.RowKit

set_option maxRecDepth 100000 in
set_option maxHeartbeats 1600000 in
theorem ItemsSeeks_small (A B : Option Addr) (n m c d : Nat) (ls : List (List UInt8)) (r : List UInt8) (hn : ls.length = n) (hm : r.length = m) (hf : fewB ls = true) (hm6 : m ≤ 600) (w : World) (hS : Sees2 w w.heap.size A ls) (hS2 : Sees w w.heap.size B (bv r)) :
    Calls Try.prog 3 #[.slice A n c, .slice B m d] w (IsTrue w) := by
  have hnot : ∀ (x : Bool) (w : World), (Op.unary .not (.bool x)).run Try.prog w = .ok (.bool (!x)) w := fun _ _ => rfl
  obtain ⟨h60, hall⟩ := few_yes hf
  have hn60 : n ≤ 60 := by omega
  have HA := Lib.hid hall
  have HF := Lib.hid hf
  have HN := Lib.hid hn
  have HM := Lib.hid hm
  clear hn hm hf hall h60
  go_enter Try.func3, Try.ntmps3
  go_wp2_with fail
  refine (awake_any w).mono ?_
  rintro e w1 ⟨rfl, hb1⟩
  have hs1 := hb1.size
  have hS1 := (hS.below hb1).more hs1
  have hT1 := (hS2.below hb1).more hs1
  have hFew := few_any A n c ls HN.out w1 hS1
  rw [HF.out] at hFew
  go_wp2_with fail
  refine hFew.mono ?_
  rintro e w2 ⟨rfl, rfl⟩
  clear hFew
  go_wp2_with fail
  go_loopg [7] n (fun g i wr => ∃ k : Nat, k + g = n ∧ i = .int .i64 k ∧ ∃ q, wr = w1.drewN q)
  case atStart => exact ⟨0, by omega, rfl, 0, rfl⟩
  case round =>
    obtain ⟨k, hk, rfl, q, rfl⟩ := hrel
    by_cases hlt : k < n
    · obtain ⟨ad, Ai, ci, rfl, hadB, hcell, hci, hsee⟩ := hS1.out k (by have := HN.out; omega)
      have hLl := HA.out k (by have := HN.out; omega)
      obtain ⟨L, hL⟩ : ∃ L, ls[k]'(by have := HN.out; omega) = L := ⟨_, rfl⟩
      rw [hL] at hcell hci hsee hLl
      have hC := fun p => Lib.hid (show Calls _ _ _ _ (CommonIs (w1.drewN (q + p)) L r) from Common_any Ai B L.length m ci d L r rfl HM.out (w1.drewN (q + p)) (hsee.drewN _) (hT1.drewN _) (by omega) (by have := HM.out; omega))
      have hD := fun p => Lib.hid (RefCommon_any Ai B L.length m ci d L r rfl HM.out (w1.drewN (q + p)) (hsee.drewN _) (hT1.drewN _) (by omega) (by have := HM.out; omega))
      unfold CommonIs at hC hD
      obtain ⟨X, hX⟩ : ∃ X, common L r = X := ⟨_, rfl⟩
      simp only [hX] at hC hD
      have hxx : ((X : Int) != (X : Int)) = false := by simp
      clear hX hL
      go_wp2
      go_quiet (first
        | (go_at_call 9; refine (hC _).out.mono ?_; rintro e w3 ⟨rfl, q3, rfl⟩; exact ⟨rfl, _, by rw [World.drewN_drewN, Nat.add_assoc]⟩)
        | (go_at_call 10; refine (hD _).out.mono ?_; rintro e w3 ⟨rfl, q3, rfl⟩; exact ⟨rfl, _, by rw [World.drewN_drewN, Nat.add_assoc]⟩))
      go_wp2
      go_roundg (n - (k + 1))
      case measure => omega
      case rel => exact ⟨k + 1, by omega, by go_num, _, rfl⟩
    · have hSk := Seek_any A B n c m d ls r HN.out HM.out (w1.drewN q) (hS1.drew q) (hT1.drewN q) (by omega)
      have hRi := RefRises_any A n c ls HN.out (w1.drewN q) (hS1.drew q) (by omega)
      unfold SeekIs at hSk
      unfold BoolIs at hRi
      have hSk' := Lib.hid hSk
      clear hSk
      obtain ⟨b, hb⟩ : ∃ b, risesB ls = b := ⟨_, rfl⟩
      rw [hb] at hRi
      have hRi' := Lib.hid hRi
      clear hRi
      cases b with
      | false =>
        clear hb
        go_wp2_with fail
        refine hSk'.out.mono ?_
        rintro e w3 ⟨rfl, k3, hk3, -, rfl⟩
        have hk3' : k3 ≤ n := by have := HN.out; omega
        clear hk3
        go_wp2_with fail
        refine hRi'.out.mono ?_
        rintro e w4 ⟨rfl, q4, rfl⟩
        go_wp2
        go_ret
        exact ⟨by simp, below_d hb1 _⟩
      | true =>
        have hb' := Lib.hid hb
        clear hb
        go_wp2_with fail
        refine hSk'.out.mono ?_
        rintro e w3 ⟨rfl, k3, hk3, hk4, rfl⟩
        rw [hb'.out] at hk4
        obtain rfl := hk4 rfl
        clear hk4 hk3
        go_wp2_with fail
        refine hRi'.out.mono ?_
        rintro e w4 ⟨rfl, q4, rfl⟩
        have hRs := RefSeek_any A B n c m d ls r HN.out HM.out (w1.drewN (q + q4)) (hS1.drew _) (hT1.drewN _) (by omega)
        unfold NumIs at hRs
        have hRs' := Lib.hid hRs
        clear hRs
        generalize firstNot r ls = F at hRs' ⊢
        go_wp2_with fail
        refine hRs'.out.mono ?_
        rintro e w5 ⟨rfl, q5, rfl⟩
        go_wp2
        go_ret
        exact ⟨by simp, below_d hb1 _⟩

set_option maxRecDepth 100000 in
set_option maxHeartbeats 400000 in
theorem ItemsSeeks_any (A B : Option Addr) (n m c d : Nat) (ls : List (List UInt8)) (r : List UInt8) (hn : ls.length = n) (hm : r.length = m) (w : World) (hS : Sees2 w w.heap.size A ls) (hS2 : Sees w w.heap.size B (bv r)) :
    Calls Try.prog 3 #[.slice A n c, .slice B m d] w (IsTrue w) := by
  obtain ⟨b, hb⟩ : ∃ b, fewB ls = b := ⟨_, rfl⟩
  have hnot : ∀ (x : Bool) (w : World), (Op.unary .not (.bool x)).run Try.prog w = .ok (.bool (!x)) w := fun _ _ => rfl
  cases b with
  | true =>
    by_cases h2 : m ≤ 600
    · exact ItemsSeeks_small A B n m c d ls r hn hm hb h2 w hS hS2
    · have h2' : (600 : Int) < (m : Int) := by omega
      have hF := fun (w : World) (h : Sees2 w w.heap.size A ls) => few_any A n c ls hn w h
      rw [hb] at hF
      have HF := Lib.hid hF
      clear hn hm hb hF hS2
      go_enter Try.func3, Try.ntmps3
      go_wp2_with fail
      refine (awake_any w).mono ?_
      rintro e w1 ⟨rfl, hb1⟩
      go_wp2_with fail
      refine (HF.out w1 ((hS.below hb1).more hb1.size)).mono ?_
      rintro e w2 ⟨rfl, rfl⟩
      go_wp2_with fail
      go_ret
      exact ⟨rfl, hb1⟩
  | false =>
    have hF := fun (w : World) (h : Sees2 w w.heap.size A ls) => few_any A n c ls hn w h
    rw [hb] at hF
    have HF := Lib.hid hF
    clear hn hm hb hF hS2
    go_enter Try.func3, Try.ntmps3
    go_wp2_with fail
    refine (awake_any w).mono ?_
    rintro e w1 ⟨rfl, hb1⟩
    go_wp2_with fail
    refine (HF.out w1 ((hS.below hb1).more hb1.size)).mono ?_
    rintro e w2 ⟨rfl, rfl⟩
    go_wp2_with fail
    go_ret
    exact ⟨rfl, hb1⟩
end Go.Proofs.Ytnjchdehjinooaa
