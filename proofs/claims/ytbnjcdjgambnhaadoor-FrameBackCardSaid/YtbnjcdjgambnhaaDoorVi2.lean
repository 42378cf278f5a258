/-
  varint.Take and varint.Put; slices.Equal of bytes.
-/
import Derived.Test.YtbnjcdjgambnhaaDoorVi
namespace Go.Proofs.YtbnjcdjgambnhaaDoor
open Go.RowKit

set_option maxRecDepth 100000 in
set_option maxHeartbeats 400000 in
theorem Take_any (A : Option Addr) (n0 c : Nat) (l : List UInt8) (hn0 : l.length = n0) (w : World) (hS : Sees w w.heap.size A (bv l)) (hlen : l.length ≤ 1099511627776) (hc : l.length ≤ c) :
    Calls Tryd.prog 20 #[.slice A n0 c] w (Ret1B w ((vtake l).1 : Nat) .u64 (if (vtake l).2.2 = 0 then l.drop (vtake l).2.1 else []) ((vtake l).2.2 : Nat)) := by
  subst hn0
  have hle := vtake_le l
  have hcH := Lib.hid hc
  have herr := vtake_err l
  have HT := Lib.hid (take_any A c l w hS hlen)
  generalize hU : vtake l = U at hle herr HT ⊢
  clear hU
  obtain ⟨x, n, e⟩ := U
  simp only at hle herr HT ⊢
  by_cases he : e = 0
  · subst he
    clear herr
    go_enter Tryd.func20, Tryd.ntmps20
    go_wp2_with fail
    refine HT.out.mono ?_
    rintro e w' ⟨rfl, rfl⟩
    go_wp2_with fail
    all_goals
      refine (clone_any _ _ _ (l.drop n) (by simp) _ (by rw [bv_drop]; first | exact hS.cut' n | exact Sees.cut0 _ _ _ (by rw [bv_length]; have := hcH.out; omega)) (by simp; omega)).mono ?_
      rintro e w' ⟨v1, rfl, hown, hon⟩
      go_wp2_with fail
      go_ret3
      exact ⟨_, rfl, hown, hon.below_nil⟩
  · obtain ⟨rfl, rfl⟩ := herr he
    have he0 : ((e : Int) != 0) = true := by rw [bne_iff_ne]; omega
    rw [if_neg he]
    clear he herr
    go_enter Tryd.func20, Tryd.ntmps20
    go_wp2_with fail
    refine HT.out.mono ?_
    rintro e w' ⟨rfl, rfl⟩
    go_wp2_with fail
    go_ret3
    exact ⟨_, rfl, OwnB.nil _ _, Below.refl _ _⟩

set_option maxRecDepth 100000 in
set_option maxHeartbeats 400000 in
theorem Put_any (A : Option Addr) (n c : Nat) (l : List UInt8) (hn : l.length = n) (u : Nat) (hu : Is64 u) (w : World) (hS : Sees w w.heap.size A (bv l)) (hlen : l.length ≤ 1099511627776) :
    Calls Tryd.prog 15 #[.slice A n c, .int .u64 u] w (RetB w w.heap.size (.slice none 0 0) (l ++ venc u)) := by
  go_enter Tryd.func15, Tryd.ntmps15
  go_wp2_with fail
  refine (clone_any A n c l hn _ hS hlen).mono ?_
  rintro e w1 ⟨v1, rfl, hown, hon⟩
  go_wp2_with fail
  refine (put_any w.heap.size v1 l u hu w1 hown hon.size hlen).mono ?_
  rintro e w2 ⟨v2, rfl, hown2, hon2⟩
  go_wp2_with fail
  go_ret
  exact ⟨v2, rfl, hown2, hon.trans hon2⟩

theorem bv_get (l : List UInt8) (k : Nat) (h : k < l.length) : (bv l)[k]'(by rw [bv_length]; exact h) = .int .u8 ((l[k]).toNat : Int) := by simp [bv]
theorem take_step (l r : List UInt8) (k : Nat) (h1 : k < l.length) (h2 : k < r.length) (h : l.take k = r.take k) :
    (l[k] = r[k] → l.take (k + 1) = r.take (k + 1)) ∧ (l[k] ≠ r[k] → (l == r) = false) := by
  refine ⟨fun e => ?_, fun e => ?_⟩
  · rw [List.take_succ_eq_append_getElem h1, List.take_succ_eq_append_getElem h2, h, e]
  · rw [beq_eq_false_iff_ne]
    rintro rfl
    exact e rfl

def EqB (w : World) (l m : List UInt8) (e : Ending) (w' : World) : Prop := e = .returned (.bool (l == m)) ∧ ∃ k, w' = w.drewN k

set_option maxRecDepth 100000 in
set_option maxHeartbeats 400000 in
theorem equal_any (A B : Option Addr) (n m c d : Nat) (l r : List UInt8) (hn : l.length = n) (hm : r.length = m) (w : World) (hS : Sees w w.heap.size A (bv l)) (hS2 : Sees w w.heap.size B (bv r)) (hlen : l.length ≤ 1099511627776)  :
    Calls Tryd.prog 21 #[.slice A n c, .slice B m d] w (EqB w l r) := by
  by_cases hne : n = m
  · subst hne
    have hnb : n ≤ 1099511627776 := by omega
    have hl := Lib.hid hn
    have hr := Lib.hid hm
    clear hn hm
    go_enter Tryd.func21, Tryd.ntmps21
    go_wp2
    go_loopg [13] n (fun g i wr => ∃ k : Nat, k + g = n ∧ i = .int .i64 k ∧ Aside (l.take k = r.take k) ∧ ∃ q, wr = w.drewN q)
    case atStart => exact ⟨0, by omega, rfl, by simp [Aside], 0, rfl⟩
    case round =>
      obtain ⟨k, hk, rfl, heq, q, rfl⟩ := hrel
      by_cases hlt : k < n
      · obtain ⟨ad, rfl, hb, hcell⟩ := hS.at_ (k := k) (by rw [bv_length]; have := hl.out; have := hr.out; omega)
        obtain ⟨ad2, rfl, hb2, hcell2⟩ := hS2.at_ (k := k) (by rw [bv_length]; have := hl.out; have := hr.out; omega)
        have hstep := Lib.hid (take_step l r k (by have := hl.out; omega) (by have := hr.out; omega) heq.out)
        rw [bv_get l k (by have := hl.out; omega)] at hcell
        rw [bv_get r k (by have := hr.out; omega)] at hcell2
        generalize l[k]'(by have := hl.out; omega) = x at hcell hstep
        generalize r[k]'(by have := hr.out; omega) = y at hcell2 hstep
        clear heq
        by_cases hxy : x = y
        · subst hxy
          have hT := Lib.hid (hstep.out.1 rfl)
          clear hstep
          go_wp2
          go_quiet (fail)
          go_wp2
          go_roundg (n - (k + 1))
          case measure => omega
          case rel => exact ⟨k + 1, by omega, by go_num, hT.out, _, rfl⟩
        · have hx1 : ((x.toNat : Int) != (y.toNat : Int)) = true := by rw [bne_iff_ne]; exact fun e => hxy (UInt8.toNat_inj.1 (by omega))
          have HF : Hid ((l == r) = false) := hstep.out.2 hxy
          clear hxy hstep
          go_wp2
          go_quiet (fail)
          go_wp2
          go_ret
          unfold EqB
          rw [HF.out]
          exact ⟨rfl, _, World.drewN_drewN _ _ _⟩
      · go_wp2
        go_ret
        have h1 := hl.out; have h2 := hr.out
        have : l = r := by have := heq.out; rw [List.take_of_length_le (by omega), List.take_of_length_le (by omega)] at this; exact this
        subst this
        unfold EqB
        exact ⟨by simp, _, rfl⟩
  · have hl2 : ((n : Int) != (m : Int)) = true := by rw [bne_iff_ne]; omega
    have HF : Hid ((l == r) = false) := by
      unfold Hid
      rw [beq_eq_false_iff_ne]
      rintro rfl
      exact hne (hn.symm.trans hm)
    clear hne hn hm
    go_enter Tryd.func21, Tryd.ntmps21
    go_wp2
    go_ret
    unfold EqB
    rw [HF.out]
    exact ⟨rfl, 0, rfl⟩
end Go.Proofs.YtbnjcdjgambnhaaDoor
