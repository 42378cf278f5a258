/-
  varint.Take and varint.Put.
-/
import Derived.Test.YtnjchdehjinooaaVi
namespace Go.Proofs.Ytnjchdehjinooaa
open Go.RowKit

set_option maxRecDepth 100000 in
set_option maxHeartbeats 400000 in
theorem Take_any (A : Option Addr) (n0 c : Nat) (l : List UInt8) (hn0 : l.length = n0) (w : World) (hS : Sees w w.heap.size A (bv l)) (hlen : l.length ≤ 1099511627776) (hc : l.length ≤ c) :
    Calls Try.prog 22 #[.slice A n0 c] w (Ret1B w ((vtake l).1 : Nat) .u64 (if (vtake l).2.2 = 0 then l.drop (vtake l).2.1 else []) ((vtake l).2.2 : Nat)) := by
  subst hn0
  have hle := vtake_le l
  have hcH := Lib.hid hc
  have herr := vtake_err l
  have HT := Lib.hid (take_any A c l w hS hlen)
  generalize hU : vtake l = U at hle herr HT ⊢
  clear hU
  obtain ⟨x, n, e⟩ := U
  simp only at hle herr HT ⊢
  by_cases he : e = 0
  · subst he
    clear herr
    go_enter Try.func22, Try.ntmps22
    go_wp2_with fail
    refine HT.out.mono ?_
    rintro e w' ⟨rfl, rfl⟩
    go_wp2_with fail
    all_goals
      refine (clone_any _ _ _ (l.drop n) (by simp) _ (by rw [bv_drop]; first | exact hS.cut' n | exact Sees.cut0 _ _ _ (by rw [bv_length]; have := hcH.out; omega)) (by simp; omega)).mono ?_
      rintro e w' ⟨v1, rfl, hown, hon⟩
      go_wp2_with fail
      go_ret3
      exact ⟨_, rfl, hown, hon.below_nil⟩
  · obtain ⟨rfl, rfl⟩ := herr he
    have he0 : ((e : Int) != 0) = true := by rw [bne_iff_ne]; omega
    rw [if_neg he]
    clear he herr
    go_enter Try.func22, Try.ntmps22
    go_wp2_with fail
    refine HT.out.mono ?_
    rintro e w' ⟨rfl, rfl⟩
    go_wp2_with fail
    go_ret3
    exact ⟨_, rfl, OwnB.nil _ _, Below.refl _ _⟩

set_option maxRecDepth 100000 in
set_option maxHeartbeats 400000 in
theorem Put_any (A : Option Addr) (n c : Nat) (l : List UInt8) (hn : l.length = n) (u : Nat) (hu : Is64 u) (w : World) (hS : Sees w w.heap.size A (bv l)) (hlen : l.length ≤ 1099511627776) :
    Calls Try.prog 25 #[.slice A n c, .int .u64 u] w (RetB w w.heap.size (.slice none 0 0) (l ++ venc u)) := by
  go_enter Try.func25, Try.ntmps25
  go_wp2_with fail
  refine (clone_any A n c l hn _ hS hlen).mono ?_
  rintro e w1 ⟨v1, rfl, hown, hon⟩
  go_wp2_with fail
  refine (put_any w.heap.size v1 l u hu w1 hown hon.size hlen).mono ?_
  rintro e w2 ⟨v2, rfl, hown2, hon2⟩
  go_wp2_with fail
  go_ret
  exact ⟨v2, rfl, hown2, hon.trans hon2⟩

theorem bv_get (l : List UInt8) (k : Nat) (h : k < l.length) : (bv l)[k]'(by rw [bv_length]; exact h) = .int .u8 ((l[k]).toNat : Int) := by simp [bv]
end Go.Proofs.Ytnjchdehjinooaa
