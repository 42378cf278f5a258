/-
  The document's Common, Rises, Seek, Same.
-/
import Derived.Test.YtnjchdehjinooaaItCommon
namespace Go.Proofs.Ytnjchdehjinooaa
open Go.RowKit

def CommonIs (w : World) (l r : List UInt8) (e : Ending) (w' : World) : Prop := e = .returned (.int .i64 (common l r : Nat)) ∧ ∃ q, w' = w.drewN q

set_option maxRecDepth 100000 in
set_option maxHeartbeats 400000 in
theorem RefCommon_any (A B : Option Addr) (n m c d : Nat) (l r : List UInt8) (hn : l.length = n) (hm : r.length = m) (w : World) (hS : Sees w w.heap.size A (bv l)) (hS2 : Sees w w.heap.size B (bv r)) (hlen : l.length ≤ 1099511627776) (hlen2 : r.length ≤ 1099511627776) :
    Calls Try.prog 10 #[.slice A n c, .slice B m d] w (CommonIs w l r) := by
  unfold CommonIs
  have hnb : n ≤ 1099511627776 := by omega
  have hmb : m ≤ 1099511627776 := by omega
  obtain ⟨X, hX⟩ : ∃ X, common l r = X := ⟨_, rfl⟩
  have hXl := common_le l r
  rw [hX] at hXl ⊢
  have HX := Lib.hid hX
  have HL := Lib.hid hXl
  have hl := Lib.hid hn
  have hr := Lib.hid hm
  clear hn hm hX hXl hlen hlen2
  go_enter Try.func10, Try.ntmps10
  go_wp2
  go_loopg [5] n (fun g i wr => ∃ k : Nat, k + g = n ∧ k ≤ m ∧ i = .int .i64 k ∧ Hid (X = k + common (l.drop k) (r.drop k)) ∧ ∃ q, wr = w.drewN q)
  case atStart => exact ⟨0, by omega, by omega, rfl, by unfold Hid; rw [← HX.out]; simp, 0, rfl⟩
  case round =>
    obtain ⟨k, hk, hkm, rfl, heq, q, rfl⟩ := hrel
    by_cases hlt1 : k < n
    · by_cases hlt2 : k < m
      · obtain ⟨ad, rfl, hb, hcell⟩ := hS.at_ (k := k) (by rw [bv_length]; have := hl.out; have := hr.out; omega)
        obtain ⟨ad2, rfl, hb2, hcell2⟩ := hS2.at_ (k := k) (by rw [bv_length]; have := hl.out; have := hr.out; omega)
        have hstep := Lib.hid (heq.out.trans (congrArg (k + ·) (common_at (l := l) (r := r) (k := k) (by have := hl.out; omega) (by have := hr.out; omega))))
        rw [bv_get l k (by have := hl.out; omega)] at hcell
        rw [bv_get r k (by have := hr.out; omega)] at hcell2
        generalize l[k]'(by have := hl.out; omega) = x at hcell hstep
        generalize r[k]'(by have := hr.out; omega) = y at hcell2 hstep
        clear heq
        by_cases hxy : x = y
        · subst hxy
          have hT : Hid (X = (k + 1) + common (l.drop (k + 1)) (r.drop (k + 1))) := by have := hstep.out; rw [if_pos rfl] at this; unfold Hid; omega
          clear hstep
          go_wp2
          go_quiet (fail)
          go_wp2
          go_roundg (n - (k + 1))
          case measure => omega
          case rel => exact ⟨k + 1, by omega, by omega, by go_num, hT, _, rfl⟩
        · have hx1 : ((x.toNat : Int) == (y.toNat : Int)) = false := by rw [beq_eq_false_iff_ne]; exact fun e => hxy (UInt8.toNat_inj.1 (by omega))
          have HF : Hid (X = k) := by have := hstep.out; rw [if_neg hxy] at this; unfold Hid; omega
          clear hxy hstep
          go_wp2
          go_quiet (fail)
          go_wp2
          go_ret
          rw [HF.out]
          exact ⟨rfl, _, World.drewN_drewN _ _ _⟩
      · have HF : Hid (X = k) := by have := heq.out; rw [common_end (by have := hl.out; have := hr.out; omega)] at this; unfold Hid; omega
        clear heq
        go_wp2
        go_quiet (fail)
        go_wp2
        go_ret
        rw [HF.out]
        exact ⟨rfl, _, World.drewN_drewN _ _ _⟩
    · have HF : Hid (X = k) := by have := heq.out; rw [common_end (by have := hl.out; have := hr.out; omega)] at this; unfold Hid; omega
      clear heq
      go_wp2
      go_quiet (fail)
      go_wp2
      go_ret
      rw [HF.out]
      exact ⟨rfl, _, World.drewN_drewN _ _ _⟩
end Go.Proofs.Ytnjchdehjinooaa
