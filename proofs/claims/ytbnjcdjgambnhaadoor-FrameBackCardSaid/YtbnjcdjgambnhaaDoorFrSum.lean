/-
  The walks of frame.Sum and frame.seal, and of the document's own sum.
-/
import Derived.Test.YtbnjcdjgambnhaaDoorVi2
import Derived.Test.YtbnjcdjgambnhaaDoorFrPlain
import Derived.Lib.LaidTab
namespace Go.Proofs.YtbnjcdjgambnhaaDoor
open Go.RowKit

/-- The table stands in its variable. -/
def Halves (w : World) : Prop := 1 ≤ w.heap.size ∧ ∀ i, i < 16 → w.cell? ⟨0, i, none⟩ = some (.int .u32 ((ctab.getD i 0 : Nat) : Int))
theorem Halves.below {w w' : World} {B : Nat} (h : Halves w) (hb : Below B w w') (hB : 1 ≤ B) : Halves w' :=
  ⟨Nat.le_trans h.1 hb.size, fun i hi => (hb.cell (p := ⟨0, i, none⟩) (by simp; omega)).trans (h.2 i hi)⟩
theorem Halves.onto {w w' : World} {v v' : Value} (h : Halves w) (hb : Onto w w' v v') (hv : ∀ k, v.ownBlock = some k → 1 ≤ k) : Halves w' :=
  h.below (hb.below h.1 hv) (Nat.le_refl _)
theorem Halves.alloc {w : World} (h : Halves w) (o : Obj) : Halves (w.alloc o) := h.below ((Below.refl w.heap.size w).alloc (Nat.le_refl _) o) h.1

theorem nib_step (r i t : Nat) (hr : Is32 r) (hi : i = r % 16) (ht : t = ctab.getD i 0) : bits .and .u32 (r : Int) 15 = (i : Int) ∧ bits .xor .u32 ((r : Int) / 16) (t : Int) = (nib r : Int) := by
  subst hi
  subst ht
  refine ⟨?_, ?_⟩
  · have := u32_and_nat r 15 hr (by omega)
    rw [nat_mask4] at this
    exact this
  · have h := u32_xor_nat (r / 16) (ctab.getD (r % 16) 0) (hr.div 16) (ctab_lt _ (by omega))
    rw [show ((r : Int) / 16) = ((r / 16 : Nat) : Int) from by omega]
    exact h
theorem byte_step (r : Nat) (c : UInt8) (hr : Is32 r) : bits .xor .u32 (r : Int) (c.toNat : Int) = ((r ^^^ c.toNat : Nat) : Int) := u32_xor_nat r c.toNat hr (Is32.byte c)

theorem not32 (x : Nat) (hx : Is32 x) : bits .xor .u32 IntKind.u32.max (x : Int) = ((4294967295 - x : Nat) : Int) := by
  rw [show IntKind.u32.max = ((4294967295 : Nat) : Int) from by decide, u32_xor_nat _ _ (by omega) hx]
  congr 1
  apply Nat.eq_of_testBit_eq
  intro i
  have h := Nat.testBit_two_pow_sub_succ (n := 32) hx i
  rw [Nat.testBit_xor, show (4294967295 : Nat) - x = 2 ^ 32 - (x + 1) from by omega, h, show (4294967295 : Nat) = 2 ^ 32 - 1 from by omega, Nat.testBit_two_pow_sub_one]
  by_cases hi : i < 32
  · simp [hi]
  · simp [hi]
    exact Nat.testBit_lt_two_pow (Nat.lt_of_lt_of_le hx (by have := Nat.pow_le_pow_right (n := 2) (by omega) (Nat.le_of_not_lt hi); omega))

def SumIs (w : World) (s : Nat) (e : Ending) (w' : World) : Prop := e = .returned (.int .u32 (s : Int)) ∧ w = w'

set_option maxRecDepth 100000 in
set_option maxHeartbeats 400000 in
theorem Sum_any (A : Option Addr) (n c : Nat) (l : List UInt8) (hn : l.length = n) (w : World) (hS : Sees w w.heap.size A (bv l)) (hH : Halves w) (hlen : l.length ≤ 1099511627776) :
    Calls Tryd.prog 11 #[.slice A n c] w (SumIs w (crc l)) := by
  have hnb : n ≤ 1099511627776 := by omega
  have hnH := Lib.hid hn
  clear hn hlen
  go_enter Tryd.func11, Tryd.ntmps11
  go_wp2
  go_loopg [3, 8] n (fun g r i wr => ∃ k x : Nat, k + g = n ∧ i = .int .i64 k ∧ r = .int .u32 x ∧ Aside (x = crcFrom 4294967295 (l.take k)) ∧ w = wr)
  case atStart => exact ⟨0, _, by omega, rfl, rfl, rfl, rfl⟩
  case round =>
    obtain ⟨k, x, hk, rfl, rfl, hx, rfl⟩ := hrel
    by_cases hlt : k < n
    · obtain ⟨ad, rfl, hb, hcell⟩ := hS.at_ (k := k) (by rw [bv_length]; have := hnH.out; omega)
      rw [bv_get l k (by have := hnH.out; omega)] at hcell
      have hstep := Lib.hid (crcFrom_take 4294967295 l k (by have := hnH.out; omega))
      generalize l[k]'(by have := hnH.out; omega) = cb at hcell hstep
      have hx32 : Is32 x := by rw [hx.out]; exact Is32.full.crcFrom _
      have HX : Aside (crcFrom 4294967295 (l.take (k + 1)) = nib (nib (x ^^^ cb.toNat))) := by rw [hx.out]; exact hstep.out
      clear hstep
      have hcb : (cb.toNat : Int) < 256 := by have := cb.toNat_lt; omega
      have e0 := byte_step x cb hx32
      have h1 := hx32.xor (Is32.byte cb)
      generalize x ^^^ cb.toNat = y at e0 h1 HX
      obtain ⟨i1, hi1⟩ : ∃ i, i = y % 16 := ⟨_, rfl⟩
      obtain ⟨t1, ht1⟩ : ∃ t, t = ctab.getD i1 0 := ⟨_, rfl⟩
      have hc1 := hH.2 i1 (by omega)
      rw [← ht1] at hc1
      obtain ⟨e1, e2⟩ := nib_step y i1 t1 h1 hi1 ht1
      have hi1b : (i1 : Int) < 16 := by omega
      clear hi1 ht1
      have h2 := h1.nib
      generalize nib y = z at e2 h2 HX
      obtain ⟨i2, hi2⟩ : ∃ i, i = z % 16 := ⟨_, rfl⟩
      obtain ⟨t2, ht2⟩ : ∃ t, t = ctab.getD i2 0 := ⟨_, rfl⟩
      have hc2 := hH.2 i2 (by omega)
      rw [← ht2] at hc2
      obtain ⟨e3, e4⟩ := nib_step z i2 t2 h2 hi2 ht2
      have hi2b : (i2 : Int) < 16 := by omega
      clear hi2 ht2
      generalize nib z = q at e4 HX
      go_wp2
      go_roundg (n - (k + 1))
      case measure => omega
      case rel => exact ⟨k + 1, q, by omega, by go_num, rfl, HX.out.symm, rfl⟩
    · have hk' : k = n := by omega
      have hx32 : Is32 x := by rw [hx.out]; exact Is32.full.crcFrom _
      have HF : Hid ((crc l : Nat) = 4294967295 - x) := by unfold Hid crc; rw [hx.out, hk', List.take_of_length_le (by rw [hnH.out]; exact Nat.le_refl _)]
      have hsg : IntKind.u32.signed = false := rfl
      have hnot := not32 x hx32
      go_wp2
      go_ret
      unfold SumIs
      rw [HF.out]
      exact ⟨rfl, rfl⟩
end Go.Proofs.YtbnjcdjgambnhaaDoor
