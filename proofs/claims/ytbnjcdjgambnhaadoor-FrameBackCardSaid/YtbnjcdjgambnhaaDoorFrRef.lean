/-
  The walks of the document's own sum and bytes.
-/
import Derived.Test.YtbnjcdjgambnhaaDoorFrSum
namespace Go.Proofs.YtbnjcdjgambnhaaDoor
open Go.RowKit

theorem bit1_odd (y : Nat) (hy : Is32 y) (h : y % 2 = 1) : bits .xor .u32 ((y : Int) / 2) 3988292384 = (bit1 y : Int) := by
  unfold bit1
  rw [if_pos h, show ((y : Int) / 2) = ((y / 2 : Nat) : Int) from by omega]
  exact u32_xor_nat (y / 2) 3988292384 (hy.div 2) (by omega)

set_option maxRecDepth 100000 in
set_option maxHeartbeats 800000 in
theorem refSum_any (A : Option Addr) (n c : Nat) (l : List UInt8) (hn : l.length = n) (w : World) (hS : Sees w w.heap.size A (bv l)) (hlen : l.length ≤ 1099511627776) :
    Calls Tryd.prog 12 #[.slice A n c] w (SumIs w (crc l)) := by
  have hnb : n ≤ 1099511627776 := by omega
  have hnH := Lib.hid hn
  clear hn hlen
  go_enter Tryd.func12, Tryd.ntmps12
  go_wp2
  go_loopg [3, 4] n (fun g r i wr => ∃ k x : Nat, k + g = n ∧ i = .int .i64 k ∧ r = .int .u32 x ∧ Aside (x = crcFrom 4294967295 (l.take k)) ∧ w = wr)
  case atStart => exact ⟨0, _, by omega, rfl, rfl, rfl, rfl⟩
  case round =>
    obtain ⟨k, x, hk, rfl, rfl, hx, rfl⟩ := hrel
    by_cases hlt : k < n
    · obtain ⟨ad, rfl, hb, hcell⟩ := hS.at_ (k := k) (by rw [bv_length]; have := hnH.out; omega)
      rw [bv_get l k (by have := hnH.out; omega)] at hcell
      have hstep := Lib.hid (crcFrom_take 4294967295 l k (by have := hnH.out; omega))
      generalize l[k]'(by have := hnH.out; omega) = cb at hcell hstep
      have hx32 : Is32 x := by rw [hx.out]; exact Is32.full.crcFrom _
      have HX : Aside (crcFrom 4294967295 (l.take (k + 1)) = bitsN 8 (x ^^^ cb.toNat)) := by rw [hx.out, ← crcByte_bitsN]; exact hstep.out
      clear hstep
      have hcb : (cb.toNat : Int) < 256 := by have := cb.toNat_lt; omega
      have e0 := byte_step x cb hx32
      have h1 := hx32.xor (Is32.byte cb)
      generalize x ^^^ cb.toNat = y at e0 h1 HX
      go_wp2
      go_loopg [3, 5, 6] 8 (fun g r i lo wr => ∃ j z : Nat, j + g = 8 ∧ i = .int .i64 j ∧ r = .int .u32 z ∧ Aside (z = bitsN j y) ∧ w = wr)
      case atStart => exact ⟨0, _, by omega, rfl, rfl, rfl, rfl⟩
      case round =>
        obtain ⟨j, z, hj, rfl, rfl, hz, rfl⟩ := hrel
        have hz32 : Is32 z := by rw [hz.out]; exact h1.bitsN j
        have hzd : (z : Int) / 2 % 4294967296 = (z : Int) / 2 := by have := hz32; unfold Is32 at this; omega
        by_cases hlt2 : j < 8
        · have HZ : Aside (bit1 z = bitsN (j + 1) y) := by rw [hz.out]; rfl
          clear hz
          by_cases hp : z % 2 = 1
          · have e1 := bit1_odd z hz32 hp
            have hpi : ((z : Int) % 2 == 1) = true := by rw [beq_iff_eq]; omega
            clear hp
            generalize bit1 z = q at e1 HZ
            go_wp2
            go_roundg (8 - (j + 1))
            case measure => omega
            case rel => exact ⟨j + 1, q, by omega, by go_num, rfl, HZ, rfl⟩
          · have hpi : ((z : Int) % 2 == 1) = false := by rw [beq_eq_false_iff_ne]; omega
            have HQ : Aside (z / 2 = bitsN (j + 1) y) := by have := HZ.out; unfold bit1 at this; rw [if_neg hp] at this; exact this
            clear hp HZ
            go_wp2
            go_roundg (8 - (j + 1))
            case measure => omega
            case rel => exact ⟨j + 1, z / 2, by omega, by go_num, by go_num, HQ, rfl⟩
        · have hj8 : j = 8 := by omega
          have HQ : Aside (z = crcFrom 4294967295 (l.take (k + 1))) := by rw [HX.out, ← hj8]; exact hz.out
          clear hz hj8
          go_wp2
          go_roundg (n - (k + 1))
          case measure => omega
          case rel => exact ⟨k + 1, z, by omega, by go_num, rfl, HQ, rfl⟩
    · have hk' : k = n := by omega
      have hx32 : Is32 x := by rw [hx.out]; exact Is32.full.crcFrom _
      have HF : Hid ((crc l : Nat) = 4294967295 - x) := by unfold Hid crc; rw [hx.out, hk', List.take_of_length_le (by rw [hnH.out]; exact Nat.le_refl _)]
      have hsg : IntKind.u32.signed = false := rfl
      have hnot := not32 x hx32
      go_wp2
      go_ret
      unfold SumIs
      rw [HF.out]
      exact ⟨rfl, rfl⟩

/-- A call that gives back bytes in new memory. -/
def NewB (w : World) (l : List UInt8) (e : Ending) (w' : World) : Prop := ∃ v', e = .returned v' ∧ OwnB w' w.heap.size v' l ∧ Below w.heap.size w w'

set_option maxRecDepth 100000 in
set_option maxHeartbeats 400000 in
theorem refBytes_any (u : Nat) (hu : Is64 u) (w : World) :
    Calls Tryd.prog 17 #[.int .u64 u] w (NewB w (venc u)) := by
  have HV := Lib.hid (venc_len hu)
  go_enter Tryd.func17, Tryd.ntmps17
  go_wp2
  go_loopg [0, 3] u (fun g n b wr => ∃ (l : List UInt8) (k : Nat), k ≤ g ∧ Is64 k ∧ n = .int .u64 k ∧ OwnB wr w.heap.size b l ∧ Hid (l ++ venc k = venc u) ∧ Onto w wr (.slice none 0 0) b)
  case atStart => exact ⟨[], u, Nat.le_refl _, hu, rfl, OwnB.nil _ _, rfl, Onto.refl _ _⟩
  case round =>
    obtain ⟨l, k, hkg, hk, rfl, hl, hcat, hon⟩ := hrel
    have hlk : l.length ≤ 1099511627776 + 10 := by
      have h1 := congrArg List.length hcat.out
      simp only [List.length_append] at h1
      have h2 := HV.out
      omega
    have hbs := hon.size
    by_cases hc : 128 ≤ k
    · have hwd : IntKind.u64.wrap ((k : Int) / 128) = (k : Int) / 128 := by rw [IntKind.wrap_u64]; have := hk; unfold Is64 at this; omega
      have e1 : IntKind.u8.wrap ((k : Int) % 128 + 128) = ((UInt8.ofNat (k % 128 + 128)).toNat : Int) := by rw [toNat_ofNat8, IntKind.wrap_u8']; omega
      go_wp2_with (at_builtin; refine wpList_append_b rfl (.tmp 6) (.tmp 11) rfl w.heap.size u3 l (by rfl) (hl.alloc _) (wr.heap.size + 1) _ 1 _ [UInt8.ofNat (k % 128 + 128)] (by rfl) rfl (sees_one _ _ _ _ (by omega)) (by simp; omega) (by simp; omega) ?_; intro v1 w1 hown1 hon1)
      go_roundg (k / 128)
      case measure => omega
      case rel => exact ⟨l ++ [UInt8.ofNat (k % 128 + 128)], k / 128, Nat.le_refl _, hk.div 128, by go_num, hown1, (by rw [venc_big hc] at hcat; have := hcat.out; show _ = _; rw [← this]; simp), hon.trans ((Onto.of_alloc _ _ _).trans hon1)⟩
    · go_wp2_with (at_builtin; refine wpList_append_b rfl (.tmp 15) (.tmp 18) rfl w.heap.size u3 l (by rfl) (hl.alloc _) (wr.heap.size + 1) _ 1 _ [UInt8.ofNat k] (by rfl) rfl (sees_one _ _ _ _ (by omega)) (by simp; omega) (by simp; omega) ?_; intro v1 w1 hown1 hon1)
      go_ret
      exact ⟨v1, rfl, by have h := hcat.out; rw [venc_small (by omega)] at h; rw [← h]; exact hown1, (hon.trans ((Onto.of_alloc _ _ _).trans hon1)).below_nil⟩
end Go.Proofs.YtbnjcdjgambnhaaDoor
