/-
  The law FrameTurned, walked: with one bit turned, or cut short, a frame is refused.
-/
import Derived.Test.YtbnjcdjgambnhaaDoorLawFrameKinds
namespace Go.Proofs.YtbnjcdjgambnhaaDoor
open Go.RowKit

theorem and65535 (x : Int) : bits .and .i64 x 65535 = x % 65536 := by
  have e1 : (BitVec.ofInt 64 x).toNat % 65536 = (x % 65536).toNat := by
    rw [BitVec.toNat_ofInt]
    omega
  have hn : (BitVec.ofInt 64 x &&& BitVec.ofInt 64 65535).toNat = (x % 65536).toNat := by
    rw [BitVec.toNat_and, show (BitVec.ofInt 64 65535).toNat = 65535 from by decide, show (65535 : Nat) = 2 ^ 16 - 1 from by omega, Nat.and_two_pow_sub_one_eq_mod]
    exact e1
  show IntKind.i64.wrap ((BitVec.ofInt 64 x &&& BitVec.ofInt 64 65535).toNat : Int) = _
  rw [hn, IntKind.wrap_i64]
  omega

theorem turn_byte (y bit : UInt8) : ∃ x : UInt8, bits .xor .u8 (y.toNat : Int) (2 ^ (bit.toNat % 8) % 256) = (x.toNat : Int) ∧ x ≠ y := by
  have hs : bit.toNat % 8 < 8 := Nat.mod_lt _ (by omega)
  generalize bit.toNat % 8 = s at hs
  have hp : 2 ^ s < 256 := Nat.lt_of_lt_of_le (Nat.pow_lt_pow_right (by omega) hs) (by omega)
  have hy := y.toNat_lt
  have hpos : 0 < 2 ^ s := Nat.pow_pos (by omega)
  have e : bits .xor .u8 (y.toNat : Int) ((2 : Int) ^ s % 256) = ((y.toNat ^^^ 2 ^ s : Nat) : Int) := by
    have h1 : ((2 : Int) ^ s % 256) = ((2 ^ s : Nat) : Int) := by
      rw [show (2 : Int) ^ s = ((2 ^ s : Nat) : Int) from by simp]
      omega
    rw [h1]
    exact u8_xor_nat _ _ (by omega) hp
  have hlt : y.toNat ^^^ 2 ^ s < 256 := Nat.xor_lt_two_pow (n := 8) (by omega) (by omega)
  refine ⟨UInt8.ofNat (y.toNat ^^^ 2 ^ s), ?_, fun h => ?_⟩
  · rw [u8_nat _ hlt]
    exact e
  · have h2 := congrArg UInt8.toNat h
    rw [u8_nat _ hlt] at h2
    have h3 := congrArg (y.toNat ^^^ ·) h2
    simp only [← Nat.xor_assoc, Nat.xor_self, Nat.zero_xor] at h3
    omega

theorem OwnB.stored {w : World} {base g n c : Nat} {l : List UInt8} (h : w.ownsRow base 5 1 (.slice (some ⟨g, 0, none⟩) n c) n (bv l)) (hn : l.length = n) (k : Nat) (x : UInt8) :
    OwnB (w.setCell ⟨g, k, none⟩ (.int .u8 (x.toNat : Int))) base (.slice (some ⟨g, 0, none⟩) n c) (l.set k x) := by
  have h2 := World.ownsRow.stored h k (.int .u8 (x.toNat : Int))
  unfold OwnB
  rw [List.length_set, hn, show bv (l.set k x) = (bv l).set k (.int .u8 (x.toNat : Int)) from by simp [bv, List.map_set]]
  exact h2.1

set_option maxRecDepth 100000 in
set_option maxHeartbeats 1600000 in
theorem FrameTurned_small (A : Option Addr) (n c : Nat) (l : List UInt8) (at' : Int) (bit : UInt8) (hn : l.length = n) (hn2000 : n ≤ 2000) (w : World) (hS : Sees w w.heap.size A (bv l)) (hH : Halves w) :
    Calls Tryd.prog 5 #[.slice A n c, .int .i64 at', .int .u8 (bit.toNat : Int)] w (IsTrue w) := by
  have hnot : ∀ (x : Bool) (w : World), (Op.unary .not (.bool x)).run Tryd.prog w = .ok (.bool (!x)) w := fun _ _ => rfl
  have HN := Lib.hid hn
  have hM1 := Lib.hid (fun (w1 : World) (hS1 : Sees w1 w1.heap.size A (bv l)) (hH1 : Halves w1) => Make_kb 7 7 (by decide) A n c l hn w1 hS1 hH1 (by omega))
  obtain ⟨lv, hlv⟩ : ∃ lv, lv = (venc n).length := ⟨_, rfl⟩
  have hlv1 : 1 ≤ lv := by rw [hlv]; exact venc_pos n
  have hlv2 : lv ≤ 10 := by rw [hlv]; exact venc_len (by unfold Is64; omega)
  have hF1 : (makeK (kb 7) l).length = 5 + lv + n := by rw [makeK_len, hn, hlv]; omega
  have hcut := Lib.hid (fun j hj => fnext_cut (kb 7) l (by omega) j hj)
  have hturn := Lib.hid (fun (j : Nat) (x : UInt8) hj hh hc => fnext_turned (kb 7) l (by omega) j x hj hh hc)
  rw [hn, ← hlv] at hturn
  generalize makeK (kb 7) l = F at hM1 hF1 hcut hturn
  have ea := and65535 at'
  obtain ⟨x, hx⟩ : ∃ x, at' % 65536 = x := ⟨_, rfl⟩
  rw [hx] at ea
  have hx0 : 0 ≤ x := by omega
  have hF0 : 1 ≤ (F.length : Int) := by omega
  obtain ⟨k, hk⟩ : ∃ k : Nat, x % (F.length : Int) = (k : Int) := ⟨(x % (F.length : Int)).toNat, by have := Int.emod_nonneg x (show (F.length : Int) ≠ 0 by omega); omega⟩
  have hkF : k < F.length := by have := Int.emod_lt_of_pos x (show (0 : Int) < (F.length : Int) by omega); omega
  have hFn1 : (n : Int) + 6 ≤ (F.length : Int) := by omega
  have hFn2 : F.length ≤ 3000 := by omega
  have HF1 := Lib.hid hF1
  clear hx hlv hn hF1
  go_enter Tryd.func5, Tryd.ntmps5
  go_wp2_with fail
  refine (awake_any w hH).mono ?_
  rintro e w1 ⟨rfl, hb1⟩
  have hS1 := (hS.below hb1).more hb1.size
  have hH1 := hH.below hb1 hH.1
  go_wp2_with fail
  refine (hM1.out w1 hS1 hH1).mono ?_
  rintro e w2 ⟨v2, rfl, hown2, hb2⟩
  obtain ⟨A2, c2, rfl, hc2, hcm2, hown2', hsee2⟩ := hown2.open_
  have hH2 := hH1.below hb2 hH1.1
  obtain ⟨g, rfl, hg1, hg2⟩ := own_at hown2' (by omega)
  clear hown2
  go_wp2_with fail
  refine (Next_any _ k c2 (F.take k) (by simp; omega) (by omega) w2 (by rw [bv_take]; exact hsee2.take k) hH2 (by omega)).mono ?_
  rw [hcut.out k hkF]
  rintro e w3 ⟨A4, n4, c4, v4, rfl, hn4, hc4, -, hown4, hb3⟩
  simp only at hn4
  obtain rfl : n4 = 0 := hn4.symm
  obtain ⟨A5, c5, rfl, -, -, -, -⟩ := hown4.open_
  clear hown4
  have hown3 := hown2'.below hb3
  have hH3 := hH2.below hb3 hH2.1
  have hb13 : Below w.heap.size w w3 := (hb1.trans (hb2.mono hb1.size)).trans (hb3.mono (Nat.le_trans hb1.size hb2.size))
  have hs1 := hb1.size
  by_cases hcase : 0 < k ∧ k < lv + 1
  · obtain ⟨hk1, hk2⟩ := hcase
    have hd1 : (k : Int) < (F.length : Int) - (n : Int) - 4 := by have := HF1.out; omega
    have hc0 := World.ownsRow.cellAt hown3 0 (by omega)
    have hf0 := World.ownsRow.frozenAt hown3 0
    have hxF : (F[0]?).isSome = true := by simp; omega
    obtain ⟨y, hy⟩ := Option.isSome_iff_exists.1 hxF
    rw [show (bv F)[0]? = some (.int .u8 (y.toNat : Int)) from by simp [bv, hy]] at hc0
    obtain ⟨z, hz, hzy⟩ := turn_byte y bit
    have HT := Lib.hid (hturn.out 0 z (by omega) (.inl rfl) (by rw [hy]; intro e; injection e with e; exact hzy e.symm))
    have hownS := OwnB.stored hown3 rfl 0 z
    have hbS : Below w.heap.size w (w3.setCell ⟨g, 0, none⟩ (.int .u8 (z.toNat : Int))) := hb13.setCell (by simp only []; omega) _
    have hHS := hH.below hbS hH.1
    clear hy hzy hxF
    go_wp2_with fail
    generalize w3.setCell ⟨g, 0, none⟩ (.int .u8 (z.toNat : Int)) = W3 at hownS hbS hHS
    have hlS : (F.set 0 z).length = F.length := by simp
    refine (Next_any _ _ c2 (F.set 0 z) hlS hc2 W3 (Sees.of_own (hlS ▸ hownS)) hHS (by omega)).mono ?_
    rw [HT.out]
    rintro e w4 ⟨A6, n6, c6, v6, rfl, hn6, hc6, -, hown6, hb4⟩
    simp only at hn6
    obtain rfl : n6 = 0 := hn6.symm
    obtain ⟨A7, c7, rfl, -, -, -, -⟩ := hown6.open_
    clear hown6
    go_wp2_with fail
    refine (Only_any _ _ c2 (F.set 0 z) 7 hlS hc2 w4 (Sees.of_own (hlS ▸ (hownS.below hb4))) (hHS.below hb4 hHS.1) (by omega)).mono ?_
    have hO : fonly (F.set 0 z) 7 = ([], 50) := by unfold fonly; rw [HT.out]; rfl
    rw [hO]
    clear hO
    rintro e w5 ⟨A8, n8, c8, rfl, hn8, -, -, hb5⟩
    go_wp2
    go_ret
    exact ⟨rfl, (hbS.trans (hb4.mono hbS.size)).trans (hb5.mono (Nat.le_trans hbS.size hb4.size))⟩
  · have hkk : k = 0 ∨ 1 + lv ≤ k := by omega
    have HK := Lib.hid hkk
    clear hkk hcase
    by_cases hk0 : 0 < k
    · have hd1 : (F.length : Int) - (n : Int) - 4 ≤ (k : Int) := by have := HF1.out; have := HK.out; omega
      have hc0 := World.ownsRow.cellAt hown3 k (by omega)
      have hf0 := World.ownsRow.frozenAt hown3 k
      have hxF : (F[k]?).isSome = true := by simp; omega
      obtain ⟨y, hy⟩ := Option.isSome_iff_exists.1 hxF
      rw [show (bv F)[k]? = some (.int .u8 (y.toNat : Int)) from by simp [bv, hy]] at hc0
      obtain ⟨z, hz, hzy⟩ := turn_byte y bit
      have HT := Lib.hid (hturn.out k z (by omega) (by have := HK.out; omega) (by rw [hy]; intro e; injection e with e; exact hzy e.symm))
      have hownS := OwnB.stored hown3 rfl k z
      have hbS : Below w.heap.size w (w3.setCell ⟨g, k, none⟩ (.int .u8 (z.toNat : Int))) := hb13.setCell (by simp only []; omega) _
      have hHS := hH.below hbS hH.1
      clear hy hzy hxF
      go_wp2_with fail
      generalize w3.setCell ⟨g, k, none⟩ (.int .u8 (z.toNat : Int)) = W3 at hownS hbS hHS
      have hlS : (F.set k z).length = F.length := by simp
      refine (Next_any _ _ c2 (F.set k z) hlS hc2 W3 (Sees.of_own (hlS ▸ hownS)) hHS (by omega)).mono ?_
      rw [HT.out]
      rintro e w4 ⟨A6, n6, c6, v6, rfl, hn6, hc6, -, hown6, hb4⟩
      simp only at hn6
      obtain rfl : n6 = 0 := hn6.symm
      obtain ⟨A7, c7, rfl, -, -, -, -⟩ := hown6.open_
      clear hown6
      go_wp2_with fail
      refine (Only_any _ _ c2 (F.set k z) 7 hlS hc2 w4 (Sees.of_own (hlS ▸ (hownS.below hb4))) (hHS.below hb4 hHS.1) (by omega)).mono ?_
      have hO : fonly (F.set k z) 7 = ([], 50) := by unfold fonly; rw [HT.out]; rfl
      rw [hO]
      clear hO
      rintro e w5 ⟨A8, n8, c8, rfl, hn8, -, -, hb5⟩
      go_wp2
      go_ret
      exact ⟨rfl, (hbS.trans (hb4.mono hbS.size)).trans (hb5.mono (Nat.le_trans hbS.size hb4.size))⟩
    · have hk1 : (k : Int) ≤ 0 := by omega
      have hc0 := World.ownsRow.cellAt hown3 k (by omega)
      have hf0 := World.ownsRow.frozenAt hown3 k
      have hxF : (F[k]?).isSome = true := by simp; omega
      obtain ⟨y, hy⟩ := Option.isSome_iff_exists.1 hxF
      rw [show (bv F)[k]? = some (.int .u8 (y.toNat : Int)) from by simp [bv, hy]] at hc0
      obtain ⟨z, hz, hzy⟩ := turn_byte y bit
      have HT := Lib.hid (hturn.out k z (by omega) (by have := HK.out; omega) (by rw [hy]; intro e; injection e with e; exact hzy e.symm))
      have hownS := OwnB.stored hown3 rfl k z
      have hbS : Below w.heap.size w (w3.setCell ⟨g, k, none⟩ (.int .u8 (z.toNat : Int))) := hb13.setCell (by simp only []; omega) _
      have hHS := hH.below hbS hH.1
      clear hy hzy hxF
      go_wp2_with fail
      generalize w3.setCell ⟨g, k, none⟩ (.int .u8 (z.toNat : Int)) = W3 at hownS hbS hHS
      have hlS : (F.set k z).length = F.length := by simp
      refine (Next_any _ _ c2 (F.set k z) hlS hc2 W3 (Sees.of_own (hlS ▸ hownS)) hHS (by omega)).mono ?_
      rw [HT.out]
      rintro e w4 ⟨A6, n6, c6, v6, rfl, hn6, hc6, -, hown6, hb4⟩
      simp only at hn6
      obtain rfl : n6 = 0 := hn6.symm
      obtain ⟨A7, c7, rfl, -, -, -, -⟩ := hown6.open_
      clear hown6
      go_wp2_with fail
      refine (Only_any _ _ c2 (F.set k z) 7 hlS hc2 w4 (Sees.of_own (hlS ▸ (hownS.below hb4))) (hHS.below hb4 hHS.1) (by omega)).mono ?_
      have hO : fonly (F.set k z) 7 = ([], 50) := by unfold fonly; rw [HT.out]; rfl
      rw [hO]
      clear hO
      rintro e w5 ⟨A8, n8, c8, rfl, hn8, -, -, hb5⟩
      go_wp2
      go_ret
      exact ⟨rfl, (hbS.trans (hb4.mono hbS.size)).trans (hb5.mono (Nat.le_trans hbS.size hb4.size))⟩

set_option maxRecDepth 100000 in
set_option maxHeartbeats 400000 in
theorem FrameTurned_any (A : Option Addr) (n c : Nat) (l : List UInt8) (at' : Int) (bit : UInt8) (hn : l.length = n) (w : World) (hS : Sees w w.heap.size A (bv l)) (hH : Halves w) :
    Calls Tryd.prog 5 #[.slice A n c, .int .i64 at', .int .u8 (bit.toNat : Int)] w (IsTrue w) := by
  have hnot : ∀ (x : Bool) (w : World), (Op.unary .not (.bool x)).run Tryd.prog w = .ok (.bool (!x)) w := fun _ _ => rfl
  by_cases hb1 : 2000 < n
  · clear hn
    go_enter Tryd.func5, Tryd.ntmps5
    go_wp2_with fail
    refine (awake_any w hH).mono ?_
    rintro e w1 ⟨rfl, hb1⟩
    go_wp2
    go_ret
    exact ⟨rfl, hb1⟩
  · exact FrameTurned_small A n c l at' bit hn (by omega) w hS hH
end Go.Proofs.YtbnjcdjgambnhaaDoor
