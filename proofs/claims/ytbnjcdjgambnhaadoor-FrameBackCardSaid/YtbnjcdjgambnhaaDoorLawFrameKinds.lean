/-
  The law FrameKinds, walked: frames of two kinds, or of two bodies, are other bytes.
-/
import Derived.Test.YtbnjcdjgambnhaaDoorFrAwake
import Derived.Test.YtbnjcdjgambnhaaDoorFrPlain2
namespace Go.Proofs.YtbnjcdjgambnhaaDoor
open Go.RowKit

theorem and255 (x : Int) (h1 : -9223372036854775808 ≤ x) (h2 : x ≤ 9223372036854775807) : bits .and .i64 x 255 = x % 256 := by
  have e1 : (BitVec.ofInt 64 x).toNat % 256 = (x % 256).toNat := by
    rw [BitVec.toNat_ofInt]
    omega
  have hn : (BitVec.ofInt 64 x &&& BitVec.ofInt 64 255).toNat = (x % 256).toNat := by
    rw [BitVec.toNat_and, show (BitVec.ofInt 64 255).toNat = 255 from by decide, nat_mask8]
    exact e1
  show IntKind.i64.wrap ((BitVec.ofInt 64 x &&& BitVec.ofInt 64 255).toNat : Int) = _
  rw [hn, IntKind.wrap_i64]
  omega

theorem strOf_toList (l : List UInt8) : (strOf l).toList = l := by rw [Lib.toList_data]; rfl

/-- A byte of a kind, as Make takes it. -/
def kb (x : Int) : UInt8 := UInt8.ofNat (x % 256).toNat
theorem kb_toNat (x : Int) : ((kb x).toNat : Int) = x % 256 := by unfold kb; rw [toNat_ofNat8]; omega
theorem make_kb (x : Int) (l : List UInt8) (hl : l.length ≤ 65535) : makeErr (x % 256) l.length = 0 ∧ makeB (x % 256) l = makeK (kb x) l := by
  have h : makeErr (x % 256) l.length = 0 := by unfold makeErr; rw [if_neg (by omega), if_neg (by omega)]
  refine ⟨h, ?_⟩
  unfold makeB
  rw [if_pos h]
  rfl
theorem kb_ne (x : Int) : kb x ≠ kb (x + 1) := by
  intro e
  have h1 := kb_toNat x
  have h2 := kb_toNat (x + 1)
  rw [e] at h1
  omega

theorem Make_kb (x : Int) (y : Int) (hy : y = x % 256) (A : Option Addr) (n c : Nat) (l : List UInt8) (hn : l.length = n) (w : World) (hS : Sees w w.heap.size A (bv l)) (hH : Halves w) (hlen : l.length ≤ 2000) :
    Calls Tryd.prog 9 #[.int .i64 y, .slice A n c] w (Ret2B w (makeK (kb x) l) 0) := by
  subst hy
  have h := Make_any (x % 256) A n c l hn w hS hH (by omega)
  rw [(make_kb x l (by omega)).1, (make_kb x l (by omega)).2] at h
  exact h

set_option maxRecDepth 100000 in
set_option maxHeartbeats 1600000 in
theorem FrameKinds_small (q : Bool) (kind : Int) (hk1 : -9223372036854775808 ≤ kind) (hk2 : kind ≤ 9223372036854775807) (A B : Option Addr) (n c m d : Nat) (l r : List UInt8) (hq : (l == r) = q) (hn : l.length = n) (hm : r.length = m) (hn500 : n ≤ 500) (hm500 : m ≤ 500) (w : World) (hS : Sees w w.heap.size A (bv l)) (hS2 : Sees w w.heap.size B (bv r)) (hH : Halves w) :
    Calls Tryd.prog 7 #[.int .i64 kind, .slice A n c, .slice B m d] w (IsTrue w) := by
  have hnot : ∀ (x : Bool) (w : World), (Op.unary .not (.bool x)).run Tryd.prog w = .ok (.bool (!x)) w := fun _ _ => rfl
  have HN := Lib.hid hn
  have HM := Lib.hid hm
  have ea := and255 kind hk1 hk2
  have eb : bits .and .i64 (wrap64 (kind + 1)) 255 = (kind + 1) % 256 := by
    unfold wrap64
    rw [and255 _ (by omega) (by omega)]
    omega
  obtain ⟨a, ha⟩ : ∃ a, kind % 256 = a := ⟨_, rfl⟩
  obtain ⟨b, hb⟩ : ∃ b, (kind + 1) % 256 = b := ⟨_, rfl⟩
  rw [ha] at ea
  rw [hb] at eb
  have ha0 : 0 ≤ a := by omega
  have ha1 : a ≤ 255 := by omega
  have hM1 := Lib.hid (fun (w1 : World) (hS1 : Sees w1 w1.heap.size A (bv l)) (hH1 : Halves w1) => Make_kb kind a ha.symm A n c l hn w1 hS1 hH1 (by omega))
  have hM2 := Lib.hid (fun (w1 : World) (hS1 : Sees w1 w1.heap.size B (bv r)) (hH1 : Halves w1) => Make_kb kind a ha.symm B m d r hm w1 hS1 hH1 (by omega))
  have hM3 := Lib.hid (fun (w1 : World) (hS1 : Sees w1 w1.heap.size A (bv l)) (hH1 : Halves w1) => Make_kb (kind + 1) b hb.symm A n c l hn w1 hS1 hH1 (by omega))
  obtain ⟨lv, hlv⟩ : ∃ lv, lv = (venc n).length := ⟨_, rfl⟩
  have hlv0 : lv = if n ≤ 127 then 1 else 2 := by
    rw [hlv]
    split
    · exact venc_len1 (by omega)
    · exact venc_len2 (by omega) (by omega)
  have hF1 : (makeK (kb kind) l).length = 5 + lv + n := by rw [makeK_len, hn, hlv]; omega
  have hF2 : (makeK (kb (kind + 1)) l).length = 5 + lv + n := by rw [makeK_len, hn, hlv]; omega
  have hF3 : (makeK (kb kind) l == makeK (kb kind) r) = q := by
    rw [← hq]
    rw [Bool.eq_iff_iff, beq_iff_eq, beq_iff_eq]
    exact ⟨fun e => (makeK_inj (by omega) (by omega) e).2, fun e => by rw [e]⟩
  have hF4 : (makeK (kb kind) l == makeK (kb (kind + 1)) l) = false := by
    rw [beq_eq_false_iff_ne]
    exact fun e => kb_ne kind (makeK_inj (by omega) (by omega) e).1
  have hF5 : (bv (makeK (kb kind) l))[0]? = some (.int .u8 a) := by
    rw [bv_at _ 0 (by omega)]
    have : (makeK (kb kind) l)[0]'(by omega) = kb kind := by simp [makeK, sealB]
    rw [this, kb_toNat, ha]
  generalize makeK (kb kind) l = F at hM1 hF1 hF3 hF4 hF5
  generalize makeK (kb kind) r = G at hM2 hF3
  generalize makeK (kb (kind + 1)) l = K at hM3 hF2 hF4
  have HF1 := Lib.hid hF1
  have HF2 := Lib.hid hF2
  have HF3 := Lib.hid hF3
  have HF4 := Lib.hid hF4
  have HF5 := Lib.hid hF5
  have HQ := Lib.hid hq
  have HL := Lib.hid hlv0
  clear hF1 hF2 hF3 hF4 hF5 hq hlv hlv0 hn hm ha hb hk1 hk2
  go_enter Tryd.func7, Tryd.ntmps7
  go_wp2_with fail
  refine (awake_any w hH).mono ?_
  rintro e w1 ⟨rfl, hb1⟩
  have hS1 := (hS.below hb1).more hb1.size
  have hT1 := (hS2.below hb1).more hb1.size
  have hH1 := hH.below hb1 hH.1
  go_wp2_with fail
  refine (hM1.out w1 hS1 hH1).mono ?_
  rintro e w2 ⟨v2, rfl, hown2, hb2⟩
  obtain ⟨A2, c2, rfl, hc2, -, -, hsee2⟩ := hown2.open_
  have hS2' := (hS1.below hb2).more hb2.size
  have hT2 := (hT1.below hb2).more hb2.size
  have hH2 := hH1.below hb2 hH1.1
  go_wp2_with fail
  refine (hM2.out w2 hT2 hH2).mono ?_
  rintro e w3 ⟨v3, rfl, hown3, hb3⟩
  obtain ⟨A3, c3, rfl, hc3, -, -, hsee3⟩ := hown3.open_
  have hS3 := (hS2'.below hb3).more hb3.size
  have hT3 := (hT2.below hb3).more hb3.size
  have hH3 := hH2.below hb3 hH2.1
  go_wp2_with fail
  refine (hM3.out w3 hS3 hH3).mono ?_
  rintro e w4 ⟨v4, rfl, hown4, hb4⟩
  obtain ⟨A4, c4, rfl, hc4, -, -, hsee4⟩ := hown4.open_
  have hb14 : Below w.heap.size w w4 := ((hb1.trans (hb2.mono hb1.size)).trans (hb3.mono (Nat.le_trans hb1.size hb2.size))).trans (hb4.mono (Nat.le_trans (Nat.le_trans hb1.size hb2.size) hb3.size))
  have hs2 := (hsee2.below (hb3.trans (hb4.mono hb3.size)))
  have hs3 := hsee3.below hb4
  have cvF := run_str w4 _ A2 _ c2 F hs2 rfl
  have cvG := run_str w4 _ A3 _ c3 G hs3 rfl
  have cvK := run_str w4 _ A4 _ c4 K hsee4 rfl
  have cvl := run_str w4 _ A n c l (hS3.below hb4) HN.out
  have cvr := run_str w4 _ B m d r (hT3.below hb4) HM.out
  have e1 : ((strOf F).toList == (strOf G).toList) = q := by rw [strOf_toList, strOf_toList]; exact HF3.out
  have e2 : ((strOf l).toList == (strOf r).toList) = q := by rw [strOf_toList, strOf_toList]; exact HQ.out
  have e3 : ((strOf F).toList == (strOf K).toList) = false := by rw [strOf_toList, strOf_toList]; exact HF4.out
  have e3' : ((strOf F).toList != (strOf K).toList) = true := by rw [bne, e3]; rfl
  have hlen : F.length = 5 + lv + n := HF1.out
  have hlenK : K.length = 5 + lv + n := HF2.out
  have hlv := HL.out
  have g1 : (6 : Int) ≤ (F.length : Int) := by split at hlv <;> omega
  have g2 : (F.length : Int) ≤ (K.length : Int) := by omega
  have g3 : (K.length : Int) ≤ (F.length : Int) := by omega
  obtain ⟨ad, rfl, had, hcell⟩ := hs2.at_ (k := 0) (by rw [bv_length]; omega)
  have hcell0 : w4.cell? ad = some (.int .u8 a) := by
    have h5 := HF5.out
    rw [List.getElem?_eq_getElem (by rw [bv_length]; omega)] at h5
    injection h5 with h5
    rw [h5] at hcell
    simpa [Addr.add] using hcell
  clear hcell
  by_cases h127 : n ≤ 127
  · rw [if_pos h127] at hlv
    have g4 : (F.length : Int) ≤ (n : Int) + 6 := by omega
    have g5 : (n : Int) + 6 ≤ (F.length : Int) := by omega
    clear hlen hlenK hlv
    go_wp2
    go_ret
    exact ⟨rfl, hb14⟩
  · rw [if_neg h127] at hlv
    have g4 : (F.length : Int) ≤ (n : Int) + 7 := by omega
    have g5 : (n : Int) + 7 ≤ (F.length : Int) := by omega
    have h127' : (127 : Int) < (n : Int) := by omega
    clear hlen hlenK hlv
    go_wp2
    go_ret
    exact ⟨rfl, hb14⟩

set_option maxRecDepth 100000 in
set_option maxHeartbeats 400000 in
theorem FrameKinds_any (kind : Int) (hk1 : -9223372036854775808 ≤ kind) (hk2 : kind ≤ 9223372036854775807) (A B : Option Addr) (n c m d : Nat) (l r : List UInt8) (hn : l.length = n) (hm : r.length = m) (w : World) (hS : Sees w w.heap.size A (bv l)) (hS2 : Sees w w.heap.size B (bv r)) (hH : Halves w) :
    Calls Tryd.prog 7 #[.int .i64 kind, .slice A n c, .slice B m d] w (IsTrue w) := by
  have hnot : ∀ (x : Bool) (w : World), (Op.unary .not (.bool x)).run Tryd.prog w = .ok (.bool (!x)) w := fun _ _ => rfl
  by_cases hb1 : 500 < n
  · clear hk1 hk2 hn hm
    go_enter Tryd.func7, Tryd.ntmps7
    go_wp2_with fail
    refine (awake_any w hH).mono ?_
    rintro e w1 ⟨rfl, hb1⟩
    go_wp2
    go_ret
    exact ⟨rfl, hb1⟩
  by_cases hb2 : 500 < m
  · clear hk1 hk2 hn hm
    go_enter Tryd.func7, Tryd.ntmps7
    go_wp2_with fail
    refine (awake_any w hH).mono ?_
    rintro e w1 ⟨rfl, hb1⟩
    go_wp2
    go_ret
    exact ⟨rfl, hb1⟩
  exact FrameKinds_small (l == r) kind hk1 hk2 A B n c m d l r rfl hn hm (by omega) (by omega) w hS hS2 hH
end Go.Proofs.YtbnjcdjgambnhaaDoor
