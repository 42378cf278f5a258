/-
  The document's number of four bytes, and the label that bytes begin with, walked.
-/
import Derived.Test.YtpjiioeodcinpaaGreatDoorRwClos
import Derived.Test.YtpjiioeodcinpaaGreatDoorRwPst
import Derived.Test.YtpjiioeodcinpaaGreatDoorLbD
namespace Go.Proofs.YtpjiioeodcinpaaGreatDoor
open Go.RowKit

theorem ret_i64 {a b : Int} (h : a = b) : Ending.returned (.int .i64 a) = .returned (.int .i64 b) := by rw [h]
def NumR (w : World) (l : List UInt8) (e : Ending) (w' : World) : Prop := e = .returned (.int .i64 (num l : Nat)) ∧ ∃ q, w' = w.drewN q
set_option maxRecDepth 100000 in
set_option maxHeartbeats 800000 in
theorem RefNumber_any (A : Option Addr) (n c : Nat) (l : List UInt8) (hn : l.length = n) (W : World) (hS : Sees W W.heap.size A (bv l)) (h4 : 4 ≤ n) :
    Calls Tryz.prog 37 #[.slice A n c] W (NumR W l) := by
  have b0 : 0 < l.length := by omega
  have b1 : 1 < l.length := by omega
  have b2 : 2 < l.length := by omega
  have b3 : 3 < l.length := by omega
  obtain ⟨ad, rfl, hadB, hcell⟩ : ∃ ad : Addr, A = some ad ∧ ad.block < W.heap.size ∧ ∀ j u, (bv l)[j]? = some u → W.cell? (ad.add j) = some u := by
    rcases hS.out with h | h
    · have := congrArg List.length h; rw [bv_length, List.length_nil] at this; omega
    · exact h
  have q0 : W.cell? ad = _ := hcell 0 _ (bv_at l 0 b0)
  have q1 := hcell 1 _ (bv_at l 1 b1)
  have q2 := hcell 2 _ (bv_at l 2 b2)
  have q3 := hcell 3 _ (bv_at l 3 b3)
  have hE := num_four' b0 b1 b2 b3
  have y0 := l[0].toNat_lt
  have y1 := l[1].toNat_lt
  have y2 := l[2].toNat_lt
  have y3 := l[3].toNat_lt
  generalize l[0].toNat = z0 at q0 hE y0
  generalize l[1].toNat = z1 at q1 hE y1
  generalize l[2].toNat = z2 at q2 hE y2
  generalize l[3].toNat = z3 at q3 hE y3
  have HE := Lib.hid hE
  have i0 : 0 < n := by omega
  have i1 : (1 : Int) < (n : Int) := by omega
  have i2 : (2 : Int) < (n : Int) := by omega
  have i3 : (3 : Int) < (n : Int) := by omega
  have q1' : W.cell? ⟨ad.block, ad.off + 1, none⟩ = some (.int .u8 (z1 : Int)) := by have h := q1; unfold Addr.add at h; rw [if_neg (by omega)] at h; exact h
  have q2' : W.cell? ⟨ad.block, ad.off + 2, none⟩ = some (.int .u8 (z2 : Int)) := by have h := q2; unfold Addr.add at h; rw [if_neg (by omega)] at h; exact h
  have q3' : W.cell? ⟨ad.block, ad.off + 3, none⟩ = some (.int .u8 (z3 : Int)) := by have h := q3; unfold Addr.add at h; rw [if_neg (by omega)] at h; exact h
  clear hE hn hcell b0 b1 b2 b3 q1 q2 q3
  go_enter Tryz.func37, Tryz.ntmps37
  go_wp2_with fail
  go_quiet (fail)
  go_wp2_with fail
  go_ret
  refine ⟨ret_i64 ?_, nq, rfl⟩
  rw [HE.out]
  omega

/-- one: a label that bytes begin with. -/
def OneOut (w : World) (l : List UInt8) (e : Ending) (w' : World) : Prop :=
  ∃ (s1 s2 : ByteArray) (ok : Bool), e = .returned (.tuple #[.agg #[.string s1, .string s2], .bool ok]) ∧ Below w.heap.size w w' ∧ s1.size ≤ l.length ∧
    (((cutR l).2.2 = 0 ∧ s1 = strOf (cutR l).1 ∧ s2 = strOf (cutR (left l)).1 ∧ ok = decide ((cutR (left l)).2.2 = 0)) ∨ ((cutR l).2.2 ≠ 0 ∧ ok = false))

set_option maxRecDepth 100000 in
set_option maxHeartbeats 1600000 in
theorem RefOne_any (A : Option Addr) (n c : Nat) (l : List UInt8) (hn : l.length = n) (hnc : n ≤ c) (w : World) (hS : Sees w w.heap.size A (bv l)) (hlen : n ≤ 1000000) :
    Calls Tryz.prog 39 #[.slice A n c] w (OneOut w l) := by
  obtain ⟨W1, hW1⟩ : ∃ W1, w.alloc (.cells #[.string ⟨#[]⟩, .string ⟨#[]⟩] 24) = W1 := ⟨_, rfl⟩
  obtain ⟨W2, hW2⟩ : ∃ W2, W1.alloc (.cells #[.string ⟨#[]⟩, .string ⟨#[]⟩] 24) = W2 := ⟨_, rfl⟩
  have hb1 : Below w.heap.size w W1 := hW1 ▸ KI_new w _
  have hb2 : Below W1.heap.size W1 W2 := hW2 ▸ KI_new W1 _
  have hs1 : w.heap.size < W1.heap.size := by rw [← hW1]; simp
  have hs2 : W1.heap.size < W2.heap.size := by rw [← hW2]; simp
  have hb02 := hb1.trans (hb2.mono hb1.size)
  have T1 : TwoAt W2 w.heap.size (.string ⟨#[]⟩) (.string ⟨#[]⟩) := (hW1 ▸ TwoAt.new w _ _ _ : TwoAt W1 w.heap.size _ _).below hb2 hs1
  have T2 : TwoAt W2 W1.heap.size (.string ⟨#[]⟩) (.string ⟨#[]⟩) := hW2 ▸ TwoAt.new W1 _ _ _
  have hC := Lib.hid (RefCut_any A n c l hn W2 ((hS.below hb02).more hb02.size) (by omega))
  have hok := fun h => cutR_ok (b := l) h
  have hsz := cut_text_len l
  have hleft : (cutR l).2.2 = 0 → left l = l.drop (cutR l).2.1 := fun h => by unfold left; rw [if_pos h]
  obtain ⟨t, q, er, hcr⟩ : ∃ t q er, cutR l = (t, q, er) := ⟨_, _, _, rfl⟩
  rw [hcr] at hC hok hsz hleft
  simp only at hok hsz hleft
  have HCR := Lib.hid hcr
  have HT1 := Lib.hid T1
  have HT2 := Lib.hid T2
  have HN := Lib.hid hn
  have HSZ := Lib.hid hsz
  clear hcr hn T1 T2 hsz hb1 hb2
  unfold CutIs at hC
  simp only at hC
  by_cases he : er = 0
  · subst he
    have hok' := hok rfl
    have hqn : q ≤ n := by have := HN.out; omega
    have hl2 := hleft rfl
    obtain ⟨Ad, hAd⟩ : ∃ Ad, (if c = q then A else A.map (fun x => x.add q)) = Ad := ⟨_, rfl⟩
    obtain ⟨m, hm⟩ : ∃ m, n - q = m := ⟨_, rfl⟩
    obtain ⟨c2, hc2⟩ : ∃ c2, c - q = c2 := ⟨_, rfl⟩
    have hSd : SeesM (fun k => k < w.heap.size) w Ad (bv (l.drop q)) := by
      have h1 := seesM_cut hS.toM (q := q) (cap := c) (by rw [bv_length]; have := HN.out; omega)
      rw [hAd, ← bv_drop] at h1
      exact h1
    have HSD := Lib.hid hSd
    have hml : (l.drop q).length = m := by rw [List.length_drop, HN.out]; exact hm
    have HML := Lib.hid hml
    obtain ⟨t2, q2, e2, hcr2⟩ : ∃ t2 q2 e2, cutR (l.drop q) = (t2, q2, e2) := ⟨_, _, _, rfl⟩
    have HCR2 := Lib.hid hcr2
    have HL2 := Lib.hid hl2
    clear hok hok' hleft hSd hml hcr2 hl2
    go_enter Tryz.func39, Tryz.ntmps39
    go_wp2_with fail
    refine hC.out.mono ?_
    rintro en w3 ⟨rfl, hb3⟩
    have hb03 := hb02.trans (hb3.mono hb02.size)
    have hC2 := Lib.hid (RefCut_any Ad m c2 (l.drop q) HML.out w3 (((HSD.out.sees fun k hk => hk).below hb03).more hb03.size) (by omega))
    rw [HCR2.out] at hC2
    unfold CutIs at hC2
    simp only at hC2
    clear hC
    have T1' := HT1.out.below hb3 (by omega)
    have T2' := HT2.out.below hb3 hs2
    have hs3 := hb3.size
    have H1' := Lib.hid T1'
    have H2' := Lib.hid T2'
    clear T1' T2'
    go_wp2_with fail
    refine hC2.out.mono ?_
    rintro en w4 ⟨rfl, hb4⟩
    have hs4 := hb4.size
    have U1 := H1'.out.below hb4 (by omega)
    have U2 := H2'.out.below hb4 (by omega)
    have hb04 := hb03.trans (hb4.mono hb03.size)
    obtain ⟨V1, hV1⟩ : ∃ V1, w4.setCell ⟨W1.heap.size, 0, none⟩ (.string (strOf t)) = V1 := ⟨_, rfl⟩
    obtain ⟨V2, hV2⟩ : ∃ V2, V1.setCell ⟨W1.heap.size, 1, none⟩ (.string (strOf t2)) = V2 := ⟨_, rfl⟩
    have X1 : TwoAt V1 W1.heap.size (.string (strOf t)) (.string ⟨#[]⟩) := hV1 ▸ U2.set0 _
    have X2 : TwoAt V2 W1.heap.size (.string (strOf t)) (.string (strOf t2)) := hV2 ▸ X1.set1 _
    have Y1 : TwoAt V2 w.heap.size (.string ⟨#[]⟩) (.string ⟨#[]⟩) := by
      obtain ⟨a0, a1, a2, a3⟩ := U1
      have hne : W1.heap.size ≠ w.heap.size := by omega
      rw [← hV2, ← hV1]
      constructor <;> simp [go_sem, a0, a1, a2, a3, hne, Ne.symm hne]
    obtain ⟨Z1, hZ1⟩ : ∃ Z1, V2.setCell ⟨w.heap.size, 0, none⟩ (.string (strOf t)) = Z1 := ⟨_, rfl⟩
    obtain ⟨Z2, hZ2⟩ : ∃ Z2, Z1.setCell ⟨w.heap.size, 1, none⟩ (.string (strOf t2)) = Z2 := ⟨_, rfl⟩
    have Q1 : TwoAt Z1 w.heap.size (.string (strOf t)) (.string ⟨#[]⟩) := hZ1 ▸ Y1.set0 _
    have Q2 : TwoAt Z2 w.heap.size (.string (strOf t)) (.string (strOf t2)) := hZ2 ▸ Q1.set1 _
    have hbZ : Below w.heap.size w Z2 := by
      rw [← hZ2, ← hZ1, ← hV2, ← hV1]
      exact (((hb04.setCell (by show _ ≤ W1.heap.size; omega) _).setCell (by show _ ≤ W1.heap.size; omega) _).setCell (Nat.le_refl _) _).setCell (Nat.le_refl _) _
    have HQ2 := Lib.hid Q2
    have HBZ := Lib.hid hbZ
    obtain ⟨a0, a1, a2, a3⟩ := U2
    obtain ⟨b0, b1, b2, b3⟩ := X1
    obtain ⟨d0, d1, d2, d3⟩ := X2
    obtain ⟨f0, f1, f2, f3⟩ := Y1
    obtain ⟨g0, g1, g2, g3⟩ := Q1
    clear U1 Q2 hbZ hC2 hW1 hW2
    have hez : ((e2 : Int) == 0) = decide (e2 = 0) := by
      by_cases h : e2 = 0
      · subst h; rfl
      · rw [decide_eq_false h, beq_eq_false_iff_ne]; omega
    go_wp2_with fail
    obtain ⟨z0, z1, -⟩ := HQ2.out
    refine bodyPost_ret (v := .tuple #[.agg #[.string (strOf t), .string (strOf t2)], .bool (decide (e2 = 0))]) (by simp [results, Tryz.results39, go_sem, z0, z1]) rfl ?_
    exact ⟨_, _, _, rfl, HBZ.out, HSZ.out, .inl ⟨by rw [HCR.out], by rw [HCR.out], by rw [HL2.out, HCR2.out], by rw [HL2.out, HCR2.out]⟩⟩
  · have hei : ((er : Int) != 0) = true := by rw [bne_iff_ne]; omega
    have HE := Lib.hid he
    clear hok hleft he
    go_enter Tryz.func39, Tryz.ntmps39
    go_wp2_with fail
    refine hC.out.mono ?_
    rintro en w3 ⟨rfl, hb3⟩
    have hb03 := hb02.trans (hb3.mono hb02.size)
    have U1 := HT1.out.below hb3 (by omega)
    have U2 := HT2.out.below hb3 hs2
    obtain ⟨Z1, hZ1⟩ : ∃ Z1, w3.setCell ⟨w.heap.size, 0, none⟩ (.string ⟨#[]⟩) = Z1 := ⟨_, rfl⟩
    obtain ⟨Z2, hZ2⟩ : ∃ Z2, Z1.setCell ⟨w.heap.size, 1, none⟩ (.string ⟨#[]⟩) = Z2 := ⟨_, rfl⟩
    have Q1 : TwoAt Z1 w.heap.size (.string ⟨#[]⟩) (.string ⟨#[]⟩) := hZ1 ▸ U1.set0 _
    have Q2 : TwoAt Z2 w.heap.size (.string ⟨#[]⟩) (.string ⟨#[]⟩) := hZ2 ▸ Q1.set1 _
    have hbZ : Below w.heap.size w Z2 := by
      rw [← hZ2, ← hZ1]
      exact (hb03.setCell (Nat.le_refl _) _).setCell (Nat.le_refl _) _
    have HQ2 := Lib.hid Q2
    have HBZ := Lib.hid hbZ
    obtain ⟨a0, a1, a2, a3⟩ := U2
    obtain ⟨f0, f1, f2, f3⟩ := U1
    obtain ⟨g0, g1, g2, g3⟩ := Q1
    clear Q2 hbZ hC hW1 hW2
    go_wp2_with fail
    obtain ⟨z0, z1, -⟩ := HQ2.out
    refine bodyPost_ret (v := .tuple #[.agg #[.string ⟨#[]⟩, .string ⟨#[]⟩], .bool false]) (by simp [results, Tryz.results39, go_sem, z0, z1]) rfl ?_
    exact ⟨_, _, _, rfl, HBZ.out, Nat.zero_le _, .inr ⟨by rw [HCR.out]; exact HE.out, rfl⟩⟩
end Go.Proofs.YtpjiioeodcinpaaGreatDoor
