/-
  The law LabelsOrders, walked.
-/
import Derived.Test.YtbgnmojdkhlbaaaDoorLbOrder
namespace Go.Proofs.YtbgnmojdkhlbaaaDoor
open Go.RowKit

theorem first_cells {w : World} {B : Nat} {A : Option Addr} {ls : List Lb} (h : Sees w B A (lv ls)) (hl : 0 < ls.length) : ∃ (ad : Addr) (x : Lb) (t : List Lb), A = some ad ∧ ls = x :: t ∧ w.cell? ⟨ad.block, ad.off + 1, none⟩ = some (.string x.2) ∧ ad.block < B := by
  cases ls with
  | nil => simp at hl
  | cons x t =>
    obtain ⟨ad, e, hb, -, h1⟩ := h.lb (k := 0) (by simp)
    refine ⟨ad, x, t, e, rfl, ?_, hb⟩
    rw [Nat.zero_mul] at h1
    have : ad.add 0 = ad := by unfold Addr.add; simp
    rw [this] at h1
    simpa using h1
theorem str_add (a b : List UInt8) : strOf a ++ strOf b = strOf (a ++ b) := by
  apply ByteArray.ext
  apply Array.toList_inj.1
  show (strOf a ++ strOf b).data.toList = (a ++ b).toArray.toList
  simp [strOf]

set_option maxRecDepth 100000 in
set_option maxHeartbeats 3200000 in
theorem LabelsOrders_any (A A' B : Option Addr) (n c m c' p d : Nat) (a b : List Lb) (r : List UInt8) (hn : a.length = n) (hm : b.length = m) (hr : r.length = p) (w : World) (hS : Sees w w.heap.size A (lv a)) (hT : Sees w w.heap.size A' (lv b)) (hU : Sees w w.heap.size B (bv r)) :
    Calls Tryd.prog 6 #[.slice A n c, .slice A' m c', .slice B p d] w (Gives w (.bool true)) := by
  have hA := Lib.hid (awake_any w)
  have HN := Lib.hid hn
  have HM := Lib.hid hm
  have HR := Lib.hid hr
  clear hn hm hr
  go_enter Tryd.func6, Tryd.ntmps6
  go_wp2_with fail
  refine hA.out.mono ?_
  rintro en w1 ⟨rfl, hb1⟩
  have hs1 := hb1.size
  have hS1 := (hS.below hb1).more hs1
  have hT1 := (hT.below hb1).more hs1
  have hU1 := (hU.below hb1).more hs1
  have hF := Lib.hid (few_any A n c a HN.out w1 hS1)
  have hF2 := Lib.hid (few_any A' m c' b HM.out w1 hT1)
  clear hA
  go_wp2_with fail
  refine hF.out.mono ?_
  rintro en w1' ⟨bf, hfew, rfl, rfl⟩
  clear hF
  go_wp2_with fail
  refine hF2.out.mono ?_
  rintro en w1' ⟨bf2, hfew2, rfl, rfl⟩
  clear hF2
  cases bf with
  | false =>
    cases bf2 <;>
    · go_wp2
      go_ret
      exact ⟨rfl, hb1⟩
  | true =>
  cases bf2 with
  | false =>
    go_wp2
    go_ret
    exact ⟨rfl, hb1⟩
  | true =>
  by_cases hp : p ≤ 50
  rotate_left
  · have hp' : (50 : Int) < (p : Int) := by omega
    go_wp2
    go_ret
    exact ⟨rfl, hb1⟩
  have hp' : (p : Int) ≤ 50 := by omega
  have HFA := Lib.hid (hfew rfl)
  have HFB := Lib.hid (hfew2 rfl)
  have hl1 : n ≤ 1099511627776 := by have := HFA.out.len; have := HN.out; omega
  have hl2 : m ≤ 1099511627776 := by have := HFB.out.len; have := HM.out; omega
  clear hfew hfew2
  have hz1 : Hid (∀ x ∈ a, x.1.size ≤ 9223372036854775807) := fun x hx => by have := (HFA.out.all x hx).1; omega
  have hz2 : Hid (∀ x ∈ b, x.1.size ≤ 9223372036854775807) := fun x hx => by have := (HFB.out.all x hx).1; omega
  have hM1 := Lib.hid (Marshal_any A n c a HN.out w1 hS1 hl1 hz1.out)
  go_wp2_with fail
  refine hM1.out.mono ?_
  rintro en w2 ⟨v2, k2, rfl, hb2, hres2⟩
  clear hM1
  have hs2 := hb2.size
  have hT2 := (hT1.below hb2).more hs2
  have hM2 := Lib.hid (Marshal_any A' m c' b HM.out w2 hT2 hl2 hz2.out)
  go_wp2_with fail
  refine hM2.out.mono ?_
  rintro en w3 ⟨v3, k3, rfl, hb3, hres3⟩
  clear hM2
  have hs3 := hb3.size
  have hb13 : Below w1.heap.size w1 w3 := hb2.trans (hb3.mono hs2)
  have hs13 := hb13.size
  go_upto_region 10 with fail
  go_cut [54] (fun t wx => ∃ bo, t = .bool bo ∧ wx = w3 ∧ (bo = true → k2 = 0 ∧ k3 = 0))
  case first =>
    have g2 : k2 = 0 ∨ k2 = 70 := by rcases hres2 with ⟨-, e, -⟩ | ⟨-, e, -⟩ <;> omega
    have g3 : k3 = 0 ∨ k3 = 70 := by rcases hres3 with ⟨-, e, -⟩ | ⟨-, e, -⟩ <;> omega
    clear hres2 hres3
    rcases g2 with rfl | rfl
    · rcases g3 with rfl | rfl
      · go_wp2_with fail
        go_meet
        exact ⟨true, rfl, rfl, fun _ => by simp⟩
      · go_wp2_with fail
        go_meet
        exact ⟨false, rfl, rfl, fun h => absurd h (by simp)⟩
    · go_wp2_with fail
      go_meet
      exact ⟨false, rfl, rfl, fun h => absurd h (by simp)⟩
  case rest =>
  obtain ⟨bo, rfl, hwc, hbo⟩ := hcut
  obtain rfl : w3 = wc := hwc.symm
  clear hwc
  go_upto_if 54 with fail
  go_cut [14] (fun t wx => Below w1.heap.size w1 wx)
  case first =>
    cases bo with
    | false =>
      go_wp2_with fail
      go_meet
      exact hb13
    | true =>
    obtain ⟨rfl, rfl⟩ := hbo rfl
    rcases hres2 with ⟨hma, -, hown2⟩ | ⟨-, e, -⟩
    rotate_left
    · omega
    rcases hres3 with ⟨hmb, -, hown3⟩ | ⟨-, e, -⟩
    rotate_left
    · omega
    have hS3 := (hS1.below hb13).more hs13
    have hT3 := (hT1.below hb13).more hs13
    have hC := Lib.hid (Canon_any A n c a HN.out w3 hS3 hl1 hz1.out)
    have HMA := Lib.hid hma
    have HMB := Lib.hid hmb
    have hxl := Lib.hid (sortN_length a)
    have hyl := Lib.hid (sortN_length b)
    obtain ⟨x, hx⟩ : ∃ x, sortN a = x := ⟨_, rfl⟩
    obtain ⟨y, hy⟩ : ∃ y, sortN b = y := ⟨_, rfl⟩
    obtain ⟨P, hP⟩ : ∃ P, marsh x = P := ⟨_, rfl⟩
    obtain ⟨Q, hQ⟩ : ∃ Q, marsh y = Q := ⟨_, rfl⟩
    rw [hx] at hxl
    rw [hy] at hyl
    have HX := Lib.hid hx
    have HY := Lib.hid hy
    rw [hx, hP] at hown2
    rw [hy, hQ] at hown3
    obtain ⟨Z, hZ⟩ : ∃ Z, cmpLs x y = Z := ⟨_, rfl⟩
    have hrng := cmpLs_rng x y
    have hless := marsh_less x y
    have hsame := marsh_same x y
    rw [hP, hQ, hZ] at hless hsame
    rw [hZ] at hrng
    have HZ := Lib.hid hZ
    clear hma hmb hx hy hP hQ hZ
    go_wp2_with fail
    refine hC.out.mono ?_
    rintro en w4 ⟨v4, k4, rfl, hb4, hres4⟩
    clear hC
    rcases hres4 with ⟨-, rfl, hown4⟩ | ⟨hno, -, -⟩
    rotate_left
    · exact absurd HMA.out hno
    have hs4 := hb4.size
    have hT4 := (hT3.below hb4).more hs4
    have hC2 := Lib.hid (Canon_any A' m c' b HM.out w4 hT4 hl2 hz2.out)
    go_wp2_with fail
    refine hC2.out.mono ?_
    rintro en w5 ⟨v5, k5, rfl, hb5, hres5⟩
    clear hC2
    rcases hres5 with ⟨-, rfl, hown5⟩ | ⟨hno, -, -⟩
    rotate_left
    · exact absurd HMB.out hno
    rw [HX.out] at hown4
    rw [HY.out] at hown5
    have hs5 := hb5.size
    obtain ⟨A4, c4, rfl, -, -, hs4'⟩ := hown4.open_
    obtain ⟨A5, c5, rfl, -, -, hs5'⟩ := hown5.open_
    have hD := Lib.hid (LCompare_any A4 A5 x.length c4 y.length c5 x y rfl rfl w5 ((hs4'.below hb5).more hs5) hs5' (by rw [hxl.out, HN.out]; exact hl1) (by rw [hyl.out, HM.out]; exact hl2))
    rw [HZ.out] at hD
    go_wp2_with fail
    refine hD.out.mono ?_
    rintro en w6 ⟨rfl, hb6⟩
    clear hD
    have hs6 := hb6.size
    obtain ⟨AP, cP, rfl, -, -, -, hsP⟩ := hown2.open_
    obtain ⟨AQ, cQ, rfl, -, -, -, hsQ⟩ := hown3.open_
    have hb36 : Below w3.heap.size w3 w6 := hb4.trans ((hb5.mono hs4).trans (hb6.mono (by omega)))
    have cv1 := run_str w6 _ AP P.length cP P ((hsP.below hb3).below (hb36.mono hs3)) rfl
    have cv2 := run_str w6 _ AQ Q.length cQ Q (hsQ.below hb36) rfl
    have hless' : Op.bytesLess (strOf P).toList (strOf Q).toList = decide (Z < 0) := by rw [strOf_toList, strOf_toList]; exact hless
    have hsame' : ((strOf P).toList == (strOf Q).toList) = decide (Z = 0) := by rw [strOf_toList, strOf_toList]; exact hsame
    clear hless hsame
    generalize strOf P = sP at cv1 hless' hsame'
    generalize strOf Q = sQ at cv2 hless' hsame'
    have hZ3 : Z = -1 ∨ Z = 0 ∨ Z = 1 := by omega
    clear hrng HZ
    rcases hZ3 with rfl | rfl | rfl
    all_goals
      simp only [show decide ((-1 : Int) < 0) = true from rfl, show decide ((-1 : Int) = 0) = false from rfl, show decide ((0 : Int) < 0) = false from rfl, show decide ((0 : Int) = 0) = true from rfl, show decide ((1 : Int) < 0) = false from rfl, show decide ((1 : Int) = 0) = false from rfl] at hless' hsame'
      go_wp2_with fail
      go_meet
      exact hb13.trans (hb36.mono hs13)
  case rest =>
    have hsc := hcut.size
    have hSc := (hS1.below hcut).more hsc
    have hTc := (hT1.below hcut).more hsc
    have hUc := (hU1.below hcut).more hsc
    clear hres2 hres3 hb2 hb3 hbo hs2 hs3 hT2 hb13 hs13
    by_cases hn0 : n = 0
    · have e : ((n : Int) == 0) = true := by simp [hn0]
      clear hn0
      go_wp2_with fail
      go_quiet (fail)
      go_wp2
      go_ret
      exact ⟨rfl, hb1.trans ((below_d hcut nq).mono hs1)⟩
    have en : ((n : Int) == 0) = false := by rw [beq_eq_false_iff_ne]; omega
    by_cases hm0 : m = 0
    · have e : ((m : Int) == 0) = true := by simp [hm0]
      clear hm0
      go_wp2_with fail
      go_quiet (fail)
      go_wp2
      go_ret
      exact ⟨rfl, hb1.trans ((below_d hcut nq).mono hs1)⟩
    have em : ((m : Int) == 0) = false := by rw [beq_eq_false_iff_ne]; omega
    have in0 : (0 : Int) < (n : Int) := by omega
    have im0 : (0 : Int) < (m : Int) := by omega
    obtain ⟨ad, x, ta, rfl, ha, hcx, hadB⟩ := first_cells hSc (by have := HN.out; omega)
    obtain ⟨ad', y, tb, rfl, hb, hcy, hadB'⟩ := first_cells hTc (by have := HM.out; omega)
    have hx50 := (HFA.out.all x (by rw [ha]; simp)).2
    have hy50 := (HFB.out.all y (by rw [hb]; simp)).2
    obtain ⟨x1, sx⟩ := x
    obtain ⟨y1, sy⟩ := y
    clear ha hb hn0 hm0
    simp only at hcx hcy hx50 hy50
    by_cases hxy : sx = sy
    · subst hxy
      have e : (sx.toList == sx.toList) = true := by simp
      go_wp2_with fail
      go_quiet (fail)
      go_wp2
      go_ret
      exact ⟨rfl, hb1.trans ((below_d hcut nq).mono hs1)⟩
    have exy : (sx.toList == sy.toList) = false := by rw [beq_eq_false_iff_ne]; exact fun e => hxy (bytes_same e)
    go_wp2_with fail
    go_quiet (fail)
    obtain ⟨X, hX⟩ : ∃ X, esc sx.data.toList = X := ⟨_, rfl⟩
    obtain ⟨Y, hY⟩ : ∃ Y, esc sy.data.toList = Y := ⟨_, rfl⟩
    have hord : Op.bytesLess (X ++ r) Y = Op.bytesLess sx.toList sy.toList := by
      have := esc_less sx.data.toList sy.data.toList r [] (fun e => hxy (bytesB_eq.1 e))
      rw [List.append_nil, hX, hY, ← Lib.toList_data, ← Lib.toList_data] at this
      exact this
    have hord' : Op.bytesLess (strOf X ++ strOf r).toList (strOf Y).toList = Op.bytesLess sx.toList sy.toList := by rw [str_add, strOf_toList, strOf_toList]; exact hord
    have hbd := below_d hcut nq
    have hUd := hUc.drewN nq
    have hcx' : (wc.drewN nq).cell? ⟨ad.block, ad.off + 1, none⟩ = some (.string sx) := hcx
    have hcy' : (wc.drewN nq).cell? ⟨ad'.block, ad'.off + 1, none⟩ = some (.string sy) := hcy
    have hsd : wc.heap.size ≤ (wc.drewN nq).heap.size := Nat.le_refl _
    have hadB2 : ad.block < (wc.drewN nq).heap.size := hadB
    have hadB2' : ad'.block < (wc.drewN nq).heap.size := hadB'
    have hUd' : Sees (wc.drewN nq) (wc.drewN nq).heap.size B (bv r) := hUd
    have hsum : ¬ 9223372036854775807 < (strOf X).size + (strOf r).size := by
      have h1 : (strOf X).size = X.length := by simp [strOf, ByteArray.size]
      have h2 : (strOf r).size = r.length := by simp [strOf, ByteArray.size]
      have h3 := esc_len sx.data.toList
      have h4 : sx.data.toList.length = sx.size := Array.length_toList
      rw [hX] at h3
      have := HR.out
      omega
    have HX := Lib.hid hX
    have HY := Lib.hid hY
    clear hcx hcy hUc hUd hSc hTc hX hY hord hcut hadB hadB' hsc
    generalize wc.drewN nq = wd at hbd hcx' hcy' hadB2 hadB2' hUd' hsd ⊢
    have in1 : 0 < n := by omega
    have im1 : 0 < m := by omega
    have hE1 := fun W => Lib.hid (Escape_any sx W (by omega))
    have hE2 := fun W => Lib.hid (Escape_any sy W (by omega))
    rw [HX.out] at hE1
    rw [HY.out] at hE2
    go_wp2_with fail
    refine wp_region_noPanic ?_
    refine wp_region_held_drew (S := fun w' => w'.cell? ⟨ad.block, ad.off + 1, none⟩ = some (.string sx) ∧ (convert 35 9 (.slice B p d)).run Tryd.prog w' = .ok (.string (strOf r)) w') (by kernel_rfl) ?_ (fun hHeld => ?_)
    · (exact ⟨hcx', run_str wd.drew _ B p d r (show Sees wd.drew _ _ _ from hUd'.drew) HR.out⟩)
    refine wpAnyH_take (i := 0) (oi := { dst := some 105, op := Op.move (Operand.tmp 0), type := 22, pos := "law.go:136", after := #[], guard := none }) (v := ?_) rfl (by kernel_rfl) (by kernel_rfl) (by kernel_rfl) (fun _ _ _ h => h) (Or.inl ⟨by rfl, ?_⟩) hHeld ?_
    rotate_left
    · (intro w' hSw; (try dsimp only at hSw); go_split_ands; go_simp; first | done | with_reducible rfl)
    try simp only [Act.put, List.setIfInBounds_toArray, List.set_cons_zero, List.set_cons_succ]
    refine wpAnyH_take (i := 1) (oi := { dst := some 106, op := Op.indexAddr 22 (Operand.tmp 105) (Operand.const (Value.int IntKind.i64 0)), type := 0, pos := "law.go:136", after := #[{ on := 0, ground := Ground.data }], guard := none }) (v := ?_) rfl (by kernel_rfl) (by kernel_rfl) (by kernel_rfl) (fun _ _ _ h => h) (Or.inl ⟨by rfl, ?_⟩) hHeld ?_
    rotate_left
    · (intro w' hSw; (try dsimp only at hSw); go_split_ands; go_simp; first | done | with_reducible rfl)
    try simp only [Act.put, List.setIfInBounds_toArray, List.set_cons_zero, List.set_cons_succ]
    refine wpAnyH_take (i := 2) (oi := { dst := some 107, op := Op.fieldAddr 34 (Operand.tmp 106) 1, type := 0, pos := "law.go:136", after := #[{ on := 1, ground := Ground.data }], guard := none }) (v := ?_) rfl (by kernel_rfl) (by kernel_rfl) (by kernel_rfl) (fun _ _ _ h => h) (Or.inl ⟨by rfl, ?_⟩) hHeld ?_
    rotate_left
    · (intro w' hSw; (try dsimp only at hSw); go_split_ands; go_simp; first | done | with_reducible rfl)
    try simp only [Act.put, List.setIfInBounds_toArray, List.set_cons_zero, List.set_cons_succ]
    refine wpAnyH_take (i := 3) (oi := { dst := some 108, op := Op.load 9 (Operand.tmp 107), type := 9, pos := "law.go:136", after := #[{ on := 2, ground := Ground.data }], guard := none }) (v := ?_) rfl (by kernel_rfl) (by kernel_rfl) (by kernel_rfl) (fun _ _ _ h => h) (Or.inl ⟨by rfl, ?_⟩) hHeld ?_
    rotate_left
    · (intro w' hSw; (try dsimp only at hSw); go_split_ands; go_simp; first | done | with_reducible rfl)
    try simp only [Act.put, List.setIfInBounds_toArray, List.set_cons_zero, List.set_cons_succ]
    refine wpAnyH_take (i := 6) (oi := { dst := some 111, op := Op.move (Operand.tmp 2), type := 35, pos := "law.go:136", after := #[], guard := none }) (v := ?_) rfl (by kernel_rfl) (by kernel_rfl) (by kernel_rfl) (fun _ _ _ h => h) (Or.inl ⟨by rfl, ?_⟩) hHeld ?_
    rotate_left
    · (intro w' hSw; (try dsimp only at hSw); go_split_ands; go_simp; first | done | with_reducible rfl)
    try simp only [Act.put, List.setIfInBounds_toArray, List.set_cons_zero, List.set_cons_succ]
    refine wpAnyH_take (i := 7) (oi := { dst := some 112, op := Op.convert 35 9 (Operand.tmp 111), type := 9, pos := "law.go:136", after := #[{ on := 6, ground := Ground.data }], guard := none }) (v := ?_) rfl (by kernel_rfl) (by kernel_rfl) (by kernel_rfl) (fun _ _ _ h => h) (Or.inl ⟨by rfl, ?_⟩) hHeld ?_
    rotate_left
    · (intro w' hSw; (try dsimp only at hSw); go_split_ands; go_simp; first | done | with_reducible rfl)
    try simp only [Act.put, List.setIfInBounds_toArray, List.set_cons_zero, List.set_cons_succ]
    refine wpAnyH_ready (rs := [4]) (by kernel_rfl) (by simp) ?_
    refine AllReadyH.cons (o := { dst := some 109, op := Op.call { callee := Callee.value (Operand.func 21), args := #[Operand.tmp 108], argTypes := #[9] }, type := 35, pos := "law.go:136", after := #[{ on := 3, ground := Ground.data }], guard := none }) rfl (fun K hK => ?_) AllReadyH.nil
    go_simp
    refine (hE1 wd.drew).out.mono ?_
    rintro en wa ⟨v1, rfl, hown1, hon1⟩
    have hba : Below wd.heap.size wd wa := below_undrew hon1.below_nil
    obtain ⟨A1, c1, rfl, hc1, -, -, hse1⟩ := hown1.open_
    have cv3 := run_str wa _ A1 X.length c1 X hse1 rfl
    go_wp2_with fail
    refine hK.out _ _ ?_ ?_
    · (exact ⟨(hba.cell (show (⟨ad.block, ad.off + 1, none⟩ : Addr).block < _ from hadB2)).trans hcx', run_str wa _ B p d r (hUd'.below hba) HR.out⟩)
    clear hK K hHeld; intro hHeld
    try simp only [Act.put, List.setIfInBounds_toArray, List.set_cons_zero, List.set_cons_succ]
    refine wpAnyH_ready (rs := [5]) (by kernel_rfl) (by simp) ?_
    refine AllReadyH.cons (o := { dst := some 110, op := Op.convert 35 9 (Operand.tmp 109), type := 9, pos := "law.go:136", after := #[{ on := 4, ground := Ground.data }], guard := none }) rfl (fun K hK => ?_) AllReadyH.nil
    go_simp
    refine hK.out _ _ ?_ ?_
    · (exact ⟨(hba.cell (show (⟨ad.block, ad.off + 1, none⟩ : Addr).block < _ from hadB2)).trans hcx', run_str wa _ B p d r (hUd'.below hba) HR.out⟩)
    clear hK K hHeld; intro hHeld
    try simp only [Act.put, List.setIfInBounds_toArray, List.set_cons_zero, List.set_cons_succ]
    refine wpAnyH_take (i := 8) (oi := { dst := some 113, op := Op.binOp BinOp.add 9 (Operand.tmp 110) (Operand.tmp 112) 9, type := 9, pos := "law.go:136", after := #[{ on := 5, ground := Ground.data }, { on := 7, ground := Ground.data }], guard := none }) (v := ?_) rfl (by kernel_rfl) (by kernel_rfl) (by kernel_rfl) (fun _ _ _ h => h) (Or.inl ⟨by rfl, ?_⟩) hHeld ?_
    rotate_left
    · (intro w' hSw; (try dsimp only at hSw); go_split_ands; go_simp; first | done | with_reducible rfl)
    try simp only [Act.put, List.setIfInBounds_toArray, List.set_cons_zero, List.set_cons_succ]
    refine wpAnyH_take (i := 9) (oi := { dst := some 19, op := Op.assign (Operand.tmp 113), type := 9, pos := "law.go:136", after := #[{ on := 8, ground := Ground.data }, { on := 4, ground := Ground.chain }, { on := 0, ground := Ground.phase }, { on := 1, ground := Ground.phase }, { on := 2, ground := Ground.phase }, { on := 3, ground := Ground.phase }, { on := 4, ground := Ground.phase }, { on := 5, ground := Ground.phase }, { on := 6, ground := Ground.phase }, { on := 7, ground := Ground.phase }, { on := 8, ground := Ground.phase }], guard := none }) (v := ?_) rfl (by kernel_rfl) (by kernel_rfl) (by kernel_rfl) (fun _ _ _ h => h) (Or.inl ⟨by rfl, ?_⟩) hHeld ?_
    rotate_left
    · (intro w' hSw; (try dsimp only at hSw); go_split_ands; go_simp; first | done | with_reducible rfl)
    try simp only [Act.put, List.setIfInBounds_toArray, List.set_cons_zero, List.set_cons_succ]
    refine wpAnyH_done (by kernel_rfl) ?_ _
    refine NoPanic.normal ?_
    have hcxa : wa.cell? ⟨ad.block, ad.off + 1, none⟩ = some (.string sx) := (hba.cell (show (⟨ad.block, ad.off + 1, none⟩ : Addr).block < _ from hadB2)).trans hcx'
    have hcya : wa.cell? ⟨ad'.block, ad'.off + 1, none⟩ = some (.string sy) := (hba.cell (show (⟨ad'.block, ad'.off + 1, none⟩ : Addr).block < _ from hadB2')).trans hcy'
    have hsa := hba.size
    go_wp2_with fail
    refine (hE2 wa).out.mono ?_
    rintro en wb ⟨v2, rfl, hown2, hon2⟩
    have hbb := hon2.below_nil
    obtain ⟨A2, c2, rfl, hc2, -, -, hse2⟩ := hown2.open_
    have cv4 := run_str wb _ A2 Y.length c2 Y hse2 rfl
    have hcxb : wb.cell? ⟨ad.block, ad.off + 1, none⟩ = some (.string sx) := (hbb.cell (show (⟨ad.block, ad.off + 1, none⟩ : Addr).block < _ from Nat.lt_of_lt_of_le hadB2 hsa)).trans hcxa
    have hcyb : wb.cell? ⟨ad'.block, ad'.off + 1, none⟩ = some (.string sy) := (hbb.cell (show (⟨ad'.block, ad'.off + 1, none⟩ : Addr).block < _ from Nat.lt_of_lt_of_le hadB2' hsa)).trans hcya
    generalize strOf X ++ strOf r = sl at hord' ⊢
    generalize strOf Y = sr at hord' cv4
    have hb1b : Below w.heap.size w wb := hb1.trans ((hbd.mono hs1).trans ((hba.mono (by have := hbd.size; omega)).trans (hbb.mono (by have := hbd.size; omega))))
    go_wp2_with fail
    go_quiet (fail)
    go_wp2
    go_ret
    exact ⟨by simp [hord'], below_d hb1b nq⟩
end Go.Proofs.YtbgnmojdkhlbaaaDoor
