/-
  The law ItempartParts, walked: what is from an item on, and what is ahead of it, are all; beginnings split what there is.
-/
import Derived.Test.YtmdphaagbmipcaaDoorLawIpTells
namespace Go.Proofs.YtmdphaagbmipcaaDoor
open Go.RowKit

/-- Does an item's first byte lie below k? -/
def headLt (k : Nat) : Item → Bool
  | [] => false
  | a :: _ => decide (a.toNat < k)
theorem cnt_step {k : Nat} (hk : k < 256) : ∀ ls : List Item, (ls.filter (headLt (k + 1))).length = (ls.filter (headLt k)).length + (ls.filter (preB [UInt8.ofNat k])).length
  | [] => rfl
  | [] :: t => by
    rw [List.filter_cons_of_neg (by simp [headLt]), List.filter_cons_of_neg (by simp [headLt]), List.filter_cons_of_neg (by rw [preB_cons_nil]; simp), cnt_step hk t]
  | (a :: s) :: t => by
    have ih := cnt_step hk t
    have hp : preB [UInt8.ofNat k] (a :: s) = decide (a.toNat = k) := by
      rw [preB_cons, preB_nil, Bool.and_true, decide_eq_decide]
      constructor
      · rintro rfl
        exact u8_nat k hk
      · rintro rfl
        exact UInt8.toNat.inj (u8_nat _ hk)
    by_cases e : a.toNat = k
    · rw [List.filter_cons_of_pos (by simp [headLt]; omega), List.filter_cons_of_neg (by simp [headLt]; omega), List.filter_cons_of_pos (by rw [hp]; simpa using e), List.length_cons, List.length_cons, ih]
      omega
    · by_cases e2 : a.toNat < k
      · rw [List.filter_cons_of_pos (by simp [headLt]; omega), List.filter_cons_of_pos (by simp [headLt]; omega), List.filter_cons_of_neg (by rw [hp]; simpa using e), List.length_cons, List.length_cons, ih]
        omega
      · rw [List.filter_cons_of_neg (by simp [headLt]; omega), List.filter_cons_of_neg (by simp [headLt]; omega), List.filter_cons_of_neg (by rw [hp]; simpa using e), ih]
theorem cnt_all {ls : List Item} (h : okB ls = true) : (ls.filter (headLt 256)).length = ls.length := by
  congr 1
  refine List.filter_eq_self.2 fun y hy => ?_
  have := (ok_short h y hy).1
  cases y with
  | nil => simp at this
  | cons a t => simp [headLt]; exact a.toNat_lt
theorem pre_le {ls : List Item} (h : okB ls = true) (x : Item) : (ls.filter (preB x)).length ≤ (fromL ls x).length := by
  rw [← prefix_fromL (rises_pw (ok_parts h).1)]
  exact (List.takeWhile_prefix _).length_le

set_option maxRecDepth 100000 in
set_option maxHeartbeats 3200000 in
theorem ItempartParts_small (A : Option Addr) (n c : Nat) (ls : List Item) (Bx : Option Addr) (lx dx : Nat) (x : Item) (hn : ls.length = n) (hnc : n ≤ c) (hxl : x.length = lx) (hf : fewB ls = true) (hlx : lx ≤ 300) (hck : checkR ls = 0) (w : World) (hS : Sees2 w w.heap.size A ls) (hx : Sees w w.heap.size Bx (bv x)) (hH : Halves w) :
    Calls Tryd.prog 7 #[.slice A n c, .slice Bx lx dx] w (IsTrue w) := by
  have hnot : ∀ (x : Bool) (w : World), (Op.unary .not (.bool x)).run Tryd.prog w = .ok (.bool (!x)) w := fun _ _ => rfl
  obtain ⟨h100, -⟩ := few_yes hf
  have hn100 : n ≤ 100 := by omega
  have hg0 := hH.1
  obtain ⟨h0, hok⟩ := checkR_zero hck
  have hb := build_small h100 h0 hok
  have hn0 : 0 < n := by omega
  obtain ⟨hF4, hF6⟩ := file_len hb h100
  have hop := open_file hb
  obtain ⟨F, hFe⟩ : ∃ F, fileB ls = F := ⟨_, rfl⟩
  obtain ⟨N, hNe⟩ : ∃ N, F.length = N := ⟨_, rfl⟩
  rw [hFe] at hop hF4 hF6
  rw [hNe] at hF4 hF6
  have hfd := fromL_drop hok x
  obtain ⟨k0, hk0⟩ : ∃ k0, firstNot x ls = k0 := ⟨_, rfl⟩
  have hk0n : k0 ≤ n := by rw [← hk0, ← hn]; exact firstNot_le x ls
  have hah : ∀ j, j < k0 → ∀ h : j < ls.length, ahead ls[j] x = true := fun j hj h => firstNot_lt h (by rw [hk0]; exact hj)
  rw [hk0] at hfd
  have hple := pre_le hok x
  have hhead := head_fromL (rises_pw (ok_parts hok).1) x
  obtain ⟨fr, hfr⟩ : ∃ fr, fromL ls x = fr := ⟨_, rfl⟩
  rw [hfr] at hfd hple hhead
  obtain ⟨fl, hfl⟩ : ∃ fl, fr.length = fl := ⟨_, rfl⟩
  have hfln : fl + k0 = n := by rw [← hfl, hfd, List.length_drop, hn]; omega
  have hsub : IntKind.i64.wrap ((n : Int) - (fl : Int)) = (k0 : Int) := by rw [IntKind.wrap_i64]; omega
  rw [hfl] at hple
  have hfl100 : fl ≤ 100 := by omega
  have HF := Lib.hid hf
  have HN := Lib.hid hn
  have HXL := Lib.hid hxl
  have HB := Lib.hid hb
  have HFE := Lib.hid hFe
  have HNE := Lib.hid hNe
  have HOP := Lib.hid hop
  have HCK := Lib.hid hck
  have HOK := Lib.hid hok
  have HFD := Lib.hid hfd
  have HFR := Lib.hid hfr
  have HFL := Lib.hid hfl
  have HAH := Lib.hid hah
  have HPLE := Lib.hid hple
  have HHEAD := Lib.hid hhead
  have HFLN := Lib.hid hfln
  clear hn hf h100 hb hFe hNe hop hck hok h0 hxl hfd hfr hfl hah hk0 hple hhead hfln
  go_enter Tryd.func7, Tryd.ntmps7
  go_wp2_with fail
  refine (awake_any w hH).mono ?_
  rintro e w1 ⟨rfl, hb1⟩
  have hs1 := hb1.size
  have hS1 := (hS.below hb1).more hs1
  have hFew := few_any A n c ls HN.out w1 hS1
  rw [HF.out] at hFew
  have hCk := RefCheck_any A n c ls HN.out w1 hS1 (by omega)
  rw [HCK.out] at hCk
  have HCk := Lib.hid hCk
  clear hCk
  go_wp2_with fail
  refine hFew.mono ?_
  rintro e w2 ⟨rfl, rfl⟩
  clear hFew
  go_wp2_with fail
  refine HCk.out.mono ?_
  rintro e w2 ⟨rfl, q2, hw2⟩
  have hb02 : Below w.heap.size w w2 := by rw [hw2]; exact below_d hb1 _
  have hS2 := (hS.below hb02).more hb02.size
  have hBu := Lib.hid (Build_good A n c ls HN.out hnc w2 hS2 (hH.below hb02 hg0) (by omega) HB.out)
  clear hw2 HCk hS1
  go_wp2_with fail
  refine hBu.out.mono ?_
  rintro e w3 ⟨v3, rfl, hown3, hb3⟩
  rw [HFE.out] at hown3
  obtain ⟨A3, c3, rfl, hc3, hm3, -, hS3⟩ := hown3.open_
  rw [HNE.out] at hc3 ⊢
  have hb03 := hb02.trans (hb3.mono hb02.size)
  have hO := Lib.hid (Open_good A3 N c3 F HNE.out hc3 (by omega) w3 hS3 (hH.below hb03 hg0) ls HOP.out)
  clear hBu hown3 hb3 hS2
  go_wp2_with fail
  refine hO.out.mono ?_
  rintro e w4 ⟨P, rfl, hp4', hb4⟩
  have hp4 : PartAt (fun k => k < w4.heap.size) w4 P ls := hp4'.mono fun k e => e.2
  have hb04 := hb03.trans (hb4.mono hb03.size)
  have hFr := From_part (lx := lx) (dx := dx) hp4 ((hx.below hb04).more hb04.size) HXL.out 1073741824
  rw [HFR.out, show ((1073741824 : Int)).toNat = 1073741824 from rfl, List.take_of_length_le (by have := HFL.out; omega)] at hFr
  have HFr := Lib.hid hFr
  clear hO hp4' hFr
  go_wp2_with fail
  refine HFr.out.mono ?_
  rintro e W hIs
  obtain ⟨A5, c5, rfl, hc5, hS5, hb5⟩ := hIs.open_
  rw [HFL.out] at hc5 ⊢
  have hb0W := hb04.trans (hb5.mono hb04.size)
  have hpW := hp4.later hb5
  have hSW := (hS.below hb0W).more hb0W.size
  have hxW := (hx.below hb0W).more hb0W.size
  have hk0i : ¬ (k0 : Int) < 0 := by omega
  have hk0c : (k0 : Int) ≤ (n : Int) := by omega
  clear HFr hIs hp4
  go_upto_region 13 with fail
  go_cut [82] (fun t wx => t = .bool false ∧ ∃ q, wx = W.drewN q)
  case first =>
    have hSD := hSW.cut (k := k0) (cap := c) (by have := HN.out; omega)
    by_cases hck0 : c = k0
    · have hk1 : 0 < k0 := by omega
      rw [if_pos hck0] at hSD
      have HC0 := Lib.hid hck0
      clear hck0
      have hsm := Same_any A A5 (n - k0) (c - k0) fl c5 (ls.drop k0) fr (by rw [List.length_drop, HN.out]) HFL.out W.drew (hSD.drew 1) (hS5.drew 1) (by omega)
      unfold BoolIs at hsm
      rw [show (ls.drop k0 == fr) = true from by rw [HFD.out]; simp] at hsm
      have HSM := Lib.hid hsm
      clear hsm hSD
      obtain ⟨j, hj⟩ : ∃ j, k0 - 1 = j := ⟨_, rfl⟩
      have hsubj : IntKind.i64.wrap ((k0 : Int) - 1) = (j : Int) := by rw [IntKind.wrap_i64]; omega
      have hjn : j < n := by omega
      have hkp : (0 : Int) < (k0 : Int) := by omega
      obtain ⟨ad, Aj, cj, rfl, hadj, hcellj, hcj, hseej⟩ := hSW.out j (by have := HN.out; omega)
      have hahj := HAH.out j (by omega) (by have := HN.out; omega)
      obtain ⟨Lj, hLj⟩ : ∃ Lj, ls[j]'(by have := HN.out; omega) = Lj := ⟨_, rfl⟩
      rw [hLj] at hcellj hcj hseej hahj
      have hble : Op.bytesLess (strOf Lj).toList (strOf x).toList = true := by rw [strOf_toList, strOf_toList]; exact hahj
      have HBLE := Lib.hid hble
      have HK := Lib.hid (fun w' (hb : Below W.heap.size W w') => (⟨(hb.cell (p := ad.add j) (by rw [add_block]; exact hadj)).trans hcellj, run_str w' _ Aj Lj.length cj Lj ((hseej.below hb).more hb.size) rfl, run_str w' _ Bx lx dx x ((hxW.below hb).more hb.size) HXL.out⟩ : w'.cell? (ad.add j) = some (.slice Aj Lj.length cj) ∧ (convert 23 9 (.slice Aj Lj.length cj)).run Tryd.prog w' = .ok (.string (strOf Lj)) w' ∧ (convert 23 9 (.slice Bx lx dx)).run Tryd.prog w' = .ok (.string (strOf x)) w'))
      have hbD : Below W.heap.size W W.drew := below_drew (Below.refl _ _)
      clear hj hLj hahj hble hcellj hseej
      go_wp2_with fail
      refine wp_region_noPanic ?_
      refine wp_region_held_drew (S := fun w' => w'.cell? (ad.add j) = some (.slice Aj Lj.length cj) ∧ (convert 23 9 (.slice Aj Lj.length cj)).run Tryd.prog w' = .ok (.string (strOf Lj)) w' ∧ (convert 23 9 (.slice Bx lx dx)).run Tryd.prog w' = .ok (.string (strOf x)) w') (by kernel_rfl) ?_ (fun hHeld => ?_)
      · (exact HK.out _ hbD)
      refine wpAnyH_take (i := 0) (oi := { dst := some 58, op := Op.move (Operand.tmp 12), type := 3, pos := "law.go:146", after := #[], guard := none }) (v := ?_) rfl (by kernel_rfl) (by kernel_rfl) (by kernel_rfl) (fun _ _ _ h => h) (Or.inl ⟨by rfl, ?_⟩) hHeld ?_
      rotate_left
      · (intro w' hSw; (try dsimp only at hSw); go_split_ands; go_simp; first | done | with_reducible rfl)
      try simp only [Act.put, List.setIfInBounds_toArray, List.set_cons_zero, List.set_cons_succ]
      refine wpAnyH_take (i := 1) (oi := { dst := some 59, op := Op.binOp BinOp.lss 3 (Operand.tmp 58) (Operand.const (Value.int IntKind.i64 0)) 3, type := 4, pos := "law.go:146", after := #[{ on := 0, ground := Ground.data }], guard := none }) (v := ?_) rfl (by kernel_rfl) (by kernel_rfl) (by kernel_rfl) (fun _ _ _ h => h) (Or.inl ⟨by rfl, ?_⟩) hHeld ?_
      rotate_left
      · (intro w' hSw; (try dsimp only at hSw); go_split_ands; go_simp; first | done | with_reducible rfl)
      try simp only [Act.put, List.setIfInBounds_toArray, List.set_cons_zero, List.set_cons_succ]
      refine wpAnyH_take (i := 2) (oi := { dst := some 60, op := Op.move (Operand.tmp 59), type := 4, pos := "law.go:146", after := #[{ on := 1, ground := Ground.data }], guard := none }) (v := .bool false) rfl (by kernel_rfl) (by kernel_rfl) (by kernel_rfl) (fun _ _ _ h => h) (Or.inl ⟨by rfl, ?_⟩) hHeld ?_
      · (intro w' hSw; (try dsimp only at hSw); go_split_ands; go_simp; first | done | with_reducible rfl | simp)
      try simp only [Act.put, List.setIfInBounds_toArray, List.set_cons_zero, List.set_cons_succ]
      refine wpAnyH_take (i := 3) (oi := { dst := some 61, op := Op.move (Operand.tmp 0), type := 22, pos := "law.go:146", after := #[{ on := 2, ground := Ground.guard }], guard := some (2, false) }) (v := ?_) rfl (by kernel_rfl) (by kernel_rfl) (by kernel_rfl) (fun _ _ _ h => h) (Or.inl ⟨by rfl, ?_⟩) hHeld ?_
      rotate_left
      · (intro w' hSw; (try dsimp only at hSw); go_split_ands; go_simp; first | done | with_reducible rfl)
      try simp only [Act.put, List.setIfInBounds_toArray, List.set_cons_zero, List.set_cons_succ]
      refine wpAnyH_take (i := 4) (oi := { dst := some 62, op := Op.move (Operand.tmp 12), type := 3, pos := "law.go:146", after := #[{ on := 2, ground := Ground.guard }], guard := some (2, false) }) (v := ?_) rfl (by kernel_rfl) (by kernel_rfl) (by kernel_rfl) (fun _ _ _ h => h) (Or.inl ⟨by rfl, ?_⟩) hHeld ?_
      rotate_left
      · (intro w' hSw; (try dsimp only at hSw); go_split_ands; go_simp; first | done | with_reducible rfl)
      try simp only [Act.put, List.setIfInBounds_toArray, List.set_cons_zero, List.set_cons_succ]
      refine wpAnyH_take (i := 5) (oi := { dst := some 63, op := Op.slice 22 (Operand.tmp 61) (some (Operand.tmp 62)) none none, type := 22, pos := "law.go:146", after := #[{ on := 3, ground := Ground.data }, { on := 4, ground := Ground.data }, { on := 2, ground := Ground.guard }], guard := some (2, false) }) (v := .slice (some ad) (n - k0) (c - k0)) rfl (by kernel_rfl) (by kernel_rfl) (by kernel_rfl) (fun _ _ _ h => h) (Or.inl ⟨by rfl, ?_⟩) hHeld ?_
      · (intro w' hSw; (try dsimp only at hSw); go_split_ands; go_simp; first | done | with_reducible rfl | (simp [HC0.out]))
      try simp only [Act.put, List.setIfInBounds_toArray, List.set_cons_zero, List.set_cons_succ]
      refine wpAnyH_take (i := 6) (oi := { dst := some 64, op := Op.move (Operand.tmp 11), type := 22, pos := "law.go:146", after := #[{ on := 2, ground := Ground.guard }], guard := some (2, false) }) (v := ?_) rfl (by kernel_rfl) (by kernel_rfl) (by kernel_rfl) (fun _ _ _ h => h) (Or.inl ⟨by rfl, ?_⟩) hHeld ?_
      rotate_left
      · (intro w' hSw; (try dsimp only at hSw); go_split_ands; go_simp; first | done | with_reducible rfl)
      try simp only [Act.put, List.setIfInBounds_toArray, List.set_cons_zero, List.set_cons_succ]
      refine wpAnyH_ready (rs := [7]) (by kernel_rfl) (by simp) ?_
      refine AllReadyH.cons (o := { dst := some 65, op := Op.call { callee := Callee.value (Operand.func 15), args := #[Operand.tmp 63, Operand.tmp 64], argTypes := #[22, 22] }, type := 4, pos := "law.go:146", after := #[{ on := 5, ground := Ground.data }, { on := 6, ground := Ground.data }, { on := 2, ground := Ground.chain }, { on := 2, ground := Ground.guard }], guard := some (2, false) }) rfl (fun K hK => ?_) AllReadyH.nil
      go_simp
      refine HSM.out.mono ?_
      rintro en w7 ⟨rfl, q7, hw7⟩
      have hb7 : Below W.heap.size W w7 := by rw [hw7]; exact below_d hbD _
      have hd7 : ∃ q, w7 = W.drewN q := ⟨1 + q7, by rw [hw7]; exact World.drewN_drewN W 1 q7⟩
      clear HSM hw7
      go_wp2_with fail
      refine hK.out _ _ ?_ ?_
      · (exact HK.out _ hb7)
      clear hK K hHeld; intro hHeld
      try simp only [Act.put, List.setIfInBounds_toArray, List.set_cons_zero, List.set_cons_succ]
      refine wpAnyH_take (i := 8) (oi := { dst := some 66, op := Op.unOp UnOp.not 4 (Operand.tmp 65), type := 4, pos := "law.go:146", after := #[{ on := 7, ground := Ground.data }, { on := 2, ground := Ground.guard }], guard := some (2, false) }) (v := ?_) rfl (by kernel_rfl) (by kernel_rfl) (by kernel_rfl) (fun _ _ _ h => h) (Or.inl ⟨by rfl, ?_⟩) hHeld ?_
      rotate_left
      · (intro w' hSw; (try dsimp only at hSw); go_split_ands; go_simp; first | done | with_reducible rfl)
      try simp only [Act.put, List.setIfInBounds_toArray, List.set_cons_zero, List.set_cons_succ]
      refine wpAnyH_take (i := 9) (oi := { dst := some 67, op := Op.pick (Operand.tmp 60) (Operand.const (Value.bool true)) (Operand.tmp 66), type := 4, pos := "law.go:146", after := #[{ on := 2, ground := Ground.data }, { on := 8, ground := Ground.data }], guard := none }) (v := ?_) rfl (by kernel_rfl) (by kernel_rfl) (by kernel_rfl) (fun _ _ _ h => h) (Or.inl ⟨by rfl, ?_⟩) hHeld ?_
      rotate_left
      · (intro w' hSw; (try dsimp only at hSw); go_split_ands; go_simp; first | done | with_reducible rfl)
      try simp only [Act.put, List.setIfInBounds_toArray, List.set_cons_zero, List.set_cons_succ]
      refine wpAnyH_take (i := 10) (oi := { dst := some 68, op := Op.move (Operand.tmp 67), type := 4, pos := "law.go:146", after := #[{ on := 9, ground := Ground.data }, { on := 7, ground := Ground.chain }], guard := none }) (v := .bool false) rfl (by kernel_rfl) (by kernel_rfl) (by kernel_rfl) (fun _ _ _ h => h) (Or.inl ⟨by rfl, ?_⟩) hHeld ?_
      · (intro w' hSw; (try dsimp only at hSw); go_split_ands; go_simp; first | done | with_reducible rfl | simp)
      try simp only [Act.put, List.setIfInBounds_toArray, List.set_cons_zero, List.set_cons_succ]
      refine wpAnyH_take (i := 11) (oi := { dst := some 69, op := Op.move (Operand.tmp 12), type := 3, pos := "law.go:146", after := #[{ on := 10, ground := Ground.guard }], guard := some (10, false) }) (v := ?_) rfl (by kernel_rfl) (by kernel_rfl) (by kernel_rfl) (fun _ _ _ h => h) (Or.inl ⟨by rfl, ?_⟩) hHeld ?_
      rotate_left
      · (intro w' hSw; (try dsimp only at hSw); go_split_ands; go_simp; first | done | with_reducible rfl)
      try simp only [Act.put, List.setIfInBounds_toArray, List.set_cons_zero, List.set_cons_succ]
      refine wpAnyH_take (i := 12) (oi := { dst := some 70, op := Op.binOp BinOp.gtr 3 (Operand.tmp 69) (Operand.const (Value.int IntKind.i64 0)) 3, type := 4, pos := "law.go:146", after := #[{ on := 11, ground := Ground.data }, { on := 10, ground := Ground.guard }], guard := some (10, false) }) (v := ?_) rfl (by kernel_rfl) (by kernel_rfl) (by kernel_rfl) (fun _ _ _ h => h) (Or.inl ⟨by rfl, ?_⟩) hHeld ?_
      rotate_left
      · (intro w' hSw; (try dsimp only at hSw); go_split_ands; go_simp; first | done | with_reducible rfl)
      try simp only [Act.put, List.setIfInBounds_toArray, List.set_cons_zero, List.set_cons_succ]
      refine wpAnyH_take (i := 13) (oi := { dst := some 71, op := Op.move (Operand.tmp 70), type := 4, pos := "law.go:146", after := #[{ on := 12, ground := Ground.data }, { on := 10, ground := Ground.chain }, { on := 10, ground := Ground.guard }], guard := some (10, false) }) (v := .bool true) rfl (by kernel_rfl) (by kernel_rfl) (by kernel_rfl) (fun _ _ _ h => h) (Or.inl ⟨by rfl, ?_⟩) hHeld ?_
      · (intro w' hSw; (try dsimp only at hSw); go_split_ands; go_simp; first | done | with_reducible rfl | simp)
      try simp only [Act.put, List.setIfInBounds_toArray, List.set_cons_zero, List.set_cons_succ]
      refine wpAnyH_take (i := 14) (oi := { dst := some 72, op := Op.move (Operand.tmp 0), type := 22, pos := "law.go:146", after := #[{ on := 13, ground := Ground.guard }], guard := some (13, true) }) (v := ?_) rfl (by kernel_rfl) (by kernel_rfl) (by kernel_rfl) (fun _ _ _ h => h) (Or.inl ⟨by rfl, ?_⟩) hHeld ?_
      rotate_left
      · (intro w' hSw; (try dsimp only at hSw); go_split_ands; go_simp; first | done | with_reducible rfl)
      try simp only [Act.put, List.setIfInBounds_toArray, List.set_cons_zero, List.set_cons_succ]
      refine wpAnyH_take (i := 15) (oi := { dst := some 73, op := Op.move (Operand.tmp 12), type := 3, pos := "law.go:146", after := #[{ on := 13, ground := Ground.guard }], guard := some (13, true) }) (v := ?_) rfl (by kernel_rfl) (by kernel_rfl) (by kernel_rfl) (fun _ _ _ h => h) (Or.inl ⟨by rfl, ?_⟩) hHeld ?_
      rotate_left
      · (intro w' hSw; (try dsimp only at hSw); go_split_ands; go_simp; first | done | with_reducible rfl)
      try simp only [Act.put, List.setIfInBounds_toArray, List.set_cons_zero, List.set_cons_succ]
      refine wpAnyH_take (i := 16) (oi := { dst := some 74, op := Op.binOp BinOp.sub 3 (Operand.tmp 73) (Operand.const (Value.int IntKind.i64 1)) 3, type := 3, pos := "law.go:146", after := #[{ on := 15, ground := Ground.data }, { on := 13, ground := Ground.guard }], guard := some (13, true) }) (v := .int .i64 (j : Int)) rfl (by kernel_rfl) (by kernel_rfl) (by kernel_rfl) (fun _ _ _ h => h) (Or.inl ⟨by rfl, ?_⟩) hHeld ?_
      · (intro w' hSw; (try dsimp only at hSw); go_split_ands; go_simp; first | done | with_reducible rfl | simp)
      try simp only [Act.put, List.setIfInBounds_toArray, List.set_cons_zero, List.set_cons_succ]
      refine wpAnyH_take (i := 17) (oi := { dst := some 75, op := Op.indexAddr 22 (Operand.tmp 72) (Operand.tmp 74), type := 0, pos := "law.go:146", after := #[{ on := 14, ground := Ground.data }, { on := 16, ground := Ground.data }, { on := 13, ground := Ground.guard }], guard := some (13, true) }) (v := ?_) rfl (by kernel_rfl) (by kernel_rfl) (by kernel_rfl) (fun _ _ _ h => h) (Or.inl ⟨by rfl, ?_⟩) hHeld ?_
      rotate_left
      · (intro w' hSw; (try dsimp only at hSw); go_split_ands; go_simp; first | done | with_reducible rfl)
      try simp only [Act.put, List.setIfInBounds_toArray, List.set_cons_zero, List.set_cons_succ]
      refine wpAnyH_take (i := 18) (oi := { dst := some 76, op := Op.load 23 (Operand.tmp 75), type := 23, pos := "law.go:146", after := #[{ on := 17, ground := Ground.data }, { on := 13, ground := Ground.guard }], guard := some (13, true) }) (v := ?_) rfl (by kernel_rfl) (by kernel_rfl) (by kernel_rfl) (fun _ _ _ h => h) (Or.inl ⟨by rfl, ?_⟩) hHeld ?_
      rotate_left
      · (intro w' hSw; (try dsimp only at hSw); go_split_ands; go_simp; first | done | with_reducible rfl)
      try simp only [Act.put, List.setIfInBounds_toArray, List.set_cons_zero, List.set_cons_succ]
      refine wpAnyH_take (i := 19) (oi := { dst := some 77, op := Op.convert 23 9 (Operand.tmp 76), type := 9, pos := "law.go:146", after := #[{ on := 18, ground := Ground.data }, { on := 13, ground := Ground.guard }], guard := some (13, true) }) (v := ?_) rfl (by kernel_rfl) (by kernel_rfl) (by kernel_rfl) (fun _ _ _ h => h) (Or.inl ⟨by rfl, ?_⟩) hHeld ?_
      rotate_left
      · (intro w' hSw; (try dsimp only at hSw); go_split_ands; go_simp; first | done | with_reducible rfl)
      try simp only [Act.put, List.setIfInBounds_toArray, List.set_cons_zero, List.set_cons_succ]
      refine wpAnyH_take (i := 20) (oi := { dst := some 78, op := Op.move (Operand.tmp 1), type := 23, pos := "law.go:146", after := #[{ on := 13, ground := Ground.guard }], guard := some (13, true) }) (v := ?_) rfl (by kernel_rfl) (by kernel_rfl) (by kernel_rfl) (fun _ _ _ h => h) (Or.inl ⟨by rfl, ?_⟩) hHeld ?_
      rotate_left
      · (intro w' hSw; (try dsimp only at hSw); go_split_ands; go_simp; first | done | with_reducible rfl)
      try simp only [Act.put, List.setIfInBounds_toArray, List.set_cons_zero, List.set_cons_succ]
      refine wpAnyH_take (i := 21) (oi := { dst := some 79, op := Op.convert 23 9 (Operand.tmp 78), type := 9, pos := "law.go:146", after := #[{ on := 20, ground := Ground.data }, { on := 13, ground := Ground.guard }], guard := some (13, true) }) (v := ?_) rfl (by kernel_rfl) (by kernel_rfl) (by kernel_rfl) (fun _ _ _ h => h) (Or.inl ⟨by rfl, ?_⟩) hHeld ?_
      rotate_left
      · (intro w' hSw; (try dsimp only at hSw); go_split_ands; go_simp; first | done | with_reducible rfl)
      try simp only [Act.put, List.setIfInBounds_toArray, List.set_cons_zero, List.set_cons_succ]
      refine wpAnyH_take (i := 22) (oi := { dst := some 80, op := Op.binOp BinOp.geq 9 (Operand.tmp 77) (Operand.tmp 79) 9, type := 4, pos := "law.go:146", after := #[{ on := 19, ground := Ground.data }, { on := 21, ground := Ground.data }, { on := 13, ground := Ground.guard }], guard := some (13, true) }) (v := .bool false) rfl (by kernel_rfl) (by kernel_rfl) (by kernel_rfl) (fun _ _ _ h => h) (Or.inl ⟨by rfl, ?_⟩) hHeld ?_
      · (intro w' hSw; (try dsimp only at hSw); go_split_ands; go_simp; first | done | with_reducible rfl | simp [HBLE.out])
      try simp only [Act.put, List.setIfInBounds_toArray, List.set_cons_zero, List.set_cons_succ]
      refine wpAnyH_take (i := 23) (oi := { dst := some 81, op := Op.pick (Operand.tmp 71) (Operand.tmp 80) (Operand.const (Value.bool false)), type := 4, pos := "law.go:146", after := #[{ on := 13, ground := Ground.data }, { on := 22, ground := Ground.data }, { on := 10, ground := Ground.guard }], guard := some (10, false) }) (v := ?_) rfl (by kernel_rfl) (by kernel_rfl) (by kernel_rfl) (fun _ _ _ h => h) (Or.inl ⟨by rfl, ?_⟩) hHeld ?_
      rotate_left
      · (intro w' hSw; (try dsimp only at hSw); go_split_ands; go_simp; first | done | with_reducible rfl)
      try simp only [Act.put, List.setIfInBounds_toArray, List.set_cons_zero, List.set_cons_succ]
      refine wpAnyH_take (i := 24) (oi := { dst := some 82, op := Op.pick (Operand.tmp 68) (Operand.const (Value.bool true)) (Operand.tmp 81), type := 4, pos := "law.go:146", after := #[{ on := 10, ground := Ground.data }, { on := 23, ground := Ground.data }], guard := none }) (v := ?_) rfl (by kernel_rfl) (by kernel_rfl) (by kernel_rfl) (fun _ _ _ h => h) (Or.inl ⟨by rfl, ?_⟩) hHeld ?_
      rotate_left
      · (intro w' hSw; (try dsimp only at hSw); go_split_ands; go_simp; first | done | with_reducible rfl)
      try simp only [Act.put, List.setIfInBounds_toArray, List.set_cons_zero, List.set_cons_succ]
      refine wpAnyH_done (by kernel_rfl) ?_ _
      refine NoPanic.normal ?_
      go_wp2_with fail
      go_meet
      exact ⟨by first | rfl | simp, hd7⟩
    · by_cases hk1 : 0 < k0
      · rw [if_neg hck0] at hSD
        have hsm := Same_any _ A5 (n - k0) (c - k0) fl c5 (ls.drop k0) fr (by rw [List.length_drop, HN.out]) HFL.out W.drew (hSD.drew 1) (hS5.drew 1) (by omega)
        unfold BoolIs at hsm
        rw [show (ls.drop k0 == fr) = true from by rw [HFD.out]; simp] at hsm
        have HSM := Lib.hid hsm
        clear hsm hSD
        obtain ⟨j, hj⟩ : ∃ j, k0 - 1 = j := ⟨_, rfl⟩
        have hsubj : IntKind.i64.wrap ((k0 : Int) - 1) = (j : Int) := by rw [IntKind.wrap_i64]; omega
        have hjn : j < n := by omega
        have hkp : (0 : Int) < (k0 : Int) := by omega
        obtain ⟨ad, Aj, cj, rfl, hadj, hcellj, hcj, hseej⟩ := hSW.out j (by have := HN.out; omega)
        have hahj := HAH.out j (by omega) (by have := HN.out; omega)
        obtain ⟨Lj, hLj⟩ : ∃ Lj, ls[j]'(by have := HN.out; omega) = Lj := ⟨_, rfl⟩
        rw [hLj] at hcellj hcj hseej hahj
        have hble : Op.bytesLess (strOf Lj).toList (strOf x).toList = true := by rw [strOf_toList, strOf_toList]; exact hahj
        have HBLE := Lib.hid hble
        have HK := Lib.hid (fun w' (hb : Below W.heap.size W w') => (⟨(hb.cell (p := ad.add j) (by rw [add_block]; exact hadj)).trans hcellj, run_str w' _ Aj Lj.length cj Lj ((hseej.below hb).more hb.size) rfl, run_str w' _ Bx lx dx x ((hxW.below hb).more hb.size) HXL.out⟩ : w'.cell? (ad.add j) = some (.slice Aj Lj.length cj) ∧ (convert 23 9 (.slice Aj Lj.length cj)).run Tryd.prog w' = .ok (.string (strOf Lj)) w' ∧ (convert 23 9 (.slice Bx lx dx)).run Tryd.prog w' = .ok (.string (strOf x)) w'))
        have hbD : Below W.heap.size W W.drew := below_drew (Below.refl _ _)
        clear hj hLj hahj hble hcellj hseej
        go_wp2_with fail
        refine wp_region_noPanic ?_
        refine wp_region_held_drew (S := fun w' => w'.cell? (ad.add j) = some (.slice Aj Lj.length cj) ∧ (convert 23 9 (.slice Aj Lj.length cj)).run Tryd.prog w' = .ok (.string (strOf Lj)) w' ∧ (convert 23 9 (.slice Bx lx dx)).run Tryd.prog w' = .ok (.string (strOf x)) w') (by kernel_rfl) ?_ (fun hHeld => ?_)
        · (exact HK.out _ hbD)
        refine wpAnyH_take (i := 0) (oi := { dst := some 58, op := Op.move (Operand.tmp 12), type := 3, pos := "law.go:146", after := #[], guard := none }) (v := ?_) rfl (by kernel_rfl) (by kernel_rfl) (by kernel_rfl) (fun _ _ _ h => h) (Or.inl ⟨by rfl, ?_⟩) hHeld ?_
        rotate_left
        · (intro w' hSw; (try dsimp only at hSw); go_split_ands; go_simp; first | done | with_reducible rfl)
        try simp only [Act.put, List.setIfInBounds_toArray, List.set_cons_zero, List.set_cons_succ]
        refine wpAnyH_take (i := 1) (oi := { dst := some 59, op := Op.binOp BinOp.lss 3 (Operand.tmp 58) (Operand.const (Value.int IntKind.i64 0)) 3, type := 4, pos := "law.go:146", after := #[{ on := 0, ground := Ground.data }], guard := none }) (v := ?_) rfl (by kernel_rfl) (by kernel_rfl) (by kernel_rfl) (fun _ _ _ h => h) (Or.inl ⟨by rfl, ?_⟩) hHeld ?_
        rotate_left
        · (intro w' hSw; (try dsimp only at hSw); go_split_ands; go_simp; first | done | with_reducible rfl)
        try simp only [Act.put, List.setIfInBounds_toArray, List.set_cons_zero, List.set_cons_succ]
        refine wpAnyH_take (i := 2) (oi := { dst := some 60, op := Op.move (Operand.tmp 59), type := 4, pos := "law.go:146", after := #[{ on := 1, ground := Ground.data }], guard := none }) (v := .bool false) rfl (by kernel_rfl) (by kernel_rfl) (by kernel_rfl) (fun _ _ _ h => h) (Or.inl ⟨by rfl, ?_⟩) hHeld ?_
        · (intro w' hSw; (try dsimp only at hSw); go_split_ands; go_simp; first | done | with_reducible rfl | simp)
        try simp only [Act.put, List.setIfInBounds_toArray, List.set_cons_zero, List.set_cons_succ]
        refine wpAnyH_take (i := 3) (oi := { dst := some 61, op := Op.move (Operand.tmp 0), type := 22, pos := "law.go:146", after := #[{ on := 2, ground := Ground.guard }], guard := some (2, false) }) (v := ?_) rfl (by kernel_rfl) (by kernel_rfl) (by kernel_rfl) (fun _ _ _ h => h) (Or.inl ⟨by rfl, ?_⟩) hHeld ?_
        rotate_left
        · (intro w' hSw; (try dsimp only at hSw); go_split_ands; go_simp; first | done | with_reducible rfl)
        try simp only [Act.put, List.setIfInBounds_toArray, List.set_cons_zero, List.set_cons_succ]
        refine wpAnyH_take (i := 4) (oi := { dst := some 62, op := Op.move (Operand.tmp 12), type := 3, pos := "law.go:146", after := #[{ on := 2, ground := Ground.guard }], guard := some (2, false) }) (v := ?_) rfl (by kernel_rfl) (by kernel_rfl) (by kernel_rfl) (fun _ _ _ h => h) (Or.inl ⟨by rfl, ?_⟩) hHeld ?_
        rotate_left
        · (intro w' hSw; (try dsimp only at hSw); go_split_ands; go_simp; first | done | with_reducible rfl)
        try simp only [Act.put, List.setIfInBounds_toArray, List.set_cons_zero, List.set_cons_succ]
        refine wpAnyH_take (i := 5) (oi := { dst := some 63, op := Op.slice 22 (Operand.tmp 61) (some (Operand.tmp 62)) none none, type := 22, pos := "law.go:146", after := #[{ on := 3, ground := Ground.data }, { on := 4, ground := Ground.data }, { on := 2, ground := Ground.guard }], guard := some (2, false) }) (v := ?_) rfl (by kernel_rfl) (by kernel_rfl) (by kernel_rfl) (fun _ _ _ h => h) (Or.inl ⟨by rfl, ?_⟩) hHeld ?_
        rotate_left
        · (intro w' hSw; (try dsimp only at hSw); go_split_ands; go_simp; first | done | with_reducible rfl)
        try simp only [Act.put, List.setIfInBounds_toArray, List.set_cons_zero, List.set_cons_succ]
        refine wpAnyH_take (i := 6) (oi := { dst := some 64, op := Op.move (Operand.tmp 11), type := 22, pos := "law.go:146", after := #[{ on := 2, ground := Ground.guard }], guard := some (2, false) }) (v := ?_) rfl (by kernel_rfl) (by kernel_rfl) (by kernel_rfl) (fun _ _ _ h => h) (Or.inl ⟨by rfl, ?_⟩) hHeld ?_
        rotate_left
        · (intro w' hSw; (try dsimp only at hSw); go_split_ands; go_simp; first | done | with_reducible rfl)
        try simp only [Act.put, List.setIfInBounds_toArray, List.set_cons_zero, List.set_cons_succ]
        refine wpAnyH_ready (rs := [7]) (by kernel_rfl) (by simp) ?_
        refine AllReadyH.cons (o := { dst := some 65, op := Op.call { callee := Callee.value (Operand.func 15), args := #[Operand.tmp 63, Operand.tmp 64], argTypes := #[22, 22] }, type := 4, pos := "law.go:146", after := #[{ on := 5, ground := Ground.data }, { on := 6, ground := Ground.data }, { on := 2, ground := Ground.chain }, { on := 2, ground := Ground.guard }], guard := some (2, false) }) rfl (fun K hK => ?_) AllReadyH.nil
        go_simp
        refine HSM.out.mono ?_
        rintro en w7 ⟨rfl, q7, hw7⟩
        have hb7 : Below W.heap.size W w7 := by rw [hw7]; exact below_d hbD _
        have hd7 : ∃ q, w7 = W.drewN q := ⟨1 + q7, by rw [hw7]; exact World.drewN_drewN W 1 q7⟩
        clear HSM hw7
        go_wp2_with fail
        refine hK.out _ _ ?_ ?_
        · (exact HK.out _ hb7)
        clear hK K hHeld; intro hHeld
        try simp only [Act.put, List.setIfInBounds_toArray, List.set_cons_zero, List.set_cons_succ]
        refine wpAnyH_take (i := 8) (oi := { dst := some 66, op := Op.unOp UnOp.not 4 (Operand.tmp 65), type := 4, pos := "law.go:146", after := #[{ on := 7, ground := Ground.data }, { on := 2, ground := Ground.guard }], guard := some (2, false) }) (v := ?_) rfl (by kernel_rfl) (by kernel_rfl) (by kernel_rfl) (fun _ _ _ h => h) (Or.inl ⟨by rfl, ?_⟩) hHeld ?_
        rotate_left
        · (intro w' hSw; (try dsimp only at hSw); go_split_ands; go_simp; first | done | with_reducible rfl)
        try simp only [Act.put, List.setIfInBounds_toArray, List.set_cons_zero, List.set_cons_succ]
        refine wpAnyH_take (i := 9) (oi := { dst := some 67, op := Op.pick (Operand.tmp 60) (Operand.const (Value.bool true)) (Operand.tmp 66), type := 4, pos := "law.go:146", after := #[{ on := 2, ground := Ground.data }, { on := 8, ground := Ground.data }], guard := none }) (v := ?_) rfl (by kernel_rfl) (by kernel_rfl) (by kernel_rfl) (fun _ _ _ h => h) (Or.inl ⟨by rfl, ?_⟩) hHeld ?_
        rotate_left
        · (intro w' hSw; (try dsimp only at hSw); go_split_ands; go_simp; first | done | with_reducible rfl)
        try simp only [Act.put, List.setIfInBounds_toArray, List.set_cons_zero, List.set_cons_succ]
        refine wpAnyH_take (i := 10) (oi := { dst := some 68, op := Op.move (Operand.tmp 67), type := 4, pos := "law.go:146", after := #[{ on := 9, ground := Ground.data }, { on := 7, ground := Ground.chain }], guard := none }) (v := .bool false) rfl (by kernel_rfl) (by kernel_rfl) (by kernel_rfl) (fun _ _ _ h => h) (Or.inl ⟨by rfl, ?_⟩) hHeld ?_
        · (intro w' hSw; (try dsimp only at hSw); go_split_ands; go_simp; first | done | with_reducible rfl | simp)
        try simp only [Act.put, List.setIfInBounds_toArray, List.set_cons_zero, List.set_cons_succ]
        refine wpAnyH_take (i := 11) (oi := { dst := some 69, op := Op.move (Operand.tmp 12), type := 3, pos := "law.go:146", after := #[{ on := 10, ground := Ground.guard }], guard := some (10, false) }) (v := ?_) rfl (by kernel_rfl) (by kernel_rfl) (by kernel_rfl) (fun _ _ _ h => h) (Or.inl ⟨by rfl, ?_⟩) hHeld ?_
        rotate_left
        · (intro w' hSw; (try dsimp only at hSw); go_split_ands; go_simp; first | done | with_reducible rfl)
        try simp only [Act.put, List.setIfInBounds_toArray, List.set_cons_zero, List.set_cons_succ]
        refine wpAnyH_take (i := 12) (oi := { dst := some 70, op := Op.binOp BinOp.gtr 3 (Operand.tmp 69) (Operand.const (Value.int IntKind.i64 0)) 3, type := 4, pos := "law.go:146", after := #[{ on := 11, ground := Ground.data }, { on := 10, ground := Ground.guard }], guard := some (10, false) }) (v := ?_) rfl (by kernel_rfl) (by kernel_rfl) (by kernel_rfl) (fun _ _ _ h => h) (Or.inl ⟨by rfl, ?_⟩) hHeld ?_
        rotate_left
        · (intro w' hSw; (try dsimp only at hSw); go_split_ands; go_simp; first | done | with_reducible rfl)
        try simp only [Act.put, List.setIfInBounds_toArray, List.set_cons_zero, List.set_cons_succ]
        refine wpAnyH_take (i := 13) (oi := { dst := some 71, op := Op.move (Operand.tmp 70), type := 4, pos := "law.go:146", after := #[{ on := 12, ground := Ground.data }, { on := 10, ground := Ground.chain }, { on := 10, ground := Ground.guard }], guard := some (10, false) }) (v := .bool true) rfl (by kernel_rfl) (by kernel_rfl) (by kernel_rfl) (fun _ _ _ h => h) (Or.inl ⟨by rfl, ?_⟩) hHeld ?_
        · (intro w' hSw; (try dsimp only at hSw); go_split_ands; go_simp; first | done | with_reducible rfl | simp)
        try simp only [Act.put, List.setIfInBounds_toArray, List.set_cons_zero, List.set_cons_succ]
        refine wpAnyH_take (i := 14) (oi := { dst := some 72, op := Op.move (Operand.tmp 0), type := 22, pos := "law.go:146", after := #[{ on := 13, ground := Ground.guard }], guard := some (13, true) }) (v := ?_) rfl (by kernel_rfl) (by kernel_rfl) (by kernel_rfl) (fun _ _ _ h => h) (Or.inl ⟨by rfl, ?_⟩) hHeld ?_
        rotate_left
        · (intro w' hSw; (try dsimp only at hSw); go_split_ands; go_simp; first | done | with_reducible rfl)
        try simp only [Act.put, List.setIfInBounds_toArray, List.set_cons_zero, List.set_cons_succ]
        refine wpAnyH_take (i := 15) (oi := { dst := some 73, op := Op.move (Operand.tmp 12), type := 3, pos := "law.go:146", after := #[{ on := 13, ground := Ground.guard }], guard := some (13, true) }) (v := ?_) rfl (by kernel_rfl) (by kernel_rfl) (by kernel_rfl) (fun _ _ _ h => h) (Or.inl ⟨by rfl, ?_⟩) hHeld ?_
        rotate_left
        · (intro w' hSw; (try dsimp only at hSw); go_split_ands; go_simp; first | done | with_reducible rfl)
        try simp only [Act.put, List.setIfInBounds_toArray, List.set_cons_zero, List.set_cons_succ]
        refine wpAnyH_take (i := 16) (oi := { dst := some 74, op := Op.binOp BinOp.sub 3 (Operand.tmp 73) (Operand.const (Value.int IntKind.i64 1)) 3, type := 3, pos := "law.go:146", after := #[{ on := 15, ground := Ground.data }, { on := 13, ground := Ground.guard }], guard := some (13, true) }) (v := .int .i64 (j : Int)) rfl (by kernel_rfl) (by kernel_rfl) (by kernel_rfl) (fun _ _ _ h => h) (Or.inl ⟨by rfl, ?_⟩) hHeld ?_
        · (intro w' hSw; (try dsimp only at hSw); go_split_ands; go_simp; first | done | with_reducible rfl | simp)
        try simp only [Act.put, List.setIfInBounds_toArray, List.set_cons_zero, List.set_cons_succ]
        refine wpAnyH_take (i := 17) (oi := { dst := some 75, op := Op.indexAddr 22 (Operand.tmp 72) (Operand.tmp 74), type := 0, pos := "law.go:146", after := #[{ on := 14, ground := Ground.data }, { on := 16, ground := Ground.data }, { on := 13, ground := Ground.guard }], guard := some (13, true) }) (v := ?_) rfl (by kernel_rfl) (by kernel_rfl) (by kernel_rfl) (fun _ _ _ h => h) (Or.inl ⟨by rfl, ?_⟩) hHeld ?_
        rotate_left
        · (intro w' hSw; (try dsimp only at hSw); go_split_ands; go_simp; first | done | with_reducible rfl)
        try simp only [Act.put, List.setIfInBounds_toArray, List.set_cons_zero, List.set_cons_succ]
        refine wpAnyH_take (i := 18) (oi := { dst := some 76, op := Op.load 23 (Operand.tmp 75), type := 23, pos := "law.go:146", after := #[{ on := 17, ground := Ground.data }, { on := 13, ground := Ground.guard }], guard := some (13, true) }) (v := ?_) rfl (by kernel_rfl) (by kernel_rfl) (by kernel_rfl) (fun _ _ _ h => h) (Or.inl ⟨by rfl, ?_⟩) hHeld ?_
        rotate_left
        · (intro w' hSw; (try dsimp only at hSw); go_split_ands; go_simp; first | done | with_reducible rfl)
        try simp only [Act.put, List.setIfInBounds_toArray, List.set_cons_zero, List.set_cons_succ]
        refine wpAnyH_take (i := 19) (oi := { dst := some 77, op := Op.convert 23 9 (Operand.tmp 76), type := 9, pos := "law.go:146", after := #[{ on := 18, ground := Ground.data }, { on := 13, ground := Ground.guard }], guard := some (13, true) }) (v := ?_) rfl (by kernel_rfl) (by kernel_rfl) (by kernel_rfl) (fun _ _ _ h => h) (Or.inl ⟨by rfl, ?_⟩) hHeld ?_
        rotate_left
        · (intro w' hSw; (try dsimp only at hSw); go_split_ands; go_simp; first | done | with_reducible rfl)
        try simp only [Act.put, List.setIfInBounds_toArray, List.set_cons_zero, List.set_cons_succ]
        refine wpAnyH_take (i := 20) (oi := { dst := some 78, op := Op.move (Operand.tmp 1), type := 23, pos := "law.go:146", after := #[{ on := 13, ground := Ground.guard }], guard := some (13, true) }) (v := ?_) rfl (by kernel_rfl) (by kernel_rfl) (by kernel_rfl) (fun _ _ _ h => h) (Or.inl ⟨by rfl, ?_⟩) hHeld ?_
        rotate_left
        · (intro w' hSw; (try dsimp only at hSw); go_split_ands; go_simp; first | done | with_reducible rfl)
        try simp only [Act.put, List.setIfInBounds_toArray, List.set_cons_zero, List.set_cons_succ]
        refine wpAnyH_take (i := 21) (oi := { dst := some 79, op := Op.convert 23 9 (Operand.tmp 78), type := 9, pos := "law.go:146", after := #[{ on := 20, ground := Ground.data }, { on := 13, ground := Ground.guard }], guard := some (13, true) }) (v := ?_) rfl (by kernel_rfl) (by kernel_rfl) (by kernel_rfl) (fun _ _ _ h => h) (Or.inl ⟨by rfl, ?_⟩) hHeld ?_
        rotate_left
        · (intro w' hSw; (try dsimp only at hSw); go_split_ands; go_simp; first | done | with_reducible rfl)
        try simp only [Act.put, List.setIfInBounds_toArray, List.set_cons_zero, List.set_cons_succ]
        refine wpAnyH_take (i := 22) (oi := { dst := some 80, op := Op.binOp BinOp.geq 9 (Operand.tmp 77) (Operand.tmp 79) 9, type := 4, pos := "law.go:146", after := #[{ on := 19, ground := Ground.data }, { on := 21, ground := Ground.data }, { on := 13, ground := Ground.guard }], guard := some (13, true) }) (v := .bool false) rfl (by kernel_rfl) (by kernel_rfl) (by kernel_rfl) (fun _ _ _ h => h) (Or.inl ⟨by rfl, ?_⟩) hHeld ?_
        · (intro w' hSw; (try dsimp only at hSw); go_split_ands; go_simp; first | done | with_reducible rfl | simp [HBLE.out])
        try simp only [Act.put, List.setIfInBounds_toArray, List.set_cons_zero, List.set_cons_succ]
        refine wpAnyH_take (i := 23) (oi := { dst := some 81, op := Op.pick (Operand.tmp 71) (Operand.tmp 80) (Operand.const (Value.bool false)), type := 4, pos := "law.go:146", after := #[{ on := 13, ground := Ground.data }, { on := 22, ground := Ground.data }, { on := 10, ground := Ground.guard }], guard := some (10, false) }) (v := ?_) rfl (by kernel_rfl) (by kernel_rfl) (by kernel_rfl) (fun _ _ _ h => h) (Or.inl ⟨by rfl, ?_⟩) hHeld ?_
        rotate_left
        · (intro w' hSw; (try dsimp only at hSw); go_split_ands; go_simp; first | done | with_reducible rfl)
        try simp only [Act.put, List.setIfInBounds_toArray, List.set_cons_zero, List.set_cons_succ]
        refine wpAnyH_take (i := 24) (oi := { dst := some 82, op := Op.pick (Operand.tmp 68) (Operand.const (Value.bool true)) (Operand.tmp 81), type := 4, pos := "law.go:146", after := #[{ on := 10, ground := Ground.data }, { on := 23, ground := Ground.data }], guard := none }) (v := ?_) rfl (by kernel_rfl) (by kernel_rfl) (by kernel_rfl) (fun _ _ _ h => h) (Or.inl ⟨by rfl, ?_⟩) hHeld ?_
        rotate_left
        · (intro w' hSw; (try dsimp only at hSw); go_split_ands; go_simp; first | done | with_reducible rfl)
        try simp only [Act.put, List.setIfInBounds_toArray, List.set_cons_zero, List.set_cons_succ]
        refine wpAnyH_done (by kernel_rfl) ?_ _
        refine NoPanic.normal ?_
        go_wp2_with fail
        go_meet
        exact ⟨by first | rfl | simp, hd7⟩
      · rw [if_neg hck0] at hSD
        have hsm := Same_any _ A5 (n - k0) (c - k0) fl c5 (ls.drop k0) fr (by rw [List.length_drop, HN.out]) HFL.out W.drew (hSD.drew 1) (hS5.drew 1) (by omega)
        unfold BoolIs at hsm
        rw [show (ls.drop k0 == fr) = true from by rw [HFD.out]; simp] at hsm
        have HSM := Lib.hid hsm
        clear hsm hSD
        have hkp : ¬ (0 : Int) < (k0 : Int) := by omega
        go_wp2_with fail
        refine wp_region_noPanic ?_
        refine wp_region_held_drew (S := fun _ => True) (by kernel_rfl) ?_ (fun hHeld => ?_)
        · (trivial)
        refine wpAnyH_take (i := 0) (oi := { dst := some 58, op := Op.move (Operand.tmp 12), type := 3, pos := "law.go:146", after := #[], guard := none }) (v := ?_) rfl (by kernel_rfl) (by kernel_rfl) (by kernel_rfl) (fun _ _ _ h => h) (Or.inl ⟨by rfl, ?_⟩) hHeld ?_
        rotate_left
        · (intro w' hSw; (try dsimp only at hSw); go_split_ands; go_simp; first | done | with_reducible rfl)
        try simp only [Act.put, List.setIfInBounds_toArray, List.set_cons_zero, List.set_cons_succ]
        refine wpAnyH_take (i := 1) (oi := { dst := some 59, op := Op.binOp BinOp.lss 3 (Operand.tmp 58) (Operand.const (Value.int IntKind.i64 0)) 3, type := 4, pos := "law.go:146", after := #[{ on := 0, ground := Ground.data }], guard := none }) (v := ?_) rfl (by kernel_rfl) (by kernel_rfl) (by kernel_rfl) (fun _ _ _ h => h) (Or.inl ⟨by rfl, ?_⟩) hHeld ?_
        rotate_left
        · (intro w' hSw; (try dsimp only at hSw); go_split_ands; go_simp; first | done | with_reducible rfl)
        try simp only [Act.put, List.setIfInBounds_toArray, List.set_cons_zero, List.set_cons_succ]
        refine wpAnyH_take (i := 2) (oi := { dst := some 60, op := Op.move (Operand.tmp 59), type := 4, pos := "law.go:146", after := #[{ on := 1, ground := Ground.data }], guard := none }) (v := .bool false) rfl (by kernel_rfl) (by kernel_rfl) (by kernel_rfl) (fun _ _ _ h => h) (Or.inl ⟨by rfl, ?_⟩) hHeld ?_
        · (intro w' hSw; (try dsimp only at hSw); go_split_ands; go_simp; first | done | with_reducible rfl | simp)
        try simp only [Act.put, List.setIfInBounds_toArray, List.set_cons_zero, List.set_cons_succ]
        refine wpAnyH_take (i := 3) (oi := { dst := some 61, op := Op.move (Operand.tmp 0), type := 22, pos := "law.go:146", after := #[{ on := 2, ground := Ground.guard }], guard := some (2, false) }) (v := ?_) rfl (by kernel_rfl) (by kernel_rfl) (by kernel_rfl) (fun _ _ _ h => h) (Or.inl ⟨by rfl, ?_⟩) hHeld ?_
        rotate_left
        · (intro w' hSw; (try dsimp only at hSw); go_split_ands; go_simp; first | done | with_reducible rfl)
        try simp only [Act.put, List.setIfInBounds_toArray, List.set_cons_zero, List.set_cons_succ]
        refine wpAnyH_take (i := 4) (oi := { dst := some 62, op := Op.move (Operand.tmp 12), type := 3, pos := "law.go:146", after := #[{ on := 2, ground := Ground.guard }], guard := some (2, false) }) (v := ?_) rfl (by kernel_rfl) (by kernel_rfl) (by kernel_rfl) (fun _ _ _ h => h) (Or.inl ⟨by rfl, ?_⟩) hHeld ?_
        rotate_left
        · (intro w' hSw; (try dsimp only at hSw); go_split_ands; go_simp; first | done | with_reducible rfl)
        try simp only [Act.put, List.setIfInBounds_toArray, List.set_cons_zero, List.set_cons_succ]
        refine wpAnyH_take (i := 5) (oi := { dst := some 63, op := Op.slice 22 (Operand.tmp 61) (some (Operand.tmp 62)) none none, type := 22, pos := "law.go:146", after := #[{ on := 3, ground := Ground.data }, { on := 4, ground := Ground.data }, { on := 2, ground := Ground.guard }], guard := some (2, false) }) (v := ?_) rfl (by kernel_rfl) (by kernel_rfl) (by kernel_rfl) (fun _ _ _ h => h) (Or.inl ⟨by rfl, ?_⟩) hHeld ?_
        rotate_left
        · (intro w' hSw; (try dsimp only at hSw); go_split_ands; go_simp; first | done | with_reducible rfl)
        try simp only [Act.put, List.setIfInBounds_toArray, List.set_cons_zero, List.set_cons_succ]
        refine wpAnyH_take (i := 6) (oi := { dst := some 64, op := Op.move (Operand.tmp 11), type := 22, pos := "law.go:146", after := #[{ on := 2, ground := Ground.guard }], guard := some (2, false) }) (v := ?_) rfl (by kernel_rfl) (by kernel_rfl) (by kernel_rfl) (fun _ _ _ h => h) (Or.inl ⟨by rfl, ?_⟩) hHeld ?_
        rotate_left
        · (intro w' hSw; (try dsimp only at hSw); go_split_ands; go_simp; first | done | with_reducible rfl)
        try simp only [Act.put, List.setIfInBounds_toArray, List.set_cons_zero, List.set_cons_succ]
        refine wpAnyH_ready (rs := [7]) (by kernel_rfl) (by simp) ?_
        refine AllReadyH.cons (o := { dst := some 65, op := Op.call { callee := Callee.value (Operand.func 15), args := #[Operand.tmp 63, Operand.tmp 64], argTypes := #[22, 22] }, type := 4, pos := "law.go:146", after := #[{ on := 5, ground := Ground.data }, { on := 6, ground := Ground.data }, { on := 2, ground := Ground.chain }, { on := 2, ground := Ground.guard }], guard := some (2, false) }) rfl (fun K hK => ?_) AllReadyH.nil
        go_simp
        refine HSM.out.mono ?_
        rintro en w7 ⟨rfl, q7, hw7⟩
        have hd7 : ∃ q, w7 = W.drewN q := ⟨1 + q7, by rw [hw7]; exact World.drewN_drewN W 1 q7⟩
        clear HSM hw7
        go_wp2_with fail
        refine hK.out _ _ ?_ ?_
        · (trivial)
        clear hK K hHeld; intro hHeld
        try simp only [Act.put, List.setIfInBounds_toArray, List.set_cons_zero, List.set_cons_succ]
        refine wpAnyH_take (i := 8) (oi := { dst := some 66, op := Op.unOp UnOp.not 4 (Operand.tmp 65), type := 4, pos := "law.go:146", after := #[{ on := 7, ground := Ground.data }, { on := 2, ground := Ground.guard }], guard := some (2, false) }) (v := ?_) rfl (by kernel_rfl) (by kernel_rfl) (by kernel_rfl) (fun _ _ _ h => h) (Or.inl ⟨by rfl, ?_⟩) hHeld ?_
        rotate_left
        · (intro w' hSw; (try dsimp only at hSw); go_split_ands; go_simp; first | done | with_reducible rfl)
        try simp only [Act.put, List.setIfInBounds_toArray, List.set_cons_zero, List.set_cons_succ]
        refine wpAnyH_take (i := 9) (oi := { dst := some 67, op := Op.pick (Operand.tmp 60) (Operand.const (Value.bool true)) (Operand.tmp 66), type := 4, pos := "law.go:146", after := #[{ on := 2, ground := Ground.data }, { on := 8, ground := Ground.data }], guard := none }) (v := ?_) rfl (by kernel_rfl) (by kernel_rfl) (by kernel_rfl) (fun _ _ _ h => h) (Or.inl ⟨by rfl, ?_⟩) hHeld ?_
        rotate_left
        · (intro w' hSw; (try dsimp only at hSw); go_split_ands; go_simp; first | done | with_reducible rfl)
        try simp only [Act.put, List.setIfInBounds_toArray, List.set_cons_zero, List.set_cons_succ]
        refine wpAnyH_take (i := 10) (oi := { dst := some 68, op := Op.move (Operand.tmp 67), type := 4, pos := "law.go:146", after := #[{ on := 9, ground := Ground.data }, { on := 7, ground := Ground.chain }], guard := none }) (v := .bool false) rfl (by kernel_rfl) (by kernel_rfl) (by kernel_rfl) (fun _ _ _ h => h) (Or.inl ⟨by rfl, ?_⟩) hHeld ?_
        · (intro w' hSw; (try dsimp only at hSw); go_split_ands; go_simp; first | done | with_reducible rfl | simp)
        try simp only [Act.put, List.setIfInBounds_toArray, List.set_cons_zero, List.set_cons_succ]
        refine wpAnyH_take (i := 11) (oi := { dst := some 69, op := Op.move (Operand.tmp 12), type := 3, pos := "law.go:146", after := #[{ on := 10, ground := Ground.guard }], guard := some (10, false) }) (v := ?_) rfl (by kernel_rfl) (by kernel_rfl) (by kernel_rfl) (fun _ _ _ h => h) (Or.inl ⟨by rfl, ?_⟩) hHeld ?_
        rotate_left
        · (intro w' hSw; (try dsimp only at hSw); go_split_ands; go_simp; first | done | with_reducible rfl)
        try simp only [Act.put, List.setIfInBounds_toArray, List.set_cons_zero, List.set_cons_succ]
        refine wpAnyH_take (i := 12) (oi := { dst := some 70, op := Op.binOp BinOp.gtr 3 (Operand.tmp 69) (Operand.const (Value.int IntKind.i64 0)) 3, type := 4, pos := "law.go:146", after := #[{ on := 11, ground := Ground.data }, { on := 10, ground := Ground.guard }], guard := some (10, false) }) (v := ?_) rfl (by kernel_rfl) (by kernel_rfl) (by kernel_rfl) (fun _ _ _ h => h) (Or.inl ⟨by rfl, ?_⟩) hHeld ?_
        rotate_left
        · (intro w' hSw; (try dsimp only at hSw); go_split_ands; go_simp; first | done | with_reducible rfl)
        try simp only [Act.put, List.setIfInBounds_toArray, List.set_cons_zero, List.set_cons_succ]
        refine wpAnyH_take (i := 13) (oi := { dst := some 71, op := Op.move (Operand.tmp 70), type := 4, pos := "law.go:146", after := #[{ on := 12, ground := Ground.data }, { on := 10, ground := Ground.chain }, { on := 10, ground := Ground.guard }], guard := some (10, false) }) (v := .bool false) rfl (by kernel_rfl) (by kernel_rfl) (by kernel_rfl) (fun _ _ _ h => h) (Or.inl ⟨by rfl, ?_⟩) hHeld ?_
        · (intro w' hSw; (try dsimp only at hSw); go_split_ands; go_simp; first | done | with_reducible rfl | simp)
        try simp only [Act.put, List.setIfInBounds_toArray, List.set_cons_zero, List.set_cons_succ]
        refine wpAnyH_take (i := 14) (oi := { dst := some 72, op := Op.move (Operand.tmp 0), type := 22, pos := "law.go:146", after := #[{ on := 13, ground := Ground.guard }], guard := some (13, true) }) (v := undef) rfl (by kernel_rfl) (by kernel_rfl) (by kernel_rfl) (fun _ _ _ h => h) (Or.inr ⟨by rfl, rfl⟩) hHeld ?_
        try simp only [Act.put, List.setIfInBounds_toArray, List.set_cons_zero, List.set_cons_succ]
        refine wpAnyH_take (i := 15) (oi := { dst := some 73, op := Op.move (Operand.tmp 12), type := 3, pos := "law.go:146", after := #[{ on := 13, ground := Ground.guard }], guard := some (13, true) }) (v := undef) rfl (by kernel_rfl) (by kernel_rfl) (by kernel_rfl) (fun _ _ _ h => h) (Or.inr ⟨by rfl, rfl⟩) hHeld ?_
        try simp only [Act.put, List.setIfInBounds_toArray, List.set_cons_zero, List.set_cons_succ]
        refine wpAnyH_take (i := 16) (oi := { dst := some 74, op := Op.binOp BinOp.sub 3 (Operand.tmp 73) (Operand.const (Value.int IntKind.i64 1)) 3, type := 3, pos := "law.go:146", after := #[{ on := 15, ground := Ground.data }, { on := 13, ground := Ground.guard }], guard := some (13, true) }) (v := undef) rfl (by kernel_rfl) (by kernel_rfl) (by kernel_rfl) (fun _ _ _ h => h) (Or.inr ⟨by rfl, rfl⟩) hHeld ?_
        try simp only [Act.put, List.setIfInBounds_toArray, List.set_cons_zero, List.set_cons_succ]
        refine wpAnyH_take (i := 17) (oi := { dst := some 75, op := Op.indexAddr 22 (Operand.tmp 72) (Operand.tmp 74), type := 0, pos := "law.go:146", after := #[{ on := 14, ground := Ground.data }, { on := 16, ground := Ground.data }, { on := 13, ground := Ground.guard }], guard := some (13, true) }) (v := undef) rfl (by kernel_rfl) (by kernel_rfl) (by kernel_rfl) (fun _ _ _ h => h) (Or.inr ⟨by rfl, rfl⟩) hHeld ?_
        try simp only [Act.put, List.setIfInBounds_toArray, List.set_cons_zero, List.set_cons_succ]
        refine wpAnyH_take (i := 18) (oi := { dst := some 76, op := Op.load 23 (Operand.tmp 75), type := 23, pos := "law.go:146", after := #[{ on := 17, ground := Ground.data }, { on := 13, ground := Ground.guard }], guard := some (13, true) }) (v := undef) rfl (by kernel_rfl) (by kernel_rfl) (by kernel_rfl) (fun _ _ _ h => h) (Or.inr ⟨by rfl, rfl⟩) hHeld ?_
        try simp only [Act.put, List.setIfInBounds_toArray, List.set_cons_zero, List.set_cons_succ]
        refine wpAnyH_take (i := 19) (oi := { dst := some 77, op := Op.convert 23 9 (Operand.tmp 76), type := 9, pos := "law.go:146", after := #[{ on := 18, ground := Ground.data }, { on := 13, ground := Ground.guard }], guard := some (13, true) }) (v := undef) rfl (by kernel_rfl) (by kernel_rfl) (by kernel_rfl) (fun _ _ _ h => h) (Or.inr ⟨by rfl, rfl⟩) hHeld ?_
        try simp only [Act.put, List.setIfInBounds_toArray, List.set_cons_zero, List.set_cons_succ]
        refine wpAnyH_take (i := 20) (oi := { dst := some 78, op := Op.move (Operand.tmp 1), type := 23, pos := "law.go:146", after := #[{ on := 13, ground := Ground.guard }], guard := some (13, true) }) (v := undef) rfl (by kernel_rfl) (by kernel_rfl) (by kernel_rfl) (fun _ _ _ h => h) (Or.inr ⟨by rfl, rfl⟩) hHeld ?_
        try simp only [Act.put, List.setIfInBounds_toArray, List.set_cons_zero, List.set_cons_succ]
        refine wpAnyH_take (i := 21) (oi := { dst := some 79, op := Op.convert 23 9 (Operand.tmp 78), type := 9, pos := "law.go:146", after := #[{ on := 20, ground := Ground.data }, { on := 13, ground := Ground.guard }], guard := some (13, true) }) (v := undef) rfl (by kernel_rfl) (by kernel_rfl) (by kernel_rfl) (fun _ _ _ h => h) (Or.inr ⟨by rfl, rfl⟩) hHeld ?_
        try simp only [Act.put, List.setIfInBounds_toArray, List.set_cons_zero, List.set_cons_succ]
        refine wpAnyH_take (i := 22) (oi := { dst := some 80, op := Op.binOp BinOp.geq 9 (Operand.tmp 77) (Operand.tmp 79) 9, type := 4, pos := "law.go:146", after := #[{ on := 19, ground := Ground.data }, { on := 21, ground := Ground.data }, { on := 13, ground := Ground.guard }], guard := some (13, true) }) (v := undef) rfl (by kernel_rfl) (by kernel_rfl) (by kernel_rfl) (fun _ _ _ h => h) (Or.inr ⟨by rfl, rfl⟩) hHeld ?_
        try simp only [Act.put, List.setIfInBounds_toArray, List.set_cons_zero, List.set_cons_succ]
        refine wpAnyH_take (i := 23) (oi := { dst := some 81, op := Op.pick (Operand.tmp 71) (Operand.tmp 80) (Operand.const (Value.bool false)), type := 4, pos := "law.go:146", after := #[{ on := 13, ground := Ground.data }, { on := 22, ground := Ground.data }, { on := 10, ground := Ground.guard }], guard := some (10, false) }) (v := ?_) rfl (by kernel_rfl) (by kernel_rfl) (by kernel_rfl) (fun _ _ _ h => h) (Or.inl ⟨by rfl, ?_⟩) hHeld ?_
        rotate_left
        · (intro w' hSw; (try dsimp only at hSw); go_split_ands; go_simp; first | done | with_reducible rfl)
        try simp only [Act.put, List.setIfInBounds_toArray, List.set_cons_zero, List.set_cons_succ]
        refine wpAnyH_take (i := 24) (oi := { dst := some 82, op := Op.pick (Operand.tmp 68) (Operand.const (Value.bool true)) (Operand.tmp 81), type := 4, pos := "law.go:146", after := #[{ on := 10, ground := Ground.data }, { on := 23, ground := Ground.data }], guard := none }) (v := ?_) rfl (by kernel_rfl) (by kernel_rfl) (by kernel_rfl) (fun _ _ _ h => h) (Or.inl ⟨by rfl, ?_⟩) hHeld ?_
        rotate_left
        · (intro w' hSw; (try dsimp only at hSw); go_split_ands; go_simp; first | done | with_reducible rfl)
        try simp only [Act.put, List.setIfInBounds_toArray, List.set_cons_zero, List.set_cons_succ]
        refine wpAnyH_done (by kernel_rfl) ?_ _
        refine NoPanic.normal ?_
        go_wp2_with fail
        go_meet
        exact ⟨by first | rfl | simp, hd7⟩
  case rest =>
    obtain ⟨rfl, q, hwV⟩ := hcut
    have hbWV : Below W.heap.size W wc := by rw [hwV]; exact below_d (Below.refl _ _) _
    have hpV := hpW.later hbWV
    have hb0V := hb0W.trans (hbWV.mono hb0W.size)
    have hS5V := (hS5.below hbWV).more hbWV.size
    clear hwV hpW hb0W hS5 hbWV hSW hxW
    go_wp2_with fail
    go_loopg [13, 14] 256 (fun g u i wr => ∃ (k m : Nat), k + g = 256 ∧ i = .int .i64 k ∧ u = .int .i64 m ∧ Hid ((ls.filter (headLt k)).length = m) ∧ m ≤ n ∧ Below wc.heap.size wc wr)
    case atStart => exact ⟨0, 0, by omega, rfl, rfl, by unfold Hid; rw [List.filter_eq_nil_iff.2 (fun y _ => by cases y <;> simp [headLt])]; rfl, by omega, Below.refl _ _⟩
    case round =>
      obtain ⟨k, m, hk, rfl, rfl, hcnt, hmn, hbr⟩ := hrel
      by_cases hlt : k < 256
      · have hcv : IntKind.u8.wrap (k : Int) = (k : Int) := by rw [show IntKind.u8.wrap (k : Int) = (k : Int) % 256 from by rfl]; omega
        obtain ⟨b, hb⟩ : ∃ b, UInt8.ofNat k = b := ⟨_, rfl⟩
        have hbk : (k : Int) = (b.toNat : Int) := by rw [← hb, u8_nat k hlt]
        have hst := cnt_step hlt ls
        have hfl1 := List.length_filter_le (headLt (k + 1)) ls
        rw [HN.out] at hfl1
        rw [hb] at hst
        rw [hcnt.out] at hst
        have hpr := (hpV.later hbr).later (w' := wr.alloc (.cells #[.int .u8 (k : Int)] 5)) ((Below.refl _ wr).alloc (Nat.le_refl _) _)
        have hsx : Sees (wr.alloc (.cells #[.int .u8 (k : Int)] 5)) (wr.alloc (.cells #[.int .u8 (k : Int)] 5)).heap.size (some ⟨wr.heap.size, 0, none⟩) (bv [b]) := by
          have := sees_cell1 wr (.int .u8 (k : Int)) 5
          rw [show bv [b] = [.int .u8 (k : Int)] from by rw [hbk]; rfl]
          exact this
        have hPr := Prefix_part (lx := 1) (dx := 1) hpr hsx rfl
        obtain ⟨Y, hY⟩ : ∃ Y, ls.filter (preB [b]) = Y := ⟨_, rfl⟩
        rw [hY] at hPr hst
        obtain ⟨z, hz⟩ : ∃ z, Y.length = z := ⟨_, rfl⟩
        rw [hz] at hst
        rw [hst] at hfl1
        have hadd : IntKind.i64.wrap ((m : Int) + (z : Int)) = ((m + z : Nat) : Int) := by rw [IntKind.wrap_i64]; omega
        have HPr := Lib.hid hPr
        have HZ := Lib.hid hz
        have HST := Lib.hid hst
        have hba : Below wc.heap.size wc (wr.alloc (.cells #[.int .u8 (k : Int)] 5)) := hbr.alloc hbr.size _
        clear hPr hz hst hb hbk hY hsx hpr
        go_wp2_with fail
        refine HPr.out.mono ?_
        rintro e w6 hIs
        obtain ⟨A6, c6, rfl, -, -, hb6⟩ := hIs.open_
        rw [HZ.out]
        have hb6' := hba.trans (hb6.mono hba.size)
        clear hIs HPr hb6 hba
        go_wp2_with fail
        go_roundg (256 - (k + 1))
        case measure => omega
        case rel => exact ⟨k + 1, m + z, by omega, by go_num, rfl, HST.out, hfl1, hb6'⟩
      · have hk256 : k = 256 := by omega
        have hmn2 : m = n := by have h1 := hcnt.out; rw [hk256, cnt_all HOK.out, HN.out] at h1; omega
        clear hcnt hmn
        subst hmn2
        have hpr := hpV.later hbr
        have hb0r := hb0V.trans (hbr.mono hb0V.size)
        have hPr := Prefix_part (lx := lx) (dx := dx) hpr ((hx.below hb0r).more hb0r.size) HXL.out
        obtain ⟨Y, hY⟩ : ∃ Y, ls.filter (preB x) = Y := ⟨_, rfl⟩
        have hmem : ∀ y ∈ Y, y ∈ ls := fun y hy => by rw [← hY] at hy; exact (List.mem_filter.1 hy).1
        have hyfl : Y.length ≤ fl := by rw [← hY]; exact HPLE.out
        rw [hY] at hPr
        have HPr := Lib.hid hPr
        have HMEM := Lib.hid hmem
        clear hPr hY hmem hk256 hpr
        go_wp2_with fail
        refine HPr.out.mono ?_
        rintro e w6 hIs
        obtain ⟨A6, c6, rfl, hc6, hS6, hb6⟩ := hIs.open_
        obtain ⟨z, hz⟩ : ∃ z, Y.length = z := ⟨_, rfl⟩
        rw [hz] at hc6 hyfl ⊢
        have HZ := Lib.hid hz
        have hb06 := hb0r.trans (hb6.mono hb0r.size)
        have hbx6 := hbr.trans (hb6.mono hbr.size)
        have hp6 := hpV.later hbx6
        have hS56 := (hS5V.below hbx6).more hbx6.size
        clear hIs HPr hz hb6 hbr hb0r hb0V hpV hS5V hbx6
        go_wp2
        go_loopg [16] z (fun g i wr => ∃ (k : Nat), k + g = z ∧ i = .int .i64 k ∧ Below w6.heap.size w6 wr)
        case atStart => exact ⟨0, by omega, rfl, Below.refl _ _⟩
        case round =>
          obtain ⟨k, hk, rfl, hbz⟩ := hrel
          have hb0Z := hb06.trans (hbz.mono hb06.size)
          have hpZ := hp6.later hbz
          by_cases hlt2 : k < z
          · obtain ⟨ad, Ai, ci, rfl, hadB, hcell0, hci, hsee⟩ := hS6.out k (by have := HZ.out; omega)
            have hin := HMEM.out _ (List.getElem_mem (by have := HZ.out; omega : k < Y.length))
            obtain ⟨L, hL⟩ : ∃ L, Y[k]'(by have := HZ.out; omega) = L := ⟨_, rfl⟩
            rw [hL] at hcell0 hci hsee hin
            have hcell := (hbz.cell (p := ad.add k) (by rw [add_block]; exact hadB)).trans hcell0
            have hHa := Has_part (lx := L.length) (dx := ci) hpZ ((hsee.below hbz).more hbz.size) rfl
            rw [decide_eq_true hin] at hHa
            have HHa := Lib.hid hHa
            clear hL hHa hin
            go_wp2_with fail
            refine HHa.out.mono ?_
            rintro e w7 ⟨rfl, hb7⟩
            have hb7' := hbz.trans (hb7.mono hbz.size)
            clear HHa hb7
            go_wp2_with fail
            go_roundg (z - (k + 1))
            case measure => omega
            case rel => exact ⟨k + 1, by omega, by go_num, hb7'⟩
          · have hS5Z := (hS56.below hbz).more hbz.size
            have hxZ := (hx.below hb0Z).more hb0Z.size
            obtain ⟨Z, hZ⟩ : ∃ Z, wr = Z := ⟨_, rfl⟩
            rw [hZ] at hS5Z hxZ hb0Z hpZ hbz ⊢
            clear hZ
            have hbD : Below Z.heap.size Z Z.drew := below_drew (Below.refl _ _)
            have hpD := hpZ.later hbD
            have HPL : Hid ((z : Int) ≤ (fl : Int)) := by unfold Hid; omega
            cases fr with
            | nil =>
              have hfl0 : fl = 0 := HFL.out.symm
              subst hfl0
              have HMX : Hid (decide (x ∈ ls) = false) := by
                unfold Hid
                rw [decide_eq_false_iff_not]
                intro e
                have := HHEAD.out.2 e
                simp at this
              have HK := Lib.hid (fun w' (hb : Below Z.heap.size Z w') => run_str w' _ Bx lx dx x ((hxZ.below hb).more hb.size) HXL.out)
              go_wp2_with fail
              refine wp_region_noPanic ?_
              refine wp_region_held_drew (S := fun w' => (convert 23 9 (.slice Bx lx dx)).run Tryd.prog w' = .ok (.string (strOf x)) w') (by kernel_rfl) ?_ (fun hHeld => ?_)
              · (exact HK.out _ hbD)
              refine wpAnyH_take (i := 0) (oi := { dst := some 111, op := Op.move (Operand.tmp 13), type := 3, pos := "law.go:159", after := #[], guard := none }) (v := ?_) rfl (by kernel_rfl) (by kernel_rfl) (by kernel_rfl) (fun _ _ _ h => h) (Or.inl ⟨by rfl, ?_⟩) hHeld ?_
              rotate_left
              · (intro w' hSw; (try dsimp only at hSw); go_split_ands; go_simp; first | done | with_reducible rfl)
              try simp only [Act.put, List.setIfInBounds_toArray, List.set_cons_zero, List.set_cons_succ]
              refine wpAnyH_take (i := 1) (oi := { dst := some 112, op := Op.move (Operand.tmp 0), type := 22, pos := "law.go:159", after := #[], guard := none }) (v := ?_) rfl (by kernel_rfl) (by kernel_rfl) (by kernel_rfl) (fun _ _ _ h => h) (Or.inl ⟨by rfl, ?_⟩) hHeld ?_
              rotate_left
              · (intro w' hSw; (try dsimp only at hSw); go_split_ands; go_simp; first | done | with_reducible rfl)
              try simp only [Act.put, List.setIfInBounds_toArray, List.set_cons_zero, List.set_cons_succ]
              refine wpAnyH_take (i := 2) (oi := { dst := some 113, op := Op.call { callee := Callee.builtin Builtin.len, args := #[Operand.tmp 112], argTypes := #[22] }, type := 3, pos := "law.go:159", after := #[{ on := 1, ground := Ground.data }], guard := none }) (v := ?_) rfl (by kernel_rfl) (by kernel_rfl) (by kernel_rfl) (fun _ _ _ h => h) (Or.inl ⟨by rfl, ?_⟩) hHeld ?_
              rotate_left
              · (intro w' hSw; (try dsimp only at hSw); go_split_ands; go_simp; first | done | with_reducible rfl)
              try simp only [Act.put, List.setIfInBounds_toArray, List.set_cons_zero, List.set_cons_succ]
              refine wpAnyH_take (i := 3) (oi := { dst := some 114, op := Op.binOp BinOp.eql 3 (Operand.tmp 111) (Operand.tmp 113) 3, type := 4, pos := "law.go:159", after := #[{ on := 0, ground := Ground.data }, { on := 2, ground := Ground.data }], guard := none }) (v := .bool true) rfl (by kernel_rfl) (by kernel_rfl) (by kernel_rfl) (fun _ _ _ h => h) (Or.inl ⟨by rfl, ?_⟩) hHeld ?_
              · (intro w' hSw; (try dsimp only at hSw); go_split_ands; go_simp; first | done | with_reducible rfl | simp)
              try simp only [Act.put, List.setIfInBounds_toArray, List.set_cons_zero, List.set_cons_succ]
              refine wpAnyH_take (i := 4) (oi := { dst := some 115, op := Op.move (Operand.tmp 114), type := 4, pos := "law.go:159", after := #[{ on := 3, ground := Ground.data }], guard := none }) (v := ?_) rfl (by kernel_rfl) (by kernel_rfl) (by kernel_rfl) (fun _ _ _ h => h) (Or.inl ⟨by rfl, ?_⟩) hHeld ?_
              rotate_left
              · (intro w' hSw; (try dsimp only at hSw); go_split_ands; go_simp; first | done | with_reducible rfl)
              try simp only [Act.put, List.setIfInBounds_toArray, List.set_cons_zero, List.set_cons_succ]
              refine wpAnyH_take (i := 5) (oi := { dst := some 116, op := Op.move (Operand.tmp 9), type := 29, pos := "law.go:159", after := #[{ on := 4, ground := Ground.guard }], guard := some (4, true) }) (v := ?_) rfl (by kernel_rfl) (by kernel_rfl) (by kernel_rfl) (fun _ _ _ h => h) (Or.inl ⟨by rfl, ?_⟩) hHeld ?_
              rotate_left
              · (intro w' hSw; (try dsimp only at hSw); go_split_ands; go_simp; first | done | with_reducible rfl)
              try simp only [Act.put, List.setIfInBounds_toArray, List.set_cons_zero, List.set_cons_succ]
              refine wpAnyH_take (i := 8) (oi := { dst := some 119, op := Op.move (Operand.tmp 0), type := 22, pos := "law.go:159", after := #[{ on := 4, ground := Ground.guard }], guard := some (4, true) }) (v := ?_) rfl (by kernel_rfl) (by kernel_rfl) (by kernel_rfl) (fun _ _ _ h => h) (Or.inl ⟨by rfl, ?_⟩) hHeld ?_
              rotate_left
              · (intro w' hSw; (try dsimp only at hSw); go_split_ands; go_simp; first | done | with_reducible rfl)
              try simp only [Act.put, List.setIfInBounds_toArray, List.set_cons_zero, List.set_cons_succ]
              refine wpAnyH_take (i := 9) (oi := { dst := some 120, op := Op.call { callee := Callee.builtin Builtin.len, args := #[Operand.tmp 119], argTypes := #[22] }, type := 3, pos := "law.go:159", after := #[{ on := 8, ground := Ground.data }, { on := 4, ground := Ground.guard }], guard := some (4, true) }) (v := ?_) rfl (by kernel_rfl) (by kernel_rfl) (by kernel_rfl) (fun _ _ _ h => h) (Or.inl ⟨by rfl, ?_⟩) hHeld ?_
              rotate_left
              · (intro w' hSw; (try dsimp only at hSw); go_split_ands; go_simp; first | done | with_reducible rfl)
              try simp only [Act.put, List.setIfInBounds_toArray, List.set_cons_zero, List.set_cons_succ]
              refine wpAnyH_ready (rs := [6]) (by kernel_rfl) (by simp) ?_
              refine AllReadyH.cons (o := { dst := some 117, op := Op.call { callee := Callee.value (Operand.func 24), args := #[Operand.tmp 116, Operand.const (Value.slice none 0 0)], argTypes := #[29, 23] }, type := 22, pos := "law.go:159", after := #[{ on := 5, ground := Ground.data }, { on := 4, ground := Ground.chain }, { on := 4, ground := Ground.guard }], guard := some (4, true) }) rfl (fun K hK => ?_) AllReadyH.nil
              go_simp
              have hPn := Prefix_part (Bx := none) (lx := 0) (dx := 0) (x := []) hpD ⟨.inl rfl⟩ rfl
              rw [show ls.filter (preB []) = ls from List.filter_eq_self.2 fun y _ => preB_nil y] at hPn
              refine hPn.mono ?_
              rintro en w6 hIs
              obtain ⟨A6, c6, rfl, -, -, hb6'⟩ := hIs.open_
              rw [HN.out]
              have hb6 : Below Z.heap.size Z w6 := hbD.trans hb6'
              clear hPn hIs
              go_wp2_with fail
              refine hK.out _ _ ?_ ?_
              · (exact HK.out _ hb6)
              clear hK K hHeld; intro hHeld
              try simp only [Act.put, List.setIfInBounds_toArray, List.set_cons_zero, List.set_cons_succ]
              refine wpAnyH_take (i := 7) (oi := { dst := some 118, op := Op.call { callee := Callee.builtin Builtin.len, args := #[Operand.tmp 117], argTypes := #[22] }, type := 3, pos := "law.go:159", after := #[{ on := 6, ground := Ground.data }, { on := 4, ground := Ground.guard }], guard := some (4, true) }) (v := ?_) rfl (by kernel_rfl) (by kernel_rfl) (by kernel_rfl) (fun _ _ _ h => h) (Or.inl ⟨by rfl, ?_⟩) hHeld ?_
              rotate_left
              · (intro w' hSw; (try dsimp only at hSw); go_split_ands; go_simp; first | done | with_reducible rfl)
              try simp only [Act.put, List.setIfInBounds_toArray, List.set_cons_zero, List.set_cons_succ]
              refine wpAnyH_take (i := 10) (oi := { dst := some 121, op := Op.binOp BinOp.eql 3 (Operand.tmp 118) (Operand.tmp 120) 3, type := 4, pos := "law.go:159", after := #[{ on := 7, ground := Ground.data }, { on := 9, ground := Ground.data }, { on := 4, ground := Ground.guard }], guard := some (4, true) }) (v := .bool true) rfl (by kernel_rfl) (by kernel_rfl) (by kernel_rfl) (fun _ _ _ h => h) (Or.inl ⟨by rfl, ?_⟩) hHeld ?_
              · (intro w' hSw; (try dsimp only at hSw); go_split_ands; go_simp; first | done | with_reducible rfl | simp)
              try simp only [Act.put, List.setIfInBounds_toArray, List.set_cons_zero, List.set_cons_succ]
              refine wpAnyH_take (i := 11) (oi := { dst := some 122, op := Op.pick (Operand.tmp 115) (Operand.tmp 121) (Operand.const (Value.bool false)), type := 4, pos := "law.go:159", after := #[{ on := 4, ground := Ground.data }, { on := 10, ground := Ground.data }], guard := none }) (v := ?_) rfl (by kernel_rfl) (by kernel_rfl) (by kernel_rfl) (fun _ _ _ h => h) (Or.inl ⟨by rfl, ?_⟩) hHeld ?_
              rotate_left
              · (intro w' hSw; (try dsimp only at hSw); go_split_ands; go_simp; first | done | with_reducible rfl)
              try simp only [Act.put, List.setIfInBounds_toArray, List.set_cons_zero, List.set_cons_succ]
              refine wpAnyH_take (i := 12) (oi := { dst := some 123, op := Op.move (Operand.tmp 122), type := 4, pos := "law.go:159", after := #[{ on := 11, ground := Ground.data }, { on := 6, ground := Ground.chain }], guard := none }) (v := ?_) rfl (by kernel_rfl) (by kernel_rfl) (by kernel_rfl) (fun _ _ _ h => h) (Or.inl ⟨by rfl, ?_⟩) hHeld ?_
              rotate_left
              · (intro w' hSw; (try dsimp only at hSw); go_split_ands; go_simp; first | done | with_reducible rfl)
              try simp only [Act.put, List.setIfInBounds_toArray, List.set_cons_zero, List.set_cons_succ]
              refine wpAnyH_take (i := 13) (oi := { dst := some 124, op := Op.move (Operand.tmp 15), type := 22, pos := "law.go:159", after := #[{ on := 12, ground := Ground.guard }], guard := some (12, true) }) (v := ?_) rfl (by kernel_rfl) (by kernel_rfl) (by kernel_rfl) (fun _ _ _ h => h) (Or.inl ⟨by rfl, ?_⟩) hHeld ?_
              rotate_left
              · (intro w' hSw; (try dsimp only at hSw); go_split_ands; go_simp; first | done | with_reducible rfl)
              try simp only [Act.put, List.setIfInBounds_toArray, List.set_cons_zero, List.set_cons_succ]
              refine wpAnyH_take (i := 14) (oi := { dst := some 125, op := Op.call { callee := Callee.builtin Builtin.len, args := #[Operand.tmp 124], argTypes := #[22] }, type := 3, pos := "law.go:159", after := #[{ on := 13, ground := Ground.data }, { on := 12, ground := Ground.guard }], guard := some (12, true) }) (v := ?_) rfl (by kernel_rfl) (by kernel_rfl) (by kernel_rfl) (fun _ _ _ h => h) (Or.inl ⟨by rfl, ?_⟩) hHeld ?_
              rotate_left
              · (intro w' hSw; (try dsimp only at hSw); go_split_ands; go_simp; first | done | with_reducible rfl)
              try simp only [Act.put, List.setIfInBounds_toArray, List.set_cons_zero, List.set_cons_succ]
              refine wpAnyH_take (i := 15) (oi := { dst := some 126, op := Op.move (Operand.tmp 11), type := 22, pos := "law.go:159", after := #[{ on := 12, ground := Ground.guard }], guard := some (12, true) }) (v := ?_) rfl (by kernel_rfl) (by kernel_rfl) (by kernel_rfl) (fun _ _ _ h => h) (Or.inl ⟨by rfl, ?_⟩) hHeld ?_
              rotate_left
              · (intro w' hSw; (try dsimp only at hSw); go_split_ands; go_simp; first | done | with_reducible rfl)
              try simp only [Act.put, List.setIfInBounds_toArray, List.set_cons_zero, List.set_cons_succ]
              refine wpAnyH_take (i := 16) (oi := { dst := some 127, op := Op.call { callee := Callee.builtin Builtin.len, args := #[Operand.tmp 126], argTypes := #[22] }, type := 3, pos := "law.go:159", after := #[{ on := 15, ground := Ground.data }, { on := 12, ground := Ground.guard }], guard := some (12, true) }) (v := ?_) rfl (by kernel_rfl) (by kernel_rfl) (by kernel_rfl) (fun _ _ _ h => h) (Or.inl ⟨by rfl, ?_⟩) hHeld ?_
              rotate_left
              · (intro w' hSw; (try dsimp only at hSw); go_split_ands; go_simp; first | done | with_reducible rfl)
              try simp only [Act.put, List.setIfInBounds_toArray, List.set_cons_zero, List.set_cons_succ]
              refine wpAnyH_take (i := 17) (oi := { dst := some 128, op := Op.binOp BinOp.leq 3 (Operand.tmp 125) (Operand.tmp 127) 3, type := 4, pos := "law.go:159", after := #[{ on := 14, ground := Ground.data }, { on := 16, ground := Ground.data }, { on := 12, ground := Ground.guard }], guard := some (12, true) }) (v := .bool true) rfl (by kernel_rfl) (by kernel_rfl) (by kernel_rfl) (fun _ _ _ h => h) (Or.inl ⟨by rfl, ?_⟩) hHeld ?_
              · (intro w' hSw; (try dsimp only at hSw); go_split_ands; go_simp; first | done | with_reducible rfl | (first | (simp [HPL.out]; done) | (have h0 := HPL.out; simp at h0; simp [h0]; done) | (have h0 := HPL.out; omega) | (trace_state; fail)))
              try simp only [Act.put, List.setIfInBounds_toArray, List.set_cons_zero, List.set_cons_succ]
              refine wpAnyH_take (i := 18) (oi := { dst := some 129, op := Op.pick (Operand.tmp 123) (Operand.tmp 128) (Operand.const (Value.bool false)), type := 4, pos := "law.go:159", after := #[{ on := 12, ground := Ground.data }, { on := 17, ground := Ground.data }], guard := none }) (v := ?_) rfl (by kernel_rfl) (by kernel_rfl) (by kernel_rfl) (fun _ _ _ h => h) (Or.inl ⟨by rfl, ?_⟩) hHeld ?_
              rotate_left
              · (intro w' hSw; (try dsimp only at hSw); go_split_ands; go_simp; first | done | with_reducible rfl)
              try simp only [Act.put, List.setIfInBounds_toArray, List.set_cons_zero, List.set_cons_succ]
              refine wpAnyH_take (i := 19) (oi := { dst := some 130, op := Op.move (Operand.tmp 129), type := 4, pos := "law.go:159", after := #[{ on := 18, ground := Ground.data }, { on := 12, ground := Ground.chain }], guard := none }) (v := ?_) rfl (by kernel_rfl) (by kernel_rfl) (by kernel_rfl) (fun _ _ _ h => h) (Or.inl ⟨by rfl, ?_⟩) hHeld ?_
              rotate_left
              · (intro w' hSw; (try dsimp only at hSw); go_split_ands; go_simp; first | done | with_reducible rfl)
              try simp only [Act.put, List.setIfInBounds_toArray, List.set_cons_zero, List.set_cons_succ]
              refine wpAnyH_take (i := 20) (oi := { dst := some 131, op := Op.move (Operand.tmp 9), type := 29, pos := "law.go:159", after := #[{ on := 19, ground := Ground.guard }], guard := some (19, true) }) (v := ?_) rfl (by kernel_rfl) (by kernel_rfl) (by kernel_rfl) (fun _ _ _ h => h) (Or.inl ⟨by rfl, ?_⟩) hHeld ?_
              rotate_left
              · (intro w' hSw; (try dsimp only at hSw); go_split_ands; go_simp; first | done | with_reducible rfl)
              try simp only [Act.put, List.setIfInBounds_toArray, List.set_cons_zero, List.set_cons_succ]
              refine wpAnyH_take (i := 21) (oi := { dst := some 132, op := Op.move (Operand.tmp 1), type := 23, pos := "law.go:159", after := #[{ on := 19, ground := Ground.guard }], guard := some (19, true) }) (v := ?_) rfl (by kernel_rfl) (by kernel_rfl) (by kernel_rfl) (fun _ _ _ h => h) (Or.inl ⟨by rfl, ?_⟩) hHeld ?_
              rotate_left
              · (intro w' hSw; (try dsimp only at hSw); go_split_ands; go_simp; first | done | with_reducible rfl)
              try simp only [Act.put, List.setIfInBounds_toArray, List.set_cons_zero, List.set_cons_succ]
              refine wpAnyH_take (i := 23) (oi := { dst := some 134, op := Op.move (Operand.tmp 11), type := 22, pos := "law.go:159", after := #[{ on := 19, ground := Ground.guard }], guard := some (19, true) }) (v := ?_) rfl (by kernel_rfl) (by kernel_rfl) (by kernel_rfl) (fun _ _ _ h => h) (Or.inl ⟨by rfl, ?_⟩) hHeld ?_
              rotate_left
              · (intro w' hSw; (try dsimp only at hSw); go_split_ands; go_simp; first | done | with_reducible rfl)
              try simp only [Act.put, List.setIfInBounds_toArray, List.set_cons_zero, List.set_cons_succ]
              refine wpAnyH_take (i := 24) (oi := { dst := some 135, op := Op.call { callee := Callee.builtin Builtin.len, args := #[Operand.tmp 134], argTypes := #[22] }, type := 3, pos := "law.go:159", after := #[{ on := 23, ground := Ground.data }, { on := 19, ground := Ground.guard }], guard := some (19, true) }) (v := ?_) rfl (by kernel_rfl) (by kernel_rfl) (by kernel_rfl) (fun _ _ _ h => h) (Or.inl ⟨by rfl, ?_⟩) hHeld ?_
              rotate_left
              · (intro w' hSw; (try dsimp only at hSw); go_split_ands; go_simp; first | done | with_reducible rfl)
              try simp only [Act.put, List.setIfInBounds_toArray, List.set_cons_zero, List.set_cons_succ]
              refine wpAnyH_take (i := 25) (oi := { dst := some 136, op := Op.binOp BinOp.gtr 3 (Operand.tmp 135) (Operand.const (Value.int IntKind.i64 0)) 3, type := 4, pos := "law.go:159", after := #[{ on := 24, ground := Ground.data }, { on := 19, ground := Ground.guard }], guard := some (19, true) }) (v := .bool false) rfl (by kernel_rfl) (by kernel_rfl) (by kernel_rfl) (fun _ _ _ h => h) (Or.inl ⟨by rfl, ?_⟩) hHeld ?_
              · (intro w' hSw; (try dsimp only at hSw); go_split_ands; go_simp; first | done | with_reducible rfl | simp)
              try simp only [Act.put, List.setIfInBounds_toArray, List.set_cons_zero, List.set_cons_succ]
              refine wpAnyH_ready (rs := [22]) (by kernel_rfl) (by simp) ?_
              refine AllReadyH.cons (o := { dst := some 133, op := Op.call { callee := Callee.value (Operand.func 22), args := #[Operand.tmp 131, Operand.tmp 132], argTypes := #[29, 23] }, type := 4, pos := "law.go:159", after := #[{ on := 20, ground := Ground.data }, { on := 21, ground := Ground.data }, { on := 19, ground := Ground.chain }, { on := 19, ground := Ground.guard }], guard := some (19, true) }) rfl (fun K hK => ?_) AllReadyH.nil
              go_simp
              have hHa := Has_part (lx := lx) (dx := dx) (hpZ.later hb6) ((hxZ.below hb6).more hb6.size) HXL.out
              rw [HMX.out] at hHa
              refine hHa.mono ?_
              rintro en w7 ⟨rfl, hb7'⟩
              have hb7 : Below Z.heap.size Z w7 := hb6.trans (hb7'.mono hb6.size)
              clear hHa
              go_wp2_with fail
              refine hK.out _ _ ?_ ?_
              · (exact HK.out _ hb7)
              clear hK K hHeld; intro hHeld
              try simp only [Act.put, List.setIfInBounds_toArray, List.set_cons_zero, List.set_cons_succ]
              refine wpAnyH_take (i := 26) (oi := { dst := some 137, op := Op.move (Operand.tmp 136), type := 4, pos := "law.go:159", after := #[{ on := 25, ground := Ground.data }, { on := 22, ground := Ground.chain }, { on := 19, ground := Ground.guard }], guard := some (19, true) }) (v := ?_) rfl (by kernel_rfl) (by kernel_rfl) (by kernel_rfl) (fun _ _ _ h => h) (Or.inl ⟨by rfl, ?_⟩) hHeld ?_
              rotate_left
              · (intro w' hSw; (try dsimp only at hSw); go_split_ands; go_simp; first | done | with_reducible rfl)
              try simp only [Act.put, List.setIfInBounds_toArray, List.set_cons_zero, List.set_cons_succ]
              refine wpAnyH_take (i := 27) (oi := { dst := some 138, op := Op.move (Operand.tmp 11), type := 22, pos := "law.go:159", after := #[{ on := 26, ground := Ground.guard }], guard := some (26, true) }) (v := undef) rfl (by kernel_rfl) (by kernel_rfl) (by kernel_rfl) (fun _ _ _ h => h) (Or.inr ⟨by rfl, rfl⟩) hHeld ?_
              try simp only [Act.put, List.setIfInBounds_toArray, List.set_cons_zero, List.set_cons_succ]
              refine wpAnyH_take (i := 28) (oi := { dst := some 139, op := Op.indexAddr 22 (Operand.tmp 138) (Operand.const (Value.int IntKind.i64 0)), type := 0, pos := "law.go:159", after := #[{ on := 27, ground := Ground.data }, { on := 26, ground := Ground.guard }], guard := some (26, true) }) (v := undef) rfl (by kernel_rfl) (by kernel_rfl) (by kernel_rfl) (fun _ _ _ h => h) (Or.inr ⟨by rfl, rfl⟩) hHeld ?_
              try simp only [Act.put, List.setIfInBounds_toArray, List.set_cons_zero, List.set_cons_succ]
              refine wpAnyH_take (i := 29) (oi := { dst := some 140, op := Op.load 23 (Operand.tmp 139), type := 23, pos := "law.go:159", after := #[{ on := 28, ground := Ground.data }, { on := 26, ground := Ground.guard }], guard := some (26, true) }) (v := undef) rfl (by kernel_rfl) (by kernel_rfl) (by kernel_rfl) (fun _ _ _ h => h) (Or.inr ⟨by rfl, rfl⟩) hHeld ?_
              try simp only [Act.put, List.setIfInBounds_toArray, List.set_cons_zero, List.set_cons_succ]
              refine wpAnyH_take (i := 30) (oi := { dst := some 141, op := Op.convert 23 9 (Operand.tmp 140), type := 9, pos := "law.go:159", after := #[{ on := 29, ground := Ground.data }, { on := 26, ground := Ground.guard }], guard := some (26, true) }) (v := undef) rfl (by kernel_rfl) (by kernel_rfl) (by kernel_rfl) (fun _ _ _ h => h) (Or.inr ⟨by rfl, rfl⟩) hHeld ?_
              try simp only [Act.put, List.setIfInBounds_toArray, List.set_cons_zero, List.set_cons_succ]
              refine wpAnyH_take (i := 31) (oi := { dst := some 142, op := Op.move (Operand.tmp 1), type := 23, pos := "law.go:159", after := #[{ on := 26, ground := Ground.guard }], guard := some (26, true) }) (v := undef) rfl (by kernel_rfl) (by kernel_rfl) (by kernel_rfl) (fun _ _ _ h => h) (Or.inr ⟨by rfl, rfl⟩) hHeld ?_
              try simp only [Act.put, List.setIfInBounds_toArray, List.set_cons_zero, List.set_cons_succ]
              refine wpAnyH_take (i := 32) (oi := { dst := some 143, op := Op.convert 23 9 (Operand.tmp 142), type := 9, pos := "law.go:159", after := #[{ on := 31, ground := Ground.data }, { on := 26, ground := Ground.guard }], guard := some (26, true) }) (v := undef) rfl (by kernel_rfl) (by kernel_rfl) (by kernel_rfl) (fun _ _ _ h => h) (Or.inr ⟨by rfl, rfl⟩) hHeld ?_
              try simp only [Act.put, List.setIfInBounds_toArray, List.set_cons_zero, List.set_cons_succ]
              refine wpAnyH_take (i := 33) (oi := { dst := some 144, op := Op.binOp BinOp.eql 9 (Operand.tmp 141) (Operand.tmp 143) 9, type := 4, pos := "law.go:159", after := #[{ on := 30, ground := Ground.data }, { on := 32, ground := Ground.data }, { on := 26, ground := Ground.guard }], guard := some (26, true) }) (v := undef) rfl (by kernel_rfl) (by kernel_rfl) (by kernel_rfl) (fun _ _ _ h => h) (Or.inr ⟨by rfl, rfl⟩) hHeld ?_
              try simp only [Act.put, List.setIfInBounds_toArray, List.set_cons_zero, List.set_cons_succ]
              refine wpAnyH_take (i := 34) (oi := { dst := some 145, op := Op.pick (Operand.tmp 137) (Operand.tmp 144) (Operand.const (Value.bool false)), type := 4, pos := "law.go:159", after := #[{ on := 26, ground := Ground.data }, { on := 33, ground := Ground.data }, { on := 19, ground := Ground.guard }], guard := some (19, true) }) (v := ?_) rfl (by kernel_rfl) (by kernel_rfl) (by kernel_rfl) (fun _ _ _ h => h) (Or.inl ⟨by rfl, ?_⟩) hHeld ?_
              rotate_left
              · (intro w' hSw; (try dsimp only at hSw); go_split_ands; go_simp; first | done | with_reducible rfl)
              try simp only [Act.put, List.setIfInBounds_toArray, List.set_cons_zero, List.set_cons_succ]
              refine wpAnyH_take (i := 35) (oi := { dst := some 146, op := Op.binOp BinOp.eql 4 (Operand.tmp 133) (Operand.tmp 145) 4, type := 4, pos := "law.go:159", after := #[{ on := 22, ground := Ground.data }, { on := 34, ground := Ground.data }, { on := 19, ground := Ground.guard }], guard := some (19, true) }) (v := ?_) rfl (by kernel_rfl) (by kernel_rfl) (by kernel_rfl) (fun _ _ _ h => h) (Or.inl ⟨by rfl, ?_⟩) hHeld ?_
              rotate_left
              · (intro w' hSw; (try dsimp only at hSw); go_split_ands; go_simp; first | done | with_reducible rfl)
              try simp only [Act.put, List.setIfInBounds_toArray, List.set_cons_zero, List.set_cons_succ]
              refine wpAnyH_take (i := 36) (oi := { dst := some 147, op := Op.pick (Operand.tmp 130) (Operand.tmp 146) (Operand.const (Value.bool false)), type := 4, pos := "law.go:159", after := #[{ on := 19, ground := Ground.data }, { on := 35, ground := Ground.data }], guard := none }) (v := ?_) rfl (by kernel_rfl) (by kernel_rfl) (by kernel_rfl) (fun _ _ _ h => h) (Or.inl ⟨by rfl, ?_⟩) hHeld ?_
              rotate_left
              · (intro w' hSw; (try dsimp only at hSw); go_split_ands; go_simp; first | done | with_reducible rfl)
              try simp only [Act.put, List.setIfInBounds_toArray, List.set_cons_zero, List.set_cons_succ]
              refine wpAnyH_take (i := 37) (oi := { dst := some 4, op := Op.assign (Operand.tmp 147), type := 4, pos := "law.go:159", after := #[{ on := 36, ground := Ground.data }, { on := 26, ground := Ground.chain }, { on := 0, ground := Ground.phase }, { on := 1, ground := Ground.phase }, { on := 2, ground := Ground.phase }, { on := 3, ground := Ground.phase }, { on := 4, ground := Ground.phase }, { on := 5, ground := Ground.phase }, { on := 6, ground := Ground.phase }, { on := 7, ground := Ground.phase }, { on := 8, ground := Ground.phase }, { on := 9, ground := Ground.phase }, { on := 10, ground := Ground.phase }, { on := 11, ground := Ground.phase }, { on := 12, ground := Ground.phase }, { on := 13, ground := Ground.phase }, { on := 14, ground := Ground.phase }, { on := 15, ground := Ground.phase }, { on := 16, ground := Ground.phase }, { on := 17, ground := Ground.phase }, { on := 18, ground := Ground.phase }, { on := 19, ground := Ground.phase }, { on := 20, ground := Ground.phase }, { on := 21, ground := Ground.phase }, { on := 22, ground := Ground.phase }, { on := 23, ground := Ground.phase }, { on := 24, ground := Ground.phase }, { on := 25, ground := Ground.phase }, { on := 26, ground := Ground.phase }, { on := 27, ground := Ground.phase }, { on := 28, ground := Ground.phase }, { on := 29, ground := Ground.phase }, { on := 30, ground := Ground.phase }, { on := 31, ground := Ground.phase }, { on := 32, ground := Ground.phase }, { on := 33, ground := Ground.phase }, { on := 34, ground := Ground.phase }, { on := 35, ground := Ground.phase }, { on := 36, ground := Ground.phase }], guard := none }) (v := ?_) rfl (by kernel_rfl) (by kernel_rfl) (by kernel_rfl) (fun _ _ _ h => h) (Or.inl ⟨by rfl, ?_⟩) hHeld ?_
              rotate_left
              · (intro w' hSw; (try dsimp only at hSw); go_split_ands; go_simp; first | done | with_reducible rfl)
              try simp only [Act.put, List.setIfInBounds_toArray, List.set_cons_zero, List.set_cons_succ]
              refine wpAnyH_done (by kernel_rfl) ?_ _
              refine NoPanic.normal ?_
              go_wp2
              go_ret
              exact ⟨by simp, hb0Z.trans (hb7.mono hb0Z.size)⟩
            | cons L0 t =>
              have hfl0 : 0 < fl := by have := HFL.out; simp at this; omega
              have HFP : Hid ((0 : Int) < (fl : Int)) := by unfold Hid; omega
              obtain ⟨a5, A0, c0, rfl, had0, hcell0', hc0, hsee0⟩ := hS5Z.out 0 (by simp)
              rw [show (L0 :: t)[0] = L0 from rfl] at hcell0' hc0 hsee0
              have hcell0 : Z.cell? a5 = some (.slice A0 L0.length c0) := by simpa [Addr.add] using hcell0'
              obtain ⟨hv, hhv⟩ : ∃ hv, (L0 == x) = hv := ⟨_, rfl⟩
              have HMX : Hid (decide (x ∈ ls) = hv) := by
                unfold Hid
                have e1 : decide (x ∈ ls) = decide ((L0 :: t).head? = some x) := decide_eq_decide.2 HHEAD.out.symm
                rw [e1, ← hhv]
                simp only [List.head?_cons, Option.some.injEq]
                by_cases e : L0 = x
                · subst e; simp
                · simp [e]
              have HHV : Hid (((strOf L0).toList == (strOf x).toList) = hv) := by unfold Hid; rw [strOf_toList, strOf_toList, hhv]
              clear hhv
              have HK := Lib.hid (fun w' (hb : Below Z.heap.size Z w') => (⟨(hb.cell had0).trans hcell0, run_str w' _ A0 L0.length c0 L0 ((hsee0.below hb).more hb.size) rfl, run_str w' _ Bx lx dx x ((hxZ.below hb).more hb.size) HXL.out⟩ : w'.cell? a5 = some (.slice A0 L0.length c0) ∧ (convert 23 9 (.slice A0 L0.length c0)).run Tryd.prog w' = .ok (.string (strOf L0)) w' ∧ (convert 23 9 (.slice Bx lx dx)).run Tryd.prog w' = .ok (.string (strOf x)) w'))
              go_wp2_with fail
              refine wp_region_noPanic ?_
              refine wp_region_held_drew (S := fun w' => w'.cell? a5 = some (.slice A0 L0.length c0) ∧ (convert 23 9 (.slice A0 L0.length c0)).run Tryd.prog w' = .ok (.string (strOf L0)) w' ∧ (convert 23 9 (.slice Bx lx dx)).run Tryd.prog w' = .ok (.string (strOf x)) w') (by kernel_rfl) ?_ (fun hHeld => ?_)
              · (exact HK.out _ hbD)
              refine wpAnyH_take (i := 0) (oi := { dst := some 111, op := Op.move (Operand.tmp 13), type := 3, pos := "law.go:159", after := #[], guard := none }) (v := ?_) rfl (by kernel_rfl) (by kernel_rfl) (by kernel_rfl) (fun _ _ _ h => h) (Or.inl ⟨by rfl, ?_⟩) hHeld ?_
              rotate_left
              · (intro w' hSw; (try dsimp only at hSw); go_split_ands; go_simp; first | done | with_reducible rfl)
              try simp only [Act.put, List.setIfInBounds_toArray, List.set_cons_zero, List.set_cons_succ]
              refine wpAnyH_take (i := 1) (oi := { dst := some 112, op := Op.move (Operand.tmp 0), type := 22, pos := "law.go:159", after := #[], guard := none }) (v := ?_) rfl (by kernel_rfl) (by kernel_rfl) (by kernel_rfl) (fun _ _ _ h => h) (Or.inl ⟨by rfl, ?_⟩) hHeld ?_
              rotate_left
              · (intro w' hSw; (try dsimp only at hSw); go_split_ands; go_simp; first | done | with_reducible rfl)
              try simp only [Act.put, List.setIfInBounds_toArray, List.set_cons_zero, List.set_cons_succ]
              refine wpAnyH_take (i := 2) (oi := { dst := some 113, op := Op.call { callee := Callee.builtin Builtin.len, args := #[Operand.tmp 112], argTypes := #[22] }, type := 3, pos := "law.go:159", after := #[{ on := 1, ground := Ground.data }], guard := none }) (v := ?_) rfl (by kernel_rfl) (by kernel_rfl) (by kernel_rfl) (fun _ _ _ h => h) (Or.inl ⟨by rfl, ?_⟩) hHeld ?_
              rotate_left
              · (intro w' hSw; (try dsimp only at hSw); go_split_ands; go_simp; first | done | with_reducible rfl)
              try simp only [Act.put, List.setIfInBounds_toArray, List.set_cons_zero, List.set_cons_succ]
              refine wpAnyH_take (i := 3) (oi := { dst := some 114, op := Op.binOp BinOp.eql 3 (Operand.tmp 111) (Operand.tmp 113) 3, type := 4, pos := "law.go:159", after := #[{ on := 0, ground := Ground.data }, { on := 2, ground := Ground.data }], guard := none }) (v := .bool true) rfl (by kernel_rfl) (by kernel_rfl) (by kernel_rfl) (fun _ _ _ h => h) (Or.inl ⟨by rfl, ?_⟩) hHeld ?_
              · (intro w' hSw; (try dsimp only at hSw); go_split_ands; go_simp; first | done | with_reducible rfl | simp)
              try simp only [Act.put, List.setIfInBounds_toArray, List.set_cons_zero, List.set_cons_succ]
              refine wpAnyH_take (i := 4) (oi := { dst := some 115, op := Op.move (Operand.tmp 114), type := 4, pos := "law.go:159", after := #[{ on := 3, ground := Ground.data }], guard := none }) (v := ?_) rfl (by kernel_rfl) (by kernel_rfl) (by kernel_rfl) (fun _ _ _ h => h) (Or.inl ⟨by rfl, ?_⟩) hHeld ?_
              rotate_left
              · (intro w' hSw; (try dsimp only at hSw); go_split_ands; go_simp; first | done | with_reducible rfl)
              try simp only [Act.put, List.setIfInBounds_toArray, List.set_cons_zero, List.set_cons_succ]
              refine wpAnyH_take (i := 5) (oi := { dst := some 116, op := Op.move (Operand.tmp 9), type := 29, pos := "law.go:159", after := #[{ on := 4, ground := Ground.guard }], guard := some (4, true) }) (v := ?_) rfl (by kernel_rfl) (by kernel_rfl) (by kernel_rfl) (fun _ _ _ h => h) (Or.inl ⟨by rfl, ?_⟩) hHeld ?_
              rotate_left
              · (intro w' hSw; (try dsimp only at hSw); go_split_ands; go_simp; first | done | with_reducible rfl)
              try simp only [Act.put, List.setIfInBounds_toArray, List.set_cons_zero, List.set_cons_succ]
              refine wpAnyH_take (i := 8) (oi := { dst := some 119, op := Op.move (Operand.tmp 0), type := 22, pos := "law.go:159", after := #[{ on := 4, ground := Ground.guard }], guard := some (4, true) }) (v := ?_) rfl (by kernel_rfl) (by kernel_rfl) (by kernel_rfl) (fun _ _ _ h => h) (Or.inl ⟨by rfl, ?_⟩) hHeld ?_
              rotate_left
              · (intro w' hSw; (try dsimp only at hSw); go_split_ands; go_simp; first | done | with_reducible rfl)
              try simp only [Act.put, List.setIfInBounds_toArray, List.set_cons_zero, List.set_cons_succ]
              refine wpAnyH_take (i := 9) (oi := { dst := some 120, op := Op.call { callee := Callee.builtin Builtin.len, args := #[Operand.tmp 119], argTypes := #[22] }, type := 3, pos := "law.go:159", after := #[{ on := 8, ground := Ground.data }, { on := 4, ground := Ground.guard }], guard := some (4, true) }) (v := ?_) rfl (by kernel_rfl) (by kernel_rfl) (by kernel_rfl) (fun _ _ _ h => h) (Or.inl ⟨by rfl, ?_⟩) hHeld ?_
              rotate_left
              · (intro w' hSw; (try dsimp only at hSw); go_split_ands; go_simp; first | done | with_reducible rfl)
              try simp only [Act.put, List.setIfInBounds_toArray, List.set_cons_zero, List.set_cons_succ]
              refine wpAnyH_ready (rs := [6]) (by kernel_rfl) (by simp) ?_
              refine AllReadyH.cons (o := { dst := some 117, op := Op.call { callee := Callee.value (Operand.func 24), args := #[Operand.tmp 116, Operand.const (Value.slice none 0 0)], argTypes := #[29, 23] }, type := 22, pos := "law.go:159", after := #[{ on := 5, ground := Ground.data }, { on := 4, ground := Ground.chain }, { on := 4, ground := Ground.guard }], guard := some (4, true) }) rfl (fun K hK => ?_) AllReadyH.nil
              go_simp
              have hPn := Prefix_part (Bx := none) (lx := 0) (dx := 0) (x := []) hpD ⟨.inl rfl⟩ rfl
              rw [show ls.filter (preB []) = ls from List.filter_eq_self.2 fun y _ => preB_nil y] at hPn
              refine hPn.mono ?_
              rintro en w6 hIs
              obtain ⟨A6, c6, rfl, -, -, hb6'⟩ := hIs.open_
              rw [HN.out]
              have hb6 : Below Z.heap.size Z w6 := hbD.trans hb6'
              clear hPn hIs
              go_wp2_with fail
              refine hK.out _ _ ?_ ?_
              · (exact HK.out _ hb6)
              clear hK K hHeld; intro hHeld
              try simp only [Act.put, List.setIfInBounds_toArray, List.set_cons_zero, List.set_cons_succ]
              refine wpAnyH_take (i := 7) (oi := { dst := some 118, op := Op.call { callee := Callee.builtin Builtin.len, args := #[Operand.tmp 117], argTypes := #[22] }, type := 3, pos := "law.go:159", after := #[{ on := 6, ground := Ground.data }, { on := 4, ground := Ground.guard }], guard := some (4, true) }) (v := ?_) rfl (by kernel_rfl) (by kernel_rfl) (by kernel_rfl) (fun _ _ _ h => h) (Or.inl ⟨by rfl, ?_⟩) hHeld ?_
              rotate_left
              · (intro w' hSw; (try dsimp only at hSw); go_split_ands; go_simp; first | done | with_reducible rfl)
              try simp only [Act.put, List.setIfInBounds_toArray, List.set_cons_zero, List.set_cons_succ]
              refine wpAnyH_take (i := 10) (oi := { dst := some 121, op := Op.binOp BinOp.eql 3 (Operand.tmp 118) (Operand.tmp 120) 3, type := 4, pos := "law.go:159", after := #[{ on := 7, ground := Ground.data }, { on := 9, ground := Ground.data }, { on := 4, ground := Ground.guard }], guard := some (4, true) }) (v := .bool true) rfl (by kernel_rfl) (by kernel_rfl) (by kernel_rfl) (fun _ _ _ h => h) (Or.inl ⟨by rfl, ?_⟩) hHeld ?_
              · (intro w' hSw; (try dsimp only at hSw); go_split_ands; go_simp; first | done | with_reducible rfl | simp)
              try simp only [Act.put, List.setIfInBounds_toArray, List.set_cons_zero, List.set_cons_succ]
              refine wpAnyH_take (i := 11) (oi := { dst := some 122, op := Op.pick (Operand.tmp 115) (Operand.tmp 121) (Operand.const (Value.bool false)), type := 4, pos := "law.go:159", after := #[{ on := 4, ground := Ground.data }, { on := 10, ground := Ground.data }], guard := none }) (v := ?_) rfl (by kernel_rfl) (by kernel_rfl) (by kernel_rfl) (fun _ _ _ h => h) (Or.inl ⟨by rfl, ?_⟩) hHeld ?_
              rotate_left
              · (intro w' hSw; (try dsimp only at hSw); go_split_ands; go_simp; first | done | with_reducible rfl)
              try simp only [Act.put, List.setIfInBounds_toArray, List.set_cons_zero, List.set_cons_succ]
              refine wpAnyH_take (i := 12) (oi := { dst := some 123, op := Op.move (Operand.tmp 122), type := 4, pos := "law.go:159", after := #[{ on := 11, ground := Ground.data }, { on := 6, ground := Ground.chain }], guard := none }) (v := ?_) rfl (by kernel_rfl) (by kernel_rfl) (by kernel_rfl) (fun _ _ _ h => h) (Or.inl ⟨by rfl, ?_⟩) hHeld ?_
              rotate_left
              · (intro w' hSw; (try dsimp only at hSw); go_split_ands; go_simp; first | done | with_reducible rfl)
              try simp only [Act.put, List.setIfInBounds_toArray, List.set_cons_zero, List.set_cons_succ]
              refine wpAnyH_take (i := 13) (oi := { dst := some 124, op := Op.move (Operand.tmp 15), type := 22, pos := "law.go:159", after := #[{ on := 12, ground := Ground.guard }], guard := some (12, true) }) (v := ?_) rfl (by kernel_rfl) (by kernel_rfl) (by kernel_rfl) (fun _ _ _ h => h) (Or.inl ⟨by rfl, ?_⟩) hHeld ?_
              rotate_left
              · (intro w' hSw; (try dsimp only at hSw); go_split_ands; go_simp; first | done | with_reducible rfl)
              try simp only [Act.put, List.setIfInBounds_toArray, List.set_cons_zero, List.set_cons_succ]
              refine wpAnyH_take (i := 14) (oi := { dst := some 125, op := Op.call { callee := Callee.builtin Builtin.len, args := #[Operand.tmp 124], argTypes := #[22] }, type := 3, pos := "law.go:159", after := #[{ on := 13, ground := Ground.data }, { on := 12, ground := Ground.guard }], guard := some (12, true) }) (v := ?_) rfl (by kernel_rfl) (by kernel_rfl) (by kernel_rfl) (fun _ _ _ h => h) (Or.inl ⟨by rfl, ?_⟩) hHeld ?_
              rotate_left
              · (intro w' hSw; (try dsimp only at hSw); go_split_ands; go_simp; first | done | with_reducible rfl)
              try simp only [Act.put, List.setIfInBounds_toArray, List.set_cons_zero, List.set_cons_succ]
              refine wpAnyH_take (i := 15) (oi := { dst := some 126, op := Op.move (Operand.tmp 11), type := 22, pos := "law.go:159", after := #[{ on := 12, ground := Ground.guard }], guard := some (12, true) }) (v := ?_) rfl (by kernel_rfl) (by kernel_rfl) (by kernel_rfl) (fun _ _ _ h => h) (Or.inl ⟨by rfl, ?_⟩) hHeld ?_
              rotate_left
              · (intro w' hSw; (try dsimp only at hSw); go_split_ands; go_simp; first | done | with_reducible rfl)
              try simp only [Act.put, List.setIfInBounds_toArray, List.set_cons_zero, List.set_cons_succ]
              refine wpAnyH_take (i := 16) (oi := { dst := some 127, op := Op.call { callee := Callee.builtin Builtin.len, args := #[Operand.tmp 126], argTypes := #[22] }, type := 3, pos := "law.go:159", after := #[{ on := 15, ground := Ground.data }, { on := 12, ground := Ground.guard }], guard := some (12, true) }) (v := ?_) rfl (by kernel_rfl) (by kernel_rfl) (by kernel_rfl) (fun _ _ _ h => h) (Or.inl ⟨by rfl, ?_⟩) hHeld ?_
              rotate_left
              · (intro w' hSw; (try dsimp only at hSw); go_split_ands; go_simp; first | done | with_reducible rfl)
              try simp only [Act.put, List.setIfInBounds_toArray, List.set_cons_zero, List.set_cons_succ]
              refine wpAnyH_take (i := 17) (oi := { dst := some 128, op := Op.binOp BinOp.leq 3 (Operand.tmp 125) (Operand.tmp 127) 3, type := 4, pos := "law.go:159", after := #[{ on := 14, ground := Ground.data }, { on := 16, ground := Ground.data }, { on := 12, ground := Ground.guard }], guard := some (12, true) }) (v := .bool true) rfl (by kernel_rfl) (by kernel_rfl) (by kernel_rfl) (fun _ _ _ h => h) (Or.inl ⟨by rfl, ?_⟩) hHeld ?_
              · (intro w' hSw; (try dsimp only at hSw); go_split_ands; go_simp; first | done | with_reducible rfl | (first | (simp [HPL.out]; done) | (have h0 := HPL.out; simp at h0; simp [h0]; done) | (have h0 := HPL.out; omega) | (trace_state; fail)))
              try simp only [Act.put, List.setIfInBounds_toArray, List.set_cons_zero, List.set_cons_succ]
              refine wpAnyH_take (i := 18) (oi := { dst := some 129, op := Op.pick (Operand.tmp 123) (Operand.tmp 128) (Operand.const (Value.bool false)), type := 4, pos := "law.go:159", after := #[{ on := 12, ground := Ground.data }, { on := 17, ground := Ground.data }], guard := none }) (v := ?_) rfl (by kernel_rfl) (by kernel_rfl) (by kernel_rfl) (fun _ _ _ h => h) (Or.inl ⟨by rfl, ?_⟩) hHeld ?_
              rotate_left
              · (intro w' hSw; (try dsimp only at hSw); go_split_ands; go_simp; first | done | with_reducible rfl)
              try simp only [Act.put, List.setIfInBounds_toArray, List.set_cons_zero, List.set_cons_succ]
              refine wpAnyH_take (i := 19) (oi := { dst := some 130, op := Op.move (Operand.tmp 129), type := 4, pos := "law.go:159", after := #[{ on := 18, ground := Ground.data }, { on := 12, ground := Ground.chain }], guard := none }) (v := ?_) rfl (by kernel_rfl) (by kernel_rfl) (by kernel_rfl) (fun _ _ _ h => h) (Or.inl ⟨by rfl, ?_⟩) hHeld ?_
              rotate_left
              · (intro w' hSw; (try dsimp only at hSw); go_split_ands; go_simp; first | done | with_reducible rfl)
              try simp only [Act.put, List.setIfInBounds_toArray, List.set_cons_zero, List.set_cons_succ]
              refine wpAnyH_take (i := 20) (oi := { dst := some 131, op := Op.move (Operand.tmp 9), type := 29, pos := "law.go:159", after := #[{ on := 19, ground := Ground.guard }], guard := some (19, true) }) (v := ?_) rfl (by kernel_rfl) (by kernel_rfl) (by kernel_rfl) (fun _ _ _ h => h) (Or.inl ⟨by rfl, ?_⟩) hHeld ?_
              rotate_left
              · (intro w' hSw; (try dsimp only at hSw); go_split_ands; go_simp; first | done | with_reducible rfl)
              try simp only [Act.put, List.setIfInBounds_toArray, List.set_cons_zero, List.set_cons_succ]
              refine wpAnyH_take (i := 21) (oi := { dst := some 132, op := Op.move (Operand.tmp 1), type := 23, pos := "law.go:159", after := #[{ on := 19, ground := Ground.guard }], guard := some (19, true) }) (v := ?_) rfl (by kernel_rfl) (by kernel_rfl) (by kernel_rfl) (fun _ _ _ h => h) (Or.inl ⟨by rfl, ?_⟩) hHeld ?_
              rotate_left
              · (intro w' hSw; (try dsimp only at hSw); go_split_ands; go_simp; first | done | with_reducible rfl)
              try simp only [Act.put, List.setIfInBounds_toArray, List.set_cons_zero, List.set_cons_succ]
              refine wpAnyH_take (i := 23) (oi := { dst := some 134, op := Op.move (Operand.tmp 11), type := 22, pos := "law.go:159", after := #[{ on := 19, ground := Ground.guard }], guard := some (19, true) }) (v := ?_) rfl (by kernel_rfl) (by kernel_rfl) (by kernel_rfl) (fun _ _ _ h => h) (Or.inl ⟨by rfl, ?_⟩) hHeld ?_
              rotate_left
              · (intro w' hSw; (try dsimp only at hSw); go_split_ands; go_simp; first | done | with_reducible rfl)
              try simp only [Act.put, List.setIfInBounds_toArray, List.set_cons_zero, List.set_cons_succ]
              refine wpAnyH_take (i := 24) (oi := { dst := some 135, op := Op.call { callee := Callee.builtin Builtin.len, args := #[Operand.tmp 134], argTypes := #[22] }, type := 3, pos := "law.go:159", after := #[{ on := 23, ground := Ground.data }, { on := 19, ground := Ground.guard }], guard := some (19, true) }) (v := ?_) rfl (by kernel_rfl) (by kernel_rfl) (by kernel_rfl) (fun _ _ _ h => h) (Or.inl ⟨by rfl, ?_⟩) hHeld ?_
              rotate_left
              · (intro w' hSw; (try dsimp only at hSw); go_split_ands; go_simp; first | done | with_reducible rfl)
              try simp only [Act.put, List.setIfInBounds_toArray, List.set_cons_zero, List.set_cons_succ]
              refine wpAnyH_take (i := 25) (oi := { dst := some 136, op := Op.binOp BinOp.gtr 3 (Operand.tmp 135) (Operand.const (Value.int IntKind.i64 0)) 3, type := 4, pos := "law.go:159", after := #[{ on := 24, ground := Ground.data }, { on := 19, ground := Ground.guard }], guard := some (19, true) }) (v := .bool true) rfl (by kernel_rfl) (by kernel_rfl) (by kernel_rfl) (fun _ _ _ h => h) (Or.inl ⟨by rfl, ?_⟩) hHeld ?_
              · (intro w' hSw; (try dsimp only at hSw); go_split_ands; go_simp; first | done | with_reducible rfl | simp [HFP.out])
              try simp only [Act.put, List.setIfInBounds_toArray, List.set_cons_zero, List.set_cons_succ]
              refine wpAnyH_ready (rs := [22]) (by kernel_rfl) (by simp) ?_
              refine AllReadyH.cons (o := { dst := some 133, op := Op.call { callee := Callee.value (Operand.func 22), args := #[Operand.tmp 131, Operand.tmp 132], argTypes := #[29, 23] }, type := 4, pos := "law.go:159", after := #[{ on := 20, ground := Ground.data }, { on := 21, ground := Ground.data }, { on := 19, ground := Ground.chain }, { on := 19, ground := Ground.guard }], guard := some (19, true) }) rfl (fun K hK => ?_) AllReadyH.nil
              go_simp
              have hHa := Has_part (lx := lx) (dx := dx) (hpZ.later hb6) ((hxZ.below hb6).more hb6.size) HXL.out
              rw [HMX.out] at hHa
              refine hHa.mono ?_
              rintro en w7 ⟨rfl, hb7'⟩
              have hb7 : Below Z.heap.size Z w7 := hb6.trans (hb7'.mono hb6.size)
              clear hHa
              go_wp2_with fail
              refine hK.out _ _ ?_ ?_
              · (exact HK.out _ hb7)
              clear hK K hHeld; intro hHeld
              try simp only [Act.put, List.setIfInBounds_toArray, List.set_cons_zero, List.set_cons_succ]
              refine wpAnyH_take (i := 26) (oi := { dst := some 137, op := Op.move (Operand.tmp 136), type := 4, pos := "law.go:159", after := #[{ on := 25, ground := Ground.data }, { on := 22, ground := Ground.chain }, { on := 19, ground := Ground.guard }], guard := some (19, true) }) (v := ?_) rfl (by kernel_rfl) (by kernel_rfl) (by kernel_rfl) (fun _ _ _ h => h) (Or.inl ⟨by rfl, ?_⟩) hHeld ?_
              rotate_left
              · (intro w' hSw; (try dsimp only at hSw); go_split_ands; go_simp; first | done | with_reducible rfl)
              try simp only [Act.put, List.setIfInBounds_toArray, List.set_cons_zero, List.set_cons_succ]
              refine wpAnyH_take (i := 27) (oi := { dst := some 138, op := Op.move (Operand.tmp 11), type := 22, pos := "law.go:159", after := #[{ on := 26, ground := Ground.guard }], guard := some (26, true) }) (v := ?_) rfl (by kernel_rfl) (by kernel_rfl) (by kernel_rfl) (fun _ _ _ h => h) (Or.inl ⟨by rfl, ?_⟩) hHeld ?_
              rotate_left
              · (intro w' hSw; (try dsimp only at hSw); go_split_ands; go_simp; first | done | with_reducible rfl)
              try simp only [Act.put, List.setIfInBounds_toArray, List.set_cons_zero, List.set_cons_succ]
              refine wpAnyH_take (i := 28) (oi := { dst := some 139, op := Op.indexAddr 22 (Operand.tmp 138) (Operand.const (Value.int IntKind.i64 0)), type := 0, pos := "law.go:159", after := #[{ on := 27, ground := Ground.data }, { on := 26, ground := Ground.guard }], guard := some (26, true) }) (v := ?_) rfl (by kernel_rfl) (by kernel_rfl) (by kernel_rfl) (fun _ _ _ h => h) (Or.inl ⟨by rfl, ?_⟩) hHeld ?_
              rotate_left
              · (intro w' hSw; (try dsimp only at hSw); go_split_ands; go_simp; first | done | with_reducible rfl)
              try simp only [Act.put, List.setIfInBounds_toArray, List.set_cons_zero, List.set_cons_succ]
              refine wpAnyH_take (i := 29) (oi := { dst := some 140, op := Op.load 23 (Operand.tmp 139), type := 23, pos := "law.go:159", after := #[{ on := 28, ground := Ground.data }, { on := 26, ground := Ground.guard }], guard := some (26, true) }) (v := ?_) rfl (by kernel_rfl) (by kernel_rfl) (by kernel_rfl) (fun _ _ _ h => h) (Or.inl ⟨by rfl, ?_⟩) hHeld ?_
              rotate_left
              · (intro w' hSw; (try dsimp only at hSw); go_split_ands; go_simp; first | done | with_reducible rfl)
              try simp only [Act.put, List.setIfInBounds_toArray, List.set_cons_zero, List.set_cons_succ]
              refine wpAnyH_take (i := 30) (oi := { dst := some 141, op := Op.convert 23 9 (Operand.tmp 140), type := 9, pos := "law.go:159", after := #[{ on := 29, ground := Ground.data }, { on := 26, ground := Ground.guard }], guard := some (26, true) }) (v := ?_) rfl (by kernel_rfl) (by kernel_rfl) (by kernel_rfl) (fun _ _ _ h => h) (Or.inl ⟨by rfl, ?_⟩) hHeld ?_
              rotate_left
              · (intro w' hSw; (try dsimp only at hSw); go_split_ands; go_simp; first | done | with_reducible rfl)
              try simp only [Act.put, List.setIfInBounds_toArray, List.set_cons_zero, List.set_cons_succ]
              refine wpAnyH_take (i := 31) (oi := { dst := some 142, op := Op.move (Operand.tmp 1), type := 23, pos := "law.go:159", after := #[{ on := 26, ground := Ground.guard }], guard := some (26, true) }) (v := ?_) rfl (by kernel_rfl) (by kernel_rfl) (by kernel_rfl) (fun _ _ _ h => h) (Or.inl ⟨by rfl, ?_⟩) hHeld ?_
              rotate_left
              · (intro w' hSw; (try dsimp only at hSw); go_split_ands; go_simp; first | done | with_reducible rfl)
              try simp only [Act.put, List.setIfInBounds_toArray, List.set_cons_zero, List.set_cons_succ]
              refine wpAnyH_take (i := 32) (oi := { dst := some 143, op := Op.convert 23 9 (Operand.tmp 142), type := 9, pos := "law.go:159", after := #[{ on := 31, ground := Ground.data }, { on := 26, ground := Ground.guard }], guard := some (26, true) }) (v := ?_) rfl (by kernel_rfl) (by kernel_rfl) (by kernel_rfl) (fun _ _ _ h => h) (Or.inl ⟨by rfl, ?_⟩) hHeld ?_
              rotate_left
              · (intro w' hSw; (try dsimp only at hSw); go_split_ands; go_simp; first | done | with_reducible rfl)
              try simp only [Act.put, List.setIfInBounds_toArray, List.set_cons_zero, List.set_cons_succ]
              refine wpAnyH_take (i := 33) (oi := { dst := some 144, op := Op.binOp BinOp.eql 9 (Operand.tmp 141) (Operand.tmp 143) 9, type := 4, pos := "law.go:159", after := #[{ on := 30, ground := Ground.data }, { on := 32, ground := Ground.data }, { on := 26, ground := Ground.guard }], guard := some (26, true) }) (v := .bool hv) rfl (by kernel_rfl) (by kernel_rfl) (by kernel_rfl) (fun _ _ _ h => h) (Or.inl ⟨by rfl, ?_⟩) hHeld ?_
              · (intro w' hSw; (try dsimp only at hSw); go_split_ands; go_simp; first | done | with_reducible rfl | simp [HHV.out])
              try simp only [Act.put, List.setIfInBounds_toArray, List.set_cons_zero, List.set_cons_succ]
              refine wpAnyH_take (i := 34) (oi := { dst := some 145, op := Op.pick (Operand.tmp 137) (Operand.tmp 144) (Operand.const (Value.bool false)), type := 4, pos := "law.go:159", after := #[{ on := 26, ground := Ground.data }, { on := 33, ground := Ground.data }, { on := 19, ground := Ground.guard }], guard := some (19, true) }) (v := ?_) rfl (by kernel_rfl) (by kernel_rfl) (by kernel_rfl) (fun _ _ _ h => h) (Or.inl ⟨by rfl, ?_⟩) hHeld ?_
              rotate_left
              · (intro w' hSw; (try dsimp only at hSw); go_split_ands; go_simp; first | done | with_reducible rfl)
              try simp only [Act.put, List.setIfInBounds_toArray, List.set_cons_zero, List.set_cons_succ]
              refine wpAnyH_take (i := 35) (oi := { dst := some 146, op := Op.binOp BinOp.eql 4 (Operand.tmp 133) (Operand.tmp 145) 4, type := 4, pos := "law.go:159", after := #[{ on := 22, ground := Ground.data }, { on := 34, ground := Ground.data }, { on := 19, ground := Ground.guard }], guard := some (19, true) }) (v := ?_) rfl (by kernel_rfl) (by kernel_rfl) (by kernel_rfl) (fun _ _ _ h => h) (Or.inl ⟨by rfl, ?_⟩) hHeld ?_
              rotate_left
              · (intro w' hSw; (try dsimp only at hSw); go_split_ands; go_simp; first | done | with_reducible rfl)
              try simp only [Act.put, List.setIfInBounds_toArray, List.set_cons_zero, List.set_cons_succ]
              refine wpAnyH_take (i := 36) (oi := { dst := some 147, op := Op.pick (Operand.tmp 130) (Operand.tmp 146) (Operand.const (Value.bool false)), type := 4, pos := "law.go:159", after := #[{ on := 19, ground := Ground.data }, { on := 35, ground := Ground.data }], guard := none }) (v := ?_) rfl (by kernel_rfl) (by kernel_rfl) (by kernel_rfl) (fun _ _ _ h => h) (Or.inl ⟨by rfl, ?_⟩) hHeld ?_
              rotate_left
              · (intro w' hSw; (try dsimp only at hSw); go_split_ands; go_simp; first | done | with_reducible rfl)
              try simp only [Act.put, List.setIfInBounds_toArray, List.set_cons_zero, List.set_cons_succ]
              refine wpAnyH_take (i := 37) (oi := { dst := some 4, op := Op.assign (Operand.tmp 147), type := 4, pos := "law.go:159", after := #[{ on := 36, ground := Ground.data }, { on := 26, ground := Ground.chain }, { on := 0, ground := Ground.phase }, { on := 1, ground := Ground.phase }, { on := 2, ground := Ground.phase }, { on := 3, ground := Ground.phase }, { on := 4, ground := Ground.phase }, { on := 5, ground := Ground.phase }, { on := 6, ground := Ground.phase }, { on := 7, ground := Ground.phase }, { on := 8, ground := Ground.phase }, { on := 9, ground := Ground.phase }, { on := 10, ground := Ground.phase }, { on := 11, ground := Ground.phase }, { on := 12, ground := Ground.phase }, { on := 13, ground := Ground.phase }, { on := 14, ground := Ground.phase }, { on := 15, ground := Ground.phase }, { on := 16, ground := Ground.phase }, { on := 17, ground := Ground.phase }, { on := 18, ground := Ground.phase }, { on := 19, ground := Ground.phase }, { on := 20, ground := Ground.phase }, { on := 21, ground := Ground.phase }, { on := 22, ground := Ground.phase }, { on := 23, ground := Ground.phase }, { on := 24, ground := Ground.phase }, { on := 25, ground := Ground.phase }, { on := 26, ground := Ground.phase }, { on := 27, ground := Ground.phase }, { on := 28, ground := Ground.phase }, { on := 29, ground := Ground.phase }, { on := 30, ground := Ground.phase }, { on := 31, ground := Ground.phase }, { on := 32, ground := Ground.phase }, { on := 33, ground := Ground.phase }, { on := 34, ground := Ground.phase }, { on := 35, ground := Ground.phase }, { on := 36, ground := Ground.phase }], guard := none }) (v := ?_) rfl (by kernel_rfl) (by kernel_rfl) (by kernel_rfl) (fun _ _ _ h => h) (Or.inl ⟨by rfl, ?_⟩) hHeld ?_
              rotate_left
              · (intro w' hSw; (try dsimp only at hSw); go_split_ands; go_simp; first | done | with_reducible rfl)
              try simp only [Act.put, List.setIfInBounds_toArray, List.set_cons_zero, List.set_cons_succ]
              refine wpAnyH_done (by kernel_rfl) ?_ _
              refine NoPanic.normal ?_
              go_wp2
              go_ret
              exact ⟨by simp, hb0Z.trans (hb7.mono hb0Z.size)⟩
set_option maxRecDepth 100000 in
set_option maxHeartbeats 400000 in
theorem ItempartParts_any (A : Option Addr) (n c : Nat) (ls : List Item) (Bx : Option Addr) (lx dx : Nat) (x : Item) (hn : ls.length = n) (hnc : n ≤ c) (hxl : x.length = lx) (w : World) (hS : Sees2 w w.heap.size A ls) (hx : Sees w w.heap.size Bx (bv x)) (hH : Halves w) :
    Calls Tryd.prog 7 #[.slice A n c, .slice Bx lx dx] w (IsTrue w) := by
  obtain ⟨b, hb⟩ : ∃ b, fewB ls = b := ⟨_, rfl⟩
  obtain ⟨k, hk⟩ : ∃ k, checkR ls = k := ⟨_, rfl⟩
  have hnot : ∀ (x : Bool) (w : World), (Op.unary .not (.bool x)).run Tryd.prog w = .ok (.bool (!x)) w := fun _ _ => rfl
  have hF := fun (w : World) (h : Sees2 w w.heap.size A ls) => few_any A n c ls hn w h
  have hC := fun (w : World) (h : Sees2 w w.heap.size A ls) (hle : n ≤ 1099511627776) => RefCheck_any A n c ls hn w h hle
  by_cases hy : b = true ∧ lx ≤ 300 ∧ k = 0
  · exact ItempartParts_small A n c ls Bx lx dx x hn hnc hxl (hb.trans hy.1) hy.2.1 (hk.trans hy.2.2) w hS hx hH
  · have hn100 : b = true → n ≤ 100 := fun e => by have := (few_yes (hb.trans e)).1; omega
    rw [hb] at hF
    rw [hk] at hC
    have HF := Lib.hid hF
    have HC := Lib.hid hC
    clear hn hb hF hC hk hxl
    go_enter Tryd.func7, Tryd.ntmps7
    go_wp2_with fail
    refine (awake_any w hH).mono ?_
    rintro e w1 ⟨rfl, hb1⟩
    have hS1 := (hS.below hb1).more hb1.size
    go_wp2_with fail
    refine (HF.out w1 hS1).mono ?_
    rintro e w2 ⟨rfl, rfl⟩
    cases b with
    | true =>
      have h100 := hn100 rfl
      by_cases hlx : lx ≤ 300
      · have hk0 : k ≠ 0 := fun e => hy ⟨rfl, hlx, e⟩
        have hz : ((k : Int) != 0) = true := by rw [bne_iff_ne]; omega
        have HC1 := Lib.hid (HC.out w1 hS1 (by omega))
        clear hy hn100
        go_wp2_with fail
        refine HC1.out.mono ?_
        rintro e w2 ⟨rfl, q, rfl⟩
        go_wp2_with fail
        go_ret
        exact ⟨rfl, below_d hb1 _⟩
      · clear hy hn100
        go_wp2_with fail
        go_ret
        exact ⟨rfl, hb1⟩
    | false =>
      clear hy hn100
      go_wp2_with fail
      go_ret
      exact ⟨rfl, hb1⟩
end Go.Proofs.YtmdphaagbmipcaaDoor
