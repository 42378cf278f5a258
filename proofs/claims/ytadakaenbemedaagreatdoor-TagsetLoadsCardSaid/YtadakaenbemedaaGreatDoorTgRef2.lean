/-
  The document's sets, walked: Has, Add.
-/
import Derived.Test.YtadakaenbemedaaGreatDoorTgRef
namespace Go.Proofs.YtadakaenbemedaaGreatDoor
open Go.RowKit Go.Maps

theorem RSet.agg {q : Nat → Prop} {w : World} {v : Value} {s : SetM} (h : RSet q w v s) : ∃ v0 v1, v = .agg #[v0, v1] ∧ v0.oneCell' = true ∧ v1.oneCell' = true := by
  obtain ⟨A, c, F, d, rfl, -⟩ := h.out
  exact ⟨_, _, rfl, rfl, rfl⟩

set_option maxRecDepth 100000 in
set_option maxHeartbeats 1600000 in
theorem refHas_any (q : Nat → Prop) (w : World) (v : Value) (s : SetM) (h : RSet q w v s) (hq : ∀ k, q k → k < w.heap.size) (hF : SetFit s) (Bx : Option Addr) (lx dx : Nat) (x : Item) (hxl : x.length = lx) (hx : Sees w w.heap.size Bx (bv x)) :
    Calls Tryz.prog 20 #[v, .slice Bx lx dx] w (Gives w (.bool (s.has x))) := by
  have hhas : s.has x = s.all.any fun y => decide (y = x) := by
    rw [SetM.has_eq, ← Bool.coe_iff_coe, decide_eq_true_eq, List.any_eq_true]
    exact ⟨fun e => ⟨x, e, decide_eq_true rfl⟩, fun ⟨y, hy, e⟩ => of_decide_eq_true e ▸ hy⟩
  obtain ⟨A, c, F, d, rfl, -⟩ := h.out
  obtain ⟨n, hn⟩ : ∃ n, s.mem.length = n := ⟨_, rfl⟩
  obtain ⟨k, hk⟩ : ∃ k, s.fs.length = k := ⟨_, rfl⟩
  rw [hn, hk] at h ⊢
  obtain ⟨wb, hwb⟩ : ∃ wb, w.alloc (.cells #[.slice A n c, .slice F k d] 38) = wb := ⟨_, rfl⟩
  have hbb : Below w.heap.size w wb := by rw [← hwb]; exact (Below.refl _ w).alloc (Nat.le_refl _) _
  have hzb : wb.heap.size = w.heap.size + 1 := by rw [← hwb]; simp
  have bb : Box2 wb w.heap.size 38 (.slice A n c) (.slice F k d) := by rw [← hwb]; exact Box2.new w _ rfl _ _ _
  have c0 := bb.cell0
  have c1 := bb.cell1
  have hAll := Lib.hid (refAll_any q wb _ s (h.keep (Kept.of_below hbb hq)) (fun x e => by have := hq x e; omega) hF)
  obtain ⟨Y, hY⟩ : ∃ Y, s.all = Y := ⟨_, rfl⟩
  rw [hY] at hAll hhas
  rw [hhas]
  have HXL := Lib.hid hxl
  have HXB := Lib.hid (hx.below hbb)
  obtain ⟨X, hX⟩ : ∃ X, (Y.any fun y => decide (y = x)) = X := ⟨_, rfl⟩
  rw [hX]
  have HX := Lib.hid hX
  clear h hF hx hxl hhas hX hn hk hY
  go_enter Tryz.func20, Tryz.ntmps20
  go_wp2_with fail
  refine hAll.out.mono ?_
  rintro e w1 ⟨A1, c1, rfl, hR, -, hb1⟩
  have hs1 := hb1.size
  obtain ⟨l, hl⟩ : ∃ l, Y.length = l := ⟨_, rfl⟩
  rw [hl]
  have hl9 : l ≤ 10000 := by rw [← hl]; exact hR.few
  have HL := Lib.hid hl
  clear hAll hl
  go_wp2
  go_loopg [6] l (fun g i wr => ∃ k : Nat, k + g = l ∧ i = .int .i64 k ∧ Hid (X = (Y.drop k).any fun y => decide (y = x)) ∧ ∃ p, wr = w1.drewN p)
  case atStart => exact ⟨0, by omega, rfl, HX.out.symm, 0, rfl⟩
  case round =>
    obtain ⟨k, hk, rfl, heq, p, rfl⟩ := hrel
    by_cases hlt : k < l
    · obtain ⟨ad, Ai, ci, rfl, hadB, hcell0, hci, hsee⟩ := hR.sees.out k (by rw [HL.out]; exact hlt)
      have hstep := Lib.hid (heq.out.trans (any_from (ls := Y) (f := fun y => decide (y = x)) (k := k) (by rw [HL.out]; exact hlt)))
      obtain ⟨y, hy⟩ : ∃ y, Y[k]'(by rw [HL.out]; exact hlt) = y := ⟨_, rfl⟩
      rw [hy] at hcell0 hci hsee hstep
      have cv1 := fun r => run_str (w1.drewN r) _ Ai y.length ci y (hsee.drewN r) rfl
      have cv2 := fun r => run_str (w1.drewN r) _ Bx lx dx x ((HXB.out.below (hb1.mono (by omega))).drewN r) HXL.out
      have hbeq : ((strOf y).toList == (strOf x).toList) = decide (y = x) := by rw [strOf_toList, strOf_toList]; by_cases e : y = x <;> simp [e]
      obtain ⟨b, hb⟩ : ∃ b, decide (y = x) = b := ⟨_, rfl⟩
      rw [hb] at hbeq hstep
      clear hy hb heq
      cases b with
      | true =>
        have hT : Hid (X = true) := by unfold Hid; rw [hstep.out, Bool.true_or]
        clear hstep
        go_wp2
        go_quiet (fail)
        go_wp2
        go_ret
        exact ⟨by rw [hT.out]; rfl, hbb.trans ((below_d (below_d hb1 _) _).mono (by omega))⟩
      | false =>
        have hT : Hid (X = (Y.drop (k + 1)).any fun y => decide (y = x)) := by unfold Hid; rw [hstep.out, Bool.false_or]
        clear hstep
        go_wp2
        go_quiet (fail)
        go_wp2
        go_roundg (l - (k + 1))
        case measure => omega
        case rel => exact ⟨k + 1, by omega, by go_num, hT, _, rfl⟩
    · have hT : Hid (X = false) := by unfold Hid; rw [heq.out, List.drop_eq_nil_of_le (by rw [HL.out]; omega)]; rfl
      clear heq
      go_wp2
      go_ret
      exact ⟨by rw [hT.out]; rfl, hbb.trans ((below_d hb1 _).mono (by omega))⟩

/-- What a call that hands a set of the document's back gives: the set, in blocks of q or new ones. -/
structure RStep (q : Nat → Prop) (w w' : World) (v : Value) (s' : SetM) : Prop where
  set : RSet (fun k => q k ∨ (w.heap.size ≤ k ∧ k < w'.heap.size)) w' v s'
  below : Below w.heap.size w w'

set_option maxRecDepth 100000 in
set_option maxHeartbeats 1600000 in
theorem refAdd_any (q : Nat → Prop) (w : World) (v : Value) (s : SetM) (h : RSet q w v s) (hq : ∀ k, q k → k < w.heap.size) (hF : SetFit s) (Bx : Option Addr) (lx dx : Nat) (x : Item) (hxl : x.length = lx) (hlc : lx ≤ dx) (hx : SeesM q w Bx (bv x)) :
    Calls Tryz.prog 33 #[v, .slice Bx lx dx] w fun e w' => ∃ v', e = .returned (.tuple #[v', .int .i64 ((s.add x).2 : Nat)]) ∧ RStep q w w' v' (s.add x).1 := by
  obtain ⟨A, c, F, d, rfl, h2, h3, h4, h5⟩ := h.out
  have hmm := hF.mem
  obtain ⟨n, hn⟩ : ∃ n, s.mem.length = n := ⟨_, rfl⟩
  obtain ⟨k, hk⟩ : ∃ k, s.fs.length = k := ⟨_, rfl⟩
  rw [hn] at hmm
  rw [hn, hk] at h ⊢
  obtain ⟨wa, hwa⟩ : ∃ wa, w.alloc (.cells #[.slice A n c, .slice F k d] 38) = wa := ⟨_, rfl⟩
  have hza : wa.heap.size = w.heap.size + 1 := by rw [← hwa]; simp
  obtain ⟨wb, hwb⟩ : ∃ wb, wa.alloc (.cells #[.slice none 0 0, .slice none 0 0] 38) = wb := ⟨_, rfl⟩
  have hzb : wb.heap.size = w.heap.size + 1 + 1 := by rw [← hwb]; simp [hza]
  have hba : Below w.heap.size w wa := by rw [← hwa]; exact (Below.refl _ w).alloc (Nat.le_refl _) _
  have hbb : Below w.heap.size w wb := by rw [← hwb]; exact hba.alloc (by omega) _
  have b1 : Box2 wb w.heap.size 38 (.slice A n c) (.slice F k d) := by rw [← hwb]; exact Box2.alloc (by rw [← hwa]; exact Box2.new w _ rfl _ _ _) _
  have b2 : Box2 wb (w.heap.size + 1) 38 (.slice none 0 0) (.slice none 0 0) := by rw [← hwb]; exact Box2.new wa _ hza _ _ _
  have c0 := b1.cell0
  have c1 := b1.cell1
  have r0 := b2.cell0
  have r1 := b2.cell1
  have f0 := b2.frozen 0
  have f1 := b2.frozen 1
  have HN := Lib.hid hn
  have HK := Lib.hid hk
  have h2' : n ≤ c := by omega
  have h3' : k ≤ d := by omega
  clear h2 h3
  by_cases hsh : lx < 1
  · have hbd : badL x = true := by unfold badL; rw [decide_eq_true (by omega), Bool.true_or]
    have e1 : s.add x = (s, 1) := by unfold SetM.add; rw [if_pos hbd]
    rw [e1]
    have HR := Lib.hid h
    clear h h4 h5 hF hx hxl hbd e1 hn hk
    go_enter Tryz.func33, Tryz.ntmps33
    go_wp2
    have z := (b2.set0 (.slice A n c)).set1 (.slice F k d)
    have z0 := z.cell0
    have z1 := z.cell1
    refine bodyPost_ret (v := .tuple #[.agg #[.slice A n c, .slice F k d], .int .i64 1]) (by simp [results, Tryz.results33, go_sem, z0, z1]) rfl ?_
    have hb9 : Below w.heap.size w ((wb.setCell ⟨w.heap.size + 1, 0, none⟩ (.slice A n c)).setCell ⟨w.heap.size + 1, 1, none⟩ (.slice F k d)) := (hbb.setCell (p := ⟨w.heap.size + 1, 0, none⟩) (by simp) _).setCell (p := ⟨w.heap.size + 1, 1, none⟩) (by simp) _
    exact ⟨_, rfl, (HR.out.keep (Kept.of_below hb9 hq)).mono fun x e => .inl e, hb9⟩
  by_cases hlg : 400 < lx
  · have hbd : badL x = true := by unfold badL; rw [decide_eq_true (p := 400 < x.length) (by omega), Bool.or_true]
    have hlg' : (400 : Int) < (lx : Int) := by omega
    have hsh' : (1 : Int) ≤ (lx : Int) := by omega
    have e1 : s.add x = (s, 1) := by unfold SetM.add; rw [if_pos hbd]
    rw [e1]
    have HR := Lib.hid h
    clear h h4 h5 hF hx hxl hbd e1 hn hk
    go_enter Tryz.func33, Tryz.ntmps33
    go_wp2
    have z := (b2.set0 (.slice A n c)).set1 (.slice F k d)
    have z0 := z.cell0
    have z1 := z.cell1
    refine bodyPost_ret (v := .tuple #[.agg #[.slice A n c, .slice F k d], .int .i64 1]) (by simp [results, Tryz.results33, go_sem, z0, z1]) rfl ?_
    have hb9 : Below w.heap.size w ((wb.setCell ⟨w.heap.size + 1, 0, none⟩ (.slice A n c)).setCell ⟨w.heap.size + 1, 1, none⟩ (.slice F k d)) := (hbb.setCell (p := ⟨w.heap.size + 1, 0, none⟩) (by simp) _).setCell (p := ⟨w.heap.size + 1, 1, none⟩) (by simp) _
    exact ⟨_, rfl, (HR.out.keep (Kept.of_below hb9 hq)).mono fun x e => .inl e, hb9⟩
  have hbd : badL x = false := by unfold badL; rw [decide_eq_false (by omega), decide_eq_false (by omega)]; rfl
  have hsh' : (1 : Int) ≤ (lx : Int) := by omega
  have hlg' : (lx : Int) ≤ 400 := by omega
  have hH := Lib.hid (refHas_any q wb _ s (h.keep (Kept.of_below hbb hq)) (fun x e => by have := hq x e; omega) hF Bx lx dx x hxl ((hx.keep (Kept.of_below hbb hq)).sees fun y e => by have := hq y e; omega))
  cases hh : s.has x with
  | true =>
    have e1 : s.add x = (s, 0) := by unfold SetM.add; rw [if_neg (by rw [hbd]; simp), if_pos hh]
    rw [e1]
    rw [hh] at hH
    have HR := Lib.hid h
    clear h h4 h5 hF hx hxl hbd e1 hn hk hh
    go_enter Tryz.func33, Tryz.ntmps33
    go_wp2_with fail
    refine hH.out.mono ?_
    rintro e w1 ⟨rfl, hb1⟩
    have hs1 := hb1.size
    have d1 := b1.below hb1 b1.lt
    have d2 := b2.below hb1 b2.lt
    have c0 := d1.cell0
    have c1 := d1.cell1
    have r0 := d2.cell0
    have r1 := d2.cell1
    have f0 := d2.frozen 0
    have f1 := d2.frozen 1
    go_wp2
    have z := (d2.set0 (.slice A n c)).set1 (.slice F k d)
    have z0 := z.cell0
    have z1 := z.cell1
    refine bodyPost_ret (v := .tuple #[.agg #[.slice A n c, .slice F k d], .int .i64 0]) (by simp [results, Tryz.results33, go_sem, z0, z1]) rfl ?_
    have hb8 := hbb.trans (hb1.mono hbb.size)
    have hb9 : Below w.heap.size w ((w1.setCell ⟨w.heap.size + 1, 0, none⟩ (.slice A n c)).setCell ⟨w.heap.size + 1, 1, none⟩ (.slice F k d)) := (hb8.setCell (p := ⟨w.heap.size + 1, 0, none⟩) (by simp) _).setCell (p := ⟨w.heap.size + 1, 1, none⟩) (by simp) _
    exact ⟨_, rfl, (HR.out.keep (Kept.of_below hb9 hq)).mono fun x e => .inl e, hb9⟩
  | false =>
    rw [hh] at hH
    by_cases h5c : 500 ≤ n
    · have e1 : s.add x = (s, 2) := by unfold SetM.add; rw [if_neg (by rw [hbd]; simp), if_neg (by rw [hh]; simp), if_pos (by omega)]
      rw [e1]
      have HR := Lib.hid h
      have h5' : (500 : Int) ≤ (n : Int) := by omega
      clear h h4 h5 hF hx hxl hbd e1 hn hk hh
      go_enter Tryz.func33, Tryz.ntmps33
      go_wp2_with fail
      refine hH.out.mono ?_
      rintro e w1 ⟨rfl, hb1⟩
      have hs1 := hb1.size
      have d1 := b1.below hb1 b1.lt
      have d2 := b2.below hb1 b2.lt
      have c0 := d1.cell0
      have c1 := d1.cell1
      have r0 := d2.cell0
      have r1 := d2.cell1
      have f0 := d2.frozen 0
      have f1 := d2.frozen 1
      go_wp2
      have z := (d2.set0 (.slice A n c)).set1 (.slice F k d)
      have z0 := z.cell0
      have z1 := z.cell1
      refine bodyPost_ret (v := .tuple #[.agg #[.slice A n c, .slice F k d], .int .i64 2]) (by simp [results, Tryz.results33, go_sem, z0, z1]) rfl ?_
      have hb8 := hbb.trans (hb1.mono hbb.size)
      have hb9 : Below w.heap.size w ((w1.setCell ⟨w.heap.size + 1, 0, none⟩ (.slice A n c)).setCell ⟨w.heap.size + 1, 1, none⟩ (.slice F k d)) := (hb8.setCell (p := ⟨w.heap.size + 1, 0, none⟩) (by simp) _).setCell (p := ⟨w.heap.size + 1, 1, none⟩) (by simp) _
      exact ⟨_, rfl, (HR.out.keep (Kept.of_below hb9 hq)).mono fun x e => .inl e, hb9⟩
    · have e1 : s.add x = (⟨uniqL ahead (s.mem ++ [x]), s.fs⟩, 0) := by unfold SetM.add; rw [if_neg (by rw [hbd]; simp), if_neg (by rw [hh]; simp), if_neg (by omega)]
      rw [e1]
      have h5' : (n : Int) < 500 := by omega
      have HM := Lib.hid h4
      have HFs := Lib.hid h5
      have HX := Lib.hid hx
      have HXL := Lib.hid hxl
      have HSM := Lib.hid ((hF.tier s.mem List.mem_cons_self).short)
      obtain ⟨U, hU⟩ : ∃ U, uniqL ahead (s.mem ++ [x]) = U := ⟨_, rfl⟩
      rw [hU]
      have HU := Lib.hid hU
      clear h h4 h5 hF hx hxl hbd e1 hn hk hh hU
      go_enter Tryz.func33, Tryz.ntmps33
      go_wp2_with fail
      refine hH.out.mono ?_
      rintro e w1 ⟨rfl, hb1⟩
      have hs1 := hb1.size
      have d1 := b1.below hb1 b1.lt
      have d2 := b2.below hb1 b2.lt
      have c0 := d1.cell0
      have c1 := d1.cell1
      have hb8 := hbb.trans (hb1.mono hbb.size)
      obtain ⟨w2, hw2⟩ : ∃ w2, w1.alloc (.cells #[.slice Bx lx dx] 27) = w2 := ⟨_, rfl⟩
      have hz2 : w2.heap.size = w1.heap.size + 1 := by rw [← hw2]; simp
      obtain ⟨w3, hw3⟩ : ∃ w3, w2.alloc (.cells #[.slice A n c, .slice (some ⟨w1.heap.size, 0, none⟩) 1 1] 31) = w3 := ⟨_, rfl⟩
      have hz3 : w3.heap.size = w1.heap.size + 1 + 1 := by rw [← hw3]; simp [hz2]
      have hb12 : Below w1.heap.size w1 w2 := by rw [← hw2]; exact (Below.refl _ w1).alloc (Nat.le_refl _) _
      have hb13 : Below w1.heap.size w1 w3 := by rw [← hw3]; exact hb12.alloc (by omega) _
      have hb3 := hb8.trans (hb13.mono hb8.size)
      have hs8 := hb8.size
      have hS3 : Sees3M (fun y => q y ∨ (w1.heap.size ≤ y ∧ y < w3.heap.size)) w3 (some ⟨w1.heap.size + 1, 0, none⟩) [s.mem, [x]] := ⟨fun i hi => by
        match i, hi with
        | 0, _ => exact ⟨_, A, c, rfl, .inr ⟨by simp only; omega, by simp only; omega⟩, by rw [← hw3, Addr.add_lit, World.cell?_alloc_at _ _ _ _ (by omega)]; simp [HN.out], by rw [show ([s.mem, [x]] : List (List Item))[0] = s.mem from rfl, HN.out]; exact h2', (HM.out.keep (Kept.of_below hb3 hq)).mono fun y e => .inl e⟩
        | 1, _ => exact ⟨_, some ⟨w1.heap.size, 0, none⟩, 1, rfl, .inr ⟨by simp only; omega, by simp only; omega⟩, by rw [← hw3, Addr.add_lit, World.cell?_alloc_at _ _ _ _ (by omega)]; rfl, by simp, ⟨fun i hi => by
            have h0 : i = 0 := by simpa using hi
            subst h0
            refine ⟨_, Bx, dx, rfl, .inr ⟨by simp only; omega, by simp only; omega⟩, ?_, by show x.length ≤ dx; rw [HXL.out]; exact hlc, ?_⟩
            · rw [← hw3, Addr.add_lit, World.cell?_alloc_lt _ _ _ (by simp only; omega), ← hw2, World.cell?_alloc_at _ _ _ _ rfl]; simp [HXL.out]
            · exact (HX.out.keep (Kept.of_below hb3 hq)).mono fun y e => .inl e⟩⟩⟩
      have hI := Lib.hid (RefItems_m _ (some ⟨w1.heap.size + 1, 0, none⟩) 2 2 [s.mem, [x]] w3 hS3 (fun y e => by rcases e with e | e; have := hq y e; omega; exact e.2) rfl (by omega) (by simp [HN.out]; omega) (fun r hr y hy => by
        simp only [List.mem_cons, List.not_mem_nil, or_false] at hr
        rcases hr with rfl | rfl
        · exact HSM.out y hy
        · rw [List.mem_singleton.1 hy, HXL.out]; omega))
      rw [show ([s.mem, [x]] : List (List Item)).flatten = s.mem ++ [x] from by simp] at hI
      rw [HU.out] at hI
      clear hS3
      go_wp2_with fail
      refine hI.out.mono ?_
      rintro e w4 ⟨A4, c4, rfl, hR4, hS4, hb4⟩
      have hs4 := hb4.size
      have g1 := d1.below (hb13.trans (hb4.mono (by omega))) d1.lt
      have g2 := d2.below (hb13.trans (hb4.mono (by omega))) d2.lt
      obtain ⟨un, hun⟩ : ∃ un, U.length = un := ⟨_, rfl⟩
      have HUN := Lib.hid hun
      rw [hun] at hR4 ⊢
      have hcu := hR4.cap
      obtain ⟨w5, hw5⟩ : ∃ w5, w4.setCell ⟨w.heap.size, 0, none⟩ (.slice A4 un c4) = w5 := ⟨_, rfl⟩
      have g1' : Box2 w5 w.heap.size 38 (.slice A4 un c4) (.slice F k d) := by rw [← hw5]; exact g1.set0 _
      have g2' : Box2 w5 (w.heap.size + 1) 38 (.slice none 0 0) (.slice none 0 0) := by rw [← hw5]; exact g2.far (by simp) _
      have k0 := g1.cell0
      have k1 := g1.frozen 0
      have c0 := g1'.cell0
      have c1 := g1'.cell1
      have r0 := g2'.cell0
      have r1 := g2'.cell1
      have f0 := g2'.frozen 0
      have f1 := g2'.frozen 1
      have HI := Lib.hid hS4
      clear hI hS4 hun g1 g2
      go_wp2
      have z := (g2'.set0 (.slice A4 un c4)).set1 (.slice F k d)
      have z0 := z.cell0
      have z1 := z.cell1
      refine bodyPost_ret (v := .tuple #[.agg #[.slice A4 un c4, .slice F k d], .int .i64 0]) (by simp [results, Tryz.results33, go_sem, z0, z1]) rfl ?_
      have hb34 := hb3.trans (hb4.mono hb3.size)
      have hb5 : Below w.heap.size w w5 := by rw [← hw5]; exact hb34.setCell (p := ⟨w.heap.size, 0, none⟩) (by simp) _
      have hb9 : Below w.heap.size w ((w5.setCell ⟨w.heap.size + 1, 0, none⟩ (.slice A4 un c4)).setCell ⟨w.heap.size + 1, 1, none⟩ (.slice F k d)) := (hb5.setCell (p := ⟨w.heap.size + 1, 0, none⟩) (by simp) _).setCell (p := ⟨w.heap.size + 1, 1, none⟩) (by simp) _
      have hz5 : w5.heap.size = w4.heap.size := by rw [← hw5]; simp
      have hz9 : ((w5.setCell ⟨w.heap.size + 1, 0, none⟩ (.slice A4 un c4)).setCell ⟨w.heap.size + 1, 1, none⟩ (.slice F k d)).heap.size = w4.heap.size := by rw [World.size_setCell, World.size_setCell, hz5]
      have hk9 : Kept (fun y => y ≠ w.heap.size ∧ y ≠ w.heap.size + 1) w4 ((w5.setCell ⟨w.heap.size + 1, 0, none⟩ (.slice A4 un c4)).setCell ⟨w.heap.size + 1, 1, none⟩ (.slice F k d)) := fun y hy => by
        rw [Below.heap_setCell _ _ _ _ hy.2, Below.heap_setCell _ _ _ _ hy.2, ← hw5, Below.heap_setCell _ _ _ _ hy.1]
      refine ⟨_, rfl, ⟨A4, c4, F, d, by rw [HUN.out, HK.out], by rw [HUN.out]; exact hcu, by rw [HK.out]; exact h3', ?_, ?_⟩, hb9⟩
      · refine (HI.out.keep (hk9.mono fun y e => ?_)).mono fun y e => ?_
        · rcases e with (e | e) | e
          · have := hq y e; exact ⟨by omega, by omega⟩
          · exact ⟨by omega, by omega⟩
          · exact ⟨by omega, by omega⟩
        · rcases e with (e | e) | e
          · exact .inl e
          · exact .inr ⟨by omega, by rw [hz9]; omega⟩
          · exact .inr ⟨by omega, by rw [hz9]; omega⟩
      · exact (HFs.out.keep (Kept.of_below hb9 hq)).mono fun y e => .inl e
end Go.Proofs.YtadakaenbemedaaGreatDoor
