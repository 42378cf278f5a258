/-
  The document's sets, walked: Merge.
-/
import Derived.Test.YtadakaenbemedaaGreatDoorTgRef3
namespace Go.Proofs.YtadakaenbemedaaGreatDoor
open Go.RowKit Go.Maps

set_option maxRecDepth 100000 in
set_option maxHeartbeats 1600000 in
theorem refMerge_bad (q : Nat → Prop) (w : World) (v : Value) (s : SetM) (h : RSet q w v s) (hq : ∀ k, q k → k < w.heap.size) (hF : SetFit s) (first many : Int) (hb : ¬ (2 ≤ many ∧ 0 ≤ first ∧ first ≤ s.fs.length ∧ many ≤ s.fs.length - first)) :
    Calls Tryz.prog 35 #[v, .int .i64 first, .int .i64 many] w fun e w' => ∃ v', e = .returned (.tuple #[v', .slice none 0 0, .int .i64 1]) ∧ RStep q w w' v' s := by
  obtain ⟨A, c, F, d, rfl, h2, h3, h4, h5⟩ := h.out
  have hmm := hF.mem
  have hfs := hF.fs
  obtain ⟨n, hn⟩ : ∃ n, s.mem.length = n := ⟨_, rfl⟩
  obtain ⟨k, hk⟩ : ∃ k, s.fs.length = k := ⟨_, rfl⟩
  rw [hn] at hmm h2
  rw [hk] at hfs h3
  rw [hn, hk] at h ⊢
  obtain ⟨wa, hwa⟩ : ∃ wa, w.alloc (.cells #[.slice A n c, .slice F k d] 38) = wa := ⟨_, rfl⟩
  have hza : wa.heap.size = w.heap.size + 1 := by rw [← hwa]; simp
  obtain ⟨wb, hwb⟩ : ∃ wb, wa.alloc (.cells #[.slice none 0 0, .slice none 0 0] 38) = wb := ⟨_, rfl⟩
  have hzb : wb.heap.size = w.heap.size + 1 + 1 := by rw [← hwb]; simp [hza]
  have hba : Below w.heap.size w wa := by rw [← hwa]; exact (Below.refl _ w).alloc (Nat.le_refl _) _
  have hbb : Below w.heap.size w wb := by rw [← hwb]; exact hba.alloc (by omega) _
  have b1 : Box2 wb w.heap.size 38 (.slice A n c) (.slice F k d) := by rw [← hwb]; exact Box2.alloc (by rw [← hwa]; exact Box2.new w _ rfl _ _ _) _
  have b2 : Box2 wb (w.heap.size + 1) 38 (.slice none 0 0) (.slice none 0 0) := by rw [← hwb]; exact Box2.new wa _ hza _ _ _
  have c0 := b1.cell0
  have c1 := b1.cell1
  rw [hk] at hb
  have r0 := b2.cell0
  have r1 := b2.cell1
  have f0 := b2.frozen 0
  have f1 := b2.frozen 1
  have HR := Lib.hid h
  have z := (b2.set0 (.slice A n c)).set1 (.slice F k d)
  have hb9 : Below w.heap.size w ((wb.setCell ⟨w.heap.size + 1, 0, none⟩ (.slice A n c)).setCell ⟨w.heap.size + 1, 1, none⟩ (.slice F k d)) := (hbb.setCell (p := ⟨w.heap.size + 1, 0, none⟩) (by simp) _).setCell (p := ⟨w.heap.size + 1, 1, none⟩) (by simp) _
  have Z := Lib.hid z
  clear h h4 h5 hF hn hk z
  by_cases g1 : many < 2
  · clear hb
    go_enter Tryz.func35, Tryz.ntmps35
    go_wp2
    have z0 := Z.out.cell0
    have z1 := Z.out.cell1
    refine bodyPost_ret (v := .tuple #[.agg #[.slice A n c, .slice F k d], .slice none 0 0, .int .i64 1]) (by simp [results, Tryz.results35, go_sem, z0, z1]) rfl ?_
    exact ⟨_, rfl, ⟨(HR.out.keep (Kept.of_below hb9 hq)).mono fun x e => .inl e, hb9⟩⟩
  have g1' : 2 ≤ many := by omega
  by_cases g2 : first < 0
  · clear hb g1
    go_enter Tryz.func35, Tryz.ntmps35
    go_wp2
    have z0 := Z.out.cell0
    have z1 := Z.out.cell1
    refine bodyPost_ret (v := .tuple #[.agg #[.slice A n c, .slice F k d], .slice none 0 0, .int .i64 1]) (by simp [results, Tryz.results35, go_sem, z0, z1]) rfl ?_
    exact ⟨_, rfl, ⟨(HR.out.keep (Kept.of_below hb9 hq)).mono fun x e => .inl e, hb9⟩⟩
  have g2' : 0 ≤ first := by omega
  by_cases g3 : (k : Int) < first
  · clear hb g1 g2
    go_enter Tryz.func35, Tryz.ntmps35
    go_wp2
    have z0 := Z.out.cell0
    have z1 := Z.out.cell1
    refine bodyPost_ret (v := .tuple #[.agg #[.slice A n c, .slice F k d], .slice none 0 0, .int .i64 1]) (by simp [results, Tryz.results35, go_sem, z0, z1]) rfl ?_
    exact ⟨_, rfl, ⟨(HR.out.keep (Kept.of_below hb9 hq)).mono fun x e => .inl e, hb9⟩⟩
  have g3' : first ≤ (k : Int) := by omega
  have g4 : (k : Int) - first < many := by omega
  have hw : IntKind.i64.wrap ((k : Int) - first) = (k : Int) - first := by rw [IntKind.wrap_i64]; omega
  · clear hb g1 g2 g3
    go_enter Tryz.func35, Tryz.ntmps35
    go_wp2
    have z0 := Z.out.cell0
    have z1 := Z.out.cell1
    refine bodyPost_ret (v := .tuple #[.agg #[.slice A n c, .slice F k d], .slice none 0 0, .int .i64 1]) (by simp [results, Tryz.results35, go_sem, z0, z1]) rfl ?_
    exact ⟨_, rfl, ⟨(HR.out.keep (Kept.of_below hb9 hq)).mono fun x e => .inl e, hb9⟩⟩

set_option maxRecDepth 100000 in
set_option maxHeartbeats 3200000 in
theorem refMerge_good (q : Nat → Prop) (w : World) (v : Value) (s : SetM) (h : RSet q w v s) (hq : ∀ k, q k → k < w.heap.size) (hF : SetFit s) (i y : Nat) (hy : 2 ≤ y) (hiy : i + y ≤ s.fs.length) :
    Calls Tryz.prog 35 #[v, .int .i64 i, .int .i64 y] w fun e w' => ∃ v' B b, e = .returned (.tuple #[v', .slice B (fileB (s.join i y)).length b, .int .i64 0]) ∧ RStep q w w' v' ⟨s.mem, s.fs.take i ++ s.join i y :: s.fs.drop (i + y)⟩ ∧ Sees w' w'.heap.size B (bv (fileB (s.join i y))) := by
  obtain ⟨A, c, F, d, rfl, h2, h3, h4, h5⟩ := h.out
  have hmm := hF.mem
  have hfs := hF.fs
  obtain ⟨n, hn⟩ : ∃ n, s.mem.length = n := ⟨_, rfl⟩
  obtain ⟨k, hk⟩ : ∃ k, s.fs.length = k := ⟨_, rfl⟩
  rw [hn] at hmm h2
  rw [hk] at hfs h3
  rw [hn, hk] at h ⊢
  obtain ⟨wa, hwa⟩ : ∃ wa, w.alloc (.cells #[.slice A n c, .slice F k d] 38) = wa := ⟨_, rfl⟩
  have hza : wa.heap.size = w.heap.size + 1 := by rw [← hwa]; simp
  obtain ⟨wb, hwb⟩ : ∃ wb, wa.alloc (.cells #[.slice none 0 0, .slice none 0 0] 38) = wb := ⟨_, rfl⟩
  have hzb : wb.heap.size = w.heap.size + 1 + 1 := by rw [← hwb]; simp [hza]
  have hba : Below w.heap.size w wa := by rw [← hwa]; exact (Below.refl _ w).alloc (Nat.le_refl _) _
  have hbb : Below w.heap.size w wb := by rw [← hwb]; exact hba.alloc (by omega) _
  have b1 : Box2 wb w.heap.size 38 (.slice A n c) (.slice F k d) := by rw [← hwb]; exact Box2.alloc (by rw [← hwa]; exact Box2.new w _ rfl _ _ _) _
  have b2 : Box2 wb (w.heap.size + 1) 38 (.slice none 0 0) (.slice none 0 0) := by rw [← hwb]; exact Box2.new wa _ hza _ _ _
  have c0 := b1.cell0
  have c1 := b1.cell1
  have hjok := join_ok hF.ok (by have := hF.total; omega) (i := i) (k := y) (by omega) (by omega)
  obtain ⟨U, hU⟩ : ∃ U, s.join i y = U := ⟨_, rfl⟩
  obtain ⟨FS, hFS⟩ : ∃ FS, (s.fs.drop i).take y = FS := ⟨_, rfl⟩
  have hFl : FS.length = y := by rw [← hFS, List.length_take, List.length_drop]; omega
  have hUe : uniqL ahead FS.flatten = U := by rw [← hU, ← hFS]; rfl
  have hft : FS.flatten.length ≤ 900 := by
    have h2 := congrArg List.length (flat_parts s.fs i y)
    rw [List.length_append, List.length_append, hFS] at h2
    have := hF.total; unfold SetM.total at this; omega
  have hFo : ∀ r ∈ FS, ∀ y ∈ r, y.length ≤ 1000 := fun r hr y hy => by
    have : r ∈ s.fs := List.mem_of_mem_drop (List.mem_of_mem_take (hFS ▸ hr))
    have := (bad_len ((build_ok (hF.ok.files r this)).2.1 y hy)).2
    omega
  rw [hU] at hjok ⊢
  obtain ⟨vs, hP, hV⟩ := h5.pile
  have hvl : vs.length = k := by rw [hP.len, hk]
  obtain ⟨j, hj⟩ : ∃ j, i + y = j := ⟨_, rfl⟩
  rw [hk] at hiy
  obtain ⟨ad, rfl, hadq, hadc⟩ : ∃ ad, F = some ad ∧ q ad.block ∧ ∀ x u, vs[x]? = some u → w.cell? (ad.add x) = some u := by
    rcases hV.out with e | ⟨ad, e, e1, e2⟩
    · rw [e] at hvl; simp at hvl; omega
    · exact ⟨ad, e, e1, e2⟩
  have hVi : SeesM q w (some (ad.add i)) (vs.drop i) := ⟨.inr ⟨_, rfl, by rw [add_block]; exact hadq, fun x u hu => by rw [add_add']; exact hadc _ u (by rw [← hu, List.getElem?_drop])⟩⟩
  have hPi : PileM q w ((vs.drop i).take y) FS := by rw [← hFS]; exact (hP.drop i).take y
  have hS3 : Sees3M q wb (some (ad.add i)) FS := ⟨fun x hx => by
    obtain ⟨Ai, ci, p1, p2, p3⟩ := hPi.out x hx
    rw [List.getElem?_take, if_pos (by omega)] at p1
    rcases hVi.out with e | ⟨ad2, e, e1, e2⟩
    · rw [e] at p1; simp at p1
    · exact ⟨ad2, Ai, ci, e, e1, (hbb.cell (by rw [add_block]; exact hq _ e1)).trans (e2 x _ p1), p2, p3.keep (Kept.of_below hbb hq)⟩⟩
  have hI := Lib.hid (RefItems_m q (some (ad.add i)) y (d - i) FS wb hS3 (fun x e => by have := hq x e; omega) hFl (by omega) (by omega) hFo)
  rw [hUe] at hI
  have hw1 : IntKind.i64.wrap ((i : Int) + (y : Int)) = (j : Int) := by rw [IntKind.wrap_i64]; omega
  obtain ⟨r, hr⟩ : ∃ r, k - i = r := ⟨_, rfl⟩
  have hw2 : IntKind.i64.wrap ((k : Int) - (i : Int)) = (r : Int) := by rw [IntKind.wrap_i64]; omega
  have hjk : j - i = y := by omega
  have hkd : ¬ r < y := by omega
  have hni : ¬ k < i := by omega
  have hkd' : (y : Int) ≤ (r : Int) := by omega
  have hik' : (i : Int) ≤ (k : Int) := by omega
  have hy2 : (2 : Int) ≤ (y : Int) := by omega
  have hij : (i : Int) ≤ (j : Int) := by omega
  have hjn : (j : Int) ≤ (k : Int) := by omega
  have hjc : (j : Int) ≤ (d : Int) := by omega
  have hic : (i : Int) ≤ (d : Int) := by omega
  have hdi : ¬ d = i := by omega
  obtain ⟨Fj, hFj⟩ : ∃ Fj, (if d = j then some ad else some (ad.add j)) = Fj := ⟨_, rfl⟩
  obtain ⟨t, ht⟩ : ∃ t, k - j = t := ⟨_, rfl⟩
  have hVj : SeesM q w Fj (vs.drop j) := by
    rw [← hFj]
    by_cases e : d = j
    · rw [if_pos e]; exact ⟨.inl (List.drop_eq_nil_of_le (by omega))⟩
    · rw [if_neg e]; exact ⟨.inr ⟨_, rfl, by rw [add_block]; exact hadq, fun x u hu => by rw [add_add']; exact hadc _ u (by rw [← hu, List.getElem?_drop])⟩⟩
  have hV0 : SeesM q w (some ad) (vs.take i) := ⟨.inr ⟨_, rfl, hadq, fun x u hu => hadc x u (by rw [List.getElem?_take] at hu; split at hu; exact hu; cases hu)⟩⟩
  obtain ⟨V0, hv0⟩ : ∃ V0, vs.take i = V0 := ⟨_, rfl⟩
  obtain ⟨Vj, hvj⟩ : ∃ Vj, vs.drop j = Vj := ⟨_, rfl⟩
  have hP0 : PileM q w V0 (s.fs.take i) := by rw [← hv0]; exact hP.take i
  have hPj : PileM q w Vj (s.fs.drop j) := by rw [← hvj]; exact hP.drop j
  rw [hv0] at hV0
  rw [hvj] at hVj
  have hl0 : V0.length = i := by rw [← hv0, List.length_take]; omega
  have hlj : Vj.length = t := by rw [← hvj, List.length_drop]; omega
  rw [hj]
  have HIO := Lib.hid (show i ≤ 900 ∧ t ≤ 900 from by omega)
  have HM := Lib.hid h4
  have HN := Lib.hid hn
  have HP0 := Lib.hid hP0
  have HPJ := Lib.hid hPj
  have HV0 := Lib.hid hV0
  have HVJ := Lib.hid hVj
  have H10 := Lib.hid hP0.one
  have H1J := Lib.hid hPj.one
  have HL0 := Lib.hid hl0
  have HLJ := Lib.hid hlj
  have HBE := Lib.hid hjok
  have HFN := Lib.hid (show (s.fs.take i).length = i from by rw [List.length_take]; omega)
  have HFJ := Lib.hid (show (s.fs.drop j).length = t from by rw [List.length_drop]; omega)
  obtain ⟨ti, hti, hz0, hz1, hz2⟩ := info_parts Tryz.tinfo
  clear h h4 h5 hF hn hk hP hV hvl hjok hUe hft hFo hFl hFS hU hVi hPi hS3 hadq hadc hv0 hvj hP0 hPj hV0 hVj hl0 hlj hy hiy hj
  go_enter Tryz.func35, Tryz.ntmps35
  go_wp2_with fail
  refine hI.out.mono ?_
  rintro e w1 ⟨A1, c1, rfl, hR, hS, hb1⟩
  have hs1 := hb1.size
  have hb01 := hbb.trans (hb1.mono hbb.size)
  obtain ⟨un, hun⟩ : ∃ un, U.length = un := ⟨_, rfl⟩
  have HUN := Lib.hid hun
  have hun9 : Hid (un ≤ 10000) := by unfold Hid; rw [← hun]; exact hR.few
  have hcu : Hid (un ≤ c1) := by unfold Hid; rw [← hun]; exact hR.cap
  have HS := Lib.hid hS
  have HRS := Lib.hid hR.sees
  rw [hun]
  have hB := Lib.hid (RefBuild_any A1 un c1 U hun hcu.out w1 HRS.out (by have := hun9.out; omega))
  clear hI hR hS hun
  go_wp2_with fail
  refine hB.out.mono ?_
  rintro e w2 ⟨v2, rfl, hown2, hb2⟩
  rw [if_pos HBE.out] at hown2
  rw [HBE.out]
  obtain ⟨A2, c2, rfl, hc2, -, -, -⟩ := hown2.open_
  obtain ⟨fb, hfb⟩ : ∃ fb, (fileB U).length = fb := ⟨_, rfl⟩
  rw [hfb] at hc2 ⊢
  have HFB := Lib.hid hfb
  have HS2 := Lib.hid (ownB_seesM hown2)
  have hb12 := hb1.trans (hb2.mono hs1)
  have hs2 := hb2.size
  have d1 := b1.below hb12 b1.lt
  have d2 := b2.below hb12 b2.lt
  have c0' := d1.cell0
  have c1' := d1.cell1
  have hb02 := hbb.trans (hb12.mono hbb.size)
  have hs02 := hb02.size
  have hVb := (HV0.out.keep (Kept.of_below hb02 hq)).sees (B := w2.heap.size) fun y e => by have := hq y e; omega
  clear hB hown2 hfb
  go_wp2_with (first
    | (at_builtin; (refine wpList_append_v rfl (.tmp 53) (.tmp 57) 36 rfl 31 ti _ 1 24 Tryz.underlying36 hti hz0 hz1 hz2 rfl (by omega) w2.heap.size (.slice none 0 0) 0 [] (by rfl) (World.ownsRow_nil _ _ _ _) w2.heap.size (some ad) i d V0 (by rfl) (by rw [HL0.out, Nat.mul_one]) hVb H10.out (by have := HIO.out; simp only [maxLen]; omega) (by have := HIO.out; omega) (Nat.le_refl _) ?_; intro v3 w3 hown3 hon3; rw [List.nil_append, Nat.zero_add] at hown3; have hb3 : Below w2.heap.size w2 w3 := hon3.below_nil; have hs3 := hb3.size; have hsc := sees_cell w3 _ rfl (.slice A1 un c1) 31; have hown3' := World.ownsRow.alloc hown3 (.cells #[.slice A1 un c1] 31)))
    | (at_builtin; (refine wpList_append_v rfl (.tmp 59) (.tmp 61) 36 rfl 31 ti _ 1 24 Tryz.underlying36 hti hz0 hz1 hz2 rfl (by omega) w2.heap.size v3 i V0 (by rfl) hown3' (w3.heap.size + 1) (some ⟨w3.heap.size, 0, none⟩) 1 1 [.slice A1 un c1] (by rfl) rfl hsc (fun u hu => by simp at hu; subst hu; rfl) (by have := HIO.out; simp only [maxLen]; omega) (by have := HIO.out; omega) (by simp; omega) ?_; intro v4 w4 hown4 hon4; have hb4 : Below w2.heap.size w2 w4 := hb3.trans (((Below.refl _ w3).alloc hs3 _).trans (append_below hown3' (by simp; omega) hon4)); have hs4 := hb4.size; have c14 := (d1.below hb4 d1.lt).cell1; have hVJ4 := ((HVJ.out.keep (Kept.of_below (hb02.trans (hb4.mono hs02)) hq)).sees (B := w4.heap.size) fun y e => by have := hq y e; omega)))
    | (at_builtin; (refine wpList_append_v rfl (.tmp 63) (.tmp 69) 36 rfl 31 ti _ 1 24 Tryz.underlying36 hti hz0 hz1 hz2 rfl (by omega) w2.heap.size v4 (i + 1) (V0 ++ [.slice A1 un c1]) (by rfl) hown4 w4.heap.size Fj t (d - j) Vj (by rfl) (by rw [HLJ.out, Nat.mul_one]) hVJ4 H1J.out (by have := HIO.out; simp only [maxLen]; omega) (by have := HIO.out; omega) hs4 ?_; intro v5 w5 hown5 hon5; rw [show i + 1 + t = i + t + 1 from by omega] at hown5; have hb5 : Below w2.heap.size w2 w5 := hb4.trans (append_below hown4 hs4 hon5); obtain ⟨g5, cv5, rfl⟩ := ownsRow_succ hown5; have e1 := d1.below hb5 d1.lt; have e2 := d2.below hb5 d2.lt; obtain ⟨w6, hw6⟩ : ∃ w6, w5.setCell ⟨w.heap.size, 1, none⟩ (.slice (some ⟨g5, 0, none⟩) (i + t + 1) cv5) = w6 := ⟨_, rfl⟩; have e16 : Box2 w6 w.heap.size 38 (.slice A n c) (.slice (some ⟨g5, 0, none⟩) (i + t + 1) cv5) := (by rw [← hw6]; exact e1.set1 _); have e26 : Box2 w6 (w.heap.size + 1) 38 (.slice none 0 0) (.slice none 0 0) := (by rw [← hw6]; exact e2.far (by simp) _); have k1 := e1.cell1; have k2 := e1.frozen 1; have k5 := e16.cell0; have k6 := e16.cell1; have k7 := e26.cell0; have k8 := e26.cell1; have k9 := e26.frozen 0; have k10 := e26.frozen 1)))
  have z := (e26.set0 (.slice A n c)).set1 (.slice (some ⟨g5, 0, none⟩) (i + t + 1) cv5)
  have z0 := z.cell0
  have z1 := z.cell1
  refine bodyPost_ret (v := .tuple #[.agg #[.slice A n c, .slice (some ⟨g5, 0, none⟩) (i + t + 1) cv5], .slice A2 fb c2, .int .i64 0]) (by simp [results, Tryz.results35, go_sem, z0, z1]) rfl ?_
  have hs5 := hb5.size
  have hb05 := hb02.trans (hb5.mono hs02)
  have hk9 : Kept (fun y => y ≠ w.heap.size ∧ y ≠ w.heap.size + 1) w5 ((w6.setCell ⟨w.heap.size + 1, 0, none⟩ (.slice A n c)).setCell ⟨w.heap.size + 1, 1, none⟩ (.slice (some ⟨g5, 0, none⟩) (i + t + 1) cv5)) := fun y hy => by
    rw [Below.heap_setCell _ _ _ _ hy.2, Below.heap_setCell _ _ _ _ hy.2, ← hw6, Below.heap_setCell _ _ _ _ hy.1]
  have hz9 : ((w6.setCell ⟨w.heap.size + 1, 0, none⟩ (.slice A n c)).setCell ⟨w.heap.size + 1, 1, none⟩ (.slice (some ⟨g5, 0, none⟩) (i + t + 1) cv5)).heap.size = w5.heap.size := by rw [World.size_setCell, World.size_setCell, ← hw6, World.size_setCell]
  have hb9 : Below w.heap.size w ((w6.setCell ⟨w.heap.size + 1, 0, none⟩ (.slice A n c)).setCell ⟨w.heap.size + 1, 1, none⟩ (.slice (some ⟨g5, 0, none⟩) (i + t + 1) cv5)) := by
    have h6 : Below w.heap.size w w6 := by rw [← hw6]; exact hb05.setCell (p := ⟨w.heap.size, 1, none⟩) (by simp) _
    exact (h6.setCell (p := ⟨w.heap.size + 1, 0, none⟩) (by simp) _).setCell (p := ⟨w.heap.size + 1, 1, none⟩) (by simp) _
  have hglt := World.ownsRow.lt hown5 g5 rfl
  have hU5 : Sees2M (fun x => q x ∨ (wb.heap.size ≤ x ∧ x < w5.heap.size)) w5 A1 U := (HS.out.keep fun y e => by
    refine (hb5.block y ?_).trans (hb2.block y ?_)
    · rcases e with e | e; have := hq y e; omega; omega
    · rcases e with e | e; have := hq y e; have := hb01.size; omega; omega).mono fun y e => by
      rcases e with e | e
      · exact .inl e
      · exact .inr ⟨e.1, by omega⟩
  have hPl : PileM (fun x => q x ∨ (wb.heap.size ≤ x ∧ x < w5.heap.size)) w5 (V0 ++ [.slice A1 un c1] ++ Vj) (s.fs.take i ++ [U] ++ s.fs.drop j) :=
    ((((HP0.out.keep (Kept.of_below hb05 hq)).mono fun x e => .inl e).append (PileM.single HUN.out hcu.out hU5)).append ((HPJ.out.keep (Kept.of_below hb05 hq)).mono fun x e => .inl e))
  have hlen : (s.fs.take i ++ [U] ++ s.fs.drop j).length = i + t + 1 := by rw [List.length_append, List.length_append, HFN.out, HFJ.out, List.length_singleton]; omega
  obtain ⟨A5, c5, e2', hcc, hS5⟩ := hPl.sees (v := .slice (some ⟨g5, 0, none⟩) (i + t + 1) cv5) (by rw [hlen]; exact hown5) (fun x e => by have := Option.some.inj e; exact .inr (by simp only at this; omega))
  injection e2' with i1 i2 i3
  subst i1
  have hap : s.fs.take i ++ [U] ++ s.fs.drop j = s.fs.take i ++ U :: s.fs.drop j := by simp
  rw [hap] at hlen hcc hS5
  refine ⟨_, A2, c2, by rw [HFB.out], ⟨⟨A, c, some ⟨g5, 0, none⟩, cv5, by rw [HN.out, hlen], by rw [HN.out]; exact h2, by rw [i3]; exact hcc, ?_, ?_⟩, hb9⟩, ?_⟩
  · exact (HM.out.keep (Kept.of_below hb9 hq)).mono fun y e => .inl e
  · refine (hS5.keep (hk9.mono fun y e => ?_)).mono fun y e => ?_
    · rcases e with e | e
      · have := hq y e; exact ⟨by omega, by omega⟩
      · exact ⟨by omega, by omega⟩
    · rcases e with e | e
      · exact .inl e
      · exact .inr ⟨by omega, by rw [hz9]; omega⟩
  · exact (HS2.out.keep (fun y e => (hk9 y ⟨by have := hb01.size; omega, by have := hb01.size; omega⟩).trans (hb5.block y e.2))).sees fun y e => by rw [hz9]; omega
end Go.Proofs.YtadakaenbemedaaGreatDoor
