/-
  The document's sets, walked: Flush.
-/
import Derived.Test.YtadakaenbemedaaGreatDoorTgRef2
namespace Go.Proofs.YtadakaenbemedaaGreatDoor
open Go.RowKit Go.Maps

set_option maxRecDepth 100000 in
set_option maxHeartbeats 1600000 in
theorem refFlush_any (q : Nat → Prop) (w : World) (v : Value) (s : SetM) (h : RSet q w v s) (hq : ∀ k, q k → k < w.heap.size) (hF : SetFit s) :
    Calls Tryz.prog 34 #[v] w fun e w' => ∃ v' B b, e = .returned (.tuple #[v', .slice B s.flush.2.1.length b, .bool s.flush.2.2]) ∧ RStep q w w' v' s.flush.1 ∧ Sees w' w'.heap.size B (bv s.flush.2.1) := by
  obtain ⟨A, c, F, d, rfl, h2, h3, h4, h5⟩ := h.out
  have hmm := hF.mem
  have hfs := hF.fs
  obtain ⟨n, hn⟩ : ∃ n, s.mem.length = n := ⟨_, rfl⟩
  obtain ⟨k, hk⟩ : ∃ k, s.fs.length = k := ⟨_, rfl⟩
  rw [hn] at hmm h2
  rw [hk] at hfs h3
  rw [hn, hk] at h ⊢
  obtain ⟨wa, hwa⟩ : ∃ wa, w.alloc (.cells #[.slice A n c, .slice F k d] 38) = wa := ⟨_, rfl⟩
  have hza : wa.heap.size = w.heap.size + 1 := by rw [← hwa]; simp
  obtain ⟨wb, hwb⟩ : ∃ wb, wa.alloc (.cells #[.slice none 0 0, .slice none 0 0] 38) = wb := ⟨_, rfl⟩
  have hzb : wb.heap.size = w.heap.size + 1 + 1 := by rw [← hwb]; simp [hza]
  have hba : Below w.heap.size w wa := by rw [← hwa]; exact (Below.refl _ w).alloc (Nat.le_refl _) _
  have hbb : Below w.heap.size w wb := by rw [← hwb]; exact hba.alloc (by omega) _
  have b1 : Box2 wb w.heap.size 38 (.slice A n c) (.slice F k d) := by rw [← hwb]; exact Box2.alloc (by rw [← hwa]; exact Box2.new w _ rfl _ _ _) _
  have b2 : Box2 wb (w.heap.size + 1) 38 (.slice none 0 0) (.slice none 0 0) := by rw [← hwb]; exact Box2.new wa _ hza _ _ _
  have c0 := b1.cell0
  have c1 := b1.cell1
  by_cases hno : n = 0 ∨ 100 ≤ k
  · have e1 : s.flush = (s, [], false) := by unfold SetM.flush; rw [if_pos (by rw [hn, hk]; exact hno)]
    rw [e1]
    have r0 := b2.cell0
    have r1 := b2.cell1
    have f0 := b2.frozen 0
    have f1 := b2.frozen 1
    have HR := Lib.hid h
    have z := (b2.set0 (.slice A n c)).set1 (.slice F k d)
    have hb9 : Below w.heap.size w ((wb.setCell ⟨w.heap.size + 1, 0, none⟩ (.slice A n c)).setCell ⟨w.heap.size + 1, 1, none⟩ (.slice F k d)) := (hbb.setCell (p := ⟨w.heap.size + 1, 0, none⟩) (by simp) _).setCell (p := ⟨w.heap.size + 1, 1, none⟩) (by simp) _
    have Z := Lib.hid z
    by_cases h0 : n = 0
    · have h0' : ((n : Int) == 0) = true := by simp [h0]
      clear h h4 h5 hF e1 hn hk hno h0 z
      go_enter Tryz.func34, Tryz.ntmps34
      go_wp2
      have z0 := Z.out.cell0
      have z1 := Z.out.cell1
      refine bodyPost_ret (v := .tuple #[.agg #[.slice A n c, .slice F k d], .slice none 0 0, .bool false]) (by simp [results, Tryz.results34, go_sem, z0, z1]) rfl ?_
      exact ⟨_, none, 0, rfl, ⟨(HR.out.keep (Kept.of_below hb9 hq)).mono fun x e => .inl e, hb9⟩, ⟨.inl rfl⟩⟩
    · have h0' : ((n : Int) == 0) = false := by simp; omega
      have h100 : (100 : Int) ≤ (k : Int) := by omega
      clear h h4 h5 hF e1 hn hk hno h0 z
      go_enter Tryz.func34, Tryz.ntmps34
      go_wp2
      have z0 := Z.out.cell0
      have z1 := Z.out.cell1
      refine bodyPost_ret (v := .tuple #[.agg #[.slice A n c, .slice F k d], .slice none 0 0, .bool false]) (by simp [results, Tryz.results34, go_sem, z0, z1]) rfl ?_
      exact ⟨_, none, 0, rfl, ⟨(HR.out.keep (Kept.of_below hb9 hq)).mono fun x e => .inl e, hb9⟩, ⟨.inl rfl⟩⟩
  have e1 : s.flush = (⟨[], s.fs ++ [s.mem]⟩, fileB s.mem, true) := by unfold SetM.flush; rw [if_neg (by rw [hn, hk]; exact hno)]
  rw [e1]
  have h0' : ((n : Int) == 0) = false := by simp; omega
  have h100 : (k : Int) < 100 := by omega
  have hbe : buildE s.mem = 0 := build_ri hF.ok.rise hF.ok.fine (by omega) (by omega)
  have hB := Lib.hid (RefBuild_any A n c s.mem hn h2 wb ((h4.keep (Kept.of_below hbb hq)).sees fun y e => by have := hq y e; omega) (by omega))
  obtain ⟨vs, hP, hV⟩ := h5.pile
  have hvl : vs.length = k := by rw [hP.len, hk]
  have HN := Lib.hid hn
  have HK := Lib.hid hk
  have HVL := Lib.hid hvl
  have HP := Lib.hid hP
  have HM := Lib.hid h4
  have H1 := Lib.hid hP.one
  have HV := Lib.hid hV
  have HBE := Lib.hid hbe
  obtain ⟨ti, hti, hz0, hz1, hz2⟩ := info_parts Tryz.tinfo
  clear h h4 h5 hF e1 hn hk hno hP hV hvl hbe
  go_enter Tryz.func34, Tryz.ntmps34
  go_wp2_with fail
  refine hB.out.mono ?_
  rintro e w1 ⟨v1, rfl, hown1, hb1⟩
  rw [if_pos HBE.out] at hown1
  rw [HBE.out]
  obtain ⟨A1, c1', rfl, hc1, -, -, hS1⟩ := hown1.open_
  obtain ⟨fb, hfb⟩ : ∃ fb, (fileB s.mem).length = fb := ⟨_, rfl⟩
  rw [hfb] at hc1 ⊢
  have HFB := Lib.hid hfb
  have HS1 := Lib.hid (ownB_seesM hown1)
  have hs1 := hb1.size
  have d1 := b1.below hb1 b1.lt
  have d2 := b2.below hb1 b2.lt
  have c0 := d1.cell0
  have c1 := d1.cell1
  have hb01 := hbb.trans (hb1.mono hbb.size)
  have hVb := (HV.out.keep (Kept.of_below hb01 hq)).sees (B := w1.heap.size) fun y e => by have := hq y e; have := hb01.size; omega
  clear hB hown1 hfb hS1
  go_wp2_with (first
    | (at_builtin; (refine wpList_append_v rfl (.tmp 25) (.tmp 27) 36 rfl 31 ti _ 1 24 Tryz.underlying36 hti hz0 hz1 hz2 rfl (by omega) w1.heap.size (.slice none 0 0) 0 [] (by rfl) (World.ownsRow_nil _ _ _ _) w1.heap.size F k d vs (by rfl) (by rw [HVL.out, Nat.mul_one]) hVb H1.out (by simp only [maxLen]; omega) (by omega) (Nat.le_refl _) ?_; intro v2 w2 hown2 hon2; rw [List.nil_append, Nat.zero_add] at hown2; have hb2 : Below w1.heap.size w1 w2 := hon2.below_nil; have hs2 := hb2.size; have c02 := (d1.below hb2 d1.lt).cell0; have hsc := sees_cell w2 _ rfl (.slice A n c) 31; have hown2' := World.ownsRow.alloc hown2 (.cells #[.slice A n c] 31)))
    | (at_builtin; (refine wpList_append_v rfl (.tmp 29) (.tmp 32) 36 rfl 31 ti _ 1 24 Tryz.underlying36 hti hz0 hz1 hz2 rfl (by omega) w1.heap.size v2 k vs (by rfl) hown2' (w2.heap.size + 1) (some ⟨w2.heap.size, 0, none⟩) 1 1 [.slice A n c] (by rfl) rfl hsc (fun u hu => by simp at hu; subst hu; rfl) (by simp only [maxLen]; omega) (by omega) (by simp; omega) ?_; intro v3 w3 hown3 hon3; have hb3 : Below w1.heap.size w1 w3 := hb2.trans (((Below.refl _ w2).alloc hs2 _).trans (append_below hown2' (by simp; omega) hon3)); obtain ⟨g3, cv3, rfl⟩ := ownsRow_succ hown3; have e1 := d1.below hb3 d1.lt; have e2 := d2.below hb3 d2.lt; obtain ⟨w4, hw4⟩ : ∃ w4, w3.setCell ⟨w.heap.size, 1, none⟩ (.slice (some ⟨g3, 0, none⟩) (k + 1) cv3) = w4 := ⟨_, rfl⟩; obtain ⟨w5, hw5⟩ : ∃ w5, w4.setCell ⟨w.heap.size, 0, none⟩ (.slice none 0 0) = w5 := ⟨_, rfl⟩; have e14 : Box2 w4 w.heap.size 38 (.slice A n c) (.slice (some ⟨g3, 0, none⟩) (k + 1) cv3) := (by rw [← hw4]; exact e1.set1 _); have e15 : Box2 w5 w.heap.size 38 (.slice none 0 0) (.slice (some ⟨g3, 0, none⟩) (k + 1) cv3) := (by rw [← hw5]; exact e14.set0 _); have e24 : Box2 w4 (w.heap.size + 1) 38 (.slice none 0 0) (.slice none 0 0) := (by rw [← hw4]; exact e2.far (by simp) _); have e25 : Box2 w5 (w.heap.size + 1) 38 (.slice none 0 0) (.slice none 0 0) := (by rw [← hw5]; exact e24.far (by simp) _); have k1 := e1.cell1; have k2 := e1.frozen 1; have k3 := e14.cell0; have k4 := e14.frozen 0; have k5 := e15.cell0; have k6 := e15.cell1; have k7 := e25.cell0; have k8 := e25.cell1; have k9 := e25.frozen 0; have k10 := e25.frozen 1)))
  have z := (e25.set0 (.slice none 0 0)).set1 (.slice (some ⟨g3, 0, none⟩) (k + 1) cv3)
  have z0 := z.cell0
  have z1 := z.cell1
  refine bodyPost_ret (v := .tuple #[.agg #[.slice none 0 0, .slice (some ⟨g3, 0, none⟩) (k + 1) cv3], .slice A1 fb c1', .bool true]) (by simp [results, Tryz.results34, go_sem, z0, z1]) rfl ?_
  have hs3 := hb3.size
  have hb03 := hb01.trans (hb3.mono hb01.size)
  have hk9 : Kept (fun y => y ≠ w.heap.size ∧ y ≠ w.heap.size + 1) w3 ((w5.setCell ⟨w.heap.size + 1, 0, none⟩ (.slice none 0 0)).setCell ⟨w.heap.size + 1, 1, none⟩ (.slice (some ⟨g3, 0, none⟩) (k + 1) cv3)) := fun y hy => by
    rw [Below.heap_setCell _ _ _ _ hy.2, Below.heap_setCell _ _ _ _ hy.2, ← hw5, Below.heap_setCell _ _ _ _ hy.1, ← hw4, Below.heap_setCell _ _ _ _ hy.1]
  have hz9 : ((w5.setCell ⟨w.heap.size + 1, 0, none⟩ (.slice none 0 0)).setCell ⟨w.heap.size + 1, 1, none⟩ (.slice (some ⟨g3, 0, none⟩) (k + 1) cv3)).heap.size = w3.heap.size := by rw [World.size_setCell, World.size_setCell, ← hw5, World.size_setCell, ← hw4, World.size_setCell]
  have hb9 : Below w.heap.size w ((w5.setCell ⟨w.heap.size + 1, 0, none⟩ (.slice none 0 0)).setCell ⟨w.heap.size + 1, 1, none⟩ (.slice (some ⟨g3, 0, none⟩) (k + 1) cv3)) := by
    have h4 : Below w.heap.size w w4 := by rw [← hw4]; exact hb03.setCell (p := ⟨w.heap.size, 1, none⟩) (by simp) _
    have h5 : Below w.heap.size w w5 := by rw [← hw5]; exact h4.setCell (p := ⟨w.heap.size, 0, none⟩) (by simp) _
    exact (h5.setCell (p := ⟨w.heap.size + 1, 0, none⟩) (by simp) _).setCell (p := ⟨w.heap.size + 1, 1, none⟩) (by simp) _
  have hglt := World.ownsRow.lt hown3 g3 rfl
  have hPl : PileM (fun x => q x ∨ (w1.heap.size ≤ x ∧ x < w3.heap.size)) w3 (vs ++ [.slice A n c]) (s.fs ++ [s.mem]) := ((HP.out.append (PileM.single HN.out h2 HM.out)).keep (Kept.of_below hb03 hq)).mono fun x e => .inl e
  obtain ⟨A2, c2, e2', hcc, hS3⟩ := hPl.sees (v := .slice (some ⟨g3, 0, none⟩) (k + 1) cv3) (by rw [List.length_append, HK.out]; exact hown3) (fun x e => by have := Option.some.inj e; exact .inr (by simp only at this; omega))
  injection e2' with i1 i2 i3
  subst i1
  have hlen : (s.fs ++ [s.mem]).length = k + 1 := by rw [List.length_append, HK.out]; rfl
  refine ⟨_, A1, c1', by rw [HFB.out], ⟨⟨none, 0, some ⟨g3, 0, none⟩, cv3, by rw [hlen]; rfl, by simp, by rw [i3]; exact hcc, ⟨fun i hi => absurd hi (by simp)⟩, ?_⟩, hb9⟩, ?_⟩
  · refine (hS3.keep (hk9.mono fun y e => ?_)).mono fun y e => ?_
    · rcases e with e | e
      · have := hq y e; exact ⟨by omega, by omega⟩
      · exact ⟨by omega, by omega⟩
    · rcases e with e | e
      · exact .inl e
      · exact .inr ⟨by omega, by rw [hz9]; omega⟩
  · exact (HS1.out.keep (fun y e => (hk9 y ⟨by omega, by omega⟩).trans (hb3.block y e.2))).sees fun y e => by rw [hz9]; omega
end Go.Proofs.YtadakaenbemedaaGreatDoor
