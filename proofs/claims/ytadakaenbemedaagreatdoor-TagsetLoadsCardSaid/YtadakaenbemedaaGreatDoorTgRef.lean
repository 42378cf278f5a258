/-
  The document's sets, walked: All, Has, Add.
-/
import Derived.Test.YtadakaenbemedaaGreatDoorTgRefP
namespace Go.Proofs.YtadakaenbemedaaGreatDoor
open Go.RowKit Go.Maps

theorem SetFit.short {s : SetM} (h : SetFit s) : ∀ r ∈ s.fs ++ [s.mem], ∀ y ∈ r, y.length ≤ 1000 := fun r hr y hy => by
  rcases List.mem_append.1 hr with hr | hr
  · exact (h.tier r (List.mem_cons_of_mem _ hr)).short y hy
  · rw [List.mem_singleton.1 hr] at hy; exact (h.tier s.mem List.mem_cons_self).short y hy
theorem append_below {w w' : World} {base : Nat} {e : TypeId} {n : Nat} {v v' : Value} {xs : List Value} (h : w.ownsRow base e 1 v n xs) (hb : base ≤ w.heap.size) (hon : Onto w w' v v') : Below base w w' := hon.below hb fun k hk => (World.ownsRow.lt h k hk).1

set_option maxRecDepth 100000 in
set_option maxHeartbeats 1600000 in
theorem refAll_any (q : Nat → Prop) (w : World) (v : Value) (s : SetM) (h : RSet q w v s) (hq : ∀ k, q k → k < w.heap.size) (hF : SetFit s) :
    Calls Tryz.prog 18 #[v] w (KB.BIsM q w s.all) := by
  obtain ⟨A, c, F, d, rfl, h2, h3, h4, h5⟩ := h.out
  obtain ⟨vs, hP, hV⟩ := h5.pile
  have hfs := hF.fs
  have hmn := hF.mem
  have hft : (s.fs ++ [s.mem]).flatten.length ≤ 900 := by have := hF.total; unfold SetM.total at this; rw [List.flatten_append, List.length_append]; simp only [List.flatten_cons, List.flatten_nil, List.append_nil]; omega
  have HFT := Lib.hid hft
  have HSH := Lib.hid hF.short
  obtain ⟨X, hX⟩ : ∃ X, s.all = X := ⟨_, rfl⟩
  have hXe : uniqL ahead (s.fs ++ [s.mem]).flatten = X := by rw [← hX]; unfold SetM.all; simp
  rw [hX]
  obtain ⟨n, hn⟩ : ∃ n, s.mem.length = n := ⟨_, rfl⟩
  obtain ⟨k, hk⟩ : ∃ k, s.fs.length = k := ⟨_, rfl⟩
  rw [hn] at h2 hmn ⊢
  rw [hk] at h3 hfs ⊢
  have hvl : vs.length = k := by rw [hP.len, hk]
  have HN := Lib.hid hn
  have HK := Lib.hid hk
  have HX := Lib.hid hXe
  have HVL := Lib.hid hvl
  have HP := Lib.hid hP
  have HM := Lib.hid h4
  have H1 := Lib.hid hP.one
  obtain ⟨wb, hwb⟩ : ∃ wb, w.alloc (.cells #[.slice A n c, .slice F k d] 38) = wb := ⟨_, rfl⟩
  have hbb : Below w.heap.size w wb := by rw [← hwb]; exact (Below.refl _ w).alloc (Nat.le_refl _) _
  have hzb : wb.heap.size = w.heap.size + 1 := by rw [← hwb]; simp
  have bb : Box2 wb w.heap.size 38 (.slice A n c) (.slice F k d) := by rw [← hwb]; exact Box2.new w _ rfl _ _ _
  have c0 := bb.cell0
  have c1 := bb.cell1
  have hVb := (hV.keep (Kept.of_below hbb hq)).sees (B := wb.heap.size) fun k e => by have := hq k e; omega
  obtain ⟨ti, hti, hz0, hz1, hz2⟩ := info_parts Tryz.tinfo
  clear h h4 h5 hF hP hV hX hXe hn hk hvl hft
  go_enter Tryz.func18, Tryz.ntmps18
  go_wp2_with (first
    | (at_builtin; (refine wpList_append_v rfl (.tmp 4) (.tmp 6) 36 rfl 31 ti _ 1 24 Tryz.underlying36 hti hz0 hz1 hz2 rfl (by omega) wb.heap.size (.slice none 0 0) 0 [] (by rfl) (World.ownsRow_nil _ _ _ _) wb.heap.size F k d vs (by rfl) (by rw [HVL.out, Nat.mul_one]) hVb H1.out (by simp only [maxLen]; omega) (by omega) (Nat.le_refl _) ?_; intro v1 w1 hown1 hon1; rw [List.nil_append, Nat.zero_add] at hown1; have hb1 : Below wb.heap.size wb w1 := hon1.below_nil; have hs1 := hb1.size; have c01 := (bb.below hb1 bb.lt).cell0; have hsc := sees_cell w1 _ rfl (.slice A n c) 31; have hown1' := World.ownsRow.alloc hown1 (.cells #[.slice A n c] 31)))
    | (at_builtin; (refine wpList_append_v rfl (.tmp 8) (.tmp 11) 36 rfl 31 ti _ 1 24 Tryz.underlying36 hti hz0 hz1 hz2 rfl (by omega) wb.heap.size v1 k vs (by rfl) hown1' (w1.heap.size + 1) (some ⟨w1.heap.size, 0, none⟩) 1 1 [.slice A n c] (by rfl) rfl hsc (fun u hu => by simp at hu; subst hu; rfl) (by simp only [maxLen]; omega) (by omega) (by simp; omega) ?_; intro v2 w2 hown2 hon2; have hb2 : Below wb.heap.size wb w2 := hb1.trans (((Below.refl _ w1).alloc hs1 _).trans (append_below hown1' (by simp; omega) hon2)); obtain ⟨g2, cv2, rfl⟩ := ownsRow_succ hown2)))
  have hs2 := hb2.size
  have hb02 : Below w.heap.size w w2 := hbb.trans (hb2.mono (by omega))
  have hglt := World.ownsRow.lt hown2 g2 rfl
  have hPl : PileM (fun x => q x ∨ (w.heap.size ≤ x ∧ x < w2.heap.size)) w2 (vs ++ [.slice A n c]) (s.fs ++ [s.mem]) := ((HP.out.append (PileM.single HN.out h2 HM.out)).keep (Kept.of_below hb02 hq)).mono fun x e => .inl e
  obtain ⟨A2, c2, e2, -, hS3⟩ := hPl.sees (v := .slice (some ⟨g2, 0, none⟩) (k + 1) cv2) (by rw [List.length_append, HK.out]; exact hown2) (fun x e => by have := Option.some.inj e; exact .inr (by simp only at this; omega))
  have hI := Lib.hid (RefItems_m _ (some ⟨g2, 0, none⟩) (k + 1) cv2 (s.fs ++ [s.mem]) w2 (by injection e2 with e3; rw [e3]; exact hS3) (fun x e => by rcases e with e | e; have := hq x e; omega; exact e.2) (by rw [List.length_append, HK.out]; rfl) (by omega) (by have := HFT.out; omega) HSH.out)
  rw [HX.out] at hI
  clear hPl hS3 e2
  go_wp2_with fail
  refine hI.out.mono ?_
  rintro e w3 ⟨A3, c3, rfl, hR, hS, hb3⟩
  go_wp2
  go_ret
  refine ⟨A3, c3, rfl, hR, hS.mono fun x e => ?_, hb02.trans (hb3.mono hb02.size)⟩
  have := hb02.size
  have := hb3.size
  rcases e with (e | e) | e
  · exact .inl e
  · exact .inr ⟨e.1, by omega⟩
  · exact .inr ⟨by omega, e.2⟩
end Go.Proofs.YtadakaenbemedaaGreatDoor
