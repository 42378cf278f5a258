/- Several texts in one: TgAdd TgFlush TgReplace TgMerge. -/
import Derived.Test.YtalmnodgjjcefaaGreatDoorQTgB
import Derived.Test.YtalmnodgjjcefaaGreatDoorQIpE
import Derived.Laws.CopyOwn
import Derived.Lib.AppendZeros
import Derived.Lib.SliceRun
import Derived.Deep.RegionLaw
namespace Go.Proofs.YtalmnodgjjcefaaGreatDoor
open Go.RowKit Go.Maps
theorem ri_nodup {l : List Item} (h : Ri ahead l) : l.Nodup := List.Pairwise.imp (fun {a b} e => by rintro rfl; rw [ahead_irrefl] at e; cases e) h
theorem add_perm {mem : List Item} {x : Item} (h : mem.Nodup) (hx : x ∉ mem) : (mem ++ [x]).Perm (uniqL ahead (mem ++ [x])) := by
 refine (List.perm_ext_iff_of_nodup ?_ (ri_nodup (uniqL_ri KBo _))).2 fun y => (uniqL_mem KBo _ y).symm
 refine List.nodup_append.2 ⟨h, by simp, fun a ha c hc => ?_⟩
 rw [List.mem_singleton.1 hc]
 exact fun e => hx (e ▸ ha)
structure SetStep (m m' : Nat → Prop) (w w' : World) (S : Nat) (s' : SetM) : Prop where
 set : SetAt m' w' S s'
 turn : Turn m w w'
 new : ∀ k, m' k → m k ∨ (w.heap.size ≤ k ∧ k < w'.heap.size)
set_option maxRecDepth 100000 in
set_option maxHeartbeats 1600000 in
theorem add_any (m : Nat → Prop) (w : World) (S : Nat) (s : SetM) (h : SetAt m w S s) (hF : SetFit s) (Bx : Option Addr) (lx dx : Nat) (x : Item) (hxl : x.length = lx) (hlx : lx ≤ 1000000) (hx : Sees w w.heap.size Bx (bv x)) :
  Calls Tryz.prog 94 #[.pointer (some ⟨S, 0, none⟩), .slice Bx lx dx] w fun e w' => e = .returned (.int .i64 ((s.add x).2 : Nat)) ∧ SetStep m m w w' S (s.add x).1 := by
 by_cases h1 : lx < 1
 ·have hb : badL x = true := by unfold badL; rw [decide_eq_true (by omega), Bool.true_or]
  have e1 : s.add x = (s, 1) := by unfold SetM.add; rw [if_pos hb]
  rw [e1]
  have hSt : SetStep m m w w S s := ⟨h, Turn.refl _ _, fun k e => .inl e⟩
  clear h hF hx hxl hb e1
  go_enter Tryz.func94, Tryz.ntmps94
  go_wp2
  go_ret
  exact ⟨rfl, hSt⟩
 by_cases h4 : 400 < lx
 ·have hb : badL x = true := by unfold badL; rw [decide_eq_true (p := 400 < x.length) (by omega), Bool.or_true]
  have e1 : s.add x = (s, 1) := by unfold SetM.add; rw [if_pos hb]
  rw [e1]
  have hSt : SetStep m m w w S s := ⟨h, Turn.refl _ _, fun k e => .inl e⟩
  have h4' : (400 : Int) < (lx : Int) := by omega
  have h1' : (1 : Int) ≤ (lx : Int) := by omega
  clear h hF hx hxl hb e1
  go_enter Tryz.func94, Tryz.ntmps94
  go_wp2
  go_ret
  exact ⟨rfl, hSt⟩
 have hb : badL x = false := by unfold badL; rw [decide_eq_false (by omega), decide_eq_false (by omega)]; rfl
 have hH := Lib.hid (setHas_any h hF Bx lx dx x hxl hlx hx)
 have h4' : (lx : Int) ≤ 400 := by omega
 have h1' : (1 : Int) ≤ (lx : Int) := by omega
 cases hh : s.has x with
 | true =>
  have e1 : s.add x = (s, 0) := by unfold SetM.add; rw [if_neg (by rw [hb]; simp), if_pos hh]
  rw [e1]
  rw [hh] at hH
  have HS := Lib.hid h
  clear h hF hx hxl hb e1 hh
  go_enter Tryz.func94, Tryz.ntmps94
  go_wp2_with fail
  refine hH.out.mono ?_
  rintro e w1 ⟨rfl, hb1⟩
  go_wp2
  go_ret
  exact ⟨rfl, HS.out.below hb1, Turn.of_new hb1, fun k e => .inl e⟩
 | false =>
  rw [hh] at hH
  by_cases h5 : 500 ≤ s.mem.length
  ·have e1 : s.add x = (s, 2) := by unfold SetM.add; rw [if_neg (by rw [hb]; simp), if_neg (by rw [hh]; simp), if_pos h5]
   rw [e1]
   have HS := Lib.hid h
   obtain ⟨n, hn⟩ : ∃ n, s.mem.length = n := ⟨_, rfl⟩
   rw [hn] at h5
   have h5' : (500 : Int) ≤ (n : Int) := by omega
   have HN := Lib.hid hn
   clear h hF hx hxl hb e1 hh hn
   go_enter Tryz.func94, Tryz.ntmps94
   go_wp2_with fail
   refine hH.out.mono ?_
   rintro e w1 ⟨rfl, hb1⟩
   have hS1 := HS.out.below hb1
   obtain ⟨bm, v, g1, g2, g3, g4, g5, g6, g7, g8⟩ := hS1.out
   have hl := g7.len 131 Tryz.underlying131
   rw [HN.out] at hl
   clear g7 g8 hH
   go_wp2
   go_ret
   exact ⟨rfl, hS1, Turn.of_new hb1, fun k e => .inl e⟩
  ·have e1 : s.add x = (⟨uniqL ahead (s.mem ++ [x]), s.fs⟩, 0) := by unfold SetM.add; rw [if_neg (by rw [hb]; simp), if_neg (by rw [hh]; simp), if_neg h5]
   rw [e1]
   have HS := Lib.hid h
   obtain ⟨n, hn⟩ : ∃ n, s.mem.length = n := ⟨_, rfl⟩
   rw [hn] at h5
   have h5' : (n : Int) < 500 := by omega
   have HN := Lib.hid hn
   have hxm : x ∉ s.mem := fun e => by
    rw [SetM.has_eq, decide_eq_false_iff_not] at hh
    exact hh ((mem_all s x).2 (.inr e))
   have HX := Lib.hid hxm
   have HND := Lib.hid (ri_nodup hF.ok.rise)
   have HXS := Lib.hid hx
   have HXL := Lib.hid hxl
   clear h hF hx hxl hb e1 hh hn hxm
   go_enter Tryz.func94, Tryz.ntmps94
   go_wp2_with fail
   refine hH.out.mono ?_
   rintro e w1 ⟨rfl, hb1⟩
   have hS1 := HS.out.below hb1
   have hs1 := hb1.size
   obtain ⟨bm, v, g1, g2, g3, g4, g5, g6, g7, g8⟩ := hS1.out
   have hl := g7.len 131 Tryz.underlying131
   rw [HN.out] at hl
   have hcv := run_str w1.drew _ Bx lx dx x (((HXS.out.below hb1).more hs1).drew) HXL.out
   obtain ⟨w2, hst, hM2, hg2, hz2⟩ := (g7.keep (w' := w1.drew) rfl).store 131 Tryz.underlying131 (by rw [HN.out]; omega) (s := strOf x) (by rw [strOf_size, HXL.out]; simp only [maxLen]; omega) (by rw [strOf_data]; exact HX.out)
   rw [strOf_data] at hM2
   have HM2 := Lib.hid hM2
   have HG8 := Lib.hid g8
   clear g7 g8 hH hM2
   go_wp2_with fail
   go_region
   go_wp2
   go_ret
   have hsd : w1.drew.heap.size = w1.heap.size := rfl
   have hk : Kept (fun k => m k ∧ k ≠ bm) w1 w2 := fun k e => hg2.block k (by rw [hsd]; exact hS1.lt k e.1) fun e2 => e.2 (Option.some.inj e2)
   refine ⟨rfl, ⟨⟨bm, v, (hk.cell (p := ⟨S, 0, none⟩) ⟨g4, fun e => g6 e.symm⟩).trans g1, (hk.cell (p := ⟨S, 1, none⟩) ⟨g4, fun e => g6 e.symm⟩).trans g2, (frozen_of_block (hk S ⟨g4, fun e => g6 e.symm⟩)).trans g3, g4, g5, g6, HM2.out.perm (add_perm (HND.out) HX.out), HG8.out.keep (hk.mono fun k e => ⟨e.1, e.2.2⟩)⟩, fun k e => by rw [hz2]; exact hS1.lt k e⟩,
    ((Turn.of_new hb1).trans (Turn.of_new (below_drew (Below.refl _ _)))).trans (Turn.of_grown hg2 fun k e => by injection e with e; exact e ▸ g5), fun k e => .inl e⟩
end Go.Proofs.YtalmnodgjjcefaaGreatDoor
namespace Go.Proofs.YtalmnodgjjcefaaGreatDoor
open Go.RowKit Go.Maps
theorem PartsAt.put {q : Nat → Prop} {w w2 w3 : World} {v v' : Value} {fs : List (List Item)} {ps : List Value} {P : Nat} {f : List Item} (h1 : w.ownsRow 0 160 1 v fs.length ps) (h2 : ∀ k, v.ownBlock = some k → q k)
  (h3 : ∀ i (hi : i < fs.length), ∃ P, ps[i]? = some (.pointer (some ⟨P, 0, none⟩)) ∧ PartAt (fun k => q k ∧ v.ownBlock ≠ some k) w P fs[i]) (hq : ∀ k, q k → k < w.heap.size) (hb : Below w.heap.size w w2)
  (hP : PartAt (fun k => w.heap.size ≤ k ∧ k < w2.heap.size) w2 P f) (hown : w3.ownsRow 0 160 1 v' (fs.length + 1) (ps ++ [.pointer (some ⟨P, 0, none⟩)])) (hon : Onto w2 w3 v v') :
  PartsAt (fun k => q k ∨ (w.heap.size ≤ k ∧ k < w3.heap.size)) w3 v' (fs ++ [f]) := by
 have hs := hb.size
 have hs3 := hon.size
 have hvl := World.ownsRow.lt h1
 have hpl : ps.length = fs.length := by have := h1.1; omega
 have hv' : ∀ k, k < w2.heap.size → v.ownBlock ≠ some k → v'.ownBlock ≠ some k := fun k hk hne e => by
  rcases hon.at_ with e2 | ⟨g, e2, hg⟩
  ·exact hne (e2 ▸ e)
  ·rw [e2] at e; injection e with e; omega
 have hk23 : ∀ k, k < w2.heap.size → v.ownBlock ≠ some k → w3.heap[k]? = w2.heap[k]? := fun k a b => hon.grown.block k a (fun e => b e.symm)
 refine ⟨ps ++ [.pointer (some ⟨P, 0, none⟩)], by rw [List.length_append]; exact hown, fun k e => ?_, fun i hi => ?_⟩
 ·rcases hon.at_ with e2 | ⟨g, e2, hg⟩
  ·exact .inl (h2 k (e2 ▸ e))
  ·have h5 := (World.ownsRow.lt hown k e).2
   rw [e2] at e; injection e with e; exact .inr ⟨by omega, h5⟩
 ·by_cases hlt : i < fs.length
  ·obtain ⟨P', g1, g2⟩ := h3 i hlt
   refine ⟨P', by rw [List.getElem?_append_left (by omega)]; exact g1, ?_⟩
   rw [List.getElem_append_left hlt]
   exact (g2.keep fun k e => (hk23 k (by have := hq k e.1; omega) e.2).trans (hb.block k (hq k e.1))).mono fun k e => ⟨.inl e.1, hv' k (by have := hq k e.1; omega) e.2⟩
  ·have he : i = fs.length := by simp at hi; omega
   subst he
   refine ⟨P, by rw [List.getElem?_append_right (by omega)]; simp [hpl], ?_⟩
   rw [List.getElem_append_right (Nat.le_refl _)]
   simp only [Nat.sub_self, List.getElem_cons_zero]
   have hne : ∀ k, w.heap.size ≤ k → v.ownBlock ≠ some k := fun k hk e => by have := (hvl k e).2; omega
   exact (hP.keep fun k e => hk23 k e.2 (hne k e.1)).mono fun k e => ⟨.inr ⟨e.1, by omega⟩, hv' k e.2 (hne k e.1)⟩
end Go.Proofs.YtalmnodgjjcefaaGreatDoor
