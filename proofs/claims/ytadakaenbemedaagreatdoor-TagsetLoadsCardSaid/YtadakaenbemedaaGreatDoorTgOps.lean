/-
  A set's ways: New, Fresh, Parts, Has, From, Prefix.
-/
import Derived.Test.YtadakaenbemedaaGreatDoorTgGather
namespace Go.Proofs.YtadakaenbemedaaGreatDoor
open Go.RowKit Go.Maps

/-- What the calls ask of a set. -/
structure SetFit (s : SetM) : Prop where
  ok : SetOk s
  total : s.total ≤ 900
theorem flat_le {l : List (List Item)} : ∀ t ∈ l, t.length ≤ l.flatten.length := fun _ ht => List.Sublist.length_le (List.sublist_flatten_of_mem ht)
theorem bad_len {x : Item} (h : badL x = false) : 1 ≤ x.length ∧ x.length ≤ 400 := by
  unfold badL at h
  rw [Bool.or_eq_false_iff, decide_eq_false_iff_not, decide_eq_false_iff_not] at h
  omega
theorem fs_le {l : List (List Item)} (h : ∀ f ∈ l, buildE f = 0) : l.length ≤ l.flatten.length := by
  induction l with
  | nil => simp
  | cons a t ih =>
    have h1 := ih fun f hf => h f (List.mem_cons_of_mem _ hf)
    have h2 := (build_ok (h a (by simp))).2.2.1
    simp only [List.flatten_cons, List.length_append, List.length_cons]
    omega
section
variable {s : SetM}
theorem SetFit.mem (h : SetFit s) : s.mem.length ≤ 900 := by have := h.total; unfold SetM.total at this; omega
theorem SetFit.tier (h : SetFit s) : ∀ t ∈ s.tiers, TierOk t := fun t ht => ⟨by have := flat_le t ht; have := tiers_len s; have := h.total; omega, fun x hx => by have := (bad_len (h.ok.bad t ht x hx)).2; omega⟩
theorem SetFit.fs (h : SetFit s) : s.fs.length ≤ 900 := by have := fs_le h.ok.files; have := h.total; unfold SetM.total at this; omega
theorem SetFit.tiers (h : SetFit s) : s.tiers.length ≤ 901 := by
  have := h.fs
  unfold SetM.tiers
  rw [List.length_cons]
  omega
theorem flat_map_le (R : List Item → List Item) (hR : ∀ t, (R t).length ≤ t.length) : ∀ l : List (List Item), (l.map R).flatten.length ≤ l.flatten.length
  | [] => by simp
  | a :: t => by
    have := flat_map_le R hR t
    have := hR a
    simp only [List.map_cons, List.flatten_cons, List.length_append]
    omega
end

theorem mem_of_filter {α : Type} {p : α → Bool} {l : List α} {a : α} (h : a ∈ l.filter p) : a ∈ l := (List.mem_filter.1 h).1
theorem frozen_new (W : World) (cs : Array Value) (t : TypeId) (i : Nat) : (W.alloc (.cells cs t)).frozen? ⟨W.heap.size, i, none⟩ = false := by
  unfold World.frozen?
  rw [heap_alloc_new]
  simp
theorem new_any (w : World) : Calls Tryz.prog 10 #[] w fun e w' => e = .returned (.pointer (some ⟨w.heap.size + 1, 0, none⟩)) ∧ SetAt (fun k => w.heap.size ≤ k ∧ k < w'.heap.size) w' (w.heap.size + 1) SetM.new ∧ Below w.heap.size w w' := by
  have hmm := @run_makeMap Tryz.prog
  go_enter Tryz.func10, Tryz.ntmps10
  go_wp2
  go_ret
  have hM := MemAt.new w
  have hM2 : MemAt ((w.alloc (.map #[] 0)).alloc (.cells #[.map (some w.heap.size), .slice none 0 0] 63)) w.heap.size [] := hM.keep (Below.heap_alloc _ _ _ (by simp))
  refine ⟨rfl, ⟨⟨w.heap.size, .slice none 0 0, ?_, ?_, ?_, ⟨by omega, by simp⟩, ⟨Nat.le_refl _, by simp; omega⟩, by omega, hM2, PartsAt.nil _ _⟩, fun k e => e.2⟩, ((Below.refl _ w).alloc (Nat.le_refl _) _).alloc (by simp) _⟩
  · rw [World.cell?_alloc_at _ _ _ _ (by simp)]; rfl
  · rw [World.cell?_alloc_at _ _ _ _ (by simp)]; rfl
  · simp

section
variable {m : Nat → Prop} {w : World} {S : Nat} {s : SetM}
theorem fresh_any (h : SetAt m w S s) : Calls Tryz.prog 13 #[.pointer (some ⟨S, 0, none⟩)] w fun e w' => e = .returned (.int .i64 s.mem.length) ∧ w = w' := by
  obtain ⟨bm, v, h1, h2, h3, h4, h5, h6, h7, h8⟩ := h.out
  have hl := h7.len 60 Tryz.underlying60
  obtain ⟨n, hn⟩ : ∃ n, s.mem.length = n := ⟨_, rfl⟩
  rw [hn] at hl ⊢
  clear h h7 h8 hn
  go_enter Tryz.func13, Tryz.ntmps13
  go_wp2
  go_ret
  exact ⟨rfl, rfl⟩
theorem fresh_nil (w : World) : Calls Tryz.prog 13 #[.pointer none] w fun e w' => e = .returned (.int .i64 0) ∧ w = w' := by
  go_enter Tryz.func13, Tryz.ntmps13
  go_wp2
  go_ret
  exact ⟨rfl, rfl⟩
theorem parts_any (h : SetAt m w S s) : Calls Tryz.prog 17 #[.pointer (some ⟨S, 0, none⟩)] w fun e w' => e = .returned (.int .i64 s.fs.length) ∧ w = w' := by
  obtain ⟨bm, v, h1, h2, h3, h4, h5, h6, h7, h8⟩ := h.out
  obtain ⟨A, c, rfl, -⟩ := h8.open_
  obtain ⟨n, hn⟩ : ∃ n, s.fs.length = n := ⟨_, rfl⟩
  rw [hn] at h2 ⊢
  clear h h7 h8 hn
  go_enter Tryz.func17, Tryz.ntmps17
  go_wp2
  go_ret
  exact ⟨rfl, rfl⟩
theorem parts_nil (w : World) : Calls Tryz.prog 17 #[.pointer none] w fun e w' => e = .returned (.int .i64 0) ∧ w = w' := by
  go_enter Tryz.func17, Tryz.ntmps17
  go_wp2
  go_ret
  exact ⟨rfl, rfl⟩

theorem setHas_any (h : SetAt m w S s) (hF : SetFit s) (Bx : Option Addr) (lx dx : Nat) (x : Item) (hxl : x.length = lx) (hlx : lx ≤ 1000000) (hx : Sees w w.heap.size Bx (bv x)) :
    Calls Tryz.prog 19 #[.pointer (some ⟨S, 0, none⟩), .slice Bx lx dx] w (Gives w (.bool (s.has x))) :=
  Has_of_tiers _ w s.tiers Bx lx dx x hxl hlx hx (by have := hF.tiers; omega) fun W hW => tiers_any m W S s (h.below hW) hF.ok.rise (by have := hF.fs; omega)
theorem setHas_nil (w : World) (Bx : Option Addr) (lx dx : Nat) (x : Item) (hxl : x.length = lx) (hlx : lx ≤ 1000000) (hx : Sees w w.heap.size Bx (bv x)) :
    Calls Tryz.prog 19 #[.pointer none, .slice Bx lx dx] w (Gives w (.bool false)) :=
  Has_of_tiers _ w [] Bx lx dx x hxl hlx hx (by simp) fun W _ => tiers_nil W
end
/-- A row of items in new blocks, each row in a block of its own, unfrozen. -/
structure SetRow (w w' : World) (A : Option Addr) (c : Nat) (ls : List Item) : Prop where
  cap : ls.length ≤ c
  own : ∃ v0 n0, ls = (v0 : List Item).take n0 ∧ ∃ c0, OwnQ (fun k => w.heap.size ≤ k ∧ k < w'.heap.size) w' w.heap.size (.slice A v0.length c0) v0
def SetIs (w : World) (ls : List Item) (e : Ending) (w' : World) : Prop := ∃ A c, e = .returned (.slice A ls.length c) ∧ SetRow w w' A c ls ∧ Below w.heap.size w w'
theorem SetRow.sees {w w' : World} {A : Option Addr} {c : Nat} {ls : List Item} (h : SetRow w w' A c ls) : Sees2M (fun k => w.heap.size ≤ k ∧ k < w'.heap.size) w' A ls := by
  obtain ⟨v0, n0, rfl, c0, hQ⟩ := h.own
  obtain ⟨A', c', e, -, hS⟩ := hQ.open_
  injection e with e
  subst e
  exact hS.take n0
theorem QIs.setIs {w w' : World} {ls : List Item} {e : Ending} (h : QIs w ls e w') : SetIs w ls e w' := by
  obtain ⟨v, rfl, hQ, hb⟩ := h
  obtain ⟨A, c, rfl, hc, -⟩ := hQ.open_
  exact ⟨A, c, rfl, ⟨hc, ls, ls.length, by rw [List.take_length], c, hQ⟩, hb⟩

set_option maxRecDepth 100000 in
set_option maxHeartbeats 1600000 in
theorem From_of_tiers (p : Option Addr) (w : World) (ts : List (List Item)) (Bx : Option Addr) (lx dx : Nat) (x : Item) (hxl : x.length = lx) (hx : Sees w w.heap.size Bx (bv x)) (most : Int) (hts : ts.length ≤ 1000) (htl : ts.flatten.length ≤ 1000) (hO : ∀ t ∈ ts, TierOk t)
    (ht : ∀ W, Below w.heap.size w W → Calls Tryz.prog 38 #[.pointer p] W (TiersIs W ts)) :
    Calls Tryz.prog 14 #[.pointer p, .slice Bx lx dx, .int .i64 most] w (SetIs w ((uniqL ahead ((ts.map fun t => (fromL t x).take most.toNat).flatten)).take most.toNat)) := by
  obtain ⟨wb, hwb⟩ : ∃ wb, (w.alloc (.cells #[.slice Bx lx dx] 27)).alloc (.cells #[.int .i64 most] 3) = wb := ⟨_, rfl⟩
  have hbb : Below w.heap.size w wb := by rw [← hwb]; exact ((Below.refl _ w).alloc (Nat.le_refl _) _).alloc (by simp) _
  have hzb : wb.heap.size = w.heap.size + 1 + 1 := by rw [← hwb]; simp
  have bb : Box1 wb w.heap.size 27 (.slice Bx lx dx) := by rw [← hwb]; exact (Box1.new w _ _).alloc _
  have bm : Box1 wb (w.heap.size + 1) 3 (.int .i64 most) := by
    have := Box1.new (w.alloc (.cells #[.slice Bx lx dx] 27)) 3 (.int .i64 most)
    rw [hwb] at this
    simpa using this
  have hRl : ∀ t : List Item, ((fromL t x).take most.toNat).length ≤ t.length := fun t => by
    rw [List.length_take]
    exact Nat.le_trans (Nat.min_le_right _ _) (List.length_filter_le _ _)
  have hG := Lib.hid (gather_of p wb ts 32 #[.pointer (some ⟨w.heap.size, 0, none⟩), .pointer (some ⟨w.heap.size + 1, 0, none⟩)] (enters_of Tryz.func32 (by kernel_rfl) rfl) (fun t => (fromL t x).take most.toNat) hts (ht wb hbb)
    (fun W v ls hW hls hT => from1t_any hT (hO ls hls) hxl most (bb.below hW bb.lt).cell (bm.below hW bm.lt).cell (((hx.below hbb).below (hW.mono (by omega))).more (by have := hW.size; omega)))
    (Nat.le_trans (flat_map_le _ hRl ts) (by omega)) (fun r hr y hy => by
      obtain ⟨t, ht, rfl⟩ := List.mem_map.1 hr
      exact (hO t ht).short y (mem_of_filter (List.mem_of_mem_take hy))))
  have hul := uniqL_len KBo ((ts.map fun t => (fromL t x).take most.toNat).flatten)
  have hfl := flat_map_le _ hRl ts
  obtain ⟨U, hU⟩ : ∃ U, uniqL ahead ((ts.map fun t => (fromL t x).take most.toNat).flatten) = U := ⟨_, rfl⟩
  rw [hU] at hG ⊢
  have hul : U.length ≤ 1000 := by rw [← hU]; exact Nat.le_trans hul (by omega)
  obtain ⟨n, hn⟩ : ∃ n, U.length = n := ⟨_, rfl⟩
  have HN := Lib.hid hn
  rw [hn] at hul
  have c1 := bm.cell
  clear ht hx hxl hU hRl hn hfl hO
  go_enter Tryz.func14, Tryz.ntmps14
  go_wp2_with fail
  refine hG.out.mono ?_
  rintro e w1 ⟨v, rfl, hQ, hb1⟩
  obtain ⟨A, c, rfl, hc, -⟩ := hQ.open_
  have c2 := (bm.below hb1 bm.lt).cell
  rw [HN.out] at hc ⊢
  obtain ⟨j, hj⟩ : ∃ j : Nat, min (max most 0) (n : Int) = (j : Int) := ⟨(min (max most 0) (n : Int)).toNat, by omega⟩
  have hj2 : j ≤ n := by omega
  have hjm : Hid (j = min most.toNat n) := by unfold Hid; omega
  have hjc : (j : Int) ≤ (c : Int) := by omega
  have hj0 : (0 : Int) ≤ (j : Int) := by omega
  clear hG
  go_wp2
  go_ret
  have hE : U.take most.toNat = U.take j := by rw [hjm.out, ← List.take_take, ← HN.out, List.take_length]
  have hl : (U.take j).length = j := by rw [List.length_take, HN.out]; omega
  have hs2 : w.heap.size ≤ wb.heap.size := by omega
  refine ⟨A, c, by rw [hE, hl]; rfl, ⟨by rw [hE, hl]; omega, U, j, hE, c, ?_⟩, hbb.trans (hb1.mono hs2)⟩
  exact (hQ.mono fun k e => ⟨by omega, e.2⟩).base_le hs2

set_option maxRecDepth 100000 in
set_option maxHeartbeats 1600000 in
theorem Prefix_of_tiers (p : Option Addr) (w : World) (ts : List (List Item)) (Bx : Option Addr) (lx dx : Nat) (x : Item) (hxl : x.length = lx) (hx : Sees w w.heap.size Bx (bv x)) (hts : ts.length ≤ 1000) (htl : ts.flatten.length ≤ 1000) (hO : ∀ t ∈ ts, TierOk t)
    (ht : ∀ W, Below w.heap.size w W → Calls Tryz.prog 38 #[.pointer p] W (TiersIs W ts)) :
    Calls Tryz.prog 23 #[.pointer p, .slice Bx lx dx] w (SetIs w (uniqL ahead ((ts.map fun t => t.filter (preB x)).flatten))) := by
  obtain ⟨wb, hwb⟩ : ∃ wb, w.alloc (.cells #[.slice Bx lx dx] 27) = wb := ⟨_, rfl⟩
  have hbb : Below w.heap.size w wb := by rw [← hwb]; exact (Below.refl _ w).alloc (Nat.le_refl _) _
  have hzb : wb.heap.size = w.heap.size + 1 := by rw [← hwb]; simp
  have bb : Box1 wb w.heap.size 27 (.slice Bx lx dx) := by rw [← hwb]; exact Box1.new w _ _
  have hRl : ∀ t : List Item, (t.filter (preB x)).length ≤ t.length := fun t => List.length_filter_le _ _
  have hG := Lib.hid (gather_of p wb ts 40 #[.pointer (some ⟨w.heap.size, 0, none⟩)] (enters_of Tryz.func40 (by kernel_rfl) rfl) (fun t => t.filter (preB x)) hts (ht wb hbb)
    (fun W v ls hW hls hT => prefix1t_any hT (hO ls hls) hxl (bb.below hW bb.lt).cell (((hx.below hbb).below (hW.mono (by omega))).more (by have := hW.size; omega)))
    (Nat.le_trans (flat_map_le _ hRl ts) (by omega)) (fun r hr y hy => by
      obtain ⟨t, ht, rfl⟩ := List.mem_map.1 hr
      exact (hO t ht).short y (mem_of_filter hy)))
  obtain ⟨U, hU⟩ : ∃ U, uniqL ahead ((ts.map fun t => t.filter (preB x)).flatten) = U := ⟨_, rfl⟩
  rw [hU] at hG ⊢
  clear ht hx hxl hU hRl hO
  go_enter Tryz.func23, Tryz.ntmps23
  go_wp2_with fail
  refine hG.out.mono ?_
  rintro e w1 hQI
  obtain ⟨v, rfl, hQ, hb1⟩ := hQI
  have hs2 : w.heap.size ≤ wb.heap.size := by omega
  obtain ⟨A, c, rfl, hc, -⟩ := hQ.open_
  go_wp2
  go_ret
  exact QIs.setIs ⟨_, rfl, (hQ.mono fun k e => ⟨by omega, e.2⟩).base_le hs2, hbb.trans (hb1.mono hs2)⟩

section
variable {m : Nat → Prop} {w : World} {S : Nat} {s : SetM} {Bx : Option Addr} {lx dx : Nat} {x : Item}
theorem setFrom_any (h : SetAt m w S s) (hF : SetFit s) (hxl : x.length = lx) (hx : Sees w w.heap.size Bx (bv x)) (most : Int) :
    Calls Tryz.prog 14 #[.pointer (some ⟨S, 0, none⟩), .slice Bx lx dx, .int .i64 most] w (SetIs w ((fromL s.all x).take most.toNat)) := by
  rw [← tell_from hF.ok x most.toNat]
  exact From_of_tiers _ w s.tiers Bx lx dx x hxl hx most (by have := hF.tiers; omega) (by rw [tiers_len]; have := hF.total; omega) hF.tier fun W hW => tiers_any m W S s (h.below hW) hF.ok.rise (by have := hF.fs; omega)
theorem setFrom_nil (w : World) (hxl : x.length = lx) (hx : Sees w w.heap.size Bx (bv x)) (most : Int) :
    Calls Tryz.prog 14 #[.pointer none, .slice Bx lx dx, .int .i64 most] w (SetIs w []) := by
  have := From_of_tiers none w [] Bx lx dx x hxl hx most (by simp) (by simp) (by simp) fun W _ => tiers_nil W
  have e : (uniqL ahead (([] : List (List Item)).map fun t => (fromL t x).take most.toNat).flatten).take most.toNat = [] := by
    rw [show (uniqL ahead (([] : List (List Item)).map fun t => (fromL t x).take most.toNat).flatten) = [] from rfl, List.take_nil]
  rw [e] at this
  exact this
theorem setPrefix_any (h : SetAt m w S s) (hF : SetFit s) (hxl : x.length = lx) (hx : Sees w w.heap.size Bx (bv x)) :
    Calls Tryz.prog 23 #[.pointer (some ⟨S, 0, none⟩), .slice Bx lx dx] w (SetIs w (s.all.filter (preB x))) := by
  rw [← tell_prefix s x]
  exact Prefix_of_tiers _ w s.tiers Bx lx dx x hxl hx (by have := hF.tiers; omega) (by rw [tiers_len]; have := hF.total; omega) hF.tier fun W hW => tiers_any m W S s (h.below hW) hF.ok.rise (by have := hF.fs; omega)
theorem setPrefix_nil (w : World) (hxl : x.length = lx) (hx : Sees w w.heap.size Bx (bv x)) :
    Calls Tryz.prog 23 #[.pointer none, .slice Bx lx dx] w (SetIs w []) := by
  have := Prefix_of_tiers none w [] Bx lx dx x hxl hx (by simp) (by simp) (by simp) fun W _ => tiers_nil W
  exact this
end
end Go.Proofs.YtadakaenbemedaaGreatDoor
