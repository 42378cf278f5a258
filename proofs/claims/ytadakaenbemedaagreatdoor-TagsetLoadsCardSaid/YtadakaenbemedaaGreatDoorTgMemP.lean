/-
  memory.Prefix, walked: the items that begin so, struck in place.
-/
import Derived.Test.YtadakaenbemedaaGreatDoorTgMemW
import Derived.Test.YtadakaenbemedaaGreatDoorKmC
import Derived.Shelf.SlicesE.DeleteFunc
import Derived.Lib.OwnBridge
namespace Go.Proofs.YtadakaenbemedaaGreatDoor
open Go.RowKit Go.Maps Go.Shelf Go.Sort
open KB (El val key EOk)

/-- Rows of the call's own, as things with where their bytes lie. -/
theorem els_own {w : World} {base : Nat} {v : Value} {ls : List Item} (h : OwnS w base v ls) : ∃ xs : List El, xs.map key = ls ∧ w.ownsRow base 27 1 v ls.length (xs.map val) ∧ ∀ x ∈ xs, EOk (fun k => base ≤ k ∧ k < w.heap.size ∧ v.ownBlock ≠ some k) w x := by
  obtain ⟨vs, h1, h2⟩ := h.out
  have hvs : vs.length = ls.length := by have := h1.1; omega
  have hk : ∀ k, k ≤ ls.length → ∃ xs : List El, xs.length = k ∧ xs.map key = ls.take k ∧ xs.map val = vs.take k ∧ ∀ x ∈ xs, EOk (fun k => base ≤ k ∧ k < w.heap.size ∧ v.ownBlock ≠ some k) w x := fun k => by
    induction k with
    | zero => intro _; exact ⟨[], rfl, by simp, by simp, by simp⟩
    | succ k ih =>
      intro hk
      obtain ⟨xs, g1, g2, g3, g4⟩ := ih (by omega)
      obtain ⟨Ai, ci, e1, e2, e3⟩ := h2 k (by omega)
      refine ⟨xs ++ [(ls[k], Ai, ci)], by simp [g1], by rw [List.map_append, g2, List.take_succ_eq_append_getElem (by omega)]; rfl, ?_, fun x hx => ?_⟩
      · rw [List.map_append, g3, List.take_succ_eq_append_getElem (by omega)]
        congr 1
        rw [List.getElem?_eq_getElem (by omega)] at e1
        rw [Option.some.inj e1]
        rfl
      · rcases List.mem_append.1 hx with hx | hx
        · exact g4 x hx
        · rw [List.mem_singleton.1 hx]
          refine ⟨?_, e2⟩
          rcases e3.out with e | ⟨ad, e, h6, h7, h9, h8⟩
          · exact ⟨.inl e⟩
          · exact ⟨.inr ⟨ad, e, ⟨h6, h7, fun e4 => h9 e4.symm⟩, h8⟩⟩
  obtain ⟨xs, g1, g2, g3, g4⟩ := hk ls.length (Nat.le_refl _)
  refine ⟨xs, by rw [g2, List.take_length], ?_, g4⟩
  rw [g3, ← hvs, List.take_length, hvs]
  exact h1

set_option maxHeartbeats 400000 in
theorem memPre1_any (Pb : Nat) (Bx : Option Addr) (lx dx : Nat) (x : Item) (hxl : x.length = lx) (y : El) (w : World) (hcell : w.cell? ⟨Pb, 0, none⟩ = some (.slice Bx lx dx)) (hx : Sees w w.heap.size Bx (bv x)) (hy : Sees w w.heap.size y.2.1 (bv y.1)) (hyc : y.1.length ≤ y.2.2) (hyl : y.1.length ≤ 1000) :
    Calls Tryz.prog 174 #[val y, .pointer (some ⟨Pb, 0, none⟩)] w fun e w' => e = .returned (.bool (!(preB x y.1))) ∧ ∃ q, w' = w.drewN q := by
  have hP := Lib.hid (HasPrefix_any y.2.1 Bx y.1.length y.2.2 lx dx y.1 x rfl hxl hyc (by omega) w hy hx)
  have hnot : ∀ (x : Bool) (w : World), (Op.unary .not (.bool x)).run Tryz.prog w = .ok (.bool (!x)) w := fun _ _ => rfl
  unfold val
  obtain ⟨ly, hly⟩ : ∃ ly, y.1.length = ly := ⟨_, rfl⟩
  rw [hly] at hP ⊢
  obtain ⟨r, hr⟩ : ∃ r, preB x y.1 = r := ⟨_, rfl⟩
  rw [hr] at hP ⊢
  clear hr hly hyc hyl hx hy hxl
  go_enter Tryz.func174, Tryz.ntmps174
  go_wp2_with fail
  refine hP.out.mono ?_
  rintro e w1 ⟨rfl, rfl⟩
  go_wp2
  go_ret
  exact ⟨rfl, 0, rfl⟩

set_option maxRecDepth 100000 in
set_option maxHeartbeats 400000 in
theorem IndexFuncB_empty (A : Option Addr) (c : Nat) (f : Value) (hf : ∃ g lb, f = .func (.func g) #[] lb) (w : World) : Calls Tryz.prog 119 #[.slice A 0 c, f] w fun e w' => e = .returned (.int .i64 (-1)) ∧ w = w' := by
  obtain ⟨g, lb, rfl⟩ := hf
  go_enter Tryz.func119, Tryz.ntmps119
  go_wp2
  go_loop [8] (fun i => i = .int .i64 0) (fun _ => 0)
  case atStart => rfl
  case round =>
    subst hrel
    go_wp2
    go_ret
    exact ⟨rfl, rfl⟩
set_option maxRecDepth 100000 in
set_option maxHeartbeats 400000 in
theorem DeleteFuncB_empty (A : Option Addr) (c : Nat) (g : FuncId) (lb : Array Value) (w : World) : Calls Tryz.prog 173 #[.slice A 0 c, .func (.func g) #[] lb] w fun e w' => e = .returned (.slice A 0 c) ∧ w = w' := by
  have hi := fun w => Lib.hid (IndexFuncB_empty A c (.func (.func g) #[] lb) ⟨g, lb, rfl⟩ w)
  go_enter Tryz.func173, Tryz.ntmps173
  go_wp2_with fail
  refine (hi _).out.mono ?_
  rintro e w' ⟨rfl, rfl⟩
  go_wp2
  go_ret
  exact ⟨rfl, rfl⟩

/-- What begins so of a row of the call's own. -/
theorem DeletePre_any (Pb : Nat) (Bx : Option Addr) (lx dx : Nat) (x : Item) (hxl : x.length = lx) (base : Nat) (v : Value) (ls : List Item) (w : World) (hown : OwnS w base v ls) (hn : ls.length ≤ 1000) (hy : ∀ y ∈ ls, y.length ≤ 1000)
    (hcell : w.cell? ⟨Pb, 0, none⟩ = some (.slice Bx lx dx)) (hx : SeesM (fun k => k < base) w Bx (bv x)) (hPb : Pb < base) (_hbase : base ≤ w.heap.size) :
    Calls Tryz.prog 173 #[v, .func (.func 174) #[] #[.pointer (some ⟨Pb, 0, none⟩)]] w fun e w' => ∃ A c, e = .returned (.slice A (ls.filter (preB x)).length c) ∧ (ls.filter (preB x)).length ≤ c ∧ Sees2M (fun k => base ≤ k ∧ k < w'.heap.size) w' A (ls.filter (preB x)) ∧ Below base w w' := by
  obtain ⟨xs, hk, hrow, hok⟩ := els_own hown
  have hP := World.block_lt_of_cell? w _ hcell
  simp only at hP
  by_cases h0 : ls.length = 0
  · have ha : ls = [] := List.eq_nil_of_length_eq_zero h0
    subst ha
    obtain ⟨A, c, rfl, -⟩ := hown.open2
    refine (DeleteFuncB_empty A c _ _ w).mono fun e w' ⟨he, hw⟩ => ⟨A, c, he, by simp, ?_, by rw [← hw]; exact Below.refl _ _⟩
    exact ⟨fun i hi => absurd hi (by simp)⟩
  · obtain ⟨g0, cap0, rfl⟩ : ∃ g cap, v = .slice (some ⟨g, 0, none⟩) ls.length cap := by
      rcases hrow.2 with ⟨-, h⟩ | ⟨g, cap, cur, h, -⟩
      · exact absurd h h0
      · exact ⟨g, cap, h⟩
    let m : Nat → Prop := fun k => base ≤ k ∧ k < w.heap.size ∧ (Value.slice (some ⟨g0, 0, none⟩) ls.length cap0).ownBlock ≠ some k
    let α := { y : El // EOk m w y ∧ y.1.length ≤ 1000 }
    haveI : Inhabited α := ⟨⟨([], none, 0), ⟨⟨.inl rfl⟩, Nat.le_refl _⟩, by simp⟩⟩
    let enc : α → Value := fun y => val y.1
    obtain ⟨dl, hdl⟩ : ∃ dl : List α, dl.map (·.1) = xs := ⟨xs.attach.map fun y => ⟨y.1, hok y.1 y.2, hy _ (by rw [← hk]; exact List.mem_map_of_mem y.2)⟩, by rw [List.map_map]; exact List.attach_map_subtype_val xs⟩
    have hvl : ∀ l : List α, l.map enc = (l.map (·.1)).map val := fun l => by simp [enc]
    have hdn : dl.length = ls.length := by rw [← hk, ← hdl]; simp
    have hrow2 : w.ownsRow base 27 1 (.slice (some ⟨g0, 0, none⟩) dl.length cap0) dl.length (dl.map enc) := by rw [hvl, hdl, hdn]; exact hrow
    obtain ⟨g, cap, e', hg1, hg2, hnc, hm, hl, hH⟩ := Lib.holds_of_ownsRow hrow2 (by simp)
    have e1 : g = g0 := by simp only [Value.slice.injEq, Option.some.injEq, Addr.mk.injEq] at e'; exact e'.1.1.symm
    have e2 : cap = cap0 := by simp only [Value.slice.injEq] at e'; exact e'.2.2.symm
    subst e1 e2
    clear e'
    rw [← hdn] at hrow hown ⊢
    have hgm : ∀ k, m k → k ≠ g := fun k e e2 => e.2.2 (by rw [e2]; rfl)
    have hsw : ∀ (n : Nat) (os : Array Obj) (dk : Array α), Kept (fun k => k < w.heap.size ∧ k ≠ g) w (sortWorld enc w g 0 n dk os) := fun n os dk k hk => by rw [KB.sw_heap enc w g n dk os k hk.1, if_neg (fun e => hk.2 e.symm)]
    have hgive : ∀ (W : World) (y : α), Kept (fun k => k < w.heap.size ∧ k ≠ g) w W → w.heap.size ≤ W.heap.size → FnGives Tryz.prog 174 #[.pointer (some ⟨Pb, 0, none⟩)] #[enc y] (.bool (!(preB x y.1.1))) W := fun W y hK hW =>
      memPre1_any Pb Bx lx dx x hxl y.1 W ((hK.cell (p := ⟨Pb, 0, none⟩) ⟨hP, by simp only; omega⟩).trans hcell) ((hx.keep (hK.mono fun k e => ⟨by omega, by omega⟩)).sees fun k e => by omega) ((y.2.1.sees.keep (hK.mono fun k e => ⟨e.2.1, hgm k e⟩)).sees fun k e => by have := e.2.1; omega) y.2.1.cap y.2.2
    have hp : PredAt Tryz.prog 174 #[.pointer (some ⟨Pb, 0, none⟩)] enc (fun y => !(preB x y.1.1)) w := fun W y hb => hgive W y (Kept.of_below hb fun k e => e.1) hb.size
    have hpo : PredOver Tryz.prog 174 #[.pointer (some ⟨Pb, 0, none⟩)] enc (fun y => !(preB x y.1.1)) g 0 dl.toArray.size w := fun n os dk y _ => hgive _ y (hsw n os dk) (KB.sw_size enc w g n dk os)
    have hcon := AnyE.slices_DeleteFunc Tryz.delB enc (fun y => KB.val_one y.1) (fun y : α => !(preB x y.1.1)) 174 #[.pointer (some ⟨Pb, 0, none⟩)] (enters_of Tryz.func174 (by kernel_rfl) rfl) ⟨([], none, 0), ⟨⟨.inl rfl⟩, Nat.le_refl _⟩, by simp⟩ (by intro w; kernel_rfl) g 0 cap dl.toArray w hp hpo hH (by rw [List.size_toArray]; omega) (by rw [List.size_toArray]; exact hnc)
    change Calls Tryz.prog 173 _ _ _ at hcon
    rw [List.size_toArray] at hcon
    simp only [Bool.not_not] at hcon
    have hfk : ((dl.filter fun y => preB x y.1.1).map (·.1)).map key = ls.filter (preB x) := by
      rw [← hk, ← hdl, List.filter_map, List.filter_map]
      rfl
    have hfl : (dl.filter fun y => preB x y.1.1).length = (ls.filter (preB x)).length := by rw [← hfk]; simp
    refine hcon.mono fun e w' ⟨he, q, hw⟩ => ?_
    have hle := List.length_filter_le (fun y : α => preB x y.1.1) dl
    have hr := Lib.ownsRow_putRow (q := q) (k := (dl.filter fun y => preB x y.1.1).length) (ys := (dl.filter fun y => preB x y.1.1) ++ List.replicate (dl.length - (dl.filter fun y => preB x y.1.1).length) (⟨([], none, 0), ⟨⟨.inl rfl⟩, Nat.le_refl _⟩, by simp⟩ : α)) hrow2 (by simp; omega) hle
    rw [List.take_left] at hr
    rw [← hw] at hr
    have hB : Below g w w' := by rw [hw]; exact Lib.below_putRow (Below.refl _ _) (Nat.le_refl _)
    have hKw : Kept (fun k => k < w.heap.size ∧ k ≠ g) w w' := by
      rw [hw]
      intro k hk
      simp [putRow, mapBlock, Sort.ahead, Array.getElem?_modify, show g ≠ k from fun e => hk.2 e.symm]
    have hz : w'.heap.size = w.heap.size := by rw [hw]; simp [putRow, mapBlock, Sort.ahead]
    refine ⟨some ⟨g, 0, none⟩, cap, by rw [← hfl]; exact he, by rw [← hfl]; omega, ⟨fun i hi => ?_⟩, hB.mono hg1⟩
    have hi2 : i < (dl.filter fun y => preB x y.1.1).length := by rw [hfl]; exact hi
    have hci := World.ownsRow.cells hr (g := g) rfl i (enc (dl.filter fun y => preB x y.1.1)[i]) (by rw [List.getElem?_map, List.getElem?_eq_getElem hi2]; rfl)
    have hel : (ls.filter (preB x))[i] = ((dl.filter fun y => preB x y.1.1)[i]).1.1 := by
      have := List.getElem_of_eq hfk.symm hi
      rw [this, List.getElem_map, List.getElem_map]
      rfl
    have hee := ((dl.filter fun y => preB x y.1.1)[i]).2
    refine ⟨_, ((dl.filter fun y => preB x y.1.1)[i]).1.2.1, ((dl.filter fun y => preB x y.1.1)[i]).1.2.2, rfl, ⟨hg1, by simp only; omega⟩, ?_, ?_, ?_⟩
    · rw [hel]; exact hci
    · rw [hel]; exact hee.1.cap
    · rw [hel]; exact (hee.1.sees.keep (hKw.mono fun k e => ⟨e.2.1, hgm k e⟩)).mono fun k e => ⟨e.1, by have := e.2.1; omega⟩

set_option maxRecDepth 100000 in
set_option maxHeartbeats 800000 in
theorem memPrefix_any (b : Nat) (mem : List Item) (w : World) (hM : MemAt w b mem) (hr : Ri ahead mem) (hn : mem.length ≤ 1000) (hy : ∀ x ∈ mem, x.length ≤ 1000) (Bx : Option Addr) (lx dx : Nat) (x : Item) (hx : Sees w w.heap.size Bx (bv x)) (hxl : x.length = lx) :
    Calls Tryz.prog 172 #[.map (some b), .slice Bx lx dx] w (RowS w (mem.filter (preB x))) := by
  obtain ⟨wb, hwb⟩ : ∃ wb, w.alloc (.cells #[.slice Bx lx dx] 27) = wb := ⟨_, rfl⟩
  have hbb : Below w.heap.size w wb := by rw [← hwb]; exact (Below.refl _ w).alloc (Nat.le_refl _) _
  have hzb : wb.heap.size = w.heap.size + 1 := by rw [← hwb]; simp
  have bb : Box1 wb w.heap.size 27 (.slice Bx lx dx) := by rw [← hwb]; exact Box1.new w _ _
  have hS := Lib.hid (sorted_any b mem wb (hM.keep (hbb.block b hM.lt)) hr hn hy)
  have hxb := Lib.hid (hx.below hbb)
  have HXL := Lib.hid hxl
  have HY := Lib.hid hy
  have HN := Lib.hid hn
  clear hM hr hx hxl hy hn
  go_enter Tryz.func172, Tryz.ntmps172
  go_wp2_with fail
  refine hS.out.mono ?_
  rintro e w1 ⟨v, rfl, hown, hb1⟩
  have hs1 := hb1.size
  have b1 := bb.below hb1 bb.lt
  have hD := Lib.hid (DeletePre_any w.heap.size Bx lx dx x HXL.out wb.heap.size v mem w1 hown HN.out HY.out b1.cell ((hxb.out.below (hb1.mono (by omega))).toM.mono fun k e => by omega) (by omega) hs1)
  clear hS
  go_wp2_with fail
  refine hD.out.mono ?_
  rintro e w2 ⟨A, c, rfl, hc, hA, hb2⟩
  go_wp2
  go_ret
  exact ⟨A, c, rfl, hc, hA.mono fun k e => ⟨by omega, e.2⟩, hbb.trans ((hb1.trans (hb2.mono (Nat.le_refl _))).mono (by omega))⟩
end Go.Proofs.YtadakaenbemedaaGreatDoor
