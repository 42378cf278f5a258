/-
  A row, cloned and sorted: slices.Clone, slices.SortFunc.
-/
import Derived.Test.YtcfbblgoligagaaKmSwapI
import Derived.Test.YtcfbblgoligagaaShelf
import Derived.Shelf.SlSortCmp.Whole1
import Derived.Lib.SliceRun
namespace Go.Proofs.Ytcfbblgoligagaa.KI
open Go.RowKit Go.Shelf Go.Sort

theorem einfo : (Try.prog.info? 3).map (fun i => (i.zero, i.size, i.bytes)) = some (some (.int .i64 0), 1, 8) := by kernel_rfl

theorem owns_le {w : World} {base b : Nat} {e : TypeId} {sz n : Nat} {v : Value} {xs : List Value} (h : w.ownsRow base e sz v n xs) (hb : b ≤ base) : w.ownsRow b e sz v n xs := by
  refine ⟨h.1, ?_⟩
  rcases h.2 with h | ⟨g, cap, cur, hv, hg, r⟩
  · exact .inl h
  · exact .inr ⟨g, cap, cur, hv, Nat.le_trans hb hg, r⟩
/-- Behind a call that lays a row of its own. -/
def RowVal (w : World) (xs : List El) (e : Ending) (w' : World) : Prop := ∃ v, e = .returned v ∧ w'.ownsRow w.heap.size 3 1 v xs.length (xs.map val) ∧ Below w.heap.size w w'

set_option maxRecDepth 100000 in
set_option maxHeartbeats 400000 in
theorem Clone_any (A : Option Addr) (n c : Nat) (xs : List El) (hn : xs.length = n) (w : World) (h : Sees w w.heap.size A (xs.map val)) (hlen : n ≤ 1000000) :
    Calls Try.prog 50 #[.slice A n c] w (RowVal w xs) := by
  have he := fun (W : World) (a : Option Addr) (n c : Nat) => Lib.run_eql_slice_nil (P := Try.prog) W 30 3 a n c 0 0 Try.underlying30
  cases A with
  | none =>
    have hx : xs = [] := by
      rcases h.out with h | ⟨ad, h, _⟩
      · simpa using h
      · cases h
    subst hx
    subst hn
    go_enter Try.func50, Try.ntmps50
    go_wp2
    go_ret
    exact ⟨_, rfl, World.ownsRow_nil _ _ _ _, Below.refl _ _⟩
  | some ad =>
    obtain ⟨i, hi, hz, hx, hy⟩ := info_parts einfo
    have hml : (xs.map val).length = n * 1 := by rw [List.length_map, hn, Nat.mul_one]
    have h1 : ∀ u ∈ xs.map val, u.oneCell' = true := fun u hu => by
      obtain ⟨x, -, rfl⟩ := List.mem_map.1 hu
      exact val_one x
    have HN := Lib.hid hn
    have hown0 := World.ownsRow_made (base := w.heap.size) (e := 3) (size := 1) w #[] 0 (Nat.le_refl _) (Nat.zero_le _) (by simp)
    have hsee := h.alloc (Nat.le_refl _) (.cells #[] 3)
    clear hn h
    go_enter Try.func50, Try.ntmps50
    go_wp2_with (at_builtin; refine wpList_append_v rfl (.tmp 5) (.tmp 6) 30 rfl 3 i (.int .i64 0) 1 8 Try.underlying30 hi hz hx hy rfl (by omega) w.heap.size (.slice (some ⟨w.heap.size, 0, none⟩) 0 0) 0 [] (by rfl) hown0 w.heap.size (some ad) n c (xs.map val) (by rfl) hml hsee h1 (by simp only [maxLen]; omega) (by omega) (by simp) ?_; intro v1 w1 hown1 hon1)
    go_ret
    refine ⟨v1, rfl, ?_, ((Onto.new _ _ (.slice none 0 0) _ _).trans hon1).below_nil⟩
    rw [HN.out]
    simpa using hown1

theorem sw_heap {α : Type} [Inhabited α] (enc : α → Value) (w : World) (g m : Nat) (d : Array α) (os : Array Obj) (k : Nat) (hk : k < w.heap.size) : (sortWorld enc w g 0 m d os).heap[k]? = if g = k then (w.heap[k]?).map (onCells (putCells enc 0 d)) else w.heap[k]? := by
  show ((w.heap.modify g (onCells (putCells enc 0 d))) ++ os)[k]? = _
  rw [Array.getElem?_append_left (by simpa using hk), Array.getElem?_modify]
theorem sw_size {α : Type} [Inhabited α] (enc : α → Value) (w : World) (g m : Nat) (d : Array α) (os : Array Obj) : w.heap.size ≤ (sortWorld enc w g 0 m d os).heap.size := by
  show _ ≤ ((w.heap.modify g (onCells (putCells enc 0 d))) ++ os).size
  simp
theorem sw_cells {α : Type} [Inhabited α] (enc : α → Value) (d : Array α) (cur : Array Value) (h : d.size ≤ cur.size) : (putCells enc 0 d cur).toList.take d.size = d.toList.map enc := by
  apply List.ext_getElem?
  intro t
  by_cases ht : t < d.size
  · rw [List.getElem?_take, if_pos ht]
    have hs : t < (putCells enc 0 d cur).size := by unfold putCells; simp; omega
    rw [List.getElem?_eq_getElem (by rw [Array.length_toList]; exact hs), Array.getElem_toList, List.getElem?_map, Array.getElem?_toList, Array.getElem?_eq_getElem ht]
    unfold putCells
    rw [Array.getElem_mapIdx, if_pos ⟨Nat.zero_le _, by omega⟩]
    simp [ht]
  · rw [List.getElem?_eq_none (by rw [List.length_take]; omega), List.getElem?_eq_none (by rw [List.length_map, Array.length_toList]; omega)]

set_option maxRecDepth 100000 in
set_option maxHeartbeats 400000 in
theorem SortFunc_any (m : Nat → Prop) (base g cap n : Nat) (ls : List El) (hne : ls ≠ []) (hn : ls.length = n) (w : World) (hown : w.ownsRow base 3 1 (.slice (some ⟨g, 0, none⟩) n cap) n (ls.map val)) (hok : ∀ x ∈ ls, EOk m w x) (hm : ∀ k, m k → k < w.heap.size ∧ k ≠ g) (hlen : n ≤ 1000000) :
    Calls Try.prog 51 #[.slice (some ⟨g, 0, none⟩) n cap, .func (.func cmpF) #[] #[]] w fun e w' =>
      e = .returned (.tuple #[]) ∧ ∃ ls' : List El, ls'.Perm ls ∧ Wk lt (ls'.map key) ∧ w'.ownsRow base 3 1 (.slice (some ⟨g, 0, none⟩) n cap) n (ls'.map val) ∧ Turn (fun k => k = g) w w' := by
  let α := { x : El // EOk m w x }
  haveI : Inhabited α := ⟨⟨ls.head hne, hok _ (List.head_mem hne)⟩⟩
  obtain ⟨dl, hdl⟩ : ∃ dl : List α, dl.map (·.1) = ls := ⟨ls.attach.map fun x => ⟨x.1, hok x.1 x.2⟩, by rw [List.map_map]; exact List.attach_map_subtype_val ls⟩
  let enc : α → Value := fun x => val x.1
  have hvl : ∀ l : List α, l.map enc = (l.map (·.1)).map val := fun l => by simp [enc]
  have hsz : dl.toArray.size = n := by rw [List.size_toArray, ← hn, ← hdl, List.length_map]
  rcases hown.2 with ⟨h0, -⟩ | ⟨g', cap', cur, hv, hbg, hh, hnc, hcm, hcs, htk⟩
  · cases h0
  injection hv with h1 h2 h3
  injection h1 with h1
  injection h1 with h1
  subst h1 h3
  have hgs : g < w.heap.size := (Array.getElem?_eq_some_iff.1 hh).1
  have hH : Holds enc w g 0 dl.toArray := fun j hj => by
    have hj2 : j < n := by rw [hsz] at hj; exact hj
    have h1 := World.ownsRow.cellAt hown j (by omega)
    rw [← hdl, ← hvl, List.getElem?_map] at h1
    have h2 := World.ownsRow.frozenAt hown j
    rw [Nat.zero_add]
    refine ⟨?_, h2⟩
    rw [h1, getElem!_pos _ j hj, List.getElem_toArray, List.getElem?_eq_getElem (by simpa using hj)]
    rfl
  have hO : SWO (ltOf fun x y : α => cmpI x.1 y.1) := by
    have e : ∀ x y : α, ltOf (fun x y : α => cmpI x.1 y.1) x y = lt (key x.1) (key y.1) := fun x y => cmp_neg x.1 y.1
    exact ⟨fun x => by rw [e]; exact ordr.irrefl _, fun x y z h1 h2 => by rw [e] at *; exact ordr.trans _ _ _ h1 h2, fun x y z h1 h2 => by rw [e] at *; exact ordr.ntrans h2 h1⟩
  have hC : CmpLays1 Try.prog cmpF #[] enc (fun x y : α => cmpI x.1 y.1) g 0 dl.toArray.size w := fun m' os dk _ x y => by
    have hk : Kept m w (sortWorld enc w g 0 m' dk os) := fun k hk => by rw [sw_heap enc w g m' dk os k (hm k hk).1, if_neg (fun e => (hm k hk).2 e.symm)]
    refine (cmp_any (m := m) x.1 y.1 _ (x.2.keep hk) (y.2.keep hk) (fun k e => Nat.lt_of_lt_of_le (hm k e).1 (sw_size _ _ _ _ _ _))).mono fun e w' ⟨he, hw⟩ => ⟨he, 0, #[], ?_⟩
    rw [← hw, grow_empty]
    rfl
  have hcon := Any.slices_SortFunc Try.sortI enc (fun x => val_one x.1) (fun x y : α => cmpI x.1 y.1) hO cmpF #[] g 0 cap dl.toArray w enters_cmp hC hH hgs (by rw [hsz]; omega)
  change Calls Try.prog 51 _ _ _ at hcon
  rw [hsz] at hcon
  refine hcon.mono ?_
  rintro e w' ⟨rfl, d', m', os, hp, hs, rfl⟩
  obtain ⟨hps, -, hpp⟩ := hp
  rw [hsz] at hps
  have hpm : d'.toList.Perm dl := by
    have e1 : d'.extract 0 n = d' := by rw [← hps]; exact Array.extract_size
    have e2 : dl.toArray.extract 0 n = dl.toArray := by rw [← hsz]; exact Array.extract_size
    rw [e1, e2] at hpp
    exact hpp
  refine ⟨rfl, d'.toList.map (·.1), by rw [← hdl]; exact hpm.map _, ?_, ⟨by simp [hps], .inr ⟨g, cap, putCells enc 0 d' cur, rfl, hbg, ?_, hnc, hcm, ?_, ?_⟩⟩, rfl, rfl, rfl, sw_size _ _ _ _ _ _, ?_⟩
  · refine List.pairwise_iff_getElem.2 fun i j hi hj hij => ?_
    simp only [List.length_map, Array.length_toList] at hi hj
    have := hs i j (Nat.zero_le _) hij (by rw [← hps]; exact hj)
    rw [getElem!_pos d' i hi, getElem!_pos d' j hj] at this
    have e : ∀ x y : α, ltOf (fun x y : α => cmpI x.1 y.1) x y = lt (key x.1) (key y.1) := fun x y => cmp_neg x.1 y.1
    rw [e] at this
    simpa using this
  · rw [sw_heap enc w g m' d' os g hgs, if_pos rfl, hh]
    rfl
  · unfold putCells; rw [Array.size_mapIdx]; exact hcs
  · have := sw_cells enc d' cur (by rw [hcs, hps]; omega)
    rw [hps, hvl] at this
    rw [Nat.mul_one]
    exact this
  · intro k hk hkg
    rw [sw_heap enc w g m' d' os k hk, if_neg (fun e => hkg e.symm)]
end Go.Proofs.Ytcfbblgoligagaa.KI
