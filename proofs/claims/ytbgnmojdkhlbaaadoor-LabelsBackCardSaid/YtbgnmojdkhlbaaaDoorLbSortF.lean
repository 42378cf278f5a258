/-
  slices.SortFunc at labels, by their names.
-/
import Derived.Test.YtbgnmojdkhlbaaaDoorLbRow
import Derived.Shelf.SlSortCmp.WholeK
namespace Go.Proofs.YtbgnmojdkhlbaaaDoor
open Go.RowKit Go.Shelf Go.Sort

def encL (x : Lb) : List Value := [.string x.1, .string x.2]
theorem flat_lv (d : Array Lb) : (flatK encL 2 d).toList = lv d.toList := by
  apply List.ext_getElem?
  intro t
  by_cases ht : t < d.size * 2
  · have h1 := get_flatK encL 2 d t ht
    have hs : t < (flatK encL 2 d).size := by rw [size_flatK]; exact ht
    rw [getElem!_pos _ t hs] at h1
    obtain ⟨q, hq⟩ : ∃ q, t / 2 = q := ⟨_, rfl⟩
    have hk : q < d.size := by omega
    have hk' : q < d.toList.length := by rw [Array.length_toList]; exact hk
    have h2 := lv_at d.toList q hk'
    rw [hq, getElem!_pos d q hk] at h1
    rw [List.getElem?_eq_getElem (by rw [Array.length_toList]; exact hs), Array.getElem_toList, h1]
    rcases Nat.mod_two_eq_zero_or_one t with hm | hm
    · rw [hm]
      have e : t = 2 * q := by omega
      subst e
      rw [h2.1]; simp [encL]
    · rw [hm]
      have e : t = 2 * q + 1 := by omega
      subst e
      rw [h2.2]; simp [encL]
  · rw [List.getElem?_eq_none (by rw [Array.length_toList, size_flatK]; omega), List.getElem?_eq_none (by rw [lv_length, Array.length_toList]; omega)]

theorem ltOf_ltN (x y : Lb) : ltOf (fun x y : Lb => cmpB x.1 y.1) x y = ltN x y := by
  unfold ltOf ltN
  cases h : Op.bytesLess x.1.toList y.1.toList with
  | true => show decide (cmpB x.1 y.1 < 0) = _; rw [cmpB_lt h]; rfl
  | false =>
    cases h2 : (x.1.toList == y.1.toList) with
    | true => show decide (cmpB x.1 y.1 < 0) = _; rw [cmpB_eq h h2]; rfl
    | false => show decide (cmpB x.1 y.1 < 0) = _; rw [cmpB_gt h h2]; rfl
theorem swoN : SWO (ltOf fun x y : Lb => cmpB x.1 y.1) where
  irrefl x := by rw [ltOf_ltN]; exact ltN_irrefl x
  trans x y z h1 h2 := by rw [ltOf_ltN] at *; exact ltN_trans h1 h2
  ntrans x y z h1 h2 := by rw [ltOf_ltN] at *; exact ltN_ntrans h1 h2

set_option maxRecDepth 100000 in
set_option maxHeartbeats 400000 in
theorem canonFn_any (x y : Lb) (W : World) : Calls Tryd.prog 30 #[.agg #[.string x.1, .string x.2], .agg #[.string y.1, .string y.2]] W fun e w' => e = .returned (.int .i64 (cmpB x.1 y.1)) ∧ ∃ q os', w' = grow (W.drewN q) os' := by
  have hC : ∀ W, Hid (Calls Tryd.prog 31 #[.string x.1, .string y.1] W _) := fun W => Lib.hid (cmpCompare_any x.1 y.1 W)
  generalize cmpB x.1 y.1 = r at hC ⊢
  go_enter Tryd.func30, Tryd.ntmps30
  go_wp2_with fail
  refine (hC _).out.mono ?_
  rintro e w1 ⟨rfl, rfl⟩
  go_wp2
  go_ret
  exact ⟨rfl, 0, _, by rw [alloc_eq_grow, alloc_eq_grow, grow_grow]; rfl⟩

theorem put_heap (w : World) (g m : Nat) (F : Array Value) (os : Array Obj) (k : Nat) (hk : k < w.heap.size) : (grow (putRow id (Sort.ahead w m) g 0 F) os).heap[k]? = if g = k then (w.heap[k]?).map (onCells (putCells id 0 F)) else w.heap[k]? := by
  show ((w.heap.modify g (onCells (putCells id 0 F))) ++ os)[k]? = _
  rw [Array.getElem?_append_left (by simpa using hk), Array.getElem?_modify]
theorem put_size (w : World) (g m : Nat) (F : Array Value) (os : Array Obj) : w.heap.size ≤ (grow (putRow id (Sort.ahead w m) g 0 F) os).heap.size := by
  show _ ≤ ((w.heap.modify g (onCells (putCells id 0 F))) ++ os).size
  simp
theorem put_cells (F cur : Array Value) (h : F.size ≤ cur.size) : (putCells id 0 F cur).toList.take F.size = F.toList := by
  apply List.ext_getElem?
  intro t
  by_cases ht : t < F.size
  · rw [List.getElem?_take, if_pos ht]
    have hs : t < (putCells id 0 F cur).size := by unfold putCells; simp; omega
    rw [List.getElem?_eq_getElem (by rw [Array.length_toList]; exact hs), List.getElem?_eq_getElem (by rw [Array.length_toList]; exact ht), Array.getElem_toList, Array.getElem_toList]
    unfold putCells
    rw [Array.getElem_mapIdx, if_pos ⟨Nat.zero_le _, by omega⟩]
    simp [getElem!_pos, ht]
  · rw [List.getElem?_eq_none (by rw [List.length_take]; omega), List.getElem?_eq_none (by rw [Array.length_toList]; omega)]

set_option maxRecDepth 100000 in
set_option maxHeartbeats 400000 in
theorem SortFunc_any (base g cap : Nat) (n : Nat) (ls : List Lb) (hn : ls.length = n) (w : World) (hown : OwnL w base (.slice (some ⟨g, 0, none⟩) n cap) ls) (hlen : n ≤ 1099511627776) :
    Calls Tryd.prog 29 #[.slice (some ⟨g, 0, none⟩) n cap, .func (.func 30) #[] #[]] w fun e w' =>
      e = .returned (.tuple #[]) ∧ ∃ ls', ls'.Perm ls ∧ Weak ls' ∧ OwnL w' base (.slice (some ⟨g, 0, none⟩) n cap) ls' ∧ Below g w w' := by
  have hown0 := hown
  rcases hown.2 with ⟨h, _⟩ | ⟨g', cap', cur, he, hbg, hh, hnc, hcm, hcs, htk⟩
  · cases h
  injection he with h1 h2 h3
  injection h1 with h1
  injection h1 with h1
  subst h1
  subst h3
  have hgs : g < w.heap.size := by
    rcases Nat.lt_or_ge g w.heap.size with h | h
    · exact h
    · rw [Array.getElem?_eq_none h] at hh; cases hh
  have hsz : ls.toArray.size = n := by simpa using hn
  have hF : (flatK encL 2 ls.toArray).toList = lv ls := flat_lv ls.toArray
  have hH : HoldsK encL 2 w g 0 ls.toArray := by
    intro j hj
    have hj2 := hj
    rw [size_flatK, hsz] at hj2
    have hjc : j < cur.size := by omega
    constructor
    · unfold World.cell?
      rw [hh]
      simp only [Nat.zero_add, Option.isSome_none, Bool.false_eq_true, if_false]
      have e1 : (lv ls)[j]? = (flatK encL 2 ls.toArray)[j]? := by rw [← hF, Array.getElem?_toList]
      rw [← htk, List.getElem?_take, if_pos (by rw [hn]; exact hj2), Array.getElem?_toList] at e1
      rw [e1, Array.getElem?_eq_getElem hj, getElem!_pos _ j hj]
      rfl
    · unfold World.frozen?
      rw [hh]
      simp
  have eg : ∀ args w, (callFunc 30 args).run Tryd.prog w = .ok (.enter 30 args) w := enters_of Tryd.func30 (by kernel_rfl) rfl
  have hcon := AnyQ.slices_SortFunc Tryd.sortLb 2 Tryd.isAgg34 Tryd.sizeOf34 encL (fun _ => rfl) (fun x v hv => by simp [encL] at hv; rcases hv with rfl | rfl <;> rfl) (fun x y => cmpB x.1 y.1) swoN 30 #[] g 0 cap ls.toArray w eg (fun _ _ _ _ x y => canonFn_any x y _) hH hgs (by rw [hsz]; omega)
  change Calls Tryd.prog 29 _ _ _ at hcon
  rw [hsz] at hcon
  refine hcon.mono ?_
  rintro e w' ⟨rfl, d', m, os, hp, hs, rfl⟩
  obtain ⟨hps, -, hpp⟩ := hp
  rw [hsz] at hps
  have hpm : d'.toList.Perm ls := by
    have e1 : d'.extract 0 n = d' := by rw [← hps]; exact Array.extract_size
    have e2 : ls.toArray.extract 0 n = ls.toArray := by rw [← hsz]; exact Array.extract_size
    rw [e1, e2] at hpp
    exact hpp
  have hFs : (flatK encL 2 d').size = n * 2 := by rw [size_flatK, hps]
  refine ⟨rfl, d'.toList, hpm, ?_, ⟨by rw [lv_length, Nat.mul_comm], .inr ⟨g, cap, putCells id 0 (flatK encL 2 d') cur, ?_, hbg, ?_, ?_, hcm, ?_, ?_⟩⟩, rfl, rfl, rfl, put_size _ _ _ _ _, ?_⟩
  · refine List.pairwise_iff_getElem.2 fun i j hi hj hij => ?_
    have := hs i j (Nat.zero_le _) hij (by rw [Array.length_toList, hps] at hj; exact hj)
    rw [Array.length_toList] at hi hj
    rw [getElem!_pos d' i hi, getElem!_pos d' j hj, ltOf_ltN] at this
    simpa using this
  · rw [hpm.length_eq, hn]
  · show (grow (putRow id (Sort.ahead w m) g 0 (flatK encL 2 d')) os).heap[g]? = _
    rw [put_heap w g m _ os g hgs, if_pos rfl, hh]
    rfl
  · rw [hpm.length_eq]; exact hnc
  · unfold putCells; rw [Array.size_mapIdx]; exact hcs
  · have := put_cells (flatK encL 2 d') cur (by rw [hFs, hcs]; rw [hn] at hnc; omega)
    rw [flat_lv, hFs] at this
    rw [hpm.length_eq, hn]
    exact this
  · intro k hk
    show (grow (putRow id (Sort.ahead w m) g 0 (flatK encL 2 d')) os).heap[k]? = _
    rw [put_heap w g m _ os k (by omega), if_neg (by omega)]
end Go.Proofs.YtbgnmojdkhlbaaaDoor
