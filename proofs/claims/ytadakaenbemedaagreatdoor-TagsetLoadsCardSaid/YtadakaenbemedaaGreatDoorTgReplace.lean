/-
  slices.Replace of some neighbours by one, in place, walked.
-/
import Derived.Test.YtadakaenbemedaaGreatDoorTgFlush
import Derived.Laws.CopyOwn
import Derived.Lib.AppendZeros
import Derived.Lib.SliceRun
import Derived.Deep.RegionLaw
namespace Go.Proofs.YtadakaenbemedaaGreatDoor
open Go.RowKit Go.Maps

/-- copy, onto a row that is known whole, as one step of a region that draws. -/
theorem step_copy_row {P : Program} {ops : Array Oper} {o : Oper} {a : Act} {w : World} {K : Act → World → Prop} {Q : Exit → Act → World → Prop} {E : Prop} (hgd : o.guard = none) (d s : Operand) (dT sT : TypeId)
    (ho : o.op = .call { callee := .builtin .copy, args := #[d, s], argTypes := #[dT, sT] }) (elem : TypeId) (hu : P.underlying dT = some (.slice elem)) (hsz : (P.info? elem).map (·.size) = some 1)
    (g off dLen dCap : Nat) (ad : Addr) (sLen sCap : Nat) (hd : a.eval d = .slice (some ⟨g, off, none⟩) dLen dCap) (hs : a.eval s = .slice (some ad) sLen sCap)
    (cur : Array Value) (t : TypeId) (hg : w.heap[g]? = some (.cells cur t (0, 0))) (cs : List Value) (hn : cs.length = Nat.min sLen dLen)
    (hsrc : ∀ j v, cs[j]? = some v → w.cell? (ad.add j) = some v) (hfit : off + cs.length ≤ cur.size) (h1 : ∀ v ∈ cs, v.oneCell' = true)
    (h : K (a.put o.dst (goInt cs.length)) (w.setRow g (cur.toList.take off ++ (cs ++ cur.toList.drop (off + cs.length))).toArray)) :
    if Region.wanted o (yielded ops a.tmps) = true then Oper.wp P o a w K Q else E := by
  have hw : Region.wanted o (yielded ops a.tmps) = true := by simp [Region.wanted, hgd]
  rw [if_pos hw]
  have hrun := run_copy_row (P := P) w dT sT o.type elem g off dLen dCap ad sLen sCap cur t cs hu hsz hg hn hsrc hfit h1
  unfold Oper.wp
  simp [execOp, ho, resolve, invoke, builtin, hd, hs, hrun, Result.andThen]
  exact h

/-- What stands in a row's cells behind zeros laid from a place on. -/
theorem setCells_heap (g : Nat) (t : TypeId) : ∀ (vs : List Value) (o : Nat) (w : World) (cur : Array Value), w.heap[g]? = some (.cells cur t (0, 0)) → o + vs.length ≤ cur.size →
    ∃ cur' : Array Value, (w.setCells g o vs).heap[g]? = some (.cells cur' t (0, 0)) ∧ cur'.size = cur.size ∧ cur'.toList.take o = cur.toList.take o
  | [], o, w, cur, hg, _ => ⟨cur, hg, rfl, rfl⟩
  | v :: r, o, w, cur, hg, h => by
    simp only [List.length_cons] at h
    have hlt := (Array.getElem?_eq_some_iff.1 hg).1
    have h1 : (w.setCell ⟨g, o, none⟩ v).heap[g]? = some (.cells (cur.setIfInBounds o v) t (0, 0)) := heap_setCell_same w g o cur t v hg
    obtain ⟨cur', h2, h3, h4⟩ := setCells_heap g t r (o + 1) _ _ h1 (by simp; omega)
    refine ⟨cur', h2, by rw [h3]; simp, ?_⟩
    have := congrArg (List.take o) h4
    rw [List.take_take, List.take_take, Nat.min_eq_left (by omega)] at this
    rw [this]
    simp [Array.toList_setIfInBounds, List.take_set_of_le]
theorem setCells_turn (g : Nat) : ∀ (vs : List Value) (o : Nat) (w : World), Turn (fun k => k = g) w (w.setCells g o vs) ∧ (w.setCells g o vs).heap.size = w.heap.size
  | [], _, w => ⟨Turn.refl _ _, rfl⟩
  | v :: r, o, w => by
    obtain ⟨h1, h2⟩ := setCells_turn g r (o + 1) (w.setCell ⟨g, o, none⟩ v)
    exact ⟨(Turn.setCell (T := fun k => k = g) w ⟨g, o, none⟩ v rfl).trans h1, h2.trans (World.size_setCell _ _ _)⟩
theorem setRow_turn (g : Nat) (w : World) (cs : Array Value) : Turn (fun k => k = g) w (w.setRow g cs) := ⟨rfl, rfl, rfl, by simp, fun k _ hk => setRow_other w g k cs hk⟩

def ReplIs (w : World) (g cap : Nat) (ps : List Value) (e : Ending) (w' : World) : Prop := e = .returned (.slice (some ⟨g, 0, none⟩) ps.length cap) ∧ w'.ownsRow 0 65 1 (.slice (some ⟨g, 0, none⟩) ps.length cap) ps.length ps ∧ Turn (fun k => k = g) w w' ∧ w'.heap.size = w.heap.size

set_option maxRecDepth 100000 in
set_option maxHeartbeats 1600000 in
theorem replace_end (w : World) (g n cap : Nat) (ps : List Value) (hown : w.ownsRow 0 65 1 (.slice (some ⟨g, 0, none⟩) n cap) n ps) (b : Nat) (p : Value) (hp : w.cell? ⟨b, 0, none⟩ = some p) (h1 : p.oneCell' = true) (i : Nat) (hi : i + 2 ≤ n) (_hn : n ≤ 100000) :
    Calls Tryz.prog 44 #[.slice (some ⟨g, 0, none⟩) n cap, .int .i64 i, .int .i64 n, .slice (some ⟨b, 0, none⟩) 1 1] w (ReplIs w g cap (ps.take i ++ [p])) := by
  have hpl : ps.length = n := by have := hown.1; omega
  rcases hown.2 with ⟨h, -⟩ | ⟨g', cap', cur, e, -, hg, hnc, hcm, hcs, htk⟩
  · cases h
  simp only [Value.slice.injEq, Option.some.injEq, Addr.mk.injEq, and_true, true_and] at e
  obtain ⟨rfl, rfl⟩ := e
  obtain ⟨ti, hti, hz0, hz1, hz2⟩ := info_parts Tryz.partinfo
  have hone := hz1
  have hrun := fun ty => run_append_room (P := Tryz.prog) w 61 ty 65 ti Tryz.underlying61 hti g i cap cur hg ⟨b, 0, none⟩ 1 1 [p] (by rw [hz1]; rfl) (fun j u hu => by
    match j, hu with
    | 0, hu => simp at hu; subst hu; simpa [Addr.add] using hp) (fun u hu => by simp at hu; subst hu; exact h1) (by omega) (by rw [hz1, hcs]; simp; omega)
  rw [hz1] at hrun
  obtain ⟨W1, hW1⟩ : ∃ W1, w.setRow g (cur.toList.take (i * 1) ++ [p] ++ cur.toList.drop (i * 1 + [p].length)).toArray = W1 := ⟨_, rfl⟩
  rw [hW1] at hrun
  have hg1 : W1.heap[g]? = some (.cells (cur.toList.take (i * 1) ++ [p] ++ cur.toList.drop (i * 1 + [p].length)).toArray 65 (0, 0)) := by rw [← hW1]; exact setRow_heap w g cur _ _ _ hg
  have hsz1 : (cur.toList.take (i * 1) ++ [p] ++ cur.toList.drop (i * 1 + [p].length)).toArray.size = cap := by simp; omega
  have hcl := fun ty => Lib.run_clear_slice (P := Tryz.prog) W1 61 65 ty (.pointer none) Tryz.underlying61 (by intro w; kernel_rfl) rfl rfl g (i + 1) (n - (i + 1)) (cap - (i + 1)) (by omega)
    (fun j hj => by
      have : (W1.cell? ⟨g, i + 1 + j, none⟩) = (cur.toList.take (i * 1) ++ [p] ++ cur.toList.drop (i * 1 + [p].length)).toArray[i + 1 + j]? := by simp [World.cell?, hg1]
      rw [this, Array.getElem?_eq_getElem (by rw [hsz1]; omega)]
      rfl) (fun j hj => by simp [World.frozen?, hg1])
  obtain ⟨W2, hW2⟩ : ∃ W2, W1.setCells g (i + 1) (List.replicate (n - (i + 1)) (.pointer none)) = W2 := ⟨_, rfl⟩
  rw [hW2] at hcl
  have hpost : ReplIs w g cap (ps.take i ++ [p]) (.returned (.slice (some ⟨g, 0, none⟩) (i + 1) cap)) W2 := by
    have hl : (ps.take i ++ [p]).length = i + 1 := by rw [List.length_append, List.length_take, List.length_singleton]; omega
    obtain ⟨cur', k1, k2, k3⟩ := setCells_heap g 65 (List.replicate (n - (i + 1)) (.pointer none)) (i + 1) W1 _ hg1 (by rw [List.length_replicate, hsz1]; omega)
    obtain ⟨t1, t2⟩ := setCells_turn g (List.replicate (n - (i + 1)) (.pointer none)) (i + 1) W1
    rw [hW2] at k1 t1 t2
    unfold ReplIs
    rw [hl]
    refine ⟨rfl, ⟨by rw [hl]; simp, .inr ⟨g, cap, cur', rfl, Nat.zero_le _, k1, by omega, hcm, by rw [k2, hsz1]; simp, ?_⟩⟩, (hW1 ▸ setRow_turn g w _).trans t1, by rw [t2, ← hW1]; simp⟩
    rw [Nat.mul_one, k3]
    have htk' : cur.toList.take n = ps := by rw [← htk]; simp
    have hti2 : cur.toList.take i = ps.take i := by rw [← htk', List.take_take, Nat.min_eq_left (by omega)]
    simp only [Nat.mul_one]
    rw [hti2, List.take_append_of_le_length (by simp; omega), List.take_of_length_le (by simp; omega)]
  have HP := Lib.hid hpost
  have hii : (i : Int) ≤ (n : Int) := by omega
  have hnc2 : (n : Int) ≤ (cap : Int) := by omega
  have hin : ((i : Int) == (n : Int)) = false := by simp; omega
  have hic : ¬ cap = i := by omega
  have hic1 : ¬ cap = i + 1 := by omega
  have hlt1 : (i : Int) + 1 < (n : Int) := by omega
  clear hpost hW1 hW2 hg1 hsz1 hown hg htk hcs hp
  go_enter Tryz.func44, Tryz.ntmps44
  go_wp2_with (at_builtin; refine Lib.wpList_append_run _ rfl _ _ _ _ rfl _ _ rfl rfl _ _ (hrun _) ?_)
  go_ret
  exact HP.out

/-- What stands where while some neighbours are replaced by one, ahead of the row's end. -/
structure ReplW (w : World) (g n cap : Nat) (ps : List Value) (p : Value) (i j i1 r T : Nat) (cur C1 : Array Value) (Y : List Value) (W1 W2 W3 : World) : Prop where
  cur0 : w.heap[g]? = some (.cells cur 65 (0, 0))
  size0 : cur.size = cap
  w1 : w.setRow g (cur.toList.take i ++ ([p] ++ cur.toList.drop (i + [p].length))).toArray = W1
  cur1 : W1.heap[g]? = some (.cells C1 65 (0, 0))
  size1 : C1.size = cap
  len : Y.length = r
  src : ∀ q u, Y[q]? = some u → W1.cell? ((⟨g, j, none⟩ : Addr).add q) = some u
  one : ∀ u ∈ Y, u.oneCell' = true
  w2 : W1.drew.setRow g (C1.toList.take i1 ++ (Y ++ C1.toList.drop (i1 + Y.length))).toArray = W2
  post : ReplIs w g cap (ps.take i ++ p :: ps.drop j) (.returned (.slice (some ⟨g, 0, none⟩) T cap)) W3

theorem repl_facts (w : World) (g n cap : Nat) (ps : List Value) (hown : w.ownsRow 0 65 1 (.slice (some ⟨g, 0, none⟩) n cap) n ps) (p : Value) (h1s : ∀ u ∈ ps, u.oneCell' = true) (i j r T i1 : Nat) (hi : i + 2 ≤ j) (hj : j < n) (hr : n - j = r) (hT : i + 1 + r = T) (hi1 : i + 1 = i1) :
    ∃ cur C1 Y W1 W2 W3, ReplW w g n cap ps p i j i1 r T cur C1 Y W1 W2 W3 ∧ ∀ ty, (Builtin.clear_ #[61] ty #[.slice (some ⟨g, T, none⟩) (n - T) (cap - T)]).run Tryz.prog W2 = .ok (.tuple #[]) W3 := by
  have hpl : ps.length = n := by have := hown.1; omega
  rcases hown.2 with ⟨h, -⟩ | ⟨g', cap', cur, e, -, hg, hnc, hcm, hcs, htk⟩
  · cases h
  simp only [Value.slice.injEq, Option.some.injEq, Addr.mk.injEq, and_true, true_and] at e
  obtain ⟨rfl, rfl⟩ := e
  have htk' : cur.toList.take n = ps := by rw [← htk]; simp
  have hcs' : cur.size = cap := by omega
  have hcl0 : cur.toList.length = cap := by rw [Array.length_toList]; exact hcs'
  obtain ⟨C1, hC1⟩ : ∃ C1 : Array Value, (cur.toList.take i ++ ([p] ++ cur.toList.drop (i + [p].length))).toArray = C1 := ⟨_, rfl⟩
  have hC1l : C1.toList = cur.toList.take i ++ (p :: cur.toList.drop (i + 1)) := by rw [← hC1]; simp
  have hC1s : C1.size = cap := by rw [← Array.length_toList, hC1l]; simp; omega
  obtain ⟨W1, hW1⟩ : ∃ W1, w.setRow g C1 = W1 := ⟨_, rfl⟩
  have hg1 : W1.heap[g]? = some (.cells C1 65 (0, 0)) := by rw [← hW1]; exact setRow_heap w g cur _ _ _ hg
  obtain ⟨Y, hY⟩ : ∃ Y, ps.drop j = Y := ⟨_, rfl⟩
  have hYl : Y.length = r := by rw [← hY, List.length_drop, hpl, hr]
  have hYc : ∀ q u, Y[q]? = some u → W1.cell? ((⟨g, j, none⟩ : Addr).add q) = some u := fun q u hu => by
    rw [Addr.add_lit]
    have hq : q < r := by rw [← hYl]; exact (List.getElem?_eq_some_iff.1 hu).1
    have e1 : W1.cell? ⟨g, j + q, none⟩ = C1[j + q]? := by simp [World.cell?, hg1]
    rw [e1, ← Array.getElem?_toList, hC1l, List.getElem?_append_right (by simp; omega)]
    rw [← hY, List.getElem?_drop, ← htk', List.getElem?_take, if_pos (by omega)] at hu
    rw [← hu]
    have e2 : j + q - (cur.toList.take i).length = (j + q - i - 1) + 1 := by rw [List.length_take]; omega
    rw [e2, List.getElem?_cons_succ, List.getElem?_drop]
    congr 1
    omega
  obtain ⟨C2, hC2⟩ : ∃ C2 : Array Value, (C1.toList.take i1 ++ (Y ++ C1.toList.drop (i1 + Y.length))).toArray = C2 := ⟨_, rfl⟩
  have hC2l : C2.toList = C1.toList.take i1 ++ (Y ++ C1.toList.drop (i1 + Y.length)) := by rw [← hC2]
  have hC2s : C2.size = cap := by rw [← Array.length_toList, hC2l]; simp; omega
  obtain ⟨W2, hW2⟩ : ∃ W2, W1.drew.setRow g C2 = W2 := ⟨_, rfl⟩
  have hg2 : W2.heap[g]? = some (.cells C2 65 (0, 0)) := by rw [← hW2]; exact setRow_heap W1.drew g C1 _ _ _ hg1
  have hcl := fun ty => Lib.run_clear_slice (P := Tryz.prog) W2 61 65 ty (.pointer none) Tryz.underlying61 (by intro w; kernel_rfl) rfl rfl g T (n - T) (cap - T) (by omega)
    (fun q hq => by
      have : W2.cell? ⟨g, T + q, none⟩ = C2[T + q]? := by simp [World.cell?, hg2]
      rw [this, Array.getElem?_eq_getElem (by rw [hC2s]; omega)]
      rfl) (fun q hq => by simp [World.frozen?, hg2])
  obtain ⟨W3, hW3⟩ : ∃ W3, W2.setCells g T (List.replicate (n - T) (.pointer none)) = W3 := ⟨_, rfl⟩
  rw [hW3] at hcl
  have hpost : ReplIs w g cap (ps.take i ++ p :: Y) (.returned (.slice (some ⟨g, 0, none⟩) T cap)) W3 := by
    have hl : (ps.take i ++ p :: Y).length = T := by rw [List.length_append, List.length_take, List.length_cons]; omega
    obtain ⟨cur', k1, k2, k3⟩ := setCells_heap g 65 (List.replicate (n - T) (.pointer none)) T W2 _ hg2 (by rw [List.length_replicate, hC2s]; omega)
    obtain ⟨t1, t2⟩ := setCells_turn g (List.replicate (n - T) (.pointer none)) T W2
    rw [hW3] at k1 t1 t2
    unfold ReplIs
    rw [hl]
    refine ⟨rfl, ⟨by rw [hl]; simp, .inr ⟨g, cap, cur', rfl, Nat.zero_le _, k1, by omega, hcm, by rw [k2, hC2s]; simp, ?_⟩⟩, (((hW1 ▸ setRow_turn g w C1 : Turn (fun k => k = g) w W1).trans (Turn.drew _)).trans (hW2 ▸ setRow_turn g W1.drew C2)).trans t1, by rw [t2, ← hW2, setRow_size, show W1.drew.heap.size = W1.heap.size from rfl, ← hW1, setRow_size]⟩
    rw [Nat.mul_one, k3, hC2l]
    have hti2 : cur.toList.take i = ps.take i := by rw [← htk', List.take_take, Nat.min_eq_left (by omega)]
    have e1 : C1.toList.take i1 = ps.take i ++ [p] := by
      rw [hC1l, ← hi1, hti2]
      have : i + 1 = (ps.take i).length + 1 := by rw [List.length_take]; omega
      rw [this, List.take_length_add_append]
      simp
    rw [e1]
    rw [show (ps.take i ++ [p]) ++ (Y ++ C1.toList.drop (i1 + Y.length)) = (ps.take i ++ p :: Y) ++ C1.toList.drop (i1 + Y.length) from by simp]
    exact List.take_left' hl
  rw [← hY] at hpost
  exact ⟨cur, C1, Y, W1, W2, W3, ⟨hg, hcs', by rw [hC1]; exact hW1, hg1, hC1s, hYl, hYc, fun u hu => h1s u (List.mem_of_mem_drop (hY ▸ hu)), by rw [hC2]; exact hW2, hpost⟩, hcl⟩

set_option maxRecDepth 100000 in
set_option maxHeartbeats 3200000 in
theorem replace_mid (w : World) (g n cap : Nat) (ps : List Value) (hown : w.ownsRow 0 65 1 (.slice (some ⟨g, 0, none⟩) n cap) n ps) (b : Nat) (p : Value) (hp : w.cell? ⟨b, 0, none⟩ = some p) (h1 : p.oneCell' = true) (h1s : ∀ u ∈ ps, u.oneCell' = true) (i j : Nat) (hi : i + 2 ≤ j) (hj : j < n) (hn : n ≤ 100000) :
    Calls Tryz.prog 44 #[.slice (some ⟨g, 0, none⟩) n cap, .int .i64 i, .int .i64 j, .slice (some ⟨b, 0, none⟩) 1 1] w (ReplIs w g cap (ps.take i ++ p :: ps.drop j)) := by
  obtain ⟨r, hr⟩ : ∃ r, n - j = r := ⟨_, rfl⟩
  obtain ⟨T, hT⟩ : ∃ T, i + 1 + r = T := ⟨_, rfl⟩
  obtain ⟨i1, hi1⟩ : ∃ i1, i + 1 = i1 := ⟨_, rfl⟩
  have hnc : n ≤ cap := by
    rcases hown.2 with ⟨h, -⟩ | ⟨g', cap', cur, e, -, hg, hnc, hcm, hcs, htk⟩
    · cases h
    · simp only [Value.slice.injEq] at e; omega
  have HR := fun q => Lib.hid (repl_facts (w.drewN q) g n cap ps hown p h1s i j r T i1 hi hj hr hT hi1)
  have hw1 : IntKind.i64.wrap ((i : Int) + 1) = (i1 : Int) := by rw [IntKind.wrap_i64]; omega
  have hw2 : IntKind.i64.wrap ((i1 : Int) + (r : Int)) = (T : Int) := by rw [IntKind.wrap_i64]; omega
  have hji : (i : Int) ≤ (j : Int) := by omega
  have hjn : (j : Int) ≤ (n : Int) := by omega
  have hij : ((i : Int) == (j : Int)) = false := by simp; omega
  have hjn2 : ((j : Int) == (n : Int)) = false := by simp; omega
  have hic : ¬ cap = i := by omega
  have hjc : ¬ cap = j := by omega
  have hTc : ¬ cap = T := by omega
  have hi1c : ¬ cap = i1 := by omega
  have hnc2 : (n : Int) ≤ (cap : Int) := by omega
  have hTn : (T : Int) ≤ (n : Int) := by omega
  have hTcap : (T : Int) ≤ (cap : Int) := by omega
  have hi1j : (i1 : Int) ≤ (j : Int) := by omega
  have hiT : (i : Int) ≤ (T : Int) := by omega
  have hi1T : (i1 : Int) ≤ (T : Int) := by omega
  have hmin1 : Hid (Nat.min 1 (T - i) = 1) := by unfold Hid; simp only [Nat.min_def]; split <;> omega
  have hmin2 : Hid (Nat.min r (T - i1) = r) := by unfold Hid; simp only [Nat.min_def]; split <;> omega
  have HX := Lib.hid hp
  have hb1 : Hid (i + 1 ≤ cap) := by unfold Hid; omega
  have hb2 : Hid (i1 + r ≤ cap) := by unfold Hid; omega
  clear hown h1s hT hi1 hp
  go_enter Tryz.func44, Tryz.ntmps44
  go_wp2
  go_quiet (fail)
  obtain ⟨cur, C1, Y, W1, W2, W3, hF, hcl⟩ := (HR nq).out
  have hcp1 := fun ty => run_copy_row (P := Tryz.prog) (w.drewN nq) 61 61 ty 65 g i (T - i) (cap - i) ⟨b, 0, none⟩ 1 1 cur _ [p] Tryz.underlying61 (by kernel_rfl) hF.cur0 hmin1.out.symm (fun q u hu => by
    match q, hu with
    | 0, hu => simp at hu; subst hu; simpa [Addr.add] using HX.out) (by rw [hF.size0]; exact hb1.out) (fun u hu => by simp at hu; subst hu; exact h1)
  have hcp2 := fun ty => run_copy_row (P := Tryz.prog) W1.drew 61 61 ty 65 g i1 (T - i1) (cap - i1) ⟨g, j, none⟩ (n - j) (cap - j) C1 _ Y Tryz.underlying61 (by kernel_rfl) hF.cur1 (by rw [hr, hmin2.out]; exact hF.len) hF.src (by rw [hF.size1, hF.len]; exact hb2.out) hF.one
  rw [List.append_assoc, hF.w1] at hcp1
  rw [List.append_assoc, hF.w2, hF.len, hr] at hcp2
  have HF := Lib.hid hF.post
  clear hF HR
  go_wp2
  go_region
  go_wp2
  go_ret
  obtain ⟨k1, k2, k3, k4⟩ := HF.out
  exact ⟨k1, k2, (Turn.drewN w nq).trans k3, k4⟩

/-- Two or more neighbours replaced by one. -/
theorem replace_any (w : World) (g n cap : Nat) (ps : List Value) (hown : w.ownsRow 0 65 1 (.slice (some ⟨g, 0, none⟩) n cap) n ps) (b : Nat) (p : Value) (hp : w.cell? ⟨b, 0, none⟩ = some p) (h1 : p.oneCell' = true) (h1s : ∀ u ∈ ps, u.oneCell' = true) (i j : Nat) (hi : i + 2 ≤ j) (hj : j ≤ n) (hn : n ≤ 100000) :
    Calls Tryz.prog 44 #[.slice (some ⟨g, 0, none⟩) n cap, .int .i64 i, .int .i64 j, .slice (some ⟨b, 0, none⟩) 1 1] w (ReplIs w g cap (ps.take i ++ p :: ps.drop j)) := by
  by_cases e : j = n
  · subst e
    have hpl : ps.length = j := by have := hown.1; omega
    rw [List.drop_eq_nil_of_le (by omega)]
    exact replace_end w g j cap ps hown b p hp h1 i hi hn
  · exact replace_mid w g n cap ps hown b p hp h1 h1s i j hi (by omega) hn
end Go.Proofs.YtadakaenbemedaaGreatDoor
