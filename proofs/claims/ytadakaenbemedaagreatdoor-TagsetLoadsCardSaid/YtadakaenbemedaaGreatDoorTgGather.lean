/-
  What all tiers tell, as one: ContainsFunc, gather; Has, From, Prefix of a set.
-/
import Derived.Test.YtadakaenbemedaaGreatDoorTgTiers
import Derived.Test.YtadakaenbemedaaGreatDoorKmC
namespace Go.Proofs.YtadakaenbemedaaGreatDoor
open Go.RowKit Go.Maps

theorem any_from {α : Type} {f : α → Bool} {ls : List α} {k : Nat} (h : k < ls.length) : (ls.drop k).any f = (f ls[k] || (ls.drop (k + 1)).any f) := by
  rw [List.drop_eq_getElem_cons h, List.any_cons]
set_option maxRecDepth 100000 in
set_option maxHeartbeats 800000 in
theorem IndexTier_any (A : Option Addr) (n c : Nat) (ts : List (List Item)) (hn : ts.length = n) (hn6 : n ≤ 1000000) (w : World) (hT : TiersAt w A ts) (Pb : Nat) (p : List Item → Bool)
    (hf : ∀ W v ls, Below w.heap.size w W → TierAt W v ls → Calls Tryz.prog 39 #[v, .pointer (some ⟨Pb, 0, none⟩)] W (Gives W (.bool (p ls)))) :
    Calls Tryz.prog 61 #[.slice A n c, .func (.func 39) #[] #[.pointer (some ⟨Pb, 0, none⟩)]] w fun e w' => ∃ r : Int, e = .returned (.int .i64 r) ∧ decide (0 ≤ r) = ts.any p ∧ Below w.heap.size w w' := by
  have HF := Lib.hid hf
  have HN := Lib.hid hn
  clear hf hn
  go_enter Tryz.func61, Tryz.ntmps61
  go_wp2
  go_loopg [8] n (fun g i wr => ∃ k : Nat, k + g = n ∧ i = .int .i64 k ∧ Hid (ts.any p = (ts.drop k).any p) ∧ Below w.heap.size w wr)
  case atStart => exact ⟨0, by omega, rfl, rfl, Below.refl _ _⟩
  case round =>
    obtain ⟨k, hk, rfl, heq, hb⟩ := hrel
    by_cases hlt : k < n
    · obtain ⟨ad, v, rfl, -, hcell, hTi⟩ := (hT.below hb).out k (by rw [HN.out]; exact hlt)
      have hstep := Lib.hid (heq.out.trans (any_from (ls := ts) (f := p) (k := k) (by rw [HN.out]; exact hlt)))
      have hC := Lib.hid (HF.out wr v _ hb hTi)
      obtain ⟨r, hr⟩ : ∃ r, p (ts[k]'(by rw [HN.out]; exact hlt)) = r := ⟨_, rfl⟩
      rw [hr] at hC hstep
      clear hr heq hTi
      cases r with
      | true =>
        have hT : Hid (ts.any p = true) := by unfold Hid; rw [hstep.out, Bool.true_or]
        clear hstep
        go_wp2_with fail
        refine hC.out.mono ?_
        rintro e w1 ⟨rfl, hb1⟩
        go_wp2
        go_ret
        exact ⟨_, rfl, by rw [hT.out]; exact decide_eq_true (by omega), hb.trans (hb1.mono hb.size)⟩
      | false =>
        have hT : Hid (ts.any p = (ts.drop (k + 1)).any p) := by unfold Hid; rw [hstep.out, Bool.false_or]
        clear hstep
        go_wp2_with fail
        refine hC.out.mono ?_
        rintro e w1 ⟨rfl, hb1⟩
        go_wp2
        go_roundg (n - (k + 1))
        case measure => omega
        case rel => exact ⟨k + 1, by omega, by go_num, hT, hb.trans (hb1.mono hb.size)⟩
    · have hT : Hid (ts.any p = false) := by unfold Hid; rw [heq.out, List.drop_eq_nil_of_le (by rw [HN.out]; omega)]; rfl
      clear heq
      go_wp2
      go_ret
      exact ⟨_, rfl, by rw [hT.out]; rfl, hb⟩

set_option maxRecDepth 100000 in
set_option maxHeartbeats 800000 in
theorem ContainsTier_any (A : Option Addr) (n c : Nat) (ts : List (List Item)) (hn : ts.length = n) (hn6 : n ≤ 1000000) (w : World) (hT : TiersAt w A ts) (Pb : Nat) (p : List Item → Bool)
    (hf : ∀ W v ls, Below w.heap.size w W → TierAt W v ls → Calls Tryz.prog 39 #[v, .pointer (some ⟨Pb, 0, none⟩)] W (Gives W (.bool (p ls)))) :
    Calls Tryz.prog 37 #[.slice A n c, .func (.func 39) #[] #[.pointer (some ⟨Pb, 0, none⟩)]] w (Gives w (.bool (ts.any p))) := by
  have hI := Lib.hid (IndexTier_any A n c ts hn hn6 w hT Pb p hf)
  obtain ⟨r, hr⟩ : ∃ r, ts.any p = r := ⟨_, rfl⟩
  rw [hr] at hI ⊢
  clear hr hf hT hn
  go_enter Tryz.func37, Tryz.ntmps37
  go_wp2_with fail
  refine hI.out.mono ?_
  rintro e w1 ⟨i, rfl, hi, hb⟩
  have HI := Lib.hid hi
  clear hi
  go_wp2
  go_ret
  refine ⟨ret_bool ?_, hb⟩
  rw [← HI.out]

/-- Whether an item is there, of tiers that are told. -/
theorem Has_of_tiers (p : Option Addr) (w : World) (ts : List (List Item)) (Bx : Option Addr) (lx dx : Nat) (x : Item) (hxl : x.length = lx) (hlx : lx ≤ 1000000) (hx : Sees w w.heap.size Bx (bv x)) (hts : ts.length ≤ 1000000)
    (ht : ∀ W, Below w.heap.size w W → Calls Tryz.prog 38 #[.pointer p] W (TiersIs W ts)) :
    Calls Tryz.prog 19 #[.pointer p, .slice Bx lx dx] w (Gives w (.bool (ts.any fun f => decide (x ∈ f)))) := by
  obtain ⟨wb, hwb⟩ : ∃ wb, w.alloc (.cells #[.slice Bx lx dx] 27) = wb := ⟨_, rfl⟩
  have hbb : Below w.heap.size w wb := by rw [← hwb]; exact (Below.refl _ w).alloc (Nat.le_refl _) _
  have hzb : wb.heap.size = w.heap.size + 1 := by rw [← hwb]; simp
  have bb : Box1 wb w.heap.size 27 (.slice Bx lx dx) := by rw [← hwb]; exact Box1.new w _ _
  have hS := Lib.hid (ht wb hbb)
  have HXB := Lib.hid (hx.below hbb)
  have HXL := Lib.hid hxl
  have HTS := Lib.hid hts
  obtain ⟨r, hr⟩ : ∃ r, (ts.any fun f => decide (x ∈ f)) = r := ⟨_, rfl⟩
  rw [hr]
  have HR := Lib.hid hr
  clear ht hx hxl hr hts
  go_enter Tryz.func19, Tryz.ntmps19
  go_wp2_with fail
  refine hS.out.mono ?_
  rintro e w1 ⟨A, c, rfl, hT, hb1⟩
  have hs1 := hb1.size
  have b1 := bb.below hb1 bb.lt
  have hC := Lib.hid (ContainsTier_any A ts.length c ts rfl HTS.out w1 hT w.heap.size (fun f => decide (x ∈ f)) fun W v ls hW hTi =>
    has1_any hTi HXL.out hlx (b1.below hW b1.lt).cell (((HXB.out.below (hb1.mono (by omega))).below (hW.mono (by omega))).more (by have := hW.size; omega)))
  rw [HR.out] at hC
  clear hS hT
  go_wp2_with fail
  refine hC.out.mono ?_
  rintro e w2 ⟨rfl, hb2⟩
  go_wp2
  go_ret
  exact ⟨rfl, hbb.trans ((hb1.trans (hb2.mono hs1)).mono (by omega))⟩

/-- Rows of items in a row of the call's own, all in new blocks, the rows not in the row's own. -/
structure PileS (n1 : Nat) (w : World) (v : Value) (L : List (List Item)) : Prop where
  out : ∃ vs : List Value, w.ownsRow n1 31 1 v L.length vs ∧ ∀ i (hi : i < L.length), ∃ Ai ci, vs[i]? = some (.slice Ai (L[i]).length ci) ∧ (L[i]).length ≤ ci ∧ Sees2M (fun k => n1 ≤ k ∧ k < w.heap.size ∧ v.ownBlock ≠ some k) w Ai L[i]
  low : n1 ≤ w.heap.size
section
variable {n1 : Nat} {w w' w2 w3 : World} {v v' : Value} {L : List (List Item)} {x : List Item}
theorem PileS.nil (w : World) (n1 : Nat) (hl : n1 ≤ w.heap.size) : PileS n1 w (.slice none 0 0) [] := ⟨⟨[], World.ownsRow_nil _ _ _ _, fun i hi => absurd hi (by simp)⟩, hl⟩
theorem PileS.push {A1 : Option Addr} {c1 : Nat} (h : PileS n1 w v L) (hb : Below w.heap.size w w2) (hx : Sees2M (fun k => w.heap.size ≤ k ∧ k < w2.heap.size) w2 A1 x) (hxc : x.length ≤ c1)
    (vs : List Value) (hvs : w.ownsRow n1 31 1 v L.length vs)
    (hvs2 : ∀ i (hi : i < L.length), ∃ Ai ci, vs[i]? = some (.slice Ai (L[i]).length ci) ∧ (L[i]).length ≤ ci ∧ Sees2M (fun k => n1 ≤ k ∧ k < w.heap.size ∧ v.ownBlock ≠ some k) w Ai L[i])
    (hown : w3.ownsRow n1 31 1 v' (L.length + 1) (vs ++ [.slice A1 x.length c1])) (hon : Onto w2 w3 v v') : PileS n1 w3 v' (L ++ [x]) := by
  have hs := hb.size
  have hs3 := hon.size
  have hlow := h.low
  have hlen : vs.length = L.length := by have := hvs.1; omega
  have hvl := World.ownsRow.lt hvs
  have hv' : ∀ k, k < w2.heap.size → v.ownBlock ≠ some k → v'.ownBlock ≠ some k := fun k hk hne e => by
    rcases hon.at_ with e2 | ⟨g, e2, hg⟩
    · exact hne (e2 ▸ e)
    · rw [e2] at e; injection e with e; omega
  have hk23 : ∀ k, k < w2.heap.size → v.ownBlock ≠ some k → w3.heap[k]? = w2.heap[k]? := fun k a b => hon.grown.block k a (fun e => b e.symm)
  refine ⟨⟨vs ++ [.slice A1 x.length c1], by rw [List.length_append]; exact hown, fun i hi => ?_⟩, by omega⟩
  by_cases hlt : i < L.length
  · obtain ⟨Ai, ci, g1, g2, g3⟩ := hvs2 i hlt
    rw [List.getElem_append_left hlt, List.getElem?_append_left (by omega)]
    exact ⟨Ai, ci, g1, g2, (g3.keep fun k e => (hk23 k (by omega) e.2.2).trans (hb.block k e.2.1)).mono fun k e => ⟨e.1, by omega, hv' k (by omega) e.2.2⟩⟩
  · have he : i = L.length := by simp at hi; omega
    subst he
    rw [List.getElem_append_right (Nat.le_refl _), List.getElem?_append_right (by omega)]
    refine ⟨A1, c1, by simp [hlen], by simpa using hxc, ?_⟩
    simp only [Nat.sub_self, List.getElem_cons_zero]
    have hne : ∀ k, w.heap.size ≤ k → v.ownBlock ≠ some k := fun k hk e => by have := (hvl k e).2; omega
    exact (hx.keep fun k e => hk23 k e.2 (hne k e.1)).mono fun k e => ⟨by omega, by omega, hv' k e.2 (hne k e.1)⟩
theorem PileS.sees (h : PileS n1 w v L) : ∃ A c, v = .slice A L.length c ∧ L.length ≤ c ∧ Sees3 w w.heap.size A L := by
  obtain ⟨vs, h1, h2⟩ := h.out
  rcases h1.2 with ⟨rfl, hn⟩ | ⟨g, cap, cur, rfl, -, hh, hc, -⟩
  · have : L = [] := List.eq_nil_of_length_eq_zero hn
    subst this
    exact ⟨none, 0, rfl, by simp, ⟨fun i hi => absurd hi (by simp)⟩⟩
  · refine ⟨_, cap, rfl, hc, ⟨fun i hi => ?_⟩⟩
    obtain ⟨Ai, ci, g1, g2, g3⟩ := h2 i hi
    exact ⟨_, Ai, ci, rfl, (Array.getElem?_eq_some_iff.1 hh).1, h1.cells (g := g) rfl i _ g1, g2, g3.sees fun k e => e.2.1⟩
end
/-- A row of items of the call's own, in new blocks. -/
def QIs (w : World) (ls : List Item) (e : Ending) (w' : World) : Prop := ∃ v, e = .returned v ∧ OwnQ (fun k => w.heap.size ≤ k ∧ k < w'.heap.size) w' w.heap.size v ls ∧ Below w.heap.size w w'
theorem Items_q (A : Option Addr) (n c : Nat) (ll : List (List Item)) (w : World) (hS : Sees3 w w.heap.size A ll) (hn : ll.length = n) (hn6 : n ≤ 1000) (hf : ll.flatten.length ≤ 10000) (hy : ∀ r ∈ ll, ∀ y ∈ r, y.length ≤ 1000) :
    Calls Tryz.prog 43 #[.slice A n c] w (QIs w (uniqL ahead ll.flatten)) := by
  obtain ⟨LL, rfl, hR⟩ := KB.rows_of hS
  have hf2 : LL.flatten.length ≤ 10000 := by rw [KB.keysOf_flat, List.length_map] at hf; exact hf
  rw [KB.keysOf_flat]
  have hl : ∀ r ∈ LL, r.length ≤ 10000 := fun r hr => by
    have := List.Sublist.length_le (List.sublist_flatten_of_mem hr)
    omega
  exact KB.Items_own A n c LL w hR (by rw [← hn]; simp [KB.keysOf]) (by omega) (fun r hr => by have := hl r hr; omega) (by omega) fun r hr y hyr => by
    have : y.1.length ≤ 1000 := hy _ (List.mem_map_of_mem hr) _ (List.mem_map_of_mem hyr)
    omega

set_option maxRecDepth 100000 in
set_option maxHeartbeats 1600000 in
theorem gather_of (p : Option Addr) (w : World) (ts : List (List Item)) (g : FuncId) (lb : Array Value) (eg : ∀ args w, (callFunc g args).run Tryz.prog w = .ok (.enter g args) w) (R : List Item → List Item) (hts : ts.length ≤ 1000)
    (ht : Calls Tryz.prog 38 #[.pointer p] w (TiersIs w ts))
    (hf : ∀ W v ls, Below w.heap.size w W → ls ∈ ts → TierAt W v ls → Calls Tryz.prog g (#[v] ++ lb) W (RowS W (R ls)))
    (hfl : (ts.map R).flatten.length ≤ 10000) (hy : ∀ r ∈ ts.map R, ∀ y ∈ r, y.length ≤ 1000) :
    Calls Tryz.prog 31 #[.pointer p, .func (.func g) #[] lb] w (QIs w (uniqL ahead (ts.map R).flatten)) := by
  have HF := Lib.hid hf
  have HT := Lib.hid ht
  have HFL := Lib.hid hfl
  have HY := Lib.hid hy
  obtain ⟨X, hX⟩ : ∃ X, uniqL ahead (ts.map R).flatten = X := ⟨_, rfl⟩
  rw [hX]
  have HX := Lib.hid hX
  obtain ⟨n, hn⟩ : ∃ n, ts.length = n := ⟨_, rfl⟩
  have HN := Lib.hid hn
  rw [hn] at hts
  clear hf ht hfl hy hX hn
  go_enter Tryz.func31, Tryz.ntmps31
  go_wp2_with fail
  refine HT.out.mono ?_
  rintro e w1 ⟨A, c, rfl, hT1, hb1⟩
  have hs1 := hb1.size
  rw [HN.out]
  clear HT
  go_wp2
  go_loopg [5, 11] n (fun g u i wr => ∃ k : Nat, k + g = n ∧ i = .int .i64 k ∧ PileS w1.heap.size wr u ((ts.map R).take k) ∧ Below w1.heap.size w1 wr)
  case atStart => exact ⟨0, by omega, rfl, PileS.nil _ _ (Nat.le_refl _), Below.refl _ _⟩
  case round =>
    obtain ⟨k, hk, rfl, hP, hb⟩ := hrel
    have hbs := hb.size
    obtain ⟨vs, hvs, hvs2⟩ := hP.out
    by_cases hlt : k < n
    · obtain ⟨ad, v, rfl, -, hcell, hTi⟩ := (hT1.below hb).out k (by rw [HN.out]; exact hlt)
      have hC := Lib.hid (HF.out wr v _ (hb1.trans (hb.mono hs1)) (List.getElem_mem _) hTi)
      have hT2 : Hid ((ts.map R).take (k + 1) = (ts.map R).take k ++ [R (ts[k]'(by rw [HN.out]; exact hlt))]) := by
        unfold Hid
        rw [List.take_succ_eq_append_getElem (by rw [List.length_map, HN.out]; exact hlt), List.getElem_map]
      obtain ⟨Y, hY⟩ : ∃ Y, R (ts[k]'(by rw [HN.out]; exact hlt)) = Y := ⟨_, rfl⟩
      rw [hY] at hC hT2
      obtain ⟨tk, htk⟩ : ∃ tk, (ts.map R).take k = tk := ⟨_, rfl⟩
      have htl : tk.length = k := by rw [← htk, List.length_take, List.length_map, HN.out]; omega
      rw [htk] at hP hvs hvs2 hT2
      have HTL := Lib.hid htl
      clear hY htk hTi htl
      go_wp2_with fail
      refine hC.out.mono ?_
      rintro e w2 ⟨A2, c2, rfl, h1, h2, hb2⟩
      have hs2 := hb2.size
      clear hC
      go_wp2_with (at_builtin; (refine wpList_append_p rfl (.tmp 15) (.tmp 19) rfl w1.heap.size _ tk.length vs (by rfl) (own_below hvs (hb2.trans ((Below.refl _ w2).alloc hs2 (.cells #[.slice A2 Y.length c2] 31)))) (w2.heap.size + 1) (some ⟨w2.heap.size, 0, none⟩) (.slice A2 Y.length c2) (by rfl) (sees_cell w2 _ rfl _ _) rfl (by have := HTL.out; omega) (by simp; omega) ?_; intro v3 w3 hown3 hon3))
      have hP3 := hP.push (hb2.trans ((Below.refl _ w2).alloc hs2 (.cells #[.slice A2 Y.length c2] 31))) ((h2.keep (Kept.of_below ((Below.refl _ w2).alloc (Nat.le_refl _) _) fun k e => e.2)).mono fun k e => ⟨e.1, by simp; omega⟩) h1 vs hvs hvs2 hown3 hon3
      have hb3 : Below w1.heap.size w1 w3 := hb.trans ((hb2.mono hbs).trans (((Below.refl _ w2).alloc (by omega) _).trans (hon3.below (by simp; omega) fun g e => (World.ownsRow.lt hvs g e).1)))
      go_roundg (n - (k + 1))
      case measure => omega
      case rel => exact ⟨k + 1, by omega, by go_num, by rw [hT2.out]; exact hP3, hb3⟩
    · obtain rfl : k = n := by omega
      have hE : Hid ((ts.map R).take k = ts.map R) := by unfold Hid; rw [List.take_of_length_le (by rw [List.length_map, HN.out]; exact Nat.le_refl _)]
      rw [hE.out] at hP
      obtain ⟨Al, cl, rfl, hcl, hS3⟩ := hP.sees
      have hlm : (ts.map R).length = k := by rw [List.length_map, HN.out]
      have hI := Lib.hid (Items_q Al k cl (ts.map R) wr hS3 hlm hts HFL.out HY.out)
      rw [HX.out] at hI
      rw [hlm] at *
      clear hP hvs hvs2
      go_wp2_with fail
      refine hI.out.mono ?_
      rintro e w2 ⟨v2, rfl, hQ, hb2⟩
      have hs12 : w.heap.size ≤ wr.heap.size := by omega
      obtain ⟨A2, c2, rfl, hc2, -⟩ := hQ.open_
      go_wp2
      go_ret
      exact ⟨_, rfl, (hQ.mono fun k e => ⟨by omega, e.2⟩).base_le hs12, (hb1.trans (hb.mono hs1)).trans (hb2.mono hs12)⟩
end Go.Proofs.YtadakaenbemedaaGreatDoor
