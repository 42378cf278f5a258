/-
  sorted: the paths, rising: the iterator, walked.
-/
import Derived.Test.YteidkmiladkoiaaDoorSmAppend
import Derived.Shelf.SlIter.Nil
import Derived.Shelf.SortM.Plain
import Derived.Shelf.SortM.SortNone
import Derived.Sort.KeysCollected
import Derived.Maps.OwnSet
namespace Go.Proofs.YteidkmiladkoiaaDoor
open Go.RowKit Go.Maps Go.Sort Go.Shelf
open Go.WideElems (Fit rd rg pl rd_mk rg_of)

attribute [local go_sem] Oper.semAt_some

theorem sortsM (m : Nat) : AnyZ.SortsIn Tryd.prog Tryd.sortedM_ren Fence.wide m :=
  ⟨fun blk off cap ss W hH hblk hsz => callsIn_wide.2 (AnyM.slices_Sort_string Tryd.sortM blk off cap ss W hH hblk hsz),
   fun p cap W => callsIn_wide.2 (AnyM.slices_Sort_string_none Tryd.sortM p cap W)⟩
theorem maps_Keys_M (mb : Option Nat) (W : World) : CallsIn Fence.wide 5 Tryd.prog 35 #[.map mb] W fun e w' => e = .returned (.func (.func 46) #[] #[.pointer (some ⟨W.heap.size, 0, none⟩)]) ∧ w' = W.alloc (.cells #[.map mb] 44) :=
  AnyZ.keys_in Tryd.keysM Fence.wide 5 trivial rfl mb W
set_option maxHeartbeats 1000000 in
theorem slices_Sorted_M {H : Type} (b nn : Nat) (D0 : DataW H) (R : Value → Option (DataW H × List MemPlace)) (w : World) (hown : w.ownsMap Tryd.prog 9 R b nn D0) (hmax : Maps.size D0 ≤ maxLen) (hbytes : Maps.size D0 * 16 ≤ 140737488355328) :
    CallsIn Fence.wide 5 Tryd.prog 34 #[.func (.func 46) #[] #[.pointer (some ⟨w.heap.size, 0, none⟩)]] (w.alloc (.cells #[.map (some b)] 44)) fun e w' => ∃ (v : Value) (ss : List (List UInt8)), e = .returned v ∧ ss.Perm (strKeys D0) ∧
      w'.ownsRow (w.alloc (.cells #[.map (some b)] 44)).heap.size 9 1 v ss.length ((ss.mergeSort (fun x y => decide (x ≤ y))).map encStr) ∧ (v = .slice none 0 0 ↔ ss = []) ∧ Below (w.alloc (.cells #[.map (some b)] 44)).heap.size (w.alloc (.cells #[.map (some b)] 44)) w' := by
  have hbl := hown.lt
  have hseq : SeqGives Fence.wide 2 Tryd.prog 46 #[.pointer (some ⟨w.heap.size, 0, none⟩)] encStr (fun ss => ss.Perm (strKeys D0)) (Maps.size D0) (w.alloc (.cells #[.map (some b)] 44)) :=
    AnyZ.keys_gives (ρ := Tryd.keysM_ren) { Tryd.keysM with } Fence.wide _ trivial rfl (by omega) w.heap.size b nn D0 _ (by simp) (by simp) (by
      obtain ⟨es, clock, hb, Ft, hs, hD⟩ := hown
      exact ⟨es, clock, (Below.heap_alloc _ _ b hbl).trans hb, Ft, hs, hD⟩)
  exact AnyZ.sorted_in Tryd.sortedM Fence.wide 5 trivial trivial trivial trivial rfl (by omega) (sortsM _) (enters_of Tryd.func45 (by kernel_rfl) rfl) 46 #[.pointer (some ⟨w.heap.size, 0, none⟩)] trivial (enters_of Tryd.func46 (by kernel_rfl) rfl) _ _ hmax hbytes _ hseq

theorem str_size (l : Txt) : (strOf l).size = l.length := by simp [strOf, ByteArray.size]
/-- How the map's values read: not at all. -/
def anyEl : Value → Option (DataW Unit × List MemPlace) := fun _ => some (.lit (.bool true), [])
theorem dir_owns {w : World} {b : Nat} {F : Nat → Nat} {d : Dir} (h : MapIs w b (d.map (pv F))) (hp : ∀ x ∈ d, x.1.length ≤ 24) (hl : d.length ≤ 100000) :
    ∃ D : DataW Unit, w.ownsMap Tryd.prog 9 anyEl b d.length D ∧ (d.map (·.1)).Perm (strKeys D) ∧ Maps.size D = d.length := by
  obtain ⟨es, clock, hb, h2, h3⟩ := h.out
  have hlen : es.size = d.length := by have := h3.length_eq; simpa using this
  have hrd : ∀ x ∈ es.toList, ∃ p ∈ d, kvOf x = pv F p ∧ Go.WideElems.rd Tryd.prog 9 anyEl x = some (.string p.1, .lit (.bool true)) := fun x hx => by
    obtain ⟨p, hpd, hpe⟩ := List.mem_map.1 (h3.mem_iff.1 (List.mem_map_of_mem (f := kvOf) hx))
    have hk : x.key = .string (strOf p.1) := (congrArg Prod.fst hpe).symm
    have hkey : keyOf Tryd.prog 9 (.string (strOf p.1)) = some (.string p.1) := WideMaps.keyOf_string_mk Tryd.underlying9 (by rw [str_size]; have := hp p hpd; simp only [maxLen]; omega)
    refine ⟨p, hpd, hpe.symm, ?_⟩
    unfold Go.WideElems.rd
    rw [hk, hkey]
    rfl
  have hsz : Maps.size (DataW.map ((es.toList.map (rg Tryd.prog 9 anyEl)).foldr DataW.insert [])) = d.length := by simp [Maps.size, length_sorted, hlen]
  refine ⟨_, ⟨es, clock, hb, ⟨by rw [hlen]; simp only [maxLen]; omega, h2, fun x hx => by obtain ⟨p, -, -, e⟩ := hrd x hx; exact ⟨_, e⟩⟩, by omega, rfl⟩, ?_, hsz⟩
  have h4 : (strKeys (DataW.map ((es.toList.map (rg Tryd.prog 9 anyEl)).foldr DataW.insert []))).Perm ((es.toList.map (rg Tryd.prog 9 anyEl)).map fun p => Go.strOf p.1) := (WideShapes.sorted_perm _).map _
  refine List.Perm.trans ?_ h4.symm
  have h5 : (es.toList.map (rg Tryd.prog 9 anyEl)).map (fun p => Go.strOf p.1) = (es.toList.map kvOf).map fun q => match q.1 with | .string s => s.toList | _ => [] := by
    rw [List.map_map, List.map_map]
    refine List.map_congr_left fun x hx => ?_
    obtain ⟨p, -, e1, e2⟩ := hrd x hx
    simp only [Function.comp, rg_of e2, e1, pv]
    rw [strOf_toList]
    rfl
  rw [h5]
  have h6 : (d.map (pv F)).map (fun q : Value × Value => match q.1 with | .string s => s.toList | _ => []) = d.map (·.1) := by
    rw [List.map_map]
    refine List.map_congr_left fun x _ => ?_
    simp only [Function.comp, pv]
    exact strOf_toList x.1
  rw [← h6]
  exact (h3.map _).symm

theorem mergeSort_rises {l : List Txt} {d : Dir} (hp : l.Perm (d.map (·.1))) (h : RiD d) : l.mergeSort (fun x y => decide (x ≤ y)) = d.map (·.1) := by
  have h1 := mergeSort_of_perm hp
  unfold leB at h1
  rw [h1]
  refine List.mergeSort_of_pairwise ?_
  rw [List.pairwise_map]
  exact h.imp fun {x y} e => decide_eq_true (List.le_of_lt e)
/-- slices.Sorted(maps.Keys(m)): the paths. -/
theorem Sorted_dir {w : World} {b : Nat} {F : Nat → Nat} {d : Dir} (h : MapIs w b (d.map (pv F))) (hr : RiD d) (hp : ∀ x ∈ d, x.1.length ≤ 24) (hl : d.length ≤ 100000) :
    Calls Tryd.prog 34 #[.func (.func 46) #[] #[.pointer (some ⟨w.heap.size, 0, none⟩)]] (w.alloc (.cells #[.map (some b)] 44)) fun e w' => ∃ A c, e = .returned (.slice A d.length c) ∧ SeesM (fun k => w.heap.size ≤ k ∧ k < w'.heap.size) w' A ((d.map (·.1)).map encStr) ∧ Below w.heap.size w w' := by
  obtain ⟨D, h1, h2, h3⟩ := dir_owns h hp hl
  refine (callsIn_wide.1 (slices_Sorted_M b _ D _ w h1 (by rw [h3]; simp only [maxLen]; omega) (by rw [h3]; omega))).mono ?_
  rintro e w' ⟨v, ss, rfl, hss, hrow, -, hb⟩
  have hpm : ss.Perm (d.map (·.1)) := hss.trans h2.symm
  rw [mergeSort_rises hpm hr, hpm.length_eq, List.length_map] at hrow
  have hb2 : Below w.heap.size w w' := ((Below.refl _ w).alloc (Nat.le_refl _) _).trans (hb.mono (by simp))
  obtain ⟨A, c, rfl, -, -⟩ := row_open hrow
  refine ⟨A, c, rfl, ?_, hb2⟩
  rcases (Sees.of_own hrow).out with e | ⟨ad, e1, e2, e3⟩
  · exact ⟨.inl e⟩
  · refine ⟨.inr ⟨ad, e1, ⟨?_, e2⟩, e3⟩⟩
    have := (World.ownsRow.lt hrow ad.block (by rw [e1]; rfl)).1
    simp at this
    omega

/-- The blocks that the iterator reads. -/
def listR (c : Nat → Nat) (B1 : Nat) : Nat → Prop := fun k => c k ≠ 0 ∨ k = B1

set_option maxRecDepth 100000 in
set_option maxHeartbeats 3200000 in
theorem sorted1_seq {N : Nat} {c F : Nat → Nat} {w : World} {f : Nat} {S : FsM} (h : FsAt c F w f S) (hO : FsOk N S) (hN : N ≤ 100000) (B1 : Nat) (h1 : w.cell? ⟨B1, 0, none⟩ = some (.pointer (some ⟨f, 0, none⟩))) (hB1 : B1 < w.heap.size) (n : Nat) :
    SeqT Fence.wide n Tryd.prog 33 #[.pointer (some ⟨B1, 0, none⟩)] (fun p : Txt => #[.string (strOf p)]) (listR c B1) (fun _ => False) (fun _ _ _ _ => True) (fun xs => xs = S.now.map (·.1)) (fun _ => True) S.now.length w := by
  intro l J Jx W hW hJ hJx hY h0
  have hAt := h.below hW
  have h1W := (hW.cell (p := ⟨B1, 0, none⟩) hB1).trans h1
  have hlW := hW.size
  obtain ⟨bn, bk, A0, n0, -, d1, -, -, -, -, hcb, -, h8, -⟩ := hAt.open_
  have hK := Lib.hid (callsIn_wide.1 (maps_Keys_M (some bn) W))
  have hS := Lib.hid (Sorted_dir h8 hO.nowR hO.nowP (Nat.le_trans hO.nowN hN))
  obtain ⟨m, hm⟩ : ∃ m, S.now.length = m := ⟨_, rfl⟩
  rw [hm] at hS hY
  have HM := Lib.hid hm
  have hmN : m ≤ 100000 := by rw [← hm]; exact Nat.le_trans hO.nowN hN
  have hfl : f < W.heap.size := hAt.lt f (by have := hAt.col; omega)
  have HR : Hid (∀ k, listR c B1 k → k < W.heap.size) := fun k hk => by
    rcases hk with hk | rfl
    · exact hAt.lt k hk
    · omega
  clear h h1 hAt h8 hO hm hN hW hlW hB1
  refine callsIn_of_wp Tryd.func33 rfl trivial ?_ rfl
  simp only [Tryd.ntmps33, List.size_toArray, List.length_cons, List.length_nil, Nat.reduceAdd, Nat.reduceSub, Array.replicate_succ, Array.replicate_zero, List.push_toArray, List.append_toArray, List.nil_append, List.cons_append]
  gi_wp2_with fail
  refine ⟨trivial, fun h => absurd h (by simp [Fence.wide]), (callsIn_wide.2 hK.out).mono ?_⟩
  rintro e w1 ⟨rfl, rfl⟩
  gi_wp2_with fail
  refine ⟨trivial, fun h => absurd h (by simp [Fence.wide]), (callsIn_wide.2 hS.out).mono ?_⟩
  rintro e w2 ⟨A, cA, rfl, hA, hb2⟩
  have hs2 := hb2.size
  obtain ⟨s2, hs2e⟩ : ∃ s2, grown (fun _ => False) W w2 = s2 := ⟨_, rfl⟩
  have hJ0 := hJ _ _ _ _ h0 (Turn.of_new hb2)
  rw [hs2e] at hJ0
  have hs2i : Hid (∀ k, s2 k ↔ (W.heap.size ≤ k ∧ k < w2.heap.size)) := fun k => by rw [← hs2e]; unfold grown; simp
  have HA := Lib.hid hA
  clear hK hS hA hs2e h0
  gi_wp2_with fail
  gi_loopg [14] m (fun g i wr => ∃ k : Nat, k + g = m ∧ i = .int .i64 k ∧ J s2 ((S.now.map (·.1)).take k) wr ∧ Kept s2 w2 wr ∧ w2.heap.size ≤ wr.heap.size)
  case atStart => exact ⟨0, by omega, rfl, by rw [List.take_zero]; exact hJ0, Kept.refl _ _, Nat.le_refl _⟩
  case round =>
    obtain ⟨k, hk, rfl, hJk, hkp, hsz⟩ := hrel
    clear hJ0
    by_cases hlt : k < m
    · have hkl : k < S.now.length := by rw [HM.out]; exact hlt
      have hsee := (HA.out.mono (m' := s2) fun j e => (hs2i.out j).2 e).keep hkp
      obtain ⟨ad, rfl, hadq, hcell⟩ : ∃ ad, A = some ad ∧ s2 ad.block ∧ wr.cell? (ad.add k) = some (.string (strOf (S.now[k]'hkl).1)) := by
        rcases hsee.out with e | ⟨ad, e1, e2, e3⟩
        · have := congrArg List.length e
          simp at this
          rw [this] at hkl
          simp at hkl
        · exact ⟨ad, e1, e2, e3 k _ (by rw [List.getElem?_map, List.getElem?_map, List.getElem?_eq_getElem hkl]; rfl)⟩
      have hT := Lib.hid (show (S.now.map (·.1)).take (k + 1) = (S.now.map (·.1)).take k ++ [(S.now[k]'hkl).1] by rw [List.take_succ_eq_append_getElem (by simpa using hkl), List.getElem_map])
      have hpl : ((S.now.map (·.1)).take k).length = k := by rw [List.length_take, List.length_map]; omega
      obtain ⟨x, hx⟩ : ∃ x, (S.now[k]'hkl).1 = x := ⟨_, rfl⟩
      rw [hx] at hcell hT
      have hY1 := hY s2 ((S.now.map (·.1)).take k) x wr hJk (by rw [hpl]; exact hlt) trivial
      obtain ⟨fn, tmps, assign, body, hyy, hR⟩ := hY1
      try dsimp only at hyy
      clear hx hpl hkl hsee
      gi_wp2_with fail
      refine ⟨fun h => absurd h (by simp [Fence.wide]), hR.mono ?_⟩
      rintro e w4 (⟨rfl, hJ4, ht4⟩ | ⟨rfl, hJx4, -⟩)
      · have hk4 : Kept s2 wr w4 := Kept.of_turn ht4 (fun j hj => ⟨by have := (hs2i.out j).1 hj; omega, fun e => e.1 hj⟩)
        have HJ4 := Lib.hid hJ4
        have hs4 := ht4.size
        clear hJ4 ht4
        gi_wp2_with fail
        gi_roundg (m - (k + 1))
        case measure => omega
        case rel => exact ⟨k + 1, by omega, by go_num, by rw [hT.out]; exact HJ4.out, hkp.trans hk4, Nat.le_trans hsz hs4⟩
      · gi_wp2_with fail
        refine bodyPost_ret (results_none rfl _ _ _) rfl ?_
        exact ⟨⟨_, rfl⟩, .inr ⟨s2, _, trivial, hJx4⟩⟩
    · have hke : k = m := by omega
      have HJ4 := Lib.hid hJk
      clear hJk
      gi_wp2_with fail
      go_end0
      refine ⟨⟨_, rfl⟩, .inl ⟨s2, _, rfl, ?_⟩⟩
      have := HJ4.out
      rw [List.take_of_length_le (by rw [List.length_map, HM.out]; omega)] at this
      exact this
end Go.Proofs.YteidkmiladkoiaaDoor
