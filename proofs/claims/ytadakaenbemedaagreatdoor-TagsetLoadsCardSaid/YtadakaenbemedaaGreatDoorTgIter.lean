/-
  slices.Sorted(maps.Keys(m)) at this program: the shelf's contracts, laid (the first three theorems are as the kit's lay-iter prints them).
-/
import Derived.Shelf.SlIter.Nil
import Derived.Shelf.SortM.Plain
import Derived.Shelf.SortM.SortNone
import Derived.Test.YtadakaenbemedaaGreatDoorShelf
import Derived.Test.YtadakaenbemedaaGreatDoorTgAt
namespace Go.Proofs.YtadakaenbemedaaGreatDoor
open Go.RowKit Go.Maps Go.Sort Go.Shelf

/-- slices.Sort's two contracts at this dump, at the fence that asks nothing. -/
theorem sortsM (m : Nat) : AnyZ.SortsIn Tryz.prog Tryz.sortedM_ren Fence.wide m :=
  ⟨fun blk off cap ss W hH hblk hsz => callsIn_wide.2 (AnyM.slices_Sort_string Tryz.sortM blk off cap ss W hH hblk hsz),
   fun p cap W => callsIn_wide.2 (AnyM.slices_Sort_string_none Tryz.sortM p cap W)⟩

/-- **maps.Keys[esker/tagset.memory,string,bool], at whatever map, the nil one too:** a function value over ONE NEW BLOCK, which holds the map. -/
theorem maps_Keys_M (mb : Option Nat) (W : World) : CallsIn Fence.wide 5 Tryz.prog 56 #[.map mb] W fun e w' => e = .returned (.func (.func 85) #[] #[.pointer (some ⟨W.heap.size, 0, none⟩)]) ∧ w' = W.alloc (.cells #[.map mb] 60) :=
  AnyZ.keys_in Tryz.keysM Fence.wide 5 trivial rfl mb W

set_option maxHeartbeats 1000000 in
/-- **slices.Sorted[string] AT WHAT maps.Keys[esker/tagset.memory,string,bool] HANDED BACK FOR A MAP THAT IS NOT nil** ('w': the world AHEAD of maps.Keys' call): A NEW SLICE THAT HOLDS THE MAP's KEYS, SORTED; nil just where it has none; nothing that lay before has turned. -/
theorem slices_Sorted_M {H : Type} (b nn : Nat) (D0 : DataW H) (R : Value → Option (DataW H × List MemPlace)) (w : World) (hown : w.ownsMap Tryz.prog 9 R b nn D0) (hmax : Maps.size D0 ≤ maxLen) (hbytes : Maps.size D0 * 16 ≤ 140737488355328) :
    CallsIn Fence.wide 5 Tryz.prog 55 #[.func (.func 85) #[] #[.pointer (some ⟨w.heap.size, 0, none⟩)]] (w.alloc (.cells #[.map (some b)] 60)) fun e w' => ∃ (v : Value) (ss : List (List UInt8)), e = .returned v ∧ ss.Perm (strKeys D0) ∧
      w'.ownsRow (w.alloc (.cells #[.map (some b)] 60)).heap.size 9 1 v ss.length ((ss.mergeSort (fun x y => decide (x ≤ y))).map encStr) ∧ (v = .slice none 0 0 ↔ ss = []) ∧ Below (w.alloc (.cells #[.map (some b)] 60)).heap.size (w.alloc (.cells #[.map (some b)] 60)) w' := by
  have hbl := hown.lt
  have hseq : SeqGives Fence.wide 2 Tryz.prog 85 #[.pointer (some ⟨w.heap.size, 0, none⟩)] encStr (fun ss => ss.Perm (strKeys D0)) (Maps.size D0) (w.alloc (.cells #[.map (some b)] 60)) :=
    AnyZ.keys_gives (ρ := Tryz.keysM_ren) { Tryz.keysM with } Fence.wide _ trivial rfl (by omega) w.heap.size b nn D0 _ (by simp) (by simp) (by
      obtain ⟨es, clock, hb, Ft, hs, hD⟩ := hown
      exact ⟨es, clock, (Below.heap_alloc _ _ b hbl).trans hb, Ft, hs, hD⟩)
  exact AnyZ.sorted_in Tryz.sortedM Fence.wide 5 trivial trivial trivial trivial rfl (by omega) (sortsM _) (enters_of Tryz.func84 (by kernel_rfl) rfl) 85 #[.pointer (some ⟨w.heap.size, 0, none⟩)] trivial (enters_of Tryz.func85 (by kernel_rfl) rfl) _ _ hmax hbytes _ hseq

theorem mergeSort_ri {l m : List Item} (hp : l.Perm m) (h : Ri ahead m) : l.mergeSort (fun x y => decide (x ≤ y)) = m := by
  have h1 := mergeSort_of_perm hp
  unfold leB at h1
  rw [h1]
  refine List.mergeSort_of_pairwise (List.Pairwise.imp (fun {x y} e => ?_) h)
  rw [ahead_eq, decide_eq_true_eq] at e
  exact decide_eq_true (List.le_of_lt e)
/-- The keys of a set of items, rising. -/
theorem Sorted_mem {w : World} {b : Nat} {mem : List Item} (h : MemAt w b mem) (hr : Ri ahead mem) (hn : mem.length ≤ 1000) :
    Calls Tryz.prog 55 #[.func (.func 85) #[] #[.pointer (some ⟨w.heap.size, 0, none⟩)]] (w.alloc (.cells #[.map (some b)] 60)) fun e w' => ∃ A c, e = .returned (.slice A mem.length c) ∧ Sees w' w'.heap.size A (mem.map encStr) ∧ Below w.heap.size w w' := by
  obtain ⟨D, h1, h2, h3⟩ := h.keys
  refine (callsIn_wide.1 (slices_Sorted_M b _ D _ w h1 (by rw [h3]; simp only [maxLen]; omega) (by rw [h3]; omega))).mono ?_
  rintro e w' ⟨v, ss, rfl, hss, hrow, -, hb⟩
  have hp : ss.Perm mem := hss.trans h2.symm
  rw [mergeSort_ri hp hr, hp.length_eq] at hrow
  have hb2 : Below w.heap.size w w' := ((Below.refl _ w).alloc (Nat.le_refl _) _).trans (hb.mono (by simp))
  have hrow' := hrow
  rcases hrow.2 with ⟨rfl, hn0⟩ | ⟨g, cap, cur, rfl, -, -, -, -⟩
  · exact ⟨none, 0, by rw [hn0], ⟨.inl (by rw [List.eq_nil_of_length_eq_zero hn0]; rfl)⟩, hb2⟩
  · exact ⟨_, cap, rfl, Sees.of_own hrow', hb2⟩
end Go.Proofs.YtadakaenbemedaaGreatDoor
