/-
  memory.Has, From, Prefix, walked.
-/
import Derived.Test.YtadakaenbemedaaGreatDoorTgSorted
import Derived.Test.YtadakaenbemedaaGreatDoorIpC
import Derived.Shelf.SlicesE.DeleteFunc
import Derived.Lib.OwnBridge
namespace Go.Proofs.YtadakaenbemedaaGreatDoor
open Go.RowKit Go.Maps

/-- A row of items that lies in new blocks. -/
def RowS (w : World) (ls : List Item) (e : Ending) (w' : World) : Prop := ∃ A c, e = .returned (.slice A ls.length c) ∧ ls.length ≤ c ∧ Sees2M (fun k => w.heap.size ≤ k ∧ k < w'.heap.size) w' A ls ∧ Below w.heap.size w w'
theorem OwnS.open2 {w : World} {base : Nat} {v : Value} {ls : List Item} (h : OwnS w base v ls) : ∃ A c, v = .slice A ls.length c ∧ ls.length ≤ c ∧ Sees2M (fun k => base ≤ k ∧ k < w.heap.size) w A ls := by
  obtain ⟨vs, h1, h2⟩ := h.out
  rcases h1.2 with ⟨rfl, hn⟩ | ⟨g, cap, cur, rfl, hb, hh, hc, hm, _⟩
  · have : ls = [] := List.eq_nil_of_length_eq_zero hn
    subst this
    exact ⟨none, 0, rfl, by simp, ⟨fun i hi => absurd hi (by simp)⟩⟩
  · refine ⟨_, cap, rfl, hc, ⟨fun i hi => ?_⟩⟩
    obtain ⟨Ai, ci, h3, h4, h5⟩ := h2 i hi
    refine ⟨_, Ai, ci, rfl, ⟨hb, (Array.getElem?_eq_some_iff.1 hh).1⟩, h1.cells (g := g) rfl i _ h3, h4, ?_⟩
    rcases h5.out with e | ⟨ad, e, h6, h7, -, h8⟩
    · exact ⟨.inl e⟩
    · exact ⟨.inr ⟨ad, e, ⟨h6, h7⟩, h8⟩⟩
theorem RowIs.rowS {w w' : World} {ls : List Item} {e : Ending} (h : RowIs w ls e w') : RowS w ls e w' := by
  obtain ⟨v, rfl, h1, h2⟩ := h
  obtain ⟨A, c, rfl, h3, h4⟩ := h1.open2
  exact ⟨A, c, rfl, h3, h4, h2⟩
theorem Sees2M.take {m : Nat → Prop} {w : World} {A : Option Addr} {ls : List Item} (h : Sees2M m w A ls) (k : Nat) : Sees2M m w A (ls.take k) :=
  ⟨fun i hi => by
    obtain ⟨ad, Ai, ci, h1, h2, h3, h4, h5⟩ := h.out i (by rw [List.length_take] at hi; omega)
    rw [List.getElem_take]
    exact ⟨ad, Ai, ci, h1, h2, h3, h4, h5⟩⟩
theorem Sees2M.cut {m : Nat → Prop} {w : World} {A : Option Addr} {ls : List Item} (h : Sees2M m w A ls) {k cap : Nat} (hc : ls.length ≤ cap) : Sees2M m w (if cap = k then A else A.map (fun x => x.add k)) (ls.drop k) :=
  ⟨fun i hi => by
    rw [List.length_drop] at hi
    obtain ⟨ad, Ai, ci, rfl, h2, h3, h4, h5⟩ := h.out (k + i) (by omega)
    rw [List.getElem_drop, if_neg (by omega)]
    exact ⟨ad.add k, Ai, ci, rfl, by rw [add_block]; exact h2, by rw [add_add']; exact h3, h4, h5⟩⟩

set_option maxHeartbeats 400000 in
theorem memHas_any (b : Nat) (mem : List Item) (w : World) (hM : MemAt w b mem) (Bx : Option Addr) (lx dx : Nat) (x : Item) (hx : Sees w w.heap.size Bx (bv x)) (hxl : x.length = lx) (hlx : lx ≤ 1000000) :
    Calls Tryz.prog 171 #[.map (some b), .slice Bx lx dx] w (Gives w (.bool (decide (x ∈ mem)))) := by
  have hcv := run_str w _ Bx lx dx x hx hxl
  have hlk := hM.look 60 Tryz.underlying60 (s := strOf x) (by rw [strOf_size]; simp only [maxLen]; omega)
  rw [strOf_data] at hlk
  obtain ⟨r, hr⟩ : ∃ r, decide (x ∈ mem) = r := ⟨_, rfl⟩
  rw [hr] at hlk ⊢
  clear hr hM hx hxl
  go_enter Tryz.func171, Tryz.ntmps171
  go_wp2
  go_ret
  exact ⟨rfl, Below.refl _ _⟩

set_option maxRecDepth 100000 in
set_option maxHeartbeats 800000 in
theorem memFrom_any (b : Nat) (mem : List Item) (w : World) (hM : MemAt w b mem) (hr : Ri ahead mem) (hn : mem.length ≤ 1000) (hy : ∀ x ∈ mem, x.length ≤ 1000) (Bx : Option Addr) (lx dx : Nat) (x : Item) (hx : Sees w w.heap.size Bx (bv x)) (hxl : x.length = lx) (most : Int) :
    Calls Tryz.prog 170 #[.map (some b), .slice Bx lx dx, .int .i64 most] w (RowS w ((fromL mem x).take most.toNat)) := by
  have hS := Lib.hid (sorted_any b mem w hM hr hn hy)
  have HR := Lib.hid (rises_ri hr)
  have HX := Lib.hid hx
  have HXL := Lib.hid hxl
  have HD := Lib.hid (drop_fromL (x := x) hr)
  obtain ⟨n, hln⟩ : ∃ n, mem.length = n := ⟨_, rfl⟩
  rw [hln] at hn
  have HLN := Lib.hid hln
  clear hln hy hM hr hx hxl
  go_enter Tryz.func170, Tryz.ntmps170
  go_wp2_with fail
  refine hS.out.mono ?_
  rintro e w1 ⟨v, rfl, hown, hb1⟩
  obtain ⟨A, c, rfl, hlc, hA⟩ := hown.open2
  have hs1 := hb1.size
  have hSk := Lib.hid (Seek_any A Bx n c lx dx mem x HLN.out HXL.out w1 (hA.sees fun k e => e.2) ((HX.out.below hb1).more hs1) (by omega))
  rw [HLN.out] at hlc ⊢
  go_wp2_with fail
  refine hSk.out.mono ?_
  rintro e w2 ⟨rfl, k, hk, hke, rfl⟩
  rw [HLN.out] at hk
  have HK := Lib.hid (hke HR.out)
  obtain ⟨A', hA'⟩ : ∃ A', (if c = k then A else A.map (fun x => x.add k)) = A' := ⟨_, rfl⟩
  have hAc := hA.cut (k := k) (cap := c) (by rw [HLN.out]; exact hlc)
  rw [hA'] at hAc
  have HAC := Lib.hid hAc
  obtain ⟨j, hj⟩ : ∃ j : Nat, min (max most 0) ((n - k : Nat) : Int) = (j : Int) := ⟨(min (max most 0) ((n - k : Nat) : Int)).toNat, by omega⟩
  have hj2 : j ≤ n - k := by omega
  have hjm : Hid (j = min most.toNat (n - k)) := by unfold Hid; omega
  have hkn : (k : Int) ≤ (n : Int) := by omega
  have hjc : (j : Int) ≤ ((c - k : Nat) : Int) := by omega
  have hj0 : (0 : Int) ≤ (j : Int) := by omega
  clear hke hAc hSk hS
  go_wp2
  go_ret
  have hfl : mem.drop k = fromL mem x := by rw [HK.out]; exact HD.out
  have hfn : (fromL mem x).length = n - k := by rw [← hfl, List.length_drop, HLN.out]
  have hE : (fromL mem x).take most.toNat = (mem.drop k).take j := by
    rw [hfl, hjm.out]
    by_cases hm : most.toNat ≤ n - k
    · rw [Nat.min_eq_left hm]
    · rw [Nat.min_eq_right (by omega), List.take_of_length_le (by omega), List.take_of_length_le (by omega)]
  have hl : ((mem.drop k).take j).length = j := by rw [List.length_take, List.length_drop, HLN.out]; omega
  refine ⟨A', c - k, ?_, ?_, ?_, hb1⟩
  · rw [hE, hl]; rfl
  · rw [hE, hl]; omega
  · rw [hE]; exact HAC.out.take j
end Go.Proofs.YtadakaenbemedaaGreatDoor
