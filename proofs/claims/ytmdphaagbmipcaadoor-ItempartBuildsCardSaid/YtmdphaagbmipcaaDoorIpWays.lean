/-
  A part's ways, by what it holds.
-/
import Derived.Test.YtmdphaagbmipcaaDoorIpTell
namespace Go.Proofs.YtmdphaagbmipcaaDoor
open Go.RowKit

def RowIs (w : World) (ls : List Item) (e : Ending) (w' : World) : Prop := ∃ v, e = .returned v ∧ OwnS w' w.heap.size v ls ∧ Below w.heap.size w w'
theorem RowIs.open_ {w w' : World} {ls : List Item} {e : Ending} (h : RowIs w ls e w') : ∃ A c, e = .returned (.slice A ls.length c) ∧ ls.length ≤ c ∧ Sees2 w' w'.heap.size A ls ∧ Below w.heap.size w w' := by
  obtain ⟨v, rfl, h1, h2⟩ := h
  obtain ⟨A, c, rfl, h3, h4⟩ := h1.open_
  exact ⟨A, c, rfl, h3, h4, h2⟩
theorem ok_short {ls : List Item} (h : okB ls = true) : ∀ y ∈ ls, 1 ≤ y.length ∧ y.length ≤ 400 := fun y hy => by
  have := (ok_parts h).2 y hy
  unfold badL at this
  rw [Bool.or_eq_false_iff, decide_eq_false_iff_not, decide_eq_false_iff_not] at this
  omega

section
variable {w : World} {P : Nat} {ls : List Item} {Bx : Option Addr} {lx dx : Nat} {x : Item}
theorem From_part (h : PartAt (fun k => k < w.heap.size) w P ls) (hx : Sees w w.heap.size Bx (bv x)) (hxl : x.length = lx) (most : Int) :
    Calls Tryd.prog 16 #[.pointer (some ⟨P, 0, none⟩), .slice Bx lx dx, .int .i64 most] w (RowIs w ((fromL ls x).take most.toNat)) := by
  have hs := seqFrom_part h (fun k e => e) x Bx lx dx hx hxl
  rw [fromY_eq h.well h.many] at hs
  exact From_of w _ Bx lx dx most (fromL ls x) (fun y hy => (ok_short h.well y (List.mem_filter.1 hy).1).2) (Nat.le_trans (List.length_filter_le _ _) h.few) hs
theorem From_nil (w : World) (Bx : Option Addr) (lx dx : Nat) (most : Int) : Calls Tryd.prog 16 #[.pointer none, .slice Bx lx dx, .int .i64 most] w (RowIs w []) := by
  have h := From_of w none Bx lx dx most [] (by simp) (by simp) (seqFrom_nil w Bx lx dx)
  rw [List.take_nil] at h
  exact h
theorem Has_part (h : PartAt (fun k => k < w.heap.size) w P ls) (hx : Sees w w.heap.size Bx (bv x)) (hxl : x.length = lx) :
    Calls Tryd.prog 22 #[.pointer (some ⟨P, 0, none⟩), .slice Bx lx dx] w (Gives w (.bool (decide (x ∈ ls)))) := by
  have hs := seqFrom_part h (fun k e => e) x Bx lx dx hx hxl
  rw [fromY_eq h.well h.many] at hs
  have := Has_of w _ Bx lx dx x _ hx hxl hs
  rwa [show decide ((fromL ls x).head? = some x) = decide (x ∈ ls) from by rw [decide_eq_decide]; exact head_fromL (rises_pw (ok_parts h.well).1) x] at this
theorem Has_nil (w : World) (Bx : Option Addr) (lx dx : Nat) (x : Item) (hx : Sees w w.heap.size Bx (bv x)) (hxl : x.length = lx) :
    Calls Tryd.prog 22 #[.pointer none, .slice Bx lx dx] w (Gives w (.bool false)) := by
  have := Has_of w none Bx lx dx x [] hx hxl (seqFrom_nil w Bx lx dx)
  simpa using this
theorem Prefix_part (h : PartAt (fun k => k < w.heap.size) w P ls) (hx : Sees w w.heap.size Bx (bv x)) (hxl : x.length = lx) :
    Calls Tryd.prog 24 #[.pointer (some ⟨P, 0, none⟩), .slice Bx lx dx] w (RowIs w (ls.filter (preB x))) := by
  have hs := seqFrom_part h (fun k e => e) x Bx lx dx hx hxl
  rw [fromY_eq h.well h.many] at hs
  have := Prefix_of w _ Bx lx dx x hx hxl (fromL ls x) (fun y hy => (ok_short h.well y (List.mem_filter.1 hy).1).2) (Nat.le_trans (List.length_filter_le _ _) h.few) hs
  rw [prefix_fromL (rises_pw (ok_parts h.well).1)] at this
  exact this
theorem Prefix_nil (w : World) (Bx : Option Addr) (lx dx : Nat) (x : Item) (hx : Sees w w.heap.size Bx (bv x)) (hxl : x.length = lx) :
    Calls Tryd.prog 24 #[.pointer none, .slice Bx lx dx] w (RowIs w []) := by
  have := Prefix_of w none Bx lx dx x hx hxl [] (by simp) (by simp) (seqFrom_nil w Bx lx dx)
  exact this
end
theorem fromL_nil (ls : List Item) : fromL ls [] = ls := fromL_all fun y _ => by cases y <;> rfl

/-- Opened. -/
def PartIs (w : World) (ls : List Item) (e : Ending) (w' : World) : Prop := ∃ P, e = .returned (.tuple #[.pointer (some ⟨P, 0, none⟩), .int .i64 0]) ∧ PartAt (fun k => w.heap.size ≤ k ∧ k < w'.heap.size) w' P ls ∧ Below w.heap.size w w'
theorem Open_good (A : Option Addr) (n c : Nat) (b : List UInt8) (hbn : b.length = n) (hnc : n ≤ c) (hn6 : n ≤ 1000000) (w : World) (hS : Sees w w.heap.size A (bv b)) (hH : Halves w) (ls : List Item) (h : openB b = some ls) :
    Calls Tryd.prog 13 #[.slice A n c] w (PartIs w ls) :=
  (Open_any A n c b hbn hnc hn6 w hS hH hH.1).mono fun e w' ⟨p, he, hb, h1, h2⟩ => by
    obtain ⟨rfl, hp⟩ := h2 ls h
    refine ⟨_, ?_, hp, hb⟩
    rw [he, h]; rfl
theorem Open_bad (A : Option Addr) (n c : Nat) (b : List UInt8) (hbn : b.length = n) (hnc : n ≤ c) (hn6 : n ≤ 1000000) (w : World) (hS : Sees w w.heap.size A (bv b)) (hH : Halves w) (h : openB b = none) :
    Calls Tryd.prog 13 #[.slice A n c] w (Gives w (.tuple #[.pointer none, .int .i64 170])) :=
  (Open_any A n c b hbn hnc hn6 w hS hH hH.1).mono fun e w' ⟨p, he, hb, h1, h2⟩ => by
    obtain rfl := h1 h
    refine ⟨?_, hb⟩
    rw [he, h]; rfl
theorem PartAt.later {w w' : World} {P : Nat} {ls : List Item} (h : PartAt (fun k => k < w.heap.size) w P ls) (hb : Below w.heap.size w w') : PartAt (fun k => k < w'.heap.size) w' P ls :=
  (h.keep (Kept.of_below hb fun k e => e)).mono fun k e => Nat.lt_of_lt_of_le e hb.size
theorem Build_good (A : Option Addr) (n c : Nat) (ls : List Item) (hn : ls.length = n) (hnc : n ≤ c) (w : World) (hS : Sees2 w w.heap.size A ls) (hH : Halves w) (hlen : n ≤ 1099511627776) (h : buildE ls = 0) :
    Calls Tryd.prog 11 #[.slice A n c] w fun e w' => ∃ v, e = .returned (.tuple #[v, .int .i64 0]) ∧ OwnB w' w.heap.size v (fileB ls) ∧ Below w.heap.size w w' :=
  (Build_any A n c ls hn hnc w hS hH hlen).mono fun e w' ⟨v, he, hown, hb⟩ => by
    rw [if_pos h] at hown
    exact ⟨v, by rw [he, h]; rfl, hown, hb⟩
theorem Build_bad (A : Option Addr) (n c : Nat) (ls : List Item) (hn : ls.length = n) (hnc : n ≤ c) (w : World) (hS : Sees2 w w.heap.size A ls) (hH : Halves w) (hlen : n ≤ 1099511627776) (k : Nat) (h : buildE ls = k) (hk : k ≠ 0) :
    Calls Tryd.prog 11 #[.slice A n c] w fun e w' => ∃ A' c', e = .returned (.tuple #[.slice A' 0 c', .int .i64 (k : Nat)]) ∧ Below w.heap.size w w' :=
  (Build_any A n c ls hn hnc w hS hH hlen).mono fun e w' ⟨v, he, hown, hb⟩ => by
    rw [if_neg (by omega)] at hown
    obtain ⟨A', c', rfl, -, -, -, -⟩ := hown.open_
    exact ⟨A', c', by rw [he, h]; rfl, hb⟩
theorem file_len {ls : List Item} (h : buildE ls = 0) (hl : ls.length ≤ 100) : 4 ≤ (fileB ls).length ∧ (fileB ls).length ≤ 990000 := by
  obtain ⟨h1, h2, h3, h4⟩ := buildE_ok h
  have hv : ∀ u : Nat, u ≤ 65535 → (venc u).length ≤ 3 := fun u hu => by
    by_cases a : u ≤ 127
    · rw [venc_len1 a]; omega
    · by_cases b : u < 16384
      · rw [venc_len2 (by omega) b]; omega
      · rw [venc_big (by omega), List.length_cons, venc_len2 (by omega) (by omega)]; omega
  have ho : ∀ bl : List (List Item), (∀ o ∈ bl, checkN o = 0) → (outs bl).length ≤ 65543 * bl.length := fun bl => by
    induction bl with
    | nil => intro _; simp [outs]
    | cons o t ih =>
      intro hc
      have h5 := packB_len2 (hc o (by simp))
      have h6 := hv (packB o).length (by omega)
      have h7 := ih fun y hy => hc y (by simp [hy])
      show (frB o ++ outs t).length ≤ _
      unfold frB
      rw [frameOf_makeK 1 _ 1 rfl, List.length_append, makeK_len, List.length_cons]
      omega
  have h5 := ho (blk ls) (blk_checks h3)
  have h6 := blk_length ls
  have h7 := hv (tabB (blk ls)).length h4
  unfold fileB
  rw [frameOf_makeK 2 _ 2 rfl, List.length_append, List.length_append, makeK_len]
  have : (place4 (outs (blk ls)).length).length = 4 := by unfold place4 tail4; rfl
  omega
end Go.Proofs.YtmdphaagbmipcaaDoor
