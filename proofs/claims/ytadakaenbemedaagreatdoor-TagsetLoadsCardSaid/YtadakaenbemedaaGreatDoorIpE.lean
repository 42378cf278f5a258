/-
  Several texts in one: IpTell IpWays IpFew IpAwake IpTurn IpRef.
-/
import Derived.Test.YtadakaenbemedaaGreatDoorIpD
import Derived.Test.YtadakaenbemedaaGreatDoorItm
/-
  What a part tells: plain lists.
-/
namespace Go.Proofs.YtadakaenbemedaaGreatDoor
open Go.RowKit

def Up (a b : Item) : Prop := ahead a b = true
theorem rises_pw {ls : List Item} (h : risesB ls = true) : ls.Pairwise Up :=
  List.pairwise_iff_getElem.2 fun _ _ hi hj hij => rises_pair h hi hj hij

/-- The items that aren't ahead of one. -/
def fromL (ls : List Item) (x : Item) : List Item := ls.filter fun y => !ahead y x
theorem fromL_all {o : List Item} {x : Item} (h : ∀ y ∈ o, ahead y x = false) : fromL o x = o :=
  List.filter_eq_self.2 fun y hy => by rw [h y hy]; rfl
theorem fromL_none {o : List Item} {x : Item} (h : ∀ y ∈ o, ahead y x = true) : fromL o x = [] :=
  List.filter_eq_nil_iff.2 fun y hy => by rw [h y hy]; simp
theorem drop_fromL {x : Item} : ∀ {o : List Item}, o.Pairwise Up → o.drop (firstNot x o) = fromL o x
  | [], _ => rfl
  | a :: t, h => by
    obtain ⟨h1, h2⟩ := List.pairwise_cons.1 h
    by_cases ha : ahead a x = true
    · simp only [firstNot, if_pos ha, List.drop_succ_cons]
      rw [drop_fromL h2]
      unfold fromL
      rw [List.filter_cons_of_neg (by rw [ha]; simp)]
    · simp only [firstNot, if_neg ha, List.drop_zero]
      rw [Bool.not_eq_true] at ha
      refine (fromL_all fun y hy => ?_).symm
      simp only [List.mem_cons] at hy
      rcases hy with rfl | hy
      · exact ha
      · rw [← Bool.not_eq_true]
        intro e
        have := ahead_trans (h1 y hy) e
        rw [ha] at this
        cases this
theorem flatMap_fromL {x : Item} : ∀ (bl : List (List Item)), (∀ o ∈ bl, o.Pairwise Up) → bl.flatMap (fun o => o.drop (firstNot x o)) = fromL bl.flatten x
  | [], _ => rfl
  | o :: t, h => by
    rw [List.flatMap_cons, drop_fromL (h o (by simp)), flatMap_fromL t fun y hy => h y (by simp [hy])]
    unfold fromL
    rw [List.flatten_cons, List.filter_append]
theorem fromY_eq {ls : List Item} (h : okB ls = true) (h0 : 0 < ls.length) (x : Item) : fromY ls x = fromL ls x := by
  have hpw := rises_pw (ok_parts h).1
  have hfl := blk_flatten ls
  rw [← hfl] at hpw
  obtain ⟨hp1, hp2⟩ := List.pairwise_flatten.1 hpw
  have hbl := blk_length ls
  have hb : (firstsB ls).length = (blk ls).length := by simp [firstsB]
  have hlt : atB (firstsB ls) x < (firstsB ls).length := firstNot_at_most (by omega)
  obtain ⟨bi, hbi⟩ : ∃ bi, atB (firstsB ls) x = bi := ⟨_, rfl⟩
  unfold fromY
  rw [hbi] at hlt ⊢
  rw [flatMap_fromL _ fun o ho => hp1 o (List.mem_of_mem_drop ho)]
  have hle : ∀ y, Up y ((firstsB ls)[bi]) → 0 < bi → ahead y x = true := fun y hy hpos => by
    unfold atB at hbi
    split at hbi
    · rename_i hf
      unfold foundB at hf
      rw [decide_eq_true_eq] at hf
      obtain ⟨h1, h2⟩ := hf
      subst hbi
      rw [← h2]
      exact hy
    · exact ahead_trans hy (firstNot_lt hlt (by omega))
  have hdead : fromL ((blk ls).take bi).flatten x = [] := by
    refine fromL_none fun y hy => ?_
    obtain ⟨o, ho, hyo⟩ := List.mem_flatten.1 hy
    obtain ⟨j, hj, e⟩ := List.mem_iff_getElem.1 ho
    rw [List.length_take] at hj
    rw [List.getElem_take] at e
    have hpair := List.pairwise_iff_getElem.1 hp2 j bi (by omega) (by omega) (by omega)
    refine hle y ?_ (by omega)
    have hne := blk_block (List.getElem_mem (by omega : bi < (blk ls).length))
    have hpos : 0 < ((blk ls)[bi]'(by omega)).length := by
      obtain ⟨k, hk, e2⟩ := hne
      rw [e2, List.length_take, List.length_drop]; omega
    have h2 : (firstsB ls)[bi] = ((blk ls)[bi]'(by omega)).headD [] := by simp [firstsB]
    rw [h2]
    refine hpair y (by rw [e]; exact hyo) _ ?_
    cases hc : (blk ls)[bi]'(by omega) with
    | nil => rw [hc] at hpos; simp at hpos
    | cons a t => simp
  have : fromL (blk ls).flatten x = fromL ((blk ls).take bi).flatten x ++ fromL ((blk ls).drop bi).flatten x := by
    unfold fromL
    rw [← List.filter_append, ← List.flatten_append, List.take_append_drop]
  rw [hdead, List.nil_append] at this
  rw [← this, hfl]
theorem fromL_drop {ls : List Item} (h : okB ls = true) (x : Item) : fromL ls x = ls.drop (firstNot x ls) := (drop_fromL (rises_pw (ok_parts h).1)).symm

theorem not_ahead_eq {x y : Item} (h1 : ahead x y = false) (h2 : ahead y x = false) : x = y := by
  rw [ahead_eq, decide_eq_false_iff_not] at h1 h2
  exact List.le_antisymm (List.not_lt.1 h2) (List.not_lt.1 h1)
/-- An item is the first of those from it on, just where it is there. -/
theorem head_fromL {ls : List Item} (hp : ls.Pairwise Up) (x : Item) : (fromL ls x).head? = some x ↔ x ∈ ls := by
  constructor
  · intro h
    have := List.mem_of_mem_head? (by rw [h]; rfl : x ∈ (fromL ls x).head?)
    exact (List.mem_filter.1 this).1
  · intro h
    have hm : x ∈ fromL ls x := List.mem_filter.2 ⟨h, by rw [ahead_irrefl]; rfl⟩
    have hpf : (fromL ls x).Pairwise Up := hp.sublist List.filter_sublist
    cases hf : fromL ls x with
    | nil => rw [hf] at hm; simp at hm
    | cons a t =>
      rw [hf] at hm hpf
      simp only [List.head?_cons, Option.some.injEq]
      simp only [List.mem_cons] at hm
      rcases hm with rfl | hm
      · rfl
      · exfalso
        have h1 := (List.pairwise_cons.1 hpf).1 x hm
        have h2 : a ∈ fromL ls x := by rw [hf]; simp
        have h3 := (List.mem_filter.1 h2).2
        unfold Up at h1
        rw [h1] at h3
        cases h3

theorem preB_cons (a b : UInt8) (s t : List UInt8) : preB (a :: s) (b :: t) = (decide (a = b) && preB s t) := by
  unfold preB
  rw [← Bool.decide_and, decide_eq_decide, List.cons_prefix_cons]
theorem preB_nil (y : Item) : preB [] y = true := by unfold preB; simp
theorem preB_cons_nil (a : UInt8) (s : List UInt8) : preB (a :: s) [] = false := by unfold preB; simp
/-- What begins so isn't ahead. -/
theorem pre_not_ahead : ∀ {x y : Item}, preB x y = true → ahead y x = false
  | [], y, _ => by cases y <;> rfl
  | a :: s, [], h => by rw [preB_cons_nil] at h; cases h
  | a :: s, b :: t, h => by
    rw [preB_cons, Bool.and_eq_true, decide_eq_true_eq] at h
    obtain ⟨rfl, h⟩ := h
    rw [ahead_cons, pre_not_ahead h]
    simp [UInt8.lt_irrefl]
/-- Behind the last that begins so none begins so. -/
theorem pre_after : ∀ {x y z : Item}, ahead y x = false → preB x y = false → ahead y z = true → preB x z = false
  | [], y, _, _, h, _ => by rw [preB_nil] at h; cases h
  | a :: s, [], _, h, _, _ => by cases h
  | a :: s, b :: t, [], _, _, h => by cases h
  | a :: s, b :: t, c :: u, h1, h2, h3 => by
    rw [ahead_cons, Bool.or_eq_false_iff, decide_eq_false_iff_not, Bool.and_eq_false_iff] at h1
    rw [ahead_cons, Bool.or_eq_true, decide_eq_true_eq, Bool.and_eq_true, beq_iff_eq] at h3
    rw [preB_cons, Bool.and_eq_false_iff, decide_eq_false_iff_not] at h2 ⊢
    obtain ⟨k1, k2⟩ := h1
    by_cases hba : b = a
    · subst hba
      have k3 : ahead t s = false := by rcases k2 with k2 | k2; simp at k2; exact k2
      have k4 : preB s t = false := by rcases h2 with h2 | h2; exact absurd rfl h2; exact h2
      rcases h3 with h3 | ⟨rfl, h3⟩
      · exact .inl fun e => by subst e; exact UInt8.lt_irrefl _ h3
      · exact .inr (pre_after k3 k4 h3)
    · refine .inl fun e => ?_
      subst e
      rcases h3 with h3 | ⟨e2, _⟩
      · exact k1 h3
      · exact hba e2
theorem takeWhile_filter {p : Item → Bool} {R : Item → Item → Prop} : ∀ {o : List Item}, o.Pairwise R → (∀ a ∈ o, ∀ b ∈ o, R a b → p a = false → p b = false) → o.takeWhile p = o.filter p
  | [], _, _ => rfl
  | a :: t, h, hs => by
    obtain ⟨h1, h2⟩ := List.pairwise_cons.1 h
    by_cases ha : p a = true
    · rw [List.takeWhile_cons, if_pos ha, List.filter_cons_of_pos ha, takeWhile_filter h2 fun x hx y hy => hs x (by simp [hx]) y (by simp [hy])]
    · rw [Bool.not_eq_true] at ha
      rw [List.takeWhile_cons, if_neg (by rw [ha]; simp), List.filter_cons_of_neg (by rw [ha]; simp)]
      refine (List.filter_eq_nil_iff.2 fun y hy => ?_).symm
      rw [hs a (by simp) y (by simp [hy]) (h1 y hy) ha]
      simp
theorem prefix_fromL {ls : List Item} (hp : ls.Pairwise Up) (x : Item) : (fromL ls x).takeWhile (preB x) = ls.filter (preB x) := by
  have hpf : (fromL ls x).Pairwise Up := hp.sublist List.filter_sublist
  rw [takeWhile_filter hpf fun a ha b hb hab e => ?_]
  · unfold fromL
    rw [List.filter_filter]
    refine List.filter_congr fun y _ => ?_
    cases h : preB x y with
    | false => simp
    | true => rw [pre_not_ahead h]; rfl
  · have := (List.mem_filter.1 ha).2
    exact pre_after (by simpa using this) e hab
end Go.Proofs.YtadakaenbemedaaGreatDoor

/-
  A part's ways, by what it holds.
-/
namespace Go.Proofs.YtadakaenbemedaaGreatDoor
open Go.RowKit

def RowIs (w : World) (ls : List Item) (e : Ending) (w' : World) : Prop := ∃ v, e = .returned v ∧ OwnS w' w.heap.size v ls ∧ Below w.heap.size w w'
theorem RowIs.open_ {w w' : World} {ls : List Item} {e : Ending} (h : RowIs w ls e w') : ∃ A c, e = .returned (.slice A ls.length c) ∧ ls.length ≤ c ∧ Sees2 w' w'.heap.size A ls ∧ Below w.heap.size w w' := by
  obtain ⟨v, rfl, h1, h2⟩ := h
  obtain ⟨A, c, rfl, h3, h4⟩ := h1.open_
  exact ⟨A, c, rfl, h3, h4, h2⟩
theorem ok_short {ls : List Item} (h : okB ls = true) : ∀ y ∈ ls, 1 ≤ y.length ∧ y.length ≤ 400 := fun y hy => by
  have := (ok_parts h).2 y hy
  unfold badL at this
  rw [Bool.or_eq_false_iff, decide_eq_false_iff_not, decide_eq_false_iff_not] at this
  omega

section
variable {w : World} {P : Nat} {ls : List Item} {Bx : Option Addr} {lx dx : Nat} {x : Item}
theorem From_part (h : PartAt (fun k => k < w.heap.size) w P ls) (hx : Sees w w.heap.size Bx (bv x)) (hxl : x.length = lx) (most : Int) :
    Calls Tryz.prog 41 #[.pointer (some ⟨P, 0, none⟩), .slice Bx lx dx, .int .i64 most] w (RowIs w ((fromL ls x).take most.toNat)) := by
  have hs := seqFrom_part h (fun k e => e) x Bx lx dx hx hxl
  rw [fromY_eq h.well h.many] at hs
  exact From_of w _ Bx lx dx most (fromL ls x) (fun y hy => (ok_short h.well y (List.mem_filter.1 hy).1).2) (Nat.le_trans (List.length_filter_le _ _) h.few) hs
theorem From_nil (w : World) (Bx : Option Addr) (lx dx : Nat) (most : Int) : Calls Tryz.prog 41 #[.pointer none, .slice Bx lx dx, .int .i64 most] w (RowIs w []) := by
  have h := From_of w none Bx lx dx most [] (by simp) (by simp) (seqFrom_nil w Bx lx dx)
  rw [List.take_nil] at h
  exact h
theorem Has_part (h : PartAt (fun k => k < w.heap.size) w P ls) (hx : Sees w w.heap.size Bx (bv x)) (hxl : x.length = lx) :
    Calls Tryz.prog 177 #[.pointer (some ⟨P, 0, none⟩), .slice Bx lx dx] w (Gives w (.bool (decide (x ∈ ls)))) := by
  have hs := seqFrom_part h (fun k e => e) x Bx lx dx hx hxl
  rw [fromY_eq h.well h.many] at hs
  have := Has_of w _ Bx lx dx x _ hx hxl hs
  rwa [show decide ((fromL ls x).head? = some x) = decide (x ∈ ls) from by rw [decide_eq_decide]; exact head_fromL (rises_pw (ok_parts h.well).1) x] at this
theorem Has_nil (w : World) (Bx : Option Addr) (lx dx : Nat) (x : Item) (hx : Sees w w.heap.size Bx (bv x)) (hxl : x.length = lx) :
    Calls Tryz.prog 177 #[.pointer none, .slice Bx lx dx] w (Gives w (.bool false)) := by
  have := Has_of w none Bx lx dx x [] hx hxl (seqFrom_nil w Bx lx dx)
  simpa using this
theorem Prefix_part (h : PartAt (fun k => k < w.heap.size) w P ls) (hx : Sees w w.heap.size Bx (bv x)) (hxl : x.length = lx) :
    Calls Tryz.prog 178 #[.pointer (some ⟨P, 0, none⟩), .slice Bx lx dx] w (RowIs w (ls.filter (preB x))) := by
  have hs := seqFrom_part h (fun k e => e) x Bx lx dx hx hxl
  rw [fromY_eq h.well h.many] at hs
  have := Prefix_of w _ Bx lx dx x hx hxl (fromL ls x) (fun y hy => (ok_short h.well y (List.mem_filter.1 hy).1).2) (Nat.le_trans (List.length_filter_le _ _) h.few) hs
  rw [prefix_fromL (rises_pw (ok_parts h.well).1)] at this
  exact this
theorem Prefix_nil (w : World) (Bx : Option Addr) (lx dx : Nat) (x : Item) (hx : Sees w w.heap.size Bx (bv x)) (hxl : x.length = lx) :
    Calls Tryz.prog 178 #[.pointer none, .slice Bx lx dx] w (RowIs w []) := by
  have := Prefix_of w none Bx lx dx x hx hxl [] (by simp) (by simp) (seqFrom_nil w Bx lx dx)
  exact this
end
theorem fromL_nil (ls : List Item) : fromL ls [] = ls := fromL_all fun y _ => by cases y <;> rfl

/-- Opened. -/
def PartIs (w : World) (ls : List Item) (e : Ending) (w' : World) : Prop := ∃ P, e = .returned (.tuple #[.pointer (some ⟨P, 0, none⟩), .int .i64 0]) ∧ PartAt (fun k => w.heap.size ≤ k ∧ k < w'.heap.size) w' P ls ∧ Below w.heap.size w w'
theorem Open_good (A : Option Addr) (n c : Nat) (b : List UInt8) (hbn : b.length = n) (hnc : n ≤ c) (hn6 : n ≤ 1000000) (w : World) (hS : Sees w w.heap.size A (bv b)) (hH : Halves w) (ls : List Item) (h : openB b = some ls) :
    Calls Tryz.prog 30 #[.slice A n c] w (PartIs w ls) :=
  (Open_any A n c b hbn hnc hn6 w hS hH hH.1).mono fun e w' ⟨p, he, hb, h1, h2⟩ => by
    obtain ⟨rfl, hp⟩ := h2 ls h
    refine ⟨_, ?_, hp, hb⟩
    rw [he, h]; rfl
theorem Open_bad (A : Option Addr) (n c : Nat) (b : List UInt8) (hbn : b.length = n) (hnc : n ≤ c) (hn6 : n ≤ 1000000) (w : World) (hS : Sees w w.heap.size A (bv b)) (hH : Halves w) (h : openB b = none) :
    Calls Tryz.prog 30 #[.slice A n c] w (Gives w (.tuple #[.pointer none, .int .i64 170])) :=
  (Open_any A n c b hbn hnc hn6 w hS hH hH.1).mono fun e w' ⟨p, he, hb, h1, h2⟩ => by
    obtain rfl := h1 h
    refine ⟨?_, hb⟩
    rw [he, h]; rfl
theorem PartAt.later {w w' : World} {P : Nat} {ls : List Item} (h : PartAt (fun k => k < w.heap.size) w P ls) (hb : Below w.heap.size w w') : PartAt (fun k => k < w'.heap.size) w' P ls :=
  (h.keep (Kept.of_below hb fun _ e => e)).mono fun _ e => Nat.lt_of_lt_of_le e hb.size
theorem Build_good (A : Option Addr) (n c : Nat) (ls : List Item) (hn : ls.length = n) (hnc : n ≤ c) (w : World) (hS : Sees2 w w.heap.size A ls) (hH : Halves w) (hlen : n ≤ 1099511627776) (h : buildE ls = 0) :
    Calls Tryz.prog 28 #[.slice A n c] w fun e w' => ∃ v, e = .returned (.tuple #[v, .int .i64 0]) ∧ OwnB w' w.heap.size v (fileB ls) ∧ Below w.heap.size w w' :=
  (Build_any A n c ls hn hnc w hS hH hlen).mono fun e w' ⟨v, he, hown, hb⟩ => by
    rw [if_pos h] at hown
    exact ⟨v, by rw [he, h]; rfl, hown, hb⟩
theorem Build_bad (A : Option Addr) (n c : Nat) (ls : List Item) (hn : ls.length = n) (hnc : n ≤ c) (w : World) (hS : Sees2 w w.heap.size A ls) (hH : Halves w) (hlen : n ≤ 1099511627776) (k : Nat) (h : buildE ls = k) (hk : k ≠ 0) :
    Calls Tryz.prog 28 #[.slice A n c] w fun e w' => ∃ A' c', e = .returned (.tuple #[.slice A' 0 c', .int .i64 (k : Nat)]) ∧ Below w.heap.size w w' :=
  (Build_any A n c ls hn hnc w hS hH hlen).mono fun e w' ⟨v, he, hown, hb⟩ => by
    rw [if_neg (by omega)] at hown
    obtain ⟨A', c', rfl, -, -, -, -⟩ := hown.open_
    exact ⟨A', c', by rw [he, h]; rfl, hb⟩
theorem file_len {ls : List Item} (h : buildE ls = 0) (hl : ls.length ≤ 100) : 4 ≤ (fileB ls).length ∧ (fileB ls).length ≤ 990000 := by
  obtain ⟨h1, h2, h3, h4⟩ := buildE_ok h
  have hv : ∀ u : Nat, u ≤ 65535 → (venc u).length ≤ 3 := fun u hu => by
    by_cases a : u ≤ 127
    · rw [venc_len1 a]; omega
    · by_cases b : u < 16384
      · rw [venc_len2 (by omega) b]; omega
      · rw [venc_big (by omega), List.length_cons, venc_len2 (by omega) (by omega)]; omega
  have ho : ∀ bl : List (List Item), (∀ o ∈ bl, checkN o = 0) → (outs bl).length ≤ 65543 * bl.length := fun bl => by
    induction bl with
    | nil => intro _; simp [outs]
    | cons o t ih =>
      intro hc
      have h5 := packB_len2 (hc o (by simp))
      have h6 := hv (packB o).length (by omega)
      have h7 := ih fun y hy => hc y (by simp [hy])
      show (frB o ++ outs t).length ≤ _
      unfold frB
      rw [frameOf_makeK 1 _ 1 rfl, List.length_append, makeK_len, List.length_cons]
      omega
  have h5 := ho (blk ls) (blk_checks h3)
  have h6 := blk_length ls
  have h7 := hv (tabB (blk ls)).length h4
  unfold fileB
  rw [frameOf_makeK 2 _ 2 rfl, List.length_append, List.length_append, makeK_len]
  have : (place4 (outs (blk ls)).length).length = 4 := by unfold place4 tail4; rfl
  omega
end Go.Proofs.YtadakaenbemedaaGreatDoor

/-
  Are items few, and short? That many bytes are seen where constants were laid.
-/
namespace Go.Proofs.YtadakaenbemedaaGreatDoor
open Go.RowKit

def fewB (ls : List (List UInt8)) : Bool := decide (ls.length ≤ 100) && ls.all fun l => decide (l.length ≤ 500)
theorem few_at {ls : List (List UInt8)} {k : Nat} (h : k < ls.length) : (ls.drop k).all (fun l => decide (l.length ≤ 500)) = (decide (ls[k].length ≤ 500) && (ls.drop (k + 1)).all fun l => decide (l.length ≤ 500)) := by
  rw [List.drop_eq_getElem_cons h]
  rfl
theorem few_yes {ls : List (List UInt8)} (h : fewB ls = true) : ls.length ≤ 100 ∧ ∀ i (hi : i < ls.length), ls[i].length ≤ 500 := by
  unfold fewB at h
  rw [Bool.and_eq_true, decide_eq_true_eq, List.all_eq_true] at h
  exact ⟨h.1, fun i hi => by simpa using h.2 _ (List.getElem_mem hi)⟩

end Go.Proofs.YtadakaenbemedaaGreatDoor

/-
  The document's example of a part: the laws' own first call.
-/
namespace Go.Proofs.YtadakaenbemedaaGreatDoor
open Go.RowKit

def exP : List Item := [[97], [98]]
theorem exP_blk : blk exP = [exP] := by
  rw [blk_cons (by decide), blk_nil (by decide)]; rfl
theorem exP_ok : okB exP = true := by decide
theorem exP_build : buildE exP = 0 := by
  have h : (tabB (blk exP)).length = 4 := by
    rw [exP_blk]
    simp [tabB, idxs, exP, venc_small]
  unfold buildE
  rw [if_neg (by decide), if_neg (by rw [exP_ok]; decide), if_neg (by omega)]
theorem exP_outs : (outs (blk exP)).length = 13 := by
  have hp : (packB exP).length = 7 := by simp [packB, packFrom, exP, common, venc_small]
  rw [exP_blk, outs_one]
  unfold frB
  rw [frameOf_makeK 1 _ 1 rfl, makeK_len, hp, venc_len1 (by omega)]
theorem exP_file : ∃ pre, fileB exP = pre ++ [13] := by
  refine ⟨outs (blk exP) ++ frameOf 2 (tabB (blk exP)) ++ [0, 0, 0], ?_⟩
  unfold fileB
  rw [exP_outs, List.append_assoc, List.append_assoc (outs (blk exP) ++ frameOf 2 (tabB (blk exP))), List.append_assoc (outs (blk exP))]
  rfl
theorem exP_tells : (fromL exP [97, 97]).take 5 = [[98]] ∧ exP.filter (preB [97]) = [[97]] := by decide +kernel

theorem sees_mark (w : World) (l : List UInt8) (t : TypeId) (m : Nat × Nat) (cs : Array Value) (h : cs = (bv l).toArray) : Sees (w.alloc (.cells cs t m)) (w.heap.size + 1) (some ⟨w.heap.size, 0, none⟩) (bv l) := by
  subst h
  refine ⟨.inr ⟨_, rfl, by simp, fun j u hu => ?_⟩⟩
  rw [Addr.add_lit, World.cell?_alloc_mark]
  simpa using hu
theorem run_const (w : World) (b : Nat) (hb : w.heap.size = b) (C : Array Value) (n c : Nat) :
    (convert 27 27 (.slice (some ⟨b, 0, none⟩) n c)).run Tryz.prog (w.alloc (.cells C 5)) = .ok (.slice (some ⟨b, 0, none⟩) n c) (w.alloc (.cells C 5 (C.size, C.size + 1))) := by
  subst hb
  exact Lib.run_convert_bytes_const (P := Tryz.prog) w 27 5 C n c Tryz.underlying27 Tryz.underlying5
theorem Sees2.new (W : World) (b : Nat) (hb : W.heap.size = b) (cs : Array Value) (t : TypeId) (ls : List (List UInt8))
    (h : ∀ i (hi : i < ls.length), ∃ Ai ci, cs[i]? = some (.slice Ai (ls[i]).length ci) ∧ (ls[i]).length ≤ ci ∧ Sees W b Ai (bv ls[i])) : Sees2 (W.alloc (.cells cs t)) (b + 1) (some ⟨b, 0, none⟩) ls := by
  subst hb
  refine ⟨fun i hi => ?_⟩
  obtain ⟨Ai, ci, h1, h2, h3⟩ := h i hi
  exact ⟨_, Ai, ci, rfl, by simp, by rw [Addr.add_lit, World.cell?_alloc_at _ _ _ _ rfl]; simpa using h1, h2, (h3.alloc (Nat.le_refl _) _).more (by omega)⟩
theorem sees_mark' (w : World) (b : Nat) (hb : w.heap.size = b) (l : List UInt8) (t : TypeId) (m : Nat × Nat) (cs : Array Value) (h : cs = (bv l).toArray) : Sees (w.alloc (.cells cs t m)) (b + 1) (some ⟨b, 0, none⟩) (bv l) := by
  subst hb
  exact sees_mark w l t m cs h
theorem exP_sees (w : World) : Sees2 (((w.alloc (.cells #[.int .u8 97] 5 (1, 2))).alloc (.cells #[.int .u8 98] 5 (1, 2))).alloc
      (.cells #[.slice (some ⟨w.heap.size, 0, none⟩) 1 1, .slice (some ⟨w.heap.size + 1, 0, none⟩) 1 1] 27)) (w.heap.size + 1 + 1 + 1) (some ⟨w.heap.size + 1 + 1, 0, none⟩) exP := by
  refine Sees2.new _ _ (by simp) _ _ _ fun i hi => ?_
  match i, hi with
  | 0, _ => exact ⟨_, 1, rfl, by simp [exP], ((sees_mark' w _ rfl [97] _ _ _ (by simp [bv])).alloc (by simp) _).more (by omega)⟩
  | 1, _ => exact ⟨_, 1, rfl, by simp [exP], (sees_mark' _ (w.heap.size + 1) (by simp) [98] _ _ _ (by simp [bv])).more (by omega)⟩

end Go.Proofs.YtadakaenbemedaaGreatDoor

/-
  A bit of a byte turned; the file of items begins no other file: plain.
-/
namespace Go.Proofs.YtadakaenbemedaaGreatDoor
open Go.RowKit

theorem and65535 (x : Int) : bits .and .i64 x 65535 = x % 65536 := by
  have e1 : (BitVec.ofInt 64 x).toNat % 65536 = (x % 65536).toNat := by
    rw [BitVec.toNat_ofInt]
    omega
  have hn : (BitVec.ofInt 64 x &&& BitVec.ofInt 64 65535).toNat = (x % 65536).toNat := by
    rw [BitVec.toNat_and, show (BitVec.ofInt 64 65535).toNat = 65535 from by decide, show (65535 : Nat) = 2 ^ 16 - 1 from by omega, Nat.and_two_pow_sub_one_eq_mod]
    exact e1
  show IntKind.i64.wrap ((BitVec.ofInt 64 x &&& BitVec.ofInt 64 65535).toNat : Int) = _
  rw [hn, IntKind.wrap_i64]
  omega

theorem turn_byte (y bit : UInt8) : ∃ x : UInt8, bits .xor .u8 (y.toNat : Int) (2 ^ (bit.toNat % 8) % 256) = (x.toNat : Int) ∧ x ≠ y := by
  have hs : bit.toNat % 8 < 8 := Nat.mod_lt _ (by omega)
  generalize bit.toNat % 8 = s at hs
  have hp : 2 ^ s < 256 := Nat.lt_of_lt_of_le (Nat.pow_lt_pow_right (by omega) hs) (by omega)
  have hy := y.toNat_lt
  have hpos : 0 < 2 ^ s := Nat.pow_pos (by omega)
  have e : bits .xor .u8 (y.toNat : Int) ((2 : Int) ^ s % 256) = ((y.toNat ^^^ 2 ^ s : Nat) : Int) := by
    have h1 : ((2 : Int) ^ s % 256) = ((2 ^ s : Nat) : Int) := by
      rw [show (2 : Int) ^ s = ((2 ^ s : Nat) : Int) from by simp]
      omega
    rw [h1]
    exact u8_xor_nat _ _ (by omega) hp
  have hlt : y.toNat ^^^ 2 ^ s < 256 := Nat.xor_lt_two_pow (n := 8) (by omega) (by omega)
  refine ⟨UInt8.ofNat (y.toNat ^^^ 2 ^ s), ?_, fun h => ?_⟩
  · rw [u8_nat _ hlt]
    exact e
  · have h2 := congrArg UInt8.toNat h
    rw [u8_nat _ hlt] at h2
    have h3 := congrArg (y.toNat ^^^ ·) h2
    simp only [← Nat.xor_assoc, Nat.xor_self, Nat.zero_xor] at h3
    omega

theorem OwnB.stored {w : World} {base g n c : Nat} {l : List UInt8} (h : w.ownsRow base 5 1 (.slice (some ⟨g, 0, none⟩) n c) n (bv l)) (hn : l.length = n) (k : Nat) (x : UInt8) :
    OwnB (w.setCell ⟨g, k, none⟩ (.int .u8 (x.toNat : Int))) base (.slice (some ⟨g, 0, none⟩) n c) (l.set k x) := by
  have h2 := World.ownsRow.stored h k (.int .u8 (x.toNat : Int))
  unfold OwnB
  rw [List.length_set, hn, show bv (l.set k x) = (bv l).set k (.int .u8 (x.toNat : Int)) from by simp [bv, List.map_set]]
  exact h2.1


theorem outs_cons (o : List Item) (t : List (List Item)) (R : List UInt8) : outs (o :: t) ++ R = makeK 1 (packB o) ++ (outs t ++ R) := by
  show frB o ++ outs t ++ R = _
  unfold frB
  rw [frameOf_makeK 1 _ 1 rfl, List.append_assoc]
theorem frames_alone (T T' P P' : List UInt8) (hT : T.length ≤ 65535) (hT' : T'.length ≤ 65535) : ∀ (bl bl' : List (List Item)), (∀ o ∈ bl, checkN o = 0) → (∀ o ∈ bl', checkN o = 0) →
    outs bl ++ (makeK 2 T ++ P) = outs bl' ++ (makeK 2 T' ++ P') → P = P'
  | [], [], _, _, h => by
    have h1 := fnext_make 2 T P hT
    have h2 := fnext_make 2 T' P' hT'
    have h' : makeK 2 T ++ P = makeK 2 T' ++ P' := h
    rw [h', h2] at h1
    injection h1 with _ h1
    injection h1 with _ h1
    injection h1 with h1 _
    exact h1.symm
  | [], o :: t, _, hc, h => by
    exfalso
    have h1 := fnext_make 2 T P hT
    have h2 := fnext_make 1 (packB o) (outs t ++ (makeK 2 T' ++ P')) (by have := (packB_len2 (hc o (by simp))).2; omega)
    have h' : makeK 2 T ++ P = makeK 1 (packB o) ++ (outs t ++ (makeK 2 T' ++ P')) := by
      rw [← outs_cons]; exact h
    rw [h', h2] at h1
    injection h1 with h1 _
    exact absurd h1 (by decide)
  | o :: t, [], hc, _, h => by
    exfalso
    have h1 := fnext_make 2 T' P' hT'
    have h2 := fnext_make 1 (packB o) (outs t ++ (makeK 2 T ++ P)) (by have := (packB_len2 (hc o (by simp))).2; omega)
    have h' : makeK 1 (packB o) ++ (outs t ++ (makeK 2 T ++ P)) = makeK 2 T' ++ P' := by
      rw [← outs_cons]; exact h
    rw [h', h1] at h2
    injection h2 with h2 _
    exact absurd h2 (by decide)
  | o :: t, o' :: t', hc, hc', h => by
    have h1 := fnext_make 1 (packB o) (outs t ++ (makeK 2 T ++ P)) (by have := (packB_len2 (hc o (by simp))).2; omega)
    have h2 := fnext_make 1 (packB o') (outs t' ++ (makeK 2 T' ++ P')) (by have := (packB_len2 (hc' o' (by simp))).2; omega)
    have h' : makeK 1 (packB o) ++ (outs t ++ (makeK 2 T ++ P)) = makeK 1 (packB o') ++ (outs t' ++ (makeK 2 T' ++ P')) := by
      rw [← outs_cons, ← outs_cons]; exact h
    rw [h', h2] at h1
    injection h1 with _ h1
    injection h1 with _ h1
    injection h1 with h1 _
    exact frames_alone T T' P P' hT hT' t t' (fun y hy => hc y (by simp [hy])) (fun y hy => hc' y (by simp [hy])) h1.symm
/-- No file of items goes on from another's. -/
theorem file_alone {ls ls' : List Item} {t : List UInt8} (h : buildE ls = 0) (h' : buildE ls' = 0) (e : fileB ls' ++ t = fileB ls) : t = [] := by
  obtain ⟨-, -, h3, h4⟩ := buildE_ok h
  obtain ⟨-, -, k3, k4⟩ := buildE_ok h'
  unfold fileB at e
  rw [frameOf_makeK 2 _ 2 rfl, frameOf_makeK 2 _ 2 rfl, List.append_assoc, List.append_assoc, List.append_assoc] at e
  have := frames_alone _ _ _ _ k4 h4 _ _ (blk_checks k3) (blk_checks h3) e
  have hl := congrArg List.length this
  have e4 : ∀ m, (place4 m).length = 4 := fun m => by unfold place4 tail4; rfl
  rw [List.length_append, e4, e4] at hl
  exact List.eq_nil_of_length_eq_zero (by omega)
theorem open_cut {ls : List Item} (h : buildE ls = 0) {k : Nat} (hk : k < (fileB ls).length) : openB ((fileB ls).take k) = none := by
  cases ho : openB ((fileB ls).take k) with
  | none => rfl
  | some ls' =>
    obtain ⟨h1, h2⟩ := open_some ho
    have := file_alone h h1 (t := (fileB ls).drop k) (by rw [h2, List.take_append_drop])
    have hl := congrArg List.length this
    rw [List.length_drop, List.length_nil] at hl
    omega
theorem open_more {ls : List Item} (h : buildE ls = 0) (x : UInt8) : openB (fileB ls ++ [x]) = none := by
  cases ho : openB (fileB ls ++ [x]) with
  | none => rfl
  | some ls' =>
    obtain ⟨h1, h2⟩ := open_some ho
    have := file_alone h1 h h2.symm
    cases this
end Go.Proofs.YtadakaenbemedaaGreatDoor

/-
  The document's Check, From and Prefix of rising items.
-/
namespace Go.Proofs.YtadakaenbemedaaGreatDoor
open Go.RowKit

/-- May items be a file's? -/
def checkR (ls : List Item) : Nat := if 2000 < ls.length then 2 else if ls.length = 0 ∨ okB ls = false then 1 else 0

set_option maxRecDepth 100000 in
set_option maxHeartbeats 800000 in
theorem RefCheck_any (A : Option Addr) (n c : Nat) (ls : List Item) (hn : ls.length = n) (w : World) (hS : Sees2 w w.heap.size A ls) (hlen : n ≤ 1099511627776) :
    Calls Tryz.prog 73 #[.slice A n c] w (NumIs w (checkR ls)) := by
  have hnot : ∀ (x : Bool) (w : World), (Op.unary .not (.bool x)).run Tryz.prog w = .ok (.bool (!x)) w := fun _ _ => rfl
  obtain ⟨X, hX⟩ : ∃ X, checkR ls = X := ⟨_, rfl⟩
  rw [hX]
  unfold checkR at hX
  rw [hn] at hX
  by_cases h2000 : 2000 < n
  · rw [if_pos h2000] at hX
    have HX := Lib.hid hX
    clear hX hn
    go_enter Tryz.func73, Tryz.ntmps73
    go_wp2
    go_ret
    unfold NumIs
    rw [← HX.out]
    exact ⟨rfl, 0, rfl⟩
  rw [if_neg h2000] at hX
  obtain ⟨r, hr⟩ : ∃ r, risesB ls = r := ⟨_, rfl⟩
  have hRi := RefRises_any A n c ls hn w hS hlen
  rw [hr] at hRi
  have hX2 : Hid (X = if n = 0 ∨ r = false ∨ ls.any badL = true then 1 else 0) := by
    unfold Hid
    rw [← hX]
    unfold okB
    rw [hr]
    cases r <;> cases ls.any badL <;> simp
  have HN := Lib.hid hn
  obtain ⟨an, han⟩ : ∃ an, ls.any badL = an := ⟨_, rfl⟩
  rw [han] at hX2
  have HAN := Lib.hid han
  have HRi := Lib.hid hRi
  clear hX hn hr han hRi
  go_enter Tryz.func73, Tryz.ntmps73
  go_wp2_with fail
  refine HRi.out.mono ?_
  rintro e w1 ⟨rfl, q, rfl⟩
  go_wp2
  go_loopg [4] n (fun g i wr => ∃ k : Nat, k + g = n ∧ i = .int .i64 k ∧ Hid (an = (ls.drop k).any badL) ∧ wr = w.drewN q)
  case atStart => exact ⟨0, by omega, rfl, HAN.out.symm, rfl⟩
  case round =>
    obtain ⟨k, hk, rfl, heq, rfl⟩ := hrel
    by_cases hlt : k < n
    · obtain ⟨ad, Ai, ci, rfl, hadB, hcell, hci, hsee⟩ := hS.out k (by have := HN.out; omega)
      have hstep := Lib.hid (heq.out.trans (any_at (ls := ls) (k := k) (by have := HN.out; omega)))
      obtain ⟨L, hL⟩ : ∃ L, ls[k]'(by have := HN.out; omega) = L := ⟨_, rfl⟩
      rw [hL] at hcell hci hsee hstep
      have hcellq : (w.drewN q).cell? (ad.add k) = some (.slice Ai L.length ci) := hcell
      clear hL heq
      by_cases hb0 : L.length < 1
      · have HF : Hid (X = 1) := by
          have h1 := hX2.out
          have h2 := hstep.out
          unfold badL at h2
          rw [decide_eq_true hb0, Bool.true_or, Bool.true_or] at h2
          unfold Hid
          rw [h1, h2]; simp
        clear hstep
        go_wp2
        go_ret
        unfold NumIs
        rw [HF.out]
        exact ⟨rfl, q, rfl⟩
      · by_cases hb : 400 < L.length
        · have HF : Hid (X = 1) := by
            have h1 := hX2.out
            have h2 := hstep.out
            unfold badL at h2
            rw [decide_eq_true hb, Bool.or_true, Bool.true_or] at h2
            unfold Hid
            rw [h1, h2]; simp
          clear hstep
          go_wp2
          go_ret
          unfold NumIs
          rw [HF.out]
          exact ⟨rfl, q, rfl⟩
        · have hT : Hid (an = (ls.drop (k + 1)).any badL) := by
            have h2 := hstep.out
            unfold badL at h2
            rw [decide_eq_false hb, decide_eq_false hb0, Bool.or_self, Bool.false_or] at h2
            exact h2
          clear hstep
          go_wp2
          go_roundg (n - (k + 1))
          case measure => omega
          case rel => exact ⟨k + 1, by omega, by go_num, hT, rfl⟩
    · have HF : Hid (an = false) := by have := heq.out; rw [List.drop_eq_nil_of_le (by have := HN.out; omega)] at this; exact this
      have h2 := hX2.out
      rw [HF.out] at h2
      clear heq
      cases r with
      | false =>
        have h3 : Hid (X = 1) := by unfold Hid; rw [h2]; simp
        clear h2
        go_wp2
        go_ret
        unfold NumIs
        rw [h3.out]
        exact ⟨rfl, q, rfl⟩
      | true =>
        by_cases hn0 : n = 0
        · have h3 : Hid (X = 1) := by unfold Hid; rw [h2, hn0]; simp
          clear h2
          go_wp2
          go_ret
          unfold NumIs
          rw [h3.out]
          exact ⟨rfl, q, rfl⟩
        · have h3 : Hid (X = 0) := by unfold Hid; rw [h2]; simp [hn0]
          clear h2
          go_wp2
          go_ret
          unfold NumIs
          rw [h3.out]
          exact ⟨rfl, q, rfl⟩

/-- A row of the call's own whose rows of bytes lie below its blocks. -/
structure RowR (w : World) (base : Nat) (v : Value) (ls : List (List UInt8)) : Prop where
  out : ∃ vs : List Value, w.ownsRow base 27 1 v ls.length vs ∧ ∀ i (hi : i < ls.length), ∃ Ai ci, vs[i]? = some (.slice Ai (ls[i]).length ci) ∧ (ls[i]).length ≤ ci ∧ Sees w base Ai (bv ls[i])
section
variable {w w' : World} {base : Nat} {v : Value} {ls : List (List UInt8)}
theorem RowR.nil (w : World) (base : Nat) : RowR w base (.slice none 0 0) [] := ⟨[], World.ownsRow_nil w base _ 1, fun i hi => absurd hi (by simp)⟩
theorem RowR.below (h : RowR w base v ls) (hb : Below w.heap.size w w') (hB : base ≤ w.heap.size) : RowR w' base v ls := by
  obtain ⟨vs, h1, h2⟩ := h.out
  refine ⟨vs, own_below h1 hb, fun i hi => ?_⟩
  obtain ⟨Ai, ci, h3, h4, h5⟩ := h2 i hi
  exact ⟨Ai, ci, h3, h4, h5.below (hb.mono hB)⟩
theorem RowR.open_ (h : RowR w base v ls) (hB : base ≤ w.heap.size) : ∃ A c, v = .slice A ls.length c ∧ ls.length ≤ c ∧ Sees2 w w.heap.size A ls := by
  obtain ⟨vs, h1, h2⟩ := h.out
  rcases h1.2 with ⟨rfl, hn⟩ | ⟨g, cap, cur, rfl, hb, hh, hc, hm, _⟩
  · have : ls = [] := List.eq_nil_of_length_eq_zero hn
    subst this
    exact ⟨none, 0, rfl, by simp, ⟨fun i hi => absurd hi (by simp)⟩⟩
  · refine ⟨_, cap, rfl, hc, ⟨fun i hi => ?_⟩⟩
    obtain ⟨Ai, ci, h3, h4, h5⟩ := h2 i hi
    exact ⟨_, Ai, ci, rfl, (Array.getElem?_eq_some_iff.1 hh).1, h1.cells (g := g) rfl i _ h3, h4, h5.more hB⟩
end
/-- append of one row onto such a row. -/
theorem wpList_append_r {w : World} {ops : Array Oper} {rest : List Oper} {o : Oper} {a : Act} {Q : Exit → Act → World → Prop} (hgd : o.guard = none) (s x : Operand)
    (ho : o.op = .call { callee := .builtin .append, args := #[s, x], argTypes := #[31, 31] })
    (base : Nat) (v : Value) (ls : List (List UInt8)) (hs : a.eval s = v) (hown : RowR w base v ls) (A : Option Addr) (c : Nat) (y : List UInt8) (Ay : Option Addr) (cy : Nat)
    (hx : a.eval x = .slice A 1 c) (hy : Sees w w.heap.size A [.slice Ay y.length cy]) (hyc : y.length ≤ cy) (hsee : Sees w base Ay (bv y))
    (hlen : ls.length ≤ 1000000) (hbase : base ≤ w.heap.size)
    (h : ∀ v' w', RowR w' base v' (ls ++ [y]) → Onto w w' v v' → (∀ k, v.ownBlock = some k → base ≤ k) → wpList Tryz.prog ops Q rest (a.put o.dst v') w') : wpList Tryz.prog ops Q (o :: rest) a w := by
  obtain ⟨i, hi, hz0, hz1, hz2⟩ := info_parts Tryz.sinfo
  obtain ⟨vs, h1, h2⟩ := hown.out
  have hvs : vs.length = ls.length := by have := h1.1; omega
  have hob : ∀ k, v.ownBlock = some k → base ≤ k := own_block h1
  refine wpList_append_v hgd s x 31 ho 27 i _ 1 24 Tryz.underlying31 hi hz0 hz1 hz2 rfl (by omega) base v ls.length vs hs h1 w.heap.size A 1 c [Value.slice Ay y.length cy] hx rfl hy
    (fun u hu => by simp at hu; subst hu; rfl) (by simp only [maxLen]; omega) (by omega) hbase
    (fun v' w' g1 g2 => h v' w' ?_ g2 hob)
  refine ⟨vs ++ [.slice Ay y.length cy], by rw [List.length_append]; exact g1, fun i hi => ?_⟩
  by_cases hlt : i < ls.length
  · obtain ⟨Ai, ci, h3, h4, h5⟩ := h2 i hlt
    rw [List.getElem_append_left hlt, List.getElem?_append_left (by omega)]
    exact ⟨Ai, ci, h3, h4, h5.onto g2 hbase hob⟩
  · have he : i = ls.length := by simp at hi; omega
    subst he
    rw [List.getElem_append_right (Nat.le_refl _), List.getElem?_append_right (by omega)]
    refine ⟨Ay, cy, ?_, ?_, ?_⟩
    · simp [hvs]
    · simpa using hyc
    · simpa using hsee.onto g2 hbase hob

theorem sees_cell1 (w : World) (u : Value) (e : TypeId) : Sees (w.alloc (.cells #[u] e)) (w.alloc (.cells #[u] e)).heap.size (some ⟨w.heap.size, 0, none⟩) [u] :=
  ⟨.inr ⟨_, rfl, by simp, fun j z hz => by match j, hz with | 0, hz => (simp at hz; subst hz; rw [Addr.add_lit, World.cell?_alloc_at _ _ _ _ rfl]; rfl)⟩⟩

def fromK (ls : List Item) (x : Item) (k : Nat) : List Item := (ls.take k).filter fun y => !ahead y x
theorem fromK_step {ls : List Item} {x : Item} {k : Nat} (h : k < ls.length) : fromK ls x (k + 1) = if ahead ls[k] x then fromK ls x k else fromK ls x k ++ [ls[k]] := by
  unfold fromK
  rw [take_snoc h, List.filter_append]
  cases hh : ahead ls[k] x <;> simp [hh]
theorem fromK_len (ls : List Item) (x : Item) (k : Nat) : (fromK ls x k).length ≤ k := Nat.le_trans (List.length_filter_le _ _) (by rw [List.length_take]; omega)
theorem fromK_end {ls : List Item} (x : Item) {k : Nat} (h : ls.length ≤ k) : fromK ls x k = fromL ls x := by unfold fromK fromL; rw [List.take_of_length_le h]
theorem fromK_cut {ls : List Item} {x : Item} {k m : Nat} (h : (fromK ls x k).length = m) : (fromL ls x).take m = fromK ls x k := by
  have : fromL ls x = fromK ls x k ++ (ls.drop k).filter fun y => !ahead y x := by
    unfold fromL fromK
    rw [← List.filter_append, List.take_append_drop]
  rw [this, List.take_append_of_le_length (by omega), ← h, List.take_length]

def RowRIs (w : World) (ls : List Item) (e : Ending) (w' : World) : Prop := ∃ v, e = .returned v ∧ RowR w' w.heap.size v ls ∧ Below w.heap.size w w'

set_option maxRecDepth 100000 in
set_option maxHeartbeats 1600000 in
theorem RefFrom_any (A : Option Addr) (n c : Nat) (ls : List Item) (hn : ls.length = n) (w : World) (hS : Sees2 w w.heap.size A ls) (Bx : Option Addr) (lx dx : Nat) (x : Item) (hx : Sees w w.heap.size Bx (bv x)) (hxl : x.length = lx) (most : Int) (hlen : n ≤ 2000) :
    Calls Tryz.prog 22 #[.slice A n c, .slice Bx lx dx, .int .i64 most] w (RowRIs w ((fromL ls x).take most.toNat)) := by
  obtain ⟨X, hX⟩ : ∃ X, (fromL ls x).take most.toNat = X := ⟨_, rfl⟩
  rw [hX]
  have HX := Lib.hid hX
  have HN := Lib.hid hn
  have HXL := Lib.hid hxl
  clear hn hX hxl
  go_enter Tryz.func22, Tryz.ntmps22
  go_wp2
  go_loopg [7, 8] n (fun g u i wr => ∃ k : Nat, k + g = n ∧ i = .int .i64 k ∧ RowR wr w.heap.size u (fromK ls x k) ∧ Hid ((fromK ls x k).length ≤ most.toNat) ∧ Below w.heap.size w wr)
  case atStart => exact ⟨0, by omega, rfl, RowR.nil _ _, Nat.zero_le _, Below.refl _ _⟩
  case round =>
    obtain ⟨k, hk, rfl, hrow, hle, hb⟩ := hrel
    have hbs := hb.size
    obtain ⟨Av, cv, rfl, hcv, -⟩ := hrow.open_ hbs
    obtain ⟨m, hm⟩ : ∃ m, (fromK ls x k).length = m := ⟨_, rfl⟩
    have hmk : m ≤ k := by rw [← hm]; exact fromK_len _ _ _
    rw [hm] at hcv hle hrow ⊢
    have HM := Lib.hid hm
    clear hm
    by_cases hlt : k < n
    · by_cases hmm : (m : Int) < most
      · obtain ⟨ad, Ai, ci, rfl, hadB, hcell0, hci, hsee⟩ := hS.out k (by have := HN.out; omega)
        have hstep := Lib.hid (fromK_step (ls := ls) (x := x) (k := k) (by have := HN.out; omega))
        obtain ⟨L, hL⟩ : ∃ L, ls[k]'(by have := HN.out; omega) = L := ⟨_, rfl⟩
        rw [hL] at hcell0 hci hsee hstep
        clear hL
        have hcell : wr.cell? (ad.add k) = some (.slice Ai L.length ci) := (hb.cell (by rw [add_block]; exact hadB)).trans hcell0
        have hseer := hsee.below hb
        have hxr := hx.below hb
        have cv1 := fun p => run_str (wr.drewN p) _ Ai L.length ci L (hseer.drewN p) rfl
        have cv2 := fun p => run_str (wr.drewN p) _ Bx lx dx x (hxr.drewN p) HXL.out
        have hble : Op.bytesLess (strOf L).toList (strOf x).toList = ahead L x := by rw [strOf_toList, strOf_toList]; rfl
        obtain ⟨b, hbb⟩ : ∃ b, ahead L x = b := ⟨_, rfl⟩
        rw [hbb] at hble hstep
        clear hbb
        cases b with
        | true =>
          have hT : Hid (fromK ls x (k + 1) = fromK ls x k) := hstep.out
          clear hstep
          go_wp2
          go_quiet (fail)
          go_wp2
          go_roundg (n - (k + 1))
          case measure => omega
          case rel => exact ⟨k + 1, by omega, by go_num, by rw [hT.out]; exact (hrow.below (below_d (Below.refl _ _) _) hbs), by unfold Hid; rw [hT.out, HM.out]; exact hle.out, below_d hb _⟩
        | false =>
          have hT : Hid (fromK ls x (k + 1) = fromK ls x k ++ [L]) := hstep.out
          have hml : Hid (m + 1 ≤ most.toNat) := by unfold Hid; omega
          clear hstep
          go_wp2
          go_quiet (fail)
          go_wp2_with (at_builtin; (refine wpList_append_r rfl (.tmp 29) (.tmp 34) rfl w.heap.size _ (fromK ls x k) (by rfl) (hrow.below ((below_d (Below.refl _ _) _).alloc (Nat.le_refl _) _) hbs) (some ⟨_, 0, none⟩) 1 L Ai ci (by rfl) (sees_cell1 _ _ _) hci ((hseer.drewN _).alloc (by simpa using hbs) _) (by have := HM.out; omega) (by simp; omega) ?_; intro v2 w2 hrow2 hon2 hob2))
          go_roundg (n - (k + 1))
          case measure => omega
          case rel => exact ⟨k + 1, by omega, by go_num, by rw [hT.out]; exact hrow2, by unfold Hid; rw [hT.out, List.length_append, HM.out]; exact hml.out, (below_d hb _).trans (((Onto.of_alloc _ _ _).trans hon2).below (by simpa using hbs) hob2)⟩
      · have HE : Hid (X = fromK ls x k) := by
          unfold Hid
          rw [← HX.out]
          exact fromK_cut (by have := HM.out; have := hle.out; omega)
        go_wp2
        go_ret
        refine ⟨_, rfl, ?_, hb⟩
        rw [HE.out]; exact hrow
    · have HE : Hid (X = fromK ls x k) := by
        unfold Hid
        rw [← HX.out, ← fromK_end x (by have := HN.out; omega : ls.length ≤ k), List.take_of_length_le]
        have := HM.out
        have := hle.out
        omega
      go_wp2
      go_ret
      refine ⟨_, rfl, ?_, hb⟩
      rw [HE.out]; exact hrow

theorem preB_cut {x L : Item} {lx : Nat} (h : x.length = lx) : preB x L = (decide (lx ≤ L.length) && (L.take lx == x)) := by
  subst h
  unfold preB
  by_cases hp : x <+: L
  · rw [decide_eq_true hp, decide_eq_true hp.length_le, ← List.prefix_iff_eq_take.1 hp]; simp
  · rw [decide_eq_false hp]
    symm
    rw [Bool.and_eq_false_iff]
    by_cases hl : x.length ≤ L.length
    · refine .inr ?_
      rw [beq_eq_false_iff_ne]
      exact fun e => hp (by rw [← e]; exact List.take_prefix _ _)
    · exact .inl (decide_eq_false hl)

def preK (ls : List Item) (x : Item) (k : Nat) : List Item := (ls.take k).filter (preB x)
theorem preK_step {ls : List Item} {x : Item} {k : Nat} (h : k < ls.length) : preK ls x (k + 1) = if preB x ls[k] then preK ls x k ++ [ls[k]] else preK ls x k := by
  unfold preK
  rw [take_snoc h, List.filter_append]
  cases hh : preB x ls[k] <;> simp [hh]
theorem preK_len (ls : List Item) (x : Item) (k : Nat) : (preK ls x k).length ≤ k := Nat.le_trans (List.length_filter_le _ _) (by rw [List.length_take]; omega)

set_option maxRecDepth 100000 in
set_option maxHeartbeats 1600000 in
theorem RefPrefix_any (A : Option Addr) (n c : Nat) (ls : List Item) (hn : ls.length = n) (w : World) (hS : Sees2 w w.heap.size A ls) (Bx : Option Addr) (lx dx : Nat) (x : Item) (hx : Sees w w.heap.size Bx (bv x)) (hxl : x.length = lx) (hlen : n ≤ 2000) (_hl6 : lx ≤ 1000000) :
    Calls Tryz.prog 24 #[.slice A n c, .slice Bx lx dx] w (RowRIs w (ls.filter (preB x))) := by
  obtain ⟨X, hX⟩ : ∃ X, ls.filter (preB x) = X := ⟨_, rfl⟩
  rw [hX]
  have HX := Lib.hid hX
  have HN := Lib.hid hn
  have HXL := Lib.hid hxl
  clear hn hX hxl
  go_enter Tryz.func24, Tryz.ntmps24
  go_wp2
  go_loopg [5, 6] n (fun g u i wr => ∃ k : Nat, k + g = n ∧ i = .int .i64 k ∧ RowR wr w.heap.size u (preK ls x k) ∧ Below w.heap.size w wr)
  case atStart => exact ⟨0, by omega, rfl, RowR.nil _ _, Below.refl _ _⟩
  case round =>
    obtain ⟨k, hk, rfl, hrow, hb⟩ := hrel
    have hbs := hb.size
    obtain ⟨Av, cv, rfl, hcv, -⟩ := hrow.open_ hbs
    obtain ⟨m, hm⟩ : ∃ m, (preK ls x k).length = m := ⟨_, rfl⟩
    have hmk : m ≤ k := by rw [← hm]; exact preK_len _ _ _
    rw [hm] at hcv hrow ⊢
    have HM := Lib.hid hm
    clear hm
    by_cases hlt : k < n
    · obtain ⟨ad, Ai, ci, rfl, hadB, hcell0, hci, hsee⟩ := hS.out k (by have := HN.out; omega)
      have hstep := Lib.hid (preK_step (ls := ls) (x := x) (k := k) (by have := HN.out; omega))
      obtain ⟨L, hL⟩ : ∃ L, ls[k]'(by have := HN.out; omega) = L := ⟨_, rfl⟩
      rw [hL] at hcell0 hci hsee hstep
      clear hL
      have hcell : wr.cell? (ad.add k) = some (.slice Ai L.length ci) := (hb.cell (by rw [add_block]; exact hadB)).trans hcell0
      have hseer := hsee.below hb
      have hxr := hx.below hb
      have hpe := preB_cut (L := L) HXL.out
      obtain ⟨b, hbb⟩ : ∃ b, preB x L = b := ⟨_, rfl⟩
      rw [hbb] at hpe hstep
      clear hbb
      by_cases hll : lx ≤ L.length
      · have hT0 : Hid (b = (L.take lx == x)) := by unfold Hid; rw [hpe, decide_eq_true hll, Bool.true_and]
        have htl : (L.take lx).length = lx := by rw [List.length_take]; omega
        have cv1 := fun p => run_str (wr.drewN p) _ Ai lx ci (L.take lx) (by rw [bv_take]; exact (hseer.drewN p).take lx) htl
        have cv2 := fun p => run_str (wr.drewN p) _ Bx lx dx x (hxr.drewN p) HXL.out
        have hble : ((strOf (L.take lx)).toList == (strOf x).toList) = b := by rw [strOf_toList, strOf_toList, hT0.out]
        have hlc : lx ≤ ci := by omega
        clear hpe hT0 htl
        cases b with
        | true =>
          have hT : Hid (preK ls x (k + 1) = preK ls x k ++ [L]) := hstep.out
          clear hstep
          go_wp2
          go_quiet (fail)
          go_wp2_with (at_builtin; (refine wpList_append_r rfl (.tmp 34) (.tmp 39) rfl w.heap.size _ (preK ls x k) (by rfl) (hrow.below ((below_d (Below.refl _ _) _).alloc (Nat.le_refl _) _) hbs) (some ⟨_, 0, none⟩) 1 L Ai ci (by rfl) (sees_cell1 _ _ _) hci ((hseer.drewN _).alloc (by simpa using hbs) _) (by have := HM.out; omega) (by simp; omega) ?_; intro v2 w2 hrow2 hon2 hob2))
          go_roundg (n - (k + 1))
          case measure => omega
          case rel => exact ⟨k + 1, by omega, by go_num, by rw [hT.out]; exact hrow2, (below_d hb _).trans (((Onto.of_alloc _ _ _).trans hon2).below (by simpa using hbs) hob2)⟩
        | false =>
          have hT : Hid (preK ls x (k + 1) = preK ls x k) := hstep.out
          clear hstep
          go_wp2
          go_quiet (fail)
          go_wp2
          go_roundg (n - (k + 1))
          case measure => omega
          case rel => exact ⟨k + 1, by omega, by go_num, by rw [hT.out]; exact (hrow.below (below_d (Below.refl _ _) _) hbs), below_d hb _⟩
      · have hT : Hid (preK ls x (k + 1) = preK ls x k) := by
          unfold Hid
          rw [decide_eq_false hll, Bool.false_and] at hpe
          rw [hstep.out, hpe]; simp
        clear hstep hpe
        go_wp2
        go_quiet (fail)
        go_wp2
        go_roundg (n - (k + 1))
        case measure => omega
        case rel => exact ⟨k + 1, by omega, by go_num, by rw [hT.out]; exact (hrow.below (below_d (Below.refl _ _) _) hbs), below_d hb _⟩
    · have HE : Hid (X = preK ls x k) := by
        unfold Hid
        rw [← HX.out]
        unfold preK
        rw [List.take_of_length_le (by have := HN.out; omega)]
      go_wp2
      go_ret
      refine ⟨_, rfl, ?_, hb⟩
      rw [HE.out]; exact hrow
end Go.Proofs.YtadakaenbemedaaGreatDoor
