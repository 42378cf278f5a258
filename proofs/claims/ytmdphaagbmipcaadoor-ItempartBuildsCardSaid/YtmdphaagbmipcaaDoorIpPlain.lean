/-
  Files of rising items: plain lists.
-/
import Derived.Test.YtmdphaagbmipcaaDoorItm
import Derived.Test.YtmdphaagbmipcaaDoorFrm
namespace Go.Proofs.YtmdphaagbmipcaaDoor
open Go.RowKit

/-- A block's frame. -/
def frB (o : List Item) : List UInt8 := frameOf 1 (packB o)
/-- The blocks' frames. -/
def outs (bl : List (List Item)) : List UInt8 := bl.flatMap frB
/-- What the index says of blocks, the first of which begins at a place. -/
def idxs : Nat → List (List Item) → List UInt8
  | _, [] => []
  | p, o :: t => venc p ++ venc (o.headD []).length ++ o.headD [] ++ idxs (p + (frB o).length) t
/-- The index. -/
def tabB (bl : List (List Item)) : List UInt8 := venc bl.length ++ idxs 0 bl
/-- Four bytes that tell a place. -/
def place4 (n : Nat) : List UInt8 := tail4 n
def fileB (ls : List Item) : List UInt8 := outs (blk ls) ++ frameOf 2 (tabB (blk ls)) ++ place4 (outs (blk ls)).length
/-- Items rise, and each may be. -/
def okB (ls : List Item) : Bool := risesB ls && !(ls.any badL)
/-- The error of Build. -/
def buildE (ls : List Item) : Nat := if 2000 < ls.length then 2 else if ls.length = 0 ∨ okB ls = false then 1 else if 65535 < (tabB (blk ls)).length then 2 else 0

theorem outs_append (a b : List (List Item)) : outs (a ++ b) = outs a ++ outs b := by simp [outs]
theorem outs_one (o : List Item) : outs [o] = frB o := by simp [outs]
theorem idxs_append : ∀ (p : Nat) (a b : List (List Item)), idxs p (a ++ b) = idxs p a ++ idxs (p + (outs a).length) b
  | p, [], b => by simp [idxs, outs]
  | p, o :: t, b => by
    have ih := idxs_append (p + (frB o).length) t b
    have e : (outs (o :: t)).length = (frB o).length + (outs t).length := by simp [outs]
    rw [List.cons_append]
    simp only [idxs]
    rw [ih, e, ← Nat.add_assoc]
    simp only [List.append_assoc]
theorem idxs_one (p : Nat) (o : List Item) : idxs p [o] = venc p ++ venc (o.headD []).length ++ o.headD [] := by simp [idxs]

theorem take_snoc {α : Type} {l : List α} {k : Nat} (h : k < l.length) : l.take (k + 1) = l.take k ++ [l[k]] := by
  rw [List.take_add_one, List.getElem?_eq_getElem h]; rfl

theorem headD_get {o : List Item} (h : 0 < o.length) : o.headD [] = o[0] := by
  cases o with
  | nil => simp at h
  | cons x t => rfl
/-- Blocks by their places. -/
theorem blk_at : ∀ (m : Nat) (ls : List Item) (j : Nat), ls.length ≤ m → (h : j < (blk ls).length) → (blk ls)[j] = (ls.drop (8 * j)).take 8
  | 0, ls, j, hm, h => by rw [blk_nil (by omega)] at h; simp at h
  | m + 1, ls, j, hm, h => by
    by_cases h0 : ls.length = 0
    · rw [blk_nil h0] at h; simp at h
    · have hc := blk_cons (ls := ls) (by omega)
      cases j with
      | zero => simp [hc]
      | succ j =>
        have h2 : j < (blk (ls.drop 8)).length := by rw [hc] at h; simpa using h
        have := blk_at m (ls.drop 8) j (by rw [List.length_drop]; omega) h2
        simp only [hc, List.getElem_cons_succ, this, List.drop_drop]
        congr 2
        omega
theorem blk_len : ∀ (m : Nat) (ls : List Item), ls.length ≤ m → (blk ls).length = (ls.length + 7) / 8
  | 0, ls, hm => by rw [blk_nil (by omega)]; simp; omega
  | m + 1, ls, hm => by
    by_cases h0 : ls.length = 0
    · rw [blk_nil h0]; simp; omega
    · rw [blk_cons (by omega), List.length_cons, blk_len m _ (by rw [List.length_drop]; omega), List.length_drop]
      omega
theorem blk_get {ls : List Item} {j : Nat} (h : j < (blk ls).length) : (blk ls)[j] = (ls.drop (8 * j)).take 8 := blk_at ls.length ls j (Nat.le_refl _) h
theorem blk_length (ls : List Item) : (blk ls).length = (ls.length + 7) / 8 := blk_len ls.length ls (Nat.le_refl _)
theorem blk_flat : ∀ (m : Nat) (ls : List Item), ls.length ≤ m → (blk ls).flatten = ls
  | 0, ls, hm => by rw [blk_nil (by omega)]; simp; exact List.eq_nil_of_length_eq_zero (show ls.length = 0 by omega)
  | m + 1, ls, hm => by
    by_cases h0 : ls.length = 0
    · rw [blk_nil h0]; simp; exact List.eq_nil_of_length_eq_zero h0
    · rw [blk_cons (by omega), List.flatten_cons, blk_flat m _ (by rw [List.length_drop]; omega), List.take_append_drop]
theorem blk_flatten (ls : List Item) : (blk ls).flatten = ls := blk_flat ls.length ls (Nat.le_refl _)

/-- The first m items are well, and rise. -/
structure OkTo (ls : List Item) (m : Nat) : Prop where
  fine : ∀ i (h : i < ls.length), i < m → badL ls[i] = false
  up : ∀ i (h : i + 1 < ls.length), i + 1 < m → ahead ls[i] ls[i + 1] = true
theorem OkTo.zero (ls : List Item) : OkTo ls 0 := ⟨fun _ _ h => by omega, fun _ _ h => by omega⟩
theorem rises_of : ∀ {ls : List Item}, (∀ i (h : i + 1 < ls.length), ahead ls[i] ls[i + 1] = true) → risesB ls = true
  | [], _ => rfl
  | [_], _ => rfl
  | a :: b :: t, h => by
    have h0 := h 0 (by simp)
    have ih := rises_of (ls := b :: t) (fun i hi => by have := h (i + 1) (by simpa using hi); simpa using this)
    simp only [List.getElem_cons_zero, List.getElem_cons_succ] at h0
    simp only [risesB, h0, ih, Bool.and_self]
theorem OkTo.ok {ls : List Item} {m : Nat} (h : OkTo ls m) (hm : ls.length ≤ m) : okB ls = true := by
  unfold okB
  rw [rises_of (fun i hi => h.up i hi (by omega))]
  have : ls.any badL = false := by
    rw [List.any_eq_false]
    intro x hx
    obtain ⟨i, hi, rfl⟩ := List.mem_iff_getElem.1 hx
    rw [h.fine i hi (by omega)]; simp
  rw [this]; rfl
theorem ok_parts {ls : List Item} (h : okB ls = true) : risesB ls = true ∧ ∀ x ∈ ls, badL x = false := by
  unfold okB at h
  rw [Bool.and_eq_true] at h
  refine ⟨h.1, fun x hx => ?_⟩
  have := h.2
  rw [Bool.not_eq_true', List.any_eq_false] at this
  have := this x hx
  simpa using this
theorem not_ok_ahead {ls : List Item} {i : Nat} (h : i + 1 < ls.length) (hn : ahead ls[i] ls[i + 1] = false) : okB ls = false := by
  cases ho : okB ls with
  | false => rfl
  | true =>
    have := rises_pair (ok_parts ho).1 (i := i) (j := i + 1) (by omega) h (by omega)
    rw [hn] at this; exact absurd this (by simp)
/-- A block of what is left. -/
theorem block_get {ls : List Item} {k i : Nat} (h : i < ((ls.drop k).take 8).length) : ((ls.drop k).take 8)[i] = ls[k + i]'(by rw [List.length_take, List.length_drop] at h; omega) := by
  rw [List.getElem_take, List.getElem_drop]
theorem OkTo.step {ls : List Item} {k : Nat} (h : OkTo ls (8 * k)) (hk : 8 * k < ls.length) (hb : ∀ (_ : 0 < k), ahead (ls[8 * k - 1]'(by omega)) ls[8 * k] = true) (hc : checkN ((ls.drop (8 * k)).take 8) = 0) : OkTo ls (8 * (k + 1)) := by
  obtain ⟨h8, h1, h3, h4⟩ := check_ok hc
  have hl : ((ls.drop (8 * k)).take 8).length = min 8 (ls.length - 8 * k) := by rw [List.length_take, List.length_drop]
  refine ⟨fun i hi him => ?_, fun i hi him => ?_⟩
  · by_cases hlt : i < 8 * k
    · exact h.fine i hi hlt
    · have := h3 (i - 8 * k) (by omega)
      rw [block_get] at this
      simp only [show 8 * k + (i - 8 * k) = i from by omega] at this
      unfold badL
      rw [Bool.or_eq_false_iff, decide_eq_false_iff_not, decide_eq_false_iff_not]
      omega
  · by_cases hlt : i + 1 < 8 * k
    · exact h.up i hi hlt
    · by_cases he : i + 1 = 8 * k
      · have := hb (by omega)
        simp only [show 8 * k - 1 = i from by omega, ← he] at this
        exact this
      · have := rises_pair h4 (i := i - 8 * k) (j := i + 1 - 8 * k) (by omega) (by omega) (by omega)
        rw [block_get, block_get] at this
        simp only [show 8 * k + (i - 8 * k) = i from by omega, show 8 * k + (i + 1 - 8 * k) = i + 1 from by omega] at this
        exact this
theorem not_ok_block {ls : List Item} {k : Nat} (hk : 8 * k < ls.length) (hc : checkN ((ls.drop (8 * k)).take 8) ≠ 0) : okB ls = false ∧ checkN ((ls.drop (8 * k)).take 8) = 1 := by
  have hl : ((ls.drop (8 * k)).take 8).length = min 8 (ls.length - 8 * k) := by rw [List.length_take, List.length_drop]
  have h1 : checkN ((ls.drop (8 * k)).take 8) = 1 := by
    rcases check_nz hc with h | h
    · exact h
    · unfold checkN at h; rw [if_neg (by omega)] at h; split at h <;> simp at h
  refine ⟨?_, h1⟩
  cases ho : okB ls with
  | false => rfl
  | true =>
    exfalso
    obtain ⟨hr, hf⟩ := ok_parts ho
    apply hc
    unfold checkN
    rw [if_neg (by omega), if_neg]
    rintro (h | h | h)
    · omega
    · rw [List.any_eq_true] at h
      obtain ⟨x, hx, hb⟩ := h
      rw [hf x (List.mem_of_mem_drop (List.mem_of_mem_take hx))] at hb
      exact absurd hb (by simp)
    · rw [rises_of (fun i hi => by
        rw [block_get, block_get]
        exact rises_pair hr (by omega) (by omega) (by omega))] at h
      exact absurd h (by simp)
/-- A block of items that are well. -/
theorem block_ok {ls : List Item} (ho : okB ls = true) {k : Nat} (hk : 8 * k < ls.length) : checkN ((ls.drop (8 * k)).take 8) = 0 := by
  by_cases h : checkN ((ls.drop (8 * k)).take 8) = 0
  · exact h
  · have := (not_ok_block hk h).1; rw [ho] at this; exact absurd this (by simp)

theorem venc_le2 {u : Nat} (h : u < 16384) : (venc u).length ≤ 2 := venc_len_aux 1 u (by omega)
theorem venc_le4 {u : Nat} (h : u < 268435456) : (venc u).length ≤ 4 := venc_len_aux 3 u (by omega)
theorem packFrom_len2 : ∀ (ls : List Item) (p : List UInt8), (∀ x ∈ ls, x.length ≤ 400) → (packFrom p ls).length ≤ 404 * ls.length
  | [], _, _ => by simp [packFrom]
  | x :: t, p, h => by
    have hx := h x (by simp)
    have ih := packFrom_len2 t x (fun y hy => h y (by simp [hy]))
    have hc := common_le p x
    have v1 := venc_le2 (u := common p x) (by omega)
    have v2 := venc_le2 (u := x.length - common p x) (by omega)
    rw [packFrom_cons]
    simp only [List.length_append, List.length_drop, List.length_cons]
    omega
theorem packB_len2 {ls : List Item} (h : checkN ls = 0) : 1 ≤ (packB ls).length ∧ (packB ls).length ≤ 3240 := by
  obtain ⟨h8, h1, _, _⟩ := check_ok h
  have := packFrom_len2 ls [] (check_all h)
  have v1 := venc_le2 (u := ls.length) (by omega)
  have v2 := venc_pos ls.length
  unfold packB
  rw [List.length_append]
  omega
theorem frameOf_len (kind : Int) (l : List UInt8) : (frameOf kind l).length = 1 + (venc l.length).length + l.length + 4 := by
  unfold frameOf; rw [sealB_len, List.length_cons, List.length_append]; omega
theorem frB_len {o : List Item} (h : checkN o = 0) : (frB o).length ≤ 3300 := by
  obtain ⟨h1, h2⟩ := packB_len2 h
  have v1 := venc_le2 (u := (packB o).length) (by omega)
  unfold frB
  rw [frameOf_len]
  omega
theorem outs_len : ∀ (bl : List (List Item)), (∀ o ∈ bl, checkN o = 0) → (outs bl).length ≤ 3300 * bl.length
  | [], _ => by simp [outs]
  | o :: t, h => by
    have h1 := frB_len (h o (by simp))
    have h2 := outs_len t fun x hx => h x (by simp [hx])
    have e : (outs (o :: t)).length = (frB o).length + (outs t).length := by simp [outs]
    rw [e, List.length_cons]
    omega
theorem head_len {o : List Item} (h : checkN o = 0) : (o.headD []).length ≤ 400 := by
  cases o with
  | nil => simp
  | cons x t => exact check_all h x (by simp)
theorem idxs_len : ∀ (bl : List (List Item)) (p : Nat), (∀ o ∈ bl, checkN o = 0) → p + 3300 * bl.length < 268435456 → (idxs p bl).length ≤ 406 * bl.length
  | [], _, _, _ => by simp [idxs]
  | o :: t, p, h, hp => by
    have h1 := frB_len (h o (by simp))
    have h2 := head_len (h o (by simp))
    rw [List.length_cons] at hp
    have h3 := idxs_len t (p + (frB o).length) (fun x hx => h x (by simp [hx])) (by omega)
    have v1 := venc_le4 (u := p) (by omega)
    have v2 := venc_le2 (u := (o.headD []).length) (by omega)
    simp only [idxs, List.length_append, List.length_cons]
    omega
end Go.Proofs.YtmdphaagbmipcaaDoor
