/-
  A set of items in tiers: plain lists.
-/
import Derived.Test.YtadakaenbemedaaGreatDoorTgPlain
import Derived.Test.YtadakaenbemedaaGreatDoorIpE
import Derived.Test.YtadakaenbemedaaGreatDoorRfA
import Derived.Test.YtadakaenbemedaaGreatDoorKmA
namespace Go.Proofs.YtadakaenbemedaaGreatDoor
open Go.RowKit

theorem KBo : Ordr ahead := KB.ordr
/-- What a set holds: what is only in memory, and files. -/
structure SetM where
  mem : List Item
  fs : List (List Item)
def SetM.all (s : SetM) : List Item := uniqL ahead (s.fs.flatten ++ s.mem)
def SetM.tiers (s : SetM) : List (List Item) := s.mem :: s.fs
def SetM.total (s : SetM) : Nat := s.fs.flatten.length + s.mem.length
def SetM.has (s : SetM) (x : Item) : Bool := s.tiers.any fun f => decide (x ∈ f)
def SetM.new : SetM := ⟨[], []⟩
theorem SetM.has_eq (s : SetM) (x : Item) : s.has x = decide (x ∈ s.all) := by
  rw [← Bool.coe_iff_coe]
  unfold SetM.has SetM.all SetM.tiers
  rw [decide_eq_true_eq, uniqL_mem KBo, List.any_eq_true, List.mem_append, List.mem_flatten]
  constructor
  · rintro ⟨f, hf, h⟩
    rcases List.mem_cons.1 hf with rfl | hf
    · exact .inr (of_decide_eq_true h)
    · exact .inl ⟨f, hf, of_decide_eq_true h⟩
  · rintro (⟨f, hf, h⟩ | h)
    · exact ⟨f, List.mem_cons_of_mem _ hf, decide_eq_true h⟩
    · exact ⟨s.mem, List.mem_cons_self, decide_eq_true h⟩
/-- Put in: what is held, the error. -/
def SetM.add (s : SetM) (x : Item) : SetM × Nat :=
  if badL x = true then (s, 1) else if s.has x = true then (s, 0) else if 500 ≤ s.mem.length then (s, 2) else (⟨uniqL ahead (s.mem ++ [x]), s.fs⟩, 0)
/-- Made a file of: what is held, the file's bytes, whether there is one. -/
def SetM.flush (s : SetM) : SetM × List UInt8 × Bool :=
  if s.mem.length = 0 ∨ 100 ≤ s.fs.length then (s, [], false) else (⟨[], s.fs ++ [s.mem]⟩, fileB s.mem, true)
/-- May neighbours be made one file? -/
def mayMerge (n : Nat) (first many : Int) : Bool := decide (2 ≤ many ∧ 0 ≤ first ∧ first ≤ n ∧ many ≤ n - first)
/-- The file that is made of neighbours. -/
def SetM.join (s : SetM) (i k : Nat) : List Item := uniqL ahead ((s.fs.drop i).take k).flatten
/-- Neighbours made one file. -/
def SetM.merge (s : SetM) (first many : Int) : SetM × List UInt8 × Nat :=
  if mayMerge s.fs.length first many = true then (⟨s.mem, s.fs.take first.toNat ++ s.join first.toNat many.toNat :: s.fs.drop (first.toNat + many.toNat)⟩, fileB (s.join first.toNat many.toNat), 0) else (s, [], 1)

theorem rises_ri : ∀ {l : List Item}, Ri ahead l → risesB l = true
  | [], _ => rfl
  | [_], _ => rfl
  | a :: b :: t, h => by
    have h' := List.pairwise_cons.1 h
    have h1 : ahead a b = true := h'.1 b (by simp)
    show (ahead a b && risesB (b :: t)) = true
    rw [h1, rises_ri h'.2]; rfl
theorem ok_ri {l : List Item} (h : Ri ahead l) (hf : ∀ x ∈ l, badL x = false) : okB l = true := by
  unfold okB
  rw [rises_ri h, Bool.true_and, Bool.not_eq_true']
  rw [List.any_eq_false]
  intro x hx
  rw [hf x hx]; simp
theorem ri_ok {l : List Item} (h : okB l = true) : Ri ahead l := rises_pw (ok_parts h).1
theorem build_ri {l : List Item} (h : Ri ahead l) (hf : ∀ x ∈ l, badL x = false) (h0 : l.length ≠ 0) (hn : l.length ≤ 1200) : buildE l = 0 := by
  have hok := ok_ri h hf
  have hbl := blk_length l
  have hlen := idxs_len (blk l) 0 (blk_checks hok) (by omega)
  have hv := venc_le2 (u := (blk l).length) (by omega)
  unfold buildE
  rw [if_neg (by omega), if_neg (by rw [hok]; simp; exact fun e => h0 (by rw [e]; rfl)), if_neg]
  unfold tabB
  rw [List.length_append]
  omega
theorem build_ok {l : List Item} (h : buildE l = 0) : Ri ahead l ∧ (∀ x ∈ l, badL x = false) ∧ 0 < l.length ∧ l.length ≤ 2000 :=
  ⟨ri_ok (buildE_ok h).2.2.1, (ok_parts (buildE_ok h).2.2.1).2, (buildE_ok h).2.1, (buildE_ok h).1⟩
theorem file_len2 {ls : List Item} (h : buildE ls = 0) : 4 ≤ (fileB ls).length ∧ (fileB ls).length ≤ 990000 := by
  obtain ⟨h1, h2, h3, h4⟩ := buildE_ok h
  have h5 := outs_len (blk ls) (blk_checks h3)
  have h6 := blk_length ls
  have h7 := venc_le4 (u := (tabB (blk ls)).length) (by omega)
  unfold fileB
  rw [List.length_append, List.length_append, frameOf_len]
  have : (place4 (outs (blk ls)).length).length = 4 := by unfold place4 tail4; rfl
  omega

/-- A set that may be. -/
structure SetOk (s : SetM) : Prop where
  rise : Ri ahead s.mem
  fine : ∀ x ∈ s.mem, badL x = false
  few : s.mem.length ≤ 500
  files : ∀ f ∈ s.fs, buildE f = 0
theorem SetOk.new : SetOk SetM.new := ⟨List.Pairwise.nil, by simp [SetM.new], by simp [SetM.new], by simp [SetM.new]⟩
theorem SetOk.tier {s : SetM} (h : SetOk s) : ∀ t ∈ s.tiers, Ri ahead t := fun t ht => by
  rcases List.mem_cons.1 ht with rfl | ht
  · exact h.rise
  · exact (build_ok (h.files t ht)).1
theorem SetOk.bad {s : SetM} (h : SetOk s) : ∀ t ∈ s.tiers, ∀ x ∈ t, badL x = false := fun t ht => by
  rcases List.mem_cons.1 ht with rfl | ht
  · exact h.fine
  · exact (build_ok (h.files t ht)).2.1
theorem flat_sub {l : List (List Item)} {i k : Nat} : ∀ x, x ∈ ((l.drop i).take k).flatten → x ∈ l.flatten := fun x hx => by
  obtain ⟨f, hf, hx⟩ := List.mem_flatten.1 hx
  exact List.mem_flatten.2 ⟨f, List.mem_of_mem_drop (List.mem_of_mem_take hf), hx⟩
theorem flat_parts (l : List (List Item)) (i k : Nat) : (l.take i).flatten ++ (((l.drop i).take k).flatten ++ (l.drop (i + k)).flatten) = l.flatten := by
  rw [← List.flatten_append, ← List.flatten_append]
  congr 1
  rw [← List.drop_drop, List.take_append_drop, List.take_append_drop]
theorem join_le (s : SetM) (i k : Nat) : (s.join i k).length ≤ s.fs.flatten.length := by
  have h1 := uniqL_len KBo ((s.fs.drop i).take k).flatten
  have h2 := congrArg List.length (flat_parts s.fs i k)
  rw [List.length_append, List.length_append] at h2
  unfold SetM.join
  omega
theorem join_ok {s : SetM} (h : SetOk s) (ht : s.total ≤ 1200) {i k : Nat} (hk : 1 ≤ k) (hi : i < s.fs.length) : buildE (s.join i k) = 0 := by
  refine build_ri (uniqL_ri KBo _) (fun x hx => ?_) (fun e => ?_) (Nat.le_trans (join_le s i k) (by unfold SetM.total at ht; omega))
  · obtain ⟨f, hf, hx⟩ := List.mem_flatten.1 (flat_sub x ((uniqL_mem KBo _ x).1 hx))
    exact (build_ok (h.files f hf)).2.1 x hx
  · have hf := build_ok (h.files s.fs[i] (List.getElem_mem hi))
    obtain ⟨x, hx⟩ := List.exists_mem_of_length_pos hf.2.2.1
    have : x ∈ s.join i k := (uniqL_mem KBo _ x).2 (List.mem_flatten.2 ⟨s.fs[i], by
      rw [List.drop_eq_getElem_cons hi]
      cases k with
      | zero => omega
      | succ k => rw [List.take_succ_cons]; exact List.mem_cons_self, hx⟩)
    rw [List.eq_nil_of_length_eq_zero e] at this
    simp at this
theorem may_iff {n : Nat} {a b : Int} : mayMerge n a b = true ↔ 2 ≤ b ∧ 0 ≤ a ∧ a ≤ n ∧ b ≤ n - a := by unfold mayMerge; rw [decide_eq_true_eq]
theorem SetOk.add {s : SetM} (h : SetOk s) (x : Item) : SetOk (s.add x).1 := by
  unfold SetM.add
  split
  · exact h
  · split
    · exact h
    · split
      · exact h
      · rename_i h1 _ h3
        refine ⟨uniqL_ri KBo _, fun y hy => ?_, ?_, h.files⟩
        · rcases List.mem_append.1 ((uniqL_mem KBo _ y).1 hy) with hy | hy
          · exact h.fine y hy
          · rw [List.mem_singleton.1 hy]; simpa using h1
        · have := uniqL_len KBo (s.mem ++ [x])
          rw [List.length_append] at this
          simp only [List.length_singleton] at this
          simp only
          have e : (uniqL ahead (s.mem ++ [x])).length ≤ s.mem.length + 1 := this
          omega
theorem SetOk.flush {s : SetM} (h : SetOk s) : SetOk s.flush.1 := by
  unfold SetM.flush
  split
  · exact h
  · rename_i h1
    rw [not_or] at h1
    refine ⟨List.Pairwise.nil, by simp, by simp, fun f hf => ?_⟩
    rcases List.mem_append.1 hf with hf | hf
    · exact h.files f hf
    · rw [List.mem_singleton.1 hf]
      exact build_ri h.rise h.fine h1.1 (by have := h.few; omega)
theorem SetOk.merge {s : SetM} (h : SetOk s) (ht : s.total ≤ 1200) (a b : Int) : SetOk (s.merge a b).1 := by
  unfold SetM.merge
  split
  · rename_i h1
    obtain ⟨h2, h3, h4, h5⟩ := may_iff.1 h1
    refine ⟨h.rise, h.fine, h.few, fun f hf => ?_⟩
    rcases List.mem_append.1 hf with hf | hf
    · exact h.files f (List.mem_of_mem_take hf)
    · rcases List.mem_cons.1 hf with rfl | hf
      · exact join_ok h ht (by omega) (by omega)
      · exact h.files f (List.mem_of_mem_drop hf)
  · exact h
theorem add_total (s : SetM) (x : Item) : (s.add x).1.total ≤ s.total + 1 := by
  unfold SetM.add
  split
  · simp
  · split
    · simp
    · split
      · simp
      · have := uniqL_len KBo (s.mem ++ [x])
        have e : (uniqL ahead (s.mem ++ [x])).length ≤ s.mem.length + 1 := by rw [List.length_append] at this; exact this
        unfold SetM.total
        simp only
        omega
theorem flush_total (s : SetM) : s.flush.1.total = s.total := by
  unfold SetM.flush
  split
  · rfl
  · unfold SetM.total; simp
theorem merge_total (s : SetM) (a b : Int) : (s.merge a b).1.total ≤ s.total := by
  unfold SetM.merge
  split
  · have h1 := uniqL_len KBo ((s.fs.drop a.toNat).take b.toNat).flatten
    have h2 := congrArg List.length (flat_parts s.fs a.toNat b.toNat)
    rw [List.length_append, List.length_append] at h2
    unfold SetM.total SetM.join
    simp only [List.flatten_append, List.flatten_cons, List.length_append]
    have e : (uniqL ahead ((s.fs.drop a.toNat).take b.toNat).flatten).length ≤ ((s.fs.drop a.toNat).take b.toNat).flatten.length := h1
    omega
  · simp
theorem flush_all (s : SetM) : s.flush.1.all = s.all := by
  unfold SetM.flush
  split
  · rfl
  · unfold SetM.all; simp
theorem merge_all (s : SetM) (a b : Int) : (s.merge a b).1.all = s.all := by
  unfold SetM.merge
  split
  · unfold SetM.all SetM.join
    refine uniqL_congr KBo fun x => ?_
    have h2 := flat_parts s.fs a.toNat b.toNat
    rw [← h2]
    simp only [List.flatten_append, List.flatten_cons, List.mem_append, uniqL_mem KBo]
  · rfl
theorem mem_all (s : SetM) (x : Item) : x ∈ s.all ↔ x ∈ s.fs.flatten ∨ x ∈ s.mem := by unfold SetM.all; rw [uniqL_mem KBo, List.mem_append]
theorem tiers_all (s : SetM) : uniqL ahead s.tiers.flatten = s.all := by
  unfold SetM.all SetM.tiers
  rw [List.flatten_cons]
  exact uniq_append_comm KBo _ _
theorem all_len (s : SetM) : s.all.length ≤ s.total := by
  have := uniqL_len KBo (s.fs.flatten ++ s.mem)
  rw [List.length_append] at this
  exact this
theorem tiers_len (s : SetM) : s.tiers.flatten.length = s.total := by unfold SetM.tiers SetM.total; rw [List.flatten_cons, List.length_append]; omega
/-- What all tiers tell of an item on, as one. -/
theorem tell_from {s : SetM} (h : SetOk s) (x : Item) (k : Nat) : (uniqL ahead ((s.tiers.map fun t => (fromL t x).take k).flatten)).take k = (fromL s.all x).take k := by
  have h1 := uniq_take KBo k (s.tiers.map fun t => fromL t x) (fun t ht => by
    obtain ⟨u, hu, rfl⟩ := List.mem_map.1 ht
    exact (h.tier u hu).filter _)
  rw [List.map_map] at h1
  refine Eq.trans h1 ?_
  congr 1
  have h2 := uniq_flat_filter KBo (fun y => !ahead y x) s.tiers
  rw [← tiers_all]
  exact h2
theorem tell_prefix (s : SetM) (x : Item) : uniqL ahead ((s.tiers.map fun t => t.filter (preB x)).flatten) = s.all.filter (preB x) := by
  rw [← tiers_all]
  exact uniq_flat_filter KBo _ _
end Go.Proofs.YtadakaenbemedaaGreatDoor
