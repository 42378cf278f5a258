/-
  What bytes are opened as: plain lists.
-/
import Derived.Test.YtmdphaagbmipcaaDoorIpFrames
namespace Go.Proofs.YtmdphaagbmipcaaDoor
open Go.RowKit

/-- The blocks of what frames told; none: one is none. -/
def unpackAll : List (Item × Nat) → Option (List (List Item))
  | [] => some []
  | (bd, e) :: t => if e ≠ 0 then none else if (unpackR bd).2 ≠ 0 then none else (unpackAll t).map ((unpackR bd).1 :: ·)
theorem unpackAll_snoc : ∀ (a : List (Item × Nat)) (y : Item × Nat), unpackAll (a ++ [y]) = match unpackAll a with
    | none => none
    | some bl => if y.2 ≠ 0 then none else if (unpackR y.1).2 ≠ 0 then none else some (bl ++ [(unpackR y.1).1])
  | [], (bd, e) => by
    simp only [List.nil_append, unpackAll]
    split
    · rfl
    · split <;> rfl
  | (bd, e) :: t, y => by
    have ih := unpackAll_snoc t y
    simp only [List.cons_append, unpackAll]
    split
    · rfl
    · split
      · rfl
      · rw [ih]
        cases unpackAll t with
        | none => rfl
        | some bl =>
          simp only [Option.map_some]
          split
          · rfl
          · split
            · rfl
            · simp
theorem unpackAll_bad : ∀ (a b : List (Item × Nat)), unpackAll a = none → unpackAll (a ++ b) = none
  | [], _, h => by simp [unpackAll] at h
  | (bd, e) :: t, b, h => by
    simp only [List.cons_append, unpackAll] at h ⊢
    split
    · rfl
    · rename_i h1
      rw [if_neg h1] at h
      split
      · rfl
      · rename_i h2
        rw [if_neg h2] at h
        rw [unpackAll_bad t b (by cases hu : unpackAll t with | none => rfl | some x => rw [hu] at h; simp at h)]
        rfl
/-- The items of bytes, where they are a file. -/
def openB (b : List UInt8) : Option (List Item) :=
  match unpackAll (framesL (b.length + 1) b) with
  | none => none
  | some bl => if buildE bl.flatten = 0 ∧ fileB bl.flatten = b then some bl.flatten else none

theorem frameOf_makeK (k : UInt8) (l : List UInt8) (kind : Int) (h : UInt8.ofNat kind.toNat = k) : frameOf kind l = makeK k l := by
  unfold frameOf makeK; rw [h]
theorem frames_outs : ∀ (bl : List (List Item)) (tl : List UInt8) (f : Nat), (∀ o ∈ bl, checkN o = 0) → (outs bl ++ tl).length < f → (fnext tl).1 ≠ 1 → (fnext tl).2.2.2 = 0 →
    framesL f (outs bl ++ tl) = bl.map fun o => (packB o, 0)
  | [], tl, f, _, hf, h1, h2 => by
    obtain ⟨f', rfl⟩ : ∃ f', f = f' + 1 := ⟨f - 1, by omega⟩
    show framesL (f' + 1) tl = []
    simp only [framesL]
    rw [if_neg (by omega), if_pos h1]
  | o :: t, tl, f, hc, hf, h1, h2 => by
    obtain ⟨f', rfl⟩ : ∃ f', f = f' + 1 := ⟨f - 1, by omega⟩
    have hk := packB_len2 (hc o (by simp))
    have e : outs (o :: t) ++ tl = makeK 1 (packB o) ++ (outs t ++ tl) := by
      show frB o ++ outs t ++ tl = _
      unfold frB
      rw [frameOf_makeK 1 _ 1 rfl, List.append_assoc]
    have hn := fnext_make 1 (packB o) (outs t ++ tl) (by omega)
    rw [e] at hf ⊢
    simp only [framesL, hn]
    rw [if_neg (by simp), if_neg (by decide)]
    rw [frames_outs t tl f' (fun x hx => hc x (by simp [hx])) (by rw [List.length_append, makeK_len] at hf; omega) h1 h2]
    rfl
theorem unpackAll_map : ∀ (bl : List (List Item)), (∀ o ∈ bl, checkN o = 0) → unpackAll (bl.map fun o => (packB o, 0)) = some bl
  | [], _ => rfl
  | o :: t, h => by
    have hu := unpack_back (h o (by simp))
    simp only [List.map_cons, unpackAll, hu]
    rw [if_neg (by simp), if_neg (by simp), unpackAll_map t fun x hx => h x (by simp [hx])]
    rfl
theorem buildE_ok {ls : List Item} (h : buildE ls = 0) : ls.length ≤ 2000 ∧ 0 < ls.length ∧ okB ls = true ∧ (tabB (blk ls)).length ≤ 65535 := by
  unfold buildE at h
  split at h
  · simp at h
  · rename_i h1
    split at h
    · simp at h
    · rename_i h2
      split at h
      · simp at h
      · rename_i h3
        refine ⟨by omega, by have := fun e => h2 (.inl e); omega, ?_, by omega⟩
        cases ho : okB ls with
        | true => rfl
        | false => exact absurd (.inr ho) h2
theorem blk_checks {ls : List Item} (h : okB ls = true) : ∀ o ∈ blk ls, checkN o = 0 := fun o ho => by
  obtain ⟨k, hk, e⟩ := blk_block ho
  rw [e]
  exact block_ok h hk
theorem frames_file {ls : List Item} (h : buildE ls = 0) (f : Nat) (hf : (fileB ls).length < f) : framesL f (fileB ls) = (blk ls).map fun o => (packB o, 0) := by
  obtain ⟨h1, h2, h3, h4⟩ := buildE_ok h
  have e : fileB ls = outs (blk ls) ++ (makeK 2 (tabB (blk ls)) ++ place4 (outs (blk ls)).length) := by
    unfold fileB; rw [frameOf_makeK 2 _ 2 rfl, List.append_assoc]
  have hn := fnext_make 2 (tabB (blk ls)) (place4 (outs (blk ls)).length) h4
  rw [e] at hf ⊢
  exact frames_outs _ _ f (blk_checks h3) hf (by rw [hn]; show (2 : UInt8).toNat ≠ 1; decide) (by rw [hn])
/-- What is opened has just the blocks of its items. -/
theorem open_blocks {b : List UInt8} {bl : List (List Item)} (h : unpackAll (framesL (b.length + 1) b) = some bl) (h1 : buildE bl.flatten = 0) (h2 : fileB bl.flatten = b) : bl = blk bl.flatten := by
  have hf := frames_file h1 (b.length + 1) (by rw [h2]; omega)
  rw [h2] at hf
  rw [hf, unpackAll_map _ (blk_checks (buildE_ok h1).2.2.1)] at h
  exact (Option.some.inj h).symm
/-- What is built is opened. -/
theorem open_file {ls : List Item} (h : buildE ls = 0) : openB (fileB ls) = some ls := by
  unfold openB
  rw [frames_file h _ (by omega), unpackAll_map _ (blk_checks (buildE_ok h).2.2.1)]
  simp only
  rw [blk_flatten, if_pos ⟨h, rfl⟩]
theorem open_some {b : List UInt8} {ls : List Item} (h : openB b = some ls) : buildE ls = 0 ∧ fileB ls = b := by
  unfold openB at h
  split at h
  · simp at h
  · split at h
    · rename_i h1
      injection h with h
      subst h
      exact h1
    · simp at h
theorem framesL_le : ∀ (f : Nat) (b : List UInt8), (framesL f b).length ≤ f
  | 0, _ => by simp [framesL]
  | f + 1, b => by
    simp only [framesL]
    split
    · simp
    · split
      · simp
      · have := framesL_le f (fnext b).2.2.1
        simp only [List.length_cons]; omega
theorem framesL_body : ∀ (f : Nat) (b : List UInt8), ∀ z ∈ framesL f b, z.1.length ≤ b.length
  | 0, _, z, hz => by simp [framesL] at hz
  | f + 1, b, z, hz => by
    simp only [framesL] at hz
    split at hz
    · simp at hz; subst hz; simp
    · rename_i h0
      split at hz
      · simp at hz
      · have ho := fnext_ok (b := b) (by omega)
        simp only [List.mem_cons] at hz
        rcases hz with rfl | hz
        · show (fnext b).2.1.length ≤ b.length; omega
        · have := framesL_body f _ z hz; omega
theorem unpackAll_some : ∀ (a : List (Item × Nat)) {bl : List (List Item)}, unpackAll a = some bl → bl.length = a.length ∧ ∀ o ∈ bl, checkN o = 0
  | [], bl, h => by simp [unpackAll] at h; subst h; simp
  | (bd, e) :: t, bl, h => by
    simp only [unpackAll] at h
    split at h
    · simp at h
    · split at h
      · simp at h
      · rename_i h1 h2
        cases hu : unpackAll t with
        | none => rw [hu] at h; simp at h
        | some c =>
          rw [hu] at h
          simp only [Option.map_some, Option.some.injEq] at h
          subst h
          obtain ⟨g1, g2⟩ := unpackAll_some t hu
          refine ⟨by simp [g1], fun o ho => ?_⟩
          simp only [List.mem_cons] at ho
          rcases ho with rfl | ho
          · exact (unpack_ok (by omega)).1
          · exact g2 o ho
theorem check_lens {o : List Item} (h : checkN o = 0) : 0 < o.length ∧ o.length ≤ 8 := by
  unfold checkN at h
  split at h
  · simp at h
  · split at h
    · simp at h
    · rename_i h1 h2
      exact ⟨by have := fun e => h2 (.inl e); omega, by omega⟩
theorem flatten_le8 : ∀ (bl : List (List Item)), (∀ o ∈ bl, checkN o = 0) → bl.flatten.length ≤ 8 * bl.length
  | [], _ => by simp
  | o :: t, h => by
    have h1 := (check_lens (h o (by simp))).2
    have h2 := flatten_le8 t fun x hx => h x (by simp [hx])
    simp only [List.flatten_cons, List.length_append, List.length_cons]
    omega
end Go.Proofs.YtmdphaagbmipcaaDoor
