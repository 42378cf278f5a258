/-
  A row of files' bytes, kept beside a set: put to, cut and joined.
-/
import Derived.Test.YtalmnodgjjcefaaGreatDoorJTgLoadI
namespace Go.Proofs.YtalmnodgjjcefaaGreatDoor
open Go.RowKit Go.Maps

/-- Values that are rows of bytes, in blocks of q. -/
structure RowsM (q : Nat → Prop) (w : World) (vs : List Value) (bs : List (List UInt8)) : Prop where
  len : vs.length = bs.length
  out : ∀ i (hi : i < bs.length), ∃ Ai ci, vs[i]? = some (.slice Ai (bs[i]).length ci) ∧ (bs[i]).length ≤ ci ∧ SeesM q w Ai (bv bs[i])
section
variable {q q' : Nat → Prop} {w w' : World} {v v' : Value} {vs us : List Value} {bs cs : List (List UInt8)}
theorem RowsM.keep (h : RowsM q w vs bs) (hk : Kept q w w') : RowsM q w' vs bs := ⟨h.len, fun i hi => by
  obtain ⟨Ai, ci, g1, g2, g3⟩ := h.out i hi
  exact ⟨Ai, ci, g1, g2, g3.keep hk⟩⟩
theorem RowsM.mono (h : RowsM q w vs bs) (hq : ∀ k, q k → q' k) : RowsM q' w vs bs := ⟨h.len, fun i hi => by
  obtain ⟨Ai, ci, g1, g2, g3⟩ := h.out i hi
  exact ⟨Ai, ci, g1, g2, g3.mono hq⟩⟩
theorem RowsM.take (h : RowsM q w vs bs) (n : Nat) : RowsM q w (vs.take n) (bs.take n) := ⟨by rw [List.length_take, List.length_take, h.len], fun i hi => by
  rw [List.length_take] at hi
  obtain ⟨Ai, ci, g1, g2, g3⟩ := h.out i (by omega)
  rw [List.getElem_take, List.getElem?_take, if_pos (by omega)]
  exact ⟨Ai, ci, g1, g2, g3⟩⟩
theorem RowsM.drop (h : RowsM q w vs bs) (n : Nat) : RowsM q w (vs.drop n) (bs.drop n) := ⟨by rw [List.length_drop, List.length_drop, h.len], fun i hi => by
  rw [List.length_drop] at hi
  obtain ⟨Ai, ci, g1, g2, g3⟩ := h.out (n + i) (by omega)
  rw [List.getElem_drop, List.getElem?_drop]
  exact ⟨Ai, ci, g1, g2, g3⟩⟩
theorem RowsM.append (h : RowsM q w vs bs) (g : RowsM q w us cs) : RowsM q w (vs ++ us) (bs ++ cs) := ⟨by rw [List.length_append, List.length_append, h.len, g.len], fun i hi => by
  have hl := h.len
  by_cases hlt : i < bs.length
  · obtain ⟨Ai, ci, g1, g2, g3⟩ := h.out i hlt
    rw [List.getElem_append_left hlt, List.getElem?_append_left (by omega)]
    exact ⟨Ai, ci, g1, g2, g3⟩
  · rw [List.length_append] at hi
    obtain ⟨Ai, ci, g1, g2, g3⟩ := g.out (i - bs.length) (by omega)
    rw [List.getElem_append_right (by omega), List.getElem?_append_right (by omega), hl]
    exact ⟨Ai, ci, g1, g2, g3⟩⟩
theorem RowsM.one (x : List UInt8) (A : Option Addr) (c : Nat) (hc : x.length ≤ c) (hx : SeesM q w A (bv x)) : RowsM q w [.slice A x.length c] [x] := ⟨rfl, fun i hi => by
  obtain rfl : i = 0 := by simp at hi; omega
  exact ⟨A, c, rfl, hc, hx⟩⟩
theorem RowsM.cells (h : RowsM q w vs bs) : ∀ u ∈ vs, u.oneCell' = true := fun u hu => by
  obtain ⟨i, hi, e⟩ := List.mem_iff_getElem.1 hu
  have hl := h.len
  obtain ⟨Ai, ci, g1, -⟩ := h.out i (by omega)
  rw [List.getElem?_eq_getElem hi] at g1
  rw [← e, Option.some.inj g1]
  rfl
/-- A row of files, in blocks of q. -/
structure FilesAt (q : Nat → Prop) (w : World) (v : Value) (bs : List (List UInt8)) : Prop where
  out : ∃ vs, w.ownsRow 0 48 1 v bs.length vs ∧ (∀ k, v.ownBlock = some k → q k) ∧ RowsM (fun k => q k ∧ v.ownBlock ≠ some k) w vs bs
theorem FilesAt.nil (q : Nat → Prop) (w : World) : FilesAt q w (.slice none 0 0) [] := ⟨[], World.ownsRow_nil w 0 _ 1, fun k hk => by simp [Value.ownBlock] at hk, ⟨rfl, fun i hi => absurd hi (by simp)⟩⟩
theorem FilesAt.keep (h : FilesAt q w v bs) (hk : Kept q w w') : FilesAt q w' v bs := by
  obtain ⟨vs, h1, h2, h3⟩ := h.out
  exact ⟨vs, ownsRow_kept h1 (fun k e => hk k (h2 k e)), h2, h3.keep (hk.mono fun k e => e.1)⟩
theorem ownsRow_open {n : Nat} (h1 : w.ownsRow 0 48 1 v n vs) (h2 : ∀ k, v.ownBlock = some k → q k) : ∃ A c, v = .slice A n c ∧ n ≤ c ∧ c ≤ maxLen ∧ SeesM q w A vs := by
  rcases h1.2 with ⟨rfl, hn⟩ | ⟨g, cap, cur, rfl, hb, hh, hc, hm, _⟩
  · subst hn
    have hv : vs = [] := List.eq_nil_of_length_eq_zero (by have := h1.1; omega)
    exact ⟨none, 0, rfl, by simp, by simp [maxLen], ⟨.inl hv⟩⟩
  · exact ⟨_, cap, rfl, hc, hm, ⟨.inr ⟨_, rfl, h2 g rfl, fun j u hu => h1.cells (g := g) rfl j u hu⟩⟩⟩
theorem FilesAt.open_ (h : FilesAt q w v bs) : ∃ A c vs, v = .slice A bs.length c ∧ bs.length ≤ c ∧ c ≤ maxLen ∧ SeesM q w A vs ∧ RowsM q w vs bs := by
  obtain ⟨vs, h1, h2, h3⟩ := h.out
  rcases h1.2 with ⟨rfl, hn⟩ | ⟨g, cap, cur, rfl, hb, hh, hc, hm, _⟩
  · have : bs = [] := List.eq_nil_of_length_eq_zero hn
    subst this
    have hv : vs = [] := List.eq_nil_of_length_eq_zero h3.len
    subst hv
    exact ⟨none, 0, [], rfl, by simp, by simp [maxLen], ⟨.inl rfl⟩, ⟨rfl, fun i hi => absurd hi (by simp)⟩⟩
  · exact ⟨_, cap, vs, rfl, hc, hm, ⟨.inr ⟨_, rfl, h2 g rfl, fun j u hu => h1.cells (g := g) rfl j u hu⟩⟩, h3.mono fun k e => e.1⟩
theorem FilesAt.sees2 (h : FilesAt q w v bs) : ∃ A c, v = .slice A bs.length c ∧ bs.length ≤ c ∧ Sees2M q w A bs := by
  obtain ⟨A, c, vs, h1, h2, -, h3, h4⟩ := h.open_
  refine ⟨A, c, h1, h2, ⟨fun i hi => ?_⟩⟩
  obtain ⟨Ai, ci, g1, g2, g3⟩ := h4.out i hi
  rcases h3.out with e | ⟨ad, e, e1, e2⟩
  · rw [e] at g1; simp at g1
  · exact ⟨ad, Ai, ci, e, e1, e2 i _ g1, g2, g3⟩
/-- One file is put to the row. -/
theorem FilesAt.put {q2 : Nat → Prop} {vs : List Value} {x : List UInt8} {A : Option Addr} {c : Nat} (hq : ∀ k, q k → k < w.heap.size) (h3 : RowsM (fun k => q k ∧ v.ownBlock ≠ some k) w vs bs) (hc : x.length ≤ c) (hx : SeesM q2 w A (bv x)) (hq2 : ∀ k, q2 k → k < w.heap.size ∧ v.ownBlock ≠ some k)
    (hown : w'.ownsRow 0 48 1 v' (bs.length + 1) (vs ++ [.slice A x.length c])) (hon : Onto w w' v v') (hv : ∀ k, v.ownBlock = some k → q k) : FilesAt (fun k => q k ∨ q2 k ∨ (w.heap.size ≤ k ∧ k < w'.heap.size)) w' v' (bs ++ [x]) := by
  have hk : ∀ k, k < w.heap.size → v.ownBlock ≠ some k → w'.heap[k]? = w.heap[k]? ∧ v'.ownBlock ≠ some k := fun k h1 h2 => by
    refine ⟨hon.grown.block k h1 (fun e => h2 e.symm), fun e => ?_⟩
    rcases hon.at_ with e2 | ⟨g, e2, hg⟩
    · exact h2 (e2 ▸ e)
    · rw [e2] at e; injection e with e; omega
  refine ⟨vs ++ [.slice A x.length c], by rw [List.length_append]; exact hown, fun k e => ?_, ?_⟩
  · rcases hon.at_ with e2 | ⟨g, e2, hg⟩
    · exact .inl (hv k (e2 ▸ e))
    · have hl := World.ownsRow.lt hown k e
      rw [e2] at e; injection e with e
      exact .inr (.inr ⟨by omega, hl.2⟩)
  · refine RowsM.append ((h3.keep fun k e => (hk k (hq k e.1) e.2).1).mono fun k e => ⟨.inl e.1, (hk k (hq k e.1) e.2).2⟩) (RowsM.one x A c hc ?_)
    exact (hx.keep fun k e => (hk k (hq2 k e).1 (hq2 k e).2).1).mono fun k e => ⟨.inr (.inl e), (hk k (hq2 k e).1 (hq2 k e).2).2⟩
end

/-- All files are a set's: the load gives them. -/
theorem load_good (A : Option Addr) (n c : Nat) (fs : List (List Item)) (hf : ∀ f ∈ fs, buildE f = 0) (hn : fs.length = n) (hn1 : n ≤ 100) (w : World) (hS : Sees2 w w.heap.size A (fs.map fileB)) (hH : Halves w) :
    Calls Tryz.prog 67 #[.slice A n c] w fun e w' => Below w.heap.size w w' ∧ ∃ S, e = .returned (.tuple #[.pointer (some ⟨S, 0, none⟩), .int .i64 0]) ∧ SetAt (fun k => w.heap.size ≤ k ∧ k < w'.heap.size) w' S ⟨[], fs⟩ := by
  have hop : ∀ i (hi : i < (fs.map fileB).length), openB (fs.map fileB)[i] = some (fs[i]'(by simpa using hi)) := fun i hi => by
    rw [List.getElem_map]
    exact open_file (hf _ (List.getElem_mem _))
  refine (load_any A n c (fs.map fileB) (by rw [List.length_map]; exact hn) hn1 (fun b hb => ?_) (fun b hb => ?_) w hS hH).mono fun e w' h => ?_
  · obtain ⟨f, h1, rfl⟩ := List.mem_map.1 hb
    have := (file_len2 (hf f h1)).2
    omega
  · obtain ⟨f, h1, rfl⟩ := List.mem_map.1 hb
    rw [open_file (hf f h1)]
    simp
  · obtain ⟨hb, ⟨F, hF, S, he, hA⟩ | ⟨⟨i, hi, e0⟩, -⟩⟩ := h
    · have : F = fs := List.ext_getElem (by rw [hF.len, List.length_map]) fun i h1 h2 => by
        have h3 := hF.at_ i (by rw [List.length_map]; exact h2) h1
        rw [hop i (by rw [List.length_map]; exact h2)] at h3
        exact (Option.some.inj h3).symm
      subst this
      exact ⟨hb, S, he, hA⟩
    · rw [hop i hi] at e0
      cases e0
end Go.Proofs.YtalmnodgjjcefaaGreatDoor
