/-
  A row of files' bytes, kept beside a set: put to, cut and joined.
-/
import Derived.Test.YtadakaenbemedaaGreatDoorTgLoad
import Derived.Test.YtadakaenbemedaaGreatDoorTgTwin
namespace Go.Proofs.YtadakaenbemedaaGreatDoor
open Go.RowKit Go.Maps

/-- Values that are rows of bytes, in blocks of q. -/
structure RowsM (q : Nat → Prop) (w : World) (vs : List Value) (bs : List (List UInt8)) : Prop where
  len : vs.length = bs.length
  out : ∀ i (hi : i < bs.length), ∃ Ai ci, vs[i]? = some (.slice Ai (bs[i]).length ci) ∧ (bs[i]).length ≤ ci ∧ SeesM q w Ai (bv bs[i])
section
variable {q q' : Nat → Prop} {w w' : World} {v v' : Value} {vs us : List Value} {bs cs : List (List UInt8)}
theorem RowsM.keep (h : RowsM q w vs bs) (hk : Kept q w w') : RowsM q w' vs bs := ⟨h.len, fun i hi => by
  obtain ⟨Ai, ci, g1, g2, g3⟩ := h.out i hi
  exact ⟨Ai, ci, g1, g2, g3.keep hk⟩⟩
theorem RowsM.mono (h : RowsM q w vs bs) (hq : ∀ k, q k → q' k) : RowsM q' w vs bs := ⟨h.len, fun i hi => by
  obtain ⟨Ai, ci, g1, g2, g3⟩ := h.out i hi
  exact ⟨Ai, ci, g1, g2, g3.mono hq⟩⟩
theorem RowsM.take (h : RowsM q w vs bs) (n : Nat) : RowsM q w (vs.take n) (bs.take n) := ⟨by rw [List.length_take, List.length_take, h.len], fun i hi => by
  rw [List.length_take] at hi
  obtain ⟨Ai, ci, g1, g2, g3⟩ := h.out i (by omega)
  rw [List.getElem_take, List.getElem?_take, if_pos (by omega)]
  exact ⟨Ai, ci, g1, g2, g3⟩⟩
theorem RowsM.drop (h : RowsM q w vs bs) (n : Nat) : RowsM q w (vs.drop n) (bs.drop n) := ⟨by rw [List.length_drop, List.length_drop, h.len], fun i hi => by
  rw [List.length_drop] at hi
  obtain ⟨Ai, ci, g1, g2, g3⟩ := h.out (n + i) (by omega)
  rw [List.getElem_drop, List.getElem?_drop]
  exact ⟨Ai, ci, g1, g2, g3⟩⟩
theorem RowsM.append (h : RowsM q w vs bs) (g : RowsM q w us cs) : RowsM q w (vs ++ us) (bs ++ cs) := ⟨by rw [List.length_append, List.length_append, h.len, g.len], fun i hi => by
  have hl := h.len
  by_cases hlt : i < bs.length
  · obtain ⟨Ai, ci, g1, g2, g3⟩ := h.out i hlt
    rw [List.getElem_append_left hlt, List.getElem?_append_left (by omega)]
    exact ⟨Ai, ci, g1, g2, g3⟩
  · rw [List.length_append] at hi
    obtain ⟨Ai, ci, g1, g2, g3⟩ := g.out (i - bs.length) (by omega)
    rw [List.getElem_append_right (by omega), List.getElem?_append_right (by omega), hl]
    exact ⟨Ai, ci, g1, g2, g3⟩⟩
theorem RowsM.one (x : List UInt8) (A : Option Addr) (c : Nat) (hc : x.length ≤ c) (hx : SeesM q w A (bv x)) : RowsM q w [.slice A x.length c] [x] := ⟨rfl, fun i hi => by
  obtain rfl : i = 0 := by simp at hi; omega
  exact ⟨A, c, rfl, hc, hx⟩⟩
theorem RowsM.cells (h : RowsM q w vs bs) : ∀ u ∈ vs, u.oneCell' = true := fun u hu => by
  obtain ⟨i, hi, e⟩ := List.mem_iff_getElem.1 hu
  have hl := h.len
  obtain ⟨Ai, ci, g1, -⟩ := h.out i (by omega)
  rw [List.getElem?_eq_getElem hi] at g1
  rw [← e, Option.some.inj g1]
  rfl
/-- A row of files, in blocks of q. -/
structure FilesAt (q : Nat → Prop) (w : World) (v : Value) (bs : List (List UInt8)) : Prop where
  out : ∃ vs, w.ownsRow 0 27 1 v bs.length vs ∧ (∀ k, v.ownBlock = some k → q k) ∧ RowsM (fun k => q k ∧ v.ownBlock ≠ some k) w vs bs
theorem FilesAt.nil (q : Nat → Prop) (w : World) : FilesAt q w (.slice none 0 0) [] := ⟨[], World.ownsRow_nil w 0 _ 1, fun k hk => by simp [Value.ownBlock] at hk, ⟨rfl, fun i hi => absurd hi (by simp)⟩⟩
theorem FilesAt.keep (h : FilesAt q w v bs) (hk : Kept q w w') : FilesAt q w' v bs := by
  obtain ⟨vs, h1, h2, h3⟩ := h.out
  exact ⟨vs, ownsRow_kept h1 (fun k e => hk k (h2 k e)), h2, h3.keep (hk.mono fun k e => e.1)⟩
theorem ownsRow_open {n : Nat} (h1 : w.ownsRow 0 27 1 v n vs) (h2 : ∀ k, v.ownBlock = some k → q k) : ∃ A c, v = .slice A n c ∧ n ≤ c ∧ c ≤ maxLen ∧ SeesM q w A vs := by
  rcases h1.2 with ⟨rfl, hn⟩ | ⟨g, cap, cur, rfl, hb, hh, hc, hm, _⟩
  · subst hn
    have hv : vs = [] := List.eq_nil_of_length_eq_zero (by have := h1.1; omega)
    exact ⟨none, 0, rfl, by simp, by simp [maxLen], ⟨.inl hv⟩⟩
  · exact ⟨_, cap, rfl, hc, hm, ⟨.inr ⟨_, rfl, h2 g rfl, fun j u hu => h1.cells (g := g) rfl j u hu⟩⟩⟩
theorem FilesAt.open_ (h : FilesAt q w v bs) : ∃ A c vs, v = .slice A bs.length c ∧ bs.length ≤ c ∧ c ≤ maxLen ∧ SeesM q w A vs ∧ RowsM q w vs bs := by
  obtain ⟨vs, h1, h2, h3⟩ := h.out
  rcases h1.2 with ⟨rfl, hn⟩ | ⟨g, cap, cur, rfl, hb, hh, hc, hm, _⟩
  · have : bs = [] := List.eq_nil_of_length_eq_zero hn
    subst this
    have hv : vs = [] := List.eq_nil_of_length_eq_zero h3.len
    subst hv
    exact ⟨none, 0, [], rfl, by simp, by simp [maxLen], ⟨.inl rfl⟩, ⟨rfl, fun i hi => absurd hi (by simp)⟩⟩
  · exact ⟨_, cap, vs, rfl, hc, hm, ⟨.inr ⟨_, rfl, h2 g rfl, fun j u hu => h1.cells (g := g) rfl j u hu⟩⟩, h3.mono fun k e => e.1⟩
theorem FilesAt.sees2 (h : FilesAt q w v bs) : ∃ A c, v = .slice A bs.length c ∧ bs.length ≤ c ∧ Sees2M q w A bs := by
  obtain ⟨A, c, vs, h1, h2, -, h3, h4⟩ := h.open_
  refine ⟨A, c, h1, h2, ⟨fun i hi => ?_⟩⟩
  obtain ⟨Ai, ci, g1, g2, g3⟩ := h4.out i hi
  rcases h3.out with e | ⟨ad, e, e1, e2⟩
  · rw [e] at g1; simp at g1
  · exact ⟨ad, Ai, ci, e, e1, e2 i _ g1, g2, g3⟩
/-- One file is put to the row. -/
theorem FilesAt.put {q2 : Nat → Prop} {vs : List Value} {x : List UInt8} {A : Option Addr} {c : Nat} (hq : ∀ k, q k → k < w.heap.size) (h3 : RowsM (fun k => q k ∧ v.ownBlock ≠ some k) w vs bs) (hc : x.length ≤ c) (hx : SeesM q2 w A (bv x)) (hq2 : ∀ k, q2 k → k < w.heap.size ∧ v.ownBlock ≠ some k)
    (hown : w'.ownsRow 0 27 1 v' (bs.length + 1) (vs ++ [.slice A x.length c])) (hon : Onto w w' v v') (hv : ∀ k, v.ownBlock = some k → q k) : FilesAt (fun k => q k ∨ q2 k ∨ (w.heap.size ≤ k ∧ k < w'.heap.size)) w' v' (bs ++ [x]) := by
  have hk : ∀ k, k < w.heap.size → v.ownBlock ≠ some k → w'.heap[k]? = w.heap[k]? ∧ v'.ownBlock ≠ some k := fun k h1 h2 => by
    refine ⟨hon.grown.block k h1 (fun e => h2 e.symm), fun e => ?_⟩
    rcases hon.at_ with e2 | ⟨g, e2, hg⟩
    · exact h2 (e2 ▸ e)
    · rw [e2] at e; injection e with e; omega
  refine ⟨vs ++ [.slice A x.length c], by rw [List.length_append]; exact hown, fun k e => ?_, ?_⟩
  · rcases hon.at_ with e2 | ⟨g, e2, hg⟩
    · exact .inl (hv k (e2 ▸ e))
    · have hl := World.ownsRow.lt hown k e
      rw [e2] at e; injection e with e
      exact .inr (.inr ⟨by omega, hl.2⟩)
  · refine RowsM.append ((h3.keep fun k e => (hk k (hq k e.1) e.2).1).mono fun k e => ⟨.inl e.1, (hk k (hq k e.1) e.2).2⟩) (RowsM.one x A c hc ?_)
    exact (hx.keep fun k e => (hk k (hq2 k e).1 (hq2 k e).2).1).mono fun k e => ⟨.inr (.inl e), (hk k (hq2 k e).1 (hq2 k e).2).2⟩
end

/-- The set and the row of its files, beside each other. -/
structure Held (n0 : Nat) (m q : Nat → Prop) (w : World) (S : Nat) (v : Value) (s : SetM) : Prop where
  set : SetAt m w S s
  row : FilesAt q w v (s.fs.map fileB)
  sep : ∀ k, q k → k < w.heap.size ∧ ¬ m k
  old : ∀ k, m k → n0 ≤ k
  oldq : ∀ k, q k → n0 ≤ k
  low : n0 ≤ w.heap.size
section
variable {n0 : Nat} {m m' q : Nat → Prop} {w w' : World} {S : Nat} {v : Value} {s s' : SetM}
theorem Held.below (h : Held n0 m q w S v s) (hb : Below w.heap.size w w') : Held n0 m q w' S v s :=
  ⟨h.set.below hb, h.row.keep (Kept.of_below hb fun k e => (h.sep k e).1), fun k e => ⟨by have := hb.size; have := (h.sep k e).1; omega, (h.sep k e).2⟩, h.old, h.oldq, by have := h.low; have := hb.size; omega⟩
/-- An act that leaves the files. -/
theorem Held.step (h : Held n0 m q w S v s) (st : SetStep m m' w w' S s') (hf : s'.fs = s.fs) : Held n0 m' q w' S v s' := by
  have hs := st.turn.size
  refine ⟨st.set, by rw [hf]; exact h.row.keep (Kept.of_turn st.turn h.sep), fun k e => ⟨by have := (h.sep k e).1; omega, fun e' => ?_⟩, fun k e => ?_, h.oldq, by have := h.low; omega⟩
  · rcases st.new k e' with g | g
    · exact (h.sep k e).2 g
    · have := (h.sep k e).1; omega
  · rcases st.new k e with g | g
    · exact h.old k g
    · have := h.low; omega
/-- A file is made and put to the row. w1: behind the making; w2: ahead of the append. -/
theorem Held.put {w1 w2 w3 : World} {v' : Value} {vs : List Value} {x : List Item} {A : Option Addr} {c : Nat} (h : Held n0 m q w S v s) (st : SetStep m m' w w1 S s') (hf : s'.fs = s.fs ++ [x]) (hx : SeesM (fun k => w.heap.size ≤ k ∧ k < w1.heap.size ∧ ¬ m' k) w1 A (bv (fileB x))) (hc : (fileB x).length ≤ c)
    (h1 : RowsM (fun k => q k ∧ v.ownBlock ≠ some k) w vs (s.fs.map fileB)) (h2 : ∀ k, v.ownBlock = some k → q k) (hb : Below w1.heap.size w1 w2) (hown : w3.ownsRow 0 27 1 v' (s.fs.length + 1) (vs ++ [.slice A (fileB x).length c])) (hon : Onto w2 w3 v v') :
    Held n0 m' (fun k => q k ∨ (w.heap.size ≤ k ∧ k < w1.heap.size ∧ ¬ m' k) ∨ (w2.heap.size ≤ k ∧ k < w3.heap.size)) w3 S v' s' ∧ Below n0 w w3 := by
  have s1 := st.turn.size
  have s2 := hb.size
  have s3 := hon.size
  have hlow := h.low
  have hm' : ∀ k, m' k → m k ∨ w.heap.size ≤ k := fun k e => (st.new k e).elim .inl fun e => .inr e.1
  have hqm : ∀ k, q k → ¬ m' k := fun k e e' => by
    rcases hm' k e' with g | g
    · exact (h.sep k e).2 g
    · have := (h.sep k e).1; omega
  have hkq : Kept q w w2 := (Kept.of_turn st.turn h.sep).trans (Kept.of_below hb fun k e => by have := (h.sep k e).1; omega)
  have hkm : Kept m' w1 w3 := fun k e => (hon.grown.block k (by have := st.set.lt k e; omega) fun e' => hqm k (h2 k e'.symm) e).trans (hb.block k (st.set.lt k e))
  refine ⟨⟨st.set.keep hkm (by omega), ?_, fun k e => ?_, fun k e => ?_, fun k e => ?_, by omega⟩, ?_⟩
  · rw [hf, List.map_append]
    refine FilesAt.put (w := w2) (vs := vs) (x := fileB x) (A := A) (c := c) (fun k e => by have := (h.sep k e).1; omega) (h1.keep (hkq.mono fun k e => e.1)) hc (hx.keep (Kept.of_below hb fun k e => e.2.1)) (fun k e => ⟨by omega, fun e' => by have := (h.sep k (h2 k e')).1; omega⟩) (by rw [List.length_map]; exact hown) hon h2
  · rcases e with e | e | e
    · exact ⟨by have := (h.sep k e).1; omega, hqm k e⟩
    · exact ⟨by omega, e.2.2⟩
    · exact ⟨e.2, fun e' => by have := st.set.lt k e'; omega⟩
  · rcases hm' k e with g | g
    · exact h.old k g
    · omega
  · rcases e with e | e | e
    · exact h.oldq k e
    · omega
    · omega
  · exact ((st.turn.below h.old hlow).trans (hb.mono (by omega))).trans (hon.below (by omega) fun k e => h.oldq k (h2 k e))
/-- Files are joined: a new row. w1: behind the making; w2: behind the appends. -/
theorem Held.cut {w1 w2 : World} {v' : Value} {vs : List Value} {x : List Item} {A : Option Addr} {c i j : Nat} (h : Held n0 m q w S v s) (st : SetStep m m' w w1 S s') (hf : s'.fs = s.fs.take i ++ x :: s.fs.drop j) (hx : SeesM (fun k => w.heap.size ≤ k ∧ k < w1.heap.size ∧ ¬ m' k) w1 A (bv (fileB x))) (hc : (fileB x).length ≤ c)
    (h1 : RowsM q w vs (s.fs.map fileB)) (hb : Below w1.heap.size w1 w2) (hown : w2.ownsRow w1.heap.size 27 1 v' s'.fs.length (vs.take i ++ .slice A (fileB x).length c :: vs.drop j)) :
    Held n0 m' (fun k => q k ∨ (w.heap.size ≤ k ∧ k < w1.heap.size ∧ ¬ m' k) ∨ (w1.heap.size ≤ k ∧ k < w2.heap.size)) w2 S v' s' ∧ Below n0 w w2 := by
  have s1 := st.turn.size
  have s2 := hb.size
  have hlow := h.low
  have hm' : ∀ k, m' k → m k ∨ w.heap.size ≤ k := fun k e => (st.new k e).elim .inl fun e => .inr e.1
  have hqm : ∀ k, q k → ¬ m' k := fun k e e' => by
    rcases hm' k e' with g | g
    · exact (h.sep k e).2 g
    · have := (h.sep k e).1; omega
  have hkq : Kept q w w2 := (Kept.of_turn st.turn h.sep).trans (Kept.of_below hb fun k e => by have := (h.sep k e).1; omega)
  have hob := own_block hown
  refine ⟨⟨st.set.below hb, ?_, fun k e => ?_, fun k e => ?_, fun k e => ?_, by omega⟩, (st.turn.below h.old hlow).trans (hb.mono (by omega))⟩
  · have hmap : s'.fs.map fileB = (s.fs.map fileB).take i ++ ([fileB x] ++ (s.fs.map fileB).drop j) := by rw [hf]; simp [List.map_take, List.map_drop]
    refine ⟨vs.take i ++ .slice A (fileB x).length c :: vs.drop j, ?_, fun k e => .inr (.inr ⟨hob k e, (World.ownsRow.lt hown k e).2⟩), ?_⟩
    · rw [List.length_map]
      refine ⟨hown.1, ?_⟩
      rcases hown.2 with h | ⟨g, cap, cur, hv, hg, r⟩
      · exact .inl h
      · exact .inr ⟨g, cap, cur, hv, Nat.zero_le _, r⟩
    · rw [hmap]
      have hr := (h1.keep hkq).mono (q' := fun k => (q k ∨ (w.heap.size ≤ k ∧ k < w1.heap.size ∧ ¬ m' k) ∨ (w1.heap.size ≤ k ∧ k < w2.heap.size)) ∧ v'.ownBlock ≠ some k) fun k e => ⟨.inl e, fun e' => by have := hob k e'; have := (h.sep k e).1; omega⟩
      exact (hr.take i).append ((RowsM.one (fileB x) A c hc ((hx.keep (Kept.of_below hb fun k e => e.2.1)).mono fun k e => ⟨.inr (.inl e), fun e' => by have := hob k e'; omega⟩)).append (hr.drop j))
  · rcases e with e | e | e
    · exact ⟨by have := (h.sep k e).1; omega, hqm k e⟩
    · exact ⟨by omega, e.2.2⟩
    · exact ⟨e.2, fun e' => by have := st.set.lt k e'; omega⟩
  · rcases hm' k e with g | g
    · exact h.old k g
    · omega
  · rcases e with e | e | e
    · exact h.oldq k e
    · omega
    · omega
end
/-- All files are a set's: the load gives them. -/
theorem load_good (A : Option Addr) (n c : Nat) (fs : List (List Item)) (hf : ∀ f ∈ fs, buildE f = 0) (hn : fs.length = n) (hn1 : n ≤ 100) (w : World) (hS : Sees2 w w.heap.size A (fs.map fileB)) (hH : Halves w) :
    Calls Tryz.prog 26 #[.slice A n c] w fun e w' => Below w.heap.size w w' ∧ ∃ S, e = .returned (.tuple #[.pointer (some ⟨S, 0, none⟩), .int .i64 0]) ∧ SetAt (fun k => w.heap.size ≤ k ∧ k < w'.heap.size) w' S ⟨[], fs⟩ := by
  have hop : ∀ i (hi : i < (fs.map fileB).length), openB (fs.map fileB)[i] = some (fs[i]'(by simpa using hi)) := fun i hi => by
    rw [List.getElem_map]
    exact open_file (hf _ (List.getElem_mem _))
  refine (load_any A n c (fs.map fileB) (by rw [List.length_map]; exact hn) hn1 (fun b hb => ?_) w hS hH).mono fun e w' h => ?_
  · obtain ⟨f, h1, rfl⟩ := List.mem_map.1 hb
    have := (file_len2 (hf f h1)).2
    omega
  · obtain ⟨hb, ⟨F, hF, S, he, hA⟩ | ⟨⟨i, hi, e0⟩, -⟩⟩ := h
    · have : F = fs := List.ext_getElem (by rw [hF.len, List.length_map]) fun i h1 h2 => by
        have h3 := hF.at_ i (by rw [List.length_map]; exact h2) h1
        rw [hop i (by rw [List.length_map]; exact h2)] at h3
        exact (Option.some.inj h3).symm
      subst this
      exact ⟨hb, S, he, hA⟩
    · rw [hop i hi] at e0
      cases e0
/-- The error of a file that may be none. -/
def errB (x : List UInt8) : Nat := if openB x = none then 170 else 0
/-- Behind a set's files one more: the load tells what it is. -/
theorem load_last (A : Option Addr) (n c : Nat) (fs : List (List Item)) (hf : ∀ f ∈ fs, buildE f = 0) (x : List UInt8) (hx : x.length ≤ 1000000) (hn : fs.length + 1 = n) (hn1 : n ≤ 100) (w : World) (hS : Sees2 w w.heap.size A (fs.map fileB ++ [x])) (hH : Halves w) :
    Calls Tryz.prog 26 #[.slice A n c] w fun e w' => Below w.heap.size w w' ∧ ∃ p, e = .returned (.tuple #[.pointer p, .int .i64 (errB x : Nat)]) := by
  have hop : ∀ i (hi : i < (fs.map fileB).length), openB (fs.map fileB)[i] = some (fs[i]'(by simpa using hi)) := fun i hi => by
    rw [List.getElem_map]
    exact open_file (hf _ (List.getElem_mem _))
  refine (load_any A n c (fs.map fileB ++ [x]) (by rw [List.length_append, List.length_map]; exact hn) hn1 (fun b hb => ?_) w hS hH).mono fun e w' h => ?_
  · rcases List.mem_append.1 hb with hb | hb
    · obtain ⟨f, h1, rfl⟩ := List.mem_map.1 hb
      have := (file_len2 (hf f h1)).2
      omega
    · rw [List.mem_singleton.1 hb]; exact hx
  · have hlast : (fs.map fileB ++ [x])[(fs.map fileB).length]'(by simp) = x := by rw [List.getElem_append_right (Nat.le_refl _)]; simp
    obtain ⟨hb, ⟨F, hF, S, he, -⟩ | ⟨⟨i, hi, e0⟩, he⟩⟩ := h
    · have h3 := hF.at_ (fs.map fileB).length (by simp) (by rw [hF.len]; simp)
      rw [hlast] at h3
      exact ⟨hb, _, by rw [he]; unfold errB; rw [h3]; rfl⟩
    · by_cases hlt : i < (fs.map fileB).length
      · rw [List.getElem_append_left hlt, hop i hlt] at e0
        cases e0
      · obtain rfl : i = (fs.map fileB).length := by rw [List.length_append] at hi; simp at hi hlt ⊢; omega
        rw [hlast] at e0
        exact ⟨hb, _, by rw [he]; unfold errB; rw [if_pos e0]; rfl⟩
/-- How many of a set's items its files have. -/
theorem files_all (s : SetM) : s.all.filter (SetM.mk [] s.fs).has = (SetM.mk [] s.fs).all := by
  refine (uniqL_of KBo ((uniqL_ri KBo _).filter _) fun y => ?_).symm
  rw [List.mem_filter, SetM.has_eq, decide_eq_true_eq, mem_all, uniqL_mem KBo, List.mem_append, List.mem_append]
  exact ⟨fun h => h.2, fun h => ⟨h.elim .inl (fun e => by cases e), h⟩⟩
end Go.Proofs.YtadakaenbemedaaGreatDoor
