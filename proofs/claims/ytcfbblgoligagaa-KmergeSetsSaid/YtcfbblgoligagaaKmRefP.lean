/-
  One more, again and again: plain lists.
-/
import Derived.Test.YtcfbblgoligagaaKmPlain
namespace Go.Proofs.Ytcfbblgoligagaa
section
variable {κ : Type} [DecidableEq κ] {lt : κ → κ → Bool}
/-- How many of the first are ahead of x, till one isn't. -/
def cutG (lt : κ → κ → Bool) (x : κ) : List κ → Nat
  | a :: t => if lt a x = true then cutG lt x t + 1 else 0
  | [] => 0
/-- A rising row with one more, once. -/
def putG (lt : κ → κ → Bool) (l : List κ) (x : κ) : List κ := if l[cutG lt x l]? = some x then l else l.take (cutG lt x l) ++ x :: l.drop (cutG lt x l)
omit [DecidableEq κ] in
theorem cutG_eq {x : κ} : ∀ {l : List κ} {k : Nat}, k ≤ l.length → (∀ j (h : j < l.length), j < k → lt l[j] x = true) → (∀ h : k < l.length, lt l[k] x = false) → cutG lt x l = k
  | [], k, h, _, _ => by have : k = 0 := by simpa using h
                         subst this; rfl
  | a :: t, 0, _, _, h2 => by
    have := h2 (by simp)
    simp only [List.getElem_cons_zero] at this
    simp [cutG, this]
  | a :: t, k + 1, h, h1, h2 => by
    have h0 := h1 0 (by simp) (by omega)
    simp only [List.getElem_cons_zero] at h0
    have ih := cutG_eq (l := t) (k := k) (by simpa using h) (fun j hj hjk => by have := h1 (j + 1) (by simpa using hj) (by omega); simpa using this) (fun hk => by have := h2 (by simpa using hk); simpa using this)
    simp [cutG, h0, ih]
theorem putG_cons (x a : κ) (t : List κ) : putG lt (a :: t) x = if lt a x = true then a :: putG lt t x else if a = x then a :: t else x :: a :: t := by
  by_cases ha : lt a x = true
  · have e : cutG lt x (a :: t) = cutG lt x t + 1 := by show (if _ then _ else _) = _; rw [if_pos ha]
    rw [if_pos ha]
    unfold putG
    rw [e, List.getElem?_cons_succ, List.take_succ_cons, List.drop_succ_cons]
    split <;> simp
  · have e : cutG lt x (a :: t) = 0 := by show (if _ then _ else _) = _; rw [if_neg ha]
    rw [if_neg ha]
    unfold putG
    rw [e]
    simp
theorem putG_mem (x : κ) : ∀ (l : List κ) (y : κ), y ∈ putG lt l x ↔ y = x ∨ y ∈ l
  | [], y => by simp [putG, cutG]
  | a :: t, y => by
    rw [putG_cons]
    split
    · rw [List.mem_cons, putG_mem x t y, List.mem_cons]
      constructor <;> (rintro (h | h | h) <;> simp [h])
    · split
      · rename_i h; subst h; simp
      · simp
theorem putG_ri (h : Ordr lt) (x : κ) : ∀ {l : List κ}, Ri lt l → Ri lt (putG lt l x)
  | [], _ => by simp [putG, cutG, Ri]
  | a :: t, hr => by
    have hr' := List.pairwise_cons.1 hr
    rw [putG_cons]
    split
    · rename_i ha
      refine List.pairwise_cons.2 ⟨fun y hy => ?_, putG_ri h x hr'.2⟩
      rcases (putG_mem x t y).1 hy with rfl | hy
      · exact ha
      · exact hr'.1 y hy
    · rename_i ha
      split
      · exact hr
      · rename_i hne
        have hxa : lt x a = true := by
          cases h2 : lt x a with
          | true => rfl
          | false => exact absurd (h.tri _ _ (by simpa using ha) h2) hne
        refine List.pairwise_cons.2 ⟨fun y hy => ?_, hr⟩
        rcases List.mem_cons.1 hy with rfl | hy
        · exact hxa
        · exact h.trans _ _ _ hxa (hr'.1 y hy)
theorem putG_len (x : κ) (l : List κ) : (putG lt l x).length ≤ l.length + 1 := by
  unfold putG
  split
  · omega
  · simp; omega
theorem fold_putG (h : Ordr lt) : ∀ (l out : List κ), Ri lt out → Ri lt (l.foldl (putG lt) out) ∧ ∀ y, y ∈ l.foldl (putG lt) out ↔ y ∈ out ∨ y ∈ l
  | [], out, hr => ⟨hr, fun y => by simp⟩
  | x :: t, out, hr => by
    obtain ⟨h1, h2⟩ := fold_putG h t (putG lt out x) (putG_ri h x hr)
    refine ⟨h1, fun y => ?_⟩
    rw [List.foldl_cons, h2, putG_mem, List.mem_cons]
    constructor <;> (rintro (g | g) <;> first | (rcases g with g | g <;> simp [g]) | simp [g])
theorem putG_all (h : Ordr lt) (l : List κ) : l.foldl (putG lt) [] = uniqL lt l := by
  obtain ⟨h1, h2⟩ := fold_putG h l [] List.Pairwise.nil
  exact (uniqL_of h h1 fun x => by rw [h2]; simp).symm
theorem fold_len (l : List κ) : ∀ out : List κ, (l.foldl (putG lt) out).length ≤ out.length + l.length := by
  induction l with
  | nil => intro out; simp
  | cons x t ih => intro out; have := ih (putG lt out x); have := putG_len (lt := lt) x out; simp only [List.foldl_cons, List.length_cons]; omega
end
end Go.Proofs.Ytcfbblgoligagaa
