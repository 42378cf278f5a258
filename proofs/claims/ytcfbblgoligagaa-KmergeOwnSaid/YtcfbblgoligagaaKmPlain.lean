/-
  Rows that are gone through at once: sorted keys, runs of equal ones, a heap of rows. Plain lists, no program in sight.
-/
import Derived.Lib.Hide
namespace Go.Proofs.Ytcfbblgoligagaa

/-- A strict order in which of two keys one is ahead, or they are one. -/
structure Ordr {κ : Type} (lt : κ → κ → Bool) : Prop where
  irrefl : ∀ a, lt a a = false
  trans : ∀ a b c, lt a b = true → lt b c = true → lt a c = true
  tri : ∀ a b, lt a b = false → lt b a = false → a = b

section
variable {κ : Type} {lt : κ → κ → Bool}
theorem Ordr.asymm (h : Ordr lt) {a b : κ} (hab : lt a b = true) : lt b a = false := by
  cases h2 : lt b a with
  | false => rfl
  | true => have := h.trans _ _ _ hab h2; rw [h.irrefl] at this; cases this
theorem Ordr.ntrans (h : Ordr lt) {a b c : κ} (h1 : lt b a = false) (h2 : lt c b = false) : lt c a = false := by
  cases h3 : lt c a with
  | false => rfl
  | true =>
    cases h4 : lt a b with
    | true => have := h.trans _ _ _ h3 h4; rw [h2] at this; cases this
    | false => have e := h.tri _ _ h4 h1; subst e; rw [h3] at h2; cases h2
theorem Ordr.ne (h : Ordr lt) {a b : κ} (hab : lt a b = true) : a ≠ b := fun e => by subst e; rw [h.irrefl] at hab; cases hab

/-- Nothing is behind what is ahead of it. -/
def Wk (lt : κ → κ → Bool) (l : List κ) : Prop := l.Pairwise fun x y => lt y x = false
/-- Each is ahead of the next. -/
def Ri (lt : κ → κ → Bool) (l : List κ) : Prop := l.Pairwise fun x y => lt x y = true
theorem Ri.wk (h : Ordr lt) {l : List κ} (hr : Ri lt l) : Wk lt l := List.Pairwise.imp (fun e => h.asymm e) hr

def insK (lt : κ → κ → Bool) (x : κ) : List κ → List κ
  | [] => [x]
  | y :: t => if lt x y = true then x :: y :: t else y :: insK lt x t
def sortK (lt : κ → κ → Bool) : List κ → List κ
  | [] => []
  | x :: t => insK lt x (sortK lt t)
theorem insK_perm (x : κ) : ∀ l, (insK lt x l).Perm (x :: l)
  | [] => .refl _
  | y :: t => by
    unfold insK
    split
    · exact .refl _
    · exact ((insK_perm x t).cons y).trans (.swap x y t)
theorem sortK_perm : ∀ l, (sortK lt l).Perm l
  | [] => .refl _
  | x :: t => (insK_perm x _).trans ((sortK_perm t).cons x)
theorem insK_wk (h : Ordr lt) (x : κ) : ∀ l, Wk lt l → Wk lt (insK lt x l)
  | [], _ => by simp [insK, Wk]
  | y :: t, hw => by
    unfold Wk at hw
    rw [List.pairwise_cons] at hw
    unfold insK
    split
    · rename_i hx
      unfold Wk
      rw [List.pairwise_cons]
      refine ⟨fun z hz => ?_, List.pairwise_cons.2 hw⟩
      rcases List.mem_cons.1 hz with rfl | hz
      · exact h.asymm hx
      · exact h.ntrans (h.asymm hx) (hw.1 z hz)
    · rename_i hx
      rw [Bool.not_eq_true] at hx
      unfold Wk
      rw [List.pairwise_cons]
      refine ⟨fun z hz => ?_, insK_wk h x t hw.2⟩
      rcases List.mem_cons.1 ((insK_perm x t).mem_iff.1 hz) with rfl | hz
      · exact hx
      · exact hw.1 z hz
theorem sortK_wk (h : Ordr lt) : ∀ l, Wk lt (sortK lt l)
  | [] => List.Pairwise.nil
  | x :: t => insK_wk h x _ (sortK_wk h t)
theorem wk_unique (h : Ordr lt) : ∀ {l m : List κ}, l.Perm m → Wk lt l → Wk lt m → l = m
  | [], m, p, _, _ => p.nil_eq
  | x :: l, [], p, _, _ => absurd p.length_eq (by simp)
  | x :: l, y :: m, p, hl, hm => by
    have hl' := hl
    have hm' := hm
    unfold Wk at hl' hm'
    rw [List.pairwise_cons] at hl' hm'
    have e : x = y := by
      rcases List.mem_cons.1 (p.mem_iff.1 (List.mem_cons_self)) with h1 | h1
      · exact h1
      · rcases List.mem_cons.1 (p.mem_iff.2 (List.mem_cons_self)) with h2 | h2
        · exact h2.symm
        · exact h.tri _ _ (hm'.1 x h1) (hl'.1 y h2)
    subst e
    rw [wk_unique h p.cons_inv hl'.2 hm'.2]
theorem sortK_of (h : Ordr lt) {l m : List κ} (p : m.Perm l) (hm : Wk lt m) : sortK lt l = m := wk_unique h ((sortK_perm l).trans p.symm) (sortK_wk h l) hm
theorem sortK_perm_eq (h : Ordr lt) {l m : List κ} (p : m.Perm l) : sortK lt m = sortK lt l := (sortK_of h ((sortK_perm l).trans p.symm) (sortK_wk h l))
/-- What has been told, rising, of what is left nothing ahead of it: it is what the sorted row begins with. -/
theorem sortK_split (h : Ordr lt) {l pre rest : List κ} (p : (pre ++ rest).Perm l) (hw : Wk lt pre) (hle : ∀ x ∈ pre, ∀ y ∈ rest, lt y x = false) : sortK lt l = pre ++ sortK lt rest :=
  sortK_of h ((List.Perm.append_left pre (sortK_perm rest)).trans p) (List.pairwise_append.2 ⟨hw, sortK_wk h rest, fun x hx y hy => hle x hx y ((sortK_perm rest).mem_iff.1 hy)⟩)

variable [DecidableEq κ]
/-- Runs of equal keys; a: the one that is counted, n: how often it was there. -/
def runsA (a : κ) (n : Nat) : List κ → List (κ × Nat)
  | [] => [(a, n)]
  | x :: t => if x = a then runsA a (n + 1) t else (a, n) :: runsA x 1 t
def runs : List κ → List (κ × Nat)
  | [] => []
  | x :: t => runsA x 1 t
/-- The keys, each once, rising. -/
def uniqL (lt : κ → κ → Bool) (l : List κ) : List κ := (runs (sortK lt l)).map (·.1)

theorem runsA_head (a : κ) : ∀ (n : Nat) (l : List κ), ∃ m t, runsA a n l = (a, m) :: t
  | n, [] => ⟨n, [], rfl⟩
  | n, x :: t => by
    unfold runsA
    split
    · exact runsA_head a (n + 1) t
    · exact ⟨n, _, rfl⟩
theorem runsA_mem (h : Ordr lt) : ∀ (l : List κ) (a : κ) (n : Nat), 1 ≤ n → Wk lt (a :: l) → ∀ x m, (x, m) ∈ runsA a n l ↔ x ∈ a :: l ∧ m = l.count x + (if x = a then n else 0)
  | [], a, n, hn, _, x, m => by
    simp only [runsA, List.mem_singleton, Prod.mk.injEq, List.count_nil]
    constructor
    · rintro ⟨rfl, rfl⟩; simp
    · rintro ⟨rfl, e⟩; simp at e; exact ⟨rfl, e⟩
  | y :: t, a, n, hn, hw, x, m => by
    have hw' := hw
    unfold Wk at hw'
    rw [List.pairwise_cons] at hw'
    unfold runsA
    split
    · rename_i hy
      subst hy
      have ih := runsA_mem h t y (n + 1) (by omega) (by
        unfold Wk; exact hw'.2) x m
      rw [ih]
      simp only [List.mem_cons, List.count_cons, beq_iff_eq]
      by_cases e : x = y
      · subst e; simp; omega
      · rw [if_neg e, if_neg (fun g => e g.symm)]; simp [e]
    · rename_i hy
      have ih := runsA_mem h t y 1 (by omega) hw'.2 x m
      rw [List.mem_cons, ih]
      have hna : a ∉ y :: t := fun e => by
        rcases List.mem_cons.1 e with e | e
        · exact hy e.symm
        · have h1 := hw'.1 y (by simp)
          have h2 := hw'.2
          rw [List.pairwise_cons] at h2
          exact hy (h.tri _ _ h1 (h2.1 a e))
      by_cases e : x = a
      · subst e
        have h3 : (y :: t).count x = 0 := List.count_eq_zero.2 hna
        rw [h3]
        constructor
        · rintro (g | ⟨g, _⟩)
          · injection g with _ g
            exact ⟨by simp, by simpa using g⟩
          · exact absurd g hna
        · rintro ⟨_, g⟩; left; simpa using g
      · simp only [Prod.mk.injEq, List.mem_cons, List.count_cons, beq_iff_eq]
        rw [if_neg e]
        by_cases e2 : x = y
        · subst e2; simp [e]
        · rw [if_neg e2, if_neg (fun g => e2 g.symm)]; simp [e, e2]
theorem runs_mem (h : Ordr lt) {l : List κ} (hw : Wk lt l) (x : κ) (m : Nat) : (x, m) ∈ runs l ↔ x ∈ l ∧ m = l.count x := by
  cases l with
  | nil => simp [runs]
  | cons a t =>
    unfold runs
    rw [runsA_mem h t a 1 (by omega) hw]
    simp only [List.count_cons, beq_iff_eq]
    by_cases e : x = a
    · subst e; simp
    · rw [if_neg e, if_neg (fun g => e g.symm)]
theorem runsA_ri (h : Ordr lt) : ∀ (l : List κ) (a : κ) (n : Nat), Wk lt (a :: l) → Ri lt ((runsA a n l).map (·.1))
  | [], a, n, _ => by simp [runsA, Ri]
  | y :: t, a, n, hw => by
    have hw' := hw
    unfold Wk at hw'
    rw [List.pairwise_cons] at hw'
    unfold runsA
    split
    · rename_i hy; subst hy; exact runsA_ri h t y (n + 1) hw'.2
    · rename_i hy
      have ih := runsA_ri h t y 1 hw'.2
      rw [List.map_cons]
      refine List.pairwise_cons.2 ⟨fun z hz => ?_, ih⟩
      obtain ⟨⟨z', m⟩, hm, rfl⟩ := List.mem_map.1 hz
      have h1 := ((runsA_mem h t y 1 (by omega) hw'.2 z' m).1 hm).1
      have h2 := hw'.1 z' h1
      cases h3 : lt a z' with
      | true => rfl
      | false =>
        exfalso
        have e := h.tri _ _ h3 h2
        rcases List.mem_cons.1 h1 with g | g
        · exact hy (g.symm.trans e.symm)
        · have h4 := List.pairwise_cons.1 hw'.2
          have h5 := h4.1 z' g
          rw [← e] at h5
          exact hy (h.tri _ _ (hw'.1 y (by simp)) h5)
theorem runs_ri (h : Ordr lt) {l : List κ} (hw : Wk lt l) : Ri lt ((runs l).map (·.1)) := by
  cases l with
  | nil => simp [runs, Ri]
  | cons a t => exact runsA_ri h t a 1 hw
theorem uniqL_ri (h : Ordr lt) (l : List κ) : Ri lt (uniqL lt l) := runs_ri h (sortK_wk h l)
theorem uniqL_mem (h : Ordr lt) (l : List κ) (x : κ) : x ∈ uniqL lt l ↔ x ∈ l := by
  unfold uniqL
  rw [List.mem_map]
  constructor
  · rintro ⟨⟨y, m⟩, hm, rfl⟩
    exact (sortK_perm l).mem_iff.1 ((runs_mem h (sortK_wk h l) y m).1 hm).1
  · intro hx
    exact ⟨(x, (sortK lt l).count x), (runs_mem h (sortK_wk h l) _ _).2 ⟨(sortK_perm l).mem_iff.2 hx, rfl⟩, rfl⟩
omit [DecidableEq κ] in
theorem ri_unique (h : Ordr lt) : ∀ {l m : List κ}, Ri lt l → Ri lt m → (∀ x, x ∈ l ↔ x ∈ m) → l = m
  | [], [], _, _, _ => rfl
  | [], y :: m, _, _, e => absurd ((e y).2 (by simp)) (by simp)
  | x :: l, [], _, _, e => absurd ((e x).1 (by simp)) (by simp)
  | x :: l, y :: m, hl, hm, e => by
    have hl' := List.pairwise_cons.1 hl
    have hm' := List.pairwise_cons.1 hm
    have hxy : x = y := by
      rcases List.mem_cons.1 ((e x).1 (by simp)) with h1 | h1
      · exact h1
      · rcases List.mem_cons.1 ((e y).2 (by simp)) with h2 | h2
        · exact h2.symm
        · have := h.trans _ _ _ (hl'.1 y h2) (hm'.1 x h1)
          rw [h.irrefl] at this; cases this
    subst hxy
    congr 1
    refine ri_unique h hl'.2 hm'.2 fun z => ?_
    constructor
    · intro hz
      rcases List.mem_cons.1 ((e z).1 (by simp [hz])) with g | g
      · subst g; have := hl'.1 z hz; rw [h.irrefl] at this; cases this
      · exact g
    · intro hz
      rcases List.mem_cons.1 ((e z).2 (by simp [hz])) with g | g
      · subst g; have := hm'.1 z hz; rw [h.irrefl] at this; cases this
      · exact g
theorem uniqL_of (h : Ordr lt) {l m : List κ} (hm : Ri lt m) (he : ∀ x, x ∈ m ↔ x ∈ l) : uniqL lt l = m :=
  ri_unique h (uniqL_ri h l) hm fun x => (uniqL_mem h l x).trans (he x).symm
theorem uniqL_congr (h : Ordr lt) {l m : List κ} (he : ∀ x, x ∈ l ↔ x ∈ m) : uniqL lt l = uniqL lt m :=
  ri_unique h (uniqL_ri h l) (uniqL_ri h m) fun x => (uniqL_mem h l x).trans ((he x).trans (uniqL_mem h m x).symm)
theorem uniqL_len (_h : Ordr lt) (l : List κ) : (uniqL lt l).length ≤ l.length := by
  have hA : ∀ (t : List κ) (a : κ) (n : Nat), (runsA a n t).length ≤ t.length + 1 := fun t => by
    induction t with
    | nil => intro a n; simp [runsA]
    | cons y t ih =>
      intro a n
      unfold runsA
      split
      · have := ih a (n + 1); simp; omega
      · have := ih y 1; simp; omega
  have hR : ∀ t : List κ, (runs t).length ≤ t.length := fun t => by
    cases t with
    | nil => simp [runs]
    | cons a t => exact hA t a 1
  unfold uniqL
  rw [List.length_map]
  have := hR (sortK lt l)
  rwa [(sortK_perm l).length_eq] at this
end
end Go.Proofs.Ytcfbblgoligagaa
