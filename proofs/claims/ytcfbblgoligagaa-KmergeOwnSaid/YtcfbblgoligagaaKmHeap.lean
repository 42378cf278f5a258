/-
  A heap of rows, the least at its top: plain lists, no program in sight.
-/
import Derived.Test.YtcfbblgoligagaaKmPlain
namespace Go.Proofs.Ytcfbblgoligagaa

section
variable {γ : Type} [Inhabited γ]
def atG (L : List γ) (k : Nat) : γ := L[k]?.getD default
def swapG (L : List γ) (i j : Nat) : List γ := (L.set i (atG L j)).set j (atG L i)
theorem atG_eq {L : List γ} {k : Nat} (h : k < L.length) : atG L k = L[k] := by unfold atG; rw [List.getElem?_eq_getElem h]; rfl
theorem swapG_length (L : List γ) (i j : Nat) : (swapG L i j).length = L.length := by simp [swapG]
theorem swapG_perm {L : List γ} {i j : Nat} (hi : i < L.length) (hj : j < L.length) : (swapG L i j).Perm L := by
  have h := Array.swap_perm (xs := L.toArray) (i := i) (j := j) (by simpa using hi) (by simpa using hj)
  have h2 := h.toList
  simp only [Array.swap, List.getElem_toArray, List.set_toArray] at h2
  unfold swapG
  rw [atG_eq hi, atG_eq hj]
  exact h2
theorem swapG_at {L : List γ} {i j : Nat} (hi : i < L.length) (hj : j < L.length) (k : Nat) : atG (swapG L i j) k = if k = j then atG L i else if k = i then atG L j else atG L k := by
  unfold swapG
  conv => lhs; unfold atG
  rw [List.getElem?_set, List.length_set, List.getElem?_set]
  by_cases h1 : k = j
  · subst h1; simp [hj]; rfl
  · by_cases h2 : k = i
    · subst h2; simp [hi, Ne.symm h1, h1]; rfl
    · simp [Ne.symm h1, h1, Ne.symm h2, h2, atG]
theorem swapG_get (L : List γ) (i j k : Nat) (h1 : k ≠ i) (h2 : k ≠ j) : (swapG L i j)[k]? = L[k]? := by
  unfold swapG
  rw [List.getElem?_set_ne (Ne.symm h2), List.getElem?_set_ne (Ne.symm h1)]

/-- Which of two is less: not both ways, and what isn't less goes on. -/
structure Wo (less : γ → γ → Bool) : Prop where
  asymm : ∀ a b, less a b = true → less b a = false
  ntrans : ∀ a b c, less b a = false → less c b = false → less c a = false
  irrefl : ∀ a, less a a = false

variable {less : γ → γ → Bool}
/-- From place s on none of the first n is less than what it hangs at. -/
def Hp (less : γ → γ → Bool) (s n : Nat) (L : List γ) : Prop := ∀ j, 0 < j → j < n → s ≤ (j - 1) / 2 → less (atG L j) (atG L ((j - 1) / 2)) = false

/-- While one goes down: it stands at i. -/
structure DownI (less : γ → γ → Bool) (s n : Nat) (L0 L : List γ) (i : Nat) : Prop where
  perm : L.Perm L0
  out : ∀ k, n ≤ k → L[k]? = L0[k]?
  le : s ≤ i
  hp : ∀ j, 0 < j → j < n → s ≤ (j - 1) / 2 → (j - 1) / 2 ≠ i → less (atG L j) (atG L ((j - 1) / 2)) = false
  up : 0 < i → s ≤ (i - 1) / 2 → ∀ j, 0 < j → j < n → (j - 1) / 2 = i → less (atG L j) (atG L ((i - 1) / 2)) = false

theorem DownI.start {s n : Nat} {L : List γ} (h : Hp less (s + 1) n L) : DownI less s n L L s :=
  ⟨.refl _, fun _ _ => rfl, Nat.le_refl _, fun j h1 h2 h3 h4 => h j h1 h2 (by omega), fun h1 h2 => by omega⟩
/-- The first kid, or the second one where that is less. -/
def kid (less : γ → γ → Bool) (n : Nat) (L : List γ) (i : Nat) : Nat := if 2 * i + 2 < n ∧ less (atG L (2 * i + 2)) (atG L (2 * i + 1)) = true then 2 * i + 2 else 2 * i + 1
theorem kid_le (hw : Wo less) {n i k : Nat} {L : List γ} (h0 : 0 < k) (hk : k < n) (hp : (k - 1) / 2 = i) : less (atG L k) (atG L (kid less n L i)) = false := by
  unfold kid
  have : k = 2 * i + 1 ∨ k = 2 * i + 2 := by omega
  split
  · rename_i h
    rcases this with rfl | rfl
    · exact hw.asymm _ _ h.2
    · exact hw.irrefl _
  · rename_i h
    rcases this with rfl | rfl
    · exact hw.irrefl _
    · cases h2 : less (atG L (2 * i + 2)) (atG L (2 * i + 1)) with
      | false => rfl
      | true => exact absurd ⟨hk, h2⟩ h
theorem kid_lt {n i : Nat} {L : List γ} (h : 2 * i + 1 < n) : kid less n L i < n ∧ i < kid less n L i ∧ (kid less n L i - 1) / 2 = i := by
  unfold kid
  split
  · rename_i h2; omega
  · omega
theorem DownI.stop1 {s n i : Nat} {L0 L : List γ} (h : DownI less s n L0 L i) (hn : n ≤ 2 * i + 1) : Hp less s n L := fun j h1 h2 h3 =>
  h.hp j h1 h2 h3 (by omega)
theorem DownI.stop2 (hw : Wo less) {s n i : Nat} {L0 L : List γ} (h : DownI less s n L0 L i) (hl : less (atG L (kid less n L i)) (atG L i) = false) : Hp less s n L := fun j h1 h2 h3 => by
  by_cases hj : (j - 1) / 2 = i
  · rw [hj]
    exact hw.ntrans _ _ _ hl (kid_le hw h1 h2 hj)
  · exact h.hp j h1 h2 h3 hj
theorem DownI.step (hw : Wo less) {s n i : Nat} {L0 L : List γ} (h : DownI less s n L0 L i) (hn : n ≤ L.length) (hk : 2 * i + 1 < n) (hl : less (atG L (kid less n L i)) (atG L i) = true) :
    DownI less s n L0 (swapG L i (kid less n L i)) (kid less n L i) := by
  obtain ⟨k1, k2, k3⟩ := kid_lt (less := less) (L := L) hk
  have hmin := fun k (h0 : 0 < k) (h1 : k < n) (h2 : (k - 1) / 2 = i) => kid_le hw (L := L) h0 h1 h2
  generalize kid less n L i = j at *
  have hat := swapG_at (L := L) (i := i) (j := j) (by omega) (by omega)
  refine ⟨(swapG_perm (by omega) (by omega)).trans h.perm, fun k hkn => (swapG_get L i j k (by omega) (by omega)).trans (h.out k hkn), by have := h.le; omega, fun k h1 h2 h3 h4 => ?_, fun _ _ k h1 h2 h3 => ?_⟩
  · by_cases hp : (k - 1) / 2 = i
    · rw [hp, hat i, if_neg (by omega), if_pos rfl, hat k]
      by_cases hkj : k = j
      · rw [if_pos hkj]; exact hw.asymm _ _ hl
      · rw [if_neg hkj, if_neg (by omega)]
        exact hmin k h1 h2 hp
    · by_cases hki : k = i
      · subst hki
        rw [hat k, if_neg (by omega), if_pos rfl, hat ((k - 1) / 2), if_neg (by omega), if_neg (by omega)]
        exact h.up h1 h3 j (by omega) k1 k3
      · rw [hat k, if_neg (by rintro rfl; exact hp k3), if_neg hki, hat ((k - 1) / 2), if_neg h4, if_neg hp]
        exact h.hp k h1 h2 h3 hp
  · rw [k3, hat i, if_neg (by omega), if_pos rfl, hat k, if_neg (by omega), if_neg (by omega)]
    have := h.hp k h1 h2 (by have := h.le; omega) (by omega)
    rwa [h3] at this
/-- The top is the least. -/
theorem Hp.top (hw : Wo less) {n : Nat} {L : List γ} (h : Hp less 0 n L) : ∀ j, j < n → less (atG L j) (atG L 0) = false := by
  intro j
  induction j using Nat.strongRecOn with
  | ind j ih =>
    intro hj
    by_cases h0 : j = 0
    · subst h0; exact hw.irrefl _
    · exact hw.ntrans _ _ _ (ih ((j - 1) / 2) (by omega) (by omega)) (h j (by omega) hj (by omega))
theorem Hp.leaves (n : Nat) (L : List γ) : Hp less (n / 2) n L := fun j h1 h2 h3 => by omega
/-- One turned at the top: below it all is as it was. -/
theorem Hp.set0 {n : Nat} {L : List γ} (h : Hp less 0 n L) (x : γ) : Hp less 1 n (L.set 0 x) := fun j h1 h2 h3 => by
  have := h j h1 h2 (by omega)
  unfold atG at *
  rwa [List.getElem?_set_ne (by omega), List.getElem?_set_ne (by omega)]
/-- The top and the last changed places: below the top, without the last, all is as it was. -/
theorem Hp.swap0 {n : Nat} {L : List γ} (h : Hp less 1 (n + 1) L) (hn : L.length = n + 1) : Hp less 1 n (swapG L 0 n) := fun j h1 h2 h3 => by
  have := h j h1 (by omega) h3
  have h4 := swapG_at (L := L) (i := 0) (j := n) (by omega) (by omega)
  rw [h4 j, if_neg (by omega), if_neg (by omega), h4 ((j - 1) / 2), if_neg (by omega), if_neg (by omega)]
  exact this
theorem Hp.congr {s n : Nat} {L M : List γ} (h : Hp less s n L) (he : ∀ k, k < n → M[k]? = L[k]?) : Hp less s n M := fun j h1 h2 h3 => by
  have := h j h1 h2 h3
  unfold atG at *
  rwa [he j h2, he ((j - 1) / 2) (by omega)]
end

/-- Rows that are gone through at once: none empty, none falls. -/
structure RowsI {β : Type} (le : β → β → Prop) (L : List (List β)) : Prop where
  some : ∀ r ∈ L, r ≠ []
  wk : ∀ r ∈ L, r.Pairwise le

section
variable {β κ : Type} {lt : κ → κ → Bool} (key : β → κ)
def headLess [Inhabited β] (lt : κ → κ → Bool) (key : β → κ) (a b : List β) : Bool := lt (key (a.headD default)) (key (b.headD default))
theorem headLess_wo [Inhabited β] (h : Ordr lt) : Wo (headLess lt key) where
  asymm _ _ e := h.asymm e
  ntrans _ _ _ h1 h2 := h.ntrans h1 h2
  irrefl _ := h.irrefl _

/-- While the rows are gone through: pre has been told, the rows L are left. -/
structure MergeI [Inhabited β] (lt : κ → κ → Bool) (key : β → κ) (all pre : List β) (L : List (List β)) : Prop where
  perm : (pre ++ L.flatten).Perm all
  wk : Wk lt (pre.map key)
  le : ∀ x ∈ pre, ∀ y ∈ L.flatten, lt (key y) (key x) = false
  some : ∀ r ∈ L, r ≠ []
  rows : ∀ r ∈ L, Wk lt (r.map key)
  hp : Hp (headLess lt key) 0 L.length L

variable {key} [Inhabited β]
theorem MergeI.start {all : List β} {L M : List (List β)} (hm : L.Perm M) (hp : M.flatten.Perm all) (h1 : ∀ r ∈ M, r ≠ []) (h2 : ∀ r ∈ M, Wk lt (r.map key)) (h3 : Hp (headLess lt key) 0 L.length L) : MergeI lt key all [] L :=
  ⟨(hm.flatten).trans hp, List.Pairwise.nil, by simp, fun r hr => h1 r (hm.mem_iff.1 hr), fun r hr => h2 r (hm.mem_iff.1 hr), h3⟩
/-- The first of the top row is least of what is left. -/
theorem MergeI.least (h : Ordr lt) {all pre : List β} {L : List (List β)} {x : β} {r : List β} {T : List (List β)} (hI : MergeI lt key all pre L) (hL : L = (x :: r) :: T) : ∀ y ∈ L.flatten, lt (key y) (key x) = false := by
  intro y hy
  obtain ⟨s, hs, hys⟩ := List.mem_flatten.1 hy
  obtain ⟨j, hj, e⟩ := List.mem_iff_getElem.1 hs
  have htop := hI.hp.top (headLess_wo key h) j hj
  rw [atG_eq hj, e, atG_eq (by omega), show L[0]'(by omega) = x :: r from by simp [hL]] at htop
  have hw := hI.rows s hs
  cases s with
  | nil => simp at hys
  | cons a t =>
    have h1 : lt (key a) (key x) = false := htop
    rcases List.mem_cons.1 hys with rfl | hyt
    · exact h1
    · have h2 := (List.pairwise_cons.1 hw).1 (key y) (List.mem_map.2 ⟨y, hyt, rfl⟩)
      exact h.ntrans h1 h2
theorem MergeI.told (h : Ordr lt) {all pre : List β} {L : List (List β)} {x : β} {r : List β} {T : List (List β)} (hI : MergeI lt key all pre L) (hL : L = (x :: r) :: T) : (pre.map key ++ [key x]) <+: sortK lt (all.map key) := by
  have hle := hI.least h hL
  have hp : ((pre.map key ++ [key x]) ++ (r ++ T.flatten).map key).Perm (all.map key) := by
    have := hI.perm.map key
    rw [hL] at this
    simpa using this
  rw [sortK_split h hp ?_ ?_]
  · exact List.prefix_append _ _
  · refine List.pairwise_append.2 ⟨hI.wk, List.pairwise_singleton _ _, fun a ha b hb => ?_⟩
    obtain ⟨a', ha', rfl⟩ := List.mem_map.1 ha
    simp only [List.mem_singleton] at hb
    subst hb
    exact hI.le a' ha' x (by rw [hL]; simp)
  · intro a ha b hb
    obtain ⟨b', hb', rfl⟩ := List.mem_map.1 hb
    have hbL : b' ∈ L.flatten := by rw [hL]; simp at hb' ⊢; rcases hb' with g | g; exact .inr (.inl g); exact .inr (.inr g)
    rcases List.mem_append.1 ha with ha | ha
    · obtain ⟨a', ha', rfl⟩ := List.mem_map.1 ha
      exact hI.le a' ha' b' hbL
    · simp only [List.mem_singleton] at ha
      subst ha
      exact hle b' hbL
theorem MergeI.done (h : Ordr lt) {all pre : List β} (hI : MergeI lt key all pre []) : pre.map key = sortK lt (all.map key) := by
  have := hI.perm
  simp only [List.flatten_nil, List.append_nil] at this
  exact (sortK_of h (this.map key) hI.wk).symm
/-- One more is told: its row is shorter, what is left stands as a heap again. -/
theorem MergeI.next (h : Ordr lt) {all pre : List β} {L : List (List β)} {x : β} {r : List β} {T M : List (List β)} (hI : MergeI lt key all pre L) (hL : L = (x :: r) :: T) (hM : M.Perm (if r = [] then T else r :: T)) (hp : Hp (headLess lt key) 0 M.length M) :
    MergeI lt key all (pre ++ [x]) M := by
  have hle := hI.least h hL
  have hfl : M.flatten.Perm (r ++ T.flatten) := by
    refine hM.flatten.trans ?_
    split
    · rename_i e; subst e; exact .refl _
    · exact .refl _
  have hsub : ∀ y ∈ M.flatten, y ∈ L.flatten := fun y hy => by
    have := hfl.mem_iff.1 hy
    rw [hL]; simp at this ⊢; rcases this with g | g; exact .inr (.inl g); exact .inr (.inr g)
  have hrow : ∀ s ∈ M, s ≠ [] ∧ Wk lt (s.map key) := fun s hs => by
    have := hM.mem_iff.1 hs
    split at this
    · exact ⟨hI.some s (by rw [hL]; simp [this]), hI.rows s (by rw [hL]; simp [this])⟩
    · rename_i e
      rcases List.mem_cons.1 this with rfl | g
      · refine ⟨e, ?_⟩
        have := hI.rows (x :: s) (by rw [hL]; simp)
        exact (List.pairwise_cons.1 this).2
      · exact ⟨hI.some s (by rw [hL]; simp [g]), hI.rows s (by rw [hL]; simp [g])⟩
  refine ⟨?_, ?_, ?_, fun s hs => (hrow s hs).1, fun s hs => (hrow s hs).2, hp⟩
  · refine List.Perm.trans ?_ hI.perm
    rw [hL, List.append_assoc]
    refine List.Perm.append_left pre ?_
    simp only [List.flatten_cons, List.cons_append, List.nil_append]
    exact hfl.cons x
  · rw [List.map_append]
    refine List.pairwise_append.2 ⟨hI.wk, List.pairwise_singleton _ _, fun a ha b hb => ?_⟩
    obtain ⟨a', ha', rfl⟩ := List.mem_map.1 ha
    simp only [List.map_cons, List.map_nil, List.mem_singleton] at hb
    subst hb
    exact hI.le a' ha' x (by rw [hL]; simp)
  · intro a ha b hb
    rcases List.mem_append.1 ha with ha | ha
    · exact hI.le a ha b (hsub b hb)
    · simp only [List.mem_singleton] at ha
      subst ha
      exact hle b (hsub b hb)
end
end Go.Proofs.Ytcfbblgoligagaa
