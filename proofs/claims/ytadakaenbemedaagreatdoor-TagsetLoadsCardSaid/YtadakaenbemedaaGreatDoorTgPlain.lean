/-
  Tiers of rising keys told as one: plain lists.
-/
import Derived.Test.YtadakaenbemedaaGreatDoorKmA
namespace Go.Proofs.YtadakaenbemedaaGreatDoor

section
variable {κ : Type} {lt : κ → κ → Bool}
theorem Ri.filter {l : List κ} (hr : Ri lt l) (p : κ → Bool) : Ri lt (l.filter p) := List.Pairwise.filter p hr
/-- How many are ahead of the one at a place. -/
theorem ahead_count (h : Ordr lt) : ∀ {l : List κ} {i : Nat} (hi : i < l.length), Ri lt l → (l.filter fun y => lt y l[i]).length = i
  | a :: t, 0, hi, hr => by
    have hr' := List.pairwise_cons.1 hr
    simp only [List.getElem_cons_zero]
    rw [List.filter_cons, if_neg (by rw [h.irrefl]; simp), List.filter_eq_nil_iff.2 fun y hy => by rw [h.asymm (hr'.1 y hy)]; simp]
    rfl
  | a :: t, i + 1, hi, hr => by
    have hr' := List.pairwise_cons.1 hr
    have hi' : i < t.length := by simpa using hi
    simp only [List.getElem_cons_succ]
    rw [List.filter_cons, if_pos (hr'.1 _ (List.getElem_mem hi')), List.length_cons, ahead_count h hi' hr'.2]
/-- The first of what is less is the first of all. -/
theorem take_of_sub (h : Ordr lt) : ∀ (k : Nat) {u v : List κ}, Ri lt u → Ri lt v → (∀ x ∈ v, x ∈ u) → (∀ x ∈ u.take k, x ∈ v) → v.take k = u.take k
  | 0, _, _, _, _, _, _ => by simp
  | k + 1, [], v, _, _, hs, _ => by
    have : v = [] := List.eq_nil_iff_forall_not_mem.2 fun x hx => by have := hs x hx; simp at this
    rw [this]
  | k + 1, a :: u, v, hu, hv, hs, ht => by
    have hu' := List.pairwise_cons.1 hu
    have ha : a ∈ v := ht a (by simp)
    cases v with
    | nil => simp at ha
    | cons b w =>
      have hv' := List.pairwise_cons.1 hv
      have hb := hs b (by simp)
      have e : b = a := by
        rcases List.mem_cons.1 ha with e | e
        · exact e.symm
        · rcases List.mem_cons.1 hb with e2 | e2
          · exact e2
          · have h1 := hv'.1 a e
            have h2 := hu'.1 b e2
            rw [h.asymm h1] at h2
            cases h2
      subst e
      rw [List.take_succ_cons, List.take_succ_cons]
      congr 1
      refine take_of_sub h k hu'.2 hv'.2 (fun x hx => ?_) (fun x hx => ?_)
      · rcases List.mem_cons.1 (hs x (List.mem_cons_of_mem _ hx)) with e | e
        · subst e; have := hv'.1 x hx; rw [h.irrefl] at this; cases this
        · exact e
      · have hxu := List.mem_of_mem_take hx
        rcases List.mem_cons.1 (ht x (by rw [List.take_succ_cons]; exact List.mem_cons_of_mem _ hx)) with e | e
        · subst e; have := hu'.1 x hxu; rw [h.irrefl] at this; cases this
        · exact e
end
section
variable {κ : Type} [DecidableEq κ] {lt : κ → κ → Bool}
theorem uniq_filter (h : Ordr lt) (p : κ → Bool) (l : List κ) : uniqL lt (l.filter p) = (uniqL lt l).filter p :=
  uniqL_of h ((uniqL_ri h l).filter p) fun x => by rw [List.mem_filter, List.mem_filter, uniqL_mem h]
theorem uniq_flat_filter (h : Ordr lt) (p : κ → Bool) (ll : List (List κ)) : uniqL lt ((ll.map fun t => t.filter p).flatten) = (uniqL lt ll.flatten).filter p := by
  rw [← uniq_filter h, List.filter_flatten]
theorem ri_sub (h : Ordr lt) {t u : List κ} (ht : Ri lt t) (hu : Ri lt u) (hs : ∀ x ∈ t, x ∈ u) : t.Sublist u := by
  have e : t = u.filter fun x => decide (x ∈ t) := ri_unique h ht (hu.filter _) fun x => by
    rw [List.mem_filter, decide_eq_true_eq]
    exact ⟨fun hx => ⟨hs x hx, hx⟩, fun hx => hx.2⟩
  rw [e]
  exact List.filter_sublist
/-- The first so many of all tiers are the first of the tiers' first. -/
theorem uniq_take (h : Ordr lt) (k : Nat) (ll : List (List κ)) (hr : ∀ t ∈ ll, Ri lt t) : (uniqL lt ((ll.map fun t => t.take k).flatten)).take k = (uniqL lt ll.flatten).take k := by
  refine take_of_sub h k (uniqL_ri h _) (uniqL_ri h _) (fun x hx => ?_) (fun x hx => ?_)
  · rw [uniqL_mem h] at hx ⊢
    obtain ⟨s, hs, hxs⟩ := List.mem_flatten.1 hx
    obtain ⟨t, ht, rfl⟩ := List.mem_map.1 hs
    exact List.mem_flatten.2 ⟨t, ht, List.mem_of_mem_take hxs⟩
  · obtain ⟨i, hi, e⟩ := List.mem_iff_getElem.1 hx
    have hik : i < k := by rw [List.length_take] at hi; omega
    have hiu : i < (uniqL lt ll.flatten).length := by rw [List.length_take] at hi; omega
    rw [List.getElem_take] at e
    have hxu : x ∈ ll.flatten := (uniqL_mem h _ x).1 (by rw [← e]; exact List.getElem_mem hiu)
    obtain ⟨t, ht, hxt⟩ := List.mem_flatten.1 hxu
    obtain ⟨j, hj, ej⟩ := List.mem_iff_getElem.1 hxt
    have hsub : t.Sublist (uniqL lt ll.flatten) := ri_sub h (hr t ht) (uniqL_ri h _) fun y hy => (uniqL_mem h _ y).2 (List.mem_flatten.2 ⟨t, ht, hy⟩)
    have h1 := ahead_count h hj (hr t ht)
    have h2 := ahead_count h hiu (uniqL_ri h ll.flatten)
    rw [ej] at h1
    rw [e] at h2
    have h3 := (List.Sublist.filter (fun y => lt y x) hsub).length_le
    rw [uniqL_mem h]
    refine List.mem_flatten.2 ⟨t.take k, List.mem_map_of_mem ht, ?_⟩
    rw [← ej]
    exact List.mem_iff_getElem.2 ⟨j, by rw [List.length_take]; omega, by rw [List.getElem_take]⟩
/-- Told as one, whatever stands behind what. -/
theorem uniq_append_comm (h : Ordr lt) (a b : List κ) : uniqL lt (a ++ b) = uniqL lt (b ++ a) := uniqL_congr h fun x => by rw [List.mem_append, List.mem_append]; exact Or.comm
theorem uniq_idem (h : Ordr lt) {l : List κ} (hr : Ri lt l) : uniqL lt l = l := uniqL_of h hr fun _ => Iff.rfl
end
end Go.Proofs.YtadakaenbemedaaGreatDoor
