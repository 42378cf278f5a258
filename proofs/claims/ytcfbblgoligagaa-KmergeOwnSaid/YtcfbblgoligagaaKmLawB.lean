/-
  Rows of items put together for a call: the calls of the laws.
-/
import Derived.Test.YtcfbblgoligagaaKmAw
import Derived.Test.YtcfbblgoligagaaKmPileB
import Derived.Test.YtcfbblgoligagaaRows2
import Derived.Test.YtcfbblgoligagaaRef9
namespace Go.Proofs.Ytcfbblgoligagaa
open Go.RowKit KB

theorem rowsB_take {m : Nat → Prop} {w : World} {A : Option Addr} {LL : List (List El)} (h : KB.RowsIn m w A LL) (k : Nat) : KB.RowsIn m w A (LL.take k) := ⟨fun i hi => by
  obtain ⟨ad, Ai, ci, h1, h2, h3, h4, h5, h6⟩ := h.out i (by rw [List.length_take] at hi; omega)
  simp only [List.getElem_take]
  exact ⟨ad, Ai, ci, h1, h2, h3, h4, h5, h6⟩⟩
theorem rowsB_cut {m : Nat → Prop} {w : World} {A : Option Addr} {LL : List (List El)} (h : KB.RowsIn m w A LL) {k cap : Nat} (hc : LL.length ≤ cap) : KB.RowsIn m w (if cap = k then A else A.map (fun x => x.add k)) (LL.drop k) := ⟨fun i hi => by
  have hi' : k + i < LL.length := by rw [List.length_drop] at hi; omega
  obtain ⟨ad, Ai, ci, rfl, h2, h3, h4, h5, h6⟩ := h.out (k + i) hi'
  rw [if_neg (by omega)]
  simp only [List.getElem_drop]
  exact ⟨ad.add k, Ai, ci, rfl, by rw [add_block]; exact h2, by rw [add_add']; exact h3, h4, h5, h6⟩⟩
/-- A row of items that is seen: how it is handed on. -/
structure BRow (w : World) (A : Option Addr) (n c : Nat) (ls : List Item) : Prop where
  len : ls.length = n
  cap : n ≤ c
  few : n ≤ 10000
  short : ∀ x ∈ ls, x.length ≤ 1000
  sees : Sees2 w w.heap.size A ls
def BIs (w : World) (l : List Item) (e : Ending) (w' : World) : Prop := ∃ A c, e = .returned (.slice A l.length c) ∧ BRow w' A l.length c l ∧ Below w.heap.size w w'
section
variable {w w' : World} {A B C : Option Addr} {n m k c d e : Nat} {a b x : List Item}
theorem BRow.below (h : BRow w A n c a) (hb : Below w.heap.size w w') : BRow w' A n c a := ⟨h.len, h.cap, h.few, h.short, (h.sees.below hb).more hb.size⟩
theorem BIs.back {w1 : World} {l : List Item} {e : Ending} (hb : Below w.heap.size w w1) (h : BIs w1 l e w') : BIs w l e w' := by
  obtain ⟨A, c, h1, h2, h3⟩ := h
  exact ⟨A, c, h1, h2, hb.trans (h3.mono hb.size)⟩
theorem Items_rowsIn (A : Option Addr) (n c : Nat) (LL : List (List El)) (w : World) (hR : KB.RowsIn (fun k => k < w.heap.size) w A LL) (hn : LL.length = n) (hn6 : n ≤ 1000) (hf : LL.flatten.length ≤ 10000) (hy : ∀ r ∈ LL, ∀ y ∈ r, y.1.length ≤ 1000) :
    Calls Try.prog 12 #[.slice A n c] w (BIs w (uniqL ahead (LL.flatten.map key))) := by
  have hl : ∀ r ∈ LL, r.length ≤ 10000 := fun r hr => by
    have := List.Sublist.length_le (List.sublist_flatten_of_mem hr)
    omega
  refine (Items_own A n c LL w hR hn (by omega) (fun r hr => by have := hl r hr; omega) (by omega) fun r hr y hyr => by have := hy r hr y hyr; omega).mono ?_
  rintro e w' ⟨v, rfl, hown, hb⟩
  obtain ⟨A', c', rfl, hc', hS⟩ := hown.open_
  have hul := uniqL_len ordr (LL.flatten.map key)
  rw [List.length_map] at hul
  refine ⟨A', c', rfl, ⟨rfl, hc', Nat.le_trans hul hf, fun x hx => ?_, hS.sees fun k e => e.2⟩, hb⟩
  obtain ⟨y, hym, rfl⟩ := List.mem_map.1 ((uniqL_mem ordr _ _).1 hx)
  obtain ⟨r, hr, hyr⟩ := List.mem_flatten.1 hym
  exact hy r hr y hyr
theorem Items_s3 (A : Option Addr) (n c : Nat) (ll : List (List Item)) (w : World) (hS : Sees3 w w.heap.size A ll) (hn : ll.length = n) (hn6 : n ≤ 1000) (hf : ll.flatten.length ≤ 10000) (hy : ∀ r ∈ ll, ∀ y ∈ r, y.length ≤ 1000) :
    Calls Try.prog 12 #[.slice A n c] w (BIs w (uniqL ahead ll.flatten)) := by
  obtain ⟨LL, rfl, hR⟩ := rows_of hS
  have hf2 : LL.flatten.length ≤ 10000 := by rw [keysOf_flat, List.length_map] at hf; exact hf
  rw [keysOf_flat]
  exact Items_rowsIn A n c LL w hR (by rw [← hn]; simp [keysOf]) hn6 hf2 fun r hr y hyr => hy _ (List.mem_map_of_mem hr) _ (List.mem_map_of_mem hyr)
theorem items_2 (h : BRow w A n c a) (g : BRow w B m d b) (hle : n + m ≤ 10000) (bb : Nat) (hbb : w.heap.size = bb) : Calls Try.prog 12 #[.slice (some ⟨bb, 0, none⟩) 2 2] (w.alloc (.cells #[.slice A n c, .slice B m d] 26)) (BIs w (uniqL ahead (a ++ b))) := by
  have h1 := h.len
  have g1 := g.len
  have hS : Sees3 (w.alloc (.cells #[.slice A n c, .slice B m d] 26)) (bb + 1) (some ⟨bb, 0, none⟩) [a, b] := Sees3.new _ _ hbb _ _ _ fun i hi => by
    subst hbb
    match i, hi with
    | 0, _ => exact ⟨A, c, by rw [← h1]; rfl, by show a.length ≤ c; rw [h1]; exact h.cap, h.sees⟩
    | 1, _ => exact ⟨B, d, by rw [← g1]; rfl, by show b.length ≤ d; rw [g1]; exact g.cap, g.sees⟩
  have := Items_s3 (some ⟨bb, 0, none⟩) 2 2 [a, b] _ (hS.more (by simp; omega)) rfl (by omega) (by simp; omega) (by simp; exact ⟨h.short, g.short⟩)
  rw [show [a, b].flatten = a ++ b from by simp] at this
  exact this.mono fun e w' hr => hr.back (KI.below_new w _)
theorem items_3 (h : BRow w A n c a) (g : BRow w B m d b) (f : BRow w C k e x) (hle : n + m + k ≤ 10000) (bb : Nat) (hbb : w.heap.size = bb) : Calls Try.prog 12 #[.slice (some ⟨bb, 0, none⟩) 3 3] (w.alloc (.cells #[.slice A n c, .slice B m d, .slice C k e] 26)) (BIs w (uniqL ahead (a ++ b ++ x))) := by
  have h1 := h.len
  have g1 := g.len
  have f1 := f.len
  have hS : Sees3 (w.alloc (.cells #[.slice A n c, .slice B m d, .slice C k e] 26)) (bb + 1) (some ⟨bb, 0, none⟩) [a, b, x] := Sees3.new _ _ hbb _ _ _ fun i hi => by
    subst hbb
    match i, hi with
    | 0, _ => exact ⟨A, c, by rw [← h1]; rfl, by show a.length ≤ c; rw [h1]; exact h.cap, h.sees⟩
    | 1, _ => exact ⟨B, d, by rw [← g1]; rfl, by show b.length ≤ d; rw [g1]; exact g.cap, g.sees⟩
    | 2, _ => exact ⟨C, e, by rw [← f1]; rfl, by show x.length ≤ e; rw [f1]; exact f.cap, f.sees⟩
  have := Items_s3 (some ⟨bb, 0, none⟩) 3 3 [a, b, x] _ (hS.more (by simp; omega)) rfl (by omega) (by simp; omega) (by simp; exact ⟨h.short, g.short, f.short⟩)
  rw [show [a, b, x].flatten = a ++ b ++ x from by simp] at this
  exact this.mono fun e w' hr => hr.back (KI.below_new w _)
theorem items_1 (h : BRow w A n c a) (bb : Nat) (hbb : w.heap.size = bb) : Calls Try.prog 12 #[.slice (some ⟨bb, 0, none⟩) 1 1] (w.alloc (.cells #[.slice A n c] 26)) (BIs w (uniqL ahead a)) := by
  have h1 := h.len
  have h0 := h.few
  have hS : Sees3 (w.alloc (.cells #[.slice A n c] 26)) (bb + 1) (some ⟨bb, 0, none⟩) [a] := Sees3.new _ _ hbb _ _ _ fun i hi => by
    subst hbb
    match i, hi with
    | 0, _ => exact ⟨A, c, by rw [← h1]; rfl, by show a.length ≤ c; rw [h1]; exact h.cap, h.sees⟩
  have := Items_s3 (some ⟨bb, 0, none⟩) 1 1 [a] _ (hS.more (by simp; omega)) rfl (by omega) (by simp; omega) (by simp; exact h.short)
  rw [show [a].flatten = a from by simp] at this
  exact this.mono fun e w' hr => hr.back (KI.below_new w _)
theorem bsame (h : BRow w A n c a) (g : BRow w B m d b) (he : a = b) : Calls Try.prog 11 #[.slice A n c, .slice B m d] w (Gives w (.bool true)) :=
  (Same_any A B n c m d a b h.len g.len w h.sees g.sees (by have := h.few; omega)).mono fun _ _ h => by
    obtain ⟨h1, q, h2⟩ := h
    exact ⟨by rw [h1, he]; simp, by rw [h2]; exact below_d (Below.refl _ _) q⟩
theorem rises_ri : ∀ {l : List Item}, Ri ahead l → risesB l = true
  | [], _ => rfl
  | [_], _ => rfl
  | y :: z :: t, h => by
    have h' := List.pairwise_cons.1 h
    unfold risesB
    rw [h'.1 z (by simp), rises_ri h'.2]; rfl
theorem brises (h : BRow w A n c a) (he : Ri ahead a) : Calls Try.prog 22 #[.slice A n c] w (Gives w (.bool true)) :=
  (RefRises_any A n c a h.len w h.sees (by have := h.few; omega)).mono fun _ _ h => by
    obtain ⟨h1, q, h2⟩ := h
    exact ⟨by rw [h1, rises_ri he], by rw [h2]; exact below_d (Below.refl _ _) q⟩
end
/-- append of one row onto a pile, at an operation of a plain statement. -/
theorem wpList_append_p {w : World} {ops : Array Oper} {rest : List Oper} {o : Oper} {a : Act} {Q : Exit → Act → World → Prop} (hgd : o.guard = none) (s x : Operand)
    (ho : o.op = .call { callee := .builtin .append, args := #[s, x], argTypes := #[22, 22] })
    (base : Nat) (v : Value) (n : Nat) (vs : List Value) (hs : a.eval s = v) (hown : w.ownsRow base 26 1 v n vs) (B : Nat) (A : Option Addr) (u : Value) (hx : a.eval x = .slice A 1 1) (hsee : Sees w B A [u]) (hu : u.oneCell' = true)
    (hlen : n ≤ 100000) (hbase : base ≤ w.heap.size)
    (h : ∀ v' w', w'.ownsRow base 26 1 v' (n + 1) (vs ++ [u]) → Onto w w' v v' → wpList Try.prog ops Q rest (a.put o.dst v') w') : wpList Try.prog ops Q (o :: rest) a w := by
  obtain ⟨ti, hi, hy0, hy1, hy2⟩ := info_parts KB.rowinfo
  exact wpList_append_v hgd s x 22 ho 26 ti _ 1 24 Try.underlying22 hi hy0 hy1 hy2 rfl (by omega) base v n vs hs hown B A 1 1 [u] hx rfl hsee (fun y hy => by simp at hy; subst hy; exact hu) (by simp only [maxLen]; omega) (by omega) hbase h
theorem sees_cell (w : World) (bb : Nat) (hbb : w.heap.size = bb) (u : Value) (t : TypeId) : Sees (w.alloc (.cells #[u] t)) (bb + 1) (some ⟨bb, 0, none⟩) [u] := by
  subst hbb
  exact ⟨.inr ⟨_, rfl, by simp, fun j x hx => by match j, hx with | 0, hx => (simp at hx; subst hx; rw [Addr.add_lit, World.cell?_alloc_at _ _ _ _ rfl]; rfl)⟩⟩
end Go.Proofs.Ytcfbblgoligagaa
