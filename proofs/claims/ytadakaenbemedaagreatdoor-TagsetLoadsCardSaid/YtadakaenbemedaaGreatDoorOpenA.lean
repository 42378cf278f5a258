/-
  A script of acts among a law's parameters, opened.
-/
import Derived.Test.YtadakaenbemedaaGreatDoorOpen
import Derived.Test.YtadakaenbemedaaGreatDoorOpenB
import Derived.Test.YtadakaenbemedaaGreatDoorTgPlay
import Derived.Deep.Slices
import Derived.Deep.Fields
import Derived.Lib.SmallJoins
import Derived.ChangeMaps5
namespace Go.Proofs.YtadakaenbemedaaGreatDoor
open Go.RowKit Go.WideShapes Go.ChangeShapes Go.ChangeAt Go.Deep Go.Joins

section
variable {H : Type} {enc : TypeId × Value → H} {P : Program} {w : World} {base : Nat} {spare : Nat → Bool} {held : Bool}
theorem open_slice_fields {t e : TypeId} {fs : Array Field} {fuel : Nat} {cs : List Value} {x : DataW H × List MemPlace} (ht : P.underlying t = some (.slice e)) (he : P.underlying e = some (.struct fs))
    (hone : oneCellFields P fs = true) (hC : P.cellsOf e = fs.size) (h : DataW.trod enc P w base spare held fuel t cs = some x) :
    (cs = [.slice none 0 0] ∧ x = (.nil, [])) ∨
    ∃ (a : Addr) (len cap m : Nat) (D : Nat → DataW H) (Pl : Nat → List MemPlace), cs = [.slice (some a) len cap] ∧ base ≤ a.block ∧ len ≤ cap ∧ cap ≤ maxLen ∧ m = (if spare a.block then cap else len) ∧
      x = (.slice ((List.range len).map D) ((List.range (m - len)).map fun j => D (len + j)), MemPlace.row a (m * fs.size) ++ (List.range m).flatMap Pl) ∧
      ∀ i, i < m → ∃ (ys : List (DataW H × List MemPlace)) (n : Nat), D i = .agg (ys.map (·.1)) ∧ Pl i = ys.flatMap (·.2) ∧ ys.length = fs.size ∧
        ∀ (j : Nat) (f : Field), fs[j]? = some f → ∃ (v : Value) (y : DataW H × List MemPlace), w.cell? (a.add (i * fs.size + j)) = some v ∧ ys[j]? = some y ∧ DataW.trod enc P w base spare held n f.type [v] = some y := by
  rcases open_slice ht h with h0 | ⟨a, len, cap, m, n, D, Pl, hcs, hb, hl, hm, hmm, hx, hi⟩
  · exact .inl h0
  · refine .inr ⟨a, len, cap, m, D, Pl, hcs, hb, hl, hm, hmm, by rw [hC] at hx; exact hx, fun i him => ?_⟩
    obtain ⟨cs', hc, ht'⟩ := hi i him
    rw [hC] at hc
    obtain ⟨ys, n', hn', hy, hlen, hyl, hf⟩ := DataW.trod_struct he ht'
    obtain ⟨_, hcl, hat⟩ := World.cells?_some hc
    simp only [Prod.mk.injEq] at hy
    refine ⟨ys, n', hy.1, hy.2, hyl, fun j f hj => ?_⟩
    obtain ⟨ho, hk⟩ := hone_of hone j f hj
    have hjl : j < fs.size := (Array.getElem?_eq_some_iff.1 hj).1
    have hcell := hat j hjl
    have hv : cs'[j]? = some (cs'[j]'(by omega)) := List.getElem?_eq_getElem (by omega)
    have h1 := hf j f hj
    rw [ho, hk] at h1
    have hone' : (cs'.drop j).take 1 = [cs'[j]'(by omega)] := by
      rw [List.drop_eq_getElem_cons (by omega)]
      rfl
    rw [hone'] at h1
    have hys : ys[j]? = some (ys[j]'(by omega)) := List.getElem?_eq_getElem (by omega)
    refine ⟨_, _, ?_, hys, h1.trans hys⟩
    rw [← Go.Deep.add_add, hcell, hv]
end

theorem list_of {α : Type} (n : Nat) (p : Nat → α → Prop) (h : ∀ i, i < n → ∃ x, p i x) : ∃ l : List α, l.length = n ∧ ∀ i (hi : i < l.length), p i l[i] := by
  induction n with
  | zero => exact ⟨[], rfl, fun i hi => absurd hi (by simp)⟩
  | succ n ih =>
    obtain ⟨l, hl, hp⟩ := ih fun i hi => h i (by omega)
    obtain ⟨x, hx⟩ := h n (by omega)
    refine ⟨l ++ [x], by simp [hl], fun i hi => ?_⟩
    by_cases hin : i < l.length
    · rw [List.getElem_append_left hin]
      exact hp i hin
    · have hie : i = l.length := by simp at hi; omega
      subst hie
      rw [List.getElem_append_right (Nat.le_refl _)]
      simpa [hl] using hx

theorem add_fieldA (a : Addr) (m j : Nat) (hj : 0 < j) : a.add (m + j) = ⟨(a.add m).block, (a.add m).off + j, none⟩ := by
  unfold Addr.add
  by_cases hm : m = 0
  · subst hm
    rw [if_neg (by omega), if_pos rfl]
    simp
  · rw [if_neg (by omega), if_neg hm]
    simp [Nat.add_assoc]
theorem Tryz.cellsAct : Tryz.prog.cellsOf 42 = 4 := by kernel_rfl
theorem sees_to {w : World} {m : Nat → Prop} {B : Nat} {A : Option Addr} {xs : List Value} (h : Sees w B A xs) (hm : ∀ k, k < B → m k) : SeesM m w A xs := by
  rcases h.out with h | ⟨ad, e, hb, hc⟩
  · exact ⟨.inl h⟩
  · exact ⟨.inr ⟨ad, e, hm _ hb, hc⟩⟩
set_option maxRecDepth 100000 in
theorem open_acts {H : Type} {enc : TypeId × Value → H} {W : World} {base : Nat} {v : Value} {d : DataW H} {p : List MemPlace} (hval : Value.okWide Tryz.prog W .any base 34 v)
    (h : DataW.Trod enc Tryz.prog W 0 (fun _ => true) true 34 v d p) : ∃ A n c ls, v = .slice A n c ∧ ls.length = n ∧ n ≤ c ∧ ActsAt (fun k => k < W.heap.size) W A ls := by
  obtain ⟨a, n, c, rfl⟩ := okWide_slice Tryz.underlying34 hval
  obtain ⟨fuel, hf⟩ := h
  rcases open_slice_fields Tryz.underlying34 Tryz.underlying42 (by kernel_rfl) Tryz.cellsAct hf with ⟨hcs, hx⟩ | ⟨a', len, cap, m, D, Pl, hcs, hb, hl, hcm, hmm, hx, hi⟩
  · simp [Value.cells] at hcs
    obtain ⟨rfl, rfl, rfl⟩ := hcs
    exact ⟨none, 0, 0, [], rfl, rfl, Nat.le_refl _, ⟨fun i hi => absurd hi (by simp)⟩⟩
  · simp [Value.cells] at hcs
    obtain ⟨rfl, rfl, rfl⟩ := hcs
    have hmc : m = c := by simpa using hmm
    have each : ∀ i, i < n → ∃ x : Act, ∃ Ai ci, W.cell? (a'.add (i * 4)) = some (.int .i64 x.kind) ∧ W.cell? (a'.add (i * 4 + 1)) = some (.slice Ai x.item.length ci) ∧ W.cell? (a'.add (i * 4 + 2)) = some (.int .i64 x.a) ∧ W.cell? (a'.add (i * 4 + 3)) = some (.int .i64 x.b) ∧ x.item.length ≤ ci ∧ Sees W W.heap.size Ai (bv x.item) := by
      intro i hin
      obtain ⟨ys, k, _, _, _, hfl⟩ := hi i (by omega)
      obtain ⟨v0, y0, h0, _, t0⟩ := hfl 0 _ rfl
      obtain ⟨v1, y1, h1, _, t1⟩ := hfl 1 _ rfl
      obtain ⟨v2, y2, h2, _, t2⟩ := hfl 2 _ rfl
      obtain ⟨v3, y3, h3, _, t3⟩ := hfl 3 _ rfl
      obtain ⟨i0, e0, _⟩ := DataW.trod_int Tryz.underlying3 t0
      obtain ⟨Ai, ni, ci, li, rfl, hli, hci, -, hSi⟩ := bytes_of_trod (fun _ => rfl) t1
      obtain ⟨i2, e2, _⟩ := DataW.trod_int Tryz.underlying3 t2
      obtain ⟨i3, e3, _⟩ := DataW.trod_int Tryz.underlying3 t3
      simp at e0 e2 e3
      subst e0 e2 e3
      subst hli
      exact ⟨⟨i0, li, i2, i3⟩, Ai, ci, h0, h1, h2, h3, hci, hSi⟩
    obtain ⟨ls, hls, hp⟩ := list_of n _ each
    refine ⟨some a', n, c, ls, rfl, hls, hl, ⟨fun i hi => ?_⟩⟩
    obtain ⟨Ai, ci, g0, g1, g2, g3, g4, g5⟩ := hp i hi
    have hbk : (a'.add (i * 4)).block = a'.block := add_block _ _
    refine ⟨a', Ai, ci, rfl, ?_, g0, ?_, ?_, ?_, g4, sees_to g5 fun k e => e⟩
    · have := World.block_lt_of_cell? W _ g0
      rwa [hbk] at this
    · rw [← add_fieldA a' _ 1 (by omega)]; exact g1
    · rw [← add_fieldA a' _ 2 (by omega)]; exact g2
    · rw [← add_fieldA a' _ 3 (by omega)]; exact g3
end Go.Proofs.YtadakaenbemedaaGreatDoor
