/-
  A row in a block of six cells.
-/
import Derived.Test.YtpjiioeodcinpaaGreatDoorRwRefMake
namespace Go.Proofs.YtpjiioeodcinpaaGreatDoor
open Go.RowKit

/-- A block of six cells that nothing holds still. -/
structure SixAt (w : World) (H : Nat) (v0 v1 v2 v3 v4 v5 : Value) : Prop where
  c0 : w.cell? ⟨H, 0, none⟩ = some v0
  c1 : w.cell? ⟨H, 1, none⟩ = some v1
  c2 : w.cell? ⟨H, 2, none⟩ = some v2
  c3 : w.cell? ⟨H, 3, none⟩ = some v3
  c4 : w.cell? ⟨H, 4, none⟩ = some v4
  c5 : w.cell? ⟨H, 5, none⟩ = some v5
  f0 : w.frozen? ⟨H, 0, none⟩ = false
  f1 : w.frozen? ⟨H, 1, none⟩ = false
  f2 : w.frozen? ⟨H, 2, none⟩ = false
  f3 : w.frozen? ⟨H, 3, none⟩ = false
  f4 : w.frozen? ⟨H, 4, none⟩ = false
  f5 : w.frozen? ⟨H, 5, none⟩ = false
section
variable {w w' : World} {H : Nat} {v0 v1 v2 v3 v4 v5 : Value}
theorem SixAt.new (w : World) (v0 v1 v2 v3 v4 v5 : Value) (t : TypeId) : SixAt (w.alloc (.cells #[v0, v1, v2, v3, v4, v5] t)) w.heap.size v0 v1 v2 v3 v4 v5 := by
  have hh : (w.alloc (.cells #[v0, v1, v2, v3, v4, v5] t)).heap[w.heap.size]? = some (.cells #[v0, v1, v2, v3, v4, v5] t (0, 0)) := by show (w.heap.push _)[w.heap.size]? = _; simp
  refine ⟨?_, ?_, ?_, ?_, ?_, ?_, ?_, ?_, ?_, ?_, ?_, ?_⟩
  · rw [World.cell?_alloc_at _ _ _ _ rfl]; rfl
  · rw [World.cell?_alloc_at _ _ _ _ rfl]; rfl
  · rw [World.cell?_alloc_at _ _ _ _ rfl]; rfl
  · rw [World.cell?_alloc_at _ _ _ _ rfl]; rfl
  · rw [World.cell?_alloc_at _ _ _ _ rfl]; rfl
  · rw [World.cell?_alloc_at _ _ _ _ rfl]; rfl
  all_goals (unfold World.frozen?; rw [hh]; simp)
theorem SixAt.below (h : SixAt w H v0 v1 v2 v3 v4 v5) {B : Nat} (hb : Below B w w') (hH : H < B) : SixAt w' H v0 v1 v2 v3 v4 v5 :=
  ⟨(hb.cell (p := ⟨H, 0, none⟩) hH).trans h.c0, (hb.cell (p := ⟨H, 1, none⟩) hH).trans h.c1, (hb.cell (p := ⟨H, 2, none⟩) hH).trans h.c2, (hb.cell (p := ⟨H, 3, none⟩) hH).trans h.c3, (hb.cell (p := ⟨H, 4, none⟩) hH).trans h.c4, (hb.cell (p := ⟨H, 5, none⟩) hH).trans h.c5,
    (hb.frozen (p := ⟨H, 0, none⟩) hH).trans h.f0, (hb.frozen (p := ⟨H, 1, none⟩) hH).trans h.f1, (hb.frozen (p := ⟨H, 2, none⟩) hH).trans h.f2, (hb.frozen (p := ⟨H, 3, none⟩) hH).trans h.f3, (hb.frozen (p := ⟨H, 4, none⟩) hH).trans h.f4, (hb.frozen (p := ⟨H, 5, none⟩) hH).trans h.f5⟩
theorem SixAt.set0 (h : SixAt w H v0 v1 v2 v3 v4 v5) (v : Value) : SixAt (w.setCell ⟨H, 0, none⟩ v) H v v1 v2 v3 v4 v5 := by
  obtain ⟨c0, c1, c2, c3, c4, c5, f0, f1, f2, f3, f4, f5⟩ := h
  constructor <;> simp [go_sem, c0, c1, c2, c3, c4, c5, f0, f1, f2, f3, f4, f5]
theorem SixAt.set1 (h : SixAt w H v0 v1 v2 v3 v4 v5) (v : Value) : SixAt (w.setCell ⟨H, 1, none⟩ v) H v0 v v2 v3 v4 v5 := by
  obtain ⟨c0, c1, c2, c3, c4, c5, f0, f1, f2, f3, f4, f5⟩ := h
  constructor <;> simp [go_sem, c0, c1, c2, c3, c4, c5, f0, f1, f2, f3, f4, f5]
theorem SixAt.set2 (h : SixAt w H v0 v1 v2 v3 v4 v5) (v : Value) : SixAt (w.setCell ⟨H, 2, none⟩ v) H v0 v1 v v3 v4 v5 := by
  obtain ⟨c0, c1, c2, c3, c4, c5, f0, f1, f2, f3, f4, f5⟩ := h
  constructor <;> simp [go_sem, c0, c1, c2, c3, c4, c5, f0, f1, f2, f3, f4, f5]
theorem SixAt.set3 (h : SixAt w H v0 v1 v2 v3 v4 v5) (v : Value) : SixAt (w.setCell ⟨H, 3, none⟩ v) H v0 v1 v2 v v4 v5 := by
  obtain ⟨c0, c1, c2, c3, c4, c5, f0, f1, f2, f3, f4, f5⟩ := h
  constructor <;> simp [go_sem, c0, c1, c2, c3, c4, c5, f0, f1, f2, f3, f4, f5]
theorem SixAt.set4 (h : SixAt w H v0 v1 v2 v3 v4 v5) (v : Value) : SixAt (w.setCell ⟨H, 4, none⟩ v) H v0 v1 v2 v3 v v5 := by
  obtain ⟨c0, c1, c2, c3, c4, c5, f0, f1, f2, f3, f4, f5⟩ := h
  constructor <;> simp [go_sem, c0, c1, c2, c3, c4, c5, f0, f1, f2, f3, f4, f5]
theorem SixAt.set5 (h : SixAt w H v0 v1 v2 v3 v4 v5) (v : Value) : SixAt (w.setCell ⟨H, 5, none⟩ v) H v0 v1 v2 v3 v4 v := by
  obtain ⟨c0, c1, c2, c3, c4, c5, f0, f1, f2, f3, f4, f5⟩ := h
  constructor <;> simp [go_sem, c0, c1, c2, c3, c4, c5, f0, f1, f2, f3, f4, f5]
end
theorem SixAt.store {W : World} {H B : Nat} {v0 v1 v2 v3 v4 v5 : Value} (h : SixAt W H v0 v1 v2 v3 v4 v5) (hB : B ≤ H) (u0 u1 u2 u3 u4 u5 : Value) :
    ∃ WF, ((((((W.setCell ⟨H, 0, none⟩ u0).setCell ⟨H, 1, none⟩ u1).setCell ⟨H, 2, none⟩ u2).setCell ⟨H, 3, none⟩ u3).setCell ⟨H, 4, none⟩ u4).setCell ⟨H, 5, none⟩ u5) = WF ∧ SixAt WF H u0 u1 u2 u3 u4 u5 ∧ Below B W WF ∧ (∀ j, j ≠ H → WF.heap[j]? = W.heap[j]?) ∧ WF.heap.size = W.heap.size := by
  refine ⟨_, rfl, (((((h.set0 u0).set1 u1).set2 u2).set3 u3).set4 u4).set5 u5, ((((((Below.refl B W).setCell hB _).setCell hB _).setCell hB _).setCell hB _).setCell hB _).setCell hB _, fun j hj => ?_, by simp⟩
  rw [Below.heap_setCell _ _ _ _ hj, Below.heap_setCell _ _ _ _ hj, Below.heap_setCell _ _ _ _ hj, Below.heap_setCell _ _ _ _ hj, Below.heap_setCell _ _ _ _ hj, Below.heap_setCell _ _ _ _ hj]
/-- A block of one cell that nothing holds still. -/
structure OneAt (w : World) (H : Nat) (v : Value) : Prop where
  c : w.cell? ⟨H, 0, none⟩ = some v
  f : w.frozen? ⟨H, 0, none⟩ = false
section
variable {w w' : World} {H : Nat} {v : Value}
theorem OneAt.new (w : World) (v : Value) (t : TypeId) : OneAt (w.alloc (.cells #[v] t)) w.heap.size v := by
  have hh : (w.alloc (.cells #[v] t)).heap[w.heap.size]? = some (.cells #[v] t (0, 0)) := by show (w.heap.push _)[w.heap.size]? = _; simp
  refine ⟨by rw [World.cell?_alloc_at _ _ _ _ rfl]; rfl, ?_⟩
  unfold World.frozen?; rw [hh]; simp
theorem OneAt.below (h : OneAt w H v) {B : Nat} (hb : Below B w w') (hH : H < B) : OneAt w' H v := ⟨(hb.cell (p := ⟨H, 0, none⟩) hH).trans h.c, (hb.frozen (p := ⟨H, 0, none⟩) hH).trans h.f⟩
theorem OneAt.set (h : OneAt w H v) (u : Value) : OneAt (w.setCell ⟨H, 0, none⟩ u) H u := by
  obtain ⟨c, f⟩ := h
  constructor <;> simp [go_sem, c, f]
theorem OneAt.set_ne (h : OneAt w H v) {p : Addr} (hp : p.block ≠ H) (u : Value) : OneAt (w.setCell p u) H v := by
  obtain ⟨c, f⟩ := h
  obtain ⟨pb, po, pc⟩ := p
  simp only at hp
  constructor
  · rw [← c]; simp [go_sem]
  · rw [← f]; simp [go_sem]
end
end Go.Proofs.YtpjiioeodcinpaaGreatDoor
