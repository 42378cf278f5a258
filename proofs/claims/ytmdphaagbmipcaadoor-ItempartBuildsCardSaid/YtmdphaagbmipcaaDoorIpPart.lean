/-
  A part in memory; its plain methods.
-/
import Derived.Test.YtmdphaagbmipcaaDoorMem
import Derived.Test.YtmdphaagbmipcaaDoorIpPlain
namespace Go.Proofs.YtmdphaagbmipcaaDoor
open Go.RowKit

/-- A part that has the items ls lies from block P on, in blocks of m. -/
structure PartAt (m : Nat → Prop) (w : World) (P : Nat) (ls : List Item) : Prop where
  out : ∃ (X : Nat) (AB AF : Option Addr) (cB cF : Nat), m P ∧ m X ∧ w.cell? ⟨P, 0, none⟩ = some (.pointer (some ⟨X, 0, none⟩)) ∧ w.cell? ⟨P, 1, none⟩ = some (.slice AB (blk ls).length cB) ∧ w.cell? ⟨P, 2, none⟩ = some (.int .i64 ls.length) ∧
    w.cell? ⟨X, 0, none⟩ = some (.slice AF (blk ls).length cF) ∧ (blk ls).length ≤ cB ∧ (blk ls).length ≤ cF ∧ Sees3M m w AB (blk ls) ∧ Sees2M m w AF ((blk ls).map (·.headD []))
  many : 0 < ls.length
  few : ls.length ≤ 2000
  well : okB ls = true
theorem PartAt.keep {m : Nat → Prop} {w w' : World} {P : Nat} {ls : List Item} (h : PartAt m w P ls) (hk : Kept m w w') : PartAt m w' P ls := by
  obtain ⟨X, AB, AF, cB, cF, h1, h2, h3, h4, h5, h6, h7, h8, h9, h10⟩ := h.out
  exact ⟨⟨X, AB, AF, cB, cF, h1, h2, (hk.cell h1).trans h3, (hk.cell h1).trans h4, (hk.cell h1).trans h5, (hk.cell h2).trans h6, h7, h8, h9.keep hk, h10.keep hk⟩, h.many, h.few, h.well⟩
theorem PartAt.mono {m m' : Nat → Prop} {w : World} {P : Nat} {ls : List Item} (h : PartAt m w P ls) (hm : ∀ k, m k → m' k) : PartAt m' w P ls := by
  obtain ⟨X, AB, AF, cB, cF, h1, h2, h3, h4, h5, h6, h7, h8, h9, h10⟩ := h.out
  exact ⟨⟨X, AB, AF, cB, cF, hm _ h1, hm _ h2, h3, h4, h5, h6, h7, h8, h9.mono hm, h10.mono hm⟩, h.many, h.few, h.well⟩

section
variable {m : Nat → Prop} {w : World} {P : Nat} {ls : List Item}

set_option maxHeartbeats 400000 in
theorem Len_any (h : PartAt m w P ls) : Calls Tryd.prog 18 #[.pointer (some ⟨P, 0, none⟩)] w fun e w' => e = .returned (.int .i64 ls.length) ∧ w = w' := by
  obtain ⟨X, AB, AF, cB, cF, h1, h2, h3, h4, h5, h6, h7, h8, h9, h10⟩ := h.out
  clear h h9 h10
  go_enter Tryd.func18, Tryd.ntmps18
  go_wp2
  go_ret
  exact ⟨rfl, rfl⟩
theorem Len_nil (w : World) : Calls Tryd.prog 18 #[.pointer none] w fun e w' => e = .returned (.int .i64 0) ∧ w = w' := by
  go_enter Tryd.func18, Tryd.ntmps18
  go_wp2
  go_ret
  exact ⟨rfl, rfl⟩

set_option maxHeartbeats 400000 in
theorem IndexBlocks_any (h : PartAt m w P ls) (X : Nat) (AF : Option Addr) (n c : Nat) (hc : w.cell? ⟨X, 0, none⟩ = some (.slice AF n c)) : Calls Tryd.prog 44 #[.pointer (some ⟨X, 0, none⟩)] w fun e w' => e = .returned (.int .i64 n) ∧ w = w' := by
  clear h
  go_enter Tryd.func44, Tryd.ntmps44
  go_wp2
  go_ret
  exact ⟨rfl, rfl⟩

set_option maxHeartbeats 400000 in
theorem Blocks_any (h : PartAt m w P ls) : Calls Tryd.prog 19 #[.pointer (some ⟨P, 0, none⟩)] w fun e w' => e = .returned (.int .i64 ((ls.length + 7) / 8 : Nat)) ∧ w = w' := by
  obtain ⟨X, AB, AF, cB, cF, h1, h2, h3, h4, h5, h6, h7, h8, h9, h10⟩ := h.out
  have hI := Lib.hid (IndexBlocks_any h X AF _ cF h6)
  have hl := blk_length ls
  rw [hl] at hI
  obtain ⟨N, hN⟩ : ∃ N, (ls.length + 7) / 8 = N := ⟨_, rfl⟩
  rw [hN] at hI ⊢
  clear h h9 h10 hl hN h6 h4 h7 h8
  go_enter Tryd.func19, Tryd.ntmps19
  go_wp2_with fail
  refine hI.out.mono ?_
  rintro e w1 ⟨rfl, rfl⟩
  go_wp2
  go_ret
  exact ⟨rfl, rfl⟩
theorem Blocks_nil (w : World) : Calls Tryd.prog 19 #[.pointer none] w fun e w' => e = .returned (.int .i64 0) ∧ w = w' := by
  go_enter Tryd.func19, Tryd.ntmps19
  go_wp2
  go_ret
  exact ⟨rfl, rfl⟩
end
end Go.Proofs.YtmdphaagbmipcaaDoor
