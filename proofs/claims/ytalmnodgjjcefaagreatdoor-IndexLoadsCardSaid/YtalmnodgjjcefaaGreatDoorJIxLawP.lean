/-
  What laws of an index share.
-/
import Derived.Test.YtalmnodgjjcefaaGreatDoorJIxTwo
import Derived.Test.YtalmnodgjjcefaaGreatDoorJIxE
namespace Go.Proofs.YtalmnodgjjcefaaGreatDoor
open Go.RowKit Go.Maps

theorem and7 (x : Int) : bits .and .i64 x 7 = x % 8 := by
  have e1 : (BitVec.ofInt 64 x).toNat % 8 = (x % 8).toNat := by
    rw [BitVec.toNat_ofInt]
    omega
  have hn : (BitVec.ofInt 64 x &&& BitVec.ofInt 64 7).toNat = (x % 8).toNat := by
    rw [BitVec.toNat_and, show (BitVec.ofInt 64 7).toNat = 7 from by decide, show (7 : Nat) = 2 ^ 3 - 1 from by omega, Nat.and_two_pow_sub_one_eq_mod]
    exact e1
  show IntKind.i64.wrap ((BitVec.ofInt 64 x &&& BitVec.ofInt 64 7).toNat : Int) = _
  rw [hn, IntKind.wrap_i64]
  omega
/-- What is found, whether or not the filters may be. -/
theorem FindIs.same {w w' : World} {l : List Int} {er : Nat} {e : Ending} (h : FindIs w l er e w') : ∃ A n c, e = .returned (.tuple #[.slice A n c, .int .i64 (er : Nat)]) ∧ Below w.heap.size w w' ∧ (if er = 0 then l else []).length = n ∧ Sees w' w'.heap.size A (KI.iv (if er = 0 then l else [])) := by
  obtain ⟨A, n, c, he, hb, hr⟩ := h
  refine ⟨A, n, c, he, hb, ?_⟩
  rcases hr with ⟨h0, hn, hc, hS⟩ | ⟨h0, hA, hn, hc⟩
  · rw [if_pos h0]
    exact ⟨hn.symm, hS.sees fun k hk => hk.2⟩
  · rw [if_neg h0]
    exact ⟨hn.symm, Sees.nil _ _ _⟩
theorem idsXa_len (p : Ser → Bool) : ∀ (X : List Ser) (i : Nat), (idsXa p i X).length ≤ X.length
  | [], i => by simp [idsXa]
  | t :: X, i => by
    have := idsXa_len p X (i + 1)
    unfold idsXa
    split
    · simpa using this
    · simp only [List.length_cons]; omega
theorem idsX_len (p : Ser → Bool) (X : List Ser) : (idsX X p).length ≤ X.length := idsXa_len p X 1
theorem BoolIs.gives {w w' : World} {b : Bool} {e : Ending} (h : BoolIs w b e w') : Gives w (.bool b) e w' := by
  obtain ⟨he, q, hw⟩ := h
  exact ⟨he, by rw [hw]; exact below_d (Below.refl _ w) q⟩
theorem Strings_gives (A B : Option Addr) (n c d : Nat) (l : List Item) (hn : l.length = n) (w : World) (hA : Sees w w.heap.size A (sv l)) (hB : Sees w w.heap.size B (sv l)) (hlen : n ≤ 1099511627776) :
    Calls Tryz.prog 27 #[.slice A n c, .slice B n d] w (Gives w (.bool true)) :=
  (Strings_same A B n c d l hn w hA hB hlen).mono fun e w' ⟨he, q, hw⟩ => ⟨he, by rw [hw]; exact below_d (Below.refl _ w) q⟩
/-- The cells of what is asked. -/
structure AskAt (w : World) (B : Nat) (v0 v1 v2 v3 v4 : Value) : Prop where
  c0 : w.cell? ⟨B, 0, none⟩ = some v0
  c1 : w.cell? ⟨B, 1, none⟩ = some v1
  c2 : w.cell? ⟨B, 2, none⟩ = some v2
  c3 : w.cell? ⟨B, 3, none⟩ = some v3
  c4 : w.cell? ⟨B, 4, none⟩ = some v4
theorem AskAt.new (w : World) (t : TypeId) (v0 v1 v2 v3 v4 : Value) : AskAt (w.alloc (.cells #[v0, v1, v2, v3, v4] t)) w.heap.size v0 v1 v2 v3 v4 := by
  constructor <;> (rw [World.cell?_alloc_at _ _ _ _ rfl]; rfl)
theorem AskAt.block {w w' : World} {B : Nat} {v0 v1 v2 v3 v4 : Value} (h : AskAt w B v0 v1 v2 v3 v4) (hk : w'.heap[B]? = w.heap[B]?) : AskAt w' B v0 v1 v2 v3 v4 := by
  have hK : Kept (fun k => k = B) w w' := fun k e => by subst e; exact hk
  exact ⟨(hK.cell (p := ⟨B, 0, none⟩) rfl).trans h.c0, (hK.cell (p := ⟨B, 1, none⟩) rfl).trans h.c1, (hK.cell (p := ⟨B, 2, none⟩) rfl).trans h.c2, (hK.cell (p := ⟨B, 3, none⟩) rfl).trans h.c3, (hK.cell (p := ⟨B, 4, none⟩) rfl).trans h.c4⟩

end Go.Proofs.YtalmnodgjjcefaaGreatDoor
