/-
  Calls on an index that is none.
-/
import Derived.Test.YtalmnodgjjcefaaGreatDoorJIxTwo
namespace Go.Proofs.YtalmnodgjjcefaaGreatDoor
open Go.RowKit

theorem addI_nil (A : Option Addr) (n c : Nat) (day : Int) (w : World) : Calls Tryz.prog 12 #[.pointer none, .slice A n c, .int .i64 day] w fun e w' => e = .returned (.tuple #[.int .i64 0, .int .i64 1]) ∧ Below w.heap.size w w' := by
  go_enter Tryz.func12, Tryz.ntmps12
  go_wp2
  go_ret2
  exact ⟨rfl, Below.refl _ _⟩
theorem findI_nil (A : Option Addr) (n c : Nat) (w : World) : Calls Tryz.prog 16 #[.pointer none, .slice A n c] w fun e w' => e = .returned (.tuple #[.slice none 0 0, .int .i64 1]) ∧ Below w.heap.size w w' := by
  go_enter Tryz.func16, Tryz.ntmps16
  go_wp2
  go_ret2
  exact ⟨rfl, ((Below.refl _ w).alloc (Nat.le_refl _) _).alloc (by simp) _⟩
theorem dropI_nil (id : Int) (w : World) : Calls Tryz.prog 18 #[.pointer none, .int .i64 id] w (Gives w (.int .i64 1)) := by
  go_enter Tryz.func18, Tryz.ntmps18
  go_wp2
  go_ret
  exact ⟨rfl, Below.refl _ _⟩
theorem freshI_nil (w : World) : Calls Tryz.prog 22 #[.pointer none] w (Gives w (.int .i64 0)) := by
  go_enter Tryz.func22, Tryz.ntmps22
  go_wp2
  go_ret
  exact ⟨rfl, Below.refl _ _⟩
theorem partsI_nil (w : World) : Calls Tryz.prog 23 #[.pointer none] w (Gives w (.int .i64 0)) := by
  go_enter Tryz.func23, Tryz.ntmps23
  go_wp2
  go_ret
  exact ⟨rfl, Below.refl _ _⟩
theorem nextI_nil (w : World) : Calls Tryz.prog 17 #[.pointer none] w (Gives w (.int .i64 1)) :=
  next_of (m := fun _ => False) (s := SetM.new) (L := []) ⟨.inr ⟨rfl, rfl⟩⟩
theorem gone_nil (w : World) (id : Int) : Calls Tryz.prog 19 #[.pointer none, .int .i64 id] w (Gives w (.bool false)) := by
  have hM := Lib.hid (MakeRow_any none 0 0 [] rfl 5 0 id ⟨#[]⟩ ⟨#[]⟩ w ⟨.inl rfl⟩ (by omega) (by simp) (by decide))
  go_enter Tryz.func19, Tryz.ntmps19
  go_wp2_with fail
  refine hM.out.mono ?_
  rintro e w1 ⟨v, k, rfl, hb, hres⟩
  clear hres hM
  go_wp2
  go_ret
  exact ⟨rfl, hb⟩
theorem names_nil (w : World) : Calls Tryz.prog 20 #[.pointer none] w (NewS w []) := names_of (m := fun _ => False) (s := SetM.new) (L := []) ⟨.inr ⟨rfl, rfl⟩⟩
theorem values_nil (w : World) (name : ByteArray) : Calls Tryz.prog 21 #[.pointer none, .string name] w (NewS w []) := values_of (m := fun _ => False) (s := SetM.new) (L := []) ⟨.inr ⟨rfl, rfl⟩⟩ name
end Go.Proofs.YtalmnodgjjcefaaGreatDoor
