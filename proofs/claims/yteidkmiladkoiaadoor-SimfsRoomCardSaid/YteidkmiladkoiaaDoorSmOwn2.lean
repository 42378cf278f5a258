/-
  More calls over one's own files.
-/
import Derived.Test.YteidkmiladkoiaaDoorSmAwake
namespace Go.Proofs.YteidkmiladkoiaaDoor
open Go.RowKit

section
variable {w0 w w' : World} {f g : Nat} {S T : FsM} {m : Nat → Prop}
theorem rename_own {N : Nat} (h0 : OwnE w0 w f S m) (hO : FsOk N S) (hN : N ≤ 9000) (p q : Txt) (hq : q.length ≤ 1000000) :
    Calls Tryd.prog 14 #[.pointer (some ⟨f, 0, none⟩), .string (strOf p), .string (strOf q)] w fun e w' => e = .returned (.int .i64 ((S.go (·.rename p q)).2 : Int)) ∧ Steps w0 w f (S.go (·.rename p q)).1 m w' := by
  obtain ⟨c, F, h, hm⟩ := h0.out
  refine (rename_any h.at_ hO hN p q hq).mono ?_
  rintro e w' ⟨rfl, h1⟩
  exact ⟨rfl, h.step hm h0.lt h1⟩
theorem remove_own {N : Nat} (h0 : OwnE w0 w f S m) (hO : FsOk N S) (hN : N ≤ 9000) (p : Txt) :
    Calls Tryd.prog 10 #[.pointer (some ⟨f, 0, none⟩), .string (strOf p)] w fun e w' => e = .returned (.int .i64 ((S.go (·.remove p)).2 : Int)) ∧ Steps w0 w f (S.go (·.remove p)).1 m w' := by
  obtain ⟨c, F, h, hm⟩ := h0.out
  refine (remove_any h.at_ hO hN p).mono ?_
  rintro e w' ⟨rfl, h1⟩
  exact ⟨rfl, h.step hm h0.lt h1⟩
theorem syncDir_own {N : Nat} (h0 : OwnE w0 w f S m) (hO : FsOk N S) :
    Calls Tryd.prog 13 #[.pointer (some ⟨f, 0, none⟩)] w fun e w' => e = .returned (.int .i64 ((S.go fun S => (S.settle, 0)).2 : Int)) ∧ Steps w0 w f (S.go fun S => (S.settle, 0)).1 m w' := by
  obtain ⟨c, F, h, hm⟩ := h0.out
  refine (syncDir_any h.at_ hO).mono ?_
  rintro e w' ⟨rfl, h1⟩
  exact ⟨rfl, h.step hm h0.lt h1⟩
end
/-- Bytes that are all 0. -/
theorem bv_zeros (n : Nat) : bv (List.replicate n 0) = List.replicate n (.int .u8 0) := by simp [bv]
end Go.Proofs.YteidkmiladkoiaaDoor
