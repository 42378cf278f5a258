/-
  The document's number of a row of items, walked.
-/
import Derived.Test.YtmdphaagbmipcaaDoorRfPack
namespace Go.Proofs.YtmdphaagbmipcaaDoor
open Go.RowKit

/-- What number tells. -/
def RNumIs (w : World) (B : Nat) (b : List UInt8) (e : Ending) (w' : World) : Prop :=
  ∃ (u : Nat) (A : Option Addr) (n c : Nat) (er : Nat), e = .returned (.tuple #[.int .i64 (u : Nat), .slice A n c, .int .i64 (er : Nat)]) ∧ (∃ q, w' = w.drewN q) ∧ er = (numR b).2.2 ∧
    (er = 0 → u = (numR b).1 ∧ u ≤ 400 ∧ (numR b).2.1.length = n ∧ n ≤ c ∧ Sees w B A (bv (numR b).2.1) ∧ n ≤ b.length)
theorem RNumIs.err {w w' : World} {B : Nat} {b : List UInt8} {er : Nat} (h : (numR b).2.2 = er) (h0 : er ≠ 0) {q : Nat} (hw : w' = w.drewN q) : RNumIs w B b (.returned (.tuple #[.int .i64 0, .slice none 0 0, .int .i64 (er : Nat)])) w' :=
  ⟨0, none, 0, 0, er, rfl, ⟨q, hw⟩, h.symm, fun h1 => absurd h1 h0⟩

set_option maxRecDepth 100000 in
set_option maxHeartbeats 1600000 in
theorem RefNumber9_any (A : Option Addr) (n c : Nat) (b : List UInt8) (hn : b.length = n) (hnc : n ≤ c) (w : World) (B : Nat) (hB : B ≤ w.heap.size) (hS : Sees w B A (bv b)) (hlen : n ≤ 1099511627776) :
    Calls Tryd.prog 61 #[.slice A n c] w (RNumIs w B b) := by
  have hT := Lib.hid (RefTake_any A n c b hn w (hS.more hB) (by omega))
  have hk := vtake_le b
  have hnr : numR b = if (vtake b).2.2 ≠ 0 then (0, b, (vtake b).2.2) else if 400 < (vtake b).1 then (0, b, 11) else ((vtake b).1, b.drop (vtake b).2.1, 0) := rfl
  obtain ⟨x, k, e, hv⟩ : ∃ x k e, vtake b = (x, k, e) := ⟨_, _, _, rfl⟩
  unfold TakeIs at hT
  rw [hv] at hT hk hnr
  simp only at hT hk hnr
  rw [hn] at hk
  have HF := Lib.hid hnr
  have HN := Lib.hid hn
  clear hn hnr hv
  go_enter Tryd.func61, Tryd.ntmps61
  go_wp2_with fail
  refine hT.out.mono ?_
  rintro en w2 ⟨rfl, rfl⟩
  by_cases he : e = 0
  rotate_left
  · have hei : ((e : Int) != 0) = true := by rw [bne_iff_ne]; omega
    have HE : Hid ((numR b).2.2 = e) := by have := HF.out; rw [if_pos he] at this; unfold Hid; rw [this]
    have HE0 := Lib.hid he
    clear he hT
    go_wp2_with fail
    go_ret3
    exact RNumIs.err (q := 0) HE.out HE0.out rfl
  subst he
  by_cases hx : (400 : Int) < (x : Int)
  · have HE : Hid ((numR b).2.2 = 11) := by have := HF.out; rw [if_neg (by simp), if_pos (by omega)] at this; unfold Hid; rw [this]
    clear hT
    go_wp2_with fail
    go_ret3
    exact RNumIs.err (q := 0) HE.out (by simp) rfl
  have HE : Hid (numR b = (x, b.drop k, 0)) := by have := HF.out; rw [if_neg (by simp), if_neg (by omega)] at this; exact this
  have hwx : IntKind.i64.wrap (x : Int) = (x : Int) := by rw [IntKind.wrap_i64]; omega
  obtain ⟨A2, hA2⟩ : ∃ A2, (if c = k then A else A.map (fun a => a.add k)) = A2 := ⟨_, rfl⟩
  have hS2 : Sees w B A2 (bv (b.drop k)) := by
    have h1 := hS.cut (k := k) (cap := c) (by rw [bv_length, HN.out]; exact hnc)
    simp only [Nat.mul_one, ← bv_drop] at h1
    rw [hA2] at h1
    exact h1
  have HS2 := Lib.hid hS2
  have hkn : (k : Int) ≤ (n : Int) := by omega
  have hkc : k ≤ c := by omega
  clear HF hT hS2
  go_wp2_with fail
  go_quiet (fail)
  go_wp2_with fail
  go_ret3
  refine ⟨x, A2, n - k, c - k, 0, rfl, ⟨_, rfl⟩, by rw [HE.out], fun _ => ?_⟩
  rw [HE.out]
  exact ⟨rfl, by omega, by show (b.drop k).length = _; rw [List.length_drop, HN.out], by omega, HS2.out, by rw [HN.out]; omega⟩
end Go.Proofs.YtmdphaagbmipcaaDoor
