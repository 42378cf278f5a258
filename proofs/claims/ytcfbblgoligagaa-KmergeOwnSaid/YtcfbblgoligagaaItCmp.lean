/-
  Which bytes are ahead of which: bytes.Compare.
-/
import Derived.Test.YtcfbblgoligagaaWords
namespace Go.Proofs.Ytcfbblgoligagaa
open Go.RowKit

/-- Are the bytes l ahead of the bytes r? -/
def ahead (l r : List UInt8) : Bool := Op.bytesLess l r
theorem ahead_eq (l r : List UInt8) : ahead l r = decide (l < r) := Go.Proofs.bytesLess_eq l r
theorem cmp_lt : ∀ (l r : List UInt8), Lib.compareBytes l r < 0 ↔ l < r
  | [], [] => by simp [Lib.compareBytes]
  | [], _ :: _ => by simp [Lib.compareBytes]
  | _ :: _, [] => by simp [Lib.compareBytes]
  | a :: s, b :: t => by
    have ih := cmp_lt s t
    unfold Lib.compareBytes
    rw [List.cons_lt_cons_iff]
    by_cases h : a < b
    · simp [h]
    · by_cases h2 : b < a
      · have : ¬ a = b := by rintro rfl; exact h h2
        simp [h, h2, this]
      · have : a = b := UInt8.le_antisymm (UInt8.not_lt.1 h2) (UInt8.not_lt.1 h)
        simp [this, ih]
theorem cmp_neg (l r : List UInt8) : decide (Lib.compareBytes l r < 0) = ahead l r := by rw [ahead_eq, decide_eq_decide]; exact cmp_lt l r
theorem cmp_pos (l r : List UInt8) : decide (0 ≤ Lib.compareBytes l r) = !ahead l r := by
  rw [← cmp_neg, ← decide_not, decide_eq_decide]; omega

theorem cmp_self : ∀ l : List UInt8, Lib.compareBytes l l = 0
  | [] => rfl
  | a :: s => by unfold Lib.compareBytes; simp [UInt8.lt_irrefl, cmp_self s]
theorem cmp_zero : ∀ (l r : List UInt8), Lib.compareBytes l r = 0 → l = r
  | [], [], _ => rfl
  | [], _ :: _, h => by simp [Lib.compareBytes] at h
  | _ :: _, [], h => by simp [Lib.compareBytes] at h
  | a :: s, b :: t, h => by
    unfold Lib.compareBytes at h
    by_cases h1 : a < b
    · simp [h1] at h
    · by_cases h2 : b < a
      · simp [h1, h2] at h
      · have : a = b := UInt8.le_antisymm (UInt8.not_lt.1 h2) (UInt8.not_lt.1 h1)
        subst this
        simp only [h1, if_false] at h
        rw [cmp_zero s t h]
theorem ahead_irrefl (l : List UInt8) : ahead l l = false := by rw [ahead_eq, decide_eq_false_iff_not]; exact List.lt_irrefl l
theorem ahead_trans {a b c : List UInt8} (h : ahead a b = true) (k : ahead b c = true) : ahead a c = true := by
  rw [ahead_eq, decide_eq_true_eq] at *
  exact List.lt_trans h k
theorem ahead_le {a b c : List UInt8} (h : ahead a b = false) (k : ahead a c = true) : ahead b c = true := by
  rw [ahead_eq] at *
  rw [decide_eq_false_iff_not] at h
  rw [decide_eq_true_eq] at *
  exact Std.lt_of_le_of_lt (List.not_lt.1 h) k
theorem ahead_tri {a b : List UInt8} (h : ahead a b = false) (k : ahead b a = false) : a = b := by
  rw [ahead_eq, decide_eq_false_iff_not] at *
  exact List.le_antisymm (List.not_lt.1 k) (List.not_lt.1 h)

theorem run_bytesOf (w : World) (B : Nat) (A : Option Addr) (n c : Nat) (l : List UInt8) (hs : Sees w B A (bv l)) (hn : l.length = n) :
    (Extern.Bytes.bytesOf (.slice A n c)).run Try.prog w = .ok (strOf l) w := by
  subst hn
  cases A with
  | none =>
    rcases hs.out with h | ⟨ad, h, _⟩
    · have : l = [] := by simpa [bv] using h
      subst this
      rfl
    · cases h
  | some a =>
    have hc : ∀ j u, (bv l)[j]? = some u → w.cell? (a.add j) = some u := by
      intro j u hu
      rcases hs.out with h | ⟨ad, h, _, hc⟩
      · rw [h] at hu; simp at hu
      · injection h with h
        subst h
        exact hc j u hu
    have hl := Lib.run_loadBytesX (P := Try.prog) w (l.map fun b => (b.toNat : Int)) a .empty (fun j x hj => hc j _ (by
      rw [List.getElem?_map] at hj
      simp only [bv, List.getElem?_map]
      cases hlj : l[j]? with
      | none => rw [hlj] at hj; cases hj
      | some y => rw [hlj] at hj; simp only [Option.map_some, Option.some.injEq] at hj ⊢; rw [hj]))
    rw [List.length_map] at hl
    show (Extern.Bytes.loadBytes a l.length .empty).run Try.prog w = _
    rw [hl]
    congr 1
    apply ByteArray.ext
    have hm : Lib.bytesOf (l.map fun b => (b.toNat : Int)) = l := by
      simp [Lib.bytesOf, List.map_map, Function.comp_def]
    rw [hm]
    simp [strOf, ByteArray.empty, ByteArray.emptyWithCapacity]
    rfl

theorem run_compareSlices (w : World) (B1 B2 : Nat) (A B : Option Addr) (n c m d : Nat) (l r : List UInt8) (hs : Sees w B1 A (bv l)) (hs2 : Sees w B2 B (bv r)) (hn : l.length = n) (hm : r.length = m) :
    (Extern.BytealgCompare.compare #[.slice A n c, .slice B m d]).run Try.prog w = .ok (.int .i64 (Lib.compareBytes l r)) w := by
  change Sem.run Try.prog (do pure (goInt (Extern.BytealgCompare.cmp (← Extern.Bytes.bytesOf (.slice A n c)) (← Extern.Bytes.bytesOf (.slice B m d))))) w = _
  simp only [Sem.run_bind, Sem.run_pure, run_bytesOf w B1 A n c l hs hn, run_bytesOf w B2 B m d r hs2 hm, Result.andThen]
  rw [Lib.cmp_eq]
  rfl

set_option maxRecDepth 100000 in
set_option maxHeartbeats 400000 in
theorem Compare_any (A B : Option Addr) (n m c d : Nat) (l r : List UInt8) (hn : l.length = n) (hm : r.length = m) (w : World) (hS : Sees w w.heap.size A (bv l)) (hS2 : Sees w w.heap.size B (bv r)) :
    Calls Try.prog 25 #[.slice A n c, .slice B m d] w fun e w' => e = .returned (.int .i64 (Lib.compareBytes l r)) ∧ w = w' := by
  go_enter Try.func25, Try.ntmps25
  go_wp2
  rw [run_callFunc_extern Try.func36 (by kernel_rfl) (by kernel_rfl) (by kernel_rfl) (e := Extern.BytealgCompare.compare) (by kernel_rfl), run_compareSlices w _ _ A B n c m d l r hS hS2 hn hm]
  simp only [Result.andThen]
  rw [Oper.upon_value]
  go_wp2
  go_ret
  exact ⟨rfl, rfl⟩
end Go.Proofs.Ytcfbblgoligagaa
