/-
  Strings out of bytes; slices of slices of bytes; what a law's call leaves.
-/
import Derived.Test.YtnjchdehjinooaaVarint
import Derived.Lib.SlBytesConst
import Derived.Lib.UnsafeStr
import Derived.Lib.BytesEntry
import Derived.Laws.Externs
import Derived.Sort.Walk0
namespace Go.Proofs.Ytnjchdehjinooaa
open Go.RowKit

def strOf (l : List UInt8) : ByteArray := ⟨l.toArray⟩
theorem run_str (w : World) (B : Nat) (A : Option Addr) (n c : Nat) (l : List UInt8) (hs : Sees w B A (bv l)) (hn : l.length = n) :
    (convert 23 9 (.slice A n c)).run Try.prog w = .ok (.string (strOf l)) w := by
  subst hn
  cases A with
  | none =>
    rcases hs.out with h | ⟨ad, h, _⟩
    · have : l = [] := by simpa [bv] using h
      subst this
      exact run_convert_bytes_nil w _ _ Try.underlying23 Try.underlying5 _ _ _ Try.underlying9
    · cases h
  | some a =>
    have hc : ∀ j u, (bv l)[j]? = some u → w.cell? (a.add j) = some u := by
      intro j u hu
      rcases hs.out with h | ⟨ad, h, _, hc⟩
      · rw [h] at hu; simp at hu
      · injection h with h
        subst h
        exact hc j u hu
    have hl := run_loadCells_list (P := Try.prog) w a (bv l) hc
    rw [run_convert_bytes_string w 23 9 5 _ l.length c Try.underlying23 Try.underlying5 Try.underlying9]
    have hb : bv l = (l.map fun b => (b.toNat : Int)).map (Value.int .u8) := by simp [bv]
    rw [hb, List.length_map, List.length_map] at hl
    rw [run_bytesToString w _ l.length c _ hl, foldl_push_bytes]
    have hm : l.map ((fun n : Int => UInt8.ofNat n.toNat) ∘ fun b : UInt8 => (b.toNat : Int)) = l := by
      have : ((fun n : Int => UInt8.ofNat n.toNat) ∘ fun b : UInt8 => (b.toNat : Int)) = id := by funext b; simp
      rw [this, List.map_id]
    rw [List.map_map, hm]
    simp [strOf, ByteArray.empty, ByteArray.emptyWithCapacity]
    rfl

/-- A call that answers true and leaves what was there. -/
def IsTrue (w : World) (e : Ending) (w' : World) : Prop := e = .returned (.bool true) ∧ Below w.heap.size w w'

theorem strOf_toList (l : List UInt8) : (strOf l).toList = l := by rw [Lib.toList_data]; rfl

/-- A slice of slices of bytes. -/
structure Sees2 (w : World) (B : Nat) (A : Option Addr) (ls : List (List UInt8)) : Prop where
  out : ∀ i (hi : i < ls.length), ∃ ad Ai ci, A = some ad ∧ ad.block < B ∧ w.cell? (ad.add i) = some (.slice Ai (ls[i]).length ci) ∧ (ls[i]).length ≤ ci ∧ Sees w B Ai (bv ls[i])
theorem Sees2.below {w w' : World} {B : Nat} {A : Option Addr} {ls : List (List UInt8)} (h : Sees2 w B A ls) (hb : Below B w w') : Sees2 w' B A ls :=
  ⟨fun i hi => by
    obtain ⟨ad, Ai, ci, h1, h2, h3, h4, h5⟩ := h.out i hi
    exact ⟨ad, Ai, ci, h1, h2, (hb.cell (by rw [add_block]; exact h2)).trans h3, h4, h5.below hb⟩⟩

theorem OwnB.drewN {w : World} {base : Nat} {v : Value} {l : List UInt8} (h : OwnB w base v l) (k : Nat) : OwnB (w.drewN k) base v l := h

end Go.Proofs.Ytnjchdehjinooaa
