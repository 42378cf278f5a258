/-
  Strings out of bytes.
-/
import Derived.Test.YteidkmiladkoiaaDoorBase
import Derived.Lib.SlBytesConst
import Derived.Lib.UnsafeStr
import Derived.Lib.BytesEntry
import Derived.Laws.Externs
import Derived.Sort.Walk0
namespace Go.Proofs.YteidkmiladkoiaaDoor
open Go.RowKit

def strOf (l : List UInt8) : ByteArray := ⟨l.toArray⟩
theorem run_str (w : World) (B : Nat) (A : Option Addr) (n c : Nat) (l : List UInt8) (hs : Sees w B A (bv l)) (hn : l.length = n) :
    (convert 28 9 (.slice A n c)).run Tryd.prog w = .ok (.string (strOf l)) w := by
  subst hn
  cases A with
  | none =>
    rcases hs.out with h | ⟨ad, h, _⟩
    · have : l = [] := by simpa [bv] using h
      subst this
      exact run_convert_bytes_nil w _ _ Tryd.underlying28 Tryd.underlying5 _ _ _ Tryd.underlying9
    · cases h
  | some a =>
    have hc : ∀ j u, (bv l)[j]? = some u → w.cell? (a.add j) = some u := by
      intro j u hu
      rcases hs.out with h | ⟨ad, h, _, hc⟩
      · rw [h] at hu; simp at hu
      · injection h with h
        subst h
        exact hc j u hu
    have hl := run_loadCells_list (P := Tryd.prog) w a (bv l) hc
    rw [run_convert_bytes_string w 28 9 5 _ l.length c Tryd.underlying28 Tryd.underlying5 Tryd.underlying9]
    have hb : bv l = (l.map fun b => (b.toNat : Int)).map (Value.int .u8) := by simp [bv]
    rw [hb, List.length_map, List.length_map] at hl
    rw [run_bytesToString w _ l.length c _ hl, foldl_push_bytes]
    have hm : l.map ((fun n : Int => UInt8.ofNat n.toNat) ∘ fun b : UInt8 => (b.toNat : Int)) = l := by
      have : ((fun n : Int => UInt8.ofNat n.toNat) ∘ fun b : UInt8 => (b.toNat : Int)) = id := by funext b; simp
      rw [this, List.map_id]
    rw [List.map_map, hm]
    simp [strOf, ByteArray.empty, ByteArray.emptyWithCapacity]
    rfl

theorem strOf_toList (l : List UInt8) : (strOf l).toList = l := by rw [Lib.toList_data]; rfl

end Go.Proofs.YteidkmiladkoiaaDoor
