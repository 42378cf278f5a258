/-
  Do items rise? Plain, and the words for what is answered.
-/
import Derived.Test.YtcfbblgoligagaaItCmp
namespace Go.Proofs.Ytcfbblgoligagaa
open Go.RowKit

/-- Do items rise? -/
def risesB : List (List UInt8) → Bool
  | a :: b :: t => ahead a b && risesB (b :: t)
  | _ => true
theorem rises_end {ls : List (List UInt8)} {k : Nat} (h : ls.length ≤ k + 1) : risesB (ls.drop k) = true := by
  by_cases hk : k < ls.length
  · rw [List.drop_eq_getElem_cons hk, List.drop_eq_nil_of_le (by omega)]; rfl
  · rw [List.drop_eq_nil_of_le (by omega)]; rfl
theorem rises_at {ls : List (List UInt8)} {k : Nat} (h : k + 1 < ls.length) : risesB (ls.drop k) = (ahead ls[k] ls[k + 1] && risesB (ls.drop (k + 1))) := by
  rw [List.drop_eq_getElem_cons (i := k) (by omega), List.drop_eq_getElem_cons (i := k + 1) h]
  rfl
def BoolIs (w : World) (b : Bool) (e : Ending) (w' : World) : Prop := e = .returned (.bool b) ∧ ∃ q, w' = w.drewN q

def cmpFn : Value := .func (.func 25) #[] #[]
end Go.Proofs.Ytcfbblgoligagaa
