/-
  What items.Unpack tells, in plain lists.
-/
import Derived.Test.YtnjchdehjinooaaItSt
namespace Go.Proofs.Ytnjchdehjinooaa
open Go.RowKit

/-- The items behind: how many, what was told so far, the item ahead, the bytes. -/
def itemsR : Nat → List (List UInt8) → List UInt8 → List UInt8 → List (List UInt8) × Nat
  | 0, acc, _, _ => (acc, 0)
  | j + 1, acc, p, r =>
    if (numR r).2.2 ≠ 0 then ([], (numR r).2.2) else if p.length < (numR r).1 then ([], 11)
    else if (numR (numR r).2.1).2.2 ≠ 0 then ([], (numR (numR r).2.1).2.2) else if (numR (numR r).2.1).2.1.length < (numR (numR r).2.1).1 then ([], 10)
    else itemsR j (acc ++ [p.take (numR r).1 ++ (numR (numR r).2.1).2.1.take (numR (numR r).2.1).1]) (p.take (numR r).1 ++ (numR (numR r).2.1).2.1.take (numR (numR r).2.1).1) ((numR (numR r).2.1).2.1.drop (numR (numR r).2.1).1)
/-- What bytes are told to be: the items, the error. -/
def unpackR (b : List UInt8) : List (List UInt8) × Nat :=
  if (numR b).2.2 ≠ 0 then ([], (numR b).2.2)
  else if (itemsR (numR b).1 [] [] (numR b).2.1).2 ≠ 0 then ([], (itemsR (numR b).1 [] [] (numR b).2.1).2)
  else if checkN (itemsR (numR b).1 [] [] (numR b).2.1).1 = 0 ∧ packB (itemsR (numR b).1 [] [] (numR b).2.1).1 = b then ((itemsR (numR b).1 [] [] (numR b).2.1).1, 0) else ([], 11)

theorem items_err1 {j : Nat} {acc : List (List UInt8)} {p r r1 : List UInt8} {u e : Nat} (h : numR r = (u, r1, e)) (he : e ≠ 0) : itemsR (j + 1) acc p r = ([], e) := by
  simp only [itemsR, h]; rw [if_pos he]
theorem items_big {j : Nat} {acc : List (List UInt8)} {p r r1 : List UInt8} {u : Nat} (h : numR r = (u, r1, 0)) (hu : p.length < u) : itemsR (j + 1) acc p r = ([], 11) := by
  simp only [itemsR, h]; rw [if_neg (by simp), if_pos hu]
theorem items_err2 {j : Nat} {acc : List (List UInt8)} {p r r1 r2 : List UInt8} {u v e : Nat} (h : numR r = (u, r1, 0)) (hu : ¬ p.length < u) (h2 : numR r1 = (v, r2, e)) (he : e ≠ 0) : itemsR (j + 1) acc p r = ([], e) := by
  simp only [itemsR, h, h2]; rw [if_neg (by simp), if_neg hu, if_pos he]
theorem items_short {j : Nat} {acc : List (List UInt8)} {p r r1 r2 : List UInt8} {u v : Nat} (h : numR r = (u, r1, 0)) (hu : ¬ p.length < u) (h2 : numR r1 = (v, r2, 0)) (hv : r2.length < v) : itemsR (j + 1) acc p r = ([], 10) := by
  simp only [itemsR, h, h2]; rw [if_neg (by simp), if_neg hu, if_neg (by simp), if_pos hv]
theorem items_more {j : Nat} {acc : List (List UInt8)} {p r r1 r2 : List UInt8} {u v : Nat} (h : numR r = (u, r1, 0)) (hu : ¬ p.length < u) (h2 : numR r1 = (v, r2, 0)) (hv : ¬ r2.length < v) :
    itemsR (j + 1) acc p r = itemsR j (acc ++ [p.take u ++ r2.take v]) (p.take u ++ r2.take v) (r2.drop v) := by
  simp only [itemsR, h, h2]; rw [if_neg (by simp), if_neg hu, if_neg (by simp), if_neg hv]
end Go.Proofs.Ytnjchdehjinooaa
