/-
  What rows are of: numbers; cmp.Compare.
-/
import Derived.Test.YtcfbblgoligagaaKmHp
namespace Go.Proofs.Ytcfbblgoligagaa.KI
open Go.RowKit

abbrev El := Int
abbrev Key := Int
instance : Inhabited El := ⟨(0 : Int)⟩
def val (x : Int) : Value := .int .i64 x
def key (x : Int) : Int := x
def lt (a b : Int) : Bool := decide (a < b)
def cmpI (x y : Int) : Int := if x < y then -1 else if y < x then 1 else 0
/-- What is to be known of a thing that is told. -/
structure EOk (m : Nat → Prop) (w : World) (x : El) : Prop where
  out : True
theorem EOk.keep {m : Nat → Prop} {w w' : World} {x : El} (_ : EOk m w x) (_ : Kept m w w') : EOk m w' x := ⟨trivial⟩
theorem EOk.mono {m m' : Nat → Prop} {w : World} {x : El} (_ : EOk m w x) (_ : ∀ k, m k → m' k) : EOk m' w x := ⟨trivial⟩
theorem ordr : Ordr lt where
  irrefl (a : Int) := by simp [lt]
  trans (a b c : Int) h1 h2 := by simp only [lt, decide_eq_true_eq] at *; omega
  tri (a b : Int) h1 h2 := by simp only [lt, decide_eq_false_iff_not] at *; omega
theorem cmp_neg (x y : Int) : decide (cmpI x y < 0) = lt (key x) (key y) := by
  unfold cmpI lt key
  rw [decide_eq_decide]
  by_cases h1 : x < y
  · rw [if_pos h1]; simp [h1]
  · by_cases h2 : y < x
    · rw [if_neg h1, if_pos h2]; simp [h1]
    · rw [if_neg h1, if_neg h2]; simp [h1]
theorem cmp_ne (x y : Int) : cmpI x y = 0 ↔ key x = key y := by
  unfold cmpI key
  by_cases h1 : x < y
  · rw [if_pos h1]; constructor <;> intro h <;> omega
  · by_cases h2 : y < x
    · rw [if_neg h1, if_pos h2]; constructor <;> intro h <;> omega
    · rw [if_neg h1, if_neg h2]; constructor <;> intro h <;> omega
theorem val_one (x : El) : (val x).oneCell' = true := rfl

def cmpF : FuncId := 29
theorem enters_cmp (args : Array Value) (w : World) : (callFunc cmpF args).run Try.prog w = .ok (.enter cmpF args) w := enters_of Try.func29 (by kernel_rfl) rfl args w

set_option maxRecDepth 100000 in
set_option maxHeartbeats 400000 in
theorem isNaN_any (x : Int) (w : World) : Calls Try.prog 39 #[.int .i64 x] w fun e w' => e = .returned (.bool false) ∧ w = w' := by
  go_enter Try.func39, Try.ntmps39
  go_wp2
  go_ret
  exact ⟨by simp, rfl⟩
set_option maxRecDepth 100000 in
set_option maxHeartbeats 400000 in
theorem cmp_any {m : Nat → Prop} (x y : Int) (w : World) (_ : EOk m w x) (_ : EOk m w y) (_ : ∀ k, m k → k < w.heap.size) :
    Calls Try.prog cmpF #[val x, val y] w fun e w' => e = .returned (.int .i64 (cmpI x y)) ∧ w = w' := by
  unfold cmpF val cmpI
  obtain ⟨r, hr⟩ : ∃ r : Int, (if x < y then -1 else if y < x then 1 else 0) = r := ⟨_, rfl⟩
  rw [hr]
  have HR := Lib.hid hr
  clear hr
  by_cases h1 : x < y
  · have HF : Hid (r = -1) := by have := HR.out; rw [if_pos h1] at this; exact this.symm
    go_enter Try.func29, Try.ntmps29
    go_wp2_with fail
    refine (isNaN_any _ _).mono ?_
    rintro e w' ⟨rfl, rfl⟩
    go_wp2_with fail
    refine (isNaN_any _ _).mono ?_
    rintro e w' ⟨rfl, rfl⟩
    go_wp2
    go_ret
    exact ⟨by rw [HF.out]; rfl, rfl⟩
  · by_cases h2 : y < x
    · have HF : Hid (r = 1) := by have := HR.out; rw [if_neg h1, if_pos h2] at this; exact this.symm
      go_enter Try.func29, Try.ntmps29
      go_wp2_with fail
      refine (isNaN_any _ _).mono ?_
      rintro e w' ⟨rfl, rfl⟩
      go_wp2_with fail
      refine (isNaN_any _ _).mono ?_
      rintro e w' ⟨rfl, rfl⟩
      go_wp2
      go_ret
      exact ⟨by rw [HF.out]; rfl, rfl⟩
    · have HF : Hid (r = 0) := by have := HR.out; rw [if_neg h1, if_neg h2] at this; exact this.symm
      go_enter Try.func29, Try.ntmps29
      go_wp2_with fail
      refine (isNaN_any _ _).mono ?_
      rintro e w' ⟨rfl, rfl⟩
      go_wp2_with fail
      refine (isNaN_any _ _).mono ?_
      rintro e w' ⟨rfl, rfl⟩
      go_wp2
      go_ret
      exact ⟨by rw [HF.out]; rfl, rfl⟩
end Go.Proofs.Ytcfbblgoligagaa.KI
