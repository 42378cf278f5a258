/-
  What rows are of: items; bytes.Compare.
-/
import Derived.Test.YtcfbblgoligagaaKmHp
namespace Go.Proofs.Ytcfbblgoligagaa.KB
open Go.RowKit

/-- An item, and where its bytes lie. -/
abbrev El := Item × (Option Addr × Nat)
abbrev Key := Item
instance : Inhabited El := ⟨([], (none, 0))⟩
def val (y : El) : Value := .slice y.2.1 y.1.length y.2.2
def key (y : El) : Key := y.1
def lt (a b : Key) : Bool := ahead a b
def cmpI (x y : El) : Int := Lib.compareBytes x.1 y.1
/-- What is to be known of a thing that is told. -/
structure EOk (m : Nat → Prop) (w : World) (x : El) : Prop where
  sees : SeesM m w x.2.1 (bv x.1)
  cap : x.1.length ≤ x.2.2
theorem EOk.keep {m : Nat → Prop} {w w' : World} {x : El} (h : EOk m w x) (hk : Kept m w w') : EOk m w' x := ⟨h.sees.keep hk, h.cap⟩
theorem EOk.mono {m m' : Nat → Prop} {w : World} {x : El} (h : EOk m w x) (hm : ∀ k, m k → m' k) : EOk m' w x := ⟨h.sees.mono hm, h.cap⟩
theorem ordr : Ordr lt where
  irrefl a := ahead_irrefl a
  trans _ _ _ h1 h2 := ahead_trans h1 h2
  tri _ _ h1 h2 := ahead_tri h1 h2
theorem cmp_neg (x y : El) : decide (cmpI x y < 0) = lt (key x) (key y) := Go.Proofs.Ytcfbblgoligagaa.cmp_neg x.1 y.1
theorem cmp_ne (x y : El) : cmpI x y = 0 ↔ key x = key y := by
  unfold cmpI key
  exact ⟨fun h => cmp_zero x.1 y.1 h, fun h => by rw [h]; exact cmp_self y.1⟩
theorem val_one (x : El) : (val x).oneCell' = true := rfl

def cmpF : FuncId := 25
theorem enters_cmp (args : Array Value) (w : World) : (callFunc cmpF args).run Try.prog w = .ok (.enter cmpF args) w := enters_of Try.func25 (by kernel_rfl) rfl args w

theorem cmp_any {m : Nat → Prop} (x y : El) (w : World) (hx : EOk m w x) (hy : EOk m w y) (hm : ∀ k, m k → k < w.heap.size) :
    Calls Try.prog cmpF #[val x, val y] w fun e w' => e = .returned (.int .i64 (cmpI x y)) ∧ w = w' :=
  Compare_any x.2.1 y.2.1 x.1.length y.1.length x.2.2 y.2.2 x.1 y.1 rfl rfl w (hx.sees.sees hm) (hy.sees.sees hm)
end Go.Proofs.Ytcfbblgoligagaa.KB
