/-
  The law FrameSums, walked: the sum of any bytes, and their frame, are the document's.
-/
import Derived.Test.YtbnjcdjgambnhaaDoorFrAwake
namespace Go.Proofs.YtbnjcdjgambnhaaDoor
open Go.RowKit

set_option maxRecDepth 100000 in
set_option maxHeartbeats 800000 in
theorem FrameSums_any (kind : Int) (A : Option Addr) (n c : Nat) (l : List UInt8) (hn : l.length = n) (w : World) (hS : Sees w w.heap.size A (bv l)) (hH : Halves w) :
    Calls Tryd.prog 3 #[.int .i64 kind, .slice A n c] w (IsTrue w) := by
  have hnot : ∀ (x : Bool) (w : World), (Op.unary .not (.bool x)).run Tryd.prog w = .ok (.bool (!x)) w := fun _ _ => rfl
  have HN := Lib.hid hn
  clear hn
  by_cases hbig : 70000 < n
  · go_enter Tryd.func3, Tryd.ntmps3
    go_wp2_with fail
    refine (awake_any w hH).mono ?_
    rintro e w1 ⟨rfl, hb1⟩
    go_wp2
    go_ret
    exact ⟨rfl, hb1⟩
  · go_enter Tryd.func3, Tryd.ntmps3
    go_wp2_with fail
    refine (awake_any w hH).mono ?_
    rintro e w1 ⟨rfl, hb1⟩
    have hS1 := (hS.below hb1).more hb1.size
    have hH1 := hH.below hb1 hH.1
    go_wp2_with fail
    refine (Make_any kind A n c l HN.out w1 hS1 hH1 (by have := HN.out; omega)).mono ?_
    rintro e w2 ⟨v2, rfl, hown2, hb2⟩
    obtain ⟨A2, c2, rfl, -, -, -, hsee2⟩ := hown2.open_
    have hS2 := (hS1.below hb2).more hb2.size
    have hH2 := hH1.below hb2 hH1.1
    go_wp2_with fail
    refine (refMake_any kind A n c l HN.out w2 hS2 (by have := HN.out; omega)).mono ?_
    rintro e w3 ⟨v3, rfl, hown3, hb3⟩
    obtain ⟨A3, c3, rfl, -, -, -, hsee3⟩ := hown3.open_
    have hS3 := (hS2.below hb3).more hb3.size
    have hH3 := hH2.below hb3 hH2.1
    have hsee2' := hsee2.below hb3
    have hb13 : Below w.heap.size w w3 := (hb1.trans (hb2.mono hb1.size)).trans (hb3.mono (Nat.le_trans hb1.size hb2.size))
    generalize makeB kind l = M at hsee2' hsee3
    clear hsee2 hown2 hown3
    have cv1 := run_str w3 _ A2 _ c2 M hsee2' rfl
    have cv2 := run_str w3 _ A3 _ c3 M hsee3 rfl
    go_wp2_with (first
      | (go_at_call 11; refine (Sum_any A n c l HN.out w3 hS3 hH3 (by have := HN.out; omega)).mono ?_; rintro e w4 ⟨rfl, rfl⟩)
      | (go_at_call 12; refine (refSum_any A n c l HN.out w3 hS3 (by have := HN.out; omega)).mono ?_; rintro e w4 ⟨rfl, rfl⟩))
    go_ret
    exact ⟨rfl, hb13⟩
end Go.Proofs.YtbnjcdjgambnhaaDoor
