/-
  The law FilterAlls, walked: whether any filters may be, whether any labels are as they ask, which one is exact.
-/
import Derived.Test.YtpmjbpmdmbankaaDoorFlAwake
namespace Go.Proofs.YtpmjbpmdmbankaaDoor
open Go.RowKit

/-- The four cells of a filter in a row. -/
structure FourAt (w : World) (a : Addr) (x : Flt) : Prop where
  c0 : w.cell? a = some (.string x.name)
  c1 : w.cell? ⟨a.block, a.off + 1, none⟩ = some (.string x.value)
  c2 : w.cell? ⟨a.block, a.off + 2, none⟩ = some (.bool x.pre)
  c3 : w.cell? ⟨a.block, a.off + 3, none⟩ = some (.bool x.inv)
theorem FourAt.below {w w' : World} {B : Nat} {a : Addr} {x : Flt} (h : FourAt w a x) (hb : Below B w w') (hlt : a.block < B) : FourAt w' a x :=
  ⟨(hb.cell (p := a) hlt).trans h.c0, (hb.cell (p := ⟨a.block, a.off + 1, none⟩) hlt).trans h.c1, (hb.cell (p := ⟨a.block, a.off + 2, none⟩) hlt).trans h.c2, (hb.cell (p := ⟨a.block, a.off + 3, none⟩) hlt).trans h.c3⟩
theorem One_eta (x : Flt) (A : Option Addr) (n c : Nat) (ls : List Lb) (hn : ls.length = n) (b : Bool) (hx : oneB x ls = b) (w : World) (hS : Sees w w.heap.size A (lv ls)) (hlen : n ≤ 1099511627776) :
    Calls Tryd.prog 10 #[.agg #[.string x.name, .string x.value, .bool x.pre, .bool x.inv], .slice A n c] w (Gives w (.bool b)) := by
  subst hx
  exact One_any x A n c ls hn w hS hlen
theorem RefOne_eta (x : Flt) (A : Option Addr) (n c : Nat) (ls : List Lb) (hn : ls.length = n) (b : Bool) (hx : oneB x ls = b) (w : World) (hS : Sees w w.heap.size A (lv ls)) (hlen : n ≤ 1099511627776) :
    Calls Tryd.prog 11 #[.agg #[.string x.name, .string x.value, .bool x.pre, .bool x.inv], .slice A n c] w (Gives w (.bool b)) := by
  subst hx
  exact RefOne_any x A n c ls hn w hS hlen

set_option maxRecDepth 100000 in
set_option maxHeartbeats 1600000 in
theorem FilterAlls_small (A : Option Addr) (n c : Nat) (fs : List Flt) (hn : fs.length = n) (B : Option Addr) (m d : Nat) (ls : List Lb) (hm : ls.length = m) (hf : fewB fs ls = true) (w : World) (hS : Sees w w.heap.size A (fv fs)) (hT : Sees w w.heap.size B (lv ls)) :
    Calls Tryd.prog 3 #[.slice A n c, .slice B m d] w (IsTrue w) := by
  have hnot : ∀ (x : Bool) (w : World), (Op.unary .not (.bool x)).run Tryd.prog w = .ok (.bool (!x)) w := fun _ _ => rfl
  obtain ⟨h10, k10, hfs, hls⟩ := few_yes hf
  have hn10 : n ≤ 10 := by omega
  have hm10 : m ≤ 10 := by omega
  have hfit : FitF fs := fun f hf => by have := (hfs f hf).1; omega
  have HF := Lib.hid hf
  have HN := Lib.hid hn
  have HM := Lib.hid hm
  have HT := Lib.hid hfit
  clear hn hm hf h10 k10 hfs hls hfit
  go_enter Tryd.func3, Tryd.ntmps3
  go_wp2_with fail
  refine (awake_any w).mono ?_
  rintro e w1 ⟨rfl, hb1⟩
  have hs1 := hb1.size
  have hFew := few_any A n c fs HN.out B m d ls HM.out w1 ((hS.below hb1).more hs1) ((hT.below hb1).more hs1)
  rw [HF.out] at hFew
  go_wp2_with fail
  refine hFew.mono ?_
  rintro e w2 ⟨rfl, rfl⟩
  clear hFew
  go_wp2_with fail
  go_loopg [7] n (fun g i wr => ∃ k : Nat, k + g = n ∧ i = .int .i64 k ∧ Below w.heap.size w wr)
  case atStart => exact ⟨0, by omega, rfl, hb1⟩
  case round =>
    obtain ⟨k, hk, rfl, hbr⟩ := hrel
    have hsr := hbr.size
    by_cases hlt : k < n
    · obtain ⟨ad, rfl, hadB, hc0, hc1, hc2, hc3⟩ := (hS.below hbr).fl (k := k) (by have := HN.out; omega)
      generalize fs[k]'(by have := HN.out; omega) = x at hc0 hc1 hc2 hc3
      have hF : FourAt wr (ad.add (k * 4)) x := ⟨hc0, hc1, hc2, hc3⟩
      have hadl : (ad.add (k * 4)).block < wr.heap.size := by rw [add_block]; omega
      obtain ⟨b, hb⟩ : ∃ b, oneB x ls = b := ⟨_, rfl⟩
      have HB := Lib.hid hb
      have hbb : (b != b) = false := by cases b <;> rfl
      clear hb
      go_wp2_with fail
      go_region_held3 (fun w' => w'.cell? (ad.add (k * 4)) = some (.string x.name) ∧ w'.cell? ⟨(ad.add (k * 4)).block, (ad.add (k * 4)).off + 1, none⟩ = some (.string x.value) ∧ w'.cell? ⟨(ad.add (k * 4)).block, (ad.add (k * 4)).off + 2, none⟩ = some (.bool x.pre) ∧ w'.cell? ⟨(ad.add (k * 4)).block, (ad.add (k * 4)).off + 3, none⟩ = some (.bool x.inv))
        (first | exact ⟨hF4.c0, hF4.c1, hF4.c2, hF4.c3⟩ | exact ⟨hF3.c0, hF3.c1, hF3.c2, hF3.c3⟩ | exact ⟨hF.c0, hF.c1, hF.c2, hF.c3⟩)
        (first
          | (go_at_call 10; refine (One_eta x B m d ls HM.out b HB.out _ (((hT.below hbr).more hsr).drewN 1) (by omega)).mono ?_; rintro e w3 ⟨rfl, hb3⟩; have hb3 := below_undrew hb3; have hF3 := hF.below hb3 hadl; have hb03 := hbr.trans (hb3.mono hsr))
          | (go_at_call 11; refine (RefOne_eta x B m d ls HM.out b HB.out _ ((hT.below hb03).more hb03.size) (by omega)).mono ?_; rintro e w4 ⟨rfl, hb4⟩; have hF4 := hF3.below hb4 (by have := hb3.size; omega); have hb04 := hb03.trans (hb4.mono hb03.size)))
      go_wp2
      go_roundg (n - (k + 1))
      case measure => omega
      case rel => exact ⟨k + 1, by omega, by go_num, hb04⟩
    · go_wp2_with fail
      refine (Check_any _ n c fs HN.out HT.out wr ((hS.below hbr).more hsr) (by omega)).mono ?_
      rintro e w3 ⟨rfl, hb3⟩
      have r3 := hbr.trans (hb3.mono hsr)
      go_wp2_with fail
      refine (RefCheck_any _ n c fs HN.out HT.out w3 ((hS.below r3).more r3.size) (by omega)).mono ?_
      rintro e w4 ⟨rfl, rfl⟩
      generalize checkF fs = cf
      go_wp2_with fail
      refine (All_any _ n c fs HN.out B m d ls HM.out w3 ((hS.below r3).more r3.size) ((hT.below r3).more r3.size) (by omega) (by omega)).mono ?_
      rintro e w5 ⟨rfl, hb5⟩
      have r5 := r3.trans (hb5.mono r3.size)
      go_wp2_with fail
      refine (RefAll_any _ n c fs HN.out B m d ls HM.out w5 ((hS.below r5).more r5.size) ((hT.below r5).more r5.size) (by omega) (by omega)).mono ?_
      rintro e w6 ⟨rfl, hb6⟩
      have r6 := r5.trans (hb6.mono r5.size)
      generalize allB fs ls = al
      have hal : (al == al) = true := by cases al <;> rfl
      go_wp2_with fail
      refine (Exact_any _ n c fs HN.out w6 ((hS.below r6).more r6.size) (by omega)).mono ?_
      rintro e w7 ⟨rfl, hb7⟩
      have r7 := r6.trans (hb7.mono r6.size)
      go_wp2_with fail
      refine (RefExact_any _ n c fs HN.out w7 ((hS.below r7).more r7.size) (by omega)).mono ?_
      rintro e w8 ⟨rfl, rfl⟩
      generalize exactZ fs = ez
      go_wp2
      go_ret
      exact ⟨ret_true (by simp), r7⟩
end Go.Proofs.YtpmjbpmdmbankaaDoor
