/-
  The document's example of labels: the laws' own first call.
-/
import Derived.Test.YtbgnmojdkhlbaaaDoorLbFew
namespace Go.Proofs.YtbgnmojdkhlbaaaDoor
open Go.RowKit

def aw0 : List Lb := [(⟨#[106, 111, 98]⟩, ⟨#[120]⟩), (⟨#[97]⟩, ⟨#[1]⟩)]
def aw1 : List Lb := [(⟨#[97]⟩, ⟨#[1]⟩), (⟨#[106, 111, 98]⟩, ⟨#[120]⟩)]
def awB : List UInt8 := [97, 1, 2, 4, 1, 106, 111, 98, 1, 120, 1]
theorem aw_sort : sortN aw0 = aw1 := by
  have h : ltN (⟨#[106, 111, 98]⟩, ⟨#[120]⟩) (⟨#[97]⟩, ⟨#[1]⟩) = false := by unfold ltN; rw [Lib.toList_data, Lib.toList_data]; decide
  unfold aw0 aw1
  simp only [sortN, insN, h]
  rfl
theorem aw_may : MayL aw0 := by
  refine ⟨by decide, by decide, ?_, ?_⟩
  · intro x hx
    simp only [aw0, List.mem_cons, List.not_mem_nil, or_false] at hx
    rcases hx with rfl | rfl <;> decide
  · unfold Dist aw0
    simp
theorem aw_marsh : marsh aw1 = awB := by decide
theorem aw_parse : parse awB = (aw1, 0) := by rw [← aw_marsh]; exact parse_marsh aw1
theorem aw_get : getL aw0 ⟨#[106, 111, 98]⟩ = ⟨#[120]⟩ := by unfold aw0 getL; rw [if_pos (by simp)]
theorem aw_cmp : cmpLs aw0 aw1 = 1 := by
  have h : Op.bytesLess (⟨#[106, 111, 98]⟩ : ByteArray).toList (⟨#[97]⟩ : ByteArray).toList = false := by rw [Lib.toList_data, Lib.toList_data]; decide
  have h2 : ((⟨#[106, 111, 98]⟩ : ByteArray).toList == (⟨#[97]⟩ : ByteArray).toList) = false := by rw [Lib.toList_data, Lib.toList_data]; decide
  unfold aw0 aw1
  simp only [cmpLs, cmpL]
  rw [cmpB_gt h h2]
  rfl
theorem aw_name : nameB ⟨#[106, 111, 98]⟩ = true := by decide
theorem aw_may1 : MayL aw1 := aw_sort ▸ aw_may.sort
theorem aw_sort1 : sortN aw1 = aw1 := by rw [← aw_sort]; exact sortN_sort aw_may.dist

set_option maxRecDepth 100000 in
set_option maxHeartbeats 1600000 in
theorem awake_any (w : World) : Calls Tryd.prog 9 #[] w (Gives w (.bool true)) := by
  obtain ⟨W1, hW1⟩ : ∃ W1, w.alloc (.cells #[.string ⟨#[106, 111, 98]⟩, .string ⟨#[120]⟩, .string ⟨#[97]⟩, .string ⟨#[1]⟩] 34) = W1 := ⟨_, rfl⟩
  have hb1 : Below w.heap.size w W1 := hW1 ▸ (Below.refl _ _).alloc (Nat.le_refl _) _
  have hs1 : w.heap.size + 1 = W1.heap.size := by rw [← hW1]; simp
  have hS1 : Sees W1 (w.heap.size + 1) (some ⟨w.heap.size, 0, none⟩) (lv aw0) := hW1 ▸ sees_newL w aw0 _ _ rfl
  have HW1 := Lib.hid hW1
  have HS1 := Lib.hid hs1
  have hMar := Lib.hid (Marshal_any _ 2 2 aw0 rfl W1 (hS1.more (by omega)) (by omega) (fun x hx => by simp only [aw0, List.mem_cons, List.not_mem_nil, or_false] at hx; rcases hx with rfl | rfl <;> decide))
  clear hW1 hs1
  go_enter Tryd.func9, Tryd.ntmps9
  go_wp2_with fail
  rw [HW1.out]
  refine hMar.out.mono ?_
  rintro en w2 ⟨v2, kk, rfl, hb2, hres⟩
  rcases hres with ⟨-, rfl, hown2⟩ | ⟨hno, -, -⟩
  rotate_left
  · exact absurd aw_may hno
  rw [aw_sort, aw_marsh] at hown2
  obtain ⟨Ab, cb, rfl, hcb, -, -, hsb⟩ := hown2.open_
  have hle2 := hb2.size
  have hUn := Lib.hid (Unmarshal_any Ab 11 cb awB rfl hcb w2 hsb (by omega))
  clear hMar
  go_wp2_with fail
  refine hUn.out.mono ?_
  rintro en w3 ⟨v3, kk, rfl, hb3, hres⟩
  rw [aw_parse] at hres
  rcases hres with ⟨-, -, -, rfl, hown3⟩ | ⟨-, hno, -, -⟩ | ⟨hno, -, -⟩
  rotate_left
  · exact absurd ⟨aw_may1, aw_sort1⟩ hno
  · exact absurd rfl hno
  change OwnL w3 _ v3 aw1 at hown3
  obtain ⟨Au, cu, rfl, -, -, hsu⟩ := hown3.open_
  have hle3 := hb3.size
  have hb13 : Below (w.heap.size + 1) W1 w3 := (hb2.mono (by have := HS1.out; omega)).trans (hb3.mono (by have := HS1.out; omega))
  have hS3 := hS1.below hb13
  have hCa := Lib.hid (Canon_any (some ⟨w.heap.size, 0, none⟩) 2 2 aw0 rfl w3 (hS3.more (by have := HS1.out; omega)) (by omega) (fun x hx => by simp only [aw0, List.mem_cons, List.not_mem_nil, or_false] at hx; rcases hx with rfl | rfl <;> decide))
  clear hUn
  go_wp2_with fail
  refine hCa.out.mono ?_
  rintro en w4 ⟨v4, kk, rfl, hb4, hres⟩
  rcases hres with ⟨-, rfl, hown4⟩ | ⟨hno, -, -⟩
  rotate_left
  · exact absurd aw_may hno
  rw [aw_sort] at hown4
  obtain ⟨Ac, cc, rfl, -, -, hsc⟩ := hown4.open_
  have hle4 := hb4.size
  have hS4 := hS3.below (hb4.mono (by have := HS1.out; omega))
  have cv := run_str w4 w2.heap.size Ab awB.length cb awB ((hsb.below hb3).below (hb4.mono hle3)) rfl
  have hc : (strOf awB).toList = [97, 1, 2, 4, 1, 106, 111, 98, 1, 120, 1] := strOf_toList awB
  have hSa := Lib.hid (Same_any Au Ac aw1.length cu aw1.length cc aw1 aw1 rfl rfl w4 ((hsu.below hb4).more hle4) hsc (by decide) (by decide))
  clear hCa
  go_wp2_with fail
  refine hSa.out.mono ?_
  rintro en w5 ⟨rfl, q5, rfl⟩
  rw [sameLs_self]
  have hb5 : Below (w.heap.size + 1) W1 (w4.drewN q5) := below_d (hb13.trans (hb4.mono (by have := HS1.out; omega))) q5
  have hS5 := hS1.below hb5
  have hs5 : W1.heap.size ≤ (w4.drewN q5).heap.size := hb5.size
  have hsc5 := hsc.drewN q5
  have hsc5' : Sees (w4.drewN q5) (w4.drewN q5).heap.size Ac (lv aw1) := hsc5
  generalize w4.drewN q5 = w5 at hb5 hS5 hs5 hsc5' ⊢
  have hGe := Lib.hid (Get_any (some ⟨w.heap.size, 0, none⟩) 2 2 aw0 ⟨#[106, 111, 98]⟩ rfl w5 (hS5.more (by have := HS1.out; omega)) (by omega))
  rw [aw_get] at hGe
  clear hSa cv hc
  go_wp2_with fail
  refine hGe.out.mono ?_
  rintro en w6 ⟨rfl, hb6⟩
  have hle6 := hb6.size
  have hNa := Lib.hid (Name_any ⟨#[106, 111, 98]⟩ w6 (by decide))
  rw [aw_name] at hNa
  clear hGe
  go_wp2_with fail
  refine hNa.out.mono ?_
  rintro en w7 ⟨rfl, hb7⟩
  have hle7 := hb7.size
  have hS7 := hS5.below ((hb6.mono (by have := HS1.out; omega)).trans (hb7.mono (by have := HS1.out; omega)))
  have hsc7 := ((hsc5'.below hb6).below (hb7.mono hle6)).more (Nat.le_trans hle6 hle7)
  have hCo := Lib.hid (LCompare_any (some ⟨w.heap.size, 0, none⟩) Ac 2 2 aw1.length cc aw0 aw1 rfl rfl w7 (hS7.more (by have := HS1.out; omega)) hsc7 (by omega) (by decide))
  rw [aw_cmp] at hCo
  clear hNa
  go_wp2_with fail
  refine hCo.out.mono ?_
  rintro en w8 ⟨rfl, hb8⟩
  go_wp2
  go_ret
  exact ⟨rfl, hb1.trans ((hb5.mono (by omega)).trans ((hb6.mono (by have := HS1.out; omega)).trans ((hb7.mono (by have := HS1.out; omega)).trans (hb8.mono (by have := HS1.out; omega)))))⟩
end Go.Proofs.YtbgnmojdkhlbaaaDoor
