/-
  The document's May of rows, walked.
-/
import Derived.Test.YtpjiioeodcinpaaGreatDoorRwMay
namespace Go.Proofs.YtpjiioeodcinpaaGreatDoor
open Go.RowKit

/-- Whether a row may be, by four answers: the day's bounds asked last. -/
def MayC (k d : Int) (ba bs o bn : Bool) : Prop := ((k = 1 ∨ k = 2) ∧ ba = true ∧ bn = true ∧ d = 0) ∨ (k = 3 ∧ bs = false ∧ o = true ∧ d = 0) ∨ (k = 4 ∧ bs = false ∧ o = true ∧ 0 ≤ d ∧ d ≤ 2147483647) ∨ (k = 5 ∧ bs = false ∧ bn = true ∧ d = 0)
theorem mayC_iff {k d i : Int} {ls : List Lb} {x : Lb} {ba bs o bn : Bool} (hi1 : 1 ≤ i) (hi2 : i ≤ 1073741824) (ha : ba = true ↔ MayL ls) (hs : bs = false ↔ ls = []) (ho : okL x = o) (hn : bn = true ↔ x = lb0) :
    MayR ⟨k, ls, x, d, i⟩ ↔ MayC k d ba bs o bn := by
  unfold MayC
  rw [ha, hs, ← ho, hn]
  constructor
  · intro h
    have h1 := h.day1
    have h2 := h.day2
    simp only at h1 h2
    rcases h.kinds with h | h | ⟨a, b, c⟩ | h
    · exact .inl h
    · exact .inr (.inl h)
    · exact .inr (.inr (.inl ⟨a, b, c, h1, h2⟩))
    · exact .inr (.inr (.inr h))
  · intro h
    rcases h with h | h | ⟨a, b, c, h1, h2⟩ | h
    · exact ⟨hi1, hi2, by simp only; omega, by simp only; omega, .inl h⟩
    · exact ⟨hi1, hi2, by simp only; omega, by simp only; omega, .inr (.inl h)⟩
    · exact ⟨hi1, hi2, h1, h2, .inr (.inr (.inl ⟨a, b, c⟩))⟩
    · exact ⟨hi1, hi2, by simp only; omega, by simp only; omega, .inr (.inr (.inr h))⟩

set_option maxRecDepth 100000 in
set_option maxHeartbeats 12800000 in
theorem RefMayR_any (A : Option Addr) (n c : Nat) (ls : List Lb) (hn : ls.length = n) (k d i : Int) (x1 x2 : ByteArray) (w : World) (hS : Sees w w.heap.size A (lv ls)) (hlen : n ≤ 1099511627776) (hsz : ∀ x ∈ ls, x.1.size ≤ 9223372036854775807) (h1 : x1.size ≤ 9223372036854775807) :
    Calls Tryz.prog 28 #[.agg #[.int .i64 k, .slice A n c, .string x1, .string x2, .int .i64 d, .int .i64 i]] w (MayIs w ⟨k, ls, (x1, x2), d, i⟩) := by
  obtain ⟨W1, hW1⟩ : ∃ W1, w.alloc (.cells #[.int .i64 k, .slice A n c, .string x1, .string x2, .int .i64 d, .int .i64 i] 34) = W1 := ⟨_, rfl⟩
  have hb1 : Below w.heap.size w W1 := hW1 ▸ (Below.refl _ _).alloc (Nat.le_refl _) _
  have hcell : ∀ j, j < 6 → W1.cell? ⟨w.heap.size, j, none⟩ = #[.int .i64 k, .slice A n c, .string x1, .string x2, .int .i64 d, .int .i64 i][j]? := fun j hj => by
    rw [← hW1, World.cell?_alloc_at _ _ _ _ rfl]
  have c4 := hcell 5 (by omega)
  simp only [List.getElem?_toArray, List.getElem?_cons_zero, List.getElem?_cons_succ] at c4
  by_cases hi1 : i < 1
  · go_enter Tryz.func28, Tryz.ntmps28
    go_wp2
    go_ret
    exact MayIs.no (fun h => by have := h.id1; simp only at this; omega) hb1
  by_cases hi2 : 1073741824 < i
  · go_enter Tryz.func28, Tryz.ntmps28
    go_wp2
    go_ret
    exact MayIs.no (fun h => by have := h.id2; simp only at this; omega) hb1
  have hs1 : w.heap.size < W1.heap.size := by rw [← hW1]; simp
  have hC := Lib.hid (RefMay_any A n c ls hn W1 ((hS.below hb1).more hb1.size) hlen hsz)
  have hR := Lib.hid (RefLabel_any x1 x2 W1 h1)
  have hN := noL_iff (x1 := x1) (x2 := x2)
  obtain ⟨o, ho⟩ : ∃ o, okL (x1, x2) = o := ⟨_, rfl⟩
  rw [ho] at hR
  have c0 := hcell 0 (by omega)
  have c1 := hcell 1 (by omega)
  have c2 := hcell 2 (by omega)
  have c2' := hcell 3 (by omega)
  have c3 := hcell 4 (by omega)
  simp only [List.getElem?_toArray, List.getElem?_cons_zero, List.getElem?_cons_succ] at c0 c1 c2 c2' c3
  obtain ⟨ba, hba⟩ : ∃ ba : Bool, ba = true ↔ MayL ls := by
    by_cases h : MayL ls
    · exact ⟨true, fun _ => h, fun _ => rfl⟩
    · exact ⟨false, fun e => absurd e (by simp), fun e => absurd e h⟩
  obtain ⟨bs, hbs, hbn⟩ : ∃ bs : Bool, (bs = false ↔ ls = []) ∧ ((bs = false ∧ n ≤ 0) ∨ (bs = true ∧ 1 ≤ n)) := by
    by_cases h : n = 0
    · exact ⟨false, ⟨fun _ => by rw [← List.length_eq_zero_iff]; omega, fun _ => rfl⟩, .inl ⟨rfl, by omega⟩⟩
    · exact ⟨true, ⟨fun e => absurd e (by simp), fun e => by rw [e] at hn; simp at hn; omega⟩, .inr ⟨rfl, by omega⟩⟩
  have hite := fun w' => noL_ite x1 x2 (fun b => Result.ok (Next.value (.bool b)) w')
  have hmr := fun k d => mayC_iff (k := k) (d := d) (by omega : 1 ≤ i) (by omega : i ≤ 1073741824) hba hbs ho hN
  generalize noL x1 x2 = bn at hmr hite
  have HF : Hid (∀ (b : Bool) (W : World), Below W1.heap.size W1 W → (b = true ↔ MayC k d ba bs o bn) → MayIs w ⟨k, ls, (x1, x2), d, i⟩ (.returned (.bool b)) W) := fun b W hb he => ⟨b, he.trans (hmr k d).symm, rfl, hb1.trans (hb.mono hb1.size)⟩
  have HM : Hid (∀ b : Bool, (b = true ↔ MayL ls) → b = ba) := fun b hb => by
    have := hb.trans hba.symm
    cases b <;> cases ba <;> simp_all
  have r1 := Below.refl W1.heap.size W1
  clear hmr hN ho hba hbs hn hcell hb1
  by_cases k1 : k ≤ 0
  · (go_enter Tryz.func28, Tryz.ntmps28; (go_wp2; go_ret; refine HF.out _ _ r1 ?_; unfold MayC; simp; try omega))
  by_cases k2 : k ≤ 1
  · have k1' : 1 ≤ k := by omega
    go_enter Tryz.func28, Tryz.ntmps28
    go_wp2_with fail
    refine hC.out.mono ?_
    rintro en w2 ⟨b, hb, rfl, q, rfl⟩
    obtain rfl := HM.out b hb
    clear hb hC
    have hb2 := below_d r1 q
    replace c3 : (W1.drewN q).cell? ⟨w.heap.size, 4, none⟩ = _ := c3
    cases b with
    | false => (go_wp2; go_ret; refine HF.out _ _ hb2 ?_; unfold MayC; simp; try omega)
    | true => 
      cases bn with
      | false => (go_wp2; go_ret; refine HF.out _ _ hb2 ?_; unfold MayC; simp; try omega)
      | true =>
      by_cases d0 : 0 < d
      · (go_wp2; go_ret; refine HF.out _ _ hb2 ?_; unfold MayC; simp; try omega)
      by_cases d1 : d < 0
      · (go_wp2; go_ret; refine HF.out _ _ hb2 ?_; unfold MayC; simp; try omega)
      obtain rfl : d = 0 := by omega
      (go_wp2; go_ret; refine HF.out _ _ hb2 ?_; unfold MayC; simp; try omega)
  by_cases k3 : k ≤ 2
  · have k1' : 2 ≤ k := by omega
    go_enter Tryz.func28, Tryz.ntmps28
    go_wp2_with fail
    refine hC.out.mono ?_
    rintro en w2 ⟨b, hb, rfl, q, rfl⟩
    obtain rfl := HM.out b hb
    clear hb hC
    have hb2 := below_d r1 q
    replace c3 : (W1.drewN q).cell? ⟨w.heap.size, 4, none⟩ = _ := c3
    cases b with
    | false => (go_wp2; go_ret; refine HF.out _ _ hb2 ?_; unfold MayC; simp; try omega)
    | true => 
      cases bn with
      | false => (go_wp2; go_ret; refine HF.out _ _ hb2 ?_; unfold MayC; simp; try omega)
      | true =>
      by_cases d0 : 0 < d
      · (go_wp2; go_ret; refine HF.out _ _ hb2 ?_; unfold MayC; simp; try omega)
      by_cases d1 : d < 0
      · (go_wp2; go_ret; refine HF.out _ _ hb2 ?_; unfold MayC; simp; try omega)
      obtain rfl : d = 0 := by omega
      (go_wp2; go_ret; refine HF.out _ _ hb2 ?_; unfold MayC; simp; try omega)
  by_cases k4 : k ≤ 3
  · have k1' : 3 ≤ k := by omega
    rcases hbn with ⟨rfl, hn0⟩ | ⟨rfl, hn0⟩
    rotate_left
    · (go_enter Tryz.func28, Tryz.ntmps28; (go_wp2; go_ret; refine HF.out _ _ r1 ?_; unfold MayC; simp; try omega))
    · go_enter Tryz.func28, Tryz.ntmps28
      go_wp2_with fail
      refine hR.out.mono ?_
      rintro en w2 ⟨rfl, hb2⟩
      replace c3 := (hb2.cell hs1).trans c3
      cases o with
      | false => (go_wp2; go_ret; refine HF.out _ _ hb2 ?_; unfold MayC; simp; try omega)
      | true => 
        by_cases d0 : 0 < d
        · (go_wp2; go_ret; refine HF.out _ _ hb2 ?_; unfold MayC; simp; try omega)
        by_cases d1 : d < 0
        · (go_wp2; go_ret; refine HF.out _ _ hb2 ?_; unfold MayC; simp; try omega)
        obtain rfl : d = 0 := by omega
        (go_wp2; go_ret; refine HF.out _ _ hb2 ?_; unfold MayC; simp; try omega)
  by_cases k5 : k ≤ 4
  · have k1' : 4 ≤ k := by omega
    rcases hbn with ⟨rfl, hn0⟩ | ⟨rfl, hn0⟩
    rotate_left
    · (go_enter Tryz.func28, Tryz.ntmps28; (go_wp2; go_ret; refine HF.out _ _ r1 ?_; unfold MayC; simp; try omega))
    · go_enter Tryz.func28, Tryz.ntmps28
      go_wp2_with fail
      refine hR.out.mono ?_
      rintro en w2 ⟨rfl, hb2⟩
      replace c3 := (hb2.cell hs1).trans c3
      cases o with
      | false => (go_wp2; go_ret; refine HF.out _ _ hb2 ?_; unfold MayC; simp; try omega)
      | true => 
        by_cases d1 : d < 0
        · (go_wp2; go_ret; refine HF.out _ _ hb2 ?_; unfold MayC; simp; try omega)
        by_cases d0 : 2147483647 < d
        · (go_wp2; go_ret; refine HF.out _ _ hb2 ?_; unfold MayC; simp; try omega)
        (go_wp2; go_ret; refine HF.out _ _ hb2 ?_; unfold MayC; simp; try omega)
  by_cases k6 : k ≤ 5
  · obtain rfl : k = 5 := by omega
    rcases hbn with ⟨rfl, hn0⟩ | ⟨rfl, hn0⟩
    rotate_left
    · (go_enter Tryz.func28, Tryz.ntmps28; (go_wp2; go_ret; refine HF.out _ _ r1 ?_; unfold MayC; simp; try omega))
    · cases bn with
      | false => (go_enter Tryz.func28, Tryz.ntmps28; (go_wp2; go_ret; refine HF.out _ _ r1 ?_; unfold MayC; simp; try omega))
      | true =>
      by_cases d0 : 0 < d
      · (go_enter Tryz.func28, Tryz.ntmps28; (go_wp2; go_ret; refine HF.out _ _ r1 ?_; unfold MayC; simp; try omega))
      by_cases d1 : d < 0
      · (go_enter Tryz.func28, Tryz.ntmps28; (go_wp2; go_ret; refine HF.out _ _ r1 ?_; unfold MayC; simp; try omega))
      obtain rfl : d = 0 := by omega
      (go_enter Tryz.func28, Tryz.ntmps28; (go_wp2; go_ret; refine HF.out _ _ r1 ?_; unfold MayC; simp; try omega))
  · (go_enter Tryz.func28, Tryz.ntmps28; (go_wp2; go_ret; refine HF.out _ _ r1 ?_; unfold MayC; simp; try omega))
end Go.Proofs.YtpjiioeodcinpaaGreatDoor
