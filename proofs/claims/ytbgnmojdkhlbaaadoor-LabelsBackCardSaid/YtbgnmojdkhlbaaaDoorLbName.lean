/-
  Whether a label's name may be: the program's walk, and the document's.
-/
import Derived.Test.YtbgnmojdkhlbaaaDoorLbBase
import Derived.Test.YtbgnmojdkhlbaaaDoorShelf
namespace Go.Proofs.YtbgnmojdkhlbaaaDoor
open Go.RowKit

def nameCh (c : UInt8) : Bool := decide (c.toNat = 95) || (decide (97 ≤ c.toNat) && decide (c.toNat ≤ 122)) || (decide (48 ≤ c.toNat) && decide (c.toNat ≤ 57))
def nameB (s : ByteArray) : Bool := decide (1 ≤ s.size) && decide (s.size ≤ 12) && s.data.toList.all nameCh
def nameCs : List UInt8 := [97, 98, 99, 100, 101, 102, 103, 104, 105, 106, 107, 108, 109, 110, 111, 112, 113, 114, 115, 116, 117, 118, 119, 120, 121, 122, 48, 49, 50, 51, 52, 53, 54, 55, 56, 57, 95]

theorem nameCs_has (c : UInt8) : nameCs.contains c = nameCh c := by
  have h : ∀ n, n < 256 → nameCs.contains (UInt8.ofNat n) = nameCh (UInt8.ofNat n) := by decide +kernel
  have := h c.toNat c.toNat_lt
  simpa using this
theorem trim_all (l : List UInt8) : (Lib.trimS l nameCs).isEmpty = l.all nameCh := by
  have hd : ∀ m : List UInt8, (m.dropWhile (nameCs.contains ·)).isEmpty = m.all nameCh := by
    intro m
    induction m with
    | nil => rfl
    | cons a t ih =>
      rw [List.dropWhile_cons, List.all_cons, nameCs_has]
      cases h : nameCh a
      · rfl
      · simpa using ih
  have ha : ∀ m : List UInt8, (m.dropWhile (nameCs.contains ·)).all nameCh = m.all nameCh := by
    intro m
    induction m with
    | nil => rfl
    | cons a t ih =>
      rw [List.dropWhile_cons, nameCs_has]
      cases h : nameCh a
      · rfl
      · rw [List.all_cons, h]; simpa using ih
  unfold Lib.trimS Lib.trimLeftS Lib.trimRightS
  rw [hd, List.all_reverse, ha, List.all_reverse]

theorem str_empty (l : List UInt8) : (⟨l.toArray⟩ : ByteArray).toList.isEmpty = l.isEmpty := by rw [Lib.toList_data]

set_option maxRecDepth 100000 in
set_option maxHeartbeats 400000 in
theorem Name_any (s : ByteArray) (w : World) (hs : s.size ≤ 9223372036854775807) :
    Calls Tryd.prog 16 #[.string s] w (Gives w (.bool (nameB s))) := by
  have hT := Any.strings_Trim_laid Tryd.lays160 (by kernel_rfl) s ⟨nameCs.toArray⟩ w hs (by decide) (ascii_of_all (by decide))
  change Calls Tryd.prog 35 #[.string s, .string ⟨#[97, 98, 99, 100, 101, 102, 103, 104, 105, 106, 107, 108, 109, 110, 111, 112, 113, 114, 115, 116, 117, 118, 119, 120, 121, 122, 48, 49, 50, 51, 52, 53, 54, 55, 56, 57, 95]⟩] w (fun e w' => e = .returned (.string ⟨(Lib.trimS s.data.toList nameCs).toArray⟩) ∧ Below w.heap.size w w') at hT
  have he := str_empty (Lib.trimS s.data.toList nameCs)
  rw [trim_all] at he
  obtain ⟨X, hX⟩ : ∃ X, nameB s = X := ⟨_, rfl⟩
  rw [hX]
  unfold nameB at hX
  generalize (⟨(Lib.trimS s.data.toList nameCs).toArray⟩ : ByteArray) = r at hT he
  generalize s.data.toList.all nameCh = b at he hX
  have HT := Lib.hid hT
  by_cases h1 : 1 ≤ s.size
  · by_cases h2 : s.size ≤ 12
    · rw [decide_eq_true h1, decide_eq_true h2] at hX
      have HX : Hid (X = b) := by unfold Hid; rw [← hX]; rfl
      have h1' : (1 : Int) ≤ (s.size : Int) := by omega
      have h2' : (s.size : Int) ≤ 12 := by omega
      clear hX hT
      cases b
      all_goals
        go_enter Tryd.func16, Tryd.ntmps16
        go_wp2_with fail
        refine HT.out.mono ?_
        rintro e w1 ⟨rfl, hb⟩
        go_wp2
        go_ret
        rw [HX.out]
        exact ⟨rfl, hb⟩
    · rw [decide_eq_true h1, decide_eq_false h2] at hX
      have HX : Hid (X = false) := by unfold Hid; rw [← hX]; rfl
      have h1' : (1 : Int) ≤ (s.size : Int) := by omega
      have h2' : (12 : Int) < (s.size : Int) := by omega
      clear hX hT h2
      go_enter Tryd.func16, Tryd.ntmps16
      go_wp2
      go_ret
      rw [HX.out]
      exact ⟨rfl, Below.refl _ _⟩
  · rw [decide_eq_false h1] at hX
    have HX : Hid (X = false) := by unfold Hid; rw [← hX]; rfl
    have h1' : (s.size : Int) < 1 := by omega
    clear hX hT h1
    go_enter Tryd.func16, Tryd.ntmps16
    go_wp2
    go_ret
    rw [HX.out]
    exact ⟨rfl, Below.refl _ _⟩

theorem all_at {l : List UInt8} {k : Nat} (h : k < l.length) : (l.drop k).all nameCh = (nameCh l[k] && (l.drop (k + 1)).all nameCh) := by
  rw [List.drop_eq_getElem_cons h]
  rfl

set_option maxRecDepth 100000 in
set_option maxHeartbeats 400000 in
theorem RefName_any (s : ByteArray) (w : World) (hs : s.size ≤ 9223372036854775807) :
    Calls Tryd.prog 17 #[.string s] w fun e w' => e = .returned (.bool (nameB s)) ∧ w = w' := by
  obtain ⟨X, hX⟩ : ∃ X, nameB s = X := ⟨_, rfl⟩
  rw [hX]
  unfold nameB at hX
  by_cases h1 : 1 ≤ s.size
  · by_cases h2 : s.size ≤ 12
    · rw [decide_eq_true h1, decide_eq_true h2] at hX
      have HX : Hid (X = s.data.toList.all nameCh) := by unfold Hid; rw [← hX]; rfl
      have h1' : (1 : Int) ≤ (s.size : Int) := by omega
      have h2' : (s.size : Int) ≤ 12 := by omega
      clear hX
      go_enter Tryd.func17, Tryd.ntmps17
      go_wp2
      go_loopg [3] s.size (fun g i wr => ∃ k : Nat, k + g = s.size ∧ i = .int .i64 k ∧ Hid (X = (s.data.toList.drop k).all nameCh) ∧ wr = w)
      case atStart => exact ⟨0, by omega, rfl, HX.out, rfl⟩
      case round =>
        obtain ⟨k, hk, rfl, heq, rfl⟩ := hrel
        by_cases hlt : k < s.size
        · have hstep := Lib.hid (heq.out.trans (all_at (l := s.data.toList) (k := k) (by simpa using hlt)))
          have hsk : Hid (s.data.toList[k]'(by simpa using hlt) = s[k]) := rfl
          rw [hsk.out] at hstep
          have hy : (s[k].toNat = 95 ∨ (97 ≤ s[k].toNat ∧ s[k].toNat ≤ 122)) ∨ (48 ≤ s[k].toNat ∧ s[k].toNat ≤ 57) → Hid (X = (s.data.toList.drop (k + 1)).all nameCh) := fun h => by
            have := hstep.out
            have hc : nameCh s[k] = true := by unfold nameCh; simpa using h
            rw [hc, Bool.true_and] at this
            exact this
          have hno : ¬ ((s[k].toNat = 95 ∨ (97 ≤ s[k].toNat ∧ s[k].toNat ≤ 122)) ∨ (48 ≤ s[k].toNat ∧ s[k].toNat ≤ 57)) → Hid (X = false) := fun h => by
            have := hstep.out
            have hc : nameCh s[k] = false := by
              rw [← Bool.not_eq_true]; intro e; apply h; unfold nameCh at e; simpa using e
            rw [hc, Bool.false_and] at this
            exact this
          have HY := Lib.hid hy
          have HO := Lib.hid hno
          clear hy hno hstep heq
          by_cases h95 : s[k].toNat = 95
          · have hne : ((s[k].toNat : Int) != 95) = false := by rw [bne_eq_false_iff_eq]; omega
            go_wp2
            all_goals first
              | (have hF := HO.out (by omega)
                 go_ret
                 rw [hF.out]
                 exact ⟨rfl, rfl⟩)
              | (have hT := HY.out (by omega)
                 go_roundg (s.size - (k + 1))
                 case measure => omega
                 case rel => exact ⟨k + 1, by omega, by go_num, hT, rfl⟩)
          · have hne : ((s[k].toNat : Int) != 95) = true := by rw [bne_iff_ne]; omega
            go_wp2
            all_goals first
              | (have hF := HO.out (by omega)
                 go_ret
                 rw [hF.out]
                 exact ⟨rfl, rfl⟩)
              | (have hT := HY.out (by omega)
                 go_roundg (s.size - (k + 1))
                 case measure => omega
                 case rel => exact ⟨k + 1, by omega, by go_num, hT, rfl⟩)
        · have HF : Hid (X = true) := by have := heq.out; rw [List.drop_eq_nil_of_le (by simp; omega)] at this; exact this
          clear heq
          go_wp2
          go_ret
          rw [HF.out]
          exact ⟨rfl, rfl⟩
    · rw [decide_eq_true h1, decide_eq_false h2] at hX
      have HX : Hid (X = false) := by unfold Hid; rw [← hX]; rfl
      have h1' : (1 : Int) ≤ (s.size : Int) := by omega
      have h2' : (12 : Int) < (s.size : Int) := by omega
      clear hX h2
      go_enter Tryd.func17, Tryd.ntmps17
      go_wp2
      go_ret
      rw [HX.out]
      exact ⟨rfl, rfl⟩
  · rw [decide_eq_false h1] at hX
    have HX : Hid (X = false) := by unfold Hid; rw [← hX]; rfl
    have h1' : (s.size : Int) < 1 := by omega
    clear hX h1
    go_enter Tryd.func17, Tryd.ntmps17
    go_wp2
    go_ret
    rw [HX.out]
    exact ⟨rfl, rfl⟩
end Go.Proofs.YtbgnmojdkhlbaaaDoor
