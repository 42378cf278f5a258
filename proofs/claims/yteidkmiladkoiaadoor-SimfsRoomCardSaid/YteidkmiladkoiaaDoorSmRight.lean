/-
  Whether a path may be: the program's walk.
-/
import Derived.Test.YteidkmiladkoiaaDoorSmChange
namespace Go.Proofs.YteidkmiladkoiaaDoor
open Go.RowKit

def nameCs : List UInt8 := [97, 98, 99, 100, 101, 102, 103, 104, 105, 106, 107, 108, 109, 110, 111, 112, 113, 114, 115, 116, 117, 118, 119, 120, 121, 122, 48, 49, 50, 51, 52, 53, 54, 55, 56, 57, 46, 47]
def nameB (s : ByteArray) : Bool := decide (1 ≤ s.size) && decide (s.size ≤ 24) && s.data.toList.all FsM.rightC
theorem nameCs_has (c : UInt8) : nameCs.contains c = FsM.rightC c := by
  have h : ∀ n, n < 256 → nameCs.contains (UInt8.ofNat n) = FsM.rightC (UInt8.ofNat n) := by decide +kernel
  have := h c.toNat c.toNat_lt
  simpa using this
theorem trim_all (l : List UInt8) : (Lib.trimS l nameCs).isEmpty = l.all FsM.rightC := by
  have hd : ∀ m : List UInt8, (m.dropWhile (nameCs.contains ·)).isEmpty = m.all FsM.rightC := by
    intro m
    induction m with
    | nil => rfl
    | cons a t ih =>
      rw [List.dropWhile_cons, List.all_cons, nameCs_has]
      cases h : FsM.rightC a
      · rfl
      · simpa using ih
  have ha : ∀ m : List UInt8, (m.dropWhile (nameCs.contains ·)).all FsM.rightC = m.all FsM.rightC := by
    intro m
    induction m with
    | nil => rfl
    | cons a t ih =>
      rw [List.dropWhile_cons, nameCs_has]
      cases h : FsM.rightC a
      · rfl
      · rw [List.all_cons, h]; simpa using ih
  unfold Lib.trimS Lib.trimLeftS Lib.trimRightS
  rw [hd, List.all_reverse, ha, List.all_reverse]

theorem str_empty (l : List UInt8) : (⟨l.toArray⟩ : ByteArray).toList.isEmpty = l.isEmpty := by rw [Lib.toList_data]

set_option maxRecDepth 100000 in
set_option maxHeartbeats 400000 in
theorem right_str (s : ByteArray) (w : World) (hs : s.size ≤ 9223372036854775807) :
    Calls Tryd.prog 21 #[.string s] w (Gives w (.bool (nameB s))) := by
  have hT := Any.strings_Trim_laid Tryd.lays160 (by kernel_rfl) s ⟨nameCs.toArray⟩ w hs (by decide) (ascii_of_all (by decide))
  change Calls Tryd.prog 31 #[.string s, .string ⟨#[97, 98, 99, 100, 101, 102, 103, 104, 105, 106, 107, 108, 109, 110, 111, 112, 113, 114, 115, 116, 117, 118, 119, 120, 121, 122, 48, 49, 50, 51, 52, 53, 54, 55, 56, 57, 46, 47]⟩] w (fun e w' => e = .returned (.string ⟨(Lib.trimS s.data.toList nameCs).toArray⟩) ∧ Below w.heap.size w w') at hT
  have he := str_empty (Lib.trimS s.data.toList nameCs)
  rw [trim_all] at he
  obtain ⟨X, hX⟩ : ∃ X, nameB s = X := ⟨_, rfl⟩
  rw [hX]
  unfold nameB at hX
  generalize (⟨(Lib.trimS s.data.toList nameCs).toArray⟩ : ByteArray) = r at hT he
  generalize s.data.toList.all FsM.rightC = b at he hX
  have HT := Lib.hid hT
  by_cases h1 : 1 ≤ s.size
  · by_cases h2 : s.size ≤ 24
    · rw [decide_eq_true h1, decide_eq_true h2] at hX
      have HX : Hid (X = b) := by unfold Hid; rw [← hX]; rfl
      have h1' : (1 : Int) ≤ (s.size : Int) := by omega
      have h2' : (s.size : Int) ≤ 24 := by omega
      clear hX hT
      cases b
      all_goals
        go_enter Tryd.func21, Tryd.ntmps21
        go_wp2_with fail
        refine HT.out.mono ?_
        rintro e w1 ⟨rfl, hb⟩
        go_wp2
        go_ret
        rw [HX.out]
        exact ⟨rfl, hb⟩
    · rw [decide_eq_true h1, decide_eq_false h2] at hX
      have HX : Hid (X = false) := by unfold Hid; rw [← hX]; rfl
      have h1' : (1 : Int) ≤ (s.size : Int) := by omega
      have h2' : (24 : Int) < (s.size : Int) := by omega
      clear hX hT h2
      go_enter Tryd.func21, Tryd.ntmps21
      go_wp2
      go_ret
      rw [HX.out]
      exact ⟨rfl, Below.refl _ _⟩
  · rw [decide_eq_false h1] at hX
    have HX : Hid (X = false) := by unfold Hid; rw [← hX]; rfl
    have h1' : (s.size : Int) < 1 := by omega
    clear hX hT h1
    go_enter Tryd.func21, Tryd.ntmps21
    go_wp2
    go_ret
    rw [HX.out]
    exact ⟨rfl, Below.refl _ _⟩

theorem right_strOf (p : Txt) : nameB (strOf p) = FsM.right p := by
  have h1 : (strOf p).size = p.length := by simp [strOf, ByteArray.size]
  unfold nameB FsM.right
  rw [h1]
  rfl
theorem right_any (p : Txt) (w : World) (hp : p.length ≤ 1000000) : Calls Tryd.prog 21 #[.string (strOf p)] w (Gives w (.bool (FsM.right p))) := by
  have h1 : (strOf p).size = p.length := by simp [strOf, ByteArray.size]
  rw [← right_strOf]
  exact right_str (strOf p) w (by omega)
end Go.Proofs.YteidkmiladkoiaaDoor
