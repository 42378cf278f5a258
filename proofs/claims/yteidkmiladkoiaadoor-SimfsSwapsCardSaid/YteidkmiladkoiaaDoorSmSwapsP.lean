/-
  Files that a law makes: plain. No program in sight.
-/
import Derived.Test.YteidkmiladkoiaaDoorSmAwake
namespace Go.Proofs.YteidkmiladkoiaaDoor

def nmL : Txt := [108, 105, 115, 116]
def nmT : Txt := [108, 105, 115, 116, 46, 116, 109, 112]
def sw1 : FsM := ⟨100000, [⟨[], 0⟩], [(nmL, 0)], [], [[(nmL, some 0)]], 0⟩
def sw2 (a : Txt) : FsM := ⟨100000, [⟨a, 0⟩], [(nmL, 0)], [], [[(nmL, some 0)]], 0⟩
def sw3 (a : Txt) : FsM := ⟨100000, [⟨a, a.length⟩], [(nmL, 0)], [], [[(nmL, some 0)]], 0⟩
def sw4 (a : Txt) : FsM := ⟨100000, [⟨a, a.length⟩], [(nmL, 0)], [(nmL, 0)], [], 0⟩
def sw5 (a : Txt) : FsM := ⟨100000, [⟨a, a.length⟩, ⟨[], 0⟩], [(nmL, 0), (nmT, 1)], [(nmL, 0)], [[(nmT, some 1)]], 0⟩
def sw6 (a b : Txt) : FsM := ⟨100000, [⟨a, a.length⟩, ⟨b, 0⟩], [(nmL, 0), (nmT, 1)], [(nmL, 0)], [[(nmT, some 1)]], 0⟩
def sw7 (a b : Txt) : FsM := ⟨100000, [⟨a, a.length⟩, ⟨b, b.length⟩], [(nmL, 0), (nmT, 1)], [(nmL, 0)], [[(nmT, some 1)]], 0⟩
def swC : List (List Giv) := [[(nmT, some 1)], [(nmT, none), (nmL, some 1)]]
def sw8 (a b : Txt) : FsM := ⟨100000, [⟨a, a.length⟩, ⟨b, b.length⟩], [(nmL, 1)], [(nmL, 0)], swC, 0⟩
theorem append_is {S : FsM} {p b : Txt} {n : Nat} (h0 : S.fuse = 0) (h1 : S.look p = some n) (h2 : (S.file n).b.length + b.length ≤ 1048576) (h3 : S.used + b.length ≤ S.room) : S.go (·.append p b) = (S.setFile n { S.file n with b := (S.file n).b ++ b }, 0) := by
  have h4 : S.spent = (S, false) := by unfold FsM.spent; rw [if_pos h0]
  unfold FsM.go
  rw [h4]
  rw [if_neg (by simp)]
  show S.append p b = _
  unfold FsM.append
  rw [h1]
  dsimp only
  rw [if_neg (by omega), if_neg (by omega)]
theorem swe_1 : (FsM.new 100000).go (·.create nmL) = (sw1, 0) := by kernel_rfl
theorem swe_2 {a : Txt} (h : a.length ≤ 200) : sw1.go (·.append nmL a) = (sw2 a, 0) := by
  have h1 : sw1.used = 0 := by kernel_rfl
  rw [append_is (n := 0) rfl (by kernel_rfl) (by show 0 + a.length ≤ _; omega) (by rw [h1]; show 0 + a.length ≤ 100000; omega)]
  rfl
theorem swe_3 (a : Txt) : (sw2 a).go (·.sync nmL) = (sw3 a, 0) := by kernel_rfl
theorem swe_4 (a : Txt) : (sw3 a).go (fun S => (S.settle, 0)) = (sw4 a, 0) := by kernel_rfl
theorem swe_5 (a : Txt) : (sw4 a).go (·.create nmT) = (sw5 a, 0) := by kernel_rfl
theorem swe_6 {a b : Txt} (h : a.length ≤ 200) (hb : b.length ≤ 200) : (sw5 a).go (·.append nmT b) = (sw6 a b, 0) := by
  have h1 : (sw5 a).used = a.length := by kernel_rfl
  rw [append_is (n := 1) rfl (by kernel_rfl) (by show 0 + b.length ≤ _; omega) (by rw [h1]; show a.length + b.length ≤ 100000; omega)]
  rfl
theorem swe_7 (a b : Txt) : (sw6 a b).go (·.sync nmT) = (sw7 a b, 0) := by kernel_rfl
theorem swe_8 (a b : Txt) : (sw7 a b).go (·.rename nmT nmL) = (sw8 a b, 0) := by kernel_rfl
theorem swe_9 (a b : Txt) : (sw8 a b).read nmL = (b, 0) := by kernel_rfl
theorem cut_full (a : Txt) (n : Nat) : FsM.cut ⟨a, a.length⟩ n = ⟨a, a.length⟩ := by simp [FsM.cut]
def sw9 (a b : Txt) (d : Dir) : FsM := ⟨100000, [⟨a, a.length⟩, ⟨b, b.length⟩], d, d, [], 0⟩
theorem sw_crash (a b : Txt) (n k : Nat) : (sw8 a b).crash n k = sw9 a b ((swC.take n).foldl againD [(nmL, 0)]) := by
  show FsM.mk 100000 [FsM.cut ⟨a, a.length⟩ k, FsM.cut ⟨b, b.length⟩ k] _ _ [] 0 = _
  rw [cut_full, cut_full]
  rfl
/-- Behind a crash: which bytes; whether the other name is there. -/
theorem swe_10 (a b : Txt) (N : Int) (k : Nat) : ∃ (x : Txt) (e : Nat) (y : Txt), ((sw8 a b).crash N.toNat k).read nmL = (x, 0) ∧ ((sw8 a b).crash N.toNat k).read nmT = (y, e) ∧
    ((2 ≤ N ∧ x = b ∧ e = 60) ∨ (N = 1 ∧ x = a ∧ e = 0) ∨ (N < 1 ∧ x = a ∧ e = 60)) := by
  rw [sw_crash]
  by_cases h2 : 2 ≤ N
  · have e : swC.take N.toNat = swC := List.take_of_length_le (by show 2 ≤ _; omega)
    rw [e]
    exact ⟨b, 60, [], by kernel_rfl, by kernel_rfl, .inl ⟨h2, rfl, rfl⟩⟩
  · by_cases h1 : N = 1
    · subst h1
      exact ⟨a, 0, b, by kernel_rfl, by kernel_rfl, .inr (.inl ⟨rfl, rfl, rfl⟩)⟩
    · have e : N.toNat = 0 := by omega
      rw [e]
      exact ⟨a, 60, [], by kernel_rfl, by kernel_rfl, .inr (.inr ⟨by omega, rfl, rfl⟩)⟩
theorem swo_0 : FsOk 0 (FsM.new 100000) := FsOk.new (by omega)
theorem swo_1 : FsOk 4 sw1 := by have := go_ok swo_0 (act := (·.create nmL)) (M := 4) (fun T h => h.create _) (by omega); rwa [swe_1] at this
theorem swo_2 {a : Txt} (h : a.length ≤ 200) : FsOk 4 (sw2 a) := by have := go_ok swo_1 (act := (·.append nmL a)) (fun T h => h.append _ _) (Nat.le_refl _); rwa [swe_2 h] at this
theorem swo_3 {a : Txt} (h : a.length ≤ 200) : FsOk 4 (sw3 a) := by have := go_ok (swo_2 h) (act := (·.sync nmL)) (fun T h => h.sync _) (Nat.le_refl _); rwa [swe_3] at this
theorem swo_4 {a : Txt} (h : a.length ≤ 200) : FsOk 4 (sw4 a) := by have := go_ok (swo_3 h) (act := (fun S => (S.settle, 0))) (fun T h => h.settle) (Nat.le_refl _); rwa [swe_4] at this
theorem swo_5 {a : Txt} (h : a.length ≤ 200) : FsOk 8 (sw5 a) := by have := go_ok (swo_4 h) (act := (·.create nmT)) (M := 8) (fun T h => h.create _) (by omega); rwa [swe_5] at this
theorem swo_6 {a b : Txt} (h : a.length ≤ 200) (hb : b.length ≤ 200) : FsOk 8 (sw6 a b) := by have := go_ok (swo_5 h) (act := (·.append nmT b)) (fun T h => h.append _ _) (Nat.le_refl _); rwa [swe_6 h hb] at this
theorem swo_7 {a b : Txt} (h : a.length ≤ 200) (hb : b.length ≤ 200) : FsOk 8 (sw7 a b) := by have := go_ok (swo_6 h hb) (act := (·.sync nmT)) (fun T h => h.sync _) (Nat.le_refl _); rwa [swe_7] at this
theorem swo_8 {a b : Txt} (h : a.length ≤ 200) (hb : b.length ≤ 200) : FsOk 10 (sw8 a b) := by have := go_ok (swo_7 h hb) (act := (·.rename nmT nmL)) (M := 10) (fun T h => h.rename _ _) (by omega); rwa [swe_8] at this
theorem swo_9 {a b : Txt} (h : a.length ≤ 200) (hb : b.length ≤ 200) (n k : Nat) : FsOk 10 ((sw8 a b).crash n k) := (swo_8 h hb).crash n k
end Go.Proofs.YteidkmiladkoiaaDoor
