/-
  Two files, and their room: plain. No program in sight.
-/
import Derived.Test.YteidkmiladkoiaaDoorSmSwapsP
namespace Go.Proofs.YteidkmiladkoiaaDoor

def rm1 (r : Nat) : FsM := ⟨r, [⟨[], 0⟩], [([97], 0)], [], [[([97], some 0)]], 0⟩
def rm (r : Nat) (a b : Txt) : FsM := ⟨r, [⟨a, 0⟩, ⟨b, 0⟩], [([97], 0), ([98], 1)], [], [[([97], some 0)], [([98], some 1)]], 0⟩
def rz (r : Nat) (a b : Txt) : FsM := ⟨r, [⟨a, 0⟩, ⟨b, 0⟩], [([98], 1)], [], [[([97], some 0)], [([98], some 1)], [([97], none)]], 0⟩
def pth (odd : Bool) : Txt := if odd then [98] else [97]
theorem rme_0 : (FsM.new 0).go (·.create [97]) = (rm1 0, 0) := by kernel_rfl
theorem rme_1 (r : Nat) : (FsM.new r).go (·.create [97]) = (rm1 r, 0) := by kernel_rfl
theorem rme_2 (r : Nat) : (rm1 r).go (·.create [98]) = (rm r [] [], 0) := by kernel_rfl
theorem rm_used (r : Nat) (a b : Txt) : (rm r a b).used = a.length + b.length := by kernel_rfl
theorem rz_used (r : Nat) (a b : Txt) : (rz r a b).used = b.length := by kernel_rfl
theorem append_full {S : FsM} {p b : Txt} {n : Nat} (h0 : S.fuse = 0) (h1 : S.look p = some n) (h2 : (S.file n).b.length + b.length ≤ 1048576) (hb : 0 < b.length) (h3 : S.room < S.used + b.length) : S.go (·.append p b) = (S, 62) := by
  have h4 : S.spent = (S, false) := by unfold FsM.spent; rw [if_pos h0]
  unfold FsM.go
  rw [h4]
  rw [if_neg (by simp)]
  show S.append p b = _
  unfold FsM.append
  rw [h1]
  dsimp only
  rw [if_neg (by omega), if_pos ⟨hb, h3⟩]
theorem append_empty {S : FsM} {p b : Txt} {n : Nat} (h0 : S.fuse = 0) (h1 : S.look p = some n) (h2 : (S.file n).b.length + b.length ≤ 1048576) (hb : b.length = 0) : S.go (·.append p b) = (S.setFile n { S.file n with b := (S.file n).b ++ b }, 0) := by
  have h4 : S.spent = (S, false) := by unfold FsM.spent; rw [if_pos h0]
  unfold FsM.go
  rw [h4]
  rw [if_neg (by simp)]
  show S.append p b = _
  unfold FsM.append
  rw [h1]
  dsimp only
  rw [if_neg (by omega), if_neg (by omega)]
/-- What is put behind one of the two. -/
theorem rm_app (r : Nat) (a b x : Txt) (odd : Bool) (hu : a.length + b.length ≤ r) (hr : r ≤ 3000) (hx : x.length ≤ 300) :
    ∃ a' b' e, (rm r a b).go (·.append (pth odd) x) = (rm r a' b', e) ∧ a'.length + b'.length ≤ r ∧
      (((a.length + b.length + x.length ≤ r ∨ x.length = 0) ∧ e = 0 ∧ a'.length + b'.length = a.length + b.length + x.length) ∨ (¬ a.length + b.length + x.length ≤ r ∧ ¬ x.length = 0 ∧ e = 62 ∧ a'.length + b'.length = a.length + b.length)) := by
  have hU := rm_used r a b
  by_cases hf : a.length + b.length + x.length ≤ r
  · cases odd with
    | false => exact ⟨a ++ x, b, 0, append_is (n := 0) rfl (by kernel_rfl) (by show a.length + _ ≤ _; omega) (by rw [hU]; exact hf), by simp; omega, .inl ⟨.inl hf, rfl, by simp; omega⟩⟩
    | true => exact ⟨a, b ++ x, 0, append_is (n := 1) rfl (by kernel_rfl) (by show b.length + _ ≤ _; omega) (by rw [hU]; exact hf), by simp; omega, .inl ⟨.inl hf, rfl, by simp; omega⟩⟩
  · by_cases h0 : x.length = 0
    · cases odd with
      | false => exact ⟨a ++ x, b, 0, append_empty (n := 0) rfl (by kernel_rfl) (by show a.length + _ ≤ _; omega) h0, by simp; omega, .inl ⟨.inr h0, rfl, by simp; omega⟩⟩
      | true => exact ⟨a, b ++ x, 0, append_empty (n := 1) rfl (by kernel_rfl) (by show b.length + _ ≤ _; omega) h0, by simp; omega, .inl ⟨.inr h0, rfl, by simp; omega⟩⟩
    · refine ⟨a, b, 62, ?_, hu, .inr ⟨hf, h0, rfl, rfl⟩⟩
      have h3 : (rm r a b).room < (rm r a b).used + x.length := by rw [hU]; show r < _; omega
      cases odd with
      | false => exact append_full (n := 0) rfl (by kernel_rfl) (by show a.length + _ ≤ _; omega) (by omega) h3
      | true => exact append_full (n := 1) rfl (by kernel_rfl) (by show b.length + _ ≤ _; omega) (by omega) h3
theorem rme_3 (r : Nat) (a b : Txt) : (rm r a b).go (·.remove [97]) = (rz r a b, 0) := by kernel_rfl
theorem rme_4 (r : Nat) (a b : Txt) : (rz r a b).read [98] = (b, 0) := by kernel_rfl
theorem rme_5 {r : Nat} {a b : Txt} (hr : r ≤ 3000) (z : Txt) (hz : b.length + z.length = r) : (rz r a b).go (·.append [98] z) = (rz r a (b ++ z), 0) :=
  append_is (n := 1) rfl (by kernel_rfl) (by show b.length + _ ≤ _; omega) (by rw [rz_used]; show _ ≤ r; omega)
theorem rmo_1 {r : Nat} (hr : r ≤ 3000) : FsOk 4 (rm1 r) := by have := go_ok (FsOk.new (r := r) (by omega)) (act := (·.create [97])) (M := 4) (fun T h => h.create _) (by omega); rwa [rme_1] at this
theorem rmo_2 {r : Nat} (hr : r ≤ 3000) : FsOk 8 (rm r [] []) := by have := go_ok (rmo_1 hr) (act := (·.create [98])) (M := 8) (fun T h => h.create _) (by omega); rwa [rme_2] at this
theorem rmo_3 {r : Nat} {a b : Txt} (hr : r ≤ 3000) (ha : a.length ≤ 3000) (hb : b.length ≤ 3000) : FsOk 8 (rm r a b) := ((rmo_2 hr).setFile 0 (x := ⟨a, 0⟩) (Nat.zero_le _) (by show a.length ≤ _; omega)).setFile 1 (x := ⟨b, 0⟩) (Nat.zero_le _) (by show b.length ≤ _; omega)
theorem rmo_4 {r : Nat} {a b : Txt} (hr : r ≤ 3000) (ha : a.length ≤ 3000) (hb : b.length ≤ 3000) : FsOk 10 (rz r a b) := by have := go_ok (rmo_3 hr ha hb) (act := (·.remove [97])) (M := 10) (fun T h => h.remove _) (by omega); rwa [rme_3] at this
theorem rmo_5 {r : Nat} {a b z : Txt} (hr : r ≤ 3000) (ha : a.length ≤ 3000) (hb : (b ++ z).length ≤ 3000) : FsOk 10 (rz r a (b ++ z)) := rmo_4 hr ha hb
end Go.Proofs.YteidkmiladkoiaaDoor
