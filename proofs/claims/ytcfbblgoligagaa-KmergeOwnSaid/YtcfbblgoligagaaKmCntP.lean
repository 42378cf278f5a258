/-
  Things that are counted while they are told, rising: plain lists; a round within a round.
-/
import Derived.Test.YtcfbblgoligagaaKmPlain
import Derived.Test.YtcfbblgoligagaaRange
namespace Go.Proofs.Ytcfbblgoligagaa

section
variable {β κ : Type} [DecidableEq κ] {key : β → κ}
/-- What was told and how often, as keys. -/
def tk (key : β → κ) (y : β × Nat) : κ × Nat := (key y.1, y.2)
/-- pre has been gone through: op told, a counted m times. -/
structure CntI (key : β → κ) (K : List κ) (op : List (β × Nat)) (a : β) (m : Nat) (pre : List β) : Prop where
  out : (m = 0 ∧ pre = [] ∧ op = []) ∨ (1 ≤ m ∧ m ≤ pre.length ∧ ∃ rest, K = pre.map key ++ rest ∧ op.map (tk key) ++ runsA (key a) m rest = runs K)
variable {K : List κ} {op : List (β × Nat)} {a x : β} {m : Nat} {pre : List β}
theorem CntI.start (a : β) : CntI key K [] a 0 [] := ⟨.inl ⟨rfl, rfl, rfl⟩⟩
theorem CntI.first (h : CntI key K op a 0 pre) (hp : (pre.map key ++ [key x]) <+: K) : CntI key K op x 1 (pre ++ [x]) := by
  rcases h.out with ⟨-, rfl, rfl⟩ | ⟨h0, -⟩
  · obtain ⟨rest, hr⟩ := hp
    refine ⟨.inr ⟨by omega, by simp, rest, ?_, ?_⟩⟩
    · rw [← hr]; simp
    · rw [← hr]; simp [runs]
  · omega
theorem CntI.split (h : CntI key K op a m pre) (hm : 1 ≤ m) (hp : (pre.map key ++ [key x]) <+: K) : ∃ rest, K = (pre ++ [x]).map key ++ rest ∧ op.map (tk key) ++ runsA (key a) m (key x :: rest) = runs K := by
  rcases h.out with ⟨h0, -⟩ | ⟨-, -, rest, h1, h2⟩
  · omega
  · obtain ⟨r2, hr⟩ := hp
    have e : rest = key x :: r2 := by
      rw [h1, List.append_assoc] at hr
      exact (List.append_cancel_left hr).symm
    subst e
    exact ⟨r2, by rw [h1]; simp, h2⟩
theorem CntI.le (h : CntI key K op a m pre) : m ≤ pre.length := by
  rcases h.out with ⟨h0, -⟩ | ⟨-, h1, -⟩ <;> omega
theorem CntI.same (h : CntI key K op a m pre) (hm : 1 ≤ m) (hp : (pre.map key ++ [key x]) <+: K) (he : key a = key x) : CntI key K op x (m + 1) (pre ++ [x]) := by
  obtain ⟨rest, h1, h2⟩ := h.split hm hp
  refine ⟨.inr ⟨by omega, by have := h.le; simp; omega, rest, h1, ?_⟩⟩
  have e : runsA (key a) m (key x :: rest) = runsA (key x) (m + 1) rest := by rw [he]; simp [runsA]
  rw [← h2, e]
theorem CntI.other (h : CntI key K op a m pre) (hm : 1 ≤ m) (hp : (pre.map key ++ [key x]) <+: K) (he : key a ≠ key x) :
    (op.map (tk key) ++ [tk key (a, m)]) <+: runs K ∧ CntI key K (op ++ [(a, m)]) x 1 (pre ++ [x]) := by
  obtain ⟨rest, h1, h2⟩ := h.split hm hp
  have e : runsA (key a) m (key x :: rest) = (key a, m) :: runsA (key x) 1 rest := by
    show (if key x = key a then _ else _) = _
    rw [if_neg (Ne.symm he)]
  rw [e] at h2
  refine ⟨?_, ⟨.inr ⟨by omega, by simp, rest, h1, ?_⟩⟩⟩
  · rw [← h2]
    exact ⟨runsA (key x) 1 rest, by simp [tk]⟩
  · rw [← h2]; simp [tk]
theorem CntI.done (h : CntI key K op a m pre) (hK : pre.map key = K) : (m = 0 ∧ op.map (tk key) = runs K) ∨ (1 ≤ m ∧ op.map (tk key) ++ [tk key (a, m)] = runs K) := by
  rcases h.out with ⟨h0, rfl, rfl⟩ | ⟨h0, -, rest, h1, h2⟩
  · refine .inl ⟨h0, ?_⟩
    rw [← hK]; rfl
  · have e : rest = [] := by
      rw [hK] at h1
      have := congrArg List.length h1
      simp at this
      exact this
    subst e
    exact .inr ⟨h0, h2⟩
end
open Go.RowKit
/-- What is told into a round, told out of another one. -/
theorem roundIn_any {n m l2 : Nat} {P : Program} {l : Nat} {f : FuncId} {tmps : Array Value} {assign body : Code} {w : World} {R : Ending → World → Prop} (h : RoundIn Fence.wide n P l f tmps assign body w R) :
    RoundIn (Fence.wide.inRound l2) m P l f tmps assign body w R := ⟨h.1, fun c cs _ => h.2 c cs (room_wide _)⟩
theorem roundIn_w {n m : Nat} {P : Program} {l : Nat} {f : FuncId} {tmps : Array Value} {assign body : Code} {w : World} {R : Ending → World → Prop} (h : RoundIn Fence.wide n P l f tmps assign body w R) :
    RoundIn Fence.wide m P l f tmps assign body w R := ⟨h.1, fun c cs _ => h.2 c cs (room_wide _)⟩
theorem yieldAt_any {n m : Nat} {P : Program} {l : Nat} {args : Array Value} {w : World} {R : Ending → World → Prop} (h : YieldAt Fence.wide n P l args w R) : YieldAt Fence.wide m P l args w R := by
  obtain ⟨fn, tmps, assign, body, h1, h2⟩ := h
  exact ⟨fn, tmps, assign, body, h1, h2.1, fun c cs _ => h2.2 c cs (room_wide _)⟩
end Go.Proofs.Ytcfbblgoligagaa
