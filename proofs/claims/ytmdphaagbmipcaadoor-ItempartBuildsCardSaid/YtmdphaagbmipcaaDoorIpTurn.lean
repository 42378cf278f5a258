/-
  A bit of a byte turned; the file of items begins no other file: plain.
-/
import Derived.Test.YtmdphaagbmipcaaDoorIpAwake
namespace Go.Proofs.YtmdphaagbmipcaaDoor
open Go.RowKit

theorem and65535 (x : Int) : bits .and .i64 x 65535 = x % 65536 := by
  have e1 : (BitVec.ofInt 64 x).toNat % 65536 = (x % 65536).toNat := by
    rw [BitVec.toNat_ofInt]
    omega
  have hn : (BitVec.ofInt 64 x &&& BitVec.ofInt 64 65535).toNat = (x % 65536).toNat := by
    rw [BitVec.toNat_and, show (BitVec.ofInt 64 65535).toNat = 65535 from by decide, show (65535 : Nat) = 2 ^ 16 - 1 from by omega, Nat.and_two_pow_sub_one_eq_mod]
    exact e1
  show IntKind.i64.wrap ((BitVec.ofInt 64 x &&& BitVec.ofInt 64 65535).toNat : Int) = _
  rw [hn, IntKind.wrap_i64]
  omega

theorem turn_byte (y bit : UInt8) : ∃ x : UInt8, bits .xor .u8 (y.toNat : Int) (2 ^ (bit.toNat % 8) % 256) = (x.toNat : Int) ∧ x ≠ y := by
  have hs : bit.toNat % 8 < 8 := Nat.mod_lt _ (by omega)
  generalize bit.toNat % 8 = s at hs
  have hp : 2 ^ s < 256 := Nat.lt_of_lt_of_le (Nat.pow_lt_pow_right (by omega) hs) (by omega)
  have hy := y.toNat_lt
  have hpos : 0 < 2 ^ s := Nat.pow_pos (by omega)
  have e : bits .xor .u8 (y.toNat : Int) ((2 : Int) ^ s % 256) = ((y.toNat ^^^ 2 ^ s : Nat) : Int) := by
    have h1 : ((2 : Int) ^ s % 256) = ((2 ^ s : Nat) : Int) := by
      rw [show (2 : Int) ^ s = ((2 ^ s : Nat) : Int) from by simp]
      omega
    rw [h1]
    exact u8_xor_nat _ _ (by omega) hp
  have hlt : y.toNat ^^^ 2 ^ s < 256 := Nat.xor_lt_two_pow (n := 8) (by omega) (by omega)
  refine ⟨UInt8.ofNat (y.toNat ^^^ 2 ^ s), ?_, fun h => ?_⟩
  · rw [u8_nat _ hlt]
    exact e
  · have h2 := congrArg UInt8.toNat h
    rw [u8_nat _ hlt] at h2
    have h3 := congrArg (y.toNat ^^^ ·) h2
    simp only [← Nat.xor_assoc, Nat.xor_self, Nat.zero_xor] at h3
    omega

theorem OwnB.stored {w : World} {base g n c : Nat} {l : List UInt8} (h : w.ownsRow base 5 1 (.slice (some ⟨g, 0, none⟩) n c) n (bv l)) (hn : l.length = n) (k : Nat) (x : UInt8) :
    OwnB (w.setCell ⟨g, k, none⟩ (.int .u8 (x.toNat : Int))) base (.slice (some ⟨g, 0, none⟩) n c) (l.set k x) := by
  have h2 := World.ownsRow.stored h k (.int .u8 (x.toNat : Int))
  unfold OwnB
  rw [List.length_set, hn, show bv (l.set k x) = (bv l).set k (.int .u8 (x.toNat : Int)) from by simp [bv, List.map_set]]
  exact h2.1


theorem outs_cons (o : List Item) (t : List (List Item)) (R : List UInt8) : outs (o :: t) ++ R = makeK 1 (packB o) ++ (outs t ++ R) := by
  show frB o ++ outs t ++ R = _
  unfold frB
  rw [frameOf_makeK 1 _ 1 rfl, List.append_assoc]
theorem frames_alone (T T' P P' : List UInt8) (hT : T.length ≤ 65535) (hT' : T'.length ≤ 65535) : ∀ (bl bl' : List (List Item)), (∀ o ∈ bl, checkN o = 0) → (∀ o ∈ bl', checkN o = 0) →
    outs bl ++ (makeK 2 T ++ P) = outs bl' ++ (makeK 2 T' ++ P') → P = P'
  | [], [], _, _, h => by
    have h1 := fnext_make 2 T P hT
    have h2 := fnext_make 2 T' P' hT'
    have h' : makeK 2 T ++ P = makeK 2 T' ++ P' := h
    rw [h', h2] at h1
    injection h1 with _ h1
    injection h1 with _ h1
    injection h1 with h1 _
    exact h1.symm
  | [], o :: t, _, hc, h => by
    exfalso
    have h1 := fnext_make 2 T P hT
    have h2 := fnext_make 1 (packB o) (outs t ++ (makeK 2 T' ++ P')) (by have := (packB_len2 (hc o (by simp))).2; omega)
    have h' : makeK 2 T ++ P = makeK 1 (packB o) ++ (outs t ++ (makeK 2 T' ++ P')) := by
      rw [← outs_cons]; exact h
    rw [h', h2] at h1
    injection h1 with h1 _
    exact absurd h1 (by decide)
  | o :: t, [], hc, _, h => by
    exfalso
    have h1 := fnext_make 2 T' P' hT'
    have h2 := fnext_make 1 (packB o) (outs t ++ (makeK 2 T ++ P)) (by have := (packB_len2 (hc o (by simp))).2; omega)
    have h' : makeK 1 (packB o) ++ (outs t ++ (makeK 2 T ++ P)) = makeK 2 T' ++ P' := by
      rw [← outs_cons]; exact h
    rw [h', h1] at h2
    injection h2 with h2 _
    exact absurd h2 (by decide)
  | o :: t, o' :: t', hc, hc', h => by
    have h1 := fnext_make 1 (packB o) (outs t ++ (makeK 2 T ++ P)) (by have := (packB_len2 (hc o (by simp))).2; omega)
    have h2 := fnext_make 1 (packB o') (outs t' ++ (makeK 2 T' ++ P')) (by have := (packB_len2 (hc' o' (by simp))).2; omega)
    have h' : makeK 1 (packB o) ++ (outs t ++ (makeK 2 T ++ P)) = makeK 1 (packB o') ++ (outs t' ++ (makeK 2 T' ++ P')) := by
      rw [← outs_cons, ← outs_cons]; exact h
    rw [h', h2] at h1
    injection h1 with _ h1
    injection h1 with _ h1
    injection h1 with h1 _
    exact frames_alone T T' P P' hT hT' t t' (fun y hy => hc y (by simp [hy])) (fun y hy => hc' y (by simp [hy])) h1.symm
/-- No file of items goes on from another's. -/
theorem file_alone {ls ls' : List Item} {t : List UInt8} (h : buildE ls = 0) (h' : buildE ls' = 0) (e : fileB ls' ++ t = fileB ls) : t = [] := by
  obtain ⟨-, -, h3, h4⟩ := buildE_ok h
  obtain ⟨-, -, k3, k4⟩ := buildE_ok h'
  unfold fileB at e
  rw [frameOf_makeK 2 _ 2 rfl, frameOf_makeK 2 _ 2 rfl, List.append_assoc, List.append_assoc, List.append_assoc] at e
  have := frames_alone _ _ _ _ k4 h4 _ _ (blk_checks k3) (blk_checks h3) e
  have hl := congrArg List.length this
  have e4 : ∀ m, (place4 m).length = 4 := fun m => by unfold place4 tail4; rfl
  rw [List.length_append, e4, e4] at hl
  exact List.eq_nil_of_length_eq_zero (by omega)
theorem open_cut {ls : List Item} (h : buildE ls = 0) {k : Nat} (hk : k < (fileB ls).length) : openB ((fileB ls).take k) = none := by
  cases ho : openB ((fileB ls).take k) with
  | none => rfl
  | some ls' =>
    obtain ⟨h1, h2⟩ := open_some ho
    have := file_alone h h1 (t := (fileB ls).drop k) (by rw [h2, List.take_append_drop])
    have hl := congrArg List.length this
    rw [List.length_drop, List.length_nil] at hl
    omega
theorem open_more {ls : List Item} (h : buildE ls = 0) (x : UInt8) : openB (fileB ls ++ [x]) = none := by
  cases ho : openB (fileB ls ++ [x]) with
  | none => rfl
  | some ls' =>
    obtain ⟨h1, h2⟩ := open_some ho
    have := file_alone h1 h h2.symm
    cases this
end Go.Proofs.YtmdphaagbmipcaaDoor
