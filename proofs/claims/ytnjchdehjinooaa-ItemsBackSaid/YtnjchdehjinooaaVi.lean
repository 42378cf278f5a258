/-
  The walks of package varint that frames call: put, Put, take, Take; slices.Clone and slices.Equal of bytes.
-/
import Derived.Test.YtnjchdehjinooaaBase
import Derived.Test.YtnjchdehjinooaaBits
namespace Go.Proofs.Ytnjchdehjinooaa
open Go.RowKit

theorem ret3 {k1 k2 k3 : IntKind} {a a' b b' c c' : Int} (h1 : a = a') (h2 : b = b') (h3 : c = c') : Ending.returned (.tuple #[.int k1 a, .int k2 b, .int k3 c]) = .returned (.tuple #[.int k1 a', .int k2 b', .int k3 c']) := by rw [h1, h2, h3]

theorem or128 (k : Nat) : bits .or .u8 ((k : Int) % 256) 128 = ((UInt8.ofNat (k % 128 + 128)).toNat : Int) := by
  rw [toNat_ofNat8]
  have h : ((k : Int) % 256) = ((k % 256 : Nat) : Int) := by omega
  rw [h]
  have h2 : ∀ n : Fin 256, bits .or .u8 ((n.val : Nat) : Int) 128 = ((n.val % 128 + 128 : Nat) : Int) := by decide +kernel
  have h3 := h2 ⟨k % 256, by omega⟩
  simp only at h3
  rw [h3]
  omega

set_option maxRecDepth 100000 in
set_option maxHeartbeats 400000 in
theorem put_any (base : Nat) (v : Value) (xs : List UInt8) (u : Nat) (hu : Is64 u) (w : World) (hown : OwnB w base v xs) (hbase : base ≤ w.heap.size) (hlen : xs.length ≤ 1099511627776) :
    Calls Try.prog 33 #[v, .int .u64 u] w (RetB w base v (xs ++ venc u)) := by
  have HV := Lib.hid (venc_len hu)
  go_enter Try.func33, Try.ntmps33
  go_wp2
  go_loopw [0, 1] (fun b n wr => ∃ (l : List UInt8) (k : Nat), Is64 k ∧ n = .int .u64 k ∧ OwnB wr base b l ∧ Hid (l ++ venc k = xs ++ venc u) ∧ Onto w wr v b) (fun _ n _ => (intOf n).toNat)
  case atStart => exact ⟨xs, u, hu, rfl, hown, rfl, Onto.refl _ _⟩
  case round =>
    obtain ⟨l, k, hk, rfl, hl, hcat, hon⟩ := hrel
    have hlk : l.length ≤ 1099511627776 + 10 := by
      have h1 := congrArg List.length hcat.out
      simp only [List.length_append] at h1
      have h2 := HV.out
      omega
    have hbs := hon.size
    by_cases hc : 128 ≤ k
    · go_wp2_with (at_builtin; refine wpList_append_b rfl (.tmp 7) (.tmp 11) rfl base u0 l (by rfl) (hl.alloc _) (wr.heap.size + 1) _ 1 _ [UInt8.ofNat (k % 128 + 128)] (by rfl) rfl (sees_new _ _ _ _ (by simp [bv, or128])) (by simp; omega) (by simp; omega) ?_; intro v1 w1 hown1 hon1)
      go_roundw
      case rel => exact ⟨l ++ [UInt8.ofNat (k % 128 + 128)], k / 128, hk.div 128, by go_num, hown1, (by rw [venc_big hc] at hcat; have := hcat.out; show _ = _; rw [← this]; simp), hon.trans ((Onto.of_alloc _ _ _).trans hon1)⟩
      case measure => simp [intOf]; omega
    · go_wp2_with (at_builtin; refine wpList_append_b rfl (.tmp 15) (.tmp 18) rfl base u0 l (by rfl) (hl.alloc _) (wr.heap.size + 1) _ 1 _ [UInt8.ofNat k] (by rfl) rfl (sees_new _ _ _ _ (by simp [bv]; omega)) (by simp; omega) (by simp; omega) ?_; intro v1 w1 hown1 hon1)
      go_ret
      exact ⟨v1, rfl, by have h := hcat.out; rw [venc_small (by omega)] at h; rw [← h]; exact hown1, hon.trans ((Onto.of_alloc _ _ _).trans hon1)⟩
set_option maxRecDepth 100000 in
set_option maxHeartbeats 400000 in
theorem clone_any (A : Option Addr) (n c : Nat) (l : List UInt8) (hn : l.length = n) (w : World) (h : Sees w w.heap.size A (bv l)) (hlen : l.length ≤ 1099511627776) :
    Calls Try.prog 31 #[.slice A n c] w (RetB w w.heap.size (.slice none 0 0) l) := by
  subst hn
  have he := fun (W : World) (a : Option Addr) (n c : Nat) => Lib.run_eql_slice_nil (P := Try.prog) W 23 5 a n c 0 0 Try.underlying23
  cases A with
  | none =>
    have hn : l = [] := by
      rcases h.out with h | ⟨ad, h, _⟩
      · simpa [bv] using h
      · cases h
    subst hn
    go_enter Try.func31, Try.ntmps31
    go_wp2
    go_ret
    exact ⟨_, rfl, OwnB.nil _ _, Onto.refl _ _⟩
  | some ad =>
    go_enter Try.func31, Try.ntmps31
    go_wp2_with (at_builtin; refine wpList_append_b rfl (.tmp 5) (.tmp 6) rfl w.heap.size (.slice (some ⟨w.heap.size, 0, none⟩) 0 0) [] (by rfl) (OwnB.new _ _ (Nat.le_refl _) [] 0 rfl _ rfl (by simp [maxLen])) w.heap.size (some ad) l.length c l (by rfl) rfl (h.alloc (Nat.le_refl _) _) (by simp; omega) (by simp) ?_; intro v1 w1 hown1 hon1)
    go_ret
    exact ⟨v1, rfl, hown1, (Onto.new _ _ _ _ _).trans hon1⟩

set_option maxRecDepth 100000 in
set_option maxHeartbeats 400000 in
theorem take_any (A : Option Addr) (c : Nat) (l : List UInt8) (w : World) (h : Sees w w.heap.size A (bv l)) (hlen : l.length ≤ 1099511627776) :
    Calls Try.prog 30 #[.slice A l.length c] w fun e w' => e = .returned (.tuple #[.int .u64 ((vtake l).1 : Nat), .int .i64 ((vtake l).2.1 : Nat), .int .i64 ((vtake l).2.2 : Nat)]) ∧ w = w' := by
  go_enter Try.func30, Try.ntmps30
  go_wp2
  go_step3
  go_wp2
  go_step3
  go_wp2
  go_loop [5, 6] (fun x n => ∃ k X : Nat, k ≤ 10 ∧ k ≤ l.length ∧ n = .int .i64 k ∧ x = .int .u64 X ∧ Hid (X < 2 ^ (7 * k) ∧ Is64 X) ∧ Hid (vtk (10 - k) (l.drop k) k X = vtake l)) (fun _ n => 10 - (intOf n).toNat)
  case atStart => exact ⟨0, 0, by omega, by omega, rfl, rfl, ⟨by simp, by simp [Is64]⟩, rfl⟩
  case round =>
    obtain ⟨k, X, hk, hkl, rfl, rfl, hX, hv⟩ := hrel
    by_cases h10 : k = 10
    · subst h10
      have HF : Hid (vtake l = (0, 0, 11)) := hv.out.symm
      clear hv
      go_wp2
      go_ret3
      rw [HF.out]
      exact ⟨rfl, rfl⟩
    by_cases hend : k = l.length
    · have HF : Hid (vtake l = (0, 0, 10)) := hv.out.symm.trans (vtk_end l k X (by omega) hend)
      clear hv
      go_wp2
      go_ret3
      rw [HF.out]
      exact ⟨rfl, rfl⟩
    obtain ⟨ad, rfl, hb, hcell⟩ := h.at_ (k := k) (by rw [bv_length]; omega)
    have HV : Hid (vtake l = _) := hv.out.symm.trans (vtk_at l k X (by omega) (by omega))
    clear hv
    rw [show (bv l)[k]'(by rw [bv_length]; omega) = .int .u8 ((l[k]'(by omega)).toNat : Int) from by simp [bv]] at hcell
    generalize hcb : l[k]'(by omega) = cb at hcell HV
    clear hcb
    have hcb256 : (cb.toNat : Int) < 256 := by have := cb.toNat_lt; omega
    have HO := Lib.hid (or_step X k cb hX.out.1 hX.out.2 (by omega))
    by_cases hsm : (cb.toNat : Int) < 128
    · by_cases he1 : k = 9 ∧ (1 : Int) < (cb.toNat : Int)
      · have HF : Hid (vtake l = (0, 0, 11)) := by have := HV.out; rw [if_pos (by omega), if_pos (by omega)] at this; exact this
        clear HV
        obtain ⟨h9, h1c⟩ := he1
        have h9' : 9 ≤ k := by omega
        clear h9
        go_wp2
        all_goals
          go_ret3
          rw [HF.out]
          exact ⟨rfl, rfl⟩
      by_cases he2 : 0 < k ∧ cb.toNat = 0
      · have HF : Hid (vtake l = (0, 0, 11)) := by have := HV.out; rw [if_pos (by omega), if_pos (by omega)] at this; exact this
        clear HV he1
        obtain ⟨hk0, hc0⟩ := he2
        have hcz : ((cb.toNat : Int) == 0) = true := by rw [beq_iff_eq]; omega
        have hcz1 : (cb.toNat : Int) ≤ 0 := by omega
        clear hc0
        by_cases h9 : 9 ≤ k
        · go_wp2
          go_ret3
          rw [HF.out]
          exact ⟨rfl, rfl⟩
        · go_wp2
          go_ret3
          rw [HF.out]
          exact ⟨rfl, rfl⟩
      have HF : Hid (vtake l = (X + cb.toNat % 128 * 2 ^ (7 * k) % 18446744073709551616, k + 1, 0)) := by
        have := HV.out; rw [if_pos (by omega), if_neg (by omega)] at this; rw [Nat.mod_eq_of_lt (a := cb.toNat) (show cb.toNat < 128 by omega)]; exact this
      clear HV
      by_cases h0 : k ≤ 0
      · clear he1 he2
        go_wp2
        go_ret3
        rw [HF.out]
        exact ⟨ret3 HO.out (by show _ = ((k + 1 : Nat) : Int); omega) rfl, rfl⟩
      · have hcz : ((cb.toNat : Int) == 0) = false := by rw [beq_eq_false_iff_ne]; omega
        have hcz1 : 1 ≤ (cb.toNat : Int) := by omega
        by_cases h9 : 9 ≤ k
        · have hc1 : (cb.toNat : Int) ≤ 1 := by omega
          clear he1 he2
          go_wp2
          go_ret3
          rw [HF.out]
          exact ⟨ret3 HO.out (by show _ = ((k + 1 : Nat) : Int); omega) rfl, rfl⟩
        · clear he1 he2
          go_wp2
          go_ret3
          rw [HF.out]
          exact ⟨ret3 HO.out (by show _ = ((k + 1 : Nat) : Int); omega) rfl, rfl⟩
    · have HF : Hid (vtake l = vtk (10 - (k + 1)) (l.drop (k + 1)) (k + 1) (X + cb.toNat % 128 * 2 ^ (7 * k) % 18446744073709551616)) := by have := HV.out; rw [if_neg (by omega)] at this; exact this
      clear HV
      go_wp2
      go_round
      case rel => exact ⟨k + 1, _, by omega, by omega, by go_num, by rw [HO.out], step_bounds X k _ (by omega) hX.out.1 hX.out.2 (by omega), HF.out.symm⟩
      case measure => simp [intOf]; omega

/-- What a call gives back: three results, the second a row of bytes of its own. -/
def Ret1B (w : World) (u : Int) (ku : IntKind) (l : List UInt8) (e : Int) (en : Ending) (w' : World) : Prop :=
  ∃ v', en = .returned (.tuple #[.int ku u, v', .int .i64 e]) ∧ OwnB w' w.heap.size v' l ∧ Below w.heap.size w w'

theorem vtk_le : ∀ (f : Nat) (l : List UInt8) (n x : Nat), (vtk f l n x).2.1 ≤ n + l.length ∧ ((vtk f l n x).2.2 ≠ 0 → (vtk f l n x).2.1 = 0 ∧ (vtk f l n x).1 = 0) := by
  intro f
  induction f with
  | zero => intro l n x; simp [vtk]
  | succ f ih =>
    intro l n x
    cases l with
    | nil => simp [vtk]
    | cons c r =>
      simp only [vtk]
      split
      · split
        · simp
        · simp
          try omega
      · have := ih r (n + 1) (x + c.toNat % 128 * 2 ^ (7 * n) % 18446744073709551616)
        simp only [List.length_cons]
        refine ⟨by omega, this.2⟩
theorem vtake_le (l : List UInt8) : (vtake l).2.1 ≤ l.length := by have := (vtk_le 10 l 0 0).1; unfold vtake; omega
theorem vtake_err (l : List UInt8) (h : (vtake l).2.2 ≠ 0) : (vtake l).2.1 = 0 ∧ (vtake l).1 = 0 := (vtk_le 10 l 0 0).2 h

end Go.Proofs.Ytnjchdehjinooaa
