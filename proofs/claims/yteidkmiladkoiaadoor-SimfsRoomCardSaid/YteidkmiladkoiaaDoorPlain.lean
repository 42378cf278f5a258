/-
  Plain facts on the numbers' bytes: no program in sight.
-/
namespace Go.Proofs.YteidkmiladkoiaaDoor

/-- A number's bytes: seven bits a byte, the lowest first; the highest bit says that more follow. -/
def venc (u : Nat) : List UInt8 := if u < 128 then [UInt8.ofNat u] else UInt8.ofNat (u % 128 + 128) :: venc (u / 128)
termination_by u
decreasing_by omega

theorem venc_small {u : Nat} (h : u < 128) : venc u = [UInt8.ofNat u] := by rw [venc, if_pos h]
theorem venc_big {u : Nat} (h : 128 ≤ u) : venc u = UInt8.ofNat (u % 128 + 128) :: venc (u / 128) := by rw [venc, if_neg (by omega)]
theorem venc_len_aux : ∀ (n u : Nat), u < 128 ^ (n + 1) → (venc u).length ≤ n + 1 := by
  intro n
  induction n with
  | zero => intro u h; rw [venc_small (by omega)]; simp
  | succ n ih =>
    intro u h
    by_cases hu : u < 128
    · rw [venc_small hu]; simp
    · rw [venc_big (by omega)]
      have h2 : u / 128 < 128 ^ (n + 1) := by rw [Nat.div_lt_iff_lt_mul (by omega), ← Nat.pow_succ]; exact h
      have := ih _ h2
      simp only [List.length_cons]
      omega
/-- A number of 64 bits. -/
def Is64 (n : Nat) : Prop := n < 18446744073709551616
theorem Is64.div {n : Nat} (h : Is64 n) (k : Nat) : Is64 (n / k) := Nat.lt_of_le_of_lt (Nat.div_le_self _ _) h
theorem venc_len {u : Nat} (h : Is64 u) : (venc u).length ≤ 10 := venc_len_aux 9 u (by unfold Is64 at h; omega)
theorem venc_pos (u : Nat) : 0 < (venc u).length := by
  by_cases hu : u < 128
  · rw [venc_small hu]; simp
  · rw [venc_big (by omega)]; simp

theorem toNat_ofNat8 (n : Nat) : ((UInt8.ofNat n).toNat : Int) = (n : Int) % 256 := by simp

theorem u8_nat (n : Nat) (h : n < 256) : (UInt8.ofNat n).toNat = n := by simp; omega

/-- What bytes tell as a number: the number, how many bytes it has, the error. -/
def vtk : Nat → List UInt8 → Nat → Nat → Nat × Nat × Nat
  | 0, _, _, _ => (0, 0, 11)
  | _ + 1, [], _, _ => (0, 0, 10)
  | f + 1, c :: r, n, x =>
    if c.toNat < 128 then
      if (n = 9 ∧ 1 < c.toNat) ∨ (0 < n ∧ c.toNat = 0) then (0, 0, 11) else (x + c.toNat * 2 ^ (7 * n) % 18446744073709551616, n + 1, 0)
    else vtk f r (n + 1) (x + c.toNat % 128 * 2 ^ (7 * n) % 18446744073709551616)
def vtake (b : List UInt8) : Nat × Nat × Nat := vtk 10 b 0 0

theorem vtk_end (l : List UInt8) (k X : Nat) (hk : k < 10) (h : k = l.length) : vtk (10 - k) (l.drop k) k X = (0, 0, 10) := by
  rw [show 10 - k = (9 - k) + 1 from by omega, List.drop_eq_nil_of_le (by omega)]
  rfl
theorem vtk_at (l : List UInt8) (k X : Nat) (hk : k < 10) (h : k < l.length) : vtk (10 - k) (l.drop k) k X =
    if l[k].toNat < 128 then
      if (k = 9 ∧ 1 < l[k].toNat) ∨ (0 < k ∧ l[k].toNat = 0) then (0, 0, 11) else (X + l[k].toNat * 2 ^ (7 * k) % 18446744073709551616, k + 1, 0)
    else vtk (10 - (k + 1)) (l.drop (k + 1)) (k + 1) (X + l[k].toNat % 128 * 2 ^ (7 * k) % 18446744073709551616) := by
  rw [show 10 - k = (10 - (k + 1)) + 1 from by omega, List.drop_eq_getElem_cons h]
  rfl

end Go.Proofs.YteidkmiladkoiaaDoor
