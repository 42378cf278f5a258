/-
  The machine's bit operations as plain numbers, where this claim's walks meet them. No program in sight.
-/
import Derived.Laws.BitsAllLaws
import Derived.Test.YtnjchdehjinooaaPlain
namespace Go.Proofs.Ytnjchdehjinooaa

theorem nat_pow_mod (m i : Nat) (hi : i ≤ 64) : (m * 2 ^ i % 18446744073709551616) % 2 ^ i = 0 := by
  have h : (18446744073709551616 : Nat) = 2 ^ i * 2 ^ (64 - i) := by rw [← Nat.pow_add, show i + (64 - i) = 64 from by omega]
  rw [h, Nat.mod_mul_right_mod]
  exact Nat.mul_mod_left m (2 ^ i)

/-- One step of a number's bytes: seven bits more. -/
theorem or_step (X k : Nat) (c : UInt8) (hX : X < 2 ^ (7 * k)) (h64 : Is64 X) (hk : k ≤ 9) :
    bits .or .u64 (X : Int) (IntKind.u64.wrap (IntKind.u64.wrap (bits .and .u8 (c.toNat : Int) 127) * 2 ^ (7 * k))) = ((X + c.toNat % 128 * 2 ^ (7 * k) % 18446744073709551616 : Nat) : Int) := by
  have hc := c.toNat_lt
  have h1 : bits .and .u8 (c.toNat : Int) 127 = ((c.toNat % 128 : Nat) : Int) := by
    have := u8_and_nat c.toNat 127 (by omega) (by omega)
    rw [nat_mask7] at this
    exact this
  rw [h1, IntKind.wrap_u64, IntKind.wrap_u64]
  have h2 : (((c.toNat % 128 : Nat) : Int) % 18446744073709551616 * 2 ^ (7 * k)) % 18446744073709551616 = ((c.toNat % 128 * 2 ^ (7 * k) % 18446744073709551616 : Nat) : Int) := by
    rw [Int.emod_eq_of_lt (a := ((c.toNat % 128 : Nat) : Int)) (by omega) (by omega)]
    generalize c.toNat % 128 = m
    rw [Int.natCast_emod, Int.natCast_mul, Int.natCast_pow]
    rfl
  rw [h2, u64_or_nat _ _ h64 (Nat.mod_lt _ (by omega)), Nat.or_comm, nat_join (7 * k) _ _ (nat_pow_mod _ _ (by omega)) hX, Nat.add_comm]

theorem step_bounds (X k : Nat) (m : Nat) (hm : m < 128) (hX : X < 2 ^ (7 * k)) (h64 : Is64 X) (hk : k ≤ 9) :
    X + m * 2 ^ (7 * k) % 18446744073709551616 < 2 ^ (7 * (k + 1)) ∧ Is64 (X + m * 2 ^ (7 * k) % 18446744073709551616) := by
  have hle : m * 2 ^ (7 * k) % 18446744073709551616 ≤ m * 2 ^ (7 * k) := Nat.mod_le _ _
  have h1 : m * 2 ^ (7 * k) ≤ 127 * 2 ^ (7 * k) := Nat.mul_le_mul_right _ (by omega)
  have h2 : 2 ^ (7 * (k + 1)) = 128 * 2 ^ (7 * k) := by rw [show 7 * (k + 1) = 7 + 7 * k from by omega, Nat.pow_add]
  refine ⟨by omega, ?_⟩
  have hz := nat_pow_mod m (7 * k) (by omega)
  have h := nat_join (7 * k) _ X hz hX
  unfold Is64
  rw [Nat.add_comm, ← h]
  exact Nat.or_lt_two_pow (n := 64) (Nat.mod_lt _ (by omega)) h64

end Go.Proofs.Ytnjchdehjinooaa
