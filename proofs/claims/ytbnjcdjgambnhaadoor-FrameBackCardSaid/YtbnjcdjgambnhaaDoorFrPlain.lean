/-
  The sum of bytes, and frames, as plain functions on lists. No program in sight.
-/
import Derived.Test.YtbnjcdjgambnhaaDoorPlain
namespace Go.Proofs.YtbnjcdjgambnhaaDoor

def ctab : List Nat := [0, 498536548, 997073096, 651767980, 1994146192, 1802195444, 1303535960, 1342533948, 3988292384, 4027552580, 3604390888, 3412177804, 2607071920, 2262029012, 2685067896, 3183342108]
/-- Half a byte of the sum. -/
def nib (r : Nat) : Nat := r / 16 ^^^ ctab.getD (r % 16) 0
def crcByte (r : Nat) (c : UInt8) : Nat := nib (nib (r ^^^ c.toNat))
def crcFrom (r : Nat) (l : List UInt8) : Nat := l.foldl crcByte r
def crc (l : List UInt8) : Nat := 4294967295 - crcFrom 4294967295 l

/-- A number of 32 bits. -/
def Is32 (n : Nat) : Prop := n < 4294967296
theorem Is32.xor {a b : Nat} (ha : Is32 a) (hb : Is32 b) : Is32 (a ^^^ b) := Nat.xor_lt_two_pow (n := 32) ha hb
theorem Is32.byte (c : UInt8) : Is32 c.toNat := by have := c.toNat_lt; unfold Is32; omega
theorem Is32.div {a : Nat} (ha : Is32 a) (k : Nat) : Is32 (a / k) := Nat.lt_of_le_of_lt (Nat.div_le_self _ _) ha
theorem ctab_lt : ∀ i, i < 16 → Is32 (ctab.getD i 0) := by unfold Is32; decide
theorem Is32.nib {a : Nat} (ha : Is32 a) : Is32 (nib a) := (ha.div 16).xor (ctab_lt _ (by omega))
theorem Is32.crcByte {a : Nat} (ha : Is32 a) (c : UInt8) : Is32 (crcByte a c) := ((ha.xor (Is32.byte c)).nib).nib
theorem Is32.crcFrom {a : Nat} (ha : Is32 a) (l : List UInt8) : Is32 (crcFrom a l) := by
  induction l generalizing a with
  | nil => exact ha
  | cons c l ih => exact ih (ha.crcByte c)
theorem Is32.full : Is32 4294967295 := by unfold Is32; omega
theorem Is32.crc (l : List UInt8) : Is32 (crc l) := by unfold Is32 Proofs.YtbnjcdjgambnhaaDoor.crc; omega
theorem crcFrom_take (r : Nat) (l : List UInt8) (k : Nat) (h : k < l.length) : crcFrom r (l.take (k + 1)) = crcByte (crcFrom r (l.take k)) l[k] := by
  unfold crcFrom
  rw [List.take_succ_eq_append_getElem h, List.foldl_append]
  rfl

/-- The sum's four bytes, the highest first. -/
def tail4 (s : Nat) : List UInt8 := [UInt8.ofNat (s / 16777216), UInt8.ofNat (s / 65536), UInt8.ofNat (s / 256), UInt8.ofNat s]
def sealB (l : List UInt8) : List UInt8 := l ++ tail4 (crc l)
theorem sealB_len (l : List UInt8) : (sealB l).length = l.length + 4 := by simp [sealB, tail4]

/-- One bit of the sum, as the document says it. -/
def bit1 (r : Nat) : Nat := if r % 2 = 1 then (r / 2) ^^^ 3988292384 else r / 2
def bits8 (r : Nat) : Nat := bit1 (bit1 (bit1 (bit1 (bit1 (bit1 (bit1 (bit1 r)))))))

theorem bit1_eq (r : Nat) : bit1 r = (r / 2) ^^^ (r % 2 * 3988292384) := by
  unfold bit1
  rcases Nat.mod_two_eq_zero_or_one r with h | h <;> simp [h]
theorem bit1_xor (a b : Nat) : bit1 (a ^^^ b) = bit1 a ^^^ bit1 b := by
  rw [bit1_eq, bit1_eq, bit1_eq]
  have h1 : (a ^^^ b) / 2 = a / 2 ^^^ b / 2 := Nat.xor_div_two
  have h2 : (a ^^^ b) % 2 * 3988292384 = (a % 2 * 3988292384) ^^^ (b % 2 * 3988292384) := by
    have h3 : (a ^^^ b) % 2 = (a % 2) ^^^ (b % 2) := Nat.xor_mod_two_pow (n := 1)
    rw [h3]
    rcases Nat.mod_two_eq_zero_or_one a with h | h <;> rcases Nat.mod_two_eq_zero_or_one b with h' | h' <;> simp [h, h']
  rw [h1, h2]
  ac_rfl
theorem bit1_even (q : Nat) : bit1 (2 * q) = q := by unfold bit1; rw [if_neg (by omega)]; omega
theorem nib_eq (r : Nat) : nib r = bit1 (bit1 (bit1 (bit1 r))) := by
  have hs : ∀ s, s < 16 → bit1 (bit1 (bit1 (bit1 s))) = ctab.getD s 0 := by decide
  have hr : r = (2 * (2 * (2 * (2 * (r / 16))))) ^^^ (r % 16) := by
    have h1 : r % 16 < 2 ^ 4 := by omega
    have h2 := Nat.two_pow_add_eq_or_of_lt h1 (r / 16)
    have h3 : 2 ^ 4 * (r / 16) &&& r % 16 = 0 := by
      apply Nat.eq_of_testBit_eq
      intro i
      rw [Nat.testBit_and, Nat.testBit_two_pow_mul, Nat.zero_testBit]
      by_cases hi : 4 ≤ i
      · rw [Nat.testBit_lt_two_pow (Nat.lt_of_lt_of_le h1 (Nat.pow_le_pow_right (by omega) hi))]; simp
      · simp [hi]
    have h4 : 2 ^ 4 * (r / 16) ^^^ r % 16 = 2 ^ 4 * (r / 16) ||| r % 16 := by
      apply Nat.eq_of_testBit_eq
      intro i
      have := congrArg (Nat.testBit · i) h3
      simp only [Nat.testBit_and, Nat.zero_testBit] at this
      rw [Nat.testBit_xor, Nat.testBit_or]
      cases h5 : (2 ^ 4 * (r / 16)).testBit i <;> cases h6 : (r % 16).testBit i <;> simp_all
    rw [show 2 * (2 * (2 * (2 * (r / 16)))) = 2 ^ 4 * (r / 16) from by omega, h4, ← h2]
    omega
  unfold nib
  conv => rhs; rw [hr]
  rw [bit1_xor, bit1_xor, bit1_xor, bit1_xor, bit1_even, bit1_even, bit1_even, bit1_even, hs _ (by omega)]
theorem crcByte_bits (r : Nat) (c : UInt8) : crcByte r c = bits8 (r ^^^ c.toNat) := by unfold crcByte bits8; rw [nib_eq, nib_eq]

def bitsN : Nat → Nat → Nat
  | 0, r => r
  | k + 1, r => bit1 (bitsN k r)
theorem crcByte_bitsN (r : Nat) (c : UInt8) : crcByte r c = bitsN 8 (r ^^^ c.toNat) := crcByte_bits r c

/-- A step is told back: other registers, or other bytes, go to other registers. -/
theorem bit1_inj {a b : Nat} (ha : Is32 a) (hb : Is32 b) (h : bit1 a = bit1 b) : a = b := by
  have hx : bit1 (a ^^^ b) = 0 := by rw [bit1_xor, h, Nat.xor_self]
  have h32 := ha.xor hb
  generalize hd : a ^^^ b = d at hx h32
  have hd0 : d = 0 := by
    unfold bit1 at hx
    unfold Is32 at h32
    split at hx
    · exfalso
      have h1 : d / 2 = 3988292384 := by
        have := congrArg (· ^^^ 3988292384) hx
        simpa [Nat.xor_assoc] using this
      omega
    · omega
  rw [hd0] at hd
  have h3 := congrArg (· ^^^ b) hd
  simpa [Nat.xor_assoc] using h3
theorem Is32.bit1 {a : Nat} (ha : Is32 a) : Is32 (bit1 a) := by
  unfold Proofs.YtbnjcdjgambnhaaDoor.bit1
  split
  · exact (ha.div 2).xor (by unfold Is32; omega)
  · exact ha.div 2
theorem Is32.bitsN {a : Nat} (ha : Is32 a) (k : Nat) : Is32 (bitsN k a) := by
  induction k with
  | zero => exact ha
  | succ k ih => exact ih.bit1
theorem nib_inj {a b : Nat} (ha : Is32 a) (hb : Is32 b) (h : nib a = nib b) : a = b := by
  rw [nib_eq, nib_eq] at h
  exact bit1_inj ha hb (bit1_inj ha.bit1 hb.bit1 (bit1_inj ha.bit1.bit1 hb.bit1.bit1 (bit1_inj ha.bit1.bit1.bit1 hb.bit1.bit1.bit1 h)))
theorem crcByte_inj {a b : Nat} (c : UInt8) (ha : Is32 a) (hb : Is32 b) (h : crcByte a c = crcByte b c) : a = b := by
  have := nib_inj (ha.xor (Is32.byte c)) (hb.xor (Is32.byte c)) (nib_inj (ha.xor (Is32.byte c)).nib (hb.xor (Is32.byte c)).nib h)
  have := congrArg (· ^^^ c.toNat) this
  simpa [Nat.xor_assoc] using this
theorem crcByte_inj' {r : Nat} {c d : UInt8} (hr : Is32 r) (h : crcByte r c = crcByte r d) : c = d := by
  have := nib_inj (hr.xor (Is32.byte c)) (hr.xor (Is32.byte d)) (nib_inj (hr.xor (Is32.byte c)).nib (hr.xor (Is32.byte d)).nib h)
  have := congrArg (r ^^^ ·) this
  simp only [← Nat.xor_assoc, Nat.xor_self, Nat.zero_xor] at this
  exact UInt8.toNat_inj.1 this
theorem crcFrom_inj {a b : Nat} (l : List UInt8) (ha : Is32 a) (hb : Is32 b) (h : crcFrom a l = crcFrom b l) : a = b := by
  induction l generalizing a b with
  | nil => exact h
  | cons c l ih => exact crcByte_inj c ha hb (ih (ha.crcByte c) (hb.crcByte c) h)
theorem crcFrom_append (r : Nat) (l m : List UInt8) : crcFrom r (l ++ m) = crcFrom (crcFrom r l) m := by simp [crcFrom, List.foldl_append]
theorem crc_other (p s : List UInt8) (c d : UInt8) (h : c ≠ d) : crc (p ++ c :: s) ≠ crc (p ++ d :: s) := by
  intro e
  have h1 := Is32.full.crcFrom (p ++ c :: s)
  have h2 := Is32.full.crcFrom (p ++ d :: s)
  have e2 : crcFrom 4294967295 (p ++ c :: s) = crcFrom 4294967295 (p ++ d :: s) := by unfold crc at e; unfold Is32 at h1 h2; omega
  rw [crcFrom_append, crcFrom_append] at e2
  have h3 := Is32.full.crcFrom p
  exact h (crcByte_inj' h3 (crcFrom_inj s (h3.crcByte c) (h3.crcByte d) e2))
theorem tail4_inj {a b : Nat} (ha : Is32 a) (hb : Is32 b) (h : tail4 a = tail4 b) : a = b := by
  unfold tail4 at h
  unfold Is32 at ha hb
  simp only [List.cons.injEq, and_true] at h
  obtain ⟨h1, h2, h3, h4⟩ := h
  have g : ∀ x y : Nat, UInt8.ofNat x = UInt8.ofNat y → x % 256 = y % 256 := by
    intro x y e
    have := congrArg UInt8.toNat e
    simpa using this
  have := g _ _ h1
  have := g _ _ h2
  have := g _ _ h3
  have := g _ _ h4
  omega


/-- The first frame's kind, its body, what lies behind it, the error. -/
def fnext : List UInt8 → Nat × List UInt8 × List UInt8 × Nat
  | [] => (0, [], [], 10)
  | k :: t =>
    if (vtake t).2.2 ≠ 0 then (0, [], [], (vtake t).2.2)
    else if 65535 < (vtake t).1 then (0, [], [], 11)
    else if (t.drop (vtake t).2.1).length < (vtake t).1 + 4 then (0, [], [], 10)
    else if sealB ((k :: t).take (1 + (vtake t).2.1 + (vtake t).1)) == (k :: t).take (1 + (vtake t).2.1 + (vtake t).1 + 4) then (k.toNat, (t.drop (vtake t).2.1).take (vtake t).1, (t.drop (vtake t).2.1).drop ((vtake t).1 + 4), 0)
    else (0, [], [], 50)
def fonly (b : List UInt8) (kind : Int) : List UInt8 × Nat :=
  if (fnext b).2.2.2 ≠ 0 then ([], (fnext b).2.2.2)
  else if 0 < (fnext b).2.2.1.length ∨ ((fnext b).1 : Int) ≠ kind then ([], 11)
  else ((fnext b).2.1, 0)

end Go.Proofs.YtbnjcdjgambnhaaDoor
