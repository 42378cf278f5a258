/-
  What was made is taken; what is turned is refused: plain facts on frames. No program in sight.
-/
import Derived.Test.YtbnjcdjgambnhaaDoorFrPlain
namespace Go.Proofs.YtbnjcdjgambnhaaDoor

theorem vtk_enc : ∀ (m u : Nat), u ≤ m → ∀ (f n x : Nat) (r : List UInt8), n + f = 10 → (n = 0 ∨ 0 < u) → u * 2 ^ (7 * n) < 18446744073709551616 →
    vtk f (venc u ++ r) n x = (x + u * 2 ^ (7 * n), n + (venc u).length, 0) := by
  intro m
  induction m with
  | zero =>
    intro u hu f n x r hf hn _
    obtain rfl : u = 0 := by omega
    obtain rfl : n = 0 := by omega
    obtain rfl : f = 9 + 1 := by omega
    rw [venc_small (by omega)]
    simp [vtk]
  | succ m ih =>
    intro u hu f n x r hf hn hlt
    by_cases hs : u < 128
    · have hn9 : n < 10 := by
        rcases hn with rfl | hp
        · omega
        · rcases Nat.lt_or_ge n 10 with h | h
          · exact h
          · exfalso
            have h1 : 2 ^ 64 ≤ 2 ^ (7 * n) := Nat.pow_le_pow_right (by omega) (by omega)
            have h2 : 1 * 2 ^ (7 * n) ≤ u * 2 ^ (7 * n) := Nat.mul_le_mul_right _ hp
            omega
      obtain ⟨g, rfl⟩ : ∃ g, f = g + 1 := ⟨f - 1, by omega⟩
      rw [venc_small hs]
      have hc : (UInt8.ofNat u).toNat = u := u8_nat u (by omega)
      simp only [List.cons_append, List.nil_append, vtk, hc, hs, if_true, List.length_cons, List.length_nil]
      have h9 : ¬ ((n = 9 ∧ 1 < u) ∨ (0 < n ∧ u = 0)) := by
        rintro (⟨rfl, h1⟩ | ⟨h1, h2⟩)
        · omega
        · omega
      rw [if_neg h9, Nat.mod_eq_of_lt hlt]
    · have hp : 128 * 2 ^ (7 * n) ≤ u * 2 ^ (7 * n) := Nat.mul_le_mul_right _ (by omega)
      have hn9 : n < 9 := by
        rcases Nat.lt_or_ge n 9 with h | h
        · exact h
        · exfalso
          have h1 : 2 ^ 63 ≤ 2 ^ (7 * n) := Nat.pow_le_pow_right (by omega) (by omega)
          omega
      obtain ⟨g, rfl⟩ : ∃ g, f = g + 1 := ⟨f - 1, by omega⟩
      rw [venc_big (by omega)]
      have hc : (UInt8.ofNat (u % 128 + 128)).toNat = u % 128 + 128 := u8_nat _ (by omega)
      have hpw : 2 ^ (7 * (n + 1)) = 128 * 2 ^ (7 * n) := by rw [show 7 * (n + 1) = 7 + 7 * n from by omega, Nat.pow_add]
      have hsplit : u * 2 ^ (7 * n) = u % 128 * 2 ^ (7 * n) + u / 128 * 2 ^ (7 * (n + 1)) := by
        rw [hpw, ← Nat.mul_assoc, ← Nat.add_mul]
        congr 1
        omega
      simp only [List.cons_append, vtk, hc]
      rw [if_neg (by omega), show (u % 128 + 128) % 128 = u % 128 from by omega, Nat.mod_eq_of_lt (by omega), ih (u / 128) (by omega) g (n + 1) _ r (by omega) (by omega) (by omega)]
      simp only [List.length_cons, Prod.mk.injEq, and_true]
      omega
theorem vtake_enc (u : Nat) (hu : Is64 u) (r : List UInt8) : vtake (venc u ++ r) = (u, (venc u).length, 0) := by
  have := vtk_enc u u (Nat.le_refl _) 10 0 0 r rfl (.inl rfl) (by simpa [Is64] using hu)
  unfold vtake
  rw [this]
  simp

theorem vtk_cut : ∀ (m u : Nat), u ≤ m → ∀ (f n x j : Nat), n + f = 10 → u * 2 ^ (7 * n) < 18446744073709551616 → j < (venc u).length → n < 10 →
    vtk f ((venc u).take j) n x = (0, 0, 10) := by
  intro m
  induction m with
  | zero =>
    intro u hu f n x j hf _ hj hn
    obtain rfl : u = 0 := by omega
    rw [venc_small (by omega)] at hj ⊢
    obtain rfl : j = 0 := by simpa using hj
    obtain ⟨g, rfl⟩ : ∃ g, f = g + 1 := ⟨f - 1, by omega⟩
    rfl
  | succ m ih =>
    intro u hu f n x j hf hlt hj hn
    obtain ⟨g, rfl⟩ : ∃ g, f = g + 1 := ⟨f - 1, by omega⟩
    cases j with
    | zero => simp [vtk]
    | succ j =>
      by_cases hs : u < 128
      · rw [venc_small hs] at hj
        simp at hj
      · have hp : 128 * 2 ^ (7 * n) ≤ u * 2 ^ (7 * n) := Nat.mul_le_mul_right _ (by omega)
        have hn9 : n < 9 := by
          rcases Nat.lt_or_ge n 9 with h | h
          · exact h
          · exfalso
            have h1 : 2 ^ 63 ≤ 2 ^ (7 * n) := Nat.pow_le_pow_right (by omega) (by omega)
            omega
        rw [venc_big (by omega)] at hj ⊢
        have hc : (UInt8.ofNat (u % 128 + 128)).toNat = u % 128 + 128 := u8_nat _ (by omega)
        have hpw : 2 ^ (7 * (n + 1)) = 128 * 2 ^ (7 * n) := by rw [show 7 * (n + 1) = 7 + 7 * n from by omega, Nat.pow_add]
        have hsplit : u * 2 ^ (7 * n) = u % 128 * 2 ^ (7 * n) + u / 128 * 2 ^ (7 * (n + 1)) := by
          rw [hpw, ← Nat.mul_assoc, ← Nat.add_mul]
          congr 1
          omega
        simp only [List.take_succ_cons, vtk, hc]
        rw [if_neg (by omega)]
        exact ih (u / 128) (by omega) g (n + 1) _ j (by omega) (by omega) (by simpa using hj) (by omega)
theorem vtake_cut (u : Nat) (hu : Is64 u) (j : Nat) (hj : j < (venc u).length) : vtake ((venc u).take j) = (0, 0, 10) :=
  vtk_cut u u (Nat.le_refl _) 10 0 0 j rfl (by simpa [Is64] using hu) hj (by omega)

/-- Bytes that have a frame's form: the sum decides. -/
theorem fnext_form (k : UInt8) (l tl rest : List UInt8) (hl : l.length ≤ 65535) (ht : tl.length = 4) :
    fnext (k :: (venc l.length ++ (l ++ (tl ++ rest)))) = if tail4 (crc (k :: (venc l.length ++ l))) = tl then (k.toNat, l, rest, 0) else (0, [], [], 50) := by
  have hv := vtake_enc l.length (by unfold Is64; omega) (l ++ (tl ++ rest))
  simp only [fnext]
  rw [hv]
  simp only [ne_eq, not_true_eq_false, if_false]
  rw [if_neg (by omega), List.drop_left, if_neg (by simp; omega)]
  have e1 : (k :: (venc l.length ++ (l ++ (tl ++ rest)))).take (1 + (venc l.length).length + l.length) = k :: (venc l.length ++ l) := by
    have : k :: (venc l.length ++ (l ++ (tl ++ rest))) = (k :: (venc l.length ++ l)) ++ (tl ++ rest) := by simp
    rw [this, List.take_append_of_le_length (by simp; omega), List.take_of_length_le (by simp; omega)]
  have e2 : (k :: (venc l.length ++ (l ++ (tl ++ rest)))).take (1 + (venc l.length).length + l.length + 4) = (k :: (venc l.length ++ l)) ++ tl := by
    have : k :: (venc l.length ++ (l ++ (tl ++ rest))) = ((k :: (venc l.length ++ l)) ++ tl) ++ rest := by simp
    rw [this, List.take_append_of_le_length (by simp; omega), List.take_of_length_le (by simp; omega)]
  have e3 : (l ++ (tl ++ rest)).take l.length = l := by simp
  have e4 : (l ++ (tl ++ rest)).drop (l.length + 4) = rest := by
    have : l ++ (tl ++ rest) = (l ++ tl) ++ rest := by simp
    rw [this, ← ht, ← List.length_append, List.drop_left]
  rw [e1, e2, e3, e4]
  unfold sealB
  by_cases hq : tail4 (crc (k :: (venc l.length ++ l))) = tl
  · rw [if_pos (by simp [hq]), if_pos hq]
  · rw [if_neg (by simp [hq]), if_neg hq]

def makeK (k : UInt8) (l : List UInt8) : List UInt8 := sealB (k :: (venc l.length ++ l))
theorem makeK_form (k : UInt8) (l rest : List UInt8) : makeK k l ++ rest = k :: (venc l.length ++ (l ++ (tail4 (crc (k :: (venc l.length ++ l))) ++ rest))) := by simp [makeK, sealB]
theorem fnext_make (k : UInt8) (l rest : List UInt8) (hl : l.length ≤ 65535) : fnext (makeK k l ++ rest) = (k.toNat, l, rest, 0) := by
  rw [makeK_form, fnext_form k l _ rest hl (by simp [tail4]), if_pos rfl]
theorem fonly_make (k : UInt8) (l : List UInt8) (hl : l.length ≤ 65535) (kind : Int) : fonly (makeK k l) kind = if (k.toNat : Int) = kind then (l, 0) else ([], 11) := by
  have h := fnext_make k l [] hl
  rw [List.append_nil] at h
  unfold fonly
  rw [h]
  by_cases hk : (k.toNat : Int) = kind <;> simp [hk]
theorem makeK_inj {k k' : UInt8} {l l' : List UInt8} (hl : l.length ≤ 65535) (hl' : l'.length ≤ 65535) (h : makeK k l = makeK k' l') : k = k' ∧ l = l' := by
  have h1 := fnext_make k l [] hl
  have h2 := fnext_make k' l' [] hl'
  rw [h, h2] at h1
  simp only [Prod.mk.injEq] at h1
  exact ⟨(UInt8.toNat_inj.1 h1.1).symm, h1.2.1.symm⟩
theorem makeK_len (k : UInt8) (l : List UInt8) : (makeK k l).length = 1 + (venc l.length).length + l.length + 4 := by
  rw [makeK, sealB_len]; simp; omega
theorem venc_len1 {u : Nat} (h : u ≤ 127) : (venc u).length = 1 := by rw [venc_small (by omega)]; rfl
theorem venc_len2 {u : Nat} (h1 : 127 < u) (h2 : u < 16384) : (venc u).length = 2 := by rw [venc_big (by omega), venc_small (by omega)]; rfl

/-- Cut short a frame ends too early. -/
theorem fnext_cut (k : UInt8) (l : List UInt8) (hl : l.length ≤ 65535) (j : Nat) (hj : j < (makeK k l).length) : fnext ((makeK k l).take j) = (0, [], [], 10) := by
  have hform := makeK_form k l []
  rw [List.append_nil, List.append_nil] at hform
  rw [makeK_len] at hj
  rw [hform]
  cases j with
  | zero => rfl
  | succ j =>
    rw [List.take_succ_cons]
    simp only [fnext]
    by_cases hv : j < (venc l.length).length
    · rw [List.take_append_of_le_length (by omega), vtake_cut _ (by unfold Is64; omega) j hv]
      rfl
    · rw [List.take_append, List.take_of_length_le (by omega), vtake_enc _ (by unfold Is64; omega)]
      simp only [ne_eq, not_true_eq_false, if_false]
      rw [if_neg (by omega), List.drop_left, if_pos (by simp [tail4]; omega)]

/-- With a byte of its kind, its body or its sum turned a frame is refused for its sum. -/
theorem fnext_turned (k : UInt8) (l : List UInt8) (hl : l.length ≤ 65535) (j : Nat) (c : UInt8) (hj : j < (makeK k l).length) (hh : j = 0 ∨ 1 + (venc l.length).length ≤ j) (hc : (makeK k l)[j]? ≠ some c) :
    fnext ((makeK k l).set j c) = (0, [], [], 50) := by
  have hform := makeK_form k l []
  rw [List.append_nil, List.append_nil] at hform
  rw [makeK_len] at hj
  rw [hform] at hc ⊢
  rcases hh with rfl | hh
  · have hc' : c ≠ k := fun e => hc (by simp [e])
    rw [List.set_cons_zero]
    have hf := fnext_form c l (tail4 (crc (k :: (venc l.length ++ l)))) [] hl (by simp [tail4])
    rw [List.append_nil] at hf
    rw [hf, if_neg]
    intro e
    exact crc_other [] (venc l.length ++ l) c k hc' (tail4_inj (Is32.crc _) (Is32.crc _) e)
  · obtain ⟨i, rfl⟩ : ∃ i, j = 1 + (venc l.length).length + i := ⟨j - (1 + (venc l.length).length), by omega⟩
    by_cases hb : i < l.length
    · have hs : (k :: (venc l.length ++ (l ++ tail4 (crc (k :: (venc l.length ++ l)))))).set (1 + (venc l.length).length + i) c = k :: (venc (l.set i c).length ++ (l.set i c ++ (tail4 (crc (k :: (venc l.length ++ l))) ++ []))) := by
        rw [show 1 + (venc l.length).length + i = ((venc l.length).length + i) + 1 from by omega, List.set_cons_succ, List.set_append_right _ _ (by omega), show (venc l.length).length + i - (venc l.length).length = i from by omega, List.set_append_left _ _ hb, List.append_nil, List.length_set]
      have hg : (k :: (venc l.length ++ (l ++ tail4 (crc (k :: (venc l.length ++ l))))))[1 + (venc l.length).length + i]? = some l[i] := by
        rw [show 1 + (venc l.length).length + i = ((venc l.length).length + i) + 1 from by omega, List.getElem?_cons_succ, List.getElem?_append_right (by omega), List.getElem?_append_left (by omega), show (venc l.length).length + i - (venc l.length).length = i from by omega, List.getElem?_eq_getElem hb]
      have hc' : c ≠ l[i] := fun e => hc (by rw [hg, e])
      rw [hs, fnext_form k (l.set i c) _ [] (by rw [List.length_set]; exact hl) (by simp [tail4]), if_neg]
      intro e
      have h2 := tail4_inj (Is32.crc _) (Is32.crc _) e
      rw [List.length_set] at h2
      have e1 : l.set i c = l.take i ++ c :: l.drop (i + 1) := List.set_eq_take_append_cons_drop.trans (if_pos hb)
      have e2 : l = l.take i ++ l[i] :: l.drop (i + 1) := by
        conv => lhs; rw [← List.take_append_drop i l]
        rw [List.drop_eq_getElem_cons hb]
      have h3 := crc_other (k :: (venc l.length ++ l.take i)) (l.drop (i + 1)) c l[i] hc'
      apply h3
      have r1 : k :: (venc l.length ++ l.take i) ++ c :: l.drop (i + 1) = k :: (venc l.length ++ l.set i c) := by rw [e1]; simp
      have r2 : k :: (venc l.length ++ l.take i) ++ l[i] :: l.drop (i + 1) = k :: (venc l.length ++ l) := by
        conv => rhs; rw [e2]
        simp
      rw [r1, r2]
      exact h2
    · have hs : (k :: (venc l.length ++ (l ++ tail4 (crc (k :: (venc l.length ++ l)))))).set (1 + (venc l.length).length + i) c = k :: (venc l.length ++ (l ++ ((tail4 (crc (k :: (venc l.length ++ l)))).set (i - l.length) c ++ []))) := by
        rw [show 1 + (venc l.length).length + i = ((venc l.length).length + i) + 1 from by omega, List.set_cons_succ, List.set_append_right _ _ (by omega), show (venc l.length).length + i - (venc l.length).length = i from by omega, List.set_append_right _ _ (by omega), List.append_nil]
      have hi4 : i - l.length < (tail4 (crc (k :: (venc l.length ++ l)))).length := by simp [tail4]; omega
      have hg : (k :: (venc l.length ++ (l ++ tail4 (crc (k :: (venc l.length ++ l))))))[1 + (venc l.length).length + i]? = some ((tail4 (crc (k :: (venc l.length ++ l))))[i - l.length]'hi4) := by
        rw [show 1 + (venc l.length).length + i = ((venc l.length).length + i) + 1 from by omega, List.getElem?_cons_succ, List.getElem?_append_right (by omega), List.getElem?_append_right (by omega), show (venc l.length).length + i - (venc l.length).length - l.length = i - l.length from by omega, List.getElem?_eq_getElem hi4]
      have hc' : c ≠ (tail4 (crc (k :: (venc l.length ++ l))))[i - l.length]'hi4 := fun e => hc (by rw [hg, e])
      rw [hs, fnext_form k l _ [] hl (by simp [tail4]), if_neg]
      intro e
      have h3 := congrArg (fun t : List UInt8 => t[i - l.length]?) e
      simp only [List.getElem?_set_self hi4, List.getElem?_eq_getElem hi4, Option.some.injEq] at h3
      exact hc' h3.symm

end Go.Proofs.YtbnjcdjgambnhaaDoor
