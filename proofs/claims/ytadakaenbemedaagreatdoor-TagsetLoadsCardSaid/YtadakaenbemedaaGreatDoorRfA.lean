/-
  Several texts in one: RfPlain RfTake RfNext RfPack RfPack2.
-/
import Derived.Test.YtadakaenbemedaaGreatDoorLow
import Derived.Test.YtadakaenbemedaaGreatDoorFrm
import Derived.Test.YtadakaenbemedaaGreatDoorItm
import Derived.Test.YtadakaenbemedaaGreatDoorIpA
/-
  The document's way to take a number off bytes: plain lists.
-/
namespace Go.Proofs.YtadakaenbemedaaGreatDoor
open Go.RowKit

/-- How many bytes ahead say that there is more. -/
def hiN : List UInt8 → Nat
  | [] => 0
  | c :: r => if c.toNat < 128 then 0 else hiN r + 1
theorem hiN_le : ∀ l : List UInt8, hiN l ≤ l.length
  | [] => Nat.le_refl _
  | c :: r => by have := hiN_le r; simp only [hiN]; split <;> simp <;> omega
theorem hiN_at {l : List UInt8} {k : Nat} (h : k < l.length) : hiN (l.drop k) = if l[k].toNat < 128 then 0 else hiN (l.drop (k + 1)) + 1 := by
  rw [List.drop_eq_getElem_cons h]; rfl
theorem hiN_end {l : List UInt8} {k : Nat} (h : l.length ≤ k) : hiN (l.drop k) = 0 := by rw [List.drop_eq_nil_of_le h]; rfl
/-- What the bytes' low seven bits are together. -/
def vsum : List UInt8 → Nat
  | [] => 0
  | c :: r => c.toNat % 128 + 128 * vsum r
theorem vsum_lt : ∀ (m : Nat) (l : List UInt8), l.length ≤ m → vsum l < 128 ^ m
  | m, [], _ => by simp only [vsum]; exact Nat.pow_pos (by omega)
  | 0, c :: r, h => by simp at h
  | m + 1, c :: r, h => by
    have := vsum_lt m r (by simpa using h)
    have e : 128 ^ (m + 1) = 128 ^ m * 128 := Nat.pow_succ ..
    simp only [vsum]
    omega
theorem pow7 (k : Nat) : 2 ^ (7 * (k + 1)) = 2 ^ (7 * k) * 128 := by rw [show 7 * (k + 1) = 7 * k + 7 from by omega, Nat.pow_add]
theorem pow7_le {k : Nat} (h : k ≤ 9) : 2 ^ (7 * k) ≤ 9223372036854775808 := by
  have : 2 ^ (7 * k) ≤ 2 ^ 63 := Nat.pow_le_pow_right (by omega) (by omega)
  omega
/-- What is taken, said by how many bytes say that there is more. -/
theorem vtk_hi : ∀ (r : List UInt8) (k X : Nat), k ≤ 10 → vtk (10 - k) r k X =
    if 10 ≤ k + hiN r then (0, 0, 11) else if r.length ≤ hiN r then (0, 0, 10)
    else if (k + hiN r = 9 ∧ 1 < (r[hiN r]?.getD 0).toNat) ∨ (0 < k + hiN r ∧ (r[hiN r]?.getD 0).toNat = 0) then (0, 0, 11)
    else (X + 2 ^ (7 * k) * vsum (r.take (hiN r + 1)), k + hiN r + 1, 0)
  | [], k, X, h => by
    by_cases h10 : k = 10
    · subst h10; simp [hiN, vtk]
    · rw [show 10 - k = (9 - k) + 1 from by omega, show hiN [] = 0 from rfl, if_neg (by omega), if_pos (by simp)]
      rfl
  | c :: t, k, X, h => by
    by_cases h10 : k = 10
    · subst h10
      rw [if_pos (by omega)]
      rfl
    · rw [show 10 - k = (9 - k) + 1 from by omega]
      by_cases hc : c.toNat < 128
      · have h0 : hiN (c :: t) = 0 := by simp only [hiN]; rw [if_pos hc]
        have e0 : ((c :: t)[0]?.getD 0) = c := rfl
        have eL : vtk (9 - k + 1) (c :: t) k X = if (k = 9 ∧ 1 < c.toNat) ∨ (0 < k ∧ c.toNat = 0) then (0, 0, 11) else (X + c.toNat * 2 ^ (7 * k) % 18446744073709551616, k + 1, 0) := by
          simp only [vtk]; rw [if_pos hc]
        rw [h0, eL, if_neg (c := 10 ≤ k + 0) (by omega), if_neg (c := (c :: t).length ≤ 0) (by simp), e0]
        show _ = if (k = 9 ∧ 1 < c.toNat) ∨ (0 < k ∧ c.toNat = 0) then _ else _
        by_cases h1 : (k = 9 ∧ 1 < c.toNat) ∨ (0 < k ∧ c.toNat = 0)
        · rw [if_pos h1, if_pos h1]
        · rw [if_neg h1, if_neg h1]
          have e : vsum ((c :: t).take (0 + 1)) = c.toNat := by
            simp [vsum]; omega
          rw [e]
          have hm : c.toNat * 2 ^ (7 * k) % 18446744073709551616 = 2 ^ (7 * k) * c.toNat := by
            rw [Nat.mul_comm]
            apply Nat.mod_eq_of_lt
            by_cases h9 : k = 9
            · have : c.toNat ≤ 1 := by
                rcases Nat.lt_or_ge 1 c.toNat with h2 | h2
                · exact absurd (.inl ⟨h9, h2⟩) h1
                · exact h2
              have h3 := pow7_le (k := k) (by omega)
              calc 2 ^ (7 * k) * c.toNat ≤ 2 ^ (7 * k) * 1 := Nat.mul_le_mul_left _ this
                _ < 18446744073709551616 := by omega
            · have h3 : 2 ^ (7 * k) ≤ 2 ^ 56 := Nat.pow_le_pow_right (by omega) (by omega)
              calc 2 ^ (7 * k) * c.toNat ≤ 2 ^ 56 * c.toNat := Nat.mul_le_mul_right _ h3
                _ < 18446744073709551616 := by omega
          rw [hm]
      · have h0 : hiN (c :: t) = hiN t + 1 := by simp only [hiN]; rw [if_neg hc]
        have ih := vtk_hi t (k + 1) (X + c.toNat % 128 * 2 ^ (7 * k) % 18446744073709551616) (by omega)
        rw [h0]
        simp only [vtk]
        rw [if_neg hc, show 9 - k = 10 - (k + 1) from by omega, ih]
        simp only [List.length_cons, List.getElem?_cons_succ, Nat.add_le_add_iff_right, show k + 1 + hiN t = k + (hiN t + 1) from by omega]
        split
        · rfl
        · rename_i h1
          split
          · rfl
          · split
            · rfl
            · have hm : c.toNat % 128 * 2 ^ (7 * k) % 18446744073709551616 = 2 ^ (7 * k) * (c.toNat % 128) := by
                rw [Nat.mul_comm]
                apply Nat.mod_eq_of_lt
                have h3 : 2 ^ (7 * k) ≤ 2 ^ 56 := Nat.pow_le_pow_right (by omega) (by omega)
                have h4 : c.toNat % 128 < 128 := Nat.mod_lt _ (by omega)
                calc 2 ^ (7 * k) * (c.toNat % 128) ≤ 2 ^ 56 * (c.toNat % 128) := Nat.mul_le_mul_right _ h3
                  _ < 18446744073709551616 := by omega
              have e : vsum ((c :: t).take (hiN t + 1 + 1)) = c.toNat % 128 + 128 * vsum (t.take (hiN t + 1)) := rfl
              rw [hm, e, pow7, Nat.mul_add, ← Nat.mul_assoc, Nat.add_assoc]
theorem vtake_hi (b : List UInt8) : vtake b =
    if 10 ≤ hiN b then (0, 0, 11) else if b.length ≤ hiN b then (0, 0, 10)
    else if (hiN b = 9 ∧ 1 < (b[hiN b]?.getD 0).toNat) ∨ (0 < hiN b ∧ (b[hiN b]?.getD 0).toNat = 0) then (0, 0, 11)
    else (vsum (b.take (hiN b + 1)), hiN b + 1, 0) := by
  have h := vtk_hi b 0 0 (by omega)
  simp only [Nat.zero_add, Nat.mul_zero, Nat.pow_zero, Nat.one_mul, Nat.sub_zero] at h
  exact h
/-- The sum from a place on, by one byte more. -/
theorem vsum_at {l : List UInt8} {i : Nat} (h : i < l.length) (m : Nat) : vsum ((l.drop i).take (m + 1)) = l[i].toNat % 128 + 128 * vsum ((l.drop (i + 1)).take m) := by
  rw [List.drop_eq_getElem_cons h]; rfl
theorem vsum_64 {b : List UInt8} (h9 : hiN b ≤ 9) (h : ¬ (hiN b = 9 ∧ 1 < (b[hiN b]?.getD 0).toNat)) (i : Nat) (hi : i ≤ hiN b + 1) (hl : hiN b < b.length) : vsum ((b.drop i).take (hiN b + 1 - i)) < 18446744073709551616 := by
  by_cases hn : hiN b = 9
  · have hc : (b[9]?.getD 0).toNat ≤ 1 := by
      rcases Nat.lt_or_ge 1 (b[9]?.getD 0).toNat with h2 | h2
      · exact absurd ⟨hn, by rw [hn]; exact h2⟩ h
      · exact h2
    rw [hn] at hl hi ⊢
    have key : ∀ j : Nat, j ≤ 9 → vsum ((b.drop (9 - j)).take (10 - (9 - j))) < 2 * 128 ^ j := by
      intro j
      induction j with
      | zero =>
        intro _
        have e : b[9]?.getD 0 = b[9] := by rw [List.getElem?_eq_getElem hl]; rfl
        rw [e] at hc
        show vsum ((b.drop 9).take (0 + 1)) < 2
        rw [vsum_at hl]
        simp [vsum]; omega
      | succ j ih =>
        intro hj
        have := ih (by omega)
        rw [show 10 - (9 - (j + 1)) = (10 - (9 - j)) + 1 from by omega, vsum_at (by omega), show 9 - (j + 1) + 1 = 9 - j from by omega]
        have e : 128 ^ (j + 1) = 128 ^ j * 128 := Nat.pow_succ ..
        omega
    by_cases hi10 : i = 10
    · subst hi10; simp [vsum]
    · have := key (9 - i) (by omega)
      rw [show 9 - (9 - i) = i from by omega] at this
      have h3 : 128 ^ (9 - i) ≤ 128 ^ 9 := Nat.pow_le_pow_right (by omega) (by omega)
      have h4 : (128 : Nat) ^ 9 = 9223372036854775808 := by decide
      rw [show 9 + 1 - i = 10 - i from by omega]
      omega
  · have h1 := vsum_lt 9 ((b.drop i).take (hiN b + 1 - i)) (by rw [List.length_take]; omega)
    have h4 : (128 : Nat) ^ 9 = 9223372036854775808 := by decide
    omega
end Go.Proofs.YtadakaenbemedaaGreatDoor

/-
  The document's number taken off bytes, walked.
-/
namespace Go.Proofs.YtadakaenbemedaaGreatDoor
open Go.RowKit

/-- What Take tells. -/
def TakeIs (w : World) (l : List UInt8) (e : Ending) (w' : World) : Prop := e = .returned (.tuple #[.int .u64 ((vtake l).1 : Nat), .int .i64 ((vtake l).2.1 : Nat), .int .i64 ((vtake l).2.2 : Nat)]) ∧ w = w'

set_option maxRecDepth 100000 in
set_option maxHeartbeats 1600000 in
theorem RefTake_any (A : Option Addr) (n c : Nat) (l : List UInt8) (hn : l.length = n) (w : World) (hS : Sees w w.heap.size A (bv l)) (hlen : n ≤ 1099511627776) :
    Calls Tryz.prog 69 #[.slice A n c] w (TakeIs w l) := by
  have HV := Lib.hid (vtake_hi l)
  have HN := Lib.hid hn
  have HLE := Lib.hid (hiN_le l)
  clear hn
  unfold TakeIs
  go_enter Tryz.func69, Tryz.ntmps69
  go_wp2
  go_loopg [5] n (fun g z wr => ∃ k : Nat, k + g = n ∧ z = .int .i64 k ∧ Hid (hiN l = k + hiN (l.drop k)) ∧ w = wr)
  case atStart => exact ⟨0, by omega, rfl, (by show _ = _; simp), rfl⟩
  case round =>
    obtain ⟨k, hk, rfl, hh, rfl⟩ := hrel
    by_cases hlt : k < n
    · obtain ⟨ad, rfl, hb, hcell⟩ := hS.at_ (k := k) (by rw [bv_length, HN.out]; exact hlt)
      rw [bv_get l k (by have := HN.out; omega)] at hcell
      have hst := Lib.hid (hiN_at (l := l) (k := k) (by have := HN.out; omega))
      have hget := List.getElem?_eq_getElem (l := l) (i := k) (by have := HN.out; omega)
      generalize l[k]'(by have := HN.out; omega) = cb at hcell hst hget
      have HG := Lib.hid hget
      have hcb256 : (cb.toNat : Int) < 256 := by have := cb.toNat_lt; omega
      clear hget
      by_cases hc : (128 : Int) ≤ (cb.toNat : Int)
      · have HH : Hid (hiN l = (k + 1) + hiN (l.drop (k + 1))) := by
          have h1 := hst.out
          rw [if_neg (by omega)] at h1
          unfold Hid; rw [hh.out, h1]; omega
        clear hst hh
        go_wp2
        go_roundg (n - (k + 1))
        case measure => omega
        case rel => exact ⟨k + 1, by omega, by go_num, HH, rfl⟩
      · have HH : Hid (hiN l = k) := by
          have h1 := hst.out
          rw [if_pos (by omega)] at h1
          unfold Hid; rw [hh.out, h1]; rfl
        clear hst hh
        have HV2 : Hid (vtake l = if 10 ≤ k then (0, 0, 11) else if (k = 9 ∧ 1 < cb.toNat) ∨ (0 < k ∧ cb.toNat = 0) then (0, 0, 11) else (vsum (l.take (k + 1)), k + 1, 0)) := by
          have h1 := HV.out
          rw [HH.out, HG.out, if_neg (c := l.length ≤ k) (by have := HN.out; omega)] at h1
          exact h1
        clear HV
        by_cases h10 : 10 ≤ k
        · have HF : Hid (vtake l = (0, 0, 11)) := by have := HV2.out; rw [if_pos h10] at this; exact this
          go_wp2
          go_ret3
          rw [HF.out]
          exact ⟨rfl, rfl⟩
        have HV3 : Hid (vtake l = if (k = 9 ∧ 1 < cb.toNat) ∨ (0 < k ∧ cb.toNat = 0) then (0, 0, 11) else (vsum (l.take (k + 1)), k + 1, 0)) := by have := HV2.out; rw [if_neg h10] at this; exact this
        clear HV2
        obtain ⟨bo, hbo⟩ : ∃ bo : Bool, decide ((k = 9 ∧ 1 < cb.toNat) ∨ (0 < k ∧ cb.toNat = 0)) = bo := ⟨_, rfl⟩
        have HBO := Lib.hid hbo
        clear hbo
        go_upto_region 8 with fail
        go_cut [45] (fun t wx => t = .bool bo ∧ wx = w)
        case first =>
          by_cases k9 : k = 9
          · have e9 : ((k : Int) == 9) = true := by rw [beq_iff_eq]; omega
            have h9c : w.cell? (ad.add 9) = some (.int .u8 (cb.toNat : Int)) := by rw [← k9]; exact hcell
            have k0 : 0 < k := by omega
            have k0' : (0 : Int) < (k : Int) := by omega
            have hl9 : 9 < n := by omega
            have h9d : w.cell? ⟨ad.block, ad.off + 9, none⟩ = some (.int .u8 (cb.toNat : Int)) := by have h := h9c; unfold Addr.add at h; rw [if_neg (by omega)] at h; exact h
            clear h9c
            have HK9 := Lib.hid k9
            clear k9
            by_cases h1 : (1 : Int) < (cb.toNat : Int)
            · have HB : Hid (bo = true) := by rw [Hid, ← HBO.out, decide_eq_true_eq]; exact .inl ⟨HK9.out, by omega⟩
              go_wp2
              go_meet
              exact ⟨by rw [HB.out], rfl⟩
            · by_cases h0 : (cb.toNat : Int) ≤ 0
              · have e0 : ((cb.toNat : Int) == 0) = true := by rw [beq_iff_eq]; omega
                have HB : Hid (bo = true) := by rw [Hid, ← HBO.out, decide_eq_true_eq]; exact .inr ⟨k0, by omega⟩
                go_wp2
                go_meet
                exact ⟨by rw [HB.out], rfl⟩
              · have e0 : ((cb.toNat : Int) == 0) = false := by rw [beq_eq_false_iff_ne]; omega
                have HB : Hid (bo = false) := by rw [Hid, ← HBO.out, decide_eq_false_iff_not]; omega
                go_wp2
                go_meet
                exact ⟨by rw [HB.out], rfl⟩
          · have e9 : ((k : Int) == 9) = false := by rw [beq_eq_false_iff_ne]; omega
            by_cases k0 : (0 : Int) < (k : Int)
            · by_cases h0 : (cb.toNat : Int) ≤ 0
              · have e0 : ((cb.toNat : Int) == 0) = true := by rw [beq_iff_eq]; omega
                have HB : Hid (bo = true) := by rw [Hid, ← HBO.out, decide_eq_true_eq]; exact .inr ⟨by omega, by omega⟩
                clear k9
                go_wp2
                go_meet
                exact ⟨by rw [HB.out], rfl⟩
              · have e0 : ((cb.toNat : Int) == 0) = false := by rw [beq_eq_false_iff_ne]; omega
                have HB : Hid (bo = false) := by rw [Hid, ← HBO.out, decide_eq_false_iff_not]; omega
                clear k9
                go_wp2
                go_meet
                exact ⟨by rw [HB.out], rfl⟩
            · have HB : Hid (bo = false) := by rw [Hid, ← HBO.out, decide_eq_false_iff_not]; omega
              clear k9
              go_wp2
              go_meet
              exact ⟨by rw [HB.out], rfl⟩
        case rest =>
          obtain ⟨rfl, rfl⟩ := hcut
          cases bo with
          | true =>
            have HF : Hid (vtake l = (0, 0, 11)) := by have := HV3.out; rw [if_pos (of_decide_eq_true HBO.out)] at this; exact this
            clear HV3
            go_wp2
            go_ret3
            rw [HF.out]
            exact ⟨rfl, rfl⟩
          | false =>
            have HF : Hid (vtake l = (vsum (l.take (k + 1)), k + 1, 0)) := by have := HV3.out; rw [if_neg (of_decide_eq_false HBO.out)] at this; exact this
            have H64 : Hid (∀ i, i ≤ k + 1 → vsum ((l.drop i).take (k + 1 - i)) < 18446744073709551616) := fun i hi => by
              have h1 := vsum_64 (b := l) (by rw [HH.out]; omega) (by rw [HH.out, HG.out]; show ¬ (k = 9 ∧ 1 < cb.toNat); have := of_decide_eq_false HBO.out; omega) i (by rw [HH.out]; exact hi) (by rw [HH.out]; have := HN.out; omega)
              rw [HH.out] at h1
              exact h1
            clear HV3
            go_wp2
            go_loopg [6, 7] (k + 1) (fun g u z wr => ∃ (x : Nat) (i : Int), z = .int .i64 i ∧ u = .int .u64 x ∧ Hid ((g : Int) = i + 1) ∧ Hid (g ≤ k + 1) ∧ Hid (x = vsum ((l.drop g).take (k + 1 - g))) ∧ wc = wr)
            case atStart => exact ⟨0, k, rfl, rfl, (by show _ = _; omega), Nat.le_refl _, (by show _ = _; simp [vsum]), rfl⟩
            case round =>
              obtain ⟨x, i, rfl, rfl, hg, hgk, hx, rfl⟩ := hrel
              by_cases hi : (0 : Int) ≤ i
              · obtain ⟨j, rfl⟩ : ∃ j : Nat, i = (j : Int) := ⟨i.toNat, by omega⟩
                have hgj : Hid (gk = j + 1) := (by show _ = _; have := hg.out; omega)
                have hjk : j ≤ k := by have := hgj.out; have := hgk.out; omega
                obtain ⟨ad2, had2, hb2, hcell⟩ := hS.at_ (k := j) (by rw [bv_length, HN.out]; omega)
                injection had2 with had2
                subst had2
                rw [bv_get l j (by have := HN.out; omega)] at hcell
                have hst := vsum_at (l := l) (i := j) (by have := HN.out; omega) (k + 1 - (j + 1))
                have h6 := H64.out j (by omega)
                rw [show k + 1 - (j + 1) + 1 = k + 1 - j from by omega] at hst
                rw [hst] at h6
                generalize l[j]'(by have := HN.out; omega) = cb at hcell hst h6
                have hcb256 : (cb.toNat : Int) < 256 := by have := cb.toNat_lt; omega
                have hx' : Hid (vsum ((l.drop (j + 1)).take (k + 1 - (j + 1))) = x) := by have := hx.out; rw [hgj.out] at this; exact this.symm
                rw [hx'.out] at hst h6
                have HST := Lib.hid hst
                have hX1 : (x : Int) * 128 < 18446744073709551616 := by omega
                have hX2 : (x : Int) * 128 + (cb.toNat : Int) % 128 < 18446744073709551616 := by omega
                have hw1 : IntKind.u64.wrap ((x : Int) * 128) = (x : Int) * 128 := by rw [IntKind.wrap_u64]; omega
                have hw2 : IntKind.u64.wrap ((x : Int) * 128 + (cb.toNat : Int) % 128) = (x : Int) * 128 + (cb.toNat : Int) % 128 := by rw [IntKind.wrap_u64]; omega
                clear hst h6 hg hx hx' hgk
                go_wp2
                go_roundg j
                case measure => have := hgj.out; omega
                case rel => exact ⟨cb.toNat % 128 + 128 * x, (j : Int) - 1, by go_num, (by first | (congr 1; omega) | go_num), (by show _ = _; omega), (by show _ ≤ _; omega), (by show _ = _; rw [HST.out]), rfl⟩
              · have hg0 : Hid (gk = 0) := (by show _ = _; have := hg.out; omega)
                have HX : Hid (x = vsum (l.take (k + 1))) := by have := hx.out; rw [hg0.out] at this; unfold Hid; simpa using this
                clear hg hx hgk
                go_wp2
                go_ret3
                rw [HF.out, ← HX.out]
                exact ⟨ret3 rfl (by show _ = ((k + 1 : Nat) : Int); omega) rfl, rfl⟩
    · have HH : Hid (hiN l = n) := by
        have h1 := hiN_end (l := l) (k := k) (by have := HN.out; omega)
        unfold Hid; rw [hh.out, h1]; omega
      clear hh
      have HV2 : Hid (vtake l = if 10 ≤ n then (0, 0, 11) else (0, 0, 10)) := by
        have h1 := HV.out
        rw [HH.out, if_pos (c := l.length ≤ n) (by rw [HN.out]; exact Nat.le_refl _)] at h1
        exact h1
      clear HV
      have hkn : Hid (k = n) := (by show _ = _; omega)
      by_cases h10 : 10 ≤ k
      · have HF : Hid (vtake l = (0, 0, 11)) := by have := HV2.out; rw [if_pos (by have := hkn.out; omega)] at this; exact this
        go_wp2
        go_ret3
        rw [HF.out]
        exact ⟨rfl, rfl⟩
      · have HF : Hid (vtake l = (0, 0, 10)) := by have := HV2.out; rw [if_neg (by have := hkn.out; omega)] at this; exact this
        go_wp2
        go_ret3
        rw [HF.out]
        exact ⟨rfl, rfl⟩
end Go.Proofs.YtadakaenbemedaaGreatDoor

/-
  The document's frames taken off bytes, walked.
-/
namespace Go.Proofs.YtadakaenbemedaaGreatDoor
open Go.RowKit

/-- What Next tells. -/
def RNextIs (w : World) (b : List UInt8) (e : Ending) (w' : World) : Prop :=
  ∃ (k : Nat) (A : Option Addr) (n c en : Nat) (er : Nat), e = .returned (.tuple #[.int .i64 (k : Nat), .slice A n c, .int .i64 (en : Nat), .int .i64 (er : Nat)]) ∧ Below w.heap.size w w' ∧ er = (fnext b).2.2.2 ∧
    (er = 0 → k = (fnext b).1 ∧ (fnext b).2.1.length = n ∧ n ≤ c ∧ Sees w' w'.heap.size A (bv (fnext b).2.1) ∧ en ≤ b.length ∧ b.drop en = (fnext b).2.2.1 ∧ 5 ≤ en)
theorem RNextIs.err {w w' : World} {b : List UInt8} {er : Nat} (h : (fnext b).2.2.2 = er) (h0 : er ≠ 0) (hb : Below w.heap.size w w') : RNextIs w b (.returned (.tuple #[.int .i64 0, .slice none 0 0, .int .i64 0, .int .i64 (er : Nat)])) w' :=
  ⟨0, none, 0, 0, 0, er, rfl, hb, h.symm, fun h1 => absurd h1 h0⟩
theorem results_tmp4 {fn : Func} {t u v x : Tmp} (h : fn.results = #[.tmp t, .tmp u, .tmp v, .tmp x]) (tmps : Array Value) (P : Program) (w : World) :
    (results fn tmps).run P w = .ok (.tuple #[tmps.getD t undef, tmps.getD u undef, tmps.getD v undef, tmps.getD x undef]) w := by
  simp [results, h]
theorem fnext_nil : (fnext []).2.2.2 = 10 := rfl
/-- fnext by what is taken. -/
theorem fnext_at {b : List UInt8} (h : 0 < b.length) (x k e : Nat) (hv : vtake (b.drop 1) = (x, k, e)) : fnext b =
    if e ≠ 0 then (0, [], [], e) else if 65535 < x then (0, [], [], 11)
    else if b.length < 1 + k + x + 4 then (0, [], [], 10)
    else if tail4 (crc (b.take (1 + k + x))) = (b.drop (1 + k + x)).take 4 then ((b[0]).toNat, (b.drop (1 + k)).take x, b.drop (1 + k + x + 4), 0)
    else (0, [], [], 50) := by
  cases b with
  | nil => simp at h
  | cons a t =>
    have hv' : vtake t = (x, k, e) := hv
    have hk : k ≤ t.length := by have := vtake_le t; rw [hv'] at this; exact this
    simp only [fnext, hv']
    by_cases h1 : e ≠ 0
    · rw [if_pos h1, if_pos h1]
    · rw [if_neg h1, if_neg h1]
      by_cases h2 : 65535 < x
      · rw [if_pos h2, if_pos h2]
      · rw [if_neg h2, if_neg h2]
        by_cases h3 : (a :: t).length < 1 + k + x + 4
        · rw [if_pos h3, if_pos (by rw [List.length_drop]; rw [List.length_cons] at h3; omega)]
        · rw [if_neg h3, if_neg (by rw [List.length_drop]; rw [List.length_cons] at h3; omega)]
          have e1 : (a :: t).take (1 + k + x + 4) = (a :: t).take (1 + k + x) ++ ((a :: t).drop (1 + k + x)).take 4 := List.take_add
          have e2 : (sealB ((a :: t).take (1 + k + x)) == (a :: t).take (1 + k + x + 4)) = decide (tail4 (crc ((a :: t).take (1 + k + x))) = ((a :: t).drop (1 + k + x)).take 4) := by
            unfold sealB
            rw [e1, Bool.eq_iff_iff, beq_iff_eq, decide_eq_true_eq]
            exact ⟨fun h => List.append_cancel_left h, fun h => by rw [h]⟩
          rw [e2]
          have e3 : (a :: t).drop (1 + k) = t.drop k := by rw [Nat.add_comm]; rfl
          have e4 : (a :: t).drop (1 + k + x + 4) = (t.drop k).drop (x + 4) := by rw [List.drop_drop, show 1 + k + x + 4 = (k + (x + 4)) + 1 from by omega]; rfl
          rw [e3, e4]
          by_cases h4 : tail4 (crc ((a :: t).take (1 + k + x))) = ((a :: t).drop (1 + k + x)).take 4
          · rw [if_pos h4, decide_eq_true h4, if_pos rfl]; rfl
          · rw [if_neg h4, decide_eq_false h4, if_neg (by simp)]
theorem strOf_eqN (l r : List UInt8) : ((strOf l).toList != (strOf r).toList) = !decide (l = r) ∧ ((strOf l).toList == (strOf r).toList) = decide (l = r) := by
  have h : ((strOf l).toList == (strOf r).toList) = decide (l = r) := by rw [strOf_toList, strOf_toList, Bool.eq_iff_iff, beq_iff_eq, decide_eq_true_eq]
  exact ⟨by rw [bne, h], h⟩

set_option maxRecDepth 100000 in
set_option maxHeartbeats 3200000 in
theorem RefNext_any (A : Option Addr) (n c : Nat) (b : List UInt8) (hn : b.length = n) (hnc : n ≤ c) (w : World) (hS : Sees w w.heap.size A (bv b)) (hlen : n ≤ 1099511627776) :
    Calls Tryz.prog 45 #[.slice A n c] w (RNextIs w b) := by
  by_cases h0 : n ≤ 0
  · have hb0 : b = [] := List.eq_nil_of_length_eq_zero (by omega)
    have HB0 := Lib.hid hb0
    have e0 : ((n : Int) == 0) = true := by rw [beq_iff_eq]; omega
    clear hn hb0
    go_enter Tryz.func45, Tryz.ntmps45
    go_wp2_with fail
    (try simp only [Exit.inBlock, Exit.then])
    refine bodyPost_ret (results_tmp4 rfl _ _ _) rfl ?_
    exact RNextIs.err (er := 10) (by rw [HB0.out]; rfl) (by simp) (Below.refl _ _)
  · have e0 : ((n : Int) == 0) = false := by rw [beq_eq_false_iff_ne]; omega
    have hb0 : 0 < b.length := by omega
    obtain ⟨ad, rfl, hadB, hc0⟩ := hS.at_ (k := 0) (by rw [bv_length]; exact hb0)
    rw [bv_get b 0 hb0] at hc0
    obtain ⟨A1, hA1⟩ : ∃ A1, (if c = 1 then some ad else some (⟨ad.block, ad.off + 1, none⟩ : Addr)) = A1 := ⟨_, rfl⟩
    have hS1 : Sees w w.heap.size A1 (bv (b.drop 1)) := by
      have h1 := hS.cut (k := 1) (cap := c) (by rw [bv_length, hn]; exact hnc)
      simp only [Nat.mul_one, ← bv_drop] at h1
      rw [show (some ad).map (fun x => x.add 1) = some (⟨ad.block, ad.off + 1, none⟩ : Addr) from by simp [Addr.add], hA1] at h1
      exact h1
    have hT := Lib.hid (RefTake_any A1 (n - 1) (c - 1) (b.drop 1) (by rw [List.length_drop, hn]) w hS1 (by omega))
    have hk := vtake_le (b.drop 1)
    rw [List.length_drop, hn] at hk
    obtain ⟨x, k, e, hv⟩ : ∃ x k e, vtake (b.drop 1) = (x, k, e) := ⟨_, _, _, rfl⟩
    have hf := fnext_at hb0 x k e hv
    unfold TakeIs at hT
    rw [hv] at hT hk
    simp only at hT hk
    have HF := Lib.hid hf
    have HN := Lib.hid hn
    have i1 : (1 : Int) ≤ (n : Int) := by omega
    clear hn hf hv
    go_enter Tryz.func45, Tryz.ntmps45
    go_wp2_with fail
    refine hT.out.mono ?_
    rintro en w2 ⟨rfl, rfl⟩
    by_cases he : e = 0
    rotate_left
    · have hei : ((e : Int) != 0) = true := by rw [bne_iff_ne]; omega
      have HE : Hid ((fnext b).2.2.2 = e) := by have := HF.out; rw [if_pos he] at this; unfold Hid; rw [this]
      have HE0 := Lib.hid he
      clear he hT
      go_wp2_with fail
      (try simp only [Exit.inBlock, Exit.then])
      refine bodyPost_ret (results_tmp4 rfl _ _ _) rfl ?_
      exact RNextIs.err HE.out HE0.out (Below.refl _ _)
    subst he
    by_cases hx : (65535 : Int) < (x : Int)
    · have HE : Hid ((fnext b).2.2.2 = 11) := by have := HF.out; rw [if_neg (by simp), if_pos (by omega)] at this; unfold Hid; rw [this]
      clear hT
      go_wp2_with fail
      (try simp only [Exit.inBlock, Exit.then])
      refine bodyPost_ret (results_tmp4 rfl _ _ _) rfl ?_
      exact RNextIs.err HE.out (by simp) (Below.refl _ _)
    obtain ⟨fr, hfr⟩ : ∃ fr, 1 + k = fr := ⟨_, rfl⟩
    have hw1 : IntKind.i64.wrap (1 + (k : Int)) = (fr : Int) := by rw [IntKind.wrap_i64]; omega
    have hwx : IntKind.i64.wrap (x : Int) = (x : Int) := by rw [IntKind.wrap_i64]; omega
    obtain ⟨te, hto⟩ : ∃ te, fr + x = te := ⟨_, rfl⟩
    have hw2 : IntKind.i64.wrap ((fr : Int) + (x : Int)) = (te : Int) := by rw [IntKind.wrap_i64]; omega
    obtain ⟨fi, hfi⟩ : ∃ fi, te + 4 = fi := ⟨_, rfl⟩
    have hw4 : IntKind.i64.wrap ((te : Int) + 4) = (fi : Int) := by rw [IntKind.wrap_i64]; omega
    rw [hfr, hto, hfi] at HF
    by_cases hsh : (n : Int) < (fi : Int)
    · have HE : Hid ((fnext b).2.2.2 = 10) := by have := HF.out; rw [if_neg (by simp), if_neg (by omega), if_pos (by rw [HN.out]; omega)] at this; unfold Hid; rw [this]
      clear hT hfr hto hfi
      go_wp2_with fail
      (try simp only [Exit.inBlock, Exit.then])
      refine bodyPost_ret (results_tmp4 rfl _ _ _) rfl ?_
      exact RNextIs.err HE.out (by simp) (Below.refl _ _)
    have HF2 : Hid (fnext b = if tail4 (crc (b.take te)) = (b.drop te).take 4 then ((b[0]).toNat, (b.drop fr).take x, b.drop fi, 0) else (0, [], [], 50)) := by
      have := HF.out; rw [if_neg (by simp), if_neg (by omega), if_neg (by rw [HN.out]; omega)] at this; exact this
    obtain ⟨z0, hz0⟩ : ∃ z0, (b[0]).toNat = z0 := ⟨_, rfl⟩
    rw [hz0] at hc0 HF2
    clear HF
    have hfn : fr ≤ te ∧ te + 4 ≤ n ∧ 1 ≤ fr := by omega
    obtain ⟨hf1, hf2, hf3⟩ := hfn
    have HTO := Lib.hid hto
    have HFI := Lib.hid hfi
    have HFR := Lib.hid hfr
    have j1 : (fr : Int) ≤ (te : Int) := by omega
    have j2 : (te : Int) ≤ (fi : Int) := by omega
    have j3 : (fi : Int) ≤ (n : Int) := by omega
    have j4 : fi ≤ c := by omega
    have j5 : te ≤ c := by omega
    have j6 : te < c := by omega
    have j7 : fr < c := by omega
    clear hfr hto hfi hk
    have hz256 : (z0 : Int) < 256 := by have := b[0].toNat_lt; omega
    clear hz0
    have hS4 : Sees w w.heap.size (some (ad.add te)) (bv ((b.drop te).take (fi - te))) := by
      have h1 := (hS.cut' te).take (fi - te)
      rw [← bv_drop, ← bv_take] at h1
      exact h1
    have cvA := run_str w w.heap.size (some (ad.add te)) (fi - te) (c - te) ((b.drop te).take (fi - te)) hS4 (by rw [List.length_take, List.length_drop, HN.out]; have := HFI.out; omega)
    have hSto : Sees w w.heap.size (some ad) (bv (b.take te)) := by
      have h1 := hS.take te
      rw [← bv_take] at h1
      exact h1
    have hTl := fun W hb => Lib.hid (refTail_any (some ad) te c (b.take te) (by rw [List.length_take, HN.out]; omega) W (hb : Sees W W.heap.size (some ad) (bv (b.take te))) (by rw [List.length_take]; omega))
    obtain ⟨s1, hs1⟩ : ∃ s1, strOf ((b.drop te).take (fi - te)) = s1 := ⟨_, rfl⟩
    rw [hs1] at cvA
    have HS1 := Lib.hid hs1
    have hl4 : Hid (fi - te = 4) := by have := HFI.out; unfold Hid; omega
    have hcv := fun (W : World) (hb : Below w.heap.size w W) => run_str W W.heap.size (some (ad.add te)) (fi - te) (c - te) ((b.drop te).take (fi - te)) ((hS4.below hb).more hb.size) (by rw [List.length_take, List.length_drop, HN.out]; have := HFI.out; omega)
    simp only [hs1] at hcv
    have HCV := Lib.hid hcv
    have hcte : (c = te) = False := by simp; omega
    have HTL := Lib.hid hTl
    clear hs1 hcv hTl hT
    go_upto_region 12 with fail
    refine wp_region_noPanic ?_
    refine wp_region_held_drew (S := fun w' => (convert 27 9 (.slice (some (ad.add te)) (fi - te) (c - te))).run Tryz.prog w' = .ok (.string s1) w') (by kernel_rfl) ?_ (fun hHeld => ?_)
    · (exact HCV.out _ (below_drew (Below.refl _ _)))
    refine wpAnyH_take (i := 0) (oi := { dst := some 37, op := Op.move (Operand.tmp 0), type := 27, pos := "ref.go:63", after := #[], guard := none }) (v := ?_) rfl (by kernel_rfl) (by kernel_rfl) (by kernel_rfl) (fun _ _ _ h => h) (Or.inl ⟨by rfl, ?_⟩) hHeld ?_
    rotate_left
    · (intro w' hSw; (try dsimp only at hSw); go_split_ands; go_simp; first | done | with_reducible rfl)
    try simp only [Act.put, List.setIfInBounds_toArray, List.set_cons_zero, List.set_cons_succ]
    refine wpAnyH_take (i := 1) (oi := { dst := some 38, op := Op.move (Operand.tmp 10), type := 3, pos := "ref.go:63", after := #[], guard := none }) (v := ?_) rfl (by kernel_rfl) (by kernel_rfl) (by kernel_rfl) (fun _ _ _ h => h) (Or.inl ⟨by rfl, ?_⟩) hHeld ?_
    rotate_left
    · (intro w' hSw; (try dsimp only at hSw); go_split_ands; go_simp; first | done | with_reducible rfl)
    try simp only [Act.put, List.setIfInBounds_toArray, List.set_cons_zero, List.set_cons_succ]
    refine wpAnyH_take (i := 2) (oi := { dst := some 39, op := Op.move (Operand.tmp 10), type := 3, pos := "ref.go:63", after := #[], guard := none }) (v := ?_) rfl (by kernel_rfl) (by kernel_rfl) (by kernel_rfl) (fun _ _ _ h => h) (Or.inl ⟨by rfl, ?_⟩) hHeld ?_
    rotate_left
    · (intro w' hSw; (try dsimp only at hSw); go_split_ands; go_simp; first | done | with_reducible rfl)
    try simp only [Act.put, List.setIfInBounds_toArray, List.set_cons_zero, List.set_cons_succ]
    refine wpAnyH_take (i := 3) (oi := { dst := some 40, op := Op.binOp BinOp.add 3 (Operand.tmp 39) (Operand.const (Value.int IntKind.i64 4)) 3, type := 3, pos := "ref.go:63", after := #[{ on := 2, ground := Ground.data }], guard := none }) (v := ?_) rfl (by kernel_rfl) (by kernel_rfl) (by kernel_rfl) (fun _ _ _ h => h) (Or.inl ⟨by rfl, ?_⟩) hHeld ?_
    rotate_left
    · (intro w' hSw; (try dsimp only at hSw); go_split_ands; go_simp; first | done | with_reducible rfl)
    try simp only [Act.put, List.setIfInBounds_toArray, List.set_cons_zero, List.set_cons_succ]
    refine wpAnyH_take (i := 4) (oi := { dst := some 41, op := Op.slice 27 (Operand.tmp 37) (some (Operand.tmp 38)) (some (Operand.tmp 40)) none, type := 27, pos := "ref.go:63", after := #[{ on := 0, ground := Ground.data }, { on := 1, ground := Ground.data }, { on := 3, ground := Ground.data }], guard := none }) (v := ?_) rfl (by kernel_rfl) (by kernel_rfl) (by kernel_rfl) (fun _ _ _ h => h) (Or.inl ⟨by rfl, ?_⟩) hHeld ?_
    rotate_left
    · (intro w' hSw; (try dsimp only at hSw); go_split_ands; go_simp; first | done | with_reducible rfl)
    try simp only [Act.put, List.setIfInBounds_toArray, List.set_cons_zero, List.set_cons_succ]
    refine wpAnyH_take (i := 5) (oi := { dst := some 42, op := Op.convert 27 9 (Operand.tmp 41), type := 9, pos := "ref.go:63", after := #[{ on := 4, ground := Ground.data }], guard := none }) (v := ?_) rfl (by kernel_rfl) (by kernel_rfl) (by kernel_rfl) (fun _ _ _ h => h) (Or.inl ⟨by rfl, ?_⟩) hHeld ?_
    rotate_left
    · (intro w' hSw; (try dsimp only at hSw); go_split_ands; go_simp; first | done | with_reducible rfl)
    try simp only [Act.put, List.setIfInBounds_toArray, List.set_cons_zero, List.set_cons_succ]
    refine wpAnyH_take (i := 6) (oi := { dst := some 43, op := Op.move (Operand.tmp 0), type := 27, pos := "ref.go:63", after := #[], guard := none }) (v := ?_) rfl (by kernel_rfl) (by kernel_rfl) (by kernel_rfl) (fun _ _ _ h => h) (Or.inl ⟨by rfl, ?_⟩) hHeld ?_
    rotate_left
    · (intro w' hSw; (try dsimp only at hSw); go_split_ands; go_simp; first | done | with_reducible rfl)
    try simp only [Act.put, List.setIfInBounds_toArray, List.set_cons_zero, List.set_cons_succ]
    refine wpAnyH_take (i := 7) (oi := { dst := some 44, op := Op.move (Operand.tmp 10), type := 3, pos := "ref.go:63", after := #[], guard := none }) (v := ?_) rfl (by kernel_rfl) (by kernel_rfl) (by kernel_rfl) (fun _ _ _ h => h) (Or.inl ⟨by rfl, ?_⟩) hHeld ?_
    rotate_left
    · (intro w' hSw; (try dsimp only at hSw); go_split_ands; go_simp; first | done | with_reducible rfl)
    try simp only [Act.put, List.setIfInBounds_toArray, List.set_cons_zero, List.set_cons_succ]
    refine wpAnyH_take (i := 8) (oi := { dst := some 45, op := Op.slice 27 (Operand.tmp 43) none (some (Operand.tmp 44)) none, type := 27, pos := "ref.go:63", after := #[{ on := 6, ground := Ground.data }, { on := 7, ground := Ground.data }], guard := none }) (v := ?_) rfl (by kernel_rfl) (by kernel_rfl) (by kernel_rfl) (fun _ _ _ h => h) (Or.inl ⟨by rfl, ?_⟩) hHeld ?_
    rotate_left
    · (intro w' hSw; (try dsimp only at hSw); go_split_ands; go_simp; first | done | with_reducible rfl)
    try simp only [Act.put, List.setIfInBounds_toArray, List.set_cons_zero, List.set_cons_succ]
    refine wpAnyH_ready (rs := [9]) (by kernel_rfl) (by simp) ?_
    refine AllReadyH.cons (o := { dst := some 46, op := Op.call { callee := Callee.value (Operand.func 70), args := #[Operand.tmp 45], argTypes := #[27] }, type := 27, pos := "ref.go:63", after := #[{ on := 8, ground := Ground.data }], guard := none }) rfl (fun K hK => ?_) AllReadyH.nil
    go_simp
    refine (HTL.out w.drew (hSto.drewN 1)).out.mono ?_
    rintro en w3 ⟨v3, rfl, hown3, hb3'⟩
    have hb3 : Below w.heap.size w w3 := below_undrew hb3'
    obtain ⟨A3, c3, rfl, hc3, -, -, hs3⟩ := hown3.open_
    go_wp2_with fail
    refine hK.out _ _ ?_ ?_
    · (exact HCV.out _ hb3)
    clear hK K hHeld; intro hHeld
    try simp only [Act.put, List.setIfInBounds_toArray, List.set_cons_zero, List.set_cons_succ]
    refine wpAnyH_ready (rs := [10]) (by kernel_rfl) (by simp) ?_
    refine AllReadyH.cons (o := { dst := some 47, op := Op.convert 27 9 (Operand.tmp 46), type := 9, pos := "ref.go:63", after := #[{ on := 9, ground := Ground.data }], guard := none }) rfl (fun K hK => ?_) AllReadyH.nil
    have cv3 := run_str w3 w3.heap.size A3 (tail4 (crc (b.take te))).length c3 (tail4 (crc (b.take te))) hs3 rfl
    obtain ⟨s2, hs2⟩ : ∃ s2, strOf (tail4 (crc (b.take te))) = s2 := ⟨_, rfl⟩
    rw [hs2] at cv3
    have HS2 := Lib.hid hs2
    clear hs2 hHeld
    go_simp
    have hHeld : True := trivial
    refine hK.out _ _ ?_ ?_
    · (exact HCV.out _ hb3)
    clear hK K hHeld; intro hHeld
    try simp only [Act.put, List.setIfInBounds_toArray, List.set_cons_zero, List.set_cons_succ]
    refine wpAnyH_take (i := 11) (oi := { dst := some 48, op := Op.binOp BinOp.neq 9 (Operand.tmp 42) (Operand.tmp 47) 9, type := 4, pos := "ref.go:63", after := #[{ on := 5, ground := Ground.data }, { on := 10, ground := Ground.data }], guard := none }) (v := ?_) rfl (by kernel_rfl) (by kernel_rfl) (by kernel_rfl) (fun _ _ _ h => h) (Or.inl ⟨by rfl, ?_⟩) hHeld ?_
    rotate_left
    · (intro w' hSw; (try dsimp only at hSw); go_split_ands; go_simp; first | done | with_reducible rfl)
    try simp only [Act.put, List.setIfInBounds_toArray, List.set_cons_zero, List.set_cons_succ]
    refine wpAnyH_done (by kernel_rfl) ?_ _
    refine NoPanic.normal ?_
    have hq := strOf_eqN ((b.drop te).take (fi - te)) (tail4 (crc (b.take te)))
    rw [HS1.out, HS2.out, hl4.out] at hq
    have hb3' : Below w.heap.size w w3 := hb3
    have hc3 : w3.cell? ad = some (.int .u8 (z0 : Int)) := (hb3.cell hadB).trans hc0
    have HB3 := Lib.hid hb3
    by_cases htl : tail4 (crc (b.take te)) = (b.drop te).take 4
    · rw [decide_eq_true htl.symm] at hq
      obtain ⟨q1, q2⟩ := hq
      have q3 : (!s1.toList == s2.toList) = false := by rw [q2]; rfl
      have hwz : IntKind.i64.wrap (z0 : Int) = (z0 : Int) := by rw [IntKind.wrap_i64]; omega
      have HE : Hid (fnext b = (z0, (b.drop fr).take x, b.drop fi, 0)) := by have := HF2.out; rw [if_pos htl] at this; exact this
      have hS6 : Sees w w.heap.size (some (ad.add fr)) (bv ((b.drop fr).take x)) := by
        have h1 := (hS.cut' fr).take x
        rw [← bv_drop, ← bv_take] at h1
        exact h1
      have HS6 := Lib.hid hS6
      have hcfr : (c = fr) = False := by simp; omega
      clear htl hHeld q1 hc0 hS6 cv3 cvA
      simp only [q2, Bool.not_true]
      go_wp2_with fail
      go_quiet (fail)
      go_wp2_with fail
      (try simp only [Exit.inBlock, Exit.then])
      refine bodyPost_ret (results_tmp4 rfl _ _ _) rfl ?_
      refine ⟨z0, some (ad.add fr), te - fr, c - fr, fi, 0, rfl, below_d HB3.out _, by rw [HE.out], fun _ => ?_⟩
      rw [HE.out]
      have h1 := HTO.out
      have h2 := HFI.out
      have h3 := HFR.out
      refine ⟨rfl, ?_, by omega, ((HS6.out.below HB3.out).more HB3.out.size).drewN _, by rw [HN.out]; omega, rfl, by omega⟩
      show ((b.drop fr).take x).length = _
      rw [List.length_take, List.length_drop, HN.out]
      omega
    · rw [decide_eq_false (fun h => htl h.symm)] at hq
      obtain ⟨q1, q2⟩ := hq
      have q3 : (!s1.toList == s2.toList) = true := by rw [q2]; rfl
      have HE : Hid ((fnext b).2.2.2 = 50) := by have := HF2.out; rw [if_neg htl] at this; unfold Hid; rw [this]
      clear htl hHeld q1 hc0 cv3 cvA
      simp only [q2, Bool.not_false]
      go_wp2_with fail
      (try simp only [Exit.inBlock, Exit.then])
      refine bodyPost_ret (results_tmp4 rfl _ _ _) rfl ?_
      exact RNextIs.err HE.out (by simp) HB3.out
end Go.Proofs.YtadakaenbemedaaGreatDoor

/-
  The document's check of items and their bytes, walked.
-/
namespace Go.Proofs.YtadakaenbemedaaGreatDoor
open Go.RowKit

theorem check_of_ok {ls : List Item} (h8 : ls.length ≤ 8) (h0 : 0 < ls.length) (h : okB ls = true) : checkN ls = 0 := by
  obtain ⟨h1, h2⟩ := ok_parts h
  unfold checkN
  rw [if_neg (by omega), if_neg]
  rintro (g | g | g)
  · omega
  · rw [List.any_eq_true] at g
    obtain ⟨x, hx, hb⟩ := g
    rw [h2 x hx] at hb
    simp at hb
  · rw [h1] at g; simp at g
theorem check_of_bad {ls : List Item} (h8 : ls.length ≤ 8) (h : okB ls = false) : checkN ls = 1 := by
  unfold checkN
  rw [if_neg (by omega), if_pos]
  unfold okB at h
  rw [Bool.and_eq_false_iff] at h
  rcases h with h | h
  · exact .inr (.inr h)
  · refine .inr (.inl ?_)
    simpa using h
theorem not_ok_at {ls : List Item} {i : Nat} (h : i < ls.length) (hb : badL ls[i] = true) : okB ls = false := by
  cases ho : okB ls with
  | false => rfl
  | true =>
    have := (ok_parts ho).2 _ (List.getElem_mem h)
    rw [hb] at this
    exact absurd this (by simp)
theorem badL_iff (l : List UInt8) : badL l = true ↔ l.length < 1 ∨ 400 < l.length := by
  unfold badL
  rw [Bool.or_eq_true, decide_eq_true_eq, decide_eq_true_eq]

set_option maxRecDepth 100000 in
set_option maxHeartbeats 1600000 in
theorem RefCheck9_any (A : Option Addr) (n c : Nat) (ls : List Item) (hn : ls.length = n) (w : World) (hS : Sees2 w w.heap.size A ls) (hlen : n ≤ 1099511627776) :
    Calls Tryz.prog 97 #[.slice A n c] w (NumIs w (checkN ls)) := by
  have HN := Lib.hid hn
  by_cases h8 : 8 < n
  · have HE : Hid (checkN ls = 2) := by unfold Hid checkN; rw [hn, if_pos h8]
    have i8 : (8 : Int) < (n : Int) := by omega
    clear hn
    go_enter Tryz.func97, Tryz.ntmps97
    go_wp2
    go_ret
    unfold NumIs
    rw [HE.out]
    exact ⟨rfl, 0, rfl⟩
  have HB1 : Hid (okB ls = false → checkN ls = 1) := fun h => check_of_bad (by omega) h
  have HB0 : Hid (0 < n → okB ls = true → checkN ls = 0) := fun h0 h => check_of_ok (by omega) (by omega) h
  have HB2 : Hid (n = 0 → checkN ls = 1) := fun h0 => by unfold checkN; rw [if_neg (by omega), if_pos (.inl (by omega))]
  obtain ⟨X, hX⟩ : ∃ X, checkN ls = X := ⟨_, rfl⟩
  rw [hX] at HB1 HB0 HB2 ⊢
  clear hn hX
  go_enter Tryz.func97, Tryz.ntmps97
  go_wp2
  go_loopg [3] n (fun g i wr => ∃ k : Nat, k + g = n ∧ i = .int .i64 k ∧ Hid (OkTo ls k) ∧ ∃ q, wr = w.drewN q)
  case atStart => exact ⟨0, by omega, rfl, OkTo.zero ls, 0, rfl⟩
  case round =>
    obtain ⟨k, hk, rfl, hok, q, rfl⟩ := hrel
    by_cases hlt : k < n
    · obtain ⟨ad, Ai, ci, rfl, hadB, hcell, hci, hsee⟩ := hS.out k (by have := HN.out; omega)
      have hbad : Hid (badL (ls[k]'(by have := HN.out; omega)) = true → X = 1) := fun h => HB1.out (not_ok_at _ h)
      have hstep : Hid (badL (ls[k]'(by have := HN.out; omega)) = false → (∀ (_ : 0 < k), ahead (ls[k - 1]'(by have := HN.out; omega)) (ls[k]'(by have := HN.out; omega)) = true) → OkTo ls (k + 1)) := fun h1 h2 => by
        refine ⟨fun i hi him => ?_, fun i hi him => ?_⟩
        · by_cases he : i = k
          · subst he; exact h1
          · exact hok.out.fine i hi (by omega)
        · by_cases he : i + 1 = k
          · have := h2 (by omega)
            simp only [← he] at this
            exact this
          · exact hok.out.up i hi (by omega)
      have hno : Hid (∀ (_ : 0 < k), ahead (ls[k - 1]'(by have := HN.out; omega)) (ls[k]'(by have := HN.out; omega)) = false → X = 1) := fun h0 h => HB1.out (by
        have h1 : k - 1 + 1 < ls.length := by have := HN.out; omega
        refine not_ok_ahead h1 ?_
        simp only [show k - 1 + 1 = k from by omega]
        exact h)
      by_cases h0 : k ≤ 0
      · obtain ⟨L, hL⟩ : ∃ L, ls[k]'(by have := HN.out; omega) = L := ⟨_, rfl⟩
        rw [hL] at hcell hci hsee hbad hstep
        have hHS : Hid (badL L = false → OkTo ls (k + 1)) := fun h => by
          have h1 := hstep.out
          exact h1 h (fun h2 => absurd h2 (by omega))
        clear hstep hno hL hok
        by_cases hl0 : L.length < 1
        · have d1 : decide ((L.length : Int) < 1) = true := decide_eq_true (by omega)
          have HF : Hid (X = 1) := hbad.out ((badL_iff L).2 (.inl hl0))
          clear hbad hHS
          go_wp2
          go_quiet (fail)
          go_wp2
          go_ret
          unfold NumIs
          rw [HF.out]
          exact ⟨rfl, _, World.drewN_drewN _ _ _⟩
        have d1 : decide ((L.length : Int) < 1) = false := decide_eq_false (by omega)
        by_cases hl4 : 400 < L.length
        · have d4 : decide ((400 : Int) < (L.length : Int)) = true := decide_eq_true (by omega)
          have HF : Hid (X = 1) := hbad.out ((badL_iff L).2 (.inr hl4))
          clear hbad hHS
          go_wp2
          go_quiet (fail)
          go_wp2
          go_ret
          unfold NumIs
          rw [HF.out]
          exact ⟨rfl, _, World.drewN_drewN _ _ _⟩
        have d4 : decide ((400 : Int) < (L.length : Int)) = false := decide_eq_false (by omega)
        have HT : Hid (OkTo ls (k + 1)) := hHS.out (by cases hb : badL L with | false => rfl | true => have := (badL_iff L).1 hb; omega)
        have d0 : decide (0 < k) = false := decide_eq_false (by omega)
        clear hbad hHS
        go_wp2
        go_quiet (fail)
        go_wp2
        go_roundg (n - (k + 1))
        case measure => omega
        case rel => exact ⟨k + 1, by omega, by go_num, HT, _, rfl⟩
      · obtain ⟨j, hj⟩ : ∃ j, k - 1 = j := ⟨_, rfl⟩
        have hjn : j < n := by omega
        obtain ⟨ad2, Aj, cj, he2, hadB2, hcell2, hcj, hsee2⟩ := hS.out j (by have := HN.out; omega)
        injection he2 with he2
        subst he2
        simp only [hj] at hstep hno
        obtain ⟨L, hL⟩ : ∃ L, ls[k]'(by have := HN.out; omega) = L := ⟨_, rfl⟩
        obtain ⟨R, hR⟩ : ∃ R, ls[j]'(by have := HN.out; omega) = R := ⟨_, rfl⟩
        rw [hL] at hcell hci hsee hbad
        simp only [hL, hR] at hstep hno
        rw [hR] at hcell2 hcj hsee2
        have cv1 := fun p => run_str (w.drewN p) _ Ai L.length ci L (hsee.drewN p) rfl
        have cv2 := fun p => run_str (w.drewN p) _ Aj R.length cj R (hsee2.drewN p) rfl
        have hsub : IntKind.i64.wrap ((k : Int) - 1) = (j : Int) := by rw [IntKind.wrap_i64]; omega
        have hble : Op.bytesLess (strOf R).toList (strOf L).toList = ahead R L := by rw [strOf_toList, strOf_toList]; rfl
        clear hL hR hok hj
        by_cases hl0 : L.length < 1
        · have d1 : decide ((L.length : Int) < 1) = true := decide_eq_true (by omega)
          have HF : Hid (X = 1) := hbad.out ((badL_iff L).2 (.inl hl0))
          clear hbad hstep hno
          go_wp2
          go_quiet (fail)
          go_wp2
          go_ret
          unfold NumIs
          rw [HF.out]
          exact ⟨rfl, _, World.drewN_drewN _ _ _⟩
        have d1 : decide ((L.length : Int) < 1) = false := decide_eq_false (by omega)
        by_cases hl4 : 400 < L.length
        · have d4 : decide ((400 : Int) < (L.length : Int)) = true := decide_eq_true (by omega)
          have HF : Hid (X = 1) := hbad.out ((badL_iff L).2 (.inr hl4))
          clear hbad hstep hno
          go_wp2
          go_quiet (fail)
          go_wp2
          go_ret
          unfold NumIs
          rw [HF.out]
          exact ⟨rfl, _, World.drewN_drewN _ _ _⟩
        have d4 : decide ((400 : Int) < (L.length : Int)) = false := decide_eq_false (by omega)
        have d0 : decide (0 < k) = true := decide_eq_true (by omega)
        have hk1 : (0 : Int) < (k : Int) := by omega
        obtain ⟨b, hb⟩ : ∃ b, ahead R L = b := ⟨_, rfl⟩
        rw [hb] at hble
        simp only [hb] at hstep hno
        clear hb
        cases b with
        | true =>
          have HT : Hid (OkTo ls (k + 1)) := hstep.out (by cases hb : badL L with | false => rfl | true => have := (badL_iff L).1 hb; omega) (fun _ => rfl)
          clear hbad hstep hno
          go_wp2
          go_quiet (fail)
          go_wp2
          go_roundg (n - (k + 1))
          case measure => omega
          case rel => exact ⟨k + 1, by omega, by go_num, HT, _, rfl⟩
        | false =>
          have HF : Hid (X = 1) := hno.out (by omega) rfl
          clear hbad hstep hno
          go_wp2
          go_quiet (fail)
          go_wp2
          go_ret
          unfold NumIs
          rw [HF.out]
          exact ⟨rfl, _, World.drewN_drewN _ _ _⟩
    · have hkn : Hid (k = n) := (by show _ = _; omega)
      by_cases h0 : n ≤ 0
      · have HF : Hid (X = 1) := HB2.out (by omega)
        have e0 : ((n : Int) == 0) = true := by rw [beq_iff_eq]; omega
        clear hok
        go_wp2
        go_ret
        unfold NumIs
        rw [HF.out]
        exact ⟨rfl, q, rfl⟩
      · have HF : Hid (X = 0) := HB0.out (by omega) (hok.out.ok (by have := HN.out; omega))
        have e0 : ((n : Int) == 0) = false := by rw [beq_eq_false_iff_ne]; omega
        clear hok
        go_wp2
        go_ret
        unfold NumIs
        rw [HF.out]
        exact ⟨rfl, q, rfl⟩

end Go.Proofs.YtadakaenbemedaaGreatDoor

/-
  The document's bytes of items, walked.
-/
namespace Go.Proofs.YtadakaenbemedaaGreatDoor
open Go.RowKit

set_option maxRecDepth 100000 in
set_option maxHeartbeats 3200000 in
theorem RefPack_any (A : Option Addr) (n c : Nat) (ls : List Item) (hn : ls.length = n) (w : World) (hS : Sees2 w w.heap.size A ls) (hlen : n ≤ 1099511627776) :
    Calls Tryz.prog 72 #[.slice A n c] w (PackIs w ls) := by
  have hC := Lib.hid (RefCheck9_any A n c ls hn w hS hlen)
  by_cases hk : checkN ls = 0
  · obtain ⟨h8, h1, hall, hrise⟩ := check_ok hk
    have HK := Lib.hid hk
    rw [hk] at hC
    have HA := Lib.hid hall
    have hn8 : n ≤ 8 := by omega
    have HN := Lib.hid hn
    clear hk hall hrise h8 h1 hn hlen
    go_enter Tryz.func72, Tryz.ntmps72
    go_wp2_with fail
    refine hC.out.mono ?_
    rintro e w1 ⟨rfl, q, rfl⟩
    go_wp2_with fail
    refine (refBytes_any n (by unfold Is64; omega) (w.drewN q)).mono ?_
    rintro e w2 ⟨v2, rfl, hown2, hb2'⟩
    have hb2 : Below w.heap.size w w2 := (below_d (Below.refl _ w) q).trans hb2'
    clear hC hb2'
    go_wp2_with fail
    go_loopg [5, 6, 7] n (fun g b a i wr => ∃ (k : Nat) (X P : List UInt8) (Ap : Option Addr) (cp : Nat), k + g = n ∧ i = .int .i64 k ∧ OwnB wr w.heap.size b X ∧ X.length ≤ 10 + 1000 * k ∧ a = .slice Ap P.length cp ∧ P.length ≤ 400 ∧ Sees wr wr.heap.size Ap (bv P) ∧ Aside (X ++ packFrom P (ls.drop k) = packB ls) ∧ Below w.heap.size w wr)
    case atStart => exact ⟨0, venc n, [], none, 0, by omega, rfl, hown2, by have := venc_len (u := n) (by unfold Is64; omega); omega, rfl, by simp, Sees.nil _ _ _, (by show _ = _; unfold packB; rw [HN.out]; rfl), hb2⟩
    case round =>
      obtain ⟨k, X, P, Ap, cp, hk, rfl, hX, hXl, rfl, hP, hSP, hcat, hbr⟩ := hrel
      have hsr := hbr.size
      by_cases hlt : k < n
      · obtain ⟨ad, Ai, ci, rfl, hadB, hcell, hci, hsee⟩ := (hS.below hbr).out k (by have := HN.out; omega)
        have hLl := HA.out k (by have := HN.out; omega)
        have hfr := Lib.hid (packFrom_at (ls := ls) (k := k) P (by have := HN.out; omega))
        obtain ⟨L, hL⟩ : ∃ L, ls[k]'(by have := HN.out; omega) = L := ⟨_, rfl⟩
        rw [hL] at hcell hci hsee hLl hfr
        clear hL
        obtain ⟨hL1, hL2⟩ := hLl
        have hcm := common_le P L
        have hCm := Lib.hid (RefCommon_any Ap Ai P.length L.length cp ci P L rfl rfl wr hSP (hsee.more hsr) (by omega) (by omega))
        unfold CommonIs at hCm
        generalize common P L = cm at hcm hCm hfr
        obtain ⟨hc1, hc2⟩ := hcm
        obtain ⟨d, hd⟩ : ∃ d, L.length - cm = d := ⟨_, rfl⟩
        rw [hd] at hfr
        obtain ⟨AD, hAD⟩ : ∃ AD, (if ci = cm then Ai else Ai.map (fun x => x.add cm)) = AD := ⟨_, rfl⟩
        have hSD : Sees wr w.heap.size AD (bv (L.drop cm)) := by
          have h1 := hsee.cut (k := cm) (cap := ci) (by rw [bv_length]; exact hci)
          simp only [Nat.mul_one, ← bv_drop] at h1
          rw [hAD] at h1
          exact h1
        have HSD := Lib.hid hSD
        clear hSD
        have hsub : IntKind.i64.wrap ((L.length : Int) - (cm : Int)) = (d : Int) := by rw [IntKind.wrap_i64]; omega
        have hd4 : d ≤ 400 := by omega
        have hvc := venc_len (u := cm) (by unfold Is64; omega)
        have hvd := venc_len (u := d) (by unfold Is64; omega)
        obtain ⟨VC, hVC⟩ : ∃ V, venc cm = V := ⟨_, rfl⟩
        obtain ⟨VD, hVD⟩ : ∃ V, venc d = V := ⟨_, rfl⟩
        have hBc := fun W => Lib.hid (refBytes_any cm (by unfold Is64; omega) W)
        have hBd := fun W => Lib.hid (refBytes_any d (by unfold Is64; omega) W)
        rw [hVC] at hvc hfr
        rw [hVD] at hvd hfr
        simp only [hVC] at hBc
        simp only [hVD] at hBd
        have HD := Lib.hid hd
        clear hVC hVD hd
        go_wp2_with fail
        refine hCm.out.mono ?_
        rintro e w3 ⟨rfl, q, rfl⟩
        have hcellq : (wr.drewN q).cell? (ad.add k) = some (.slice Ai L.length ci) := hcell
        have hXq : OwnB (wr.drewN q) w.heap.size u5 X := hX
        clear hcell
        go_wp2_with fail
        refine (hBc (wr.drewN q)).out.mono ?_
        rintro e w4 ⟨v4, rfl, hown4, hb4⟩
        have hbr4 : Below wr.heap.size wr w4 := (below_d (Below.refl _ wr) q).trans hb4
        obtain ⟨A4, c4, rfl, hc4, hm4, -, hs4⟩ := hown4.open_
        have hX4 := hX.below hbr4
        have hs4s := hbr4.size
        have hcell4 : w4.cell? (ad.add k) = some (.slice Ai L.length ci) := (hbr4.cell (by rw [add_block]; omega)).trans hcellq
        clear hcellq hXq
        go_wp2_with (at_builtin; refine wpList_append_b rfl (.tmp 30) (.tmp 33) rfl w.heap.size u5 X (by rfl) hX4 w4.heap.size A4 VC.length c4 VC (by rfl) rfl hs4 (by omega) (by omega) ?_; intro v5 w5 hown5 hon5; have hbr5 : Below w.heap.size w4 w5 := hon5.below (by omega) hX4.block; have hs5 := hbr5.size; have hcell5 : w5.cell? (ad.add k) = some (.slice Ai L.length ci) := (hbr5.cell (by rw [add_block]; omega)).trans hcell4)
        refine (hBd w5).out.mono ?_
        rintro e w6 ⟨v6, rfl, hown6, hb6⟩
        obtain ⟨A6, c6, rfl, hc6, hm6, -, hs6⟩ := hown6.open_
        have hX6 := hown5.below hb6
        have hb06 : Below w.heap.size wr w6 := (hbr4.mono hsr).trans (hbr5.trans (hb6.mono (by omega)))
        have hcell6 : w6.cell? (ad.add k) = some (.slice Ai L.length ci) := (hb6.cell (by rw [add_block]; omega)).trans hcell5
        have hs6s := hb6.size
        clear hcell5 hcell4
        go_wp2_with (first
          | (at_builtin; refine wpList_append_b rfl (.tmp 35) (.tmp 44) rfl w.heap.size v5 (X ++ VC) (by rfl) hX6 w6.heap.size A6 VD.length c6 VD (by rfl) rfl hs6 (by rw [List.length_append]; omega) (by omega) ?_; intro v7 w7 hown7 hon7; have hbr7 : Below w.heap.size w6 w7 := hon7.below (by omega) hX6.block; have hs7 := hbr7.size; have hcell7 : w7.cell? (ad.add k) = some (.slice Ai L.length ci) := (hbr7.cell (by rw [add_block]; omega)).trans hcell6; have hb07 := hb06.trans hbr7; have hsee7 : Sees w7 w7.heap.size AD (bv (L.drop cm)) := (HSD.out.below hb07).more (by omega))
          | (at_builtin; refine wpList_append_b rfl (.tmp 46) (.tmp 52) rfl w.heap.size v7 (X ++ VC ++ VD) (by rfl) hown7 _ _ _ _ (L.drop cm) (by rfl) (by rw [List.length_drop]) hsee7 (by rw [List.length_append, List.length_append, List.length_drop]; omega) (by omega) ?_; intro v8 w8 hown8 hon8; have hbr8 : Below w.heap.size w7 w8 := hon8.below (by omega) hown7.block; have hs8 := hbr8.size; have hcell8 : w8.cell? (ad.add k) = some (.slice Ai L.length ci) := (hbr8.cell (by rw [add_block]; omega)).trans hcell7)
          | fail)
        all_goals
          have hb08 := hb07.trans hbr8
          go_roundg (n - (k + 1))
          case measure => omega
          case rel => exact ⟨k + 1, X ++ VC ++ VD ++ L.drop cm, L, Ai, _, by omega, by go_num, hown8, by rw [List.length_append, List.length_append, List.length_append, List.length_drop]; omega, rfl, hL2, (hsee.below hb08).more (by omega), (by have h1 := hcat.out; have h2 := hfr.out; show _ = _; rw [← h1, h2]; simp), hbr.trans hb08⟩
      · have HF : Hid (X = packB ls) := by have := hcat.out; rw [packFrom_end _ (by have := HN.out; omega), List.append_nil] at this; exact this
        have HE : Hid ((if checkN ls = 0 then packB ls else []) = packB ls) := if_pos HK.out
        clear hcat
        go_wp2_with fail
        go_ret2
        unfold PackIs
        rw [HE.out, HK.out, ← HF.out]
        exact ⟨_, rfl, hX, hbr⟩
  · have HK := Lib.hid (check_nz hk)
    have HE : Hid ((if checkN ls = 0 then packB ls else []) = []) := if_neg hk
    obtain ⟨X, hX⟩ : ∃ X, checkN ls = X := ⟨_, rfl⟩
    rw [hX] at hk HK hC
    have HX := Lib.hid hX
    have hz : ((X : Int) != 0) = true := by rw [bne_iff_ne]; omega
    clear hX hk hn
    go_enter Tryz.func72, Tryz.ntmps72
    go_wp2_with fail
    refine hC.out.mono ?_
    rintro e w1 ⟨rfl, q, rfl⟩
    clear hC
    go_wp2_with fail
    go_ret2
    unfold PackIs
    rw [HE.out, HX.out]
    exact ⟨_, rfl, OwnB.nil _ _, below_d (Below.refl _ w) q⟩
end Go.Proofs.YtadakaenbemedaaGreatDoor
