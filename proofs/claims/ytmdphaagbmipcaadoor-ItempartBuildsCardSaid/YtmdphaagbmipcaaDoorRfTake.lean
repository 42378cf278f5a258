/-
  The document's number taken off bytes, walked.
-/
import Derived.Test.YtmdphaagbmipcaaDoorRfPlain
import Derived.Test.YtmdphaagbmipcaaDoorLow
namespace Go.Proofs.YtmdphaagbmipcaaDoor
open Go.RowKit

/-- What Take tells. -/
def TakeIs (w : World) (l : List UInt8) (e : Ending) (w' : World) : Prop := e = .returned (.tuple #[.int .u64 ((vtake l).1 : Nat), .int .i64 ((vtake l).2.1 : Nat), .int .i64 ((vtake l).2.2 : Nat)]) ∧ w = w'

set_option maxRecDepth 100000 in
set_option maxHeartbeats 1600000 in
theorem RefTake_any (A : Option Addr) (n c : Nat) (l : List UInt8) (hn : l.length = n) (w : World) (hS : Sees w w.heap.size A (bv l)) (hlen : n ≤ 1099511627776) :
    Calls Tryd.prog 60 #[.slice A n c] w (TakeIs w l) := by
  have HV := Lib.hid (vtake_hi l)
  have HN := Lib.hid hn
  have HLE := Lib.hid (hiN_le l)
  clear hn
  unfold TakeIs
  go_enter Tryd.func60, Tryd.ntmps60
  go_wp2
  go_loopg [5] n (fun g z wr => ∃ k : Nat, k + g = n ∧ z = .int .i64 k ∧ Hid (hiN l = k + hiN (l.drop k)) ∧ w = wr)
  case atStart => exact ⟨0, by omega, rfl, (by show _ = _; simp), rfl⟩
  case round =>
    obtain ⟨k, hk, rfl, hh, rfl⟩ := hrel
    by_cases hlt : k < n
    · obtain ⟨ad, rfl, hb, hcell⟩ := hS.at_ (k := k) (by rw [bv_length, HN.out]; exact hlt)
      rw [bv_get l k (by have := HN.out; omega)] at hcell
      have hst := Lib.hid (hiN_at (l := l) (k := k) (by have := HN.out; omega))
      have hget := List.getElem?_eq_getElem (l := l) (i := k) (by have := HN.out; omega)
      generalize l[k]'(by have := HN.out; omega) = cb at hcell hst hget
      have HG := Lib.hid hget
      have hcb256 : (cb.toNat : Int) < 256 := by have := cb.toNat_lt; omega
      clear hget
      by_cases hc : (128 : Int) ≤ (cb.toNat : Int)
      · have HH : Hid (hiN l = (k + 1) + hiN (l.drop (k + 1))) := by
          have h1 := hst.out
          rw [if_neg (by omega)] at h1
          unfold Hid; rw [hh.out, h1]; omega
        clear hst hh
        go_wp2
        go_roundg (n - (k + 1))
        case measure => omega
        case rel => exact ⟨k + 1, by omega, by go_num, HH, rfl⟩
      · have HH : Hid (hiN l = k) := by
          have h1 := hst.out
          rw [if_pos (by omega)] at h1
          unfold Hid; rw [hh.out, h1]; rfl
        clear hst hh
        have HV2 : Hid (vtake l = if 10 ≤ k then (0, 0, 11) else if (k = 9 ∧ 1 < cb.toNat) ∨ (0 < k ∧ cb.toNat = 0) then (0, 0, 11) else (vsum (l.take (k + 1)), k + 1, 0)) := by
          have h1 := HV.out
          rw [HH.out, HG.out, if_neg (c := l.length ≤ k) (by have := HN.out; omega)] at h1
          exact h1
        clear HV
        by_cases h10 : 10 ≤ k
        · have HF : Hid (vtake l = (0, 0, 11)) := by have := HV2.out; rw [if_pos h10] at this; exact this
          go_wp2
          go_ret3
          rw [HF.out]
          exact ⟨rfl, rfl⟩
        have HV3 : Hid (vtake l = if (k = 9 ∧ 1 < cb.toNat) ∨ (0 < k ∧ cb.toNat = 0) then (0, 0, 11) else (vsum (l.take (k + 1)), k + 1, 0)) := by have := HV2.out; rw [if_neg h10] at this; exact this
        clear HV2
        obtain ⟨bo, hbo⟩ : ∃ bo : Bool, decide ((k = 9 ∧ 1 < cb.toNat) ∨ (0 < k ∧ cb.toNat = 0)) = bo := ⟨_, rfl⟩
        have HBO := Lib.hid hbo
        clear hbo
        go_upto_region 8 with fail
        go_cut [45] (fun t wx => t = .bool bo ∧ wx = w)
        case first =>
          by_cases k9 : k = 9
          · have e9 : ((k : Int) == 9) = true := by rw [beq_iff_eq]; omega
            have h9c : w.cell? (ad.add 9) = some (.int .u8 (cb.toNat : Int)) := by rw [← k9]; exact hcell
            have k0 : 0 < k := by omega
            have k0' : (0 : Int) < (k : Int) := by omega
            have hl9 : 9 < n := by omega
            have h9d : w.cell? ⟨ad.block, ad.off + 9, none⟩ = some (.int .u8 (cb.toNat : Int)) := by have h := h9c; unfold Addr.add at h; rw [if_neg (by omega)] at h; exact h
            clear h9c
            have HK9 := Lib.hid k9
            clear k9
            by_cases h1 : (1 : Int) < (cb.toNat : Int)
            · have HB : Hid (bo = true) := by rw [Hid, ← HBO.out, decide_eq_true_eq]; exact .inl ⟨HK9.out, by omega⟩
              go_wp2
              go_meet
              exact ⟨by rw [HB.out], rfl⟩
            · by_cases h0 : (cb.toNat : Int) ≤ 0
              · have e0 : ((cb.toNat : Int) == 0) = true := by rw [beq_iff_eq]; omega
                have HB : Hid (bo = true) := by rw [Hid, ← HBO.out, decide_eq_true_eq]; exact .inr ⟨k0, by omega⟩
                go_wp2
                go_meet
                exact ⟨by rw [HB.out], rfl⟩
              · have e0 : ((cb.toNat : Int) == 0) = false := by rw [beq_eq_false_iff_ne]; omega
                have HB : Hid (bo = false) := by rw [Hid, ← HBO.out, decide_eq_false_iff_not]; omega
                go_wp2
                go_meet
                exact ⟨by rw [HB.out], rfl⟩
          · have e9 : ((k : Int) == 9) = false := by rw [beq_eq_false_iff_ne]; omega
            by_cases k0 : (0 : Int) < (k : Int)
            · by_cases h0 : (cb.toNat : Int) ≤ 0
              · have e0 : ((cb.toNat : Int) == 0) = true := by rw [beq_iff_eq]; omega
                have HB : Hid (bo = true) := by rw [Hid, ← HBO.out, decide_eq_true_eq]; exact .inr ⟨by omega, by omega⟩
                clear k9
                go_wp2
                go_meet
                exact ⟨by rw [HB.out], rfl⟩
              · have e0 : ((cb.toNat : Int) == 0) = false := by rw [beq_eq_false_iff_ne]; omega
                have HB : Hid (bo = false) := by rw [Hid, ← HBO.out, decide_eq_false_iff_not]; omega
                clear k9
                go_wp2
                go_meet
                exact ⟨by rw [HB.out], rfl⟩
            · have HB : Hid (bo = false) := by rw [Hid, ← HBO.out, decide_eq_false_iff_not]; omega
              clear k9
              go_wp2
              go_meet
              exact ⟨by rw [HB.out], rfl⟩
        case rest =>
          obtain ⟨rfl, rfl⟩ := hcut
          cases bo with
          | true =>
            have HF : Hid (vtake l = (0, 0, 11)) := by have := HV3.out; rw [if_pos (of_decide_eq_true HBO.out)] at this; exact this
            clear HV3
            go_wp2
            go_ret3
            rw [HF.out]
            exact ⟨rfl, rfl⟩
          | false =>
            have HF : Hid (vtake l = (vsum (l.take (k + 1)), k + 1, 0)) := by have := HV3.out; rw [if_neg (of_decide_eq_false HBO.out)] at this; exact this
            have H64 : Hid (∀ i, i ≤ k + 1 → vsum ((l.drop i).take (k + 1 - i)) < 18446744073709551616) := fun i hi => by
              have h1 := vsum_64 (b := l) (by rw [HH.out]; omega) (by rw [HH.out, HG.out]; show ¬ (k = 9 ∧ 1 < cb.toNat); have := of_decide_eq_false HBO.out; omega) i (by rw [HH.out]; exact hi) (by rw [HH.out]; have := HN.out; omega)
              rw [HH.out] at h1
              exact h1
            clear HV3
            go_wp2
            go_loopg [6, 7] (k + 1) (fun g u z wr => ∃ (x : Nat) (i : Int), z = .int .i64 i ∧ u = .int .u64 x ∧ Hid ((g : Int) = i + 1) ∧ Hid (g ≤ k + 1) ∧ Hid (x = vsum ((l.drop g).take (k + 1 - g))) ∧ wc = wr)
            case atStart => exact ⟨0, k, rfl, rfl, (by show _ = _; omega), Nat.le_refl _, (by show _ = _; simp [vsum]), rfl⟩
            case round =>
              obtain ⟨x, i, rfl, rfl, hg, hgk, hx, rfl⟩ := hrel
              by_cases hi : (0 : Int) ≤ i
              · obtain ⟨j, rfl⟩ : ∃ j : Nat, i = (j : Int) := ⟨i.toNat, by omega⟩
                have hgj : Hid (gk = j + 1) := (by show _ = _; have := hg.out; omega)
                have hjk : j ≤ k := by have := hgj.out; have := hgk.out; omega
                obtain ⟨ad2, had2, hb2, hcell⟩ := hS.at_ (k := j) (by rw [bv_length, HN.out]; omega)
                injection had2 with had2
                subst had2
                rw [bv_get l j (by have := HN.out; omega)] at hcell
                have hst := vsum_at (l := l) (i := j) (by have := HN.out; omega) (k + 1 - (j + 1))
                have h6 := H64.out j (by omega)
                rw [show k + 1 - (j + 1) + 1 = k + 1 - j from by omega] at hst
                rw [hst] at h6
                generalize l[j]'(by have := HN.out; omega) = cb at hcell hst h6
                have hcb256 : (cb.toNat : Int) < 256 := by have := cb.toNat_lt; omega
                have hx' : Hid (vsum ((l.drop (j + 1)).take (k + 1 - (j + 1))) = x) := by have := hx.out; rw [hgj.out] at this; exact this.symm
                rw [hx'.out] at hst h6
                have HST := Lib.hid hst
                have hX1 : (x : Int) * 128 < 18446744073709551616 := by omega
                have hX2 : (x : Int) * 128 + (cb.toNat : Int) % 128 < 18446744073709551616 := by omega
                have hw1 : IntKind.u64.wrap ((x : Int) * 128) = (x : Int) * 128 := by rw [IntKind.wrap_u64]; omega
                have hw2 : IntKind.u64.wrap ((x : Int) * 128 + (cb.toNat : Int) % 128) = (x : Int) * 128 + (cb.toNat : Int) % 128 := by rw [IntKind.wrap_u64]; omega
                clear hst h6 hg hx hx' hgk
                go_wp2
                go_roundg j
                case measure => have := hgj.out; omega
                case rel => exact ⟨cb.toNat % 128 + 128 * x, (j : Int) - 1, by go_num, (by first | (congr 1; omega) | go_num), (by show _ = _; omega), (by show _ ≤ _; omega), (by show _ = _; rw [HST.out]), rfl⟩
              · have hg0 : Hid (gk = 0) := (by show _ = _; have := hg.out; omega)
                have HX : Hid (x = vsum (l.take (k + 1))) := by have := hx.out; rw [hg0.out] at this; unfold Hid; simpa using this
                clear hg hx hgk
                go_wp2
                go_ret3
                rw [HF.out, ← HX.out]
                exact ⟨ret3 rfl (by show _ = ((k + 1 : Nat) : Int); omega) rfl, rfl⟩
    · have HH : Hid (hiN l = n) := by
        have h1 := hiN_end (l := l) (k := k) (by have := HN.out; omega)
        unfold Hid; rw [hh.out, h1]; omega
      clear hh
      have HV2 : Hid (vtake l = if 10 ≤ n then (0, 0, 11) else (0, 0, 10)) := by
        have h1 := HV.out
        rw [HH.out, if_pos (c := l.length ≤ n) (by rw [HN.out]; exact Nat.le_refl _)] at h1
        exact h1
      clear HV
      have hkn : Hid (k = n) := (by show _ = _; omega)
      by_cases h10 : 10 ≤ k
      · have HF : Hid (vtake l = (0, 0, 11)) := by have := HV2.out; rw [if_pos (by have := hkn.out; omega)] at this; exact this
        go_wp2
        go_ret3
        rw [HF.out]
        exact ⟨rfl, rfl⟩
      · have HF : Hid (vtake l = (0, 0, 10)) := by have := HV2.out; rw [if_neg (by have := hkn.out; omega)] at this; exact this
        go_wp2
        go_ret3
        rw [HF.out]
        exact ⟨rfl, rfl⟩
end Go.Proofs.YtmdphaagbmipcaaDoor
