/-
  The law LabelsOwn, walked.
-/
import Derived.Test.YtbgnmojdkhlbaaaDoorLbAwake
namespace Go.Proofs.YtbgnmojdkhlbaaaDoor
open Go.RowKit

set_option maxRecDepth 100000 in
set_option maxHeartbeats 3200000 in
theorem LabelsOwn_any (A : Option Addr) (n c : Nat) (ls : List Lb) (hn : ls.length = n) (w : World) (hS : Sees w w.heap.size A (lv ls)) :
    Calls Tryd.prog 5 #[.slice A n c] w (Gives w (.bool true)) := by
  have hA := Lib.hid (awake_any w)
  have HN := Lib.hid hn
  clear hn
  go_enter Tryd.func5, Tryd.ntmps5
  go_wp2_with fail
  refine hA.out.mono ?_
  rintro en w1 ⟨rfl, hb1⟩
  have hs1 := hb1.size
  have hS1 := (hS.below hb1).more hs1
  have hF := Lib.hid (few_any A n c ls HN.out w1 hS1)
  clear hA
  go_wp2_with fail
  refine hF.out.mono ?_
  rintro en w1' ⟨bf, hfew, rfl, rfl⟩
  clear hF
  cases bf with
  | false =>
    go_wp2
    go_ret
    exact ⟨rfl, hb1⟩
  | true =>
    have HFEW := Lib.hid (hfew rfl)
    have hlen : n ≤ 1099511627776 := by have := HFEW.out.len; rw [HN.out] at this; omega
    clear hfew
    have hsz : Hid (∀ x ∈ ls, x.1.size ≤ 9223372036854775807) := fun x hx => by have := (HFEW.out.all x hx).1; omega
    go_wp2_with (at_builtin; refine wpList_append_l rfl (.tmp 19) (.tmp 20) rfl w1.heap.size (.slice none 0 0) [] (by rfl) (OwnL.nil _ _) w1.heap.size A n c ls (by rfl) HN.out hS1 (by simp; omega) (Nat.le_refl _) ?_; intro v2 w2 hown2 hon2; have hb2 := hon2.below_nil; have hs2 := hb2.size; have hS2 := (hS1.below hb2).more hs2; have hC := Lib.hid (Canon_any A n c ls HN.out w2 hS2 hlen hsz.out))
    rw [List.nil_append] at hown2
    obtain ⟨A2, c2, rfl, -, -, hsw2⟩ := hown2.open_
    have hown2' := Lib.hid hown2
    clear hown2
    refine hC.out.mono ?_
    rintro en w3 ⟨v3, k3, rfl, hb3, hres⟩
    clear hC
    have hs3 := hb3.size
    have hS3 := (hS2.below hb3).more hs3
    have hsw3 := (hsw2.below hb3).more hs3
    have hSa := Lib.hid (Same_any A A2 n c ls.length c2 ls ls HN.out rfl w3 hS3 hsw3 hlen (by rw [HN.out]; exact hlen))
    rw [sameLs_self] at hSa
    go_wp2_with fail
    refine hSa.out.mono ?_
    rintro en w4' ⟨rfl, q4, rfl⟩
    clear hSa
    rcases hres with ⟨hmay, rfl, hown3⟩ | ⟨-, rfl, rfl⟩
    rotate_left
    · go_wp2
      go_ret
      exact ⟨rfl, hb1.trans ((hb2.mono hs1).trans ((below_d hb3 q4).mono (by omega)))⟩
    obtain ⟨m, hm⟩ : ∃ m, sortN ls = m := ⟨_, rfl⟩
    have hml : m.length = n := by rw [← hm, sortN_length, HN.out]
    have hmay3 := Lib.hid (hm ▸ hmay.sort)
    have hup := Lib.hid (show Up m from hm ▸ sortN_up hmay.dist)
    have hso := Lib.hid (show sortN m = m from hm ▸ sortN_sort hmay.dist)
    have hpos : 1 ≤ n := by have := hmay.some; have := HN.out; omega
    rw [hm] at hown3
    obtain ⟨g, cap, rfl, hg1, hg2⟩ := World.ownsRow.form hown3 (by omega)
    rw [hml] at hown3 ⊢
    have hown4 : (w3.drewN q4).ownsRow w2.heap.size 34 2 (.slice (some ⟨g, 0, none⟩) n cap) n (lv m) := by have := hown3; unfold OwnL at this; rw [hml] at this; exact this
    have hb24 : Below w2.heap.size w2 (w3.drewN q4) := below_d hb3 q4
    clear hb3 hS3 hsw3 hown3 hs3
    generalize w3.drewN q4 = w4 at hown4 hb24 ⊢
    have hs24 := hb24.size
    have hsc4 : Sees w4 w4.heap.size (some ⟨g, 0, none⟩) (lv m) := Sees.of_own hown4
    have hC2 := Lib.hid (Canon_any (some ⟨g, 0, none⟩) n cap m hml w4 hsc4 hlen (fun x hx => by have := okL_size (hmay3.out.ok x hx); omega))
    have HML := Lib.hid hml
    clear hml hm hmay
    go_wp2_with fail
    refine hC2.out.mono ?_
    rintro en w5 ⟨v5, k5, rfl, hb5, hres⟩
    clear hC2
    rcases hres with ⟨-, rfl, hown5⟩ | ⟨hno, -, -⟩
    rotate_left
    · exact absurd hmay3.out hno
    rw [hso.out] at hown5
    obtain ⟨A5, c5, rfl, -, -, hsd5⟩ := hown5.open_
    have hs5 := hb5.size
    have hown45 := Lib.hid (World.ownsRow.kept (row := none) hown4 ⟨hb5.os, hb5.tape, hb5.output, hb5.size, fun k hk _ => hb5.block k hk⟩ (.inr (by simp [Value.ownBlock])))
    have hsc5 : Sees w5 w5.heap.size (some ⟨g, 0, none⟩) (lv m) := Sees.of_own hown45.out
    clear hown4 hown5
    go_wp2
    go_loopg [10] n (fun g0 i wr => ∃ k : Nat, k + g0 = n ∧ k < n ∧ i = .int .i64 k ∧ ∃ q, wr = w5.drewN q)
    case atStart => exact ⟨0, by omega, by omega, rfl, 0, rfl⟩
    case round =>
      obtain ⟨k, hk, hkn, rfl, q, rfl⟩ := hrel
      by_cases hlt : k + 1 < n
      · obtain ⟨ad, had, hadB, hc0, hc1⟩ := hsc5.lb (k := k) (by have := HML.out; omega)
        obtain ⟨ad', had', -, hd0, hd1⟩ := hsc5.lb (k := k + 1) (by have := HML.out; omega)
        obtain rfl := had'.symm.trans had |> Option.some.inj
        obtain rfl := Option.some.inj had
        have hl1 : Op.bytesLess (m[k]'(by have := HML.out; omega)).1.toList (m[k + 1]'(by have := HML.out; omega)).1.toList = true := List.pairwise_iff_getElem.1 hup.out k (k + 1) (by have := HML.out; omega) (by have := HML.out; omega) (by omega)
        generalize m[k]'(by have := HML.out; omega) = x at hc0 hc1 hl1
        generalize m[k + 1]'(by have := HML.out; omega) = y at hd0 hd1 hl1
        simp only [Addr.add_lit] at hc0 hc1 hd0 hd1
        have hc0' := hc0
        have hd0' := hd0
        rw [Nat.zero_add] at hc0' hd0'
        go_wp2_with fail
        go_quiet (fail)
        go_wp2
        go_roundg (n - (k + 1))
        case measure => omega
        case rel => exact ⟨k + 1, by omega, by omega, by go_num, _, by first | rfl | exact World.drewN_drewN _ _ _⟩
      · have hkn' : (n : Int) ≤ (k : Int) + 1 := by omega
        have hSa2 := fun p => Lib.hid (Same_any (some ⟨g, 0, none⟩) A5 n cap m.length c5 m m HML.out rfl (w5.drewN p) (hsc5.drewN p) (hsd5.drewN p) hlen (by rw [HML.out]; exact hlen))
        rw [sameLs_self] at hSa2
        have hmn : Hid (m.length = n) := HML
        go_wp2_with fail
        refine (hSa2 q).out.mono ?_
        rintro en w6' ⟨rfl, q6, rfl⟩
        have hb56 : Below w5.heap.size w5 ((w5.drewN q).drewN q6) := below_d (below_d (Below.refl _ _) q) q6
        have hb46 : Below w4.heap.size w4 ((w5.drewN q).drewN q6) := hb5.trans (hb56.mono hs5)
        have hown6 : ((w5.drewN q).drewN q6).ownsRow w2.heap.size 34 2 (.slice (some ⟨g, 0, none⟩) n cap) n (lv m) := hown45.out
        have hll : (lv m).length = n * 2 := by rw [lv_length, HML.out, Nat.mul_comm]
        generalize (w5.drewN q).drewN q6 = w6 at hown6 hb56 hb46 ⊢
        have hb26 := hb24.trans (hb46.mono hs24)
        clear hSa2 hsc5 hsd5 hown45 hsc4
        go_wp2
        go_loopg [11] n (fun g0 i wr => ∃ (k : Nat) (xs : List Value), k + g0 = n ∧ i = .int .i64 k ∧ xs.length = n * 2 ∧ Hid (wr.ownsRow w2.heap.size 34 2 (.slice (some ⟨g, 0, none⟩) n cap) n xs) ∧ Below w2.heap.size w2 wr)
        case atStart => exact ⟨0, lv m, by omega, rfl, hll, Lib.hid hown6, hb26⟩
        case round =>
          obtain ⟨k, xs, hk, rfl, hxs, hown, hbr⟩ := hrel
          by_cases hlt2 : k < n
          · have hce := hown.out.cellAt (k * 2 + 1) (by omega)
            have hfr := hown.out.frozenAt (k * 2 + 1)
            rw [List.getElem?_eq_getElem (by omega)] at hce
            generalize xs[k * 2 + 1]'(by omega) = u at hce
            have hst := Lib.hid (hown.out.stored (k * 2 + 1) (.string ⟨#[116, 117, 114, 110, 101, 100]⟩))
            go_wp2
            go_roundg (n - (k + 1))
            case measure => omega
            case rel => exact ⟨k + 1, _, by omega, by go_num, by rw [List.length_set]; exact hxs, Lib.hid hst.out.1, hbr.setCell hg1 _⟩
          · have hkn2 : (n : Int) ≤ (k : Int) := by omega
            have hsr := hbr.size
            have hSr := (hS2.below hbr).more hsr
            have hswr := (hsw2.below hbr).more hsr
            have hSa3 := Lib.hid (Same_any A A2 n c ls.length c2 ls ls HN.out rfl wr hSr hswr hlen (by rw [HN.out]; exact hlen))
            rw [sameLs_self] at hSa3
            go_wp2_with fail
            refine hSa3.out.mono ?_
            rintro en w7' ⟨rfl, q7, rfl⟩
            go_wp2
            go_ret
            exact ⟨rfl, hb1.trans ((hb2.mono hs1).trans (below_d (hbr.mono (by omega)) q7))⟩
end Go.Proofs.YtbgnmojdkhlbaaaDoor
