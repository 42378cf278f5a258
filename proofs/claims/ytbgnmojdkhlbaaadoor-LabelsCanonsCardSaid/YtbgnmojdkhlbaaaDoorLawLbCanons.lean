/-
  The law LabelsCanons, walked.
-/
import Derived.Test.YtbgnmojdkhlbaaaDoorLbAwake
namespace Go.Proofs.YtbgnmojdkhlbaaaDoor
open Go.RowKit

set_option maxRecDepth 100000 in
set_option maxHeartbeats 3200000 in
theorem LabelsCanons_any (A : Option Addr) (n c : Nat) (ls : List Lb) (s : ByteArray) (hn : ls.length = n) (w : World) (hS : Sees w w.heap.size A (lv ls)) :
    Calls Tryd.prog 3 #[.slice A n c, .string s] w (Gives w (.bool true)) := by
  have hA := Lib.hid (awake_any w)
  have HN := Lib.hid hn
  clear hn
  go_enter Tryd.func3, Tryd.ntmps3
  go_wp2_with fail
  refine hA.out.mono ?_
  rintro en w1 ⟨rfl, hb1⟩
  have hs1 := hb1.size
  have hS1 := (hS.below hb1).more hs1
  have hF := Lib.hid (few_any A n c ls HN.out w1 hS1)
  clear hA
  go_wp2_with fail
  refine hF.out.mono ?_
  rintro en w1' ⟨bf, hfew, rfl, rfl⟩
  clear hF
  cases bf with
  | false =>
    go_wp2
    go_ret
    exact ⟨rfl, hb1⟩
  | true =>
    have HFEW := Lib.hid (hfew rfl)
    have hlen : n ≤ 1099511627776 := by have := HFEW.out.len; rw [HN.out] at this; omega
    clear hfew
    by_cases hs : s.size ≤ 50
    · have hs' : (s.size : Int) ≤ 50 := by omega
      have hsz : Hid (∀ x ∈ ls, x.1.size ≤ 9223372036854775807) := fun x hx => by have := (HFEW.out.all x hx).1; omega
      have hC := Lib.hid (Canon_any A n c ls HN.out w1 hS1 hlen hsz.out)
      go_wp2_with fail
      refine hC.out.mono ?_
      rintro en w2 ⟨v2, k2, rfl, hb2, hres2⟩
      have hs2 := hb2.size
      have hS2 := (hS1.below hb2).more hs2
      have hR := Lib.hid (RefCanon_any A n c ls HN.out w2 hS2 hlen hsz.out)
      clear hC
      go_wp2_with fail
      refine hR.out.mono ?_
      rintro en w3 ⟨v3, k3, rfl, hb3, hres3⟩
      have hs3 := hb3.size
      clear hR
      have hk : Hid (k2 = k3) := by
        rcases hres2 with ⟨h, e, -⟩ | ⟨h, e, -⟩ <;> rcases hres3 with ⟨h', e', -⟩ | ⟨h', e', -⟩
        · exact e.trans e'.symm
        · exact absurd h h'
        · exact absurd h' h
        · exact e.trans e'.symm
      have hsame : ∃ (A2 A3 : Option Addr) (m c2 c3 : Nat) (l2 : List Lb), v2 = .slice A2 m c2 ∧ v3 = .slice A3 m c3 ∧ l2.length = m ∧ m ≤ 1099511627776 ∧ Sees w3 w3.heap.size A2 (lv l2) ∧ Sees w3 w3.heap.size A3 (lv l2) := by
        rcases hres2 with ⟨h, e, ho⟩ | ⟨h, e, ho⟩ <;> rcases hres3 with ⟨h', e', ho'⟩ | ⟨h', e', ho'⟩
        · obtain ⟨A2, c2, e2, -, -, hs2'⟩ := ho.open_
          obtain ⟨A3, c3, e3, -, -, hs3'⟩ := ho'.open_
          exact ⟨A2, A3, _, c2, c3, sortN ls, e2, e3, rfl, by rw [sortN_length, HN.out]; exact hlen, (hs2'.below hb3).more hs3, hs3'⟩
        · exact absurd h h'
        · exact absurd h' h
        · exact ⟨none, none, 0, 0, 0, [], ho, ho', rfl, by omega, Sees.nil _ _ _, Sees.nil _ _ _⟩
      clear hres2 hres3
      obtain ⟨A2, A3, m, c2, c3, l2, rfl, rfl, hm, hm40, hs2', hs3'⟩ := hsame
      have hk' := hk.out
      subst hk'
      have hSa := Lib.hid (Same_any A2 A3 m c2 m c3 l2 l2 hm hm w3 hs2' hs3' hm40 hm40)
      rw [sameLs_self] at hSa
      clear hm
      go_wp2_with fail
      refine hSa.out.mono ?_
      rintro en w4 ⟨rfl, q4, rfl⟩
      have hb4 : Below w2.heap.size w2 (w3.drewN q4) := below_d hb3 q4
      have hs4 := hb4.size
      have hS4 := (hS2.below hb4).more hs4
      generalize w3.drewN q4 = w4 at hb4 hs4 hS4 ⊢
      have hG := Lib.hid (Get_any A n c ls s HN.out w4 hS4 hlen)
      clear hSa
      go_wp2_with fail
      refine hG.out.mono ?_
      rintro en w5 ⟨rfl, hb5⟩
      have hs5 := hb5.size
      have hS5 := (hS4.below hb5).more hs5
      have hG2 := Lib.hid (RefGet_any A n c ls s HN.out w5 hS5 hlen)
      clear hG
      go_wp2_with fail
      refine hG2.out.mono ?_
      rintro en w6 ⟨rfl, rfl⟩
      have hNa := Lib.hid (Name_any s w5 (by omega))
      clear hG2
      go_wp2_with fail
      refine hNa.out.mono ?_
      rintro en w7 ⟨rfl, hb7⟩
      have hNb := Lib.hid (RefName_any s w7 (by omega))
      clear hNa
      go_wp2_with fail
      refine hNb.out.mono ?_
      rintro en w8 ⟨rfl, rfl⟩
      go_wp2
      go_ret
      exact ⟨by simp, hb1.trans ((hb2.mono hs1).trans ((hb4.mono (by omega)).trans ((hb5.mono (by omega)).trans (hb7.mono (by omega)))))⟩
    · have hs' : (50 : Int) < (s.size : Int) := by omega
      go_wp2
      go_ret
      exact ⟨rfl, hb1⟩
end Go.Proofs.YtbgnmojdkhlbaaaDoor
