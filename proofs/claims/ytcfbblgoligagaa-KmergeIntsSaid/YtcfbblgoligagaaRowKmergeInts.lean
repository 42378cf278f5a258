/-
  KmergeInts: the numbers of any rows, those that all have, and those that one has alone: the statement as it is given, for every input, no condition.
-/
import Derived.Test.YtcfbblgoligagaaKmOpen
import Derived.Test.YtcfbblgoligagaaKmLawInts
namespace Go.Proofs.Ytcfbblgoligagaa.lawKmergeInts
open Go.ChangeShapes Go.WideShapes Go.ChangeAt Go.RowKit

set_option maxRecDepth 100000 in
theorem lifted (os : Os) (started : os.Started) (H : Type) (enc : TypeId × Value → H) :
    ReturnsInHanded {} Try.checked os 4 .any (Rows.kmergeIntsSpec.pre6 enc Try.prog Try.f4 Rows.kmergeIntsRow.domain false) (Rows.kmergeIntsSpec.post enc Try.prog Try.f4 false true false false) := by
  refine returnsInHanded_of_change (C := Try.checked) Try.own started (by kernel_rfl) Try.func4
    (ChangeSpec.witness6 (enc := enc) (C := Try.checked) false ⟨#[], #[.slice none 0 0, .slice none 0 0, .slice none 0 0], []⟩ 8 (by kernel_rfl) (by kernel_rfl) (by kernel_rfl) (by kernel_rfl)) ?_
  intro W base args ds gs before hval0 hW hcnd _
  have hval : ∀ (j : Nat) t v, Try.f4.params[j]? = some t → args[j]? = some v → Value.okWide Try.prog W .any base t v := hval0
  have hW' := hW
  obtain ⟨p, q, hA0, hV, hpq, hfz, hnd⟩ := hW
  have hA : DataW.TrodAll enc Try.prog W 0 (fun _ => true) true Try.f4.params.toList args.toList ds p := hA0
  rw [Try.params4] at hA hval
  obtain ⟨v0, vs0, d0, ds0, p0, q0, hargs, rfl, rfl, h0, r0⟩ := trodAll_cons hA
  obtain ⟨v1, vs1, d1, ds1, p1, q1, rfl, rfl, rfl, h1, r1⟩ := trodAll_cons r0
  obtain ⟨v2, vs2, d2, ds2, p2, q2, rfl, rfl, rfl, h2, r2⟩ := trodAll_cons r1
  obtain ⟨rfl, rfl, rfl⟩ := trodAll_nil r2
  obtain rfl : args = #[v0, v1, v2] := by cases args; simp_all
  obtain ⟨A0, n0, c0, ls0, rfl, hn0, hc0, hS0⟩ := open_numrows (hval 0 29 v0 rfl rfl) h0
  obtain ⟨A1, n1, c1, ls1, rfl, hn1, hc1, hS1⟩ := open_nums (hval 1 30 v1 rfl rfl) h1
  obtain ⟨A2, n2, c2, ls2, rfl, hn2, hc2, hS2⟩ := open_nums (hval 2 30 v2 rfl rfl) h2
  refine (KmergeInts_any A0 A1 A2 n0 c0 n1 c1 n2 c2 ls0 ls1 ls2 hn0 hn1 hc1 hn2 hc2 W hS0 hS1 hS2).mono fun e W' ⟨he, hb⟩ => ⟨_, he, ?_⟩
  exact post_true rfl (fun ds' h => by match ds', h with | [a0, a1, a2], _ => exact ⟨rfl, rfl, rfl⟩) (by kernel_rfl) (by rw [Try.params4]; intro t ht; simp at ht; rcases ht with rfl | rfl <;> exact ⟨by kernel_rfl, of_decide_eq_true (by kernel_rfl)⟩) hW' hb rfl

theorem said : Rows.KmergeIntsSaid :=
  OpenClaim.holds_of_wide 4 Try.f4 rfl rfl rfl rfl rfl rfl rfl ⟨rfl, rfl, rfl, rfl, rfl⟩ rfl rfl rfl rfl rfl (by kernel_rfl) Try.func4 (by kernel_rfl)
    (of_decide_eq_true (by kernel_rfl)) (by unfold Func.isWrapper; first | (rw [if_pos (by decide +kernel)]; kernel_rfl) | (rw [if_neg (by decide +kernel)]; exact ⟨rfl, rfl⟩))
    (fun os started H enc _ => lifted os started H enc)
#print axioms said
end Go.Proofs.Ytcfbblgoligagaa.lawKmergeInts
