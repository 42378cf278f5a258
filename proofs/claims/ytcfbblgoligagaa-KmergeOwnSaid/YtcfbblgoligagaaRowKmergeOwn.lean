/-
  KmergeOwn: what is handed in stays as it was; what is told is new memory: the statement as it is given, for every input, no condition.
-/
import Derived.Test.YtcfbblgoligagaaKmOpen
import Derived.Test.YtcfbblgoligagaaKmLawOwn
namespace Go.Proofs.Ytcfbblgoligagaa.lawKmergeOwn
open Go.ChangeShapes Go.WideShapes Go.ChangeAt Go.RowKit

set_option maxRecDepth 100000 in
theorem lifted (os : Os) (started : os.Started) (H : Type) (enc : TypeId × Value → H) :
    ReturnsInHanded {} Try.checked os 7 .any (Rows.kmergeOwnSpec.pre6 enc Try.prog Try.f7 Rows.kmergeOwnRow.domain false) (Rows.kmergeOwnSpec.post enc Try.prog Try.f7 false true false false) := by
  refine returnsInHanded_of_change (C := Try.checked) Try.own started (by kernel_rfl) Try.func7
    (ChangeSpec.witness6 (enc := enc) (C := Try.checked) false ⟨#[], #[.slice none 0 0, .slice none 0 0], []⟩ 8 (by kernel_rfl) (by kernel_rfl) (by kernel_rfl) (by kernel_rfl)) ?_
  intro W base args ds gs before hval0 hW hcnd _
  have hval : ∀ (j : Nat) t v, Try.f7.params[j]? = some t → args[j]? = some v → Value.okWide Try.prog W .any base t v := hval0
  have hW' := hW
  obtain ⟨p, q, hA0, hV, hpq, hfz, hnd⟩ := hW
  have hA : DataW.TrodAll enc Try.prog W 0 (fun _ => true) true Try.f7.params.toList args.toList ds p := hA0
  rw [Try.params7] at hA hval
  obtain ⟨v0, vs0, d0, ds0, p0, q0, hargs, rfl, rfl, h0, r0⟩ := trodAll_cons hA
  obtain ⟨v1, vs1, d1, ds1, p1, q1, rfl, rfl, rfl, h1, r1⟩ := trodAll_cons r0
  obtain ⟨rfl, rfl, rfl⟩ := trodAll_nil r1
  obtain rfl : args = #[v0, v1] := by cases args; simp_all
  obtain ⟨A0, n0, c0, ls0, rfl, hn0, hc0, hS0⟩ := open_rows (hval 0 26 v0 rfl rfl) h0
  obtain ⟨A1, n1, c1, ls1, rfl, hn1, hc1, hS1⟩ := open_nums (hval 1 30 v1 rfl rfl) h1
  refine (KmergeOwn_any A0 A1 n0 c0 n1 c1 ls0 ls1 hn0 hc0 hn1 hc1 W hS0 hS1).mono fun e W' ⟨he, hb⟩ => ⟨_, he, ?_⟩
  exact post_true rfl (fun ds' h => by match ds', h with | [a0, a1], _ => exact ⟨rfl, rfl, rfl⟩) (by kernel_rfl) (by rw [Try.params7]; intro t ht; simp at ht; rcases ht with rfl | rfl <;> exact ⟨by kernel_rfl, of_decide_eq_true (by kernel_rfl)⟩) hW' hb rfl

theorem said : Rows.KmergeOwnSaid :=
  OpenClaim.holds_of_wide 7 Try.f7 rfl rfl rfl rfl rfl rfl rfl ⟨rfl, rfl, rfl, rfl, rfl⟩ rfl rfl rfl rfl rfl (by kernel_rfl) Try.func7 (by kernel_rfl)
    (of_decide_eq_true (by kernel_rfl)) (by unfold Func.isWrapper; first | (rw [if_pos (by decide +kernel)]; kernel_rfl) | (rw [if_neg (by decide +kernel)]; exact ⟨rfl, rfl⟩))
    (fun os started H enc _ => lifted os started H enc)
#print axioms said
end Go.Proofs.Ytcfbblgoligagaa.lawKmergeOwn
