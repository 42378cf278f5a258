/-
  The document's Canon, walked: the least name that is left, again and again.
-/
import Derived.Test.YtbgnmojdkhlbaaaDoorLbMay
namespace Go.Proofs.YtbgnmojdkhlbaaaDoor
open Go.RowKit

/-- s stands behind the first k of m's names, and ahead of the others. -/
def AheadOf (m : List Lb) (k : Nat) (s : ByteArray) : Prop := ∀ j (h : j < m.length), (Op.bytesLess s.toList m[j].1.toList = true ↔ k ≤ j)
theorem AheadOf.zero {m : List Lb} (h : MayL m) : AheadOf m 0 ⟨#[]⟩ := by
  intro j hj
  refine ⟨fun _ => by omega, fun _ => ?_⟩
  have ho := h.ok _ (List.getElem_mem hj)
  unfold okL nameB at ho
  simp only [Bool.and_eq_true, decide_eq_true_eq] at ho
  have h1 := ho.1.1.1.1
  have h2 : 1 ≤ m[j].1.toList.length := by rw [Lib.toList_data]; simpa using h1
  cases hl : m[j].1.toList with
  | nil => rw [hl] at h2; simp at h2
  | cons a t => rw [show (⟨#[]⟩ : ByteArray).toList = [] from by rw [Lib.toList_data]]; rfl
theorem AheadOf.next {m : List Lb} (hu : Up m) {k : Nat} (hk : k < m.length) : AheadOf m (k + 1) m[k].1 := by
  intro j hj
  have hp := List.pairwise_iff_getElem.1 hu
  constructor
  · intro h
    rcases Nat.lt_trichotomy j k with h2 | h2 | h2
    · have := less_asymm (hp j k hj hk h2); rw [this] at h; exact absurd h (by simp)
    · subst h2; rw [bytesLess_irrefl] at h; exact absurd h (by simp)
    · omega
  · intro h
    exact hp k j hk hj (by omega)
/-- The least of the first i names that are behind s. -/
def Best (l : List Lb) (s : ByteArray) (i : Nat) (b : Int) : Prop :=
  (b = -1 ∧ ∀ j (_ : j < l.length), j < i → Op.bytesLess s.toList l[j].1.toList = false) ∨
  (∃ (q : Nat) (hq : q < l.length), b = (q : Int) ∧ q < i ∧ Op.bytesLess s.toList l[q].1.toList = true ∧ ∀ j (_ : j < l.length), j < i → Op.bytesLess s.toList l[j].1.toList = true → Op.bytesLess l[j].1.toList l[q].1.toList = false)
theorem Best.zero (l : List Lb) (s : ByteArray) : Best l s 0 (-1) := .inl ⟨rfl, fun j _ h => absurd h (by omega)⟩
theorem Best.skip {l : List Lb} {s : ByteArray} {i : Nat} {b : Int} (h : Best l s i b) (hi : i < l.length) (hn : Op.bytesLess s.toList l[i].1.toList = false) : Best l s (i + 1) b := by
  rcases h with ⟨hb, h⟩ | ⟨q, hq, hb, hqi, h1, h2⟩
  · refine .inl ⟨hb, fun j hj hji => ?_⟩
    by_cases e : j = i
    · subst e; exact hn
    · exact h j hj (by omega)
  · refine .inr ⟨q, hq, hb, by omega, h1, fun j hj hji hjs => ?_⟩
    by_cases e : j = i
    · subst e; rw [hn] at hjs; exact absurd hjs (by simp)
    · exact h2 j hj (by omega) hjs
theorem Best.stay {l : List Lb} {s : ByteArray} {i q : Nat} (hq : q < l.length) (h : Best l s i (q : Int)) (hi : i < l.length) (hn : Op.bytesLess l[i].1.toList l[q].1.toList = false) : Best l s (i + 1) (q : Int) := by
  rcases h with ⟨hb, h⟩ | ⟨q', hq', hb, hqi, h1, h2⟩
  · omega
  · have : q' = q := by omega
    subst this
    refine .inr ⟨q', hq', rfl, by omega, h1, fun j hj hji hjs => ?_⟩
    by_cases e : j = i
    · subst e; exact hn
    · exact h2 j hj (by omega) hjs
theorem Best.first {l : List Lb} {s : ByteArray} {i : Nat} (h : Best l s i (-1)) (hi : i < l.length) (hg : Op.bytesLess s.toList l[i].1.toList = true) : Best l s (i + 1) (i : Int) := by
  rcases h with ⟨-, h⟩ | ⟨q', hq', hb, -⟩
  · refine .inr ⟨i, hi, rfl, by omega, hg, fun j hj hji hjs => ?_⟩
    by_cases e : j = i
    · subst e; exact bytesLess_irrefl _
    · rw [h j hj (by omega)] at hjs; exact absurd hjs (by simp)
  · omega
theorem Best.take {l : List Lb} {s : ByteArray} {i q : Nat} (hq : q < l.length) (h : Best l s i (q : Int)) (hi : i < l.length) (hg : Op.bytesLess s.toList l[i].1.toList = true) (hl : Op.bytesLess l[i].1.toList l[q].1.toList = true) : Best l s (i + 1) (i : Int) := by
  rcases h with ⟨hb, h⟩ | ⟨q', hq', hb, hqi, h1, h2⟩
  · omega
  · have : q' = q := by omega
    subst this
    refine .inr ⟨i, hi, rfl, by omega, hg, fun j hj hji hjs => ?_⟩
    by_cases e : j = i
    · subst e; exact bytesLess_irrefl _
    · cases h3 : Op.bytesLess l[j].1.toList l[i].1.toList with
      | false => rfl
      | true => have := less_trans h3 hl; rw [h2 j hj (by omega) hjs] at this; exact absurd this (by simp)
theorem Best.end_ {l m : List Lb} {s : ByteArray} {n k : Nat} {b : Int} (hn : l.length = n) (p : m.Perm l) (hu : Up m) (hk : k < m.length) (ha : AheadOf m k s) (h : Best l s n b) : ∃ (q : Nat) (hq : q < l.length), b = (q : Int) ∧ l[q] = m[k] := by
  obtain ⟨j', hj', ej'⟩ := List.mem_iff_getElem.1 (p.mem_iff.1 (List.getElem_mem hk))
  have hs : Op.bytesLess s.toList l[j'].1.toList = true := by rw [ej']; exact (ha k hk).2 (Nat.le_refl _)
  rcases h with ⟨-, h⟩ | ⟨q, hq, hb, -, h1, h2⟩
  · rw [h j' hj' (by omega)] at hs; exact absurd hs (by simp)
  · refine ⟨q, hq, hb, ?_⟩
    obtain ⟨j, hj, ej⟩ := List.mem_iff_getElem.1 (p.mem_iff.2 (List.getElem_mem hq))
    rw [← ej] at h1
    have hkj := (ha j hj).1 h1
    have h3 := h2 j' hj' (by omega) hs
    rw [ej', ← ej] at h3
    have : j = k := by
      rcases Nat.lt_or_ge k j with h4 | h4
      · have := List.pairwise_iff_getElem.1 hu k j hk hj h4
        unfold ltN at this
        rw [h3] at this
        exact absurd this (by simp)
      · omega
    subst this
    exact ej.symm

theorem take_step {m : List Lb} {k : Nat} (hk : k < m.length) : m.take k ++ [m[k]] = m.take (k + 1) := by
  rw [List.take_add_one, List.getElem?_eq_getElem hk]; rfl

set_option maxRecDepth 100000 in
set_option maxHeartbeats 3200000 in
theorem RefCanon_any (A : Option Addr) (n c : Nat) (ls : List Lb) (hn : ls.length = n) (w : World) (hS : Sees w w.heap.size A (lv ls)) (hlen : n ≤ 1099511627776) (hsz : ∀ x ∈ ls, x.1.size ≤ 9223372036854775807) :
    Calls Tryd.prog 12 #[.slice A n c] w (CanonOut w ls) := by
  have hC := Lib.hid (RefMay_any A n c ls hn w hS hlen hsz)
  have HN := Lib.hid hn
  have HL := Lib.hid hlen
  have hm0 := fun h : MayL ls => h.sort
  have hu0 := fun h : MayL ls => sortN_up h.dist
  have hp0 := sortN_perm ls
  have hl0 : (sortN ls).length = n := (sortN_length ls).trans hn
  have hout : CanonOut w ls = fun e w' => ∃ (v : Value) (k : Nat), e = .returned (.tuple #[v, .int .i64 k]) ∧ Below w.heap.size w w' ∧ ((MayL ls ∧ k = 0 ∧ OwnL w' w.heap.size v (sortN ls)) ∨ (¬ MayL ls ∧ k = 70 ∧ v = .slice none 0 0)) := rfl
  rw [hout]
  generalize sortN ls = m at hm0 hu0 hp0 hl0 ⊢
  have HM := Lib.hid hl0
  clear hn hsz hl0 hout
  go_enter Tryd.func12, Tryd.ntmps12
  go_wp2_with fail
  refine hC.out.mono ?_
  rintro e w1 ⟨b, hb, rfl, q, rfl⟩
  cases b with
  | false =>
    have hno : ¬ MayL ls := fun h => absurd (hb.2 h) (by simp)
    clear hm0 hu0
    go_wp2
    go_ret2
    exact ⟨_, 70, rfl, below_d (Below.refl _ _) q, .inr ⟨hno, rfl, rfl⟩⟩
  | true =>
    have hmay := hb.1 rfl
    have HMAY := Lib.hid hmay
    have HA := Lib.hid (AheadOf.zero (hm0 hmay))
    have HU := Lib.hid (hu0 hmay)
    have HP := Lib.hid hp0
    clear hb hmay hm0 hu0 hp0 hC
    go_wp2
    go_loopg [5, 6] n (fun g o s wr => ∃ (k : Nat) (sx : ByteArray), k + g = n ∧ s = .string sx ∧ OwnL wr w.heap.size o (m.take k) ∧ AheadOf m k sx ∧ Below w.heap.size w wr)
    case atStart => exact ⟨0, ⟨#[]⟩, by omega, rfl, OwnL.nil _ _, HA.out, below_d (Below.refl _ _) q⟩
    case round =>
      obtain ⟨k, sx, hk, rfl, hown, hah, hbr⟩ := hrel
      have hlenk : (m.take k).length = k := by rw [List.length_take, HM.out]; omega
      have hsr := hbr.size
      have hown' := hown
      obtain ⟨Ao, co, rfl, -, -, hSo⟩ := hown.open_
      rw [hlenk] at hown ⊢
      clear hown'
      have HAH := Lib.hid hah
      clear hah
      by_cases hlt : k < n
      · have hSr := hS.below hbr
        go_wp2
        go_loopg [7, 8] n (fun g bb i w3 => ∃ (j : Nat) (bz : Int), j + g = n ∧ i = .int .i64 j ∧ bb = .int .i64 bz ∧ Best ls sx j bz ∧ ∃ q, w3 = wr.drewN q)
        case atStart => exact ⟨0, -1, by omega, rfl, rfl, Best.zero _ _, 0, rfl⟩
        case round =>
          obtain ⟨j, bz, hj, rfl, rfl, hbest, q3, rfl⟩ := hrel
          have hbest' := hbest
          by_cases hjn : j < n
          · have hjl : j < ls.length := by have := HN.out; omega
            obtain ⟨ad, rfl, hadB, hc0, hc1⟩ := hSr.lb (k := j) hjl
            obtain ⟨x, hx⟩ : ∃ x, ls[j] = x := ⟨_, rfl⟩
            have HX := Lib.hid hx
            rw [hx] at hc0 hc1
            have HBEST := Lib.hid hbest
            clear hx hbest'
            by_cases hg : Op.bytesLess sx.toList x.1.toList = true
            · have g1 : Op.bytesLess x.1.toList sx.toList = false := less_asymm hg
              have g2 : (x.1.toList == sx.toList) = false := beq_eq_false_iff_ne.2 fun e => by rw [e, bytesLess_irrefl] at hg; exact absurd hg (by simp)
              have HG := Lib.hid hg
              clear hg
              rcases hbest with ⟨rfl, -⟩ | ⟨qq, hqq, rfl, hqi, -, -⟩
              · go_wp2
                go_quiet (fail)
                go_wp2
                go_roundg (n - (j + 1))
                case measure => omega
                case rel => exact ⟨j + 1, _, by omega, by go_num, rfl, HBEST.out.first hjl (by rw [HX.out]; exact HG.out), _, rfl⟩
              · obtain ⟨ad2, hade, -, hd0, -⟩ := hSr.lb (k := qq) hqq
                injection hade with hade
                subst hade
                obtain ⟨y, hy⟩ : ∃ y, ls[qq] = y := ⟨_, rfl⟩
                have HY := Lib.hid hy
                rw [hy] at hd0
                have qn : (qq : Int) < (n : Int) := by omega
                have q0 : (0 : Int) ≤ (qq : Int) := by omega
                clear hy
                by_cases hl : Op.bytesLess x.1.toList y.1.toList = true
                · go_wp2
                  go_quiet (fail)
                  go_wp2
                  go_roundg (n - (j + 1))
                  case measure => omega
                  case rel => exact ⟨j + 1, _, by omega, by go_num, rfl, HBEST.out.take hqq hjl (by rw [HX.out]; exact HG.out) (by rw [HX.out, HY.out]; exact hl), _, rfl⟩
                · rw [Bool.not_eq_true] at hl
                  go_wp2
                  go_quiet (fail)
                  go_wp2
                  go_roundg (n - (j + 1))
                  case measure => omega
                  case rel => exact ⟨j + 1, _, by omega, by go_num, rfl, HBEST.out.stay hqq hjl (by rw [HX.out, HY.out]; exact hl), _, rfl⟩
            · rw [Bool.not_eq_true] at hg
              have HG := Lib.hid hg
              clear hbest
              by_cases g1 : Op.bytesLess x.1.toList sx.toList = true
              · clear hg
                go_wp2
                go_quiet (fail)
                go_wp2
                go_roundg (n - (j + 1))
                case measure => omega
                case rel => exact ⟨j + 1, _, by omega, by go_num, rfl, HBEST.out.skip hjl (by rw [HX.out]; exact HG.out), _, rfl⟩
              · rw [Bool.not_eq_true] at g1
                have g2 : (x.1.toList == sx.toList) = true := by rw [beq_iff_eq]; exact less_total g1 hg
                clear hg
                go_wp2
                go_quiet (fail)
                go_wp2
                go_roundg (n - (j + 1))
                case measure => omega
                case rel => exact ⟨j + 1, _, by omega, by go_num, rfl, HBEST.out.skip hjl (by rw [HX.out]; exact HG.out), _, rfl⟩
          · have hjn2 : j = n := by omega
            have hkm : k < m.length := by have := HM.out; omega
            obtain ⟨qq, hqq, rfl, hqe⟩ := (show Best ls sx n bz from hjn2 ▸ hbest).end_ HN.out HP.out HU.out hkm HAH.out
            clear hbest hbest'
            obtain ⟨ad, rfl, hadB, hc0, hc1⟩ := hSr.lb (k := qq) hqq
            have hnext := AheadOf.next HU.out hkm
            have htk := take_step hkm
            rw [hqe] at hc0 hc1
            clear hqe
            generalize m[k] = x at hc0 hc1 hnext htk
            have qn : (qq : Int) < (n : Int) := by have := HN.out; omega
            have HNEXT := Lib.hid hnext
            have HTK := Lib.hid htk
            clear hnext htk
            subst hjn2
            have hB3 : Below w.heap.size wr (wr.drewN q3) := below_d (Below.refl _ _) q3
            go_wp2_with (at_builtin; refine wpList_append_l rfl (.tmp 49) (.tmp 54) rfl w.heap.size _ (m.take k) (by rfl) ((hown.drewN q3).alloc _) (wr.heap.size + 1) _ 1 _ [x] (by rfl) rfl (sees_newL (wr.drewN q3) [x] _ _ rfl) (by omega) (Nat.le_trans hsr (by simp)) ?_; intro v1 w2 hown1 hon1; have hB5 : Below w.heap.size wr w2 := (hB3.alloc hsr _).trans (hon1.below (Nat.le_trans hsr (by simp)) hown.block); have hc0' := (hB5.cell (p := ad.add (qq * 2)) (by rw [add_block]; exact hadB)).trans hc0)
            go_roundg (j - (k + 1))
            case measure => omega
            case rel => exact ⟨k + 1, x.1, by omega, rfl, by rw [← HTK.out]; exact hown1, HNEXT.out, hbr.trans hB5⟩
      · have hkn : k = n := by omega
        have htk : m.take k = m := List.take_of_length_le (by have := HM.out; omega)
        rw [htk] at hown
        clear hlenk htk
        have i1 : (n : Int) ≤ (k : Int) := by omega
        go_wp2
        go_ret2
        exact ⟨_, 0, rfl, hbr, .inl ⟨HMAY.out, rfl, hown⟩⟩
end Go.Proofs.YtbgnmojdkhlbaaaDoor
