/-
  The document's May, walked.
-/
import Derived.Test.YtbgnmojdkhlbaaaDoorLbCanon
namespace Go.Proofs.YtbgnmojdkhlbaaaDoor
open Go.RowKit

/-- The first k labels are well, and their names are all other ones. -/
def Fine (l : List Lb) (k : Nat) : Prop := ∀ j (h : j < l.length), j < k → okL l[j] = true ∧ ∀ i (_ : i < j), (l[i]'(by omega)).1 ≠ l[j].1
def Apart (l : List Lb) (j k : Nat) : Prop := ∀ (h : j < l.length) i (_ : i < j), i < k → (l[i]'(by omega)).1 ≠ l[j].1
theorem Fine.zero (l : List Lb) : Fine l 0 := fun j _ h => absurd h (by omega)
theorem Fine.step {l : List Lb} {k : Nat} (h : Fine l k) (hk : k < l.length) (ho : okL l[k] = true) (hd : Apart l k k) : Fine l (k + 1) := by
  intro j hj hjk
  by_cases e : j = k
  · subst e; exact ⟨ho, fun i hi => hd hk i hi hi⟩
  · exact h j hj (by omega)
theorem Fine.end_ {l : List Lb} {n : Nat} (hn : l.length = n) (h1 : 1 ≤ n) (h6 : n ≤ 6) (h : Fine l n) : MayL l :=
  ⟨by omega, by omega, fun x hx => by obtain ⟨j, hj, e⟩ := List.mem_iff_getElem.1 hx; rw [← e]; exact (h j hj (by omega)).1, List.pairwise_iff_getElem.2 fun i j hi hj hij => (h j hj (by omega)).2 i hij⟩
theorem Apart.zero (l : List Lb) (j : Nat) : Apart l j 0 := fun _ i _ h => absurd h (by omega)
theorem Apart.step {l : List Lb} {j k : Nat} (h : Apart l j k) (hk : k < l.length) (hne : ∀ hj : j < l.length, l[k].1 ≠ l[j].1) : Apart l j (k + 1) := by
  intro hj i hi hik
  by_cases e : i = k
  · subst e; exact hne hj
  · exact h hj i hi (by omega)

/-- Whether labels may be, a new place on the tape. -/
def MayOut (w : World) (ls : List Lb) (e : Ending) (w' : World) : Prop := ∃ b : Bool, (b = true ↔ MayL ls) ∧ e = .returned (.bool b) ∧ ∃ q, w' = w.drewN q
theorem MayOut.no {w w' : World} {ls : List Lb} (h : ¬ MayL ls) {q : Nat} (hw : w' = w.drewN q) : MayOut w ls (.returned (.bool false)) w' := ⟨false, ⟨fun e => absurd e (by simp), fun e => absurd e h⟩, rfl, q, hw⟩
theorem MayOut.yes {w w' : World} {ls : List Lb} (h : MayL ls) {q : Nat} (hw : w' = w.drewN q) : MayOut w ls (.returned (.bool true)) w' := ⟨true, ⟨fun _ => h, fun _ => rfl⟩, rfl, q, hw⟩

set_option maxRecDepth 100000 in
set_option maxHeartbeats 1600000 in
theorem RefMay_any (A : Option Addr) (n c : Nat) (ls : List Lb) (hn : ls.length = n) (w : World) (hS : Sees w w.heap.size A (lv ls)) (hlen : n ≤ 1099511627776) (hsz : ∀ x ∈ ls, x.1.size ≤ 9223372036854775807) :
    Calls Tryd.prog 32 #[.slice A n c] w (MayOut w ls) := by
  by_cases h1 : 1 ≤ n
  · by_cases h6 : n ≤ 6
    · have i1 : (1 : Int) ≤ (n : Int) := by omega
      have i6 : (n : Int) ≤ 6 := by omega
      have HN := Lib.hid hn
      have HL := Lib.hid hlen
      have HSIZE := Lib.hid hsz
      clear hn hlen hsz
      go_enter Tryd.func32, Tryd.ntmps32
      go_wp2
      go_loopg [3] n (fun g i wr => ∃ k : Nat, k + g = n ∧ i = .int .i64 k ∧ Fine ls k ∧ ∃ q, wr = w.drewN q)
      case atStart => exact ⟨0, by omega, rfl, Fine.zero _, 0, rfl⟩
      case round =>
        obtain ⟨k, hk, rfl, hfine, q, rfl⟩ := hrel
        by_cases hlt : k < n
        · have hkl : k < ls.length := by have := HN.out; omega
          obtain ⟨ad, rfl, hadB, hc0, hc1⟩ := hS.lb (k := k) hkl
          obtain ⟨x, hx⟩ : ∃ x, ls[k] = x := ⟨_, rfl⟩
          have HX := Lib.hid hx
          have hmem : x ∈ ls := by rw [← hx]; exact List.getElem_mem hkl
          rw [hx] at hc0 hc1
          have hxs := HSIZE.out x hmem
          obtain ⟨b, hb⟩ : ∃ b, nameB x.1 = b := ⟨_, rfl⟩
          have hC : ∀ q, Hid (Calls Tryd.prog 17 #[.string x.1] (w.drewN q) _) := fun q => by
            have := RefName_any x.1 (w.drewN q) hxs
            rw [hb] at this
            exact Lib.hid this
          have hok : okL x = (b && decide (1 ≤ x.2.size) && decide (x.2.size ≤ 16)) := by rw [← hb]; rfl
          clear hx hb hxs
          have HMEM := Lib.hid hmem
          clear hmem
          cases b with
          | false =>
            have hno : ¬ MayL ls := fun h => by have := h.ok x HMEM.out; rw [hok] at this; exact absurd this (by simp)
            clear hok
            go_wp2_with fail
            refine (hC _).out.mono ?_
            rintro e w1 ⟨rfl, rfl⟩
            go_wp2
            go_ret
            exact MayOut.no hno rfl
          | true =>
            by_cases s1 : 1 ≤ x.2.size
            · have s1' : (1 : Int) ≤ (x.2.size : Int) := by omega
              by_cases s2 : x.2.size ≤ 16
              · have s2' : (x.2.size : Int) ≤ 16 := by omega
                have HO : Hid (okL x = true) := by unfold Hid; rw [hok, decide_eq_true s1, decide_eq_true s2]; rfl
                clear hok s1 s2
                go_wp2_with fail
                refine (hC _).out.mono ?_
                rintro e w1 ⟨rfl, rfl⟩
                go_wp2
                go_loopg [5] k (fun g i wr => ∃ j : Nat, j + g = k ∧ i = .int .i64 j ∧ Apart ls k j ∧ ∃ q, wr = w.drewN q)
                case atStart => exact ⟨0, by omega, rfl, Apart.zero _ _, _, rfl⟩
                case round =>
                  obtain ⟨j, hj, rfl, hap, q2, rfl⟩ := hrel
                  by_cases hjk : j < k
                  · have hjl : j < ls.length := by omega
                    obtain ⟨ad2, hade, -, hd0, -⟩ := hS.lb (k := j) hjl
                    injection hade with hade
                    subst hade
                    obtain ⟨y, hy⟩ : ∃ y, ls[j] = y := ⟨_, rfl⟩
                    have HY := Lib.hid hy
                    rw [hy] at hd0
                    have jn : (j : Int) < (n : Int) := by omega
                    clear hy
                    by_cases hxy : y.1.toList = x.1.toList
                    · have hno : ¬ MayL ls := fun h => List.pairwise_iff_getElem.1 h.dist j k hjl hkl hjk (by rw [HX.out, HY.out]; exact bytes_same hxy)
                      go_wp2
                      go_quiet (fail)
                      go_wp2
                      go_ret
                      exact MayOut.no hno (by first | rfl | exact World.drewN_drewN _ _ _)
                    · have hxy' : (y.1.toList == x.1.toList) = false := beq_eq_false_iff_ne.2 hxy
                      have HNE := Lib.hid hxy
                      clear hxy
                      go_wp2
                      go_quiet (fail)
                      go_wp2
                      go_roundg (k - (j + 1))
                      case measure => omega
                      case rel => exact ⟨j + 1, by omega, by go_num, hap.step hjl (fun _ => by rw [HX.out, HY.out]; intro e; exact HNE.out (by rw [e])), _, rfl⟩
                  · have hjk2 : j = k := by omega
                    subst hjk2
                    go_wp2
                    go_roundg (n - (j + 1))
                    case measure => omega
                    case rel => exact ⟨j + 1, by omega, by go_num, hfine.step hkl (by rw [HX.out]; exact HO.out) hap, _, rfl⟩
              · have s2' : (16 : Int) < (x.2.size : Int) := by omega
                have hno : ¬ MayL ls := fun h => by have := h.ok x HMEM.out; rw [hok, decide_eq_false s2] at this; simp at this
                clear hok s1 s2
                go_wp2_with fail
                refine (hC _).out.mono ?_
                rintro e w1 ⟨rfl, rfl⟩
                go_wp2
                go_ret
                exact MayOut.no hno rfl
            · have s1' : (x.2.size : Int) < 1 := by omega
              have hno : ¬ MayL ls := fun h => by have := h.ok x HMEM.out; rw [hok, decide_eq_false s1] at this; simp at this
              clear hok s1
              go_wp2_with fail
              refine (hC _).out.mono ?_
              rintro e w1 ⟨rfl, rfl⟩
              go_wp2
              go_ret
              exact MayOut.no hno rfl
        · have hkn : k = n := by omega
          have hmay : MayL ls := (show Fine ls n from hkn ▸ hfine).end_ HN.out h1 h6
          have HMAY := Lib.hid hmay
          clear HN hmay
          subst hkn
          go_wp2
          go_ret
          exact MayOut.yes HMAY.out rfl
    · have i6 : (6 : Int) < (n : Int) := by omega
      have i1 : (1 : Int) ≤ (n : Int) := by omega
      have hm : ¬ MayL ls := fun h => by have := h.few; omega
      clear hn
      go_enter Tryd.func32, Tryd.ntmps32
      go_wp2
      go_ret
      exact MayOut.no hm (q := 0) rfl
  · have i1 : (n : Int) < 1 := by omega
    have hm : ¬ MayL ls := fun h => by have := h.some; omega
    clear hn
    go_enter Tryd.func32, Tryd.ntmps32
    go_wp2
    go_ret
    exact MayOut.no hm (q := 0) rfl
end Go.Proofs.YtbgnmojdkhlbaaaDoor
