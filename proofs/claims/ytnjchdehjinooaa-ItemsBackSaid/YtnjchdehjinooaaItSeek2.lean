/-
  items.Seek, which halves.
-/
import Derived.Test.YtnjchdehjinooaaItSeek
namespace Go.Proofs.Ytnjchdehjinooaa
open Go.RowKit

/-- A number at most n; among rising items: how many are ahead of x. -/
def SeekIs (w : World) (ls : List (List UInt8)) (x : List UInt8) (e : Ending) (w' : World) : Prop := w' = w ∧ ∃ k : Nat, k ≤ ls.length ∧ (risesB ls = true → k = firstNot x ls) ∧ e = .returned (.int .i64 (k : Nat))

/-- What halving keeps: rising items below i are ahead of x, those from j on aren't. -/
def Halved (ls : List (List UInt8)) (x : List UInt8) (i j : Nat) : Prop :=
  risesB ls = true → (∀ a (h : a < ls.length), a < i → ahead ls[a] x = true) ∧ (∀ a (h : a < ls.length), j ≤ a → ahead ls[a] x = false)
theorem Halved.lo {ls : List (List UInt8)} {x : List UInt8} {i j k : Nat} (h : Halved ls x i j) (hk : k < ls.length) (e : ahead ls[k] x = true) : Halved ls x (k + 1) j := fun hr => by
  refine ⟨fun a ha hak => ?_, (h hr).2⟩
  by_cases hak2 : a = k
  · subst hak2; exact e
  · exact ahead_trans (rises_pair hr ha hk (by omega)) e
theorem Halved.hi {ls : List (List UInt8)} {x : List UInt8} {i j k : Nat} (h : Halved ls x i j) (hk : k < ls.length) (e : ahead ls[k] x = false) : Halved ls x i k := fun hr => by
  refine ⟨(h hr).1, fun a ha hak => ?_⟩
  by_cases hak2 : a = k
  · subst hak2; exact e
  · have h1 := rises_pair hr hk ha (by omega)
    rw [← Bool.not_eq_true]
    intro h2
    rw [ahead_trans h1 h2] at e
    cases e
theorem Halved.done {ls : List (List UInt8)} {x : List UInt8} {i : Nat} (h : Halved ls x i i) (hi : i ≤ ls.length) (hr : risesB ls = true) : i = firstNot x ls :=
  (firstNot_eq hi (h hr).1 (fun hk => (h hr).2 i hk (Nat.le_refl _))).symm

set_option maxRecDepth 100000 in
set_option maxHeartbeats 400000 in
theorem seek_any (A B : Option Addr) (n c m d : Nat) (ls : List (List UInt8)) (x : List UInt8) (hn : ls.length = n) (hm : x.length = m) (w : World) (hS : Sees2 w w.heap.size A ls) (hS2 : Sees w w.heap.size B (bv x)) (hlen : n ≤ 1099511627776) :
    Calls Try.prog 19 #[.slice A n c, .slice B m d, cmpFn] w (SeekIs w ls x) := by
  unfold cmpFn
  have HN := Lib.hid hn
  have HM := Lib.hid hm
  clear hn hm
  go_enter Try.func19, Try.ntmps19
  go_wp2
  go_loopg [7, 8] n (fun g f t wr => ∃ i j : Nat, i ≤ j ∧ j ≤ n ∧ j ≤ i + g ∧ f = .int .i64 i ∧ t = .int .i64 j ∧ Hid (Halved ls x i j) ∧ wr = w)
  case atStart => exact ⟨0, n, by omega, by omega, by omega, rfl, rfl, (fun _ => ⟨fun a _ ha => absurd ha (by omega), fun a ha h => absurd ha (by have := HN.out; omega)⟩), rfl⟩
  case round =>
    obtain ⟨i, j, hij, hjn, hg, rfl, rfl, heq, rfl⟩ := hrel
    by_cases hlt : i < j
    · obtain ⟨k, hk⟩ : ∃ k, (i + j) / 2 = k := ⟨_, rfl⟩
      have hki : i ≤ k := by omega
      have hkj : k < j := by omega
      have hq : ((i : Int) + (j : Int)).tdiv 2 = (k : Int) := by rw [Int.tdiv_eq_ediv_of_nonneg (by omega)]; omega
      obtain ⟨ad, Ai, ci, rfl, hadB, hcell, hci, hsee⟩ := hS.out k (by have := HN.out; omega)
      obtain ⟨L, hL⟩ : ∃ L, ls[k]'(by have := HN.out; omega) = L := ⟨_, rfl⟩
      have hlo : ahead (ls[k]'(by have := HN.out; omega)) x = true → Hid (Halved ls x (k + 1) j) := fun e => heq.out.lo _ e
      have hhi : ahead (ls[k]'(by have := HN.out; omega)) x = false → Hid (Halved ls x i k) := fun e => heq.out.hi _ e
      rw [hL] at hcell hci hsee hlo hhi
      have hC := Lib.hid (Compare_any Ai B L.length m ci d L x rfl HM.out _ hsee hS2)
      clear hL heq
      obtain ⟨b, hb⟩ : ∃ b, ahead L x = b := ⟨_, rfl⟩
      rw [hb] at hlo hhi
      have h1 := cmp_neg L x
      rw [hb] at h1
      clear hb
      generalize Lib.compareBytes L x = z at hC h1
      have hkd : (↑((i + j) / 2) : Int) = (k : Int) := by omega
      have hkd2 : ((i : Int) + (j : Int)) / 2 = (k : Int) := by omega
      clear hk
      cases b with
      | true =>
        have hz : z < 0 := by simpa using h1
        have hT := hlo rfl
        clear hlo hhi h1
        go_wp2_with fail
        refine hC.out.mono ?_
        rintro e w1 ⟨rfl, rfl⟩
        go_wp2
        go_roundg (j - (k + 1))
        case measure => omega
        case rel => exact ⟨k + 1, j, by omega, by omega, by omega, by go_num, rfl, hT, rfl⟩
      | false =>
        have hz : 0 ≤ z := by simpa using h1
        have hT := hhi rfl
        clear hlo hhi h1
        go_wp2_with fail
        refine hC.out.mono ?_
        rintro e w1 ⟨rfl, rfl⟩
        go_wp2
        go_roundg (k - i)
        case measure => omega
        case rel => exact ⟨i, k, by omega, by omega, by omega, rfl, by go_num, hT, rfl⟩
    · obtain rfl : i = j := by omega
      go_wp2
      go_ret
      exact ⟨rfl, i, by have := HN.out; omega, heq.out.done (by have := HN.out; omega), rfl⟩

set_option maxRecDepth 100000 in
set_option maxHeartbeats 400000 in
theorem Seek_any (A B : Option Addr) (n c m d : Nat) (ls : List (List UInt8)) (x : List UInt8) (hn : ls.length = n) (hm : x.length = m) (w : World) (hS : Sees2 w w.heap.size A ls) (hS2 : Sees w w.heap.size B (bv x)) (hlen : n ≤ 1099511627776) :
    Calls Try.prog 11 #[.slice A n c, .slice B m d] w (SeekIs w ls x) := by
  have hC := Lib.hid (seek_any A B n c m d ls x hn hm w hS hS2 hlen)
  clear hn hm hS hS2
  go_enter Try.func11, Try.ntmps11
  go_wp2_with fail
  refine hC.out.mono ?_
  rintro e w1 ⟨rfl, k, h1, h2, rfl⟩
  have H2 := Lib.hid h2
  clear h2
  go_wp2
  go_ret
  exact ⟨rfl, k, h1, H2.out, rfl⟩
end Go.Proofs.Ytnjchdehjinooaa
