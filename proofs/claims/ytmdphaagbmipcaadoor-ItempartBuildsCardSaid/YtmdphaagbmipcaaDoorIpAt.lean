/-
  Where an item would stand: halving, whole; the block.
-/
import Derived.Test.YtmdphaagbmipcaaDoorIpPart2
namespace Go.Proofs.YtmdphaagbmipcaaDoor
open Go.RowKit

theorem cmp_zeroI : ∀ (l r : List UInt8), Lib.compareBytes l r = 0 ↔ l = r
  | [], [] => by simp [Lib.compareBytes]
  | [], _ :: _ => by simp [Lib.compareBytes]
  | _ :: _, [] => by simp [Lib.compareBytes]
  | a :: s, b :: t => by
    have ih := cmp_zeroI s t
    unfold Lib.compareBytes
    by_cases h1 : a < b
    · have hne : a ≠ b := fun e => by subst e; exact absurd h1 (UInt8.lt_irrefl a)
      simp [h1, hne]
    · by_cases h2 : b < a
      · have hne : a ≠ b := fun e => by subst e; exact absurd h2 (UInt8.lt_irrefl a)
        simp [h1, h2, hne]
      · have e : a = b := UInt8.le_antisymm (UInt8.not_lt.1 h2) (UInt8.not_lt.1 h1)
        subst e
        simp [h1, ih]

/-- Does the item stand at the place where it would? -/
def foundB (ls : List Item) (x : Item) : Bool := decide (∃ h : firstNot x ls < ls.length, ls[firstNot x ls] = x)
def SearchIs (w : World) (ls : List Item) (x : Item) (e : Ending) (w' : World) : Prop := w' = w ∧ e = .returned (.tuple #[.int .i64 (firstNot x ls : Nat), .bool (foundB ls x)])

set_option maxRecDepth 100000 in
set_option maxHeartbeats 1600000 in
theorem Search_any (A B : Option Addr) (n c m d : Nat) (ls : List Item) (x : Item) (hn : ls.length = n) (hm : x.length = m) (w : World) (hS : Sees2 w w.heap.size A ls) (hS2 : Sees w w.heap.size B (bv x)) (hlen : n ≤ 1099511627776) (hr : risesB ls = true) :
    Calls Tryd.prog 73 #[.slice A n c, .slice B m d, cmpFn] w (SearchIs w ls x) := by
  unfold cmpFn
  have HN := Lib.hid hn
  have HM := Lib.hid hm
  have HR := Lib.hid hr
  clear hn hm hr
  go_enter Tryd.func73, Tryd.ntmps73
  go_wp2
  go_loopg [9, 10] n (fun g f t wr => ∃ i j : Nat, i ≤ j ∧ j ≤ n ∧ j ≤ i + g ∧ f = .int .i64 i ∧ t = .int .i64 j ∧ Hid (Halved ls x i j) ∧ wr = w)
  case atStart => exact ⟨0, n, by omega, by omega, by omega, rfl, rfl, (fun _ => ⟨fun a _ ha => absurd ha (by omega), fun a ha h => absurd ha (by have := HN.out; omega)⟩), rfl⟩
  case round =>
    obtain ⟨i, j, hij, hjn, hg, rfl, rfl, heq, rfl⟩ := hrel
    by_cases hlt : i < j
    · obtain ⟨k, hk⟩ : ∃ k, (i + j) / 2 = k := ⟨_, rfl⟩
      have hki : i ≤ k := by omega
      have hkj : k < j := by omega
      obtain ⟨ad, Ai, ci, rfl, hadB, hcell, hci, hsee⟩ := hS.out k (by have := HN.out; omega)
      obtain ⟨L, hL⟩ : ∃ L, ls[k]'(by have := HN.out; omega) = L := ⟨_, rfl⟩
      have hlo : ahead (ls[k]'(by have := HN.out; omega)) x = true → Hid (Halved ls x (k + 1) j) := fun e => heq.out.lo _ e
      have hhi : ahead (ls[k]'(by have := HN.out; omega)) x = false → Hid (Halved ls x i k) := fun e => heq.out.hi _ e
      rw [hL] at hcell hci hsee hlo hhi
      have hC := Lib.hid (Compare_any Ai B L.length m ci d L x rfl HM.out _ hsee hS2)
      clear hL heq
      obtain ⟨b, hb⟩ : ∃ b, ahead L x = b := ⟨_, rfl⟩
      rw [hb] at hlo hhi
      have h1 := cmp_neg L x
      rw [hb] at h1
      clear hb
      generalize Lib.compareBytes L x = z at hC h1
      have hkd : (↑((i + j) / 2) : Int) = (k : Int) := by omega
      have hkd2 : ((i : Int) + (j : Int)) / 2 = (k : Int) := by omega
      have hkn : (k : Int) < (n : Int) := by omega
      have hk0 : (0 : Int) ≤ (k : Int) := by omega
      clear hk
      cases b with
      | true =>
        have hz : z < 0 := by simpa using h1
        have hT := hlo rfl
        clear hlo hhi h1
        go_wp2_with fail
        refine hC.out.mono ?_
        rintro e w1 ⟨rfl, rfl⟩
        go_wp2
        go_roundg (j - (k + 1))
        case measure => omega
        case rel => exact ⟨k + 1, j, by omega, by omega, by omega, by go_num, rfl, hT, rfl⟩
      | false =>
        have hz : 0 ≤ z := by simpa using h1
        have hT := hhi rfl
        clear hlo hhi h1
        go_wp2_with fail
        refine hC.out.mono ?_
        rintro e w1 ⟨rfl, rfl⟩
        go_wp2
        go_roundg (k - i)
        case measure => omega
        case rel => exact ⟨i, k, by omega, by omega, by omega, rfl, by go_num, hT, rfl⟩
    · obtain rfl : i = j := by omega
      have hfn := heq.out.done (by have := HN.out; omega) HR.out
      have HI := Lib.hid hfn
      have HF : Hid (foundB ls x = decide (∃ h : i < ls.length, ls[i] = x)) := by
        unfold Hid foundB; rw [decide_eq_decide]
        constructor
        · rintro ⟨h, e⟩; exact ⟨by rw [hfn]; exact h, by simp only [hfn]; exact e⟩
        · rintro ⟨h, e⟩; exact ⟨by rw [← hfn]; exact h, by simp only [← hfn]; exact e⟩
      clear hfn heq
      by_cases hin : i < n
      · have hin' : (i : Int) < (n : Int) := by omega
        have hil : i < ls.length := by rw [HN.out]; exact hin
        obtain ⟨ad, Ai, ci, rfl, hadB, hcell, hci, hsee⟩ := hS.out i hil
        have HF2 : Hid (foundB ls x = decide (ls[i] = x)) := by
          unfold Hid; rw [HF.out, decide_eq_decide]; exact ⟨fun ⟨_, e⟩ => e, fun e => ⟨hil, e⟩⟩
        obtain ⟨L, hL⟩ : ∃ L, ls[i] = L := ⟨_, rfl⟩
        rw [hL] at hcell hci hsee HF2
        have hC := Lib.hid (Compare_any Ai B L.length m ci d L x rfl HM.out _ hsee hS2)
        have hz := cmp_zeroI L x
        clear hL hil
        generalize Lib.compareBytes L x = z at hC hz
        have HZ : Hid ((z == 0) = foundB ls x) := by
          unfold Hid; rw [HF2.out]
          by_cases e : z = 0
          · rw [decide_eq_true (hz.1 e), e]; rfl
          · rw [decide_eq_false (fun h => e (hz.2 h)), beq_eq_false_iff_ne]; exact e
        clear hz
        go_wp2_with fail
        refine hC.out.mono ?_
        rintro e w1 ⟨rfl, rfl⟩
        go_wp2
        go_ret2
        unfold SearchIs
        rw [← HI.out, ← HZ.out]
        exact ⟨rfl, by first | rfl | simp⟩
      · have hin' : (n : Int) ≤ (i : Int) := by omega
        have HF2 : Hid (foundB ls x = false) := by
          unfold Hid; rw [HF.out, decide_eq_false_iff_not]; rintro ⟨h, _⟩; have := HN.out; omega
        go_wp2
        go_ret2
        unfold SearchIs
        rw [← HI.out, HF2.out]
        exact ⟨rfl, rfl⟩

/-- The block in which an item would stand. -/
def atB (fs : List Item) (x : Item) : Nat := if foundB fs x = true then firstNot x fs else firstNot x fs - 1

set_option maxRecDepth 100000 in
set_option maxHeartbeats 800000 in
theorem at_any (X : Nat) (A B : Option Addr) (n c m d : Nat) (fs : List Item) (x : Item) (hn : fs.length = n) (hm : x.length = m) (w : World) (hX : w.cell? ⟨X, 0, none⟩ = some (.slice A n c)) (hS : Sees2 w w.heap.size A fs) (hS2 : Sees w w.heap.size B (bv x)) (hlen : n ≤ 1099511627776) (hr : risesB fs = true) :
    Calls Tryd.prog 63 #[.pointer (some ⟨X, 0, none⟩), .slice B m d] w fun e w' => e = .returned (.int .i64 (atB fs x : Nat)) ∧ w = w' := by
  have hSe := Search_any A B n c m d fs x hn hm w hS hS2 hlen hr
  have hle := firstNot_le x fs
  rw [hn] at hle
  have HA : Hid (atB fs x = if foundB fs x = true then firstNot x fs else firstNot x fs - 1) := rfl
  unfold SearchIs cmpFn at hSe
  obtain ⟨k, hk⟩ : ∃ k, firstNot x fs = k := ⟨_, rfl⟩
  obtain ⟨b, hb⟩ : ∃ b, foundB fs x = b := ⟨_, rfl⟩
  rw [hk, hb] at hSe HA
  rw [hk] at hle
  have hSE := Lib.hid hSe
  clear hn hm hS hS2 hSe hk hb hr
  cases b with
  | true =>
    go_enter Tryd.func63, Tryd.ntmps63
    go_wp2_with fail
    refine hSE.out.mono ?_
    rintro e w1 ⟨rfl, rfl⟩
    go_wp2
    go_ret
    rw [HA.out]
    exact ⟨rfl, rfl⟩
  | false =>
    have hmx : max ((k : Int) - 1) 0 = ((k - 1 : Nat) : Int) := by omega
    go_enter Tryd.func63, Tryd.ntmps63
    go_wp2_with fail
    refine hSE.out.mono ?_
    rintro e w1 ⟨rfl, rfl⟩
    go_wp2
    go_ret
    rw [HA.out, if_neg (by simp)]
    exact ⟨by first | rfl | (rw [hmx]) | (congr 2; omega), rfl⟩
end Go.Proofs.YtmdphaagbmipcaaDoor
