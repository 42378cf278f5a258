/-
  frame.Next and frame.Only, whole.
-/
import Derived.Test.YtbnjcdjgambnhaaDoorFrNext2
namespace Go.Proofs.YtbnjcdjgambnhaaDoor
open Go.RowKit

theorem nextIs_err {w : World} {en : Ending} {w' : World} {e : Nat} (h : en = .returned (.tuple #[.int .i64 0, .slice none 0 0, .slice none 0 0, .int .i64 (e : Int)]) ∧ Below w.heap.size w w') : NextIs w (0, [], [], e) en w' :=
  ⟨none, 0, 0, _, h.1, rfl, Nat.le_refl _, ⟨.inl rfl⟩, OwnB.nil _ _, h.2⟩

theorem Next_any (A : Option Addr) (n c : Nat) (b : List UInt8) (hn : b.length = n) (hnc : n ≤ c) (w : World) (hS : Sees w w.heap.size A (bv b)) (hH : Halves w) (hlen : n ≤ 1000000000) :
    Calls Tryd.prog 14 #[.slice A n c] w (NextIs w (fnext b)) := by
  cases b with
  | nil =>
    obtain rfl : n = 0 := by simpa using hn.symm
    exact (Next_empty A c w).mono fun _ _ h => nextIs_err (e := 10) h
  | cons k t =>
    have hn' : t.length + 1 = n := by simpa using hn
    have HT := fun A' c' hA => Next_Take A n c k t hn' w hS (by omega) hnc A' c' hA
    have hle := vtake_le t
    simp only [fnext]
    by_cases he : (vtake t).2.2 = 0
    · rw [if_neg (fun hh => hh he)]
      simp only [he, if_true] at HT
      by_cases hb : 65535 < (vtake t).1
      · rw [if_pos hb]
        exact (Next_big A n c w (by omega) (by omega) _ hb _ (by rw [List.length_drop]; omega) HT).mono fun _ _ h => nextIs_err (e := 11) h
      rw [if_neg hb]
      by_cases hs : (t.drop (vtake t).2.1).length < (vtake t).1 + 4
      · rw [if_pos hs]
        exact (Next_short A n c w (by omega) (by omega) _ (by omega) _ hs HT).mono fun _ _ h => nextIs_err (e := 10) h
      rw [if_neg hs]
      have hl : (t.drop (vtake t).2.1).length = t.length - (vtake t).2.1 := List.length_drop
      obtain ⟨ad, rfl, hab, hcell⟩ := hS.at_ (k := 0) (by simp [bv])
      have := Next_sum (sealB ((k :: t).take (1 + (vtake t).2.1 + (vtake t).1)) == (k :: t).take (1 + (vtake t).2.1 + (vtake t).1 + 4)) (1 + (vtake t).2.1 + (vtake t).1 + 4) ad n c w (by omega) hnc (by omega) (vtake t).1 (by omega) (t.drop (vtake t).2.1) (by omega) (by omega)
        (k :: t) hn hS hH k (by simpa [bv, Addr.add] using hcell) (by omega) (by rw [show 1 + (vtake t).2.1 + (vtake t).1 + 4 - 4 = 1 + (vtake t).2.1 + (vtake t).1 from by omega]; rfl) HT
      exact this
    · rw [if_pos he]
      simp only [if_neg he] at HT
      exact (Next_take_err A n c w (by omega) (by omega) _ _ (by rw [bne_iff_ne]; omega) HT).mono fun _ _ h => nextIs_err h

def OnlyIs (w : World) (r : List UInt8 × Nat) (en : Ending) (w' : World) : Prop :=
  ∃ A n c, en = .returned (.tuple #[.slice A n c, .int .i64 (r.2 : Int)]) ∧ r.1.length = n ∧ n ≤ c ∧ Mine w' w.heap.size A r.1 ∧ Below w.heap.size w w'

set_option maxRecDepth 100000 in
set_option maxHeartbeats 400000 in
theorem Only_any (A : Option Addr) (n c : Nat) (b : List UInt8) (kind : Int) (hn : b.length = n) (hnc : n ≤ c) (w : World) (hS : Sees w w.heap.size A (bv b)) (hH : Halves w) (hlen : n ≤ 1000000000) :
    Calls Tryd.prog 13 #[.slice A n c, .int .i64 kind] w (OnlyIs w (fonly b kind)) := by
  have HN := Lib.hid (Next_any A n c b hn hnc w hS hH hlen)
  unfold fonly
  generalize fnext b = r at HN ⊢
  obtain ⟨k, body, rest, e⟩ := r
  by_cases he : e = 0
  · subst he
    by_cases hr : 0 < rest.length
    · rw [if_neg (by simp), if_pos (.inl hr)]
      clear hn hnc hS hH hlen
      go_enter Tryd.func13, Tryd.ntmps13
      go_wp2_with fail
      refine HN.out.mono ?_
      rintro en w1 ⟨A1, n1, c1, v1, rfl, hl1, hn1, hm1, hown, hb⟩
      obtain ⟨A2, c2, rfl, -, -, -, -⟩ := hown.open_
      simp only at hl1 hm1
      have HL := Lib.hid hl1
      have HM := Lib.hid hm1
      clear hl1 hm1
      go_wp2
      go_ret2
      exact ⟨_, _, _, rfl, rfl, Nat.le_refl _, ⟨.inl rfl⟩, hb⟩
    have hr0 : rest.length ≤ 0 := by omega
    by_cases hk : (k : Int) = kind
    · rw [if_neg (by simp), if_neg (by simp only; omega)]
      have hkb : ((k : Int) != kind) = false := by simpa using hk
      have hrl : ¬ 0 < rest.length := by omega
      clear hn hnc hS hH hlen hk hr
      go_enter Tryd.func13, Tryd.ntmps13
      go_wp2_with fail
      refine HN.out.mono ?_
      rintro en w1 ⟨A1, n1, c1, v1, rfl, hl1, hn1, hm1, hown, hb⟩
      obtain ⟨A2, c2, rfl, -, -, -, -⟩ := hown.open_
      simp only at hl1 hm1
      have HL := Lib.hid hl1
      have HM := Lib.hid hm1
      clear hl1 hm1
      go_wp2
      go_ret2
      exact ⟨_, _, _, rfl, HL.out, hn1, HM.out, hb⟩
    · rw [if_neg (by simp), if_pos (.inr hk)]
      have hkb : ((k : Int) != kind) = true := by simpa using hk
      clear hn hnc hS hH hlen hk hr
      go_enter Tryd.func13, Tryd.ntmps13
      go_wp2_with fail
      refine HN.out.mono ?_
      rintro en w1 ⟨A1, n1, c1, v1, rfl, hl1, hn1, hm1, hown, hb⟩
      obtain ⟨A2, c2, rfl, -, -, -, -⟩ := hown.open_
      simp only at hl1 hm1
      have HL := Lib.hid hl1
      have HM := Lib.hid hm1
      clear hl1 hm1
      go_wp2
      go_ret2
      exact ⟨_, _, _, rfl, rfl, Nat.le_refl _, ⟨.inl rfl⟩, hb⟩
  · have hei : ((e : Int) != 0) = true := by rw [bne_iff_ne]; omega
    rw [if_pos (by simpa using he)]
    clear he
    go_enter Tryd.func13, Tryd.ntmps13
    go_wp2_with fail
    refine HN.out.mono ?_
    rintro en w1 ⟨A1, n1, c1, v1, rfl, hl1, -, -, hown, hb⟩
    obtain ⟨A2, c2, rfl, -, -, -, -⟩ := hown.open_
    go_wp2
    go_ret2
    exact ⟨_, _, _, rfl, rfl, Nat.le_refl _, ⟨.inl rfl⟩, hb⟩
end Go.Proofs.YtbnjcdjgambnhaaDoor
