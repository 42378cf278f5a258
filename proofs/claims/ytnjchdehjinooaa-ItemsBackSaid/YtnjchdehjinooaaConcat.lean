/-
  slices.Grow of nil, slices.Concat, of bytes.
-/
import Derived.Test.YtnjchdehjinooaaWords
import Derived.Lib.AppendZeros
namespace Go.Proofs.Ytnjchdehjinooaa
open Go.RowKit

set_option maxRecDepth 100000 in
set_option maxHeartbeats 400000 in
theorem Grow_any (n : Nat) (w : World) (hn : n ≤ 1000000000) :
    Calls Try.prog 32 #[.slice none 0 0, .int .i64 n] w (RetB w w.heap.size (.slice none 0 0) []) := by
  obtain ⟨i, hi, hz0, hz1, hz2⟩ := info_parts Try.binfo
  by_cases h0 : 0 < n
  · have hr := Lib.run_append_nil_zeros (P := Try.prog) w 23 3 23 5 i (.int .u8 0) .i64 .i64 Try.underlying23 Try.underlying3 hi hz0 n h0 (by omega) (by omega) (by rw [hz2]; omega)
    have hge := grownCap_ge w n 0 5
    have hmx := grownCap_le_maxLen w n 0 5 (by simp only [maxLen]; omega)
    generalize grownCap w n 0 5 = cap at hr hge hmx
    have HR := Lib.hid hr
    have hmade := Lib.hid (World.ownsRow_made (base := w.heap.size) (e := 5) (size := 1) w.drew (Builtin.zeroCells (Value.int .u8 0).cells n ++ Builtin.zeroCells (Value.int .u8 0).cells (cap - n)) cap (Nat.le_refl _) hmx (by simp [Builtin.zeroCells, Value.cells]; omega))
    clear hr hi hz0 hz1 hz2
    go_enter Try.func32, Try.ntmps32
    go_wp2_with (at_builtin; refine Lib.wpList_append_run _ rfl (.tmp 20) (.tmp 21) _ _ rfl _ _ rfl rfl _ _ HR.out ?_)
    go_ret
    exact ⟨_, rfl, hmade.out, ⟨⟨rfl, rfl, rfl, by simp, fun k hk _ => by show (w.heap.push _)[k]? = w.heap[k]?; rw [Array.getElem?_push, if_neg (Nat.ne_of_lt hk)]⟩, .inr ⟨_, rfl, Nat.le_refl _⟩⟩⟩
  · obtain rfl : n = 0 := by omega
    clear h0 hi hz0 hz1 hz2
    go_enter Try.func32, Try.ntmps32
    go_wp2
    go_ret
    exact ⟨_, rfl, OwnB.nil _ _, Onto.refl _ _⟩

theorem flat_at {ls : List (List UInt8)} {k : Nat} (h : k < ls.length) : (ls.drop k).flatten = ls[k] ++ (ls.drop (k + 1)).flatten := by
  rw [List.drop_eq_getElem_cons h]
  rfl

set_option maxRecDepth 100000 in
set_option maxHeartbeats 400000 in
theorem Concat_any (A : Option Addr) (n c : Nat) (ls : List (List UInt8)) (hn : ls.length = n) (w : World) (hS : Sees2 w w.heap.size A ls) (h100 : n ≤ 100) (hall : ∀ i (hi : i < ls.length), (ls[i]).length ≤ 1000000) :
    Calls Try.prog 23 #[.slice A n c] w (RetB w w.heap.size (.slice none 0 0) ls.flatten) := by
  have HN := Lib.hid hn
  have HA := Lib.hid hall
  obtain ⟨F, hF⟩ : ∃ F, ls.flatten = F := ⟨_, rfl⟩
  rw [hF]
  have HF := Lib.hid hF
  clear hn hall hF
  go_enter Try.func23, Try.ntmps23
  go_wp2
  go_loopg [3, 11] n (fun g s i wr => ∃ k t : Nat, k + g = n ∧ i = .int .i64 k ∧ s = .int .i64 t ∧ t ≤ 1000000 * k ∧ wr = w)
  case atStart => exact ⟨0, 0, by omega, rfl, rfl, by omega, rfl⟩
  case round =>
    obtain ⟨k, t, hk, rfl, rfl, ht, rfl⟩ := hrel
    by_cases hlt : k < n
    · obtain ⟨ad, Ai, ci, rfl, hadB, hcell, hci, hsee⟩ := hS.out k (by have := HN.out; omega)
      have hLl := HA.out k (by have := HN.out; omega)
      obtain ⟨L, hL⟩ : ∃ L, ls[k]'(by have := HN.out; omega) = L := ⟨_, rfl⟩
      rw [hL] at hcell hci hsee hLl
      clear hL
      go_wp2
      go_roundg (n - (k + 1))
      case measure => omega
      case rel => exact ⟨k + 1, t + L.length, by omega, by go_num, by go_num, by omega, rfl⟩
    · go_wp2_with fail
      refine (Grow_any t wr (by omega)).mono ?_
      rintro e w1 ⟨v1, rfl, hown1, hon1⟩
      go_wp2_with fail
      go_loopg [6, 27] n (fun g b i wx => ∃ (k : Nat) (X : List UInt8), k + g = n ∧ i = .int .i64 k ∧ OwnB wx wr.heap.size b X ∧ X.length ≤ 1000000 * k ∧ Aside (X ++ (ls.drop k).flatten = F) ∧ Onto wr wx (.slice none 0 0) b)
      case atStart => exact ⟨0, [], by omega, rfl, hown1, by simp, HF.out, hon1⟩
      case round =>
        obtain ⟨k, X, hk, rfl, hX, hXl, hcat, hon⟩ := hrel
        have hbr := hon.below_nil
        have hsr := hbr.size
        by_cases hlt : k < n
        · obtain ⟨ad, Ai, ci, rfl, hadB, hcell, hci, hsee⟩ := (hS.below hbr).out k (by have := HN.out; omega)
          have hLl := HA.out k (by have := HN.out; omega)
          have hfl := Lib.hid (flat_at (ls := ls) (k := k) (by have := HN.out; omega))
          obtain ⟨L, hL⟩ : ∃ L, ls[k]'(by have := HN.out; omega) = L := ⟨_, rfl⟩
          rw [hL] at hcell hci hsee hLl hfl
          clear hL
          obtain ⟨A0, c0, rfl, hXc, hXm, hX', hXs⟩ := hX.open_
          go_wp2_with (at_builtin; refine wpList_append_b rfl (.tmp 31) (.tmp 32) rfl _ (.slice A0 X.length c0) X (by rfl) hX _ Ai L.length ci L (by rfl) rfl hsee (by omega) hsr ?_; intro v2 w2 hown2 hon2)
          go_roundg (n - (k + 1))
          case measure => omega
          case rel => exact ⟨k + 1, X ++ L, by omega, by go_num, hown2, by rw [List.length_append]; omega, (by have h1 := hcat.out; have h2 := hfl.out; show _ = _; rw [← h1, h2, List.append_assoc]), hon.trans hon2⟩
        · have HE : Hid (X = F) := by have := hcat.out; rw [List.drop_eq_nil_of_le (by have := HN.out; omega)] at this; unfold Hid; simpa using this
          clear hcat
          go_wp2_with fail
          go_ret
          rw [← HE.out]
          exact ⟨_, rfl, hX, hon⟩
end Go.Proofs.Ytnjchdehjinooaa
