/-
  rows.Ahead and the document's Ahead, walked.
-/
import Derived.Test.YtpjiioeodcinpaaGreatDoorRwBox
namespace Go.Proofs.YtpjiioeodcinpaaGreatDoor
open Go.RowKit

/-- What Ahead tells: the item of the row with number 1, but for its last four bytes. -/
def AheadOut (w : World) (r : RowP) (e : Ending) (w' : World) : Prop :=
  ∃ (A : Option Addr) (n c k : Nat) (l : List UInt8), e = .returned (.tuple #[.slice A n c, .int .i64 k]) ∧ Below w.heap.size w w' ∧ l.length = n ∧ n ≤ c ∧ Sees w' w'.heap.size A (bv l) ∧
    ((MayR { r with id := 1 } ∧ r.kind ≠ 2 ∧ k = 0 ∧ l = (makeR { r with id := 1 }).take ((makeR { r with id := 1 }).length - 4)) ∨ (¬ (MayR { r with id := 1 } ∧ r.kind ≠ 2) ∧ k = 120 ∧ l = []))
theorem AheadOut.bad {w w' : World} {r : RowP} (h : ¬ (MayR { r with id := 1 } ∧ r.kind ≠ 2)) (hb : Below w.heap.size w w') : AheadOut w r (.returned (.tuple #[.slice none 0 0, .int .i64 120])) w' :=
  ⟨none, 0, 0, 120, [], rfl, hb, rfl, Nat.le_refl _, Sees.nil _ _ _, .inr ⟨h, rfl, rfl⟩⟩

set_option maxRecDepth 100000 in
set_option maxHeartbeats 1600000 in
theorem Ahead_any (A : Option Addr) (n c : Nat) (ls : List Lb) (hn : ls.length = n) (k d i : Int) (x1 x2 : ByteArray) (w : World) (hS : Sees w w.heap.size A (lv ls)) (hlen : n ≤ 1099511627776) (hsz : ∀ x ∈ ls, x.1.size ≤ 9223372036854775807) (h1 : x1.size ≤ 9223372036854775807) :
    Calls Tryz.prog 14 #[.agg #[.int .i64 k, .slice A n c, .string x1, .string x2, .int .i64 d, .int .i64 i]] w (AheadOut w ⟨k, ls, (x1, x2), d, i⟩) := by
  obtain ⟨W1, hW1⟩ : ∃ W1, (w.alloc (.cells #[.int .i64 k, .slice A n c, .string x1, .string x2, .int .i64 d, .int .i64 i] 26)).setCell ⟨w.heap.size, 5, none⟩ (.int .i64 1) = W1 := ⟨_, rfl⟩
  have hb1 : Below w.heap.size w W1 := hW1 ▸ ((Below.refl _ _).alloc (Nat.le_refl _) _).setCell (Nat.le_refl _) _
  have six : SixAt W1 w.heap.size (.int .i64 k) (.slice A n c) (.string x1) (.string x2) (.int .i64 d) (.int .i64 1) := hW1 ▸ (SixAt.new w _ _ _ _ _ _ _).set5 _
  have hs1 : w.heap.size < W1.heap.size := by rw [← hW1]; simp
  have hM := Lib.hid (Make_any A n c ls hn k d 1 x1 x2 W1 ((hS.below hb1).more hb1.size) hlen hsz h1)
  have HX := Lib.hid six
  obtain ⟨g0, g1, g2, g3, g4, g5, -, -, -, -, -, -⟩ := six
  clear hsz hn hS
  go_enter Tryz.func14, Tryz.ntmps14
  go_wp2_with fail
  refine hM.out.mono ?_
  rintro en w2 ⟨v, kk, rfl, hb2, hres⟩
  have six := HX.out.below hb2 hs1
  have c0 := six.c0
  have hs2 := hb2.size
  have hb02 := hb1.trans (hb2.mono hb1.size)
  clear hM HX six hW1 hb1 hb2 g0 g1 g2 g3 g4 g5
  have HK : Hid (({ (⟨k, ls, (x1, x2), d, i⟩ : RowP) with id := 1 } : RowP) = ⟨k, ls, (x1, x2), d, 1⟩) := rfl
  rcases hres with ⟨hmay, rfl, hown⟩ | ⟨hno, rfl, rfl⟩
  · have HMAY := Lib.hid hmay
    have hlen := make_len hmay
    obtain ⟨L, hL⟩ : ∃ L, makeR ⟨k, ls, (x1, x2), d, 1⟩ = L := ⟨_, rfl⟩
    rw [hL] at hown hlen
    have HL := Lib.hid hL
    obtain ⟨A3, c3, rfl, hc3, -, -, hs3⟩ := hown.open_
    obtain ⟨m, hm⟩ : ∃ m, L.length = m := ⟨_, rfl⟩
    rw [hm] at hlen hc3
    simp only [hm]
    have HM2 := Lib.hid hm
    clear hmay hL hown hm
    have hsub : IntKind.i64.wrap ((m : Int) - 4) = ((m - 4 : Nat) : Int) := by rw [IntKind.wrap_i64]; omega
    obtain ⟨q, hq⟩ : ∃ q, m - 4 = q := ⟨_, rfl⟩
    rw [hq] at hsub
    have hqc : q ≤ c3 := by omega
    have hqm : q + 4 = m := by omega
    clear hq
    have HQ := Lib.hid hqm
    clear hqm
    by_cases k2 : k = 2
    · obtain rfl := k2
      go_wp2
      go_ret2
      exact AheadOut.bad (fun h => h.2 rfl) hb02
    · have hk2 : (k == 2) = false := by rw [beq_eq_false_iff_ne]; exact k2
      go_wp2
      go_ret2
      refine ⟨A3, q, c3, 0, L.take q, rfl, hb02, ?_, hqc, ?_, .inl ⟨HMAY.out, k2, rfl, ?_⟩⟩
      · rw [List.length_take, HM2.out]; have := HQ.out; omega
      · rw [bv_take]; exact hs3.take _
      · show L.take q = (makeR ⟨k, ls, (x1, x2), d, 1⟩).take ((makeR ⟨k, ls, (x1, x2), d, 1⟩).length - 4)
        rw [HL.out, HM2.out]; congr 1; have := HQ.out; omega
  · have HNO : Hid (¬ (MayR ({ (⟨k, ls, (x1, x2), d, i⟩ : RowP) with id := 1 }) ∧ (⟨k, ls, (x1, x2), d, i⟩ : RowP).kind ≠ 2)) := fun h => hno h.1
    clear hno
    go_wp2
    go_ret2
    exact AheadOut.bad HNO.out hb02

set_option maxRecDepth 100000 in
set_option maxHeartbeats 1600000 in
theorem RefAhead_any (A : Option Addr) (n c : Nat) (ls : List Lb) (hn : ls.length = n) (k d i : Int) (x1 x2 : ByteArray) (w : World) (hS : Sees w w.heap.size A (lv ls)) (hlen : n ≤ 1099511627776) (hsz : ∀ x ∈ ls, x.1.size ≤ 9223372036854775807) (h1 : x1.size ≤ 9223372036854775807) :
    Calls Tryz.prog 15 #[.agg #[.int .i64 k, .slice A n c, .string x1, .string x2, .int .i64 d, .int .i64 i]] w (AheadOut w ⟨k, ls, (x1, x2), d, i⟩) := by
  obtain ⟨W1, hW1⟩ : ∃ W1, (w.alloc (.cells #[.int .i64 k, .slice A n c, .string x1, .string x2, .int .i64 d, .int .i64 i] 34)).setCell ⟨w.heap.size, 5, none⟩ (.int .i64 1) = W1 := ⟨_, rfl⟩
  have hb1 : Below w.heap.size w W1 := hW1 ▸ ((Below.refl _ _).alloc (Nat.le_refl _) _).setCell (Nat.le_refl _) _
  have six : SixAt W1 w.heap.size (.int .i64 k) (.slice A n c) (.string x1) (.string x2) (.int .i64 d) (.int .i64 1) := hW1 ▸ (SixAt.new w _ _ _ _ _ _ _).set5 _
  have hs1 : w.heap.size < W1.heap.size := by rw [← hW1]; simp
  have hM := Lib.hid (RefMakeR_any A n c ls hn k d 1 x1 x2 W1 ((hS.below hb1).more hb1.size) hlen hsz h1)
  have HX := Lib.hid six
  obtain ⟨g0, g1, g2, g3, g4, g5, -, -, -, -, -, -⟩ := six
  clear hsz hn hS
  go_enter Tryz.func15, Tryz.ntmps15
  go_wp2_with fail
  refine hM.out.mono ?_
  rintro en w2 ⟨v, kk, rfl, hb2, hres⟩
  have six := HX.out.below hb2 hs1
  have c0 := six.c0
  have hs2 := hb2.size
  have hb02 := hb1.trans (hb2.mono hb1.size)
  clear hM HX six hW1 hb1 hb2 g0 g1 g2 g3 g4 g5
  have HK : Hid (({ (⟨k, ls, (x1, x2), d, i⟩ : RowP) with id := 1 } : RowP) = ⟨k, ls, (x1, x2), d, 1⟩) := rfl
  rcases hres with ⟨hmay, rfl, hown⟩ | ⟨hno, rfl, rfl⟩
  · have HMAY := Lib.hid hmay
    have hlen := make_len hmay
    obtain ⟨L, hL⟩ : ∃ L, makeR ⟨k, ls, (x1, x2), d, 1⟩ = L := ⟨_, rfl⟩
    rw [hL] at hown hlen
    have HL := Lib.hid hL
    obtain ⟨A3, c3, rfl, hc3, -, -, hs3⟩ := hown.open_
    obtain ⟨m, hm⟩ : ∃ m, L.length = m := ⟨_, rfl⟩
    rw [hm] at hlen hc3
    simp only [hm]
    have HM2 := Lib.hid hm
    clear hmay hL hown hm
    have hsub : IntKind.i64.wrap ((m : Int) - 4) = ((m - 4 : Nat) : Int) := by rw [IntKind.wrap_i64]; omega
    obtain ⟨q, hq⟩ : ∃ q, m - 4 = q := ⟨_, rfl⟩
    rw [hq] at hsub
    have hqc : q ≤ c3 := by omega
    have hqm : q + 4 = m := by omega
    clear hq
    have HQ := Lib.hid hqm
    clear hqm
    by_cases k2 : k = 2
    · obtain rfl := k2
      go_wp2
      go_ret2
      exact AheadOut.bad (fun h => h.2 rfl) hb02
    · have hk2 : (k == 2) = false := by rw [beq_eq_false_iff_ne]; exact k2
      go_wp2
      go_ret2
      refine ⟨A3, q, c3, 0, L.take q, rfl, hb02, ?_, hqc, ?_, .inl ⟨HMAY.out, k2, rfl, ?_⟩⟩
      · rw [List.length_take, HM2.out]; have := HQ.out; omega
      · rw [bv_take]; exact hs3.take _
      · show L.take q = (makeR ⟨k, ls, (x1, x2), d, 1⟩).take ((makeR ⟨k, ls, (x1, x2), d, 1⟩).length - 4)
        rw [HL.out, HM2.out]; congr 1; have := HQ.out; omega
  · have HNO : Hid (¬ (MayR ({ (⟨k, ls, (x1, x2), d, i⟩ : RowP) with id := 1 }) ∧ (⟨k, ls, (x1, x2), d, i⟩ : RowP).kind ≠ 2)) := fun h => hno h.1
    clear hno
    go_wp2
    go_ret2
    exact AheadOut.bad HNO.out hb02
end Go.Proofs.YtpjiioeodcinpaaGreatDoor
