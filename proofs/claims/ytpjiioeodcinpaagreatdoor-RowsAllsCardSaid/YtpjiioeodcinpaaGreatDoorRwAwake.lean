/-
  The document's example of rows: the laws' own first call.
-/
import Derived.Test.YtpjiioeodcinpaaGreatDoorRwFew
import Derived.Test.YtpjiioeodcinpaaGreatDoorRwAhead
import Derived.Test.YtpjiioeodcinpaaGreatDoorRwParse2
import Derived.Test.YtpjiioeodcinpaaGreatDoorRwAll
namespace Go.Proofs.YtpjiioeodcinpaaGreatDoor
open Go.RowKit KB

def exX : Lb := (⟨#[106, 111, 98]⟩, ⟨#[120]⟩)
def exR : RowP := ⟨3, [], exX, 0, 7⟩
def exB : List UInt8 := [3, 106, 111, 98, 1, 120, 1, 0, 0, 0, 7]
theorem ex_ok : okL exX = true := by decide
theorem ex_may : MayR exR := ⟨by decide, by decide, by decide, by decide, .inr (.inl ⟨rfl, rfl, ex_ok, rfl⟩)⟩
theorem ex_make : makeR exR = exB := by decide +kernel
theorem ex_may1 : MayR { exR with id := 1 } := ⟨by decide, by decide, by decide, by decide, .inr (.inl ⟨rfl, rfl, ex_ok, rfl⟩)⟩
theorem ex_len1 : ((makeR { exR with id := 1 }).take ((makeR { exR with id := 1 }).length - 4)).length = 7 := by decide +kernel
theorem ex_mayl : MayL [exX] := may1.2 ex_ok
theorem ex_all : ∀ q ∈ wants [exX] [3, 4], MayR (rowOf [exX] 7 q) := by
  intro q hq
  simp [wants, perL] at hq
  rcases hq with rfl | rfl | rfl | rfl | rfl
  · exact ⟨by decide, by decide, by decide, by decide, .inl ⟨.inl rfl, ex_mayl, rfl, rfl⟩⟩
  · exact ⟨by decide, by decide, by decide, by decide, .inl ⟨.inr rfl, ex_mayl, rfl, rfl⟩⟩
  · exact ⟨by decide, by decide, by decide, by decide, .inr (.inl ⟨rfl, rfl, ex_ok, rfl⟩)⟩
  · exact ⟨by decide, by decide, by decide, by decide, .inr (.inr (.inl ⟨rfl, rfl, ex_ok⟩))⟩
  · exact ⟨by decide, by decide, by decide, by decide, .inr (.inr (.inl ⟨rfl, rfl, ex_ok⟩))⟩
theorem ex_five : (uniqL ahead (itemsOf [exX] 7 (wants [exX] [3, 4]))).length = 5 := by decide +kernel

set_option maxRecDepth 100000 in
set_option maxHeartbeats 3200000 in
theorem awake_any (w : World) : Calls Tryz.prog 9 #[] w (Gives w (.bool true)) := by
  obtain ⟨W1, hW1⟩ : ∃ W1, w.alloc (.cells #[.int .i64 3, .slice none 0 0, .string ⟨#[106, 111, 98]⟩, .string ⟨#[120]⟩, .int .i64 0, .int .i64 7] 26) = W1 := ⟨_, rfl⟩
  have hb1 : Below w.heap.size w W1 := hW1 ▸ KI_new w _
  have six : SixAt W1 w.heap.size (.int .i64 3) (.slice none 0 0) (.string ⟨#[106, 111, 98]⟩) (.string ⟨#[120]⟩) (.int .i64 0) (.int .i64 7) := hW1 ▸ SixAt.new w _ _ _ _ _ _ _
  have hs1 : w.heap.size < W1.heap.size := by rw [← hW1]; simp
  have hMk := Lib.hid (Make_any none 0 0 [] rfl 3 0 7 ⟨#[106, 111, 98]⟩ ⟨#[120]⟩ W1 (Sees.nil _ _ _) (by omega) (by simp) (by decide))
  have HX := Lib.hid six
  obtain ⟨c0, c1, c2, c3, c4, c5, -⟩ := six
  go_enter Tryz.func9, Tryz.ntmps9
  go_wp2_with fail
  refine hMk.out.mono ?_
  rintro en w2 ⟨v2, k2, rfl, hb2, hres⟩
  rcases hres with ⟨-, rfl, hown2⟩ | ⟨hno, -, -⟩
  rotate_left
  · exact absurd ex_may hno
  rw [show makeR ⟨3, [], (⟨#[106, 111, 98]⟩, ⟨#[120]⟩), 0, 7⟩ = exB from ex_make] at hown2
  obtain ⟨A2, cc2, hv2, hcc2, -, -, hse2⟩ := hown2.open_
  rw [show exB.length = 11 from rfl] at hv2 hcc2
  subst hv2
  have hs2 := hb2.size
  have hPa := Lib.hid (Parse_any A2 11 cc2 exB rfl hcc2 w2 hse2 (by omega))
  clear hMk hown2 c0 c1 c2 c3 c4 c5
  go_wp2_with fail
  refine hPa.out.mono ?_
  rintro en w3 ⟨A3, n3, cc3, k3, d3, i3, x1, x2, ls3, e3, rfl, hb3, -, -, -, hres⟩
  have hs3 := hb3.size
  obtain ⟨rfl, hi3, hx3⟩ : e3 = 0 ∧ i3 = 7 ∧ (x1, x2) = exX := by
    rcases hres with ⟨h1, h2, -, h3⟩ | ⟨-, h, -⟩
    · have := make_inj h2 ex_may (h3.trans ex_make.symm)
      exact ⟨h1, congrArg RowP.id this, congrArg RowP.label this⟩
    · exact absurd ex_make (h _ ex_may)
  obtain rfl : x1 = ⟨#[106, 111, 98]⟩ := congrArg Prod.fst hx3
  obtain rfl : x2 = ⟨#[120]⟩ := congrArg Prod.snd hx3
  subst hi3
  have six3 := (HX.out.below hb2 hs1).below hb3 (by omega)
  obtain ⟨W4, hW4⟩ : ∃ W4, w3.alloc (.cells #[.int .i64 k3, .slice A3 n3 cc3, .string ⟨#[106, 111, 98]⟩, .string ⟨#[120]⟩, .int .i64 d3, .int .i64 7] 26) = W4 := ⟨_, rfl⟩
  have hb4 : Below w3.heap.size w3 W4 := hW4 ▸ KI_new w3 _
  have six4 : SixAt W4 w3.heap.size (.int .i64 k3) (.slice A3 n3 cc3) (.string ⟨#[106, 111, 98]⟩) (.string ⟨#[120]⟩) (.int .i64 d3) (.int .i64 7) := hW4 ▸ SixAt.new w3 _ _ _ _ _ _ _
  have hs4 : w3.heap.size < W4.heap.size := by rw [← hW4]; simp
  have sixr := six3.below hb4 (by omega)
  have hAh := Lib.hid (Ahead_any none 0 0 [] rfl 3 0 7 ⟨#[106, 111, 98]⟩ ⟨#[120]⟩ W4 (Sees.nil _ _ _) (by omega) (by simp) (by decide))
  have HX4 := Lib.hid six4
  have HXr := Lib.hid sixr
  obtain ⟨c0, c1, c2, c3, c4, c5, -⟩ := sixr
  clear hPa hres hx3 HX six3 six4
  go_wp2_with fail
  refine hAh.out.mono ?_
  rintro en w5 ⟨A5, n5, cc5, k5, l5, rfl, hb5, hl5, -, -, hres⟩
  obtain ⟨rfl, rfl⟩ : k5 = 0 ∧ n5 = 7 := by
    rcases hres with ⟨-, -, h1, h2⟩ | ⟨h, -, -⟩
    · exact ⟨h1, by rw [← hl5, h2]; exact ex_len1⟩
    · exact absurd ⟨ex_may1, by decide⟩ h
  have hs5 := hb5.size
  have sixr5 := HXr.out.below hb5 (by omega)
  have six45 := HX4.out.below hb5 hs4
  obtain ⟨W6, hW6⟩ : ∃ W6, w5.alloc (.cells #[.string ⟨#[106, 111, 98]⟩, .string ⟨#[120]⟩] 24) = W6 := ⟨_, rfl⟩
  obtain ⟨W7, hW7⟩ : ∃ W7, W6.alloc (.cells #[.int .i64 3, .int .i64 4] 3) = W7 := ⟨_, rfl⟩
  have hb6 : Below w5.heap.size w5 W6 := hW6 ▸ KI_new w5 _
  have hb7 : Below W6.heap.size W6 W7 := hW7 ▸ KI_new W6 _
  have hs6 : w5.heap.size < W6.heap.size := by rw [← hW6]; simp
  have hs7 : W6.heap.size < W7.heap.size := by rw [← hW7]; simp
  have hSl : Sees W7 W7.heap.size (some ⟨w5.heap.size, 0, none⟩) (lv [exX]) := by
    have h1 : Sees W6 (w5.heap.size + 1) (some ⟨w5.heap.size, 0, none⟩) (lv [exX]) := hW6 ▸ sees_newL w5 [exX] _ _ rfl
    exact (h1.below (hb7.mono (by omega))).more (by omega)
  have hSd : Sees W7 W7.heap.size (some ⟨W6.heap.size, 0, none⟩) (dv [3, 4]) := by
    have h1 : Sees W7 (W6.heap.size + 1) (some ⟨W6.heap.size, 0, none⟩) (dv [3, 4]) := hW7 ▸ sees_cells W6 _ rfl _ _ _ rfl
    exact h1.more (by omega)
  have hAl := Lib.hid (All_any (some ⟨w5.heap.size, 0, none⟩) (some ⟨W6.heap.size, 0, none⟩) 1 1 2 2 [exX] [3, 4] rfl rfl 7 W7 hSl hSd (by omega) (by omega) (fun x hx => by simp at hx; subst hx; decide))
  have hb57 : Below w5.heap.size w5 W7 := hb6.trans (hb7.mono (by omega))
  have six47 := six45.below hb57 (by omega)
  have sixr7 := sixr5.below hb57 (by omega)
  have hse7 : Sees W7 w2.heap.size A2 (bv exB) := (((hse2.below hb3).below (hb4.mono hs3)).below (hb5.mono (by omega))).below (hb57.mono (by omega))
  have HSE7 := Lib.hid hse7
  have HS47 := Lib.hid six47
  have HSR7 := Lib.hid sixr7
  obtain ⟨b0, b1, b2, b3, b4, b5, -⟩ := sixr5
  clear hAh hres c0 c1 c2 c3 c4 c5 hW4 hSl hSd hse7 six47 sixr7 six45
  go_wp2_with fail
  refine hAl.out.mono ?_
  rintro en w8 ⟨A8, n8, cc8, k8, L8, rfl, hb8, hr8, hres⟩
  obtain ⟨rfl, rfl⟩ : k8 = 0 ∧ n8 = 5 := by
    rcases hres with ⟨-, h1, h2⟩ | ⟨h, -, -⟩
    · exact ⟨h1, by rw [← hr8.len, h2]; exact ex_five⟩
    · exact absurd ex_all h
  have hs8 := hb8.size
  obtain ⟨a0, a1, a2, a3, a4, a5, -⟩ := HS47.out.below hb8 (by omega)
  obtain ⟨r0, r1, r2, r3, r4, r5, -⟩ := HSR7.out.below hb8 (by omega)
  have cv := run_str w8 _ A2 11 cc2 exB ((HSE7.out.below (hb8.mono (by omega)))) rfl
  have hst : (strOf exB).toList = [3, 106, 111, 98, 1, 120, 1, 0, 0, 0, 7] := strOf_toList exB
  have hbw8 : Below w.heap.size w w8 := hb1.trans ((hb2.mono hb1.size).trans ((hb3.mono (by omega)).trans ((hb4.mono (by omega)).trans ((hb5.mono (by omega)).trans ((hb57.mono (by omega)).trans (hb8.mono (by omega)))))))
  generalize strOf exB = sB at cv hst
  clear hAl hres hW6 hW7 b0 b1 b2 b3 b4 b5
  go_wp2_with fail
  go_ret
  exact ⟨by simp, hbw8⟩
end Go.Proofs.YtpjiioeodcinpaaGreatDoor
