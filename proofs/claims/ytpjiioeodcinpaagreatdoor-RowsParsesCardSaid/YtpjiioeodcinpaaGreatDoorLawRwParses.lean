/-
  The law RowsParses, walked.
-/
import Derived.Test.YtpjiioeodcinpaaGreatDoorRwAwake
import Derived.Test.YtpjiioeodcinpaaGreatDoorRwRefParse
import Derived.Test.YtpjiioeodcinpaaGreatDoorRwSame
namespace Go.Proofs.YtpjiioeodcinpaaGreatDoor
open Go.RowKit

theorem parse_same {b : List UInt8} {k d i k' d' i' : Int} {x1 x2 x1' x2' : ByteArray} {ls ls' : List Lb} {e e' : Nat}
    (h : (e = 0 ∧ MayR ⟨k, ls, (x1, x2), d, i⟩ ∧ sortN ls = ls ∧ makeR ⟨k, ls, (x1, x2), d, i⟩ = b) ∨ (e = 120 ∧ NoRow b ∧ k = 0 ∧ ls = [] ∧ (x1, x2) = lb0 ∧ d = 0 ∧ i = 0))
    (h' : (e' = 0 ∧ MayR ⟨k', ls', (x1', x2'), d', i'⟩ ∧ sortN ls' = ls' ∧ makeR ⟨k', ls', (x1', x2'), d', i'⟩ = b) ∨ (e' = 120 ∧ NoRow b ∧ k' = 0 ∧ ls' = [] ∧ (x1', x2') = lb0 ∧ d' = 0 ∧ i' = 0)) :
    e' = e ∧ k' = k ∧ ls' = ls ∧ x1' = x1 ∧ x2' = x2 ∧ d' = d ∧ i' = i := by
  rcases h with ⟨g0, hm, hs, hb⟩ | ⟨g0, hn, g1, g2, hx, g3, g4⟩ <;> rcases h' with ⟨g0', hm', hs', hb'⟩ | ⟨g0', hn', g1', g2', hx', g3', g4'⟩
  · have := make_inj hm' hm (hb'.trans hb.symm)
    unfold canonR at this
    simp only at this
    rw [hs, hs'] at this
    injection this with h1 h2 h3 h4 h5
    injection h3 with h6 h7
    exact ⟨g0'.trans g0.symm, h1, h2, h6, h7, h4, h5⟩
  · exact absurd hb (hn' _ hm)
  · exact absurd hb' (hn _ hm')
  · rw [← hx] at hx'
    injection hx' with h6 h7
    exact ⟨g0'.trans g0.symm, g1'.trans g1.symm, g2'.trans g2.symm, h6, h7, g3'.trans g3.symm, g4'.trans g4.symm⟩

theorem may_few {r : RowP} (h : MayR r) : r.labels.length ≤ 6 := by
  rcases h.kinds with ⟨_, b, _⟩ | ⟨_, b, _⟩ | ⟨_, b, _⟩ | ⟨_, b, _⟩
  · exact b.few
  · rw [b]; simp
  · rw [b]; simp
  · rw [b]; simp

set_option maxRecDepth 100000 in
set_option maxHeartbeats 3200000 in
theorem RowsParses_any (A : Option Addr) (n c : Nat) (b : List UInt8) (hn : b.length = n) (hnc : n ≤ c) (w : World) (hS : Sees w w.heap.size A (bv b)) :
    Calls Tryz.prog 4 #[.slice A n c] w (Gives w (.bool true)) := by
  have HN := Lib.hid hn
  have hA := Lib.hid (awake_any w)
  clear hn
  go_enter Tryz.func4, Tryz.ntmps4
  go_wp2_with fail
  refine hA.out.mono ?_
  rintro en w2 ⟨rfl, hb2⟩
  by_cases hl : (1000 : Int) < (n : Int)
  · go_wp2_with fail
    go_ret
    exact ⟨rfl, hb2⟩
  have hP := Lib.hid (Parse_any A n c b HN.out hnc w2 ((hS.below hb2).more hb2.size) (by omega))
  clear hA
  go_wp2_with fail
  refine hP.out.mono ?_
  rintro en w3 ⟨A3, n3, c3, k, d, i, x1, x2, ls, e, rfl, hb3, hl3, hc3, hs3, hr3⟩
  have b3 : Below w.heap.size w w3 := hb2.trans (hb3.mono hb2.size)
  have H3 := Lib.hid hr3
  have HL3 := Lib.hid hl3
  obtain ⟨W3, hW3⟩ : ∃ W, w3.alloc (.cells #[.int .i64 k, .slice A3 n3 c3, .string x1, .string x2, .int .i64 d, .int .i64 i] 26) = W := ⟨_, rfl⟩
  have bW3 : Below w3.heap.size w3 W3 := hW3 ▸ KI_new w3 _
  have sW3 : w3.heap.size < W3.heap.size := by rw [← hW3]; simp
  have six3 : SixAt W3 w3.heap.size (.int .i64 k) (.slice A3 n3 c3) (.string x1) (.string x2) (.int .i64 d) (.int .i64 i) := hW3 ▸ SixAt.new w3 _ _ _ _ _ _ _
  have bW := b3.trans (bW3.mono b3.size)
  have hQ := Lib.hid (RefParse_any A n c b HN.out hnc W3 ((hS.below bW).more bW.size) (by omega))
  have X3 := Lib.hid six3
  clear hP hr3 hl3 six3
  go_wp2_with fail
  refine hQ.out.mono ?_
  rintro en w4 ⟨A4, n4, c4, k', d', i', x1', x2', ls', e', rfl, hb4, hl4, hc4, hs4, hr4⟩
  obtain ⟨rfl, rfl, rfl, rfl, rfl, rfl, rfl⟩ := parse_same H3.out hr4
  have b4 : Below w.heap.size w w4 := bW.trans (hb4.mono bW.size)
  have HL4 := Lib.hid hl4
  have hnn : n4 = n3 := hl4.symm.trans HL3.out
  subst hnn
  obtain ⟨W4, hW4⟩ : ∃ W, w4.alloc (.cells #[.int .i64 k', .slice A4 n4 c4, .string x1', .string x2', .int .i64 d', .int .i64 i'] 34) = W := ⟨_, rfl⟩
  have bW4 : Below w4.heap.size w4 W4 := hW4 ▸ KI_new w4 _
  have sW4 : w4.heap.size < W4.heap.size := by rw [← hW4]; simp
  have s34 := hb4.size
  have six4 : SixAt W4 w4.heap.size (.int .i64 k') (.slice A4 n4 c4) (.string x1') (.string x2') (.int .i64 d') (.int .i64 i') := hW4 ▸ SixAt.new w4 _ _ _ _ _ _ _
  have six3 := (X3.out.below hb4 sW3).below bW4 (by omega)
  have bE := b4.trans (bW4.mono b4.size)
  have hsA := (((hs3.below bW3).more bW3.size).below (hb4.trans (bW4.mono hb4.size))).more (Nat.le_trans hb4.size bW4.size)
  have hsB := (hs4.below bW4).more bW4.size
  have HA := Lib.hid hsA
  have HB := Lib.hid hsB
  obtain ⟨p0, p1, p2, p3, p4, p5, -⟩ := six3
  obtain ⟨q0, q1, q2, q3, q4, q5, -⟩ := six4
  have hpl := Lib.hid (plain_any A3 n4 c3 k' d' i' x1' x2' W4.drew)
  have hn9 : n4 ≤ 1099511627776 := by
    rw [← HL3.out]
    rcases H3.out with ⟨_, hm, _⟩ | ⟨_, _, _, h2, _⟩
    · have := may_few hm
      simp only at this
      omega
    · rw [h2]; simp
  clear hQ hr4 hl4 hsA hsB hs3 hs4 hW3
  go_wp2_with fail
  refine wp_region_noPanic ?_
  refine wp_region_held_drew (S := fun w' => w'.cell? ⟨w3.heap.size, 0, none⟩ = some (.int .i64 k') ∧ w'.cell? ⟨w3.heap.size, 1, none⟩ = some (.slice A3 n4 c3) ∧ w'.cell? ⟨w3.heap.size, 2, none⟩ = some (.string x1') ∧ w'.cell? ⟨w3.heap.size, 3, none⟩ = some (.string x2') ∧ w'.cell? ⟨w3.heap.size, 4, none⟩ = some (.int .i64 d') ∧ w'.cell? ⟨w3.heap.size, 5, none⟩ = some (.int .i64 i') ∧ w'.cell? ⟨w4.heap.size, 0, none⟩ = some (.int .i64 k') ∧ w'.cell? ⟨w4.heap.size, 1, none⟩ = some (.slice A4 n4 c4) ∧ w'.cell? ⟨w4.heap.size, 2, none⟩ = some (.string x1') ∧ w'.cell? ⟨w4.heap.size, 3, none⟩ = some (.string x2') ∧ w'.cell? ⟨w4.heap.size, 4, none⟩ = some (.int .i64 d') ∧ w'.cell? ⟨w4.heap.size, 5, none⟩ = some (.int .i64 i')) (by kernel_rfl) ?_ (fun hHeld => ?_)
  · (exact ⟨p0, p1, p2, p3, p4, p5, q0, q1, q2, q3, q4, q5⟩)
  refine wpAnyH_take (i := 0) (oi := { dst := some 24, op := Op.move (Operand.tmp 5), type := 30, pos := "law.go:68", after := #[], guard := none }) (v := ?_) rfl (by kernel_rfl) (by kernel_rfl) (by kernel_rfl) (fun _ _ _ h => h) (Or.inl ⟨by rfl, ?_⟩) hHeld ?_
  rotate_left
  · (intro w' hSw; (try dsimp only at hSw); go_split_ands; go_simp; first | done | with_reducible rfl)
  try simp only [Act.put, List.setIfInBounds_toArray, List.set_cons_zero, List.set_cons_succ]
  refine wpAnyH_take (i := 1) (oi := { dst := some 25, op := Op.move (Operand.tmp 7), type := 30, pos := "law.go:68", after := #[], guard := none }) (v := ?_) rfl (by kernel_rfl) (by kernel_rfl) (by kernel_rfl) (fun _ _ _ h => h) (Or.inl ⟨by rfl, ?_⟩) hHeld ?_
  rotate_left
  · (intro w' hSw; (try dsimp only at hSw); go_split_ands; go_simp; first | done | with_reducible rfl)
  try simp only [Act.put, List.setIfInBounds_toArray, List.set_cons_zero, List.set_cons_succ]
  refine wpAnyH_take (i := 2) (oi := { dst := some 26, op := Op.binOp BinOp.eql 30 (Operand.tmp 24) (Operand.tmp 25) 30, type := 4, pos := "law.go:68", after := #[{ on := 0, ground := Ground.data }, { on := 1, ground := Ground.data }], guard := none }) (v := ?_) rfl (by kernel_rfl) (by kernel_rfl) (by kernel_rfl) (fun _ _ _ h => h) (Or.inl ⟨by rfl, ?_⟩) hHeld ?_
  rotate_left
  · (intro w' hSw; (try dsimp only at hSw); go_split_ands; go_simp; first | done | with_reducible rfl)
  try simp only [Act.put, List.setIfInBounds_toArray, List.set_cons_zero, List.set_cons_succ]
  refine wpAnyH_take (i := 3) (oi := { dst := some 27, op := Op.move (Operand.tmp 26), type := 4, pos := "law.go:68", after := #[{ on := 2, ground := Ground.data }], guard := none }) (v := ?_) rfl (by kernel_rfl) (by kernel_rfl) (by kernel_rfl) (fun _ _ _ h => h) (Or.inl ⟨by rfl, ?_⟩) hHeld ?_
  rotate_left
  · (intro w' hSw; (try dsimp only at hSw); go_split_ands; go_simp; first | done | with_reducible rfl)
  try simp only [Act.put, List.setIfInBounds_toArray, List.set_cons_zero, List.set_cons_succ]
  refine wpAnyH_take (i := 4) (oi := { dst := some 28, op := Op.load 26 (Operand.tmp 4), type := 26, pos := "law.go:68", after := #[{ on := 3, ground := Ground.guard }], guard := some (3, true) }) (v := ?_) rfl (by kernel_rfl) (by kernel_rfl) (by kernel_rfl) (fun _ _ _ h => h) (Or.inl ⟨by rfl, ?_⟩) hHeld ?_
  rotate_left
  · (intro w' hSw; (try dsimp only at hSw); go_split_ands; go_simp; first | done | with_reducible rfl)
  try simp only [Act.put, List.setIfInBounds_toArray, List.set_cons_zero, List.set_cons_succ]
  refine wpAnyH_take (i := 6) (oi := { dst := some 30, op := Op.load 34 (Operand.tmp 6), type := 34, pos := "law.go:68", after := #[{ on := 3, ground := Ground.guard }], guard := some (3, true) }) (v := ?_) rfl (by kernel_rfl) (by kernel_rfl) (by kernel_rfl) (fun _ _ _ h => h) (Or.inl ⟨by rfl, ?_⟩) hHeld ?_
  rotate_left
  · (intro w' hSw; (try dsimp only at hSw); go_split_ands; go_simp; first | done | with_reducible rfl)
  try simp only [Act.put, List.setIfInBounds_toArray, List.set_cons_zero, List.set_cons_succ]
  refine wpAnyH_ready (rs := [5]) (by kernel_rfl) (by simp) ?_
  refine AllReadyH.cons (o := { dst := some 29, op := Op.call { callee := Callee.value (Operand.func 13), args := #[Operand.tmp 28], argTypes := #[26] }, type := 34, pos := "law.go:68", after := #[{ on := 4, ground := Ground.data }, { on := 3, ground := Ground.chain }, { on := 3, ground := Ground.guard }], guard := some (3, true) }) rfl (fun K hK => ?_) AllReadyH.nil
  go_simp
  refine hpl.out.mono ?_
  rintro en w5 ⟨rfl, hb5'⟩
  have hb5 : Below W4.heap.size W4 w5 := below_undrew hb5'
  have lt3 : w3.heap.size < W4.heap.size := by omega
  have hSm := Lib.hid (RefSameR_true A3 A4 n4 c3 c4 ls' HL4.out k' d' i' x1' x2' w5 ((HA.out.below hb5).more hb5.size) ((HB.out.below hb5).more hb5.size) hn9)
  go_wp2_with fail
  refine hK.out _ _ ?_ ?_
  · (exact ⟨(hb5.cell lt3).trans p0, (hb5.cell lt3).trans p1, (hb5.cell lt3).trans p2, (hb5.cell lt3).trans p3, (hb5.cell lt3).trans p4, (hb5.cell lt3).trans p5, (hb5.cell sW4).trans q0, (hb5.cell sW4).trans q1, (hb5.cell sW4).trans q2, (hb5.cell sW4).trans q3, (hb5.cell sW4).trans q4, (hb5.cell sW4).trans q5⟩)
  clear hK K hHeld; intro hHeld
  try simp only [Act.put, List.setIfInBounds_toArray, List.set_cons_zero, List.set_cons_succ]
  refine wpAnyH_ready (rs := [7]) (by kernel_rfl) (by simp) ?_
  refine AllReadyH.cons (o := { dst := some 31, op := Op.call { callee := Callee.value (Operand.func 18), args := #[Operand.tmp 29, Operand.tmp 30], argTypes := #[34, 34] }, type := 4, pos := "law.go:68", after := #[{ on := 5, ground := Ground.data }, { on := 6, ground := Ground.data }, { on := 5, ground := Ground.chain }, { on := 3, ground := Ground.guard }], guard := some (3, true) }) rfl (fun K hK => ?_) AllReadyH.nil
  go_simp
  refine hSm.out.mono ?_
  rintro en w6 ⟨rfl, hb6'⟩
  have hb6 : Below W4.heap.size W4 w6 := hb5.trans (hb6'.mono hb5.size)
  go_wp2_with fail
  refine hK.out _ _ ?_ ?_
  · (exact ⟨(hb6.cell lt3).trans p0, (hb6.cell lt3).trans p1, (hb6.cell lt3).trans p2, (hb6.cell lt3).trans p3, (hb6.cell lt3).trans p4, (hb6.cell lt3).trans p5, (hb6.cell sW4).trans q0, (hb6.cell sW4).trans q1, (hb6.cell sW4).trans q2, (hb6.cell sW4).trans q3, (hb6.cell sW4).trans q4, (hb6.cell sW4).trans q5⟩)
  clear hK K hHeld; intro hHeld
  try simp only [Act.put, List.setIfInBounds_toArray, List.set_cons_zero, List.set_cons_succ]
  refine wpAnyH_take (i := 8) (oi := { dst := some 32, op := Op.pick (Operand.tmp 27) (Operand.tmp 31) (Operand.const (Value.bool false)), type := 4, pos := "law.go:68", after := #[{ on := 3, ground := Ground.data }, { on := 7, ground := Ground.data }], guard := none }) (v := ?_) rfl (by kernel_rfl) (by kernel_rfl) (by kernel_rfl) (fun _ _ _ h => h) (Or.inl ⟨by rfl, ?_⟩) hHeld ?_
  rotate_left
  · (intro w' hSw; (try dsimp only at hSw); go_split_ands; go_simp; first | done | with_reducible rfl)
  try simp only [Act.put, List.setIfInBounds_toArray, List.set_cons_zero, List.set_cons_succ]
  refine wpAnyH_take (i := 9) (oi := { dst := some 2, op := Op.assign (Operand.tmp 32), type := 4, pos := "law.go:68", after := #[{ on := 8, ground := Ground.data }, { on := 7, ground := Ground.chain }, { on := 0, ground := Ground.phase }, { on := 1, ground := Ground.phase }, { on := 2, ground := Ground.phase }, { on := 3, ground := Ground.phase }, { on := 4, ground := Ground.phase }, { on := 5, ground := Ground.phase }, { on := 6, ground := Ground.phase }, { on := 7, ground := Ground.phase }, { on := 8, ground := Ground.phase }], guard := none }) (v := ?_) rfl (by kernel_rfl) (by kernel_rfl) (by kernel_rfl) (fun _ _ _ h => h) (Or.inl ⟨by rfl, ?_⟩) hHeld ?_
  rotate_left
  · (intro w' hSw; (try dsimp only at hSw); go_split_ands; go_simp; first | done | with_reducible rfl)
  try simp only [Act.put, List.setIfInBounds_toArray, List.set_cons_zero, List.set_cons_succ]
  refine wpAnyH_done (by kernel_rfl) ?_ _
  refine NoPanic.normal ?_
  go_wp2_with fail
  go_ret
  exact ⟨rfl, bE.trans (hb6.mono bE.size)⟩
end Go.Proofs.YtpjiioeodcinpaaGreatDoor
