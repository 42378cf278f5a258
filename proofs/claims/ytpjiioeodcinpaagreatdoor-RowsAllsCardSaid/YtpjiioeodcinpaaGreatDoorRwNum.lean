/-
  rows.number, rows.tag and the document's four, walked.
-/
import Derived.Test.YtpjiioeodcinpaaGreatDoorRwPlain
import Derived.Test.YtpjiioeodcinpaaGreatDoorLbA
import Derived.Test.YtpjiioeodcinpaaGreatDoorLbC
import Derived.Test.YtpjiioeodcinpaaGreatDoorLow
namespace Go.Proofs.YtpjiioeodcinpaaGreatDoor
open Go.RowKit

theorem four_cells (s : Nat) (t : TypeId) (w : World) (x1 x2 x3 x4 : Int) (h1 : x1 = (s / 16777216 : Nat) % 256) (h2 : x2 = (s / 65536 : Nat) % 256) (h3 : x3 = (s / 256 : Nat) % 256) (h4 : x4 = (s : Int) % 256) :
    Sees (w.alloc (.cells #[.int .u8 x1, .int .u8 x2, .int .u8 x3, .int .u8 x4] t)) (w.heap.size + 1) (some ⟨w.heap.size, 0, none⟩) (bv (four s)) :=
  sees_new w _ t _ (by subst h1; subst h2; subst h3; subst h4; simp [bv, four])
theorem four_arr (s : Nat) (x1 x2 x3 x4 : Int) (h1 : x1 = (s / 16777216 : Nat) % 256) (h2 : x2 = (s / 65536 : Nat) % 256) (h3 : x3 = (s / 256 : Nat) % 256) (h4 : x4 = (s : Int) % 256) :
    #[Value.int .u8 x1, .int .u8 x2, .int .u8 x3, .int .u8 x4] = (bv (four s)).toArray := by subst h1; subst h2; subst h3; subst h4; simp [bv, four]

set_option maxRecDepth 100000 in
set_option maxHeartbeats 400000 in
theorem number_any (base : Nat) (v : Value) (l : List UInt8) (s : Nat) (w : World) (hown : OwnB w base v l) (hbase : base ≤ w.heap.size) (hs : s < 4294967296) (hlen : l.length ≤ 1099511627776) :
    Calls Tryz.prog 26 #[v, .int .i64 s] w (RetB w base v (l ++ four s)) := by
  have hsb : (s : Int) < 4294967296 := by omega
  clear hs
  go_enter Tryz.func26, Tryz.ntmps26
  go_wp2_with (at_builtin; refine wpList_append_b rfl (.tmp 5) (.tmp 17) rfl base v l (by rfl) (hown.alloc _) (w.heap.size + 1) _ 4 _ (four s) (by rfl) rfl (four_cells s _ _ _ _ _ _ (by omega) (by omega) (by omega) (by omega)) (by simp [four]; omega) (by simp; omega) ?_; intro v1 w1 hown1 hon1)
  go_ret
  exact ⟨v1, rfl, hown1, (Onto.of_alloc _ _ _).trans hon1⟩

/-- A new row of bytes. -/
def NewR (w : World) (l : List UInt8) (e : Ending) (w' : World) : Prop := ∃ v, e = .returned v ∧ OwnB w' w.heap.size v l ∧ Below w.heap.size w w'
set_option maxRecDepth 100000 in
set_option maxHeartbeats 400000 in
theorem RefFour_any (s : Nat) (w : World) (hs : s < 4294967296) :
    Calls Tryz.prog 29 #[.int .i64 s] w (NewR w (four s)) := by
  have hsb : (s : Int) < 4294967296 := by omega
  clear hs
  go_enter Tryz.func29, Tryz.ntmps29
  go_wp2
  go_ret
  refine ⟨_, rfl, OwnB.new _ _ (Nat.le_refl _) (four s) 4 rfl _ ?_ (by simp [four, maxLen]), (Below.refl _ _).alloc (Nat.le_refl _) _⟩
  exact four_arr s _ _ _ _ (by omega) (by omega) (by omega) (by omega)

theorem sees2_three (w : World) (A1 A2 A3 : Option Addr) (n1 n2 n3 c1 c2 c3 : Nat) (l1 l2 l3 : List UInt8) (h1 : l1.length = n1) (h2 : l2.length = n2) (h3 : l3.length = n3) (hc1 : n1 ≤ c1) (hc2 : n2 ≤ c2) (hc3 : n3 ≤ c3)
    (hs1 : Sees w w.heap.size A1 (bv l1)) (hs2 : Sees w w.heap.size A2 (bv l2)) (hs3 : Sees w w.heap.size A3 (bv l3)) (t : TypeId) :
    Sees2 (w.alloc (.cells #[.slice A1 n1 c1, .slice A2 n2 c2, .slice A3 n3 c3] t)) (w.alloc (.cells #[.slice A1 n1 c1, .slice A2 n2 c2, .slice A3 n3 c3] t)).heap.size (some ⟨w.heap.size, 0, none⟩) [l1, l2, l3] := by
  subst h1
  subst h2
  subst h3
  refine ⟨fun i hi => ?_⟩
  match i, hi with
  | 0, _ => exact ⟨_, A1, c1, rfl, by simp, by rw [Addr.add_lit, World.cell?_alloc_at _ _ _ _ rfl]; rfl, hc1, (hs1.alloc (Nat.le_refl _) _).more (by simp)⟩
  | 1, _ => exact ⟨_, A2, c2, rfl, by simp, by rw [Addr.add_lit, World.cell?_alloc_at _ _ _ _ rfl]; rfl, hc2, (hs2.alloc (Nat.le_refl _) _).more (by simp)⟩
  | 2, _ => exact ⟨_, A3, c3, rfl, by simp, by rw [Addr.add_lit, World.cell?_alloc_at _ _ _ _ rfl]; rfl, hc3, (hs3.alloc (Nat.le_refl _) _).more (by simp)⟩

set_option maxRecDepth 100000 in
set_option maxHeartbeats 1600000 in
theorem tag_any (A : Option Addr) (n c : Nat) (l : List UInt8) (x1 x2 : ByteArray) (hn : l.length = n) (hnc : n ≤ c) (w : World) (hS : Sees w w.heap.size A (bv l)) (hl : n ≤ 1000000) (hx1 : x1.size ≤ 400000) (hx2 : x2.size ≤ 400000) :
    Calls Tryz.prog 27 #[.slice A n c, .agg #[.string x1, .string x2]] w (NewR w (l ++ escL (x1, x2))) := by
  have HN := Lib.hid hn
  have hE1 := fun W => Lib.hid (Escape_any x1 W (by omega))
  have hE2 := fun W => Lib.hid (Escape_any x2 W (by omega))
  have he1 := esc_len x1.data.toList
  have he2 := esc_len x2.data.toList
  have l1 : x1.data.toList.length = x1.size := Array.length_toList
  have l2 : x2.data.toList.length = x2.size := Array.length_toList
  obtain ⟨F, hF⟩ : ∃ F, l ++ escL (x1, x2) = F := ⟨_, rfl⟩
  rw [hF]
  unfold escL at hF
  simp only at hF
  obtain ⟨X, hX⟩ : ∃ X, esc x1.data.toList = X := ⟨_, rfl⟩
  obtain ⟨Y, hY⟩ : ∃ Y, esc x2.data.toList = Y := ⟨_, rfl⟩
  rw [hX] at hE1 hF he1
  rw [hY] at hE2 hF he2
  have hXl : X.length ≤ 1000000 := by omega
  have hYl : Y.length ≤ 1000000 := by omega
  have HX := Lib.hid hXl
  have HY := Lib.hid hYl
  have HF := Lib.hid hF
  clear hn hF hX hY he1 he2 l1 l2 hx1 hx2 hXl hYl
  go_enter Tryz.func27, Tryz.ntmps27
  go_wp2_with fail
  have f0 : (w.alloc (.cells #[.string x1, .string x2] 24)).cell? ⟨w.heap.size, 0, none⟩ = some (.string x1) := by rw [World.cell?_alloc_at _ _ _ _ rfl]; rfl
  have f1 : (w.alloc (.cells #[.string x1, .string x2] 24)).cell? ⟨w.heap.size, 1, none⟩ = some (.string x2) := by rw [World.cell?_alloc_at _ _ _ _ rfl]; rfl
  have hW : Below w.heap.size w (w.alloc (.cells #[.string x1, .string x2] 24)) := (Below.refl _ _).alloc (Nat.le_refl _) _
  have hWs : w.heap.size < (w.alloc (.cells #[.string x1, .string x2] 24)).heap.size := by simp
  generalize w.alloc (.cells #[.string x1, .string x2] 24) = W1 at f0 f1 hW hWs ⊢
  refine wp_region_noPanic ?_
  refine wp_region_held_drew (S := fun w' => w'.cell? ⟨w.heap.size, 0, none⟩ = some (.string x1) ∧ w'.cell? ⟨w.heap.size, 1, none⟩ = some (.string x2)) (by kernel_rfl) ?_ (fun hHeld => ?_)
  · (exact ⟨f0, f1⟩)
  refine wpAnyH_take (i := 0) (oi := { dst := some 5, op := Op.move (Operand.tmp 0), type := 29, pos := "rows.go:43", after := #[], guard := none }) (v := ?_) rfl (by kernel_rfl) (by kernel_rfl) (by kernel_rfl) (fun _ _ _ h => h) (Or.inl ⟨by rfl, ?_⟩) hHeld ?_
  rotate_left
  · (intro w' hSw; (try dsimp only at hSw); go_split_ands; go_simp; first | done | with_reducible rfl)
  try simp only [Act.put, List.setIfInBounds_toArray, List.set_cons_zero, List.set_cons_succ]
  refine wpAnyH_take (i := 1) (oi := { dst := some 6, op := Op.fieldAddr 24 (Operand.tmp 3) 0, type := 0, pos := "rows.go:43", after := #[], guard := none }) (v := ?_) rfl (by kernel_rfl) (by kernel_rfl) (by kernel_rfl) (fun _ _ _ h => h) (Or.inl ⟨by rfl, ?_⟩) hHeld ?_
  rotate_left
  · (intro w' hSw; (try dsimp only at hSw); go_split_ands; go_simp; first | done | with_reducible rfl)
  try simp only [Act.put, List.setIfInBounds_toArray, List.set_cons_zero, List.set_cons_succ]
  refine wpAnyH_take (i := 2) (oi := { dst := some 7, op := Op.load 9 (Operand.tmp 6), type := 9, pos := "rows.go:43", after := #[{ on := 1, ground := Ground.data }], guard := none }) (v := ?_) rfl (by kernel_rfl) (by kernel_rfl) (by kernel_rfl) (fun _ _ _ h => h) (Or.inl ⟨by rfl, ?_⟩) hHeld ?_
  rotate_left
  · (intro w' hSw; (try dsimp only at hSw); go_split_ands; go_simp; first | done | with_reducible rfl)
  try simp only [Act.put, List.setIfInBounds_toArray, List.set_cons_zero, List.set_cons_succ]
  refine wpAnyH_take (i := 4) (oi := { dst := some 9, op := Op.fieldAddr 24 (Operand.tmp 3) 1, type := 0, pos := "rows.go:43", after := #[], guard := none }) (v := ?_) rfl (by kernel_rfl) (by kernel_rfl) (by kernel_rfl) (fun _ _ _ h => h) (Or.inl ⟨by rfl, ?_⟩) hHeld ?_
  rotate_left
  · (intro w' hSw; (try dsimp only at hSw); go_split_ands; go_simp; first | done | with_reducible rfl)
  try simp only [Act.put, List.setIfInBounds_toArray, List.set_cons_zero, List.set_cons_succ]
  refine wpAnyH_take (i := 5) (oi := { dst := some 10, op := Op.load 9 (Operand.tmp 9), type := 9, pos := "rows.go:43", after := #[{ on := 4, ground := Ground.data }], guard := none }) (v := ?_) rfl (by kernel_rfl) (by kernel_rfl) (by kernel_rfl) (fun _ _ _ h => h) (Or.inl ⟨by rfl, ?_⟩) hHeld ?_
  rotate_left
  · (intro w' hSw; (try dsimp only at hSw); go_split_ands; go_simp; first | done | with_reducible rfl)
  try simp only [Act.put, List.setIfInBounds_toArray, List.set_cons_zero, List.set_cons_succ]
  refine wpAnyH_ready (rs := [3]) (by kernel_rfl) (by simp) ?_
  refine AllReadyH.cons (o := { dst := some 8, op := Op.call { callee := Callee.value (Operand.func 48), args := #[Operand.tmp 7], argTypes := #[9] }, type := 29, pos := "rows.go:43", after := #[{ on := 2, ground := Ground.data }], guard := none }) rfl (fun K hK => ?_) AllReadyH.nil
  go_simp
  refine (hE1 W1.drew).out.mono ?_
  rintro en wa ⟨v1, rfl, hown1, hon1⟩
  have hba : Below W1.heap.size W1 wa := below_undrew hon1.below_nil
  have hsa := hba.size
  obtain ⟨Aa, ca, rfl, hca, -, -, hsa1⟩ := hown1.open_
  go_wp2_with fail
  refine hK.out _ _ ?_ ?_
  · (exact ⟨(hba.cell hWs).trans f0, (hba.cell hWs).trans f1⟩)
  clear hK K hHeld; intro hHeld
  try simp only [Act.put, List.setIfInBounds_toArray, List.set_cons_zero, List.set_cons_succ]
  refine wpAnyH_ready (rs := [6]) (by kernel_rfl) (by simp) ?_
  refine AllReadyH.cons (o := { dst := some 11, op := Op.call { callee := Callee.value (Operand.func 48), args := #[Operand.tmp 10], argTypes := #[9] }, type := 29, pos := "rows.go:43", after := #[{ on := 5, ground := Ground.data }, { on := 3, ground := Ground.chain }], guard := none }) rfl (fun K hK => ?_) AllReadyH.nil
  go_simp
  refine (hE2 wa).out.mono ?_
  rintro en wb ⟨v2, rfl, hown2, hon2⟩
  have hbb : Below wa.heap.size wa wb := hon2.below_nil
  have hsb := hbb.size
  obtain ⟨Ab, cb, rfl, hcb, -, -, hsb1⟩ := hown2.open_
  go_wp2_with fail
  refine hK.out _ _ ?_ ?_
  · (exact ⟨((hba.trans (hbb.mono hsa)).cell hWs).trans f0, ((hba.trans (hbb.mono hsa)).cell hWs).trans f1⟩)
  clear hK K hHeld; intro hHeld
  try simp only [Act.put, List.setIfInBounds_toArray, List.set_cons_zero, List.set_cons_succ]
  refine wpAnyH_ready (rs := [7]) (by kernel_rfl) (by simp) ?_
  refine AllReadyH.cons (o := { dst := some 12, op := Op.buildSlice 44 3 #[(0, Operand.tmp 5), (1, Operand.tmp 8), (2, Operand.tmp 11)], type := 44, pos := "rows.go:43", after := #[{ on := 0, ground := Ground.data }, { on := 3, ground := Ground.data }, { on := 6, ground := Ground.data }], guard := none }) rfl (fun K hK => ?_) AllReadyH.nil
  have hbW : Below W1.heap.size W1 wb := hba.trans (hbb.mono hsa)
  have hb3 : Below wb.heap.size wb (wb.alloc (.cells #[.slice A n c, .slice Aa X.length ca, .slice Ab Y.length cb] 29)) := (Below.refl _ wb).alloc (Nat.le_refl _) _
  go_simp
  go_wp2_with fail
  refine hK.out _ _ ?_ ?_
  · (exact ⟨((hbW.trans (hb3.mono hbW.size)).cell hWs).trans f0, ((hbW.trans (hb3.mono hbW.size)).cell hWs).trans f1⟩)
  clear hK K hHeld; intro hHeld
  try simp only [Act.put, List.setIfInBounds_toArray, List.set_cons_zero, List.set_cons_succ]
  refine wpAnyH_ready (rs := [8]) (by kernel_rfl) (by simp) ?_
  refine AllReadyH.cons (o := { dst := some 13, op := Op.call { callee := Callee.value (Operand.func 47), args := #[Operand.tmp 12], argTypes := #[44] }, type := 29, pos := "rows.go:43", after := #[{ on := 7, ground := Ground.data }, { on := 6, ground := Ground.chain }], guard := none }) rfl (fun K hK => ?_) AllReadyH.nil
  have hbw := hW.trans (hbW.mono hW.size)
  have h3 := sees2_three wb A Aa Ab n X.length Y.length c ca cb l X Y HN.out rfl rfl hnc hca hcb ((hS.below hbw).more hbw.size) ((hsa1.below hbb).more hsb) hsb1 29
  have hall3 : ∀ i (hi : i < [l, X, Y].length), ([l, X, Y][i]).length ≤ 1000000 := by
    intro i hi
    match i, hi with
    | 0, _ => show l.length ≤ _; rw [HN.out]; omega
    | 1, _ => exact HX.out
    | 2, _ => exact HY.out
  have hCc := Lib.hid (Concat_any (some ⟨wb.heap.size, 0, none⟩) 3 3 [l, X, Y] rfl _ h3 (by omega) hall3)
  rw [show [l, X, Y].flatten = l ++ (X ++ Y) from by simp, HF.out] at hCc
  clear h3 hall3
  go_simp
  refine hCc.out.mono ?_
  rintro en wc ⟨vc, rfl, hownc, honc⟩
  have hb4 := honc.below_nil
  go_wp2_with fail
  refine hK.out _ _ ?_ ?_
  · (exact ⟨((hbW.trans ((hb3.trans (hb4.mono hb3.size)).mono hbW.size)).cell hWs).trans f0, ((hbW.trans ((hb3.trans (hb4.mono hb3.size)).mono hbW.size)).cell hWs).trans f1⟩)
  clear hK K hHeld; intro hHeld
  try simp only [Act.put, List.setIfInBounds_toArray, List.set_cons_zero, List.set_cons_succ]
  refine wpAnyH_take (i := 9) (oi := { dst := some 4, op := Op.assign (Operand.tmp 13), type := 29, pos := "rows.go:43", after := #[{ on := 8, ground := Ground.data }, { on := 8, ground := Ground.chain }, { on := 0, ground := Ground.phase }, { on := 1, ground := Ground.phase }, { on := 2, ground := Ground.phase }, { on := 3, ground := Ground.phase }, { on := 4, ground := Ground.phase }, { on := 5, ground := Ground.phase }, { on := 6, ground := Ground.phase }, { on := 7, ground := Ground.phase }, { on := 8, ground := Ground.phase }], guard := none }) (v := ?_) rfl (by kernel_rfl) (by kernel_rfl) (by kernel_rfl) (fun _ _ _ h => h) (Or.inl ⟨by rfl, ?_⟩) hHeld ?_
  rotate_left
  · (intro w' hSw; (try dsimp only at hSw); go_split_ands; go_simp; first | done | with_reducible rfl)
  try simp only [Act.put, List.setIfInBounds_toArray, List.set_cons_zero, List.set_cons_succ]
  refine wpAnyH_done (by kernel_rfl) ?_ _
  refine NoPanic.normal ?_
  go_wp2_with fail
  go_ret
  exact ⟨vc, rfl, hownc.base_le (Nat.le_trans hbw.size hb3.size), hbw.trans ((hb3.trans (hb4.mono hb3.size)).mono hbw.size)⟩
end Go.Proofs.YtpjiioeodcinpaaGreatDoor
