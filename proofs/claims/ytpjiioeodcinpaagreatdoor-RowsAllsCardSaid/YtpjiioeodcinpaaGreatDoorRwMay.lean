/-
  rows.right, rows.may and the document's label and May, walked.
-/
import Derived.Test.YtpjiioeodcinpaaGreatDoorRwNum
import Derived.Test.YtpjiioeodcinpaaGreatDoorLbC
namespace Go.Proofs.YtpjiioeodcinpaaGreatDoor
open Go.RowKit

theorem sees_newL' (w : World) (b : Nat) (hb : w.heap.size = b) (ls : List Lb) (t : TypeId) (cs : Array Value) (h : cs = (lv ls).toArray) : Sees (w.alloc (.cells cs t)) (b + 1) (some ⟨b, 0, none⟩) (lv ls) := by
  subst hb; exact sees_newL w ls t cs h

set_option maxRecDepth 100000 in
set_option maxHeartbeats 400000 in
theorem right_any (x1 x2 : ByteArray) (w : World) (h1 : x1.size ≤ 9223372036854775807) :
    Calls Tryz.prog 45 #[.agg #[.string x1, .string x2]] w (Gives w (.bool (okL (x1, x2)))) := by
  obtain ⟨o, ho⟩ : ∃ o, okL (x1, x2) = o := ⟨_, rfl⟩
  have hm := may1 (x := (x1, x2))
  rw [ho] at hm ⊢
  have HM := Lib.hid hm
  have hC := fun W A (hS : Sees W W.heap.size A (lv [(x1, x2)])) => Lib.hid (Canon_any A 1 1 [(x1, x2)] rfl W hS (by omega) (fun x hx => by simp at hx; subst hx; exact h1))
  clear ho hm h1
  go_enter Tryz.func45, Tryz.ntmps45
  go_wp2_with fail
  have hb : Below w.heap.size w ((w.alloc (.cells #[.string x1, .string x2] 24)).alloc (.cells #[.string x1, .string x2] 24)) := ((Below.refl _ _).alloc (Nat.le_refl _) _).alloc (by simp) _
  refine (hC _ _ ((sees_newL' _ (w.heap.size + 1) (by simp) [(x1, x2)] _ _ rfl).more (by simp))).out.mono ?_
  rintro en w2 ⟨v, k, rfl, hb2, hres⟩
  have hb3 : Below w.heap.size w w2 := hb.trans (hb2.mono hb.size)
  clear hC hb hb2
  rcases hres with ⟨hma, rfl, -⟩ | ⟨hma, rfl, -⟩
  · obtain rfl : o = true := HM.out.1 hma
    go_wp2
    go_ret
    exact ⟨rfl, hb3⟩
  · have : ¬ o = true := fun e => hma (HM.out.2 e)
    obtain rfl : o = false := by cases o; rfl; exact absurd rfl this
    go_wp2
    go_ret
    exact ⟨rfl, hb3⟩

set_option maxRecDepth 100000 in
set_option maxHeartbeats 400000 in
theorem RefLabel_any (x1 x2 : ByteArray) (w : World) (h1 : x1.size ≤ 9223372036854775807) :
    Calls Tryz.prog 49 #[.agg #[.string x1, .string x2]] w (Gives w (.bool (okL (x1, x2)))) := by
  obtain ⟨o, ho⟩ : ∃ o, okL (x1, x2) = o := ⟨_, rfl⟩
  have hm := may1 (x := (x1, x2))
  rw [ho] at hm ⊢
  have HM := Lib.hid hm
  have hC := fun W A (hS : Sees W W.heap.size A (lv [(x1, x2)])) => Lib.hid (RefMay_any A 1 1 [(x1, x2)] rfl W hS (by omega) (fun x hx => by simp at hx; subst hx; exact h1))
  clear ho hm h1
  go_enter Tryz.func49, Tryz.ntmps49
  go_wp2_with fail
  have hb : Below w.heap.size w ((w.alloc (.cells #[.string x1, .string x2] 24)).alloc (.cells #[.string x1, .string x2] 24)) := ((Below.refl _ _).alloc (Nat.le_refl _) _).alloc (by simp) _
  refine (hC _ _ ((sees_newL' _ (w.heap.size + 1) (by simp) [(x1, x2)] _ _ rfl).more (by simp))).out.mono ?_
  rintro en w2 ⟨b, hbm, rfl, q, rfl⟩
  have hbo : b = o := by
    have := HM.out
    cases b <;> cases o <;> simp_all
  subst hbo
  go_wp2
  go_ret
  exact ⟨rfl, below_d hb q⟩

/-- A row's value. -/
def rowV (A : Option Addr) (n c : Nat) (k d i : Int) (x1 x2 : ByteArray) : Value := .agg #[.int .i64 k, .slice A n c, .string x1, .string x2, .int .i64 d, .int .i64 i]
/-- Whether a row may be. -/
def MayIs (w : World) (r : RowP) (e : Ending) (w' : World) : Prop := ∃ b : Bool, (b = true ↔ MayR r) ∧ e = .returned (.bool b) ∧ Below w.heap.size w w'
theorem MayIs.no {w w' : World} {r : RowP} (h : ¬ MayR r) (hb : Below w.heap.size w w') : MayIs w r (.returned (.bool false)) w' := ⟨false, ⟨fun e => absurd e (by simp), fun e => absurd e h⟩, rfl, hb⟩
theorem MayIs.yes {w w' : World} {r : RowP} (h : MayR r) (hb : Below w.heap.size w w') : MayIs w r (.returned (.bool true)) w' := ⟨true, ⟨fun _ => h, fun _ => rfl⟩, rfl, hb⟩
def noL (x1 x2 : ByteArray) : Bool := x1.toList == [] && x2.toList == []
theorem noL_ite {α : Type} (x1 x2 : ByteArray) (f : Bool → α) : (if x1.toList = [] then if x2.toList = [] then f true else f false else f false) = f (noL x1 x2) := by
  unfold noL
  by_cases h : x1.toList = []
  · by_cases h2 : x2.toList = []
    · rw [if_pos h, if_pos h2, h, h2]; rfl
    · rw [if_pos h, if_neg h2, beq_eq_false_iff_ne.2 h2, Bool.and_false]
  · rw [if_neg h, beq_eq_false_iff_ne.2 h, Bool.false_and]
/-- Whether a row may be, by four answers. -/
def MayB (k d : Int) (ba bs o bn : Bool) : Prop := ((k = 1 ∨ k = 2) ∧ ba = true ∧ bn = true ∧ d = 0) ∨ (k = 3 ∧ bs = false ∧ o = true ∧ d = 0) ∨ (k = 4 ∧ bs = false ∧ o = true) ∨ (k = 5 ∧ bs = false ∧ bn = true ∧ d = 0)
theorem mayB_iff {k d i : Int} {ls : List Lb} {x : Lb} {ba bs o bn : Bool} (hi1 : 1 ≤ i) (hi2 : i ≤ 1073741824) (hd1 : 0 ≤ d) (hd2 : d ≤ 2147483647) (ha : ba = true ↔ MayL ls) (hs : bs = false ↔ ls = []) (ho : okL x = o) (hn : bn = true ↔ x = lb0) :
    MayR ⟨k, ls, x, d, i⟩ ↔ MayB k d ba bs o bn := by
  unfold MayB
  rw [ha, hs, ← ho, hn]
  exact ⟨fun h => h.kinds, fun h => ⟨hi1, hi2, hd1, hd2, h⟩⟩
theorem noL_iff {x1 x2 : ByteArray} : noL x1 x2 = true ↔ (x1, x2) = lb0 := by
  unfold noL lb0
  rw [Bool.and_eq_true, beq_iff_eq, beq_iff_eq]
  have h : ∀ x : ByteArray, x.toList = [] ↔ x = ⟨#[]⟩ := fun x => by
    constructor
    · intro h; apply bytes_same; rw [h, Lib.toList_data]
    · rintro rfl; rw [Lib.toList_data]
  rw [h, h]
  constructor
  · rintro ⟨rfl, rfl⟩; rfl
  · intro h; exact ⟨(Prod.ext_iff.1 h).1, (Prod.ext_iff.1 h).2⟩

set_option maxRecDepth 100000 in
set_option maxHeartbeats 3200000 in
theorem may_any (A : Option Addr) (n c : Nat) (ls : List Lb) (hn : ls.length = n) (k d i : Int) (x1 x2 : ByteArray) (w : World) (hS : Sees w w.heap.size A (lv ls)) (hlen : n ≤ 1099511627776) (hsz : ∀ x ∈ ls, x.1.size ≤ 9223372036854775807) (h1 : x1.size ≤ 9223372036854775807) :
    Calls Tryz.prog 24 #[.agg #[.int .i64 k, .slice A n c, .string x1, .string x2, .int .i64 d, .int .i64 i]] w (MayIs w ⟨k, ls, (x1, x2), d, i⟩) := by
  obtain ⟨W1, hW1⟩ : ∃ W1, w.alloc (.cells #[.int .i64 k, .slice A n c, .string x1, .string x2, .int .i64 d, .int .i64 i] 26) = W1 := ⟨_, rfl⟩
  have hb1 : Below w.heap.size w W1 := hW1 ▸ (Below.refl _ _).alloc (Nat.le_refl _) _
  have hcell : ∀ j, j < 6 → W1.cell? ⟨w.heap.size, j, none⟩ = #[.int .i64 k, .slice A n c, .string x1, .string x2, .int .i64 d, .int .i64 i][j]? := fun j hj => by
    rw [← hW1, World.cell?_alloc_at _ _ _ _ rfl]
  have c3 := hcell 4 (by omega)
  have c4 := hcell 5 (by omega)
  simp only [List.getElem?_toArray, List.getElem?_cons_zero, List.getElem?_cons_succ] at c3 c4
  by_cases hi1 : i < 1
  · go_enter Tryz.func24, Tryz.ntmps24
    go_wp2
    go_ret
    exact MayIs.no (fun h => by have := h.id1; simp only at this; omega) hb1
  by_cases hi2 : 1073741824 < i
  · go_enter Tryz.func24, Tryz.ntmps24
    go_wp2
    go_ret
    exact MayIs.no (fun h => by have := h.id2; simp only at this; omega) hb1
  by_cases hd1 : d < 0
  · go_enter Tryz.func24, Tryz.ntmps24
    go_wp2
    go_ret
    exact MayIs.no (fun h => by have := h.day1; simp only at this; omega) hb1
  by_cases hd2 : 2147483647 < d
  · go_enter Tryz.func24, Tryz.ntmps24
    go_wp2
    go_ret
    exact MayIs.no (fun h => by have := h.day2; simp only at this; omega) hb1
  have hs1 : w.heap.size < W1.heap.size := by rw [← hW1]; simp
  have hC := Lib.hid (Canon_any A n c ls hn W1 ((hS.below hb1).more hb1.size) hlen hsz)
  have hR := fun W => Lib.hid (right_any x1 x2 W h1)
  have hN := noL_iff (x1 := x1) (x2 := x2)
  obtain ⟨o, ho⟩ : ∃ o, okL (x1, x2) = o := ⟨_, rfl⟩
  rw [ho] at hR
  have HO := Lib.hid ho
  have HN := Lib.hid hn
  have c0 := hcell 0 (by omega)
  have c1 := hcell 1 (by omega)
  have c2 := hcell 2 (by omega)
  have c2' := hcell 3 (by omega)
  simp only [List.getElem?_toArray, List.getElem?_cons_zero, List.getElem?_cons_succ] at c0 c1 c2 c2'
  clear hn ho hcell
  go_enter Tryz.func24, Tryz.ntmps24
  go_wp2_with fail
  refine hC.out.mono ?_
  rintro en w2 ⟨v, kk, rfl, hb2, hres⟩
  replace c0 := (hb2.cell hs1).trans c0
  replace c1 := (hb2.cell hs1).trans c1
  replace c2 := (hb2.cell hs1).trans c2
  replace c2' := (hb2.cell hs1).trans c2'
  replace c3 := (hb2.cell hs1).trans c3
  replace c4 := (hb2.cell hs1).trans c4
  have hs2 : w.heap.size < w2.heap.size := Nat.lt_of_lt_of_le hs1 hb2.size
  clear hC hW1
  go_wp2_with fail
  refine wp_region_noPanic ?_
  refine wp_region_held_drew (S := fun w' => w'.cell? ⟨w.heap.size, 1, none⟩ = some (.slice A n c) ∧ w'.cell? ⟨w.heap.size, 2, none⟩ = some (.string x1) ∧ w'.cell? ⟨w.heap.size, 3, none⟩ = some (.string x2)) (by kernel_rfl) ?_ (fun hHeld => ?_)
  · (exact ⟨c1, c2, c2'⟩)
  refine wpAnyH_take (i := 0) (oi := { dst := some 33, op := Op.move (Operand.tmp 4), type := 30, pos := "rows.go:58", after := #[], guard := none }) (v := ?_) rfl (by kernel_rfl) (by kernel_rfl) (by kernel_rfl) (fun _ _ _ h => h) (Or.inl ⟨by rfl, ?_⟩) hHeld ?_
  rotate_left
  · (intro w' hSw; (try dsimp only at hSw); go_split_ands; go_simp; first | done | with_reducible rfl)
  try simp only [Act.put, List.setIfInBounds_toArray, List.set_cons_zero, List.set_cons_succ]
  refine wpAnyH_take (i := 1) (oi := { dst := some 34, op := Op.binOp BinOp.eql 30 (Operand.tmp 33) (Operand.const (Value.int IntKind.i64 0)) 30, type := 4, pos := "rows.go:58", after := #[{ on := 0, ground := Ground.data }], guard := none }) (v := ?_) rfl (by kernel_rfl) (by kernel_rfl) (by kernel_rfl) (fun _ _ _ h => h) (Or.inl ⟨by rfl, ?_⟩) hHeld ?_
  rotate_left
  · (intro w' hSw; (try dsimp only at hSw); go_split_ands; go_simp; first | done | with_reducible rfl)
  try simp only [Act.put, List.setIfInBounds_toArray, List.set_cons_zero, List.set_cons_succ]
  refine wpAnyH_take (i := 2) (oi := { dst := some 35, op := Op.fieldAddr 26 (Operand.tmp 1) 1, type := 0, pos := "rows.go:58", after := #[], guard := none }) (v := ?_) rfl (by kernel_rfl) (by kernel_rfl) (by kernel_rfl) (fun _ _ _ h => h) (Or.inl ⟨by rfl, ?_⟩) hHeld ?_
  rotate_left
  · (intro w' hSw; (try dsimp only at hSw); go_split_ands; go_simp; first | done | with_reducible rfl)
  try simp only [Act.put, List.setIfInBounds_toArray, List.set_cons_zero, List.set_cons_succ]
  refine wpAnyH_take (i := 3) (oi := { dst := some 36, op := Op.load 22 (Operand.tmp 35), type := 22, pos := "rows.go:58", after := #[{ on := 2, ground := Ground.data }], guard := none }) (v := ?_) rfl (by kernel_rfl) (by kernel_rfl) (by kernel_rfl) (fun _ _ _ h => h) (Or.inl ⟨by rfl, ?_⟩) hHeld ?_
  rotate_left
  · (intro w' hSw; (try dsimp only at hSw); go_split_ands; go_simp; first | done | with_reducible rfl)
  try simp only [Act.put, List.setIfInBounds_toArray, List.set_cons_zero, List.set_cons_succ]
  refine wpAnyH_take (i := 4) (oi := { dst := some 37, op := Op.call { callee := Callee.builtin Builtin.len, args := #[Operand.tmp 36], argTypes := #[22] }, type := 3, pos := "rows.go:58", after := #[{ on := 3, ground := Ground.data }], guard := none }) (v := ?_) rfl (by kernel_rfl) (by kernel_rfl) (by kernel_rfl) (fun _ _ _ h => h) (Or.inl ⟨by rfl, ?_⟩) hHeld ?_
  rotate_left
  · (intro w' hSw; (try dsimp only at hSw); go_split_ands; go_simp; first | done | with_reducible rfl)
  try simp only [Act.put, List.setIfInBounds_toArray, List.set_cons_zero, List.set_cons_succ]
  refine wpAnyH_take (i := 5) (oi := { dst := some 38, op := Op.binOp BinOp.gtr 3 (Operand.tmp 37) (Operand.const (Value.int IntKind.i64 0)) 3, type := 4, pos := "rows.go:58", after := #[{ on := 4, ground := Ground.data }, { on := 13, ground := Ground.gcOnly Departure.lateStores }], guard := none }) (v := ?_) rfl (by kernel_rfl) (by kernel_rfl) (by kernel_rfl) (fun _ _ _ h => h) (Or.inl ⟨by rfl, ?_⟩) hHeld ?_
  rotate_left
  · (intro w' hSw; (try dsimp only at hSw); go_split_ands; go_simp; first | done | with_reducible rfl)
  try simp only [Act.put, List.setIfInBounds_toArray, List.set_cons_zero, List.set_cons_succ]
  refine wpAnyH_take (i := 6) (oi := { dst := some 39, op := Op.fieldAddr 26 (Operand.tmp 1) 2, type := 0, pos := "rows.go:58", after := #[], guard := none }) (v := ?_) rfl (by kernel_rfl) (by kernel_rfl) (by kernel_rfl) (fun _ _ _ h => h) (Or.inl ⟨by rfl, ?_⟩) hHeld ?_
  rotate_left
  · (intro w' hSw; (try dsimp only at hSw); go_split_ands; go_simp; first | done | with_reducible rfl)
  try simp only [Act.put, List.setIfInBounds_toArray, List.set_cons_zero, List.set_cons_succ]
  refine wpAnyH_take (i := 7) (oi := { dst := some 40, op := Op.load 24 (Operand.tmp 39), type := 24, pos := "rows.go:58", after := #[{ on := 6, ground := Ground.data }], guard := none }) (v := ?_) rfl (by kernel_rfl) (by kernel_rfl) (by kernel_rfl) (fun _ _ _ h => h) (Or.inl ⟨by rfl, ?_⟩) hHeld ?_
  rotate_left
  · (intro w' hSw; (try dsimp only at hSw); go_split_ands; go_simp; first | done | with_reducible rfl)
  try simp only [Act.put, List.setIfInBounds_toArray, List.set_cons_zero, List.set_cons_succ]
  refine wpAnyH_take (i := 9) (oi := { dst := some 42, op := Op.fieldAddr 26 (Operand.tmp 1) 2, type := 0, pos := "rows.go:58", after := #[{ on := 15, ground := Ground.gcOnly Departure.lateStores }], guard := none }) (v := ?_) rfl (by kernel_rfl) (by kernel_rfl) (by kernel_rfl) (fun _ _ _ h => h) (Or.inl ⟨by rfl, ?_⟩) hHeld ?_
  rotate_left
  · (intro w' hSw; (try dsimp only at hSw); go_split_ands; go_simp; first | done | with_reducible rfl)
  try simp only [Act.put, List.setIfInBounds_toArray, List.set_cons_zero, List.set_cons_succ]
  refine wpAnyH_take (i := 10) (oi := { dst := some 43, op := Op.load 24 (Operand.tmp 42), type := 24, pos := "rows.go:58", after := #[{ on := 9, ground := Ground.data }, { on := 15, ground := Ground.gcOnly Departure.lateStores }], guard := none }) (v := ?_) rfl (by kernel_rfl) (by kernel_rfl) (by kernel_rfl) (fun _ _ _ h => h) (Or.inl ⟨by rfl, ?_⟩) hHeld ?_
  rotate_left
  · (intro w' hSw; (try dsimp only at hSw); go_split_ands; go_simp; first | done | with_reducible rfl)
  try simp only [Act.put, List.setIfInBounds_toArray, List.set_cons_zero, List.set_cons_succ]
  refine wpAnyH_take (i := 11) (oi := { dst := some 44, op := Op.build 24 #[], type := 24, pos := "rows.go:58", after := #[{ on := 15, ground := Ground.gcOnly Departure.lateStores }], guard := none }) (v := ?_) rfl (by kernel_rfl) (by kernel_rfl) (by kernel_rfl) (fun _ _ _ h => h) (Or.inl ⟨by rfl, ?_⟩) hHeld ?_
  rotate_left
  · (intro w' hSw; (try dsimp only at hSw); go_split_ands; go_simp; first | done | with_reducible rfl)
  try simp only [Act.put, List.setIfInBounds_toArray, List.set_cons_zero, List.set_cons_succ]
  refine wpAnyH_take (i := 12) (oi := { dst := some 45, op := Op.binOp BinOp.eql 24 (Operand.tmp 43) (Operand.tmp 44) 24, type := 4, pos := "rows.go:58", after := #[{ on := 10, ground := Ground.data }, { on := 11, ground := Ground.data }, { on := 15, ground := Ground.gcOnly Departure.lateStores }], guard := none }) (v := .bool (noL x1 x2)) rfl (by kernel_rfl) (by kernel_rfl) (by kernel_rfl) (fun _ _ _ h => h) (Or.inl ⟨by rfl, ?_⟩) hHeld ?_
  · (intro w' hSw; (try dsimp only at hSw); go_split_ands; go_simp; first | done | with_reducible rfl | exact noL_ite x1 x2 (fun b => Result.ok (Next.value (.bool b)) w'))
  try simp only [Act.put, List.setIfInBounds_toArray, List.set_cons_zero, List.set_cons_succ]
  refine wpAnyH_ready (rs := [8]) (by kernel_rfl) (by simp) ?_
  refine AllReadyH.cons (o := { dst := some 41, op := Op.call { callee := Callee.value (Operand.func 45), args := #[Operand.tmp 40], argTypes := #[24] }, type := 4, pos := "rows.go:58", after := #[{ on := 7, ground := Ground.data }], guard := none }) rfl (fun K hK => ?_) AllReadyH.nil
  go_simp
  refine (hR w2.drew).out.mono ?_
  rintro en w3 ⟨rfl, hb3'⟩
  have hb3 : Below w2.heap.size w2 w3 := below_undrew hb3'
  go_wp2_with fail
  refine hK.out _ _ ?_ ?_
  · (exact ⟨(hb3.cell hs2).trans c1, (hb3.cell hs2).trans c2, (hb3.cell hs2).trans c2'⟩)
  clear hK K hHeld; intro hHeld
  try simp only [Act.put, List.setIfInBounds_toArray, List.set_cons_zero, List.set_cons_succ]
  refine wpAnyH_take (i := 13) (oi := { dst := some 5, op := Op.assign (Operand.tmp 34), type := 4, pos := "rows.go:58", after := #[{ on := 1, ground := Ground.data }, { on := 8, ground := Ground.chain }, { on := 0, ground := Ground.phase }, { on := 1, ground := Ground.phase }, { on := 2, ground := Ground.textOnly Departure.lateStores }, { on := 3, ground := Ground.textOnly Departure.lateStores }, { on := 4, ground := Ground.textOnly Departure.lateStoresUnsure }, { on := 5, ground := Ground.textOnly Departure.lateStores }, { on := 6, ground := Ground.textOnly Departure.lateStores }, { on := 7, ground := Ground.textOnly Departure.lateStores }, { on := 8, ground := Ground.textOnly Departure.lateStoresUnsure }, { on := 9, ground := Ground.textOnly Departure.lateStores }, { on := 10, ground := Ground.textOnly Departure.lateStores }, { on := 11, ground := Ground.textOnly Departure.lateStores }, { on := 12, ground := Ground.textOnly Departure.lateStores }], guard := none }) (v := ?_) rfl (by kernel_rfl) (by kernel_rfl) (by kernel_rfl) (fun _ _ _ h => h) (Or.inl ⟨by rfl, ?_⟩) hHeld ?_
  rotate_left
  · (intro w' hSw; (try dsimp only at hSw); go_split_ands; go_simp; first | done | with_reducible rfl)
  try simp only [Act.put, List.setIfInBounds_toArray, List.set_cons_zero, List.set_cons_succ]
  refine wpAnyH_take (i := 14) (oi := { dst := some 6, op := Op.assign (Operand.tmp 38), type := 4, pos := "rows.go:58", after := #[{ on := 5, ground := Ground.data }, { on := 13, ground := Ground.chain }, { on := 0, ground := Ground.phase }, { on := 1, ground := Ground.phase }, { on := 2, ground := Ground.phase }, { on := 3, ground := Ground.phase }, { on := 4, ground := Ground.phase }, { on := 5, ground := Ground.phase }, { on := 6, ground := Ground.textOnly Departure.lateStores }, { on := 7, ground := Ground.textOnly Departure.lateStores }, { on := 8, ground := Ground.textOnly Departure.lateStoresUnsure }, { on := 9, ground := Ground.textOnly Departure.lateStores }, { on := 10, ground := Ground.textOnly Departure.lateStores }, { on := 11, ground := Ground.textOnly Departure.lateStores }, { on := 12, ground := Ground.textOnly Departure.lateStores }, { on := 13, ground := Ground.phase }], guard := none }) (v := ?_) rfl (by kernel_rfl) (by kernel_rfl) (by kernel_rfl) (fun _ _ _ h => h) (Or.inl ⟨by rfl, ?_⟩) hHeld ?_
  rotate_left
  · (intro w' hSw; (try dsimp only at hSw); go_split_ands; go_simp; first | done | with_reducible rfl)
  try simp only [Act.put, List.setIfInBounds_toArray, List.set_cons_zero, List.set_cons_succ]
  refine wpAnyH_take (i := 15) (oi := { dst := some 7, op := Op.assign (Operand.tmp 41), type := 4, pos := "rows.go:58", after := #[{ on := 8, ground := Ground.data }, { on := 14, ground := Ground.chain }, { on := 0, ground := Ground.phase }, { on := 1, ground := Ground.phase }, { on := 2, ground := Ground.phase }, { on := 3, ground := Ground.phase }, { on := 4, ground := Ground.phase }, { on := 5, ground := Ground.phase }, { on := 6, ground := Ground.phase }, { on := 7, ground := Ground.phase }, { on := 8, ground := Ground.phase }, { on := 9, ground := Ground.textOnly Departure.lateStores }, { on := 10, ground := Ground.textOnly Departure.lateStores }, { on := 11, ground := Ground.textOnly Departure.lateStores }, { on := 12, ground := Ground.textOnly Departure.lateStores }, { on := 13, ground := Ground.phase }, { on := 14, ground := Ground.phase }], guard := none }) (v := ?_) rfl (by kernel_rfl) (by kernel_rfl) (by kernel_rfl) (fun _ _ _ h => h) (Or.inl ⟨by rfl, ?_⟩) hHeld ?_
  rotate_left
  · (intro w' hSw; (try dsimp only at hSw); go_split_ands; go_simp; first | done | with_reducible rfl)
  try simp only [Act.put, List.setIfInBounds_toArray, List.set_cons_zero, List.set_cons_succ]
  refine wpAnyH_take (i := 16) (oi := { dst := some 8, op := Op.assign (Operand.tmp 45), type := 4, pos := "rows.go:58", after := #[{ on := 12, ground := Ground.data }, { on := 15, ground := Ground.chain }, { on := 0, ground := Ground.phase }, { on := 1, ground := Ground.phase }, { on := 2, ground := Ground.phase }, { on := 3, ground := Ground.phase }, { on := 4, ground := Ground.phase }, { on := 5, ground := Ground.phase }, { on := 6, ground := Ground.phase }, { on := 7, ground := Ground.phase }, { on := 8, ground := Ground.phase }, { on := 9, ground := Ground.phase }, { on := 10, ground := Ground.phase }, { on := 11, ground := Ground.phase }, { on := 12, ground := Ground.phase }, { on := 13, ground := Ground.phase }, { on := 14, ground := Ground.phase }, { on := 15, ground := Ground.phase }], guard := none }) (v := ?_) rfl (by kernel_rfl) (by kernel_rfl) (by kernel_rfl) (fun _ _ _ h => h) (Or.inl ⟨by rfl, ?_⟩) hHeld ?_
  rotate_left
  · (intro w' hSw; (try dsimp only at hSw); go_split_ands; go_simp; first | done | with_reducible rfl)
  try simp only [Act.put, List.setIfInBounds_toArray, List.set_cons_zero, List.set_cons_succ]
  refine wpAnyH_done (by kernel_rfl) ?_ _
  refine NoPanic.normal ?_
  have hb03 : Below w.heap.size w w3 := hb1.trans ((hb2.trans (hb3.mono hb2.size)).mono hb1.size)
  have hba : ((kk : Int) == 0) = true ↔ MayL ls := by
    rcases hres with ⟨h, rfl, -⟩ | ⟨h, rfl, -⟩
    · exact ⟨fun _ => h, fun _ => rfl⟩
    · exact ⟨fun e => absurd e (by decide), fun e => absurd e h⟩
  have hbs : decide (0 < n) = false ↔ ls = [] := by
    rw [decide_eq_false_iff_not, ← List.length_eq_zero_iff, HN.out]; omega
  have hmr := fun k => mayB_iff (k := k) hi1 hi2 hd1 hd2 hba hbs HO.out hN
  replace c0 := (hb3.cell hs2).trans c0
  replace c3 := (hb3.cell hs2).trans c3
  clear hres hba hbs hN hb2 hb3 hb3' c1 c2 c2' c4
  generalize ((kk : Int) == 0) = ba at hmr ⊢
  generalize decide (0 < n) = bs at hmr ⊢
  generalize noL x1 x2 = bn at hmr ⊢
  have HF : Hid (∀ (b : Bool) (W : World), Below w.heap.size w W → (b = true ↔ MayB k d ba bs o bn) → MayIs w ⟨k, ls, (x1, x2), d, i⟩ (.returned (.bool b)) W) := fun b W hb he => ⟨b, he.trans (hmr k).symm, rfl, hb⟩
  clear hmr
  by_cases k1 : k ≤ 0
  · (go_wp2; go_ret; refine HF.out _ _ hb03 ?_; unfold MayB; simp; try omega)
  by_cases k2 : k ≤ 1
  · have k1' : 1 ≤ k := by omega
    cases ba with
    | false => (go_wp2; go_ret; refine HF.out _ _ hb03 ?_; unfold MayB; simp; try omega)
    | true =>
    cases bn with
    | false => (go_wp2; go_ret; refine HF.out _ _ hb03 ?_; unfold MayB; simp; try omega)
    | true => (by_cases d0 : 0 < d; (case pos => (go_wp2; go_ret; refine HF.out _ _ hb03 ?_; unfold MayB; simp; try omega)); obtain rfl : d = 0 := (by omega); (go_wp2; go_ret; refine HF.out _ _ hb03 ?_; unfold MayB; simp; try omega))
  by_cases k3 : k ≤ 2
  · have k1' : 2 ≤ k := by omega
    cases ba with
    | false => (go_wp2; go_ret; refine HF.out _ _ hb03 ?_; unfold MayB; simp; try omega)
    | true =>
    cases bn with
    | false => (go_wp2; go_ret; refine HF.out _ _ hb03 ?_; unfold MayB; simp; try omega)
    | true => (by_cases d0 : 0 < d; (case pos => (go_wp2; go_ret; refine HF.out _ _ hb03 ?_; unfold MayB; simp; try omega)); obtain rfl : d = 0 := (by omega); (go_wp2; go_ret; refine HF.out _ _ hb03 ?_; unfold MayB; simp; try omega))
  by_cases k4 : k ≤ 3
  · have k1' : 3 ≤ k := by omega
    cases bs with
    | true => (go_wp2; go_ret; refine HF.out _ _ hb03 ?_; unfold MayB; simp; try omega)
    | false =>
    cases o with
    | false => (go_wp2; go_ret; refine HF.out _ _ hb03 ?_; unfold MayB; simp; try omega)
    | true => (by_cases d0 : 0 < d; (case pos => (go_wp2; go_ret; refine HF.out _ _ hb03 ?_; unfold MayB; simp; try omega)); obtain rfl : d = 0 := (by omega); (go_wp2; go_ret; refine HF.out _ _ hb03 ?_; unfold MayB; simp; try omega))
  by_cases k5 : k ≤ 4
  · have k1' : 4 ≤ k := by omega
    cases bs with
    | true => (go_wp2; go_ret; refine HF.out _ _ hb03 ?_; unfold MayB; simp; try omega)
    | false =>
    cases o with
    | false => (go_wp2; go_ret; refine HF.out _ _ hb03 ?_; unfold MayB; simp; try omega)
    | true => (go_wp2; go_ret; refine HF.out _ _ hb03 ?_; unfold MayB; simp; try omega)
  by_cases k6 : k ≤ 5
  · obtain rfl : k = 5 := by omega
    cases bs with
    | true => (go_wp2; go_ret; refine HF.out _ _ hb03 ?_; unfold MayB; simp; try omega)
    | false =>
    cases bn with
    | false => (go_wp2; go_ret; refine HF.out _ _ hb03 ?_; unfold MayB; simp; try omega)
    | true => (by_cases d0 : 0 < d; (case pos => (go_wp2; go_ret; refine HF.out _ _ hb03 ?_; unfold MayB; simp; try omega)); obtain rfl : d = 0 := (by omega); (go_wp2; go_ret; refine HF.out _ _ hb03 ?_; unfold MayB; simp; try omega))
  (go_wp2; go_ret; refine HF.out _ _ hb03 ?_; unfold MayB; simp; try omega)
end Go.Proofs.YtpjiioeodcinpaaGreatDoor
