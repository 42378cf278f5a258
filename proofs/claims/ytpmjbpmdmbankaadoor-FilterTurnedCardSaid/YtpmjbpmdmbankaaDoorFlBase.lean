/-
  Filters as the walks see them; what one of them asks.
-/
import Derived.Test.YtpmjbpmdmbankaaDoorLbName
import Derived.StillTailTactics
import Derived.Laws.EntriesVeiled
namespace Go.Proofs.YtpmjbpmdmbankaaDoor
open Go.RowKit

structure Flt where
  name : ByteArray
  value : ByteArray
  pre : Bool
  inv : Bool
def fv (fs : List Flt) : List Value := fs.flatMap fun x => [.string x.name, .string x.value, .bool x.pre, .bool x.inv]
theorem fv_length (ls : List Flt) : (fv ls).length = 4 * ls.length := by
  induction ls with
  | nil => rfl
  | cons x t ih => simp only [fv, List.flatMap_cons, List.length_append, List.length_cons, List.length_nil] at *; omega
theorem fv_at (ls : List Flt) (k : Nat) (h : k < ls.length) : (fv ls)[4 * k]? = some (.string ls[k].name) ∧ (fv ls)[4 * k + 1]? = some (.string ls[k].value) ∧ (fv ls)[4 * k + 2]? = some (.bool ls[k].pre) ∧ (fv ls)[4 * k + 3]? = some (.bool ls[k].inv) := by
  induction ls generalizing k with
  | nil => simp at h
  | cons x t ih =>
    cases k with
    | zero => exact ⟨rfl, rfl, rfl, rfl⟩
    | succ k =>
      have := ih k (by simpa using h)
      rw [show 4 * (k + 1) = 4 * k + 1 + 1 + 1 + 1 from by omega]
      exact this
theorem fv_drop (ls : List Flt) (k : Nat) : fv (ls.drop k) = (fv ls).drop (4 * k) := by
  induction ls generalizing k with
  | nil => simp [fv]
  | cons x t ih =>
    cases k with
    | zero => rfl
    | succ k => rw [List.drop_succ_cons, ih k, show 4 * (k + 1) = 4 * k + 1 + 1 + 1 + 1 from by omega]; rfl
/-- A row of filters that is seen: the cells of one of them. -/
theorem Sees.fl {w : World} {B : Nat} {A : Option Addr} {ls : List Flt} (h : Sees w B A (fv ls)) {k : Nat} (hk : k < ls.length) : ∃ ad, A = some ad ∧ ad.block < B ∧ w.cell? (ad.add (k * 4)) = some (.string ls[k].name) ∧
    w.cell? ⟨(ad.add (k * 4)).block, (ad.add (k * 4)).off + 1, none⟩ = some (.string ls[k].value) ∧ w.cell? ⟨(ad.add (k * 4)).block, (ad.add (k * 4)).off + 2, none⟩ = some (.bool ls[k].pre) ∧ w.cell? ⟨(ad.add (k * 4)).block, (ad.add (k * 4)).off + 3, none⟩ = some (.bool ls[k].inv) := by
  rcases h.out with h | ⟨ad, e, hb, hc⟩
  · have := fv_length ls
    rw [h] at this
    simp at this
    omega
  · obtain ⟨h1, h2, h3, h4⟩ := fv_at ls k hk
    exact ⟨ad, e, hb, by rw [Nat.mul_comm]; exact hc _ _ h1, by rw [← add_field ad _ 1 (by omega), Nat.mul_comm]; exact hc _ _ h2, by rw [← add_field ad _ 2 (by omega), Nat.mul_comm]; exact hc _ _ h3, by rw [← add_field ad _ 3 (by omega), Nat.mul_comm]; exact hc _ _ h4⟩

/-- Does a text begin with another one? -/
def hasPre (v want : ByteArray) : Bool := decide (want.size ≤ v.size) && ((v.extract 0 want.size).toList == want.toList)
def isB (pre : Bool) (v want : ByteArray) : Bool := if pre then hasPre v want else v.toList == want.toList

set_option maxRecDepth 100000 in
set_option maxHeartbeats 400000 in
theorem stringsHasPrefix_any (v want : ByteArray) (w : World) : Calls Tryd.prog 28 #[.string v, .string want] w fun e w' => e = .returned (.bool (hasPre v want)) ∧ w = w' := by
  obtain ⟨X, hX⟩ : ∃ X, hasPre v want = X := ⟨_, rfl⟩
  rw [hX]
  unfold hasPre at hX
  by_cases h : want.size ≤ v.size
  · rw [decide_eq_true h] at hX
    have HX := Lib.hid hX
    clear hX
    go_enter Tryd.func28, Tryd.ntmps28
    go_wp2
    go_ret
    exact ⟨ret_bool (by rw [← HX.out, Bool.true_and]), rfl⟩
  · rw [decide_eq_false h] at hX
    have HX : Hid (X = false) := by unfold Hid; rw [← hX]; rfl
    have h' : (v.size : Int) < (want.size : Int) := by omega
    clear hX h
    go_enter Tryd.func28, Tryd.ntmps28
    go_wp2
    go_ret
    rw [HX.out]
    exact ⟨rfl, rfl⟩

set_option maxRecDepth 100000 in
set_option maxHeartbeats 400000 in
theorem HasPrefix_any (v want : ByteArray) (w : World) : Calls Tryd.prog 24 #[.string v, .string want] w (Gives w (.bool (hasPre v want))) := by
  go_enter Tryd.func24, Tryd.ntmps24
  go_wp2_with fail
  refine (stringsHasPrefix_any v want w).mono ?_
  rintro e w1 ⟨rfl, rfl⟩
  go_wp2
  go_ret
  exact ⟨rfl, Below.refl _ _⟩
set_option maxRecDepth 100000 in
set_option maxHeartbeats 400000 in
theorem same_any (v want : ByteArray) (w : World) : Calls Tryd.prog 23 #[.string v, .string want] w (Gives w (.bool (v.toList == want.toList))) := by
  go_enter Tryd.func23, Tryd.ntmps23
  go_wp2
  go_ret
  exact ⟨rfl, Below.refl _ _⟩

set_option maxRecDepth 100000 in
set_option maxHeartbeats 400000 in
theorem ask_pre (a b : ByteArray) (q : Bool) (w : World) : Calls Tryd.prog 18 #[.agg #[.string a, .string b, .bool true, .bool q]] w
    (Gives w (.agg #[.string a, .string b, .bool true, .bool q, .func (.func 24) #[] #[]])) := by
  go_enter Tryd.func18, Tryd.ntmps18
  go_wp2
  exact bodyPost_ret (v := .agg #[.string a, .string b, .bool true, .bool q, .func (.func 24) #[] #[]]) (by simp [results, Tryd.results18, go_sem]) rfl ⟨rfl, (((Below.refl _ w).alloc (Nat.le_refl _) _).alloc (by simp) _).alloc (by simp; omega) _⟩
set_option maxRecDepth 100000 in
set_option maxHeartbeats 400000 in
theorem ask_eq (a b : ByteArray) (q : Bool) (w : World) : Calls Tryd.prog 18 #[.agg #[.string a, .string b, .bool false, .bool q]] w
    (Gives w (.agg #[.string a, .string b, .bool false, .bool q, .func (.func 23) #[] #[]])) := by
  go_enter Tryd.func18, Tryd.ntmps18
  go_wp2
  exact bodyPost_ret (v := .agg #[.string a, .string b, .bool false, .bool q, .func (.func 23) #[] #[]]) (by simp [results, Tryd.results18, go_sem]) rfl ⟨rfl, (((Below.refl _ w).alloc (Nat.le_refl _) _).alloc (by simp) _).alloc (by simp; omega) _⟩

theorem run_askFn (u0 u1 u2 u3 : Value) (k : FuncId) (w : World) : (Instr.field 38 (.agg #[u0, u1, u2, u3, .func (.func k) #[] #[]]) 1).run Tryd.prog w = .ok (.func (.func k) #[] #[]) w := by kernel_rfl

/-- What one filter tells of labels. -/
def oneB (f : Flt) (ls : List Lb) : Bool := isB f.pre (getL ls f.name) f.value != f.inv

theorem four_of {w w' : World} {b : Nat} (hb : Below w.heap.size w w') (hlt : b < w.heap.size) {v0 v1 v2 v3 : Value} (h : w.cell? ⟨b, 0, none⟩ = some v0 ∧ w.cell? ⟨b, 1, none⟩ = some v1 ∧ w.cell? ⟨b, 2, none⟩ = some v2 ∧ w.cell? ⟨b, 3, none⟩ = some v3) :
    w'.cell? ⟨b, 0, none⟩ = some v0 ∧ w'.cell? ⟨b, 1, none⟩ = some v1 ∧ w'.cell? ⟨b, 2, none⟩ = some v2 ∧ w'.cell? ⟨b, 3, none⟩ = some v3 :=
  ⟨(hb.cell (p := ⟨b, 0, none⟩) hlt).trans h.1, (hb.cell (p := ⟨b, 1, none⟩) hlt).trans h.2.1, (hb.cell (p := ⟨b, 2, none⟩) hlt).trans h.2.2.1, (hb.cell (p := ⟨b, 3, none⟩) hlt).trans h.2.2.2⟩

set_option maxRecDepth 100000 in
set_option maxHeartbeats 1600000 in
theorem One_any (f : Flt) (A : Option Addr) (n c : Nat) (ls : List Lb) (hn : ls.length = n) (w : World) (hS : Sees w w.heap.size A (lv ls)) (hlen : n ≤ 1099511627776) :
    Calls Tryd.prog 10 #[.agg #[.string f.name, .string f.value, .bool f.pre, .bool f.inv], .slice A n c] w (Gives w (.bool (oneB f ls))) := by
  obtain ⟨a, b, p, q⟩ := f
  unfold oneB
  simp only
  have hG := fun (W : World) (h : Sees W W.heap.size A (lv ls)) => Get_any A n c ls a hn W h hlen
  generalize getL ls a = v at hG ⊢
  have HG := Lib.hid hG
  have hfld := run_askFn
  have hb0 : Below w.heap.size w (w.alloc (.cells #[.string a, .string b, .bool p, .bool q] 28)) := (Below.refl _ w).alloc (Nat.le_refl _) _
  have hblk : Hid ((w.alloc (.cells #[.string a, .string b, .bool p, .bool q] 28)).cell? ⟨w.heap.size, 0, none⟩ = some (.string a) ∧ (w.alloc (.cells #[.string a, .string b, .bool p, .bool q] 28)).cell? ⟨w.heap.size, 1, none⟩ = some (.string b) ∧
      (w.alloc (.cells #[.string a, .string b, .bool p, .bool q] 28)).cell? ⟨w.heap.size, 2, none⟩ = some (.bool p) ∧ (w.alloc (.cells #[.string a, .string b, .bool p, .bool q] 28)).cell? ⟨w.heap.size, 3, none⟩ = some (.bool q)) := by
    unfold Hid
    simp only [World.cell?_alloc_at _ _ _ _ rfl]
    exact ⟨rfl, rfl, rfl, rfl⟩
  have hz0 : (w.alloc (.cells #[.string a, .string b, .bool p, .bool q] 28)).heap.size = w.heap.size + 1 := by simp
  clear hn hG
  cases p
  · go_enter Tryd.func10, Tryd.ntmps10
    go_wp2_with fail
    generalize w.alloc (.cells #[.string a, .string b, .bool false, .bool q] 28) = W at hb0 hblk hz0 ⊢
    have hsW := hb0.size
    go_region_held3 (fun w' => w'.cell? ⟨w.heap.size, 0, none⟩ = some (.string a) ∧ w'.cell? ⟨w.heap.size, 1, none⟩ = some (.string b) ∧ w'.cell? ⟨w.heap.size, 2, none⟩ = some (.bool false) ∧ w'.cell? ⟨w.heap.size, 3, none⟩ = some (.bool q))
      (first | exact hk4 | exact hk3 | exact hk2 | exact hblk.out)
      (first
        | (go_at_call 18; refine (ask_eq _ _ _ _).mono ?_; rintro e w2 ⟨rfl, hb2⟩; have hb2 := below_undrew hb2; have hk2 := four_of hb2 (by omega) hblk.out; have hb02 := hb0.trans (hb2.mono hsW))
        | (go_at_call 19; refine (HG.out w2 ((hS.below hb02).more hb02.size)).mono ?_; rintro e w3 ⟨rfl, hb3⟩; have hk3 := four_of hb3 (by have := hb2.size; omega) hk2; have hb03 := hb02.trans (hb3.mono hb02.size))
        | (go_at_call 23; refine (same_any _ _ _).mono ?_; rintro e w4 ⟨rfl, hb4⟩; have hk4 := four_of hb4 (by have := hb2.size; have := hb3.size; omega) hk3; have hb04 := hb03.trans (hb4.mono hb03.size)))
    go_wp2
    go_ret
    exact ⟨rfl, hb04⟩
  · go_enter Tryd.func10, Tryd.ntmps10
    go_wp2_with fail
    generalize w.alloc (.cells #[.string a, .string b, .bool true, .bool q] 28) = W at hb0 hblk hz0 ⊢
    have hsW := hb0.size
    go_region_held3 (fun w' => w'.cell? ⟨w.heap.size, 0, none⟩ = some (.string a) ∧ w'.cell? ⟨w.heap.size, 1, none⟩ = some (.string b) ∧ w'.cell? ⟨w.heap.size, 2, none⟩ = some (.bool true) ∧ w'.cell? ⟨w.heap.size, 3, none⟩ = some (.bool q))
      (first | exact hk4 | exact hk3 | exact hk2 | exact hblk.out)
      (first
        | (go_at_call 18; refine (ask_pre _ _ _ _).mono ?_; rintro e w2 ⟨rfl, hb2⟩; have hb2 := below_undrew hb2; have hk2 := four_of hb2 (by omega) hblk.out; have hb02 := hb0.trans (hb2.mono hsW))
        | (go_at_call 19; refine (HG.out w2 ((hS.below hb02).more hb02.size)).mono ?_; rintro e w3 ⟨rfl, hb3⟩; have hk3 := four_of hb3 (by have := hb2.size; omega) hk2; have hb03 := hb02.trans (hb3.mono hb02.size))
        | (go_at_call 24; refine (HasPrefix_any _ _ _).mono ?_; rintro e w4 ⟨rfl, hb4⟩; have hk4 := four_of hb4 (by have := hb2.size; have := hb3.size; omega) hk3; have hb04 := hb03.trans (hb4.mono hb03.size)))
    go_wp2
    go_ret
    exact ⟨rfl, hb04⟩
end Go.Proofs.YtpmjbpmdmbankaaDoor
