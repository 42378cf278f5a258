/-
  Labels as the walks see them: rows of pairs of texts.
-/
import Derived.Test.YtbgnmojdkhlbaaaDoorCore
namespace Go.Proofs.YtbgnmojdkhlbaaaDoor
open Go.RowKit

abbrev Lb := ByteArray × ByteArray
/-- The cells of a row of labels. -/
def lv (ls : List Lb) : List Value := ls.flatMap fun x => [.string x.1, .string x.2]
theorem lv_length (ls : List Lb) : (lv ls).length = 2 * ls.length := by
  induction ls with
  | nil => rfl
  | cons x t ih => simp only [lv, List.flatMap_cons, List.length_append, List.length_cons, List.length_nil] at *; omega
theorem lv_drop (ls : List Lb) (k : Nat) : lv (ls.drop k) = (lv ls).drop (2 * k) := by
  induction ls generalizing k with
  | nil => simp [lv]
  | cons x t ih =>
    cases k with
    | zero => rfl
    | succ k => rw [List.drop_succ_cons, ih k, show 2 * (k + 1) = 2 * k + 1 + 1 from by omega]; rfl
theorem lv_at (ls : List Lb) (k : Nat) (h : k < ls.length) : (lv ls)[2 * k]? = some (.string ls[k].1) ∧ (lv ls)[2 * k + 1]? = some (.string ls[k].2) := by
  induction ls generalizing k with
  | nil => simp at h
  | cons x t ih =>
    cases k with
    | zero => exact ⟨rfl, rfl⟩
    | succ k =>
      have := ih k (by simpa using h)
      rw [show 2 * (k + 1) = 2 * k + 1 + 1 from by omega]
      exact this
theorem add_field (a : Addr) (m j : Nat) (hj : 0 < j) : a.add (m + j) = ⟨(a.add m).block, (a.add m).off + j, none⟩ := by
  unfold Addr.add
  by_cases hm : m = 0
  · subst hm
    rw [if_neg (by omega), if_pos rfl]
    simp
  · rw [if_neg (by omega), if_neg hm]
    simp [Nat.add_assoc]
/-- A row of labels that is seen: the cells of one of them. -/
theorem Sees.lb {w : World} {B : Nat} {A : Option Addr} {ls : List Lb} (h : Sees w B A (lv ls)) {k : Nat} (hk : k < ls.length) : ∃ ad, A = some ad ∧ ad.block < B ∧ w.cell? (ad.add (k * 2)) = some (.string ls[k].1) ∧ w.cell? ⟨(ad.add (k * 2)).block, (ad.add (k * 2)).off + 1, none⟩ = some (.string ls[k].2) := by
  rcases h.out with h | ⟨ad, e, hb, hc⟩
  · have := lv_length ls
    rw [h] at this
    simp at this
    omega
  · obtain ⟨h1, h2⟩ := lv_at ls k hk
    exact ⟨ad, e, hb, by rw [Nat.mul_comm]; exact hc _ _ h1, by rw [← add_field ad _ 1 (by omega), Nat.mul_comm]; exact hc _ _ h2⟩

/-- What a label is, in plain lists. -/
def getL : List Lb → ByteArray → ByteArray
  | x :: t, n => if x.1.toList == n.toList then x.2 else getL t n
  | [], _ => ⟨#[]⟩
theorem getL_at {ls : List Lb} {n : ByteArray} {k : Nat} (h : k < ls.length) : getL (ls.drop k) n = if ls[k].1.toList == n.toList then ls[k].2 else getL (ls.drop (k + 1)) n := by
  rw [List.drop_eq_getElem_cons h]
  rfl
theorem getL_end {ls : List Lb} {n : ByteArray} {k : Nat} (h : ls.length ≤ k) : getL (ls.drop k) n = ⟨#[]⟩ := by
  rw [List.drop_eq_nil_of_le h]
  rfl

theorem ret_str {a b : ByteArray} (h : a = b) : Ending.returned (.string a) = .returned (.string b) := by rw [h]

set_option maxRecDepth 100000 in
set_option maxHeartbeats 400000 in
theorem RefGet_any (A : Option Addr) (n c : Nat) (ls : List Lb) (s : ByteArray) (hn : ls.length = n) (w : World) (hS : Sees w w.heap.size A (lv ls)) (hlen : n ≤ 1099511627776) :
    Calls Tryd.prog 15 #[.slice A n c, .string s] w fun e w' => e = .returned (.string (getL ls s)) ∧ w = w' := by
  obtain ⟨X, hX⟩ : ∃ X, getL ls s = X := ⟨_, rfl⟩
  rw [hX]
  have HX := Lib.hid hX
  have HN := Lib.hid hn
  clear hn hX
  go_enter Tryd.func15, Tryd.ntmps15
  go_wp2
  go_loopg [5] n (fun g i wr => ∃ k : Nat, k + g = n ∧ i = .int .i64 k ∧ Hid (X = getL (ls.drop k) s) ∧ wr = w)
  case atStart => exact ⟨0, by omega, rfl, HX.out.symm, rfl⟩
  case round =>
    obtain ⟨k, hk, rfl, heq, rfl⟩ := hrel
    by_cases hlt : k < n
    · obtain ⟨ad, rfl, hadB, hc0, hc1⟩ := hS.lb (k := k) (by have := HN.out; omega)
      have hstep := Lib.hid (heq.out.trans (getL_at (ls := ls) (n := s) (k := k) (by have := HN.out; omega)))
      generalize ls[k]'(by have := HN.out; omega) = x at hc0 hc1 hstep
      clear heq
      obtain ⟨b, hb⟩ : ∃ b, (x.1.toList == s.toList) = b := ⟨_, rfl⟩
      rw [hb] at hstep
      cases b with
      | true =>
        have HF : Hid (X = x.2) := by have := hstep.out; rw [if_pos rfl] at this; exact this
        clear hstep
        go_wp2
        go_ret
        rw [HF.out]
        exact ⟨rfl, rfl⟩
      | false =>
        have hT : Hid (X = getL (ls.drop (k + 1)) s) := by have := hstep.out; rw [if_neg (by simp)] at this; exact this
        clear hstep
        go_wp2
        go_roundg (n - (k + 1))
        case measure => omega
        case rel => exact ⟨k + 1, by omega, by go_num, hT, rfl⟩
    · have HF : Hid (X = ⟨#[]⟩) := by have := heq.out; rw [getL_end (by have := HN.out; omega)] at this; exact this
      clear heq
      go_wp2
      go_ret
      rw [HF.out]
      exact ⟨rfl, rfl⟩

/-- The first place at which a name stands; none: what is at the end. -/
def idxL : List Lb → ByteArray → Nat
  | x :: t, n => if x.1.toList == n.toList then 0 else idxL t n + 1
  | [], _ => 0

set_option maxRecDepth 100000 in
set_option maxHeartbeats 400000 in
theorem getFn_any (p : Addr) (x : Lb) (s : ByteArray) (w : World) (hp : w.cell? p = some (.string s)) :
    Calls Tryd.prog 34 #[.agg #[.string x.1, .string x.2], .pointer (some p)] w (Gives w (.bool (x.1.toList == s.toList))) := by
  have hb := World.block_lt_of_cell? w _ hp
  go_enter Tryd.func34, Tryd.ntmps34
  go_wp2
  go_ret
  exact ⟨rfl, (Below.refl _ w).alloc (Nat.le_refl _) _⟩

theorem idxL_at {ls : List Lb} {n : ByteArray} {k : Nat} (h : k < ls.length) : idxL (ls.drop k) n = if ls[k].1.toList == n.toList then 0 else idxL (ls.drop (k + 1)) n + 1 := by
  rw [List.drop_eq_getElem_cons h]
  rfl
theorem idxL_end {ls : List Lb} {n : ByteArray} {k : Nat} (h : ls.length ≤ k) : idxL (ls.drop k) n = 0 := by
  rw [List.drop_eq_nil_of_le h]
  rfl
theorem idxL_get : ∀ (ls : List Lb) (n : ByteArray), (∀ h : idxL ls n < ls.length, getL ls n = ls[idxL ls n].2) ∧ (ls.length ≤ idxL ls n → getL ls n = ⟨#[]⟩)
  | [], n => ⟨fun h => absurd h (by simp [idxL]), fun _ => rfl⟩
  | x :: t, n => by
    have ih := idxL_get t n
    by_cases hb : (x.1.toList == n.toList) = true
    · have e : idxL (x :: t) n = 0 := by simp only [idxL]; rw [if_pos hb]
      have e2 : getL (x :: t) n = x.2 := by simp only [getL]; rw [if_pos hb]
      refine ⟨fun h => ?_, fun h => ?_⟩
      · simp only [e, e2, List.getElem_cons_zero]
      · rw [e] at h; simp at h
    · have e : idxL (x :: t) n = idxL t n + 1 := by simp only [idxL]; rw [if_neg hb]
      have e2 : getL (x :: t) n = getL t n := by simp only [getL]; rw [if_neg hb]
      refine ⟨fun h => ?_, fun h => ?_⟩
      · simp only [e, e2, List.getElem_cons_succ]
        exact ih.1 (by rw [e] at h; simpa using h)
      · rw [e2]; exact ih.2 (by rw [e] at h; simpa using h)
theorem idxL_le : ∀ (ls : List Lb) (n : ByteArray), idxL ls n ≤ ls.length
  | [], n => by simp [idxL]
  | x :: t, n => by have := idxL_le t n; simp only [idxL, List.length_cons]; split <;> omega

/-- The place of a name, -1: none. -/
def idxZ (ls : List Lb) (n : ByteArray) : Int := if idxL ls n < ls.length then (idxL ls n : Int) else -1

set_option maxRecDepth 100000 in
set_option maxHeartbeats 400000 in
theorem IndexFunc_any (A : Option Addr) (n c : Nat) (ls : List Lb) (s : ByteArray) (p : Addr) (hn : ls.length = n) (w : World) (hS : Sees w w.heap.size A (lv ls)) (hp : w.cell? p = some (.string s)) (hlen : n ≤ 1099511627776) :
    Calls Tryd.prog 33 #[.slice A n c, .func (.func 34) #[] #[.pointer (some p)]] w (Gives w (.int .i64 (idxZ ls s))) := by
  have hpb := World.block_lt_of_cell? w _ hp
  have hle := idxL_le ls s
  obtain ⟨Z, hZ⟩ : ∃ Z, idxZ ls s = Z := ⟨_, rfl⟩
  rw [hZ]
  unfold idxZ at hZ
  obtain ⟨X, hX⟩ : ∃ X, idxL ls s = X := ⟨_, rfl⟩
  rw [hX, hn] at hZ
  rw [hX, hn] at hle
  have HZ := Lib.hid hZ
  have HX := Lib.hid hX
  have HN := Lib.hid hn
  clear hn hX hZ
  go_enter Tryd.func33, Tryd.ntmps33
  go_wp2
  go_loopg [8] n (fun g i wr => ∃ k : Nat, k + g = n ∧ i = .int .i64 k ∧ Hid (X = k + idxL (ls.drop k) s) ∧ Below w.heap.size w wr)
  case atStart => exact ⟨0, by omega, rfl, by unfold Hid; rw [← HX.out]; simp, Below.refl _ _⟩
  case round =>
    obtain ⟨k, hk, rfl, heq, hbr⟩ := hrel
    by_cases hlt : k < n
    · obtain ⟨ad, rfl, hadB, hc0, hc1⟩ := (hS.below hbr).lb (k := k) (by have := HN.out; omega)
      have hstep := Lib.hid (heq.out.trans (congrArg (k + ·) (idxL_at (ls := ls) (n := s) (k := k) (by have := HN.out; omega))))
      generalize ls[k]'(by have := HN.out; omega) = x at hc0 hc1 hstep
      have hC := Lib.hid (getFn_any p x s wr ((hbr.cell hpb).trans hp))
      clear heq
      obtain ⟨b, hb⟩ : ∃ b, (x.1.toList == s.toList) = b := ⟨_, rfl⟩
      rw [hb] at hstep hC
      cases b with
      | true =>
        have HF : Hid (X = k) := by have := hstep.out; rw [if_pos rfl] at this; exact this
        clear hstep
        go_wp2_with fail
        refine hC.out.mono ?_
        rintro e w1 ⟨rfl, hb1⟩
        go_wp2
        go_ret
        have hz := HZ.out
        rw [HF.out, if_pos hlt] at hz
        rw [← hz]
        exact ⟨rfl, hbr.trans (hb1.mono hbr.size)⟩
      | false =>
        have hT : Hid (X = (k + 1) + idxL (ls.drop (k + 1)) s) := by have := hstep.out; rw [if_neg (by simp)] at this; unfold Hid; omega
        clear hstep
        go_wp2_with fail
        refine hC.out.mono ?_
        rintro e w1 ⟨rfl, hb1⟩
        go_wp2
        go_roundg (n - (k + 1))
        case measure => omega
        case rel => exact ⟨k + 1, by omega, by go_num, hT, hbr.trans (hb1.mono hbr.size)⟩
    · have HF : Hid (X = n) := by have := heq.out; rw [idxL_end (by have := HN.out; omega)] at this; unfold Hid; omega
      clear heq
      go_wp2
      go_ret
      have hz := HZ.out
      rw [HF.out, if_neg (by omega)] at hz
      rw [← hz]
      exact ⟨rfl, hbr⟩

set_option maxRecDepth 100000 in
set_option maxHeartbeats 400000 in
theorem Get_any (A : Option Addr) (n c : Nat) (ls : List Lb) (s : ByteArray) (hn : ls.length = n) (w : World) (hS : Sees w w.heap.size A (lv ls)) (hlen : n ≤ 1099511627776) :
    Calls Tryd.prog 14 #[.slice A n c, .string s] w (Gives w (.string (getL ls s))) := by
  have hb0 : Below w.heap.size w (w.alloc (.cells #[.string s] 9)) := (Below.refl _ w).alloc (Nat.le_refl _) _
  have hI := IndexFunc_any A n c ls s ⟨w.heap.size, 0, none⟩ hn (w.alloc (.cells #[.string s] 9)) ((hS.below hb0).more hb0.size) (by rw [World.cell?_alloc_at _ _ _ _ rfl]; rfl) hlen
  have hle := idxL_le ls s
  have hg := idxL_get ls s
  unfold idxZ at hI
  by_cases hx : idxL ls s < ls.length
  · rw [if_pos hx] at hI
    have hG' : ∀ X, idxL ls s = X → ∀ h : X < ls.length, getL ls s = ls[X].2 := by rintro X rfl h; exact hg.1 h
    obtain ⟨X, hX⟩ : ∃ X, idxL ls s = X := ⟨_, rfl⟩
    rw [hX] at hI hx
    have hG := hG' X hX hx
    clear hG' hX
    generalize getL ls s = G at hG ⊢
    have HG := Lib.hid hG
    have HI := Lib.hid hI
    have hxn : X < n := by omega
    have HX := Lib.hid hx
    have HN := Lib.hid hn
    clear hn hg hle hG hI
    go_enter Tryd.func14, Tryd.ntmps14
    go_wp2_with fail
    refine HI.out.mono ?_
    rintro e w1 ⟨rfl, hb1⟩
    have hb01 := hb0.trans (hb1.mono hb0.size)
    obtain ⟨ad, rfl, hadB, hc0, hc1⟩ := (hS.below hb01).lb (k := X) HX.out
    go_wp2
    go_ret
    rw [HG.out]
    exact ⟨rfl, hb01⟩
  · rw [if_neg hx] at hI
    have hG := hg.2 (by omega)
    rw [hG]
    have HI := Lib.hid hI
    clear hn hg hle hG hI hx
    go_enter Tryd.func14, Tryd.ntmps14
    go_wp2_with fail
    refine HI.out.mono ?_
    rintro e w1 ⟨rfl, hb1⟩
    go_wp2
    go_ret
    exact ⟨rfl, hb0.trans (hb1.mono hb0.size)⟩
end Go.Proofs.YtbgnmojdkhlbaaaDoor
