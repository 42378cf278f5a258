/-
  The document's One; Check, All, Exact: the program's and the document's.
-/
import Derived.Test.YtpmjbpmdmbankaaDoorFlBase
namespace Go.Proofs.YtpmjbpmdmbankaaDoor
open Go.RowKit

set_option maxRecDepth 100000 in
set_option maxHeartbeats 1600000 in
theorem RefOne_any (f : Flt) (A : Option Addr) (n c : Nat) (ls : List Lb) (hn : ls.length = n) (w : World) (hS : Sees w w.heap.size A (lv ls)) (hlen : n ≤ 1099511627776) :
    Calls Tryd.prog 11 #[.agg #[.string f.name, .string f.value, .bool f.pre, .bool f.inv], .slice A n c] w (Gives w (.bool (oneB f ls))) := by
  obtain ⟨a, b, p, q⟩ := f
  unfold oneB
  simp only
  have hb0 : Below w.heap.size w (w.alloc (.cells #[.string a, .string b, .bool p, .bool q] 28)) := (Below.refl _ w).alloc (Nat.le_refl _) _
  have hG := RefGet_any A n c ls a hn (w.alloc (.cells #[.string a, .string b, .bool p, .bool q] 28)) ((hS.below hb0).more hb0.size) hlen
  generalize getL ls a = v at hG ⊢
  have HG := Lib.hid hG
  clear hn hG hS
  cases p
  · go_enter Tryd.func11, Tryd.ntmps11
    go_wp2_with fail
    refine HG.out.mono ?_
    rintro e w1 ⟨rfl, rfl⟩
    go_wp2
    go_ret
    exact ⟨rfl, hb0⟩
  · have hX : isB true v b = (decide (b.size ≤ v.size) && ((v.extract 0 b.size).toList == b.toList)) := rfl
    rw [hX]
    clear hX
    by_cases h : b.size ≤ v.size
    · have h' : (b.size : Int) ≤ (v.size : Int) := by omega
      rw [decide_eq_true h, Bool.true_and]
      go_enter Tryd.func11, Tryd.ntmps11
      go_wp2_with fail
      refine HG.out.mono ?_
      rintro e w1 ⟨rfl, rfl⟩
      go_wp2
      go_quiet (fail)
      go_wp2
      go_ret
      exact ⟨rfl, below_d hb0 _⟩
    · have h' : (v.size : Int) < (b.size : Int) := by omega
      have h1 : decide (b.size ≤ v.size) = false := by simpa using h
      have h2 : decide ((b.size : Int) ≤ (v.size : Int)) = false := by rw [decide_eq_false_iff_not]; omega
      rw [h1, Bool.false_and]
      clear h
      go_enter Tryd.func11, Tryd.ntmps11
      go_wp2_with fail
      refine HG.out.mono ?_
      rintro e w1 ⟨rfl, rfl⟩
      go_wp2
      go_quiet (fail)
      go_wp2
      go_ret
      exact ⟨ret_bool (by cases q <;> rfl), below_d hb0 _⟩

def badF (f : Flt) : Bool := !nameB f.name || decide (16 < f.value.size)
/-- Whether filters may be. -/
def checkF (fs : List Flt) : Nat := if 4 < fs.length then 2 else if fs.any badF then 80 else 0
theorem any_at {fs : List Flt} {k : Nat} (h : k < fs.length) : (fs.drop k).any badF = (badF fs[k] || (fs.drop (k + 1)).any badF) := by
  rw [List.drop_eq_getElem_cons h]
  rfl
theorem ret_int {k : IntKind} {a b : Int} (h : a = b) : Ending.returned (.int k a) = .returned (.int k b) := by rw [h]

/-- Texts that are as long as a machine can hold. -/
def FitF (fs : List Flt) : Prop := ∀ f ∈ fs, f.name.size ≤ 9223372036854775807
theorem FitF.at_ {fs : List Flt} (h : FitF fs) {k : Nat} (hk : k < fs.length) : fs[k].name.size ≤ 9223372036854775807 := h _ (List.getElem_mem hk)

set_option maxRecDepth 100000 in
set_option maxHeartbeats 800000 in
theorem Check_any (A : Option Addr) (n c : Nat) (fs : List Flt) (hn : fs.length = n) (hfit : FitF fs) (w : World) (hS : Sees w w.heap.size A (fv fs)) (hlen : n ≤ 1099511627776) :
    Calls Tryd.prog 12 #[.slice A n c] w (Gives w (.int .i64 (checkF fs : Nat))) := by
  obtain ⟨X, hX⟩ : ∃ X, checkF fs = X := ⟨_, rfl⟩
  rw [hX]
  unfold checkF at hX
  rw [hn] at hX
  by_cases h4 : 4 < n
  · rw [if_pos h4] at hX
    have HX := Lib.hid hX
    clear hX hn
    go_enter Tryd.func12, Tryd.ntmps12
    go_wp2
    go_ret
    exact ⟨ret_int (by rw [← HX.out]; rfl), Below.refl _ _⟩
  · rw [if_neg h4] at hX
    obtain ⟨b, hb⟩ : ∃ b, fs.any badF = b := ⟨_, rfl⟩
    rw [hb] at hX
    have HX := Lib.hid hX
    have HB := Lib.hid hb
    have HN := Lib.hid hn
    have HF := Lib.hid hfit
    clear hX hb hn hfit
    go_enter Tryd.func12, Tryd.ntmps12
    go_wp2
    go_loopg [10] n (fun g i wr => ∃ k : Nat, k + g = n ∧ i = .int .i64 k ∧ Hid (b = (fs.drop k).any badF) ∧ Below w.heap.size w wr)
    case atStart => exact ⟨0, by omega, rfl, HB.out.symm, Below.refl _ _⟩
    case round =>
      obtain ⟨k, hk, rfl, heq, hbr⟩ := hrel
      by_cases hlt : k < n
      · obtain ⟨ad, rfl, hadB, hc0, hc1, hc2, hc3⟩ := (hS.below hbr).fl (k := k) (by have := HN.out; omega)
        have hstep := Lib.hid (heq.out.trans (any_at (fs := fs) (k := k) (by have := HN.out; omega)))
        have hfk := HF.out.at_ (k := k) (by have := HN.out; omega)
        generalize fs[k]'(by have := HN.out; omega) = x at hc0 hc1 hc2 hc3 hstep hfk
        have hb0 : Below w.heap.size w (wr.alloc (.cells #[.string x.name, .string x.value, .bool x.pre, .bool x.inv] 28)) := hbr.trans ((Below.refl _ wr).alloc hbr.size _)
        have hN := Name_any x.name (wr.alloc (.cells #[.string x.name, .string x.value, .bool x.pre, .bool x.inv] 28)) hfk
        have hcell : (wr.alloc (.cells #[.string x.name, .string x.value, .bool x.pre, .bool x.inv] 28)).cell? ⟨wr.heap.size, 1, none⟩ = some (.string x.value) := by rw [World.cell?_alloc_at _ _ _ _ rfl]; rfl
        have hz0 : (wr.alloc (.cells #[.string x.name, .string x.value, .bool x.pre, .bool x.inv] 28)).heap.size = wr.heap.size + 1 := by simp
        unfold badF at hstep
        generalize nameB x.name = nb at hN hstep
        have HNm := Lib.hid hN
        have Hc := Lib.hid hcell
        have Hz := Lib.hid hz0
        clear heq hN hcell hz0
        cases nb
        · have HR : Hid (b = true) := by have := hstep.out; rw [Bool.not_false, Bool.true_or, Bool.true_or] at this; exact this
          clear hstep
          go_wp2_with fail
          refine HNm.out.mono ?_
          rintro e w1 ⟨rfl, hb1⟩
          go_wp2
          go_ret
          have hx := HX.out
          rw [HR.out, if_pos rfl] at hx
          exact ⟨ret_int (by rw [← hx]; rfl), hb0.trans (hb1.mono hb0.size)⟩
        · by_cases h16 : x.value.size ≤ 16
          · have hT : Hid (b = (fs.drop (k + 1)).any badF) := by have := hstep.out; rw [Bool.not_true, Bool.false_or, decide_eq_false (by omega), Bool.false_or] at this; exact this
            have h16' : (x.value.size : Int) ≤ 16 := by omega
            clear hstep
            go_wp2_with fail
            refine HNm.out.mono ?_
            rintro e w1 ⟨rfl, hb1⟩
            have hc1' := (hb1.cell (p := ⟨wr.heap.size, 1, none⟩) (by have := Hz.out; simp <;> omega)).trans Hc.out
            go_wp2
            go_roundg (n - (k + 1))
            case measure => omega
            case rel => exact ⟨k + 1, by omega, by go_num, hT, hb0.trans (hb1.mono hb0.size)⟩
          · have HR : Hid (b = true) := by have := hstep.out; rw [Bool.not_true, Bool.false_or, decide_eq_true (by omega), Bool.true_or] at this; exact this
            have h16' : (16 : Int) < (x.value.size : Int) := by omega
            clear hstep h16
            go_wp2_with fail
            refine HNm.out.mono ?_
            rintro e w1 ⟨rfl, hb1⟩
            have hc1' := (hb1.cell (p := ⟨wr.heap.size, 1, none⟩) (by have := Hz.out; simp <;> omega)).trans Hc.out
            go_wp2
            go_ret
            have hx := HX.out
            rw [HR.out, if_pos rfl] at hx
            exact ⟨ret_int (by rw [← hx]; rfl), hb0.trans (hb1.mono hb0.size)⟩
      · have HR : Hid (b = false) := by have := heq.out; rw [List.drop_eq_nil_of_le (by have := HN.out; omega)] at this; exact this
        clear heq
        go_wp2
        go_ret
        have hx := HX.out
        rw [HR.out, if_neg (by simp)] at hx
        exact ⟨ret_int (by rw [← hx]; rfl), hbr⟩

set_option maxRecDepth 100000 in
set_option maxHeartbeats 800000 in
theorem RefCheck_any (A : Option Addr) (n c : Nat) (fs : List Flt) (hn : fs.length = n) (hfit : FitF fs) (w : World) (hS : Sees w w.heap.size A (fv fs)) (hlen : n ≤ 1099511627776) :
    Calls Tryd.prog 13 #[.slice A n c] w fun e w' => e = .returned (.int .i64 (checkF fs : Nat)) ∧ w = w' := by
  obtain ⟨X, hX⟩ : ∃ X, checkF fs = X := ⟨_, rfl⟩
  rw [hX]
  unfold checkF at hX
  rw [hn] at hX
  by_cases h4 : 4 < n
  · rw [if_pos h4] at hX
    have HX := Lib.hid hX
    clear hX hn
    go_enter Tryd.func13, Tryd.ntmps13
    go_wp2
    go_ret
    exact ⟨ret_int (by rw [← HX.out]; rfl), rfl⟩
  · rw [if_neg h4] at hX
    have hnot : ∀ (x : Bool) (w : World), (Op.unary .not (.bool x)).run Tryd.prog w = .ok (.bool (!x)) w := fun _ _ => rfl
    obtain ⟨b, hb⟩ : ∃ b, fs.any badF = b := ⟨_, rfl⟩
    rw [hb] at hX
    have HX := Lib.hid hX
    have HB := Lib.hid hb
    have HN := Lib.hid hn
    have HF := Lib.hid hfit
    clear hX hb hn hfit
    go_enter Tryd.func13, Tryd.ntmps13
    go_wp2
    go_loopg [3] n (fun g i wr => ∃ k : Nat, k + g = n ∧ i = .int .i64 k ∧ Hid (b = (fs.drop k).any badF) ∧ wr = w)
    case atStart => exact ⟨0, by omega, rfl, HB.out.symm, rfl⟩
    case round =>
      obtain ⟨k, hk, rfl, heq, rfl⟩ := hrel
      by_cases hlt : k < n
      · obtain ⟨ad, rfl, hadB, hc0, hc1, hc2, hc3⟩ := hS.fl (k := k) (by have := HN.out; omega)
        have hstep := Lib.hid (heq.out.trans (any_at (fs := fs) (k := k) (by have := HN.out; omega)))
        have hfk := HF.out.at_ (k := k) (by have := HN.out; omega)
        generalize fs[k]'(by have := HN.out; omega) = x at hc0 hc1 hc2 hc3 hstep hfk
        have hN := RefName_any x.name wr hfk
        unfold badF at hstep
        generalize nameB x.name = nb at hN hstep
        have HNm := Lib.hid hN
        clear heq hN
        cases nb
        · have HR : Hid (b = true) := by have := hstep.out; rw [Bool.not_false, Bool.true_or, Bool.true_or] at this; exact this
          clear hstep
          go_wp2_with fail
          refine HNm.out.mono ?_
          rintro e w1 ⟨rfl, rfl⟩
          go_wp2
          go_ret
          have hx := HX.out
          rw [HR.out, if_pos rfl] at hx
          exact ⟨ret_int (by rw [← hx]; rfl), rfl⟩
        · by_cases h16 : x.value.size ≤ 16
          · have hT : Hid (b = (fs.drop (k + 1)).any badF) := by have := hstep.out; rw [Bool.not_true, Bool.false_or, decide_eq_false (by omega), Bool.false_or] at this; exact this
            have h16' : (x.value.size : Int) ≤ 16 := by omega
            clear hstep
            go_wp2_with fail
            refine HNm.out.mono ?_
            rintro e w1 ⟨rfl, rfl⟩
            go_wp2
            go_roundg (n - (k + 1))
            case measure => omega
            case rel => exact ⟨k + 1, by omega, by go_num, hT, rfl⟩
          · have HR : Hid (b = true) := by have := hstep.out; rw [Bool.not_true, Bool.false_or, decide_eq_true (by omega), Bool.true_or] at this; exact this
            have h16' : (16 : Int) < (x.value.size : Int) := by omega
            clear hstep h16
            go_wp2_with fail
            refine HNm.out.mono ?_
            rintro e w1 ⟨rfl, rfl⟩
            go_wp2
            go_ret
            have hx := HX.out
            rw [HR.out, if_pos rfl] at hx
            exact ⟨ret_int (by rw [← hx]; rfl), rfl⟩
      · have HR : Hid (b = false) := by have := heq.out; rw [List.drop_eq_nil_of_le (by have := HN.out; omega)] at this; exact this
        clear heq
        go_wp2
        go_ret
        have hx := HX.out
        rw [HR.out, if_neg (by simp)] at hx
        exact ⟨ret_int (by rw [← hx]; rfl), rfl⟩

def allB (fs : List Flt) (ls : List Lb) : Bool := fs.all fun f => oneB f ls
theorem allB_at {fs : List Flt} {ls : List Lb} {k : Nat} (h : k < fs.length) : allB (fs.drop k) ls = (oneB fs[k] ls && allB (fs.drop (k + 1)) ls) := by
  rw [List.drop_eq_getElem_cons h]
  rfl
theorem allB_end {fs : List Flt} {ls : List Lb} {k : Nat} (h : fs.length ≤ k) : allB (fs.drop k) ls = true := by
  rw [List.drop_eq_nil_of_le h]
  rfl

set_option maxRecDepth 100000 in
set_option maxHeartbeats 800000 in
theorem All_any (A : Option Addr) (n c : Nat) (fs : List Flt) (hn : fs.length = n) (B : Option Addr) (m d : Nat) (ls : List Lb) (hm : ls.length = m) (w : World) (hS : Sees w w.heap.size A (fv fs)) (hT : Sees w w.heap.size B (lv ls)) (hlen : n ≤ 1099511627776) (hlen2 : m ≤ 1099511627776) :
    Calls Tryd.prog 14 #[.slice A n c, .slice B m d] w (Gives w (.bool (allB fs ls))) := by
  have hnot : ∀ (x : Bool) (w : World), (Op.unary .not (.bool x)).run Tryd.prog w = .ok (.bool (!x)) w := fun _ _ => rfl
  obtain ⟨X, hX⟩ : ∃ X, allB fs ls = X := ⟨_, rfl⟩
  rw [hX]
  have HX := Lib.hid hX
  have HN := Lib.hid hn
  have HM := Lib.hid hm
  clear hX hn hm
  go_enter Tryd.func14, Tryd.ntmps14
  go_wp2
  go_step3
  go_wp2
  go_step3
  go_wp2
  go_loopg [5, 10] n (fun g t i wr => ∃ k : Nat, k + g = n ∧ t = .bool true ∧ i = .int .i64 k ∧ Hid (X = allB (fs.drop k) ls) ∧ Below w.heap.size w wr)
  case atStart => exact ⟨0, by omega, rfl, rfl, HX.out.symm, Below.refl _ _⟩
  case round =>
    obtain ⟨k, hk, rfl, rfl, heq, hbr⟩ := hrel
    by_cases hlt : k < n
    · obtain ⟨ad, rfl, hadB, hc0, hc1, hc2, hc3⟩ := (hS.below hbr).fl (k := k) (by have := HN.out; omega)
      have hstep := Lib.hid (heq.out.trans (allB_at (fs := fs) (ls := ls) (k := k) (by have := HN.out; omega)))
      generalize fs[k]'(by have := HN.out; omega) = x at hc0 hc1 hc2 hc3 hstep
      have hb0 : Below w.heap.size w (wr.alloc (.cells #[.string x.name, .string x.value, .bool x.pre, .bool x.inv] 28)) := hbr.trans ((Below.refl _ wr).alloc hbr.size _)
      have hO := One_any x B m d ls HM.out (wr.alloc (.cells #[.string x.name, .string x.value, .bool x.pre, .bool x.inv] 28)) ((hT.below hb0).more hb0.size) hlen2
      generalize oneB x ls = b at hO hstep
      have HO := Lib.hid hO
      clear heq hO
      cases b with
      | true =>
        have hT2 : Hid (X = allB (fs.drop (k + 1)) ls) := by have := hstep.out; rw [Bool.true_and] at this; exact this
        clear hstep
        go_wp2_with fail
        refine HO.out.mono ?_
        rintro e w1 ⟨rfl, hb1⟩
        go_wp2
        go_roundg (n - (k + 1))
        case measure => omega
        case rel => exact ⟨k + 1, by omega, rfl, by go_num, hT2, hb0.trans (hb1.mono hb0.size)⟩
      | false =>
        have HR : Hid (X = false) := by have := hstep.out; rw [Bool.false_and] at this; exact this
        clear hstep
        go_wp2_with fail
        refine HO.out.mono ?_
        rintro e w1 ⟨rfl, hb1⟩
        go_wp2
        rw [Exit.noGoto_ret]
        go_ret
        exact ⟨ret_bool HR.out.symm, hb0.trans (hb1.mono hb0.size)⟩
    · have HR : Hid (X = true) := by have := heq.out; rw [allB_end (by have := HN.out; omega)] at this; exact this
      clear heq
      go_wp2
      rw [Exit.noGoto_ret]
      go_ret
      exact ⟨ret_bool HR.out.symm, hbr⟩
end Go.Proofs.YtpmjbpmdmbankaaDoor
