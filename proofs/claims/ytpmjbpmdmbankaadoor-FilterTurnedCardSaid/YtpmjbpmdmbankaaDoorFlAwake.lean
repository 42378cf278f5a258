/-
  The document's examples of filters: the laws' own first call. Are filters and labels few, and short?
-/
import Derived.Test.YtpmjbpmdmbankaaDoorFlMore2
namespace Go.Proofs.YtpmjbpmdmbankaaDoor
open Go.RowKit

theorem sees_cells (W : World) (b : Nat) (hb : W.heap.size = b) (cs : Array Value) (t : TypeId) (xs : List Value) (h : cs = xs.toArray) : Sees (W.alloc (.cells cs t)) (b + 1) (some ⟨b, 0, none⟩) xs := by
  subst hb
  subst h
  refine ⟨.inr ⟨_, rfl, by simp, fun j u hu => ?_⟩⟩
  rw [Addr.add_lit, World.cell?_alloc_at _ _ _ _ rfl]
  simpa using hu

theorem One_at (a b : ByteArray) (p q : Bool) (A : Option Addr) (n c : Nat) (ls : List Lb) (hn : ls.length = n) (x : Bool) (hx : oneB ⟨a, b, p, q⟩ ls = x) (w : World) (hS : Sees w w.heap.size A (lv ls)) (hlen : n ≤ 1099511627776) :
    Calls Tryd.prog 10 #[.agg #[.string a, .string b, .bool p, .bool q], .slice A n c] w (Gives w (.bool x)) := by
  subst hx
  exact One_any ⟨a, b, p, q⟩ A n c ls hn w hS hlen
theorem All_at (A : Option Addr) (n c : Nat) (fs : List Flt) (hn : fs.length = n) (B : Option Addr) (m d : Nat) (ls : List Lb) (hm : ls.length = m) (x : Bool) (hx : allB fs ls = x) (w : World) (hS : Sees w w.heap.size A (fv fs)) (hT : Sees w w.heap.size B (lv ls)) (hlen : n ≤ 1099511627776) (hlen2 : m ≤ 1099511627776) :
    Calls Tryd.prog 14 #[.slice A n c, .slice B m d] w (Gives w (.bool x)) := by
  subst hx
  exact All_any A n c fs hn B m d ls hm w hS hT hlen hlen2
theorem Exact_at (A : Option Addr) (n c : Nat) (fs : List Flt) (hn : fs.length = n) (x : Int) (hx : exactZ fs = x) (w : World) (hS : Sees w w.heap.size A (fv fs)) (hlen : n ≤ 1099511627776) :
    Calls Tryd.prog 16 #[.slice A n c] w (Gives w (.int .i64 x)) := by
  subst hx
  exact Exact_any A n c fs hn w hS hlen
theorem Check_at (A : Option Addr) (n c : Nat) (fs : List Flt) (hn : fs.length = n) (hfit : FitF fs) (x : Int) (hx : (checkF fs : Int) = x) (w : World) (hS : Sees w w.heap.size A (fv fs)) (hlen : n ≤ 1099511627776) :
    Calls Tryd.prog 12 #[.slice A n c] w (Gives w (.int .i64 x)) := by
  subst hx
  exact Check_any A n c fs hn hfit w hS hlen

/-- Four cells of a block. -/
def Four (w : World) (b : Nat) (v0 v1 v2 v3 : Value) : Prop := w.cell? ⟨b, 0, none⟩ = some v0 ∧ w.cell? ⟨b, 1, none⟩ = some v1 ∧ w.cell? ⟨b, 2, none⟩ = some v2 ∧ w.cell? ⟨b, 3, none⟩ = some v3
theorem Four.below {w w' : World} {B b : Nat} {v0 v1 v2 v3 : Value} (h : Four w b v0 v1 v2 v3) (hb : Below B w w') (hlt : b < B) : Four w' b v0 v1 v2 v3 :=
  ⟨(hb.cell (p := ⟨b, 0, none⟩) hlt).trans h.1, (hb.cell (p := ⟨b, 1, none⟩) hlt).trans h.2.1, (hb.cell (p := ⟨b, 2, none⟩) hlt).trans h.2.2.1, (hb.cell (p := ⟨b, 3, none⟩) hlt).trans h.2.2.2⟩
theorem Four.new (w : World) (b : Nat) (hb : w.heap.size = b) (t : TypeId) (v0 v1 v2 v3 : Value) : Four (w.alloc (.cells #[v0, v1, v2, v3] t)) b v0 v1 v2 v3 := by
  subst hb
  unfold Four
  simp only [World.cell?_alloc_at _ _ _ _ rfl]
  exact ⟨rfl, rfl, rfl, rfl⟩

def sJob : ByteArray := ⟨#[106, 111, 98]⟩
def sX : ByteArray := ⟨#[120]⟩
def sXy : ByteArray := ⟨#[120, 121]⟩
def exA : List Lb := [(⟨#[106, 111, 98]⟩, ⟨#[120]⟩)]
def exB : List Lb := [(⟨#[106, 111, 98]⟩, ⟨#[120, 121]⟩)]
def exF : Flt := ⟨⟨#[106, 111, 98]⟩, ⟨#[120]⟩, false, false⟩
def exP : Flt := ⟨⟨#[106, 111, 98]⟩, ⟨#[120]⟩, true, false⟩
def exN : Flt := ⟨⟨#[106, 111, 98]⟩, ⟨#[]⟩, false, true⟩
theorem ex1 : oneB exF exA = true ∧ oneB exF exB = false ∧ oneB exP exB = true ∧ oneB exN exA = true ∧ oneB exN [] = false := by decide +kernel
theorem ex2 : allB [exF, exP, exN] exA = true ∧ exactZ [exN, exP, exF] = 2 ∧ checkF [⟨⟨#[]⟩, ⟨#[]⟩, false, false⟩] = 80 := by decide +kernel

def exW (w : World) : World := (((((w.alloc (.cells #[.string ⟨#[106, 111, 98]⟩, .string ⟨#[120]⟩] 34)).alloc (.cells #[.string ⟨#[106, 111, 98]⟩, .string ⟨#[120, 121]⟩] 34)).alloc (.cells #[.string ⟨#[106, 111, 98]⟩, .string ⟨#[120]⟩, .bool false, .bool false] 28)).alloc (.cells #[.string ⟨#[106, 111, 98]⟩, .string ⟨#[120]⟩, .bool true, .bool false] 28)).alloc (.cells #[.string ⟨#[106, 111, 98]⟩, .string ⟨#[]⟩, .bool false, .bool true] 28))
theorem exW_facts (w : World) : Sees (exW w) (exW w).heap.size (some ⟨w.heap.size, 0, none⟩) (lv exA) ∧ Sees (exW w) (exW w).heap.size (some ⟨w.heap.size + 1, 0, none⟩) (lv exB) ∧
    Four (exW w) (w.heap.size + 1 + 1) (.string ⟨#[106, 111, 98]⟩) (.string ⟨#[120]⟩) (.bool false) (.bool false) ∧ Four (exW w) (w.heap.size + 1 + 1 + 1) (.string ⟨#[106, 111, 98]⟩) (.string ⟨#[120]⟩) (.bool true) (.bool false) ∧
    Four (exW w) (w.heap.size + 1 + 1 + 1 + 1) (.string ⟨#[106, 111, 98]⟩) (.string ⟨#[]⟩) (.bool false) (.bool true) ∧ Below w.heap.size w (exW w) ∧ (exW w).heap.size = w.heap.size + 5 := by
  unfold exW
  refine ⟨?_, ?_, ?_, ?_, ?_, ?_, by simp⟩
  · exact (((((sees_cells w _ rfl _ _ (lv exA) (by simp [lv, exA])).alloc (by simp) _).alloc (by simp) _).alloc (by simp) _).alloc (by simp) _).more (by simp)
  · exact ((((sees_cells _ (w.heap.size + 1) (by simp) _ _ (lv exB) (by simp [lv, exB])).alloc (by simp) _).alloc (by simp) _).alloc (by simp) _).more (by simp)
  · exact ((Four.new _ (w.heap.size + 1 + 1) (by simp) _ _ _ _ _).below ((Below.refl (w.heap.size + 3) _).alloc (by simp) _) (by omega)).below ((Below.refl (w.heap.size + 3) _).alloc (by simp) _) (by omega)
  · exact (Four.new _ (w.heap.size + 1 + 1 + 1) (by simp) _ _ _ _ _).below ((Below.refl (w.heap.size + 4) _).alloc (by simp) _) (by omega)
  · exact Four.new _ (w.heap.size + 1 + 1 + 1 + 1) (by simp) _ _ _ _ _
  · exact (((((Below.refl _ w).alloc (Nat.le_refl _) _).alloc (by simp) _).alloc (by simp; omega) _).alloc (by simp; omega) _).alloc (by simp; omega) _

set_option maxRecDepth 100000 in
set_option maxHeartbeats 1600000 in
theorem awake_any (w : World) : Calls Tryd.prog 8 #[] w (IsTrue w) := by
  have hnot : ∀ (x : Bool) (w : World), (Op.unary .not (.bool x)).run Tryd.prog w = .ok (.bool (!x)) w := fun _ _ => rfl
  go_enter Tryd.func8, Tryd.ntmps8
  go_wp2_with fail
  change Calls _ _ _ (exW w) _
  obtain ⟨hA, hB, hF, hP, hN, hbW, hz⟩ := exW_facts w
  generalize exW w = W at hA hB hF hP hN hbW hz ⊢
  have r0 := Below.refl W.heap.size W
  refine (One_at _ _ _ _ _ 1 1 exA rfl true ex1.1 _ ((hA.below r0).more r0.size) (by omega)).mono ?_
  rintro e w1 ⟨rfl, hb1⟩
  have r1 : Below W.heap.size W w1 := r0.trans (hb1.mono (by have := r0.size; simp <;> omega))
  obtain ⟨cF10, cF11, cF12, cF13⟩ := hF.below r1 (by omega)
  go_wp2_with fail
  refine (One_at _ _ _ _ _ 1 1 exB rfl false ex1.2.1 _ ((hB.below r1).more r1.size) (by omega)).mono ?_
  rintro e w2 ⟨rfl, hb2⟩
  have r2 : Below W.heap.size W w2 := r1.trans (hb2.mono (by have := r1.size; simp <;> omega))
  obtain ⟨cP20, cP21, cP22, cP23⟩ := hP.below r2 (by omega)
  go_wp2_with fail
  refine (One_at _ _ _ _ _ 1 1 exB rfl true ex1.2.2.1 _ ((hB.below r2).more r2.size) (by omega)).mono ?_
  rintro e w3 ⟨rfl, hb3⟩
  have r3 : Below W.heap.size W w3 := r2.trans (hb3.mono (by have := r2.size; simp <;> omega))
  obtain ⟨cN30, cN31, cN32, cN33⟩ := hN.below r3 (by omega)
  go_wp2_with fail
  refine (One_at _ _ _ _ _ 1 1 exA rfl true ex1.2.2.2.1 _ ((hA.below r3).more r3.size) (by omega)).mono ?_
  rintro e w4 ⟨rfl, hb4⟩
  have r4 : Below W.heap.size W w4 := r3.trans (hb4.mono (by have := r3.size; simp <;> omega))
  obtain ⟨cN40, cN41, cN42, cN43⟩ := hN.below r4 (by omega)
  go_wp2_with fail
  refine (One_at _ _ _ _ none 0 0 [] rfl false ex1.2.2.2.2 _ (Sees.nil _ _ _) (by omega)).mono ?_
  rintro e w5 ⟨rfl, hb5⟩
  have r5 : Below W.heap.size W w5 := r4.trans (hb5.mono (by have := r4.size; simp <;> omega))
  obtain ⟨cF50, cF51, cF52, cF53⟩ := hF.below r5 (by omega)
  obtain ⟨cP50, cP51, cP52, cP53⟩ := hP.below r5 (by omega)
  obtain ⟨cN50, cN51, cN52, cN53⟩ := hN.below r5 (by omega)
  go_wp2_with fail
  refine (All_at _ 3 3 [exF, exP, exN] rfl _ 1 1 exA rfl true ex2.1 _ ((sees_cells w5 _ rfl _ _ (fv [exF, exP, exN]) (by simp [fv, exF, exP, exN])).more (by simp)) (((hA.below r5).alloc r5.size _).more (by have := r5.size; simp; omega)) (by omega) (by omega)).mono ?_
  rintro e w6 ⟨rfl, hb6⟩
  have r6 : Below W.heap.size W w6 := (r5.alloc r5.size _).trans (hb6.mono (by have := r5.size; simp; omega))
  obtain ⟨cF60, cF61, cF62, cF63⟩ := hF.below r6 (by omega)
  obtain ⟨cP60, cP61, cP62, cP63⟩ := hP.below r6 (by omega)
  obtain ⟨cN60, cN61, cN62, cN63⟩ := hN.below r6 (by omega)
  go_wp2_with fail
  refine (Exact_at _ 3 3 [exN, exP, exF] rfl 2 ex2.2.1 _ ((sees_cells w6 _ rfl _ _ (fv [exN, exP, exF]) (by simp [fv, exF, exP, exN])).more (by simp)) (by omega)).mono ?_
  rintro e w7 ⟨rfl, hb7⟩
  have r7 : Below W.heap.size W w7 := (r6.alloc r6.size _).trans (hb7.mono (by have := r6.size; simp; omega))
  go_wp2_with fail
  refine (Check_at _ 1 1 [⟨⟨#[]⟩, ⟨#[]⟩, false, false⟩] rfl (by intro f hf; simp at hf; subst hf; decide) 80 (by rw [ex2.2.2]; rfl) _ ((sees_cells w7 _ rfl _ _ (fv [⟨⟨#[]⟩, ⟨#[]⟩, false, false⟩]) (by simp [fv])).more (by simp)) (by omega)).mono ?_
  rintro e w8 ⟨rfl, hb8⟩
  have r8 : Below W.heap.size W w8 := (r7.alloc r7.size _).trans (hb8.mono (by have := r7.size; simp; omega))
  go_wp2
  go_ret
  exact ⟨rfl, hbW.trans (r8.mono hbW.size)⟩

/-! few -/
def fewF (fs : List Flt) : Bool := fs.all fun f => decide (f.name.size ≤ 50) && decide (f.value.size ≤ 50)
def fewL (ls : List Lb) : Bool := ls.all fun x => decide (x.1.size ≤ 50) && decide (x.2.size ≤ 50)
def fewB (fs : List Flt) (ls : List Lb) : Bool := decide (fs.length ≤ 10) && (decide (ls.length ≤ 10) && (fewF fs && fewL ls))
theorem fewF_at {fs : List Flt} {k : Nat} (h : k < fs.length) : fewF (fs.drop k) = ((decide (fs[k].name.size ≤ 50) && decide (fs[k].value.size ≤ 50)) && fewF (fs.drop (k + 1))) := by
  rw [List.drop_eq_getElem_cons h]
  rfl
theorem fewL_at {fs : List Lb} {k : Nat} (h : k < fs.length) : fewL (fs.drop k) = ((decide (fs[k].1.size ≤ 50) && decide (fs[k].2.size ≤ 50)) && fewL (fs.drop (k + 1))) := by
  rw [List.drop_eq_getElem_cons h]
  rfl
theorem few_yes {fs : List Flt} {ls : List Lb} (h : fewB fs ls = true) : fs.length ≤ 10 ∧ ls.length ≤ 10 ∧ (∀ f ∈ fs, f.name.size ≤ 50 ∧ f.value.size ≤ 50) ∧ (∀ x ∈ ls, x.1.size ≤ 50 ∧ x.2.size ≤ 50) := by
  unfold fewB fewF fewL at h
  simp only [Bool.and_eq_true, decide_eq_true_eq, List.all_eq_true] at h
  exact ⟨h.1, h.2.1, h.2.2.1, h.2.2.2⟩

set_option maxRecDepth 100000 in
set_option maxHeartbeats 800000 in
theorem few_any (A : Option Addr) (n c : Nat) (fs : List Flt) (hn : fs.length = n) (B : Option Addr) (m d : Nat) (ls : List Lb) (hm : ls.length = m) (w : World) (hS : Sees w w.heap.size A (fv fs)) (hT : Sees w w.heap.size B (lv ls)) :
    Calls Tryd.prog 9 #[.slice A n c, .slice B m d] w fun e w' => e = .returned (.bool (fewB fs ls)) ∧ w = w' := by
  obtain ⟨X, hX⟩ : ∃ X, fewB fs ls = X := ⟨_, rfl⟩
  rw [hX]
  unfold fewB at hX
  rw [hn, hm] at hX
  by_cases h1 : n ≤ 10
  · by_cases h2 : m ≤ 10
    · rw [decide_eq_true h1, decide_eq_true h2, Bool.true_and, Bool.true_and] at hX
      have HX := Lib.hid hX
      have HN := Lib.hid hn
      have HM := Lib.hid hm
      have h1' : (n : Int) ≤ 10 := by omega
      have h2' : (m : Int) ≤ 10 := by omega
      clear hX hn hm
      go_enter Tryd.func9, Tryd.ntmps9
      go_wp2
      go_loopg [5] n (fun g i wr => ∃ k : Nat, k + g = n ∧ i = .int .i64 k ∧ Hid (X = (fewF (fs.drop k) && fewL ls)) ∧ wr = w)
      case atStart => exact ⟨0, by omega, rfl, HX.out.symm, rfl⟩
      case round =>
        obtain ⟨k, hk, rfl, heq, rfl⟩ := hrel
        by_cases hlt : k < n
        · obtain ⟨ad, rfl, hadB, hc0, hc1, hc2, hc3⟩ := hS.fl (k := k) (by have := HN.out; omega)
          have hstep := Lib.hid (heq.out.trans (congrArg (· && fewL ls) (fewF_at (fs := fs) (k := k) (by have := HN.out; omega))))
          generalize fs[k]'(by have := HN.out; omega) = x at hc0 hc1 hc2 hc3 hstep
          have HY : (x.name.size ≤ 50 ∧ x.value.size ≤ 50) → Hid (X = (fewF (fs.drop (k + 1)) && fewL ls)) := fun h => by
            have := hstep.out
            simp only [decide_eq_true h.1, decide_eq_true h.2, Bool.true_and] at this
            exact this
          have HO : ¬ (x.name.size ≤ 50 ∧ x.value.size ≤ 50) → Hid (X = false) := fun h => by
            have := hstep.out
            have hz : (decide (x.name.size ≤ 50) && decide (x.value.size ≤ 50)) = false := by
              rw [← Bool.not_eq_true, Bool.and_eq_true, decide_eq_true_eq, decide_eq_true_eq]; exact h
            simp only [hz, Bool.false_and] at this
            exact this
          have HY' := Lib.hid HY
          have HO' := Lib.hid HO
          clear HY HO hstep heq
          go_wp2
          all_goals first
            | (have hF := HO'.out (by omega)
               go_ret
               exact ⟨ret_bool hF.out.symm, rfl⟩)
            | (have hT := HY'.out (by omega)
               go_roundg (n - (k + 1))
               case measure => omega
               case rel => exact ⟨k + 1, by omega, by go_num, hT, rfl⟩)
        · have HE : Hid (X = fewL ls) := by have := heq.out; rw [List.drop_eq_nil_of_le (by have := HN.out; omega)] at this; exact this
          clear heq HX
          go_wp2
          go_loopg [6] m (fun g i wx => ∃ k : Nat, k + g = m ∧ i = .int .i64 k ∧ Hid (X = fewL (ls.drop k)) ∧ wx = wr)
          case atStart => exact ⟨0, by omega, rfl, HE.out, rfl⟩
          case round =>
            obtain ⟨k, hk, rfl, heq, rfl⟩ := hrel
            by_cases hlt : k < m
            · obtain ⟨ad, rfl, hadB, hc0, hc1⟩ := hT.lb (k := k) (by have := HM.out; omega)
              have hstep := Lib.hid (heq.out.trans (fewL_at (fs := ls) (k := k) (by have := HM.out; omega)))
              generalize ls[k]'(by have := HM.out; omega) = x at hc0 hc1 hstep
              have HY : (x.1.size ≤ 50 ∧ x.2.size ≤ 50) → Hid (X = fewL (ls.drop (k + 1))) := fun h => by
                have := hstep.out
                simp only [decide_eq_true h.1, decide_eq_true h.2, Bool.true_and] at this
                exact this
              have HO : ¬ (x.1.size ≤ 50 ∧ x.2.size ≤ 50) → Hid (X = false) := fun h => by
                have := hstep.out
                have hz : (decide (x.1.size ≤ 50) && decide (x.2.size ≤ 50)) = false := by
                  rw [← Bool.not_eq_true, Bool.and_eq_true, decide_eq_true_eq, decide_eq_true_eq]; exact h
                simp only [hz, Bool.false_and] at this
                exact this
              have HY' := Lib.hid HY
              have HO' := Lib.hid HO
              clear HY HO hstep heq
              go_wp2
              all_goals first
                | (have hF := HO'.out (by omega)
                   go_ret
                   exact ⟨ret_bool hF.out.symm, rfl⟩)
                | (have hT := HY'.out (by omega)
                   go_roundg (m - (k + 1))
                   case measure => omega
                   case rel => exact ⟨k + 1, by omega, by go_num, hT, rfl⟩)
            · have HF : Hid (X = true) := by have := heq.out; rw [List.drop_eq_nil_of_le (by have := HM.out; omega)] at this; exact this
              clear heq
              go_wp2
              go_ret
              exact ⟨ret_bool HF.out.symm, rfl⟩
    · rw [decide_eq_false h2, Bool.false_and, Bool.and_false] at hX
      have h2' : (10 : Int) < (m : Int) := by omega
      have h1' : (n : Int) ≤ 10 := by omega
      have HX := Lib.hid hX
      clear hX hn hm h2
      go_enter Tryd.func9, Tryd.ntmps9
      go_wp2
      go_ret
      exact ⟨ret_bool HX.out, rfl⟩
  · rw [decide_eq_false h1, Bool.false_and] at hX
    have h1' : (10 : Int) < (n : Int) := by omega
    have HX := Lib.hid hX
    clear hX hn hm h1
    go_enter Tryd.func9, Tryd.ntmps9
    go_wp2
    go_ret
    exact ⟨ret_bool HX.out, rfl⟩
end Go.Proofs.YtpmjbpmdmbankaaDoor
