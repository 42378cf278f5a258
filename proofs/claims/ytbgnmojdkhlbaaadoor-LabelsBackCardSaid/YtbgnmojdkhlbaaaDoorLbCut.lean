/-
  A text cut off bytes: the program's walks, and the document's.
-/
import Derived.Test.YtbgnmojdkhlbaaaDoorLbText
namespace Go.Proofs.YtbgnmojdkhlbaaaDoor
open Go.RowKit

/-- A text off bytes: its bytes, how many bytes it took, the error. -/
def cutF : List UInt8 → List UInt8 → Nat → List UInt8 × Nat × Nat
  | [], _, _ => ([], 0, 10)
  | [c], acc, i => if c.toNat = 1 then (acc, i + 1, 0) else if c.toNat = 0 then ([], 0, 11) else ([], 0, 10)
  | c :: d :: r, acc, i =>
    if c.toNat = 1 then (acc, i + 1, 0) else if c.toNat = 0 then ([], 0, 11)
    else if c.toNat = 2 then (if d.toNat < 3 ∨ 5 < d.toNat then ([], 0, 11) else cutF r (acc ++ [UInt8.ofNat (d.toNat - 3)]) (i + 2))
    else cutF (d :: r) (acc ++ [c]) (i + 1)
theorem cut_end {b : List UInt8} {k : Nat} (acc : List UInt8) (h : b.length ≤ k) : cutF (b.drop k) acc k = ([], 0, 10) := by
  rw [List.drop_eq_nil_of_le h]
  rfl
theorem cut_stop {b : List UInt8} {k : Nat} (acc : List UInt8) (h : k < b.length) (hc : b[k].toNat = 1) : cutF (b.drop k) acc k = (acc, k + 1, 0) := by
  rw [List.drop_eq_getElem_cons h]
  cases b.drop (k + 1) <;> simp only [cutF] <;> rw [if_pos hc]
theorem cut_none {b : List UInt8} {k : Nat} (acc : List UInt8) (h : k < b.length) (hc : b[k].toNat = 0) : cutF (b.drop k) acc k = ([], 0, 11) := by
  rw [List.drop_eq_getElem_cons h]
  cases b.drop (k + 1) <;> simp only [cutF] <;> rw [if_neg (by omega), if_pos hc]
theorem cut_short {b : List UInt8} {k : Nat} (acc : List UInt8) (h : k < b.length) (hc : b[k].toNat = 2) (h2 : b.length ≤ k + 1) : cutF (b.drop k) acc k = ([], 0, 10) := by
  rw [List.drop_eq_getElem_cons h, List.drop_eq_nil_of_le h2]
  simp only [cutF]
  rw [if_neg (by omega), if_neg (by omega)]
theorem cut_bad {b : List UInt8} {k : Nat} (acc : List UInt8) (h : k < b.length) (hc : b[k].toNat = 2) (h2 : k + 1 < b.length) (hd : b[k + 1].toNat < 3 ∨ 5 < b[k + 1].toNat) : cutF (b.drop k) acc k = ([], 0, 11) := by
  rw [List.drop_eq_getElem_cons h, List.drop_eq_getElem_cons h2]
  simp only [cutF]
  rw [if_neg (by omega), if_neg (by omega), if_pos hc, if_pos hd]
theorem cut_mark {b : List UInt8} {k : Nat} (acc : List UInt8) (h : k < b.length) (hc : b[k].toNat = 2) (h2 : k + 1 < b.length) (hd : ¬ (b[k + 1].toNat < 3 ∨ 5 < b[k + 1].toNat)) :
    cutF (b.drop k) acc k = cutF (b.drop (k + 2)) (acc ++ [UInt8.ofNat (b[k + 1].toNat - 3)]) (k + 2) := by
  rw [List.drop_eq_getElem_cons h, List.drop_eq_getElem_cons h2]
  simp only [cutF]
  rw [if_neg (by omega), if_neg (by omega), if_pos hc, if_neg hd]
theorem cut_byte {b : List UInt8} {k : Nat} (acc : List UInt8) (h : k < b.length) (hc : 3 ≤ b[k].toNat) :
    cutF (b.drop k) acc k = cutF (b.drop (k + 1)) (acc ++ [b[k]]) (k + 1) := by
  rw [List.drop_eq_getElem_cons h]
  cases b.drop (k + 1) with
  | nil => simp only [cutF]; rw [if_neg (by omega), if_neg (by omega)]
  | cons d r => simp only [cutF]; rw [if_neg (by omega), if_neg (by omega), if_neg (by omega)]
def cutR (b : List UInt8) : List UInt8 × Nat × Nat := cutF b [] 0

theorem bv_get' (l : List UInt8) (k : Nat) (h : k < l.length) : (bv l)[k]'(by rw [bv_length]; exact h) = .int .u8 ((l[k]).toNat : Int) := by simp [bv]

theorem add_succ' (a : Addr) (k : Nat) : a.add (k + 1) = ⟨a.block, a.off + (k + 1), none⟩ := by unfold Addr.add; rw [if_neg (by omega)]

/-- Three results that hold no memory. -/
def CutIs (w : World) (r : List UInt8 × Nat × Nat) (e : Ending) (w' : World) : Prop := e = .returned (.tuple #[.string (strOf r.1), .int .i64 (r.2.1 : Nat), .int .i64 (r.2.2 : Nat)]) ∧ Below w.heap.size w w'
theorem cut_out {w w' : World} {r : List UInt8 × Nat × Nat} {t : List UInt8} {n e : Nat} (h : r = (t, n, e)) (hb : Below w.heap.size w w') {x : Value} {y z : Int} (hx : x = .string (strOf t)) (hy : y = (n : Int)) (hz : z = (e : Int)) :
    CutIs w r (.returned (.tuple #[x, .int .i64 y, .int .i64 z])) w' := by
  subst h
  subst hx
  subst hy
  subst hz
  exact ⟨rfl, hb⟩

set_option maxRecDepth 100000 in
set_option maxHeartbeats 1600000 in
theorem cut_any (A : Option Addr) (n c : Nat) (b : List UInt8) (hn : b.length = n) (w : World) (hS : Sees w w.heap.size A (bv b)) (hlen : n ≤ 1099511627776) :
    Calls Tryd.prog 41 #[.slice A n c] w (CutIs w (cutR b)) := by
  have HN := Lib.hid hn
  obtain ⟨R, hR⟩ : ∃ R, cutR b = R := ⟨_, rfl⟩
  rw [hR]
  have HR := Lib.hid hR
  clear hn hR
  go_enter Tryd.func41, Tryd.ntmps41
  go_wp2
  go_loopg [5, 6] n (fun g o i wr => ∃ (k : Nat) (X : List UInt8), k + g = n ∧ i = .int .i64 k ∧ OwnB wr w.heap.size o X ∧ X.length ≤ k ∧ Hid (R = cutF (b.drop k) X k) ∧ Below w.heap.size w wr)
  case atStart => exact ⟨0, [], by omega, rfl, OwnB.nil _ _, by simp, HR.out.symm, Below.refl _ _⟩
  case round =>
    obtain ⟨k, X, hk, rfl, hX, hXl, heq, hbr⟩ := hrel
    have hsr := hbr.size
    by_cases hlt : k < n
    · have hkl : k < b.length := by have := HN.out; omega
      obtain ⟨ad, rfl, hadB, hcell⟩ := (hS.below hbr).at_ (k := k) (by rw [bv_length]; exact hkl)
      rw [bv_get' b k hkl] at hcell
      by_cases h1 : b[k].toNat = 1
      · have hF := Lib.hid (heq.out.trans (cut_stop X hkl h1))
        have e1 : ((b[k].toNat : Int) == 1) = true := by rw [beq_iff_eq]; omega
        generalize b[k] = x at hcell e1
        obtain ⟨Ax, cx, rfl, hcx, -, -, hsX⟩ := hX.open_
        have cv := run_str wr _ Ax X.length cx X hsX rfl
        clear heq h1
        go_wp2
        go_ret3
        exact cut_out hF.out hbr rfl (by omega) rfl
      · by_cases h0 : b[k].toNat = 0
        · have hF := Lib.hid (heq.out.trans (cut_none X hkl h0))
          have e1 : ((b[k].toNat : Int) == 1) = false := by rw [beq_eq_false_iff_ne]; omega
          have e0 : ((b[k].toNat : Int) == 0) = true := by rw [beq_iff_eq]; omega
          generalize b[k] = x at hcell e1 e0
          clear heq h1 h0
          go_wp2
          go_ret3
          exact cut_out hF.out hbr rfl rfl rfl
        · have e1 : ((b[k].toNat : Int) == 1) = false := by rw [beq_eq_false_iff_ne]; omega
          have e0 : ((b[k].toNat : Int) == 0) = false := by rw [beq_eq_false_iff_ne]; omega
          by_cases h2 : b[k].toNat = 2
          · have e2 : ((b[k].toNat : Int) == 2) = true := by rw [beq_iff_eq]; omega
            by_cases hend : k + 1 < n
            · have hkl2 : k + 1 < b.length := by have := HN.out; omega
              have ee : ((k : Int) + 1 == (n : Int)) = false := by rw [beq_eq_false_iff_ne]; omega
              obtain ⟨ad2, hA, -, hcell2⟩ := (hS.below hbr).at_ (k := k + 1) (by rw [bv_length]; exact hkl2)
              injection hA with hA
              subst hA
              rw [bv_get' b (k + 1) hkl2, add_succ'] at hcell2
              by_cases hd : b[k + 1].toNat < 3 ∨ 5 < b[k + 1].toNat
              · have hF := Lib.hid (heq.out.trans (cut_bad X hkl h2 hkl2 hd))
                generalize b[k] = x at hcell e1 e0 e2
                generalize b[k + 1] = y at hcell2 hd
                clear heq h1 h0 h2
                by_cases hd3 : y.toNat < 3
                · have d1 : (y.toNat : Int) < 3 := by omega
                  clear hd
                  go_wp2
                  go_ret3
                  exact cut_out hF.out hbr rfl rfl rfl
                · have d1 : (3 : Int) ≤ (y.toNat : Int) := by omega
                  have d2 : (5 : Int) < (y.toNat : Int) := by omega
                  clear hd hd3
                  go_wp2
                  go_ret3
                  exact cut_out hF.out hbr rfl rfl rfl
              · have hT := Lib.hid (heq.out.trans (cut_mark X hkl h2 hkl2 hd))
                generalize b[k] = x at hcell e1 e0 e2
                have d1 : (3 : Int) ≤ (b[k + 1].toNat : Int) := by omega
                have d2 : (b[k + 1].toNat : Int) ≤ 5 := by omega
                have hsub : IntKind.u8.wrap ((b[k + 1].toNat : Int) - 3) = (b[k + 1].toNat : Int) - 3 := by rw [IntKind.wrap_u8]; omega
                have hnew : Hid ((b[k + 1].toNat : Int) - 3 = ((UInt8.ofNat (b[k + 1].toNat - 3)).toNat : Int)) := by unfold Hid; rw [u8_nat _ (by omega)]; omega
                generalize b[k + 1] = y at hcell2 d1 d2 hT hsub hnew
                clear heq h1 h0 h2 hd
                go_wp2_with (at_builtin; refine wpList_append_b rfl (.tmp 52) (.tmp 58) rfl w.heap.size u5 X (by rfl) (hX.alloc _) (wr.heap.size + 1) _ 1 _ [UInt8.ofNat (y.toNat - 3)] (by rfl) rfl (sees_new _ _ _ _ (by simp only [bv, List.map_cons, List.map_nil]; rw [← hnew.out])) (by simp; omega) (by simp; omega) ?_; intro v1 w1 hown1 hon1)
                go_roundg (n - (k + 2))
                case measure => omega
                case rel => exact ⟨k + 2, X ++ [UInt8.ofNat (y.toNat - 3)], by omega, by go_num, hown1, by simp; omega, hT, hbr.trans (((Below.refl _ _).alloc hsr _).trans (hon1.below (by simp; omega) hX.block))⟩
            · have hF := Lib.hid (heq.out.trans (cut_short X hkl h2 (by have := HN.out; omega)))
              have ee : ((k : Int) + 1 == (n : Int)) = true := by rw [beq_iff_eq]; omega
              generalize b[k] = x at hcell e1 e0 e2
              clear heq h1 h0 h2 hend
              go_wp2
              go_ret3
              exact cut_out hF.out hbr rfl rfl rfl
          · have hT := Lib.hid (heq.out.trans (cut_byte X hkl (by omega)))
            have e2 : ((b[k].toNat : Int) == 2) = false := by rw [beq_eq_false_iff_ne]; omega
            generalize b[k] = x at hcell e1 e0 e2 hT
            clear heq h1 h0 h2
            go_wp2_with (at_builtin; refine wpList_append_b rfl (.tmp 17) (.tmp 22) rfl w.heap.size u5 X (by rfl) (hX.alloc _) (wr.heap.size + 1) _ 1 _ [x] (by rfl) rfl (sees_new _ _ _ _ (by simp [bv])) (by simp; omega) (by simp; omega) ?_; intro v1 w1 hown1 hon1)
            go_roundg (n - (k + 1))
            case measure => omega
            case rel => exact ⟨k + 1, X ++ [x], by omega, by go_num, hown1, by simp; omega, hT, hbr.trans (((Below.refl _ _).alloc hsr _).trans (hon1.below (by simp; omega) hX.block))⟩
    · have hF := Lib.hid (heq.out.trans (cut_end X (by have := HN.out; omega)))
      clear heq
      go_wp2
      go_ret3
      exact cut_out hF.out hbr rfl rfl rfl

set_option maxRecDepth 100000 in
set_option maxHeartbeats 400000 in
theorem bytesClone_any (A : Option Addr) (n c : Nat) (l : List UInt8) (hn : l.length = n) (w : World) (h : Sees w w.heap.size A (bv l)) (hlen : l.length ≤ 1099511627776) :
    Calls Tryd.prog 43 #[.slice A n c] w (RetB w w.heap.size (.slice none 0 0) l) := by
  subst hn
  have he := fun (W : World) (a : Option Addr) (n c : Nat) => Lib.run_eql_slice_nil (P := Tryd.prog) W 35 5 a n c 0 0 Tryd.underlying35
  cases A with
  | none =>
    have hn : l = [] := by
      rcases h.out with h | ⟨ad, h, _⟩
      · simpa [bv] using h
      · cases h
    subst hn
    go_enter Tryd.func43, Tryd.ntmps43
    go_wp2
    go_ret
    exact ⟨_, rfl, OwnB.nil _ _, Onto.refl _ _⟩
  | some ad =>
    go_enter Tryd.func43, Tryd.ntmps43
    go_wp2_with (at_builtin; refine wpList_append_b rfl (.tmp 5) (.tmp 6) rfl w.heap.size (.slice (some ⟨w.heap.size, 0, none⟩) 0 0) [] (by rfl) (OwnB.new _ _ (Nat.le_refl _) [] 0 rfl _ rfl (by simp [maxLen])) w.heap.size (some ad) l.length c l (by rfl) rfl (h.alloc (Nat.le_refl _) _) (by simp; omega) (by simp) ?_; intro v1 w1 hown1 hon1)
    go_ret
    exact ⟨v1, rfl, hown1, (Onto.new _ _ _ _ _).trans hon1⟩

theorem cutF_le : ∀ (l acc : List UInt8) (i : Nat), (cutF l acc i).2.1 ≤ i + l.length ∧ ((cutF l acc i).2.2 ≠ 0 → (cutF l acc i).1 = [] ∧ (cutF l acc i).2.1 = 0)
  | [], _, _ => by simp [cutF]
  | [c], acc, i => by
    simp only [cutF]
    split
    · simp
    · split <;> simp
  | c :: d :: r, acc, i => by
    have h1 := cutF_le r (acc ++ [UInt8.ofNat (d.toNat - 3)]) (i + 2)
    have h2 := cutF_le (d :: r) (acc ++ [c]) (i + 1)
    simp only [cutF, List.length_cons] at *
    split
    · simp
    · split
      · simp
      · split
        · split
          · simp
          · exact ⟨by omega, h1.2⟩
        · exact ⟨by omega, h2.2⟩

/-- A text, what is left in new memory, the error. -/
def CutOut (w : World) (b : List UInt8) (r : List UInt8 × Nat × Nat) (e : Ending) (w' : World) : Prop :=
  ∃ v, e = .returned (.tuple #[.string (strOf r.1), v, .int .i64 (r.2.2 : Nat)]) ∧ OwnB w' w.heap.size v (if r.2.2 = 0 then b.drop r.2.1 else []) ∧ Below w.heap.size w w'

set_option maxRecDepth 100000 in
set_option maxHeartbeats 800000 in
theorem Cut_any (A : Option Addr) (n c : Nat) (b : List UInt8) (hn : b.length = n) (hnc : n ≤ c) (w : World) (hS : Sees w w.heap.size A (bv b)) (hlen : n ≤ 1099511627776) :
    Calls Tryd.prog 25 #[.slice A n c] w (CutOut w b (cutR b)) := by
  have hC := cut_any A n c b hn w hS hlen
  have hle := cutF_le b [] 0
  change (cutR b).2.1 ≤ _ ∧ ((cutR b).2.2 ≠ 0 → (cutR b).1 = [] ∧ (cutR b).2.1 = 0) at hle
  obtain ⟨t, k, e, hR⟩ : ∃ t k e, cutR b = (t, k, e) := ⟨_, _, _, rfl⟩
  rw [hR] at hC hle ⊢
  have HC := Lib.hid hC
  have HN := Lib.hid hn
  simp only [Nat.zero_add] at hle
  by_cases he : e = 0
  · subst he
    have hkn : k ≤ n := by have := hle.1; omega
    have g1 : (k : Int) ≤ (n : Int) := by omega
    have g2 : (k : Int) ≤ (c : Int) := by omega
    have hHH := Lib.hid hnc
    clear hC hle hR hn
    go_enter Tryd.func25, Tryd.ntmps25
    go_wp2_with fail
    refine HC.out.mono ?_
    rintro en w1 ⟨rfl, hb1⟩
    have hS1 := (hS.below hb1).more hb1.size
    go_wp2_with fail
    all_goals
      refine (bytesClone_any _ _ _ (b.drop k) (by rw [List.length_drop, HN.out]) _ (by rw [bv_drop]; first | exact hS1.cut' k | exact Sees.cut0 _ _ _ (by rw [bv_length]; have := HN.out; omega)) (by rw [List.length_drop]; have := HN.out; omega)).mono ?_
      rintro en w2 ⟨v1, rfl, hown, hon⟩
      go_wp2_with fail
      go_ret3
      exact ⟨v1, rfl, hown.base_le hb1.size, hb1.trans (hon.below_nil.mono hb1.size)⟩
  · have hez : ((e : Int) != 0) = true := by rw [bne_iff_ne]; omega
    obtain ⟨ht, hk⟩ := hle.2 he
    subst ht
    subst hk
    have HE : Hid ((if e = 0 then b.drop 0 else []) = []) := if_neg he
    clear hC hle hR hn he
    go_enter Tryd.func25, Tryd.ntmps25
    go_wp2_with fail
    refine HC.out.mono ?_
    rintro en w1 ⟨rfl, hb1⟩
    go_wp2_with fail
    go_ret3
    unfold CutOut
    simp only
    rw [HE.out]
    exact ⟨_, rfl, OwnB.nil _ _, hb1⟩

set_option maxRecDepth 100000 in
set_option maxHeartbeats 1600000 in
theorem RefCut_any (A : Option Addr) (n c : Nat) (b : List UInt8) (hn : b.length = n) (w : World) (hS : Sees w w.heap.size A (bv b)) (hlen : n ≤ 1099511627776) :
    Calls Tryd.prog 26 #[.slice A n c] w (CutIs w (cutR b)) := by
  have HN := Lib.hid hn
  obtain ⟨R, hR⟩ : ∃ R, cutR b = R := ⟨_, rfl⟩
  rw [hR]
  have HR := Lib.hid hR
  clear hn hR
  go_enter Tryd.func26, Tryd.ntmps26
  go_wp2
  go_loopg [5, 6] n (fun g o i wr => ∃ (k : Nat) (X : List UInt8), k + g = n ∧ i = .int .i64 k ∧ OwnB wr w.heap.size o X ∧ X.length ≤ k ∧ Hid (R = cutF (b.drop k) X k) ∧ Below w.heap.size w wr)
  case atStart => exact ⟨0, [], by omega, rfl, OwnB.nil _ _, by simp, HR.out.symm, Below.refl _ _⟩
  case round =>
    obtain ⟨k, X, hk, rfl, hX, hXl, heq, hbr⟩ := hrel
    have hsr := hbr.size
    by_cases hlt : k < n
    · have hkl : k < b.length := by have := HN.out; omega
      obtain ⟨ad, rfl, hadB, hcell⟩ := (hS.below hbr).at_ (k := k) (by rw [bv_length]; exact hkl)
      rw [bv_get' b k hkl] at hcell
      by_cases h1 : b[k].toNat = 1
      · have hF := Lib.hid (heq.out.trans (cut_stop X hkl h1))
        have e1 : ((b[k].toNat : Int) == 1) = true := by rw [beq_iff_eq]; omega
        generalize b[k] = x at hcell e1
        obtain ⟨Ax, cx, rfl, hcx, -, -, hsX⟩ := hX.open_
        have cv := run_str wr _ Ax X.length cx X hsX rfl
        clear heq h1
        go_wp2
        go_ret3
        exact cut_out hF.out hbr rfl (by omega) rfl
      · by_cases h0 : b[k].toNat = 0
        · have hF := Lib.hid (heq.out.trans (cut_none X hkl h0))
          have e1 : ((b[k].toNat : Int) == 1) = false := by rw [beq_eq_false_iff_ne]; omega
          have e0 : ((b[k].toNat : Int) == 0) = true := by rw [beq_iff_eq]; omega
          generalize b[k] = x at hcell e1 e0
          clear heq h1 h0
          go_wp2
          go_ret3
          exact cut_out hF.out hbr rfl rfl rfl
        · have e1 : ((b[k].toNat : Int) == 1) = false := by rw [beq_eq_false_iff_ne]; omega
          have e0 : ((b[k].toNat : Int) == 0) = false := by rw [beq_eq_false_iff_ne]; omega
          by_cases h2 : b[k].toNat = 2
          · have e2 : ((b[k].toNat : Int) == 2) = true := by rw [beq_iff_eq]; omega
            by_cases hend : k + 1 < n
            · have hkl2 : k + 1 < b.length := by have := HN.out; omega
              have ee : (k : Int) + 1 < (n : Int) := by omega
              obtain ⟨ad2, hA, -, hcell2⟩ := (hS.below hbr).at_ (k := k + 1) (by rw [bv_length]; exact hkl2)
              injection hA with hA
              subst hA
              rw [bv_get' b (k + 1) hkl2, add_succ'] at hcell2
              by_cases hd : b[k + 1].toNat < 3 ∨ 5 < b[k + 1].toNat
              · have hF := Lib.hid (heq.out.trans (cut_bad X hkl h2 hkl2 hd))
                generalize b[k] = x at hcell e1 e0 e2
                generalize b[k + 1] = y at hcell2 hd
                clear heq h1 h0 h2
                by_cases hd3 : y.toNat < 3
                · have d1 : (y.toNat : Int) < 3 := by omega
                  clear hd
                  go_wp2
                  go_ret3
                  exact cut_out hF.out hbr rfl rfl rfl
                · have d1 : (3 : Int) ≤ (y.toNat : Int) := by omega
                  have d2 : (5 : Int) < (y.toNat : Int) := by omega
                  clear hd hd3
                  go_wp2
                  go_ret3
                  exact cut_out hF.out hbr rfl rfl rfl
              · have hT := Lib.hid (heq.out.trans (cut_mark X hkl h2 hkl2 hd))
                generalize b[k] = x at hcell e1 e0 e2
                have d1 : (3 : Int) ≤ (b[k + 1].toNat : Int) := by omega
                have d2 : (b[k + 1].toNat : Int) ≤ 5 := by omega
                have hsub : IntKind.u8.wrap ((b[k + 1].toNat : Int) - 3) = (b[k + 1].toNat : Int) - 3 := by rw [IntKind.wrap_u8]; omega
                have hnew : Hid ((b[k + 1].toNat : Int) - 3 = ((UInt8.ofNat (b[k + 1].toNat - 3)).toNat : Int)) := by unfold Hid; rw [u8_nat _ (by omega)]; omega
                generalize b[k + 1] = y at hcell2 d1 d2 hT hsub hnew
                clear heq h1 h0 h2 hd
                go_wp2_with (at_builtin; refine wpList_append_b rfl (.tmp 45) (.tmp 52) rfl w.heap.size u5 X (by rfl) (hX.alloc _) (wr.heap.size + 1) _ 1 _ [UInt8.ofNat (y.toNat - 3)] (by rfl) rfl (sees_new _ _ _ _ (by simp only [bv, List.map_cons, List.map_nil]; rw [← hnew.out])) (by simp; omega) (by simp; omega) ?_; intro v1 w1 hown1 hon1)
                go_roundg (n - (k + 2))
                case measure => omega
                case rel => exact ⟨k + 2, X ++ [UInt8.ofNat (y.toNat - 3)], by omega, by go_num, hown1, by simp; omega, hT, hbr.trans (((Below.refl _ _).alloc hsr _).trans (hon1.below (by simp; omega) hX.block))⟩
            · have hF := Lib.hid (heq.out.trans (cut_short X hkl h2 (by have := HN.out; omega)))
              have ee : (n : Int) ≤ (k : Int) + 1 := by omega
              generalize b[k] = x at hcell e1 e0 e2
              clear heq h1 h0 h2 hend
              go_wp2
              go_ret3
              exact cut_out hF.out hbr rfl rfl rfl
          · have hT := Lib.hid (heq.out.trans (cut_byte X hkl (by omega)))
            have e2 : ((b[k].toNat : Int) == 2) = false := by rw [beq_eq_false_iff_ne]; omega
            generalize b[k] = x at hcell e1 e0 e2 hT
            clear heq h1 h0 h2
            go_wp2_with (at_builtin; refine wpList_append_b rfl (.tmp 56) (.tmp 58) rfl w.heap.size u5 X (by rfl) (hX.alloc _) (wr.heap.size + 1) _ 1 _ [x] (by rfl) rfl (sees_new _ _ _ _ (by simp [bv])) (by simp; omega) (by simp; omega) ?_; intro v1 w1 hown1 hon1)
            go_roundg (n - (k + 1))
            case measure => omega
            case rel => exact ⟨k + 1, X ++ [x], by omega, by go_num, hown1, by simp; omega, hT, hbr.trans (((Below.refl _ _).alloc hsr _).trans (hon1.below (by simp; omega) hX.block))⟩
    · have hF := Lib.hid (heq.out.trans (cut_end X (by have := HN.out; omega)))
      clear heq
      go_wp2
      go_ret3
      exact cut_out hF.out hbr rfl rfl rfl
end Go.Proofs.YtbgnmojdkhlbaaaDoor
