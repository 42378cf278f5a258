/-
  The document's In, Put, Ints, Same of rows of numbers, walked.
-/
import Derived.Test.YtcfbblgoligagaaKmInts
import Derived.Test.YtcfbblgoligagaaKmRefP
namespace Go.Proofs.Ytcfbblgoligagaa.KI
open Go.RowKit

/-- The cells of a row of numbers. -/
def iv (l : List Int) : List Value := l.map (.int .i64)
theorem iv_length (l : List Int) : (iv l).length = l.length := by simp [iv]
theorem iv_at {l : List Int} {j : Nat} (h : j < l.length) : (iv l)[j]? = some (.int .i64 l[j]) := by simp [iv, h]
theorem iv_one {l : List Int} : ∀ u ∈ iv l, u.oneCell' = true := by
  intro u hu
  simp only [iv, List.mem_map] at hu
  obtain ⟨b, _, rfl⟩ := hu
  rfl
theorem Sees.iat {w : World} {B : Nat} {A : Option Addr} {l : List Int} (h : Sees w B A (iv l)) {k : Nat} (hk : k < l.length) : ∃ ad, A = some ad ∧ ad.block < B ∧ w.cell? (ad.add k) = some (.int .i64 l[k]) := by
  obtain ⟨ad, e, hb, hc⟩ := h.at_ (k := k) (by rw [iv_length]; exact hk)
  exact ⟨ad, e, hb, by rw [hc]; simp [iv]⟩
/-- A row of numbers, somewhere. -/
def RowI (w : World) (l : List Int) (e : Ending) (w' : World) : Prop := ∃ A c, e = .returned (.slice A l.length c) ∧ l.length ≤ c ∧ Sees w' w'.heap.size A (iv l) ∧ Below w.heap.size w w'
theorem RowVal.rowI {w w' : World} {l : List Int} {e : Ending} (h : RowVal w l e w') : RowI w l e w' := by
  obtain ⟨v, rfl, h1, h2⟩ := h
  rcases h1.2 with ⟨rfl, hn⟩ | ⟨g, cap, cur, rfl, -, -, hc, -⟩
  · exact ⟨none, 0, by rw [hn], by omega, ⟨.inl (by rw [List.eq_nil_of_length_eq_zero hn]; rfl)⟩, h2⟩
  · exact ⟨_, cap, rfl, hc, Sees.of_own h1, h2⟩

set_option maxRecDepth 100000 in
set_option maxHeartbeats 400000 in
theorem In_any (A : Option Addr) (n c : Nat) (l : List Int) (x : Int) (hn : l.length = n) (w : World) (hS : Sees w w.heap.size A (iv l)) (hlen : n ≤ 1099511627776) :
    Calls Try.prog 23 #[.slice A n c, .int .i64 x] w fun e w' => e = .returned (.bool (decide (x ∈ l))) ∧ w = w' := by
  obtain ⟨X, hX⟩ : ∃ X, decide (x ∈ l) = X := ⟨_, rfl⟩
  rw [hX]
  have HX := Lib.hid hX
  have HN := Lib.hid hn
  clear hn hX
  go_enter Try.func23, Try.ntmps23
  go_wp2
  go_loopg [5] n (fun g i wr => ∃ k : Nat, k + g = n ∧ i = .int .i64 k ∧ Hid (decide (x ∈ l.drop k) = X) ∧ wr = w)
  case atStart => exact ⟨0, by omega, rfl, HX.out, rfl⟩
  case round =>
    obtain ⟨k, hk, rfl, heq, rfl⟩ := hrel
    by_cases hlt : k < n
    · obtain ⟨ad, rfl, hb, hcell⟩ := Sees.iat hS (k := k) (by have := HN.out; omega)
      have hd := List.drop_eq_getElem_cons (l := l) (i := k) (by have := HN.out; omega)
      obtain ⟨y, hy⟩ : ∃ y, l[k]'(by have := HN.out; omega) = y := ⟨_, rfl⟩
      rw [hy] at hcell hd
      have HD := Lib.hid hd
      clear hd hy
      by_cases hxy : y = x
      · have hF : Hid (X = true) := by unfold Hid; rw [← heq.out, HD.out, hxy]; simp
        have hb1 : (y == x) = true := by simpa using hxy
        clear heq HD hxy
        go_wp2
        go_ret
        rw [hF.out]
        exact ⟨rfl, rfl⟩
      · have hT : Hid (decide (x ∈ l.drop (k + 1)) = X) := by unfold Hid; rw [← heq.out, HD.out]; have hne : ¬ x = y := fun e => hxy e.symm; simp [hne]
        have hb1 : (y == x) = false := by simpa using hxy
        clear heq HD hxy
        go_wp2
        go_roundg (n - (k + 1))
        case measure => omega
        case rel => exact ⟨k + 1, by omega, by go_num, hT, rfl⟩
    · have HF : Hid (X = false) := by unfold Hid; rw [← heq.out, List.drop_eq_nil_of_le (by have := HN.out; omega)]; simp
      clear heq
      go_wp2
      go_ret
      rw [HF.out]
      exact ⟨rfl, rfl⟩

set_option maxRecDepth 100000 in
set_option maxHeartbeats 400000 in
theorem SameI_any (A B : Option Addr) (n c m d : Nat) (l r : List Int) (hn : l.length = n) (hm : r.length = m) (w : World) (hS : Sees w w.heap.size A (iv l)) (hS2 : Sees w w.heap.size B (iv r)) (hlen : n ≤ 1099511627776) :
    Calls Try.prog 15 #[.slice A n c, .slice B m d] w (BoolIs w (l == r)) := by
  obtain ⟨X, hX⟩ : ∃ X, (l == r) = X := ⟨_, rfl⟩
  rw [hX]
  have HX := Lib.hid hX
  have HN := Lib.hid hn
  have HM := Lib.hid hm
  by_cases hnm : n = m
  · subst hnm
    clear hn hm hX
    go_enter Try.func15, Try.ntmps15
    go_wp2
    go_loopg [5] n (fun g i wr => ∃ k : Nat, k + g = n ∧ i = .int .i64 k ∧ Hid (X = (l.drop k == r.drop k)) ∧ ∃ q, wr = w.drewN q)
    case atStart => exact ⟨0, by omega, rfl, HX.out.symm, 0, rfl⟩
    case round =>
      obtain ⟨k, hk, rfl, heq, q, rfl⟩ := hrel
      by_cases hlt : k < n
      · obtain ⟨ad, rfl, hb, hcell⟩ := Sees.iat hS (k := k) (by have := HN.out; omega)
        obtain ⟨ad2, rfl, hb2, hcell2⟩ := Sees.iat hS2 (k := k) (by have := HM.out; omega)
        have hstep : Hid (X = (l[k]'(by have := HN.out; omega) == r[k]'(by have := HM.out; omega) && (l.drop (k + 1) == r.drop (k + 1)))) := by
          have := heq.out
          rw [List.drop_eq_getElem_cons (l := l) (by have := HN.out; omega), List.drop_eq_getElem_cons (l := r) (by have := HM.out; omega)] at this
          exact this
        generalize l[k]'(by have := HN.out; omega) = x at hcell hstep
        generalize r[k]'(by have := HM.out; omega) = y at hcell2 hstep
        clear heq
        by_cases hxy : x = y
        · have hb1 : (x != y) = false := by simpa using hxy
          have hT : Hid (X = (l.drop (k + 1) == r.drop (k + 1))) := by have := hstep.out; rw [hxy, beq_self_eq_true, Bool.true_and] at this; exact this
          clear hstep hxy
          go_wp2
          go_quiet (fail)
          go_wp2
          go_roundg (n - (k + 1))
          case measure => omega
          case rel => exact ⟨k + 1, by omega, by go_num, hT, _, rfl⟩
        · have hb1 : (x != y) = true := by simpa using hxy
          have HF : Hid (X = false) := by have := hstep.out; rw [beq_eq_false_iff_ne.2 hxy, Bool.false_and] at this; exact this
          clear hstep hxy
          go_wp2
          go_quiet (fail)
          go_wp2
          go_ret
          unfold BoolIs
          rw [HF.out]
          exact ⟨rfl, _, World.drewN_drewN _ _ _⟩
      · have HF : Hid (X = true) := by have := heq.out; rw [List.drop_eq_nil_of_le (by have := HN.out; omega), List.drop_eq_nil_of_le (by have := HM.out; omega)] at this; exact this
        clear heq
        go_wp2
        go_ret
        unfold BoolIs
        rw [HF.out]
        exact ⟨rfl, q, rfl⟩
  · have hl2 : ((n : Int) != (m : Int)) = true := by rw [bne_iff_ne]; omega
    have HF : Hid (X = false) := by
      unfold Hid
      rw [← hX, beq_eq_false_iff_ne]
      rintro rfl
      exact hnm (hn.symm.trans hm)
    clear hnm hn hm hX
    go_enter Try.func15, Try.ntmps15
    go_wp2
    go_ret
    unfold BoolIs
    rw [HF.out]
    exact ⟨rfl, 0, rfl⟩
end Go.Proofs.Ytcfbblgoligagaa.KI
