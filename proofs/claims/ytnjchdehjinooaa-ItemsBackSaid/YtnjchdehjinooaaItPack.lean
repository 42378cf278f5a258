/-
  items.Pack: a block's bytes.
-/
import Derived.Test.YtnjchdehjinooaaItCheck
namespace Go.Proofs.Ytnjchdehjinooaa
open Go.RowKit

/-- Items' bytes behind the item p. -/
def packFrom : List UInt8 → List (List UInt8) → List UInt8
  | _, [] => []
  | p, x :: t => venc (common p x) ++ venc (x.length - common p x) ++ x.drop (common p x) ++ packFrom x t
def packB (ls : List (List UInt8)) : List UInt8 := venc ls.length ++ packFrom [] ls
theorem packFrom_at {ls : List (List UInt8)} {k : Nat} (p : List UInt8) (h : k < ls.length) : packFrom p (ls.drop k) = venc (common p ls[k]) ++ venc (ls[k].length - common p ls[k]) ++ ls[k].drop (common p ls[k]) ++ packFrom ls[k] (ls.drop (k + 1)) := by
  rw [List.drop_eq_getElem_cons h]
  rfl
theorem packFrom_end {ls : List (List UInt8)} {k : Nat} (p : List UInt8) (h : ls.length ≤ k) : packFrom p (ls.drop k) = [] := by
  rw [List.drop_eq_nil_of_le h]
  rfl

/-- What a block's items are. -/
theorem check_ok {ls : List (List UInt8)} (h : checkN ls = 0) : ls.length ≤ 8 ∧ 1 ≤ ls.length ∧ (∀ i (hi : i < ls.length), 1 ≤ ls[i].length ∧ ls[i].length ≤ 400) ∧ risesB ls = true := by
  unfold checkN at h
  split at h
  · cases h
  · split at h
    · cases h
    · rename_i h1 h2
      have hb : ls.any badL = false := by rw [← Bool.not_eq_true]; exact fun e => h2 (.inr (.inl e))
      have hr : risesB ls = true := by rw [← Bool.not_eq_false]; exact fun e => h2 (.inr (.inr e))
      refine ⟨by omega, by have := fun e => h2 (.inl e); omega, fun i hi => ?_, hr⟩
      have := List.any_eq_false.1 hb ls[i] (List.getElem_mem hi)
      unfold badL at this
      simp only [Bool.or_eq_true, decide_eq_true_eq, not_or] at this
      omega
theorem check_nz {ls : List (List UInt8)} (h : checkN ls ≠ 0) : checkN ls = 1 ∨ checkN ls = 2 := by
  unfold checkN at *
  split
  · exact .inr rfl
  · rename_i h1
    rw [if_neg h1] at h
    split
    · exact .inl rfl
    · rename_i h2; rw [if_neg h2] at h; exact absurd rfl h

theorem below_d {B : Nat} {a w : World} (h : Below B a w) (q : Nat) : Below B a (w.drewN q) := ⟨h.os, h.tape, h.output, h.size, h.block⟩

def PackIs (w : World) (ls : List (List UInt8)) (e : Ending) (w' : World) : Prop :=
  ∃ v, e = .returned (.tuple #[v, .int .i64 (checkN ls : Nat)]) ∧ OwnB w' w.heap.size v (if checkN ls = 0 then packB ls else []) ∧ Below w.heap.size w w'

theorem ret2 {k2 : IntKind} {v v' : Value} {b b' : Int} (h1 : v = v') (h2 : b = b') : Ending.returned (.tuple #[v, .int k2 b]) = .returned (.tuple #[v', .int k2 b']) := by rw [h1, h2]

set_option maxRecDepth 100000 in
set_option maxHeartbeats 1600000 in
theorem Pack_any (A : Option Addr) (n c : Nat) (ls : List (List UInt8)) (hn : ls.length = n) (w : World) (hS : Sees2 w w.heap.size A ls) (hlen : n ≤ 1099511627776) :
    Calls Try.prog 15 #[.slice A n c] w (PackIs w ls) := by
  have hC := Lib.hid (Check_any A n c ls hn w hS hlen)
  by_cases hk : checkN ls = 0
  · obtain ⟨h8, h1, hall, hrise⟩ := check_ok hk
    have HK := Lib.hid hk
    rw [hk] at hC
    have HA := Lib.hid hall
    have hn8 : n ≤ 8 := by omega
    have HN := Lib.hid hn
    clear hk hall hrise h8 h1 hn hlen
    go_enter Try.func15, Try.ntmps15
    go_wp2_with fail
    refine hC.out.mono ?_
    rintro e w1 ⟨rfl, q, rfl⟩
    go_wp2_with fail
    refine (Put_any none 0 0 [] rfl n (by unfold Is64; omega) (w.drewN q) (Sees.nil _ _ _) (by simp)).mono ?_
    rintro e w2 ⟨v2, rfl, hown2, hon2⟩
    have hb2 : Below w.heap.size w w2 := (below_d (Below.refl _ w) q).trans hon2.below_nil
    rw [List.nil_append] at hown2
    clear hC hon2
    go_wp2_with fail
    go_loopg [5, 6, 21] n (fun g b a i wr => ∃ (k : Nat) (X P : List UInt8) (Ap : Option Addr) (cp : Nat), k + g = n ∧ i = .int .i64 k ∧ OwnB wr w.heap.size b X ∧ X.length ≤ 10 + 1000 * k ∧ a = .slice Ap P.length cp ∧ P.length ≤ 400 ∧ Sees wr wr.heap.size Ap (bv P) ∧ Aside (X ++ packFrom P (ls.drop k) = packB ls) ∧ Below w.heap.size w wr)
    case atStart => exact ⟨0, venc n, [], none, 0, by omega, rfl, hown2, by have := venc_len (u := n) (by unfold Is64; omega); omega, rfl, by simp, Sees.nil _ _ _, (by show _ = _; unfold packB; rw [HN.out]; rfl), hb2⟩
    case round =>
      obtain ⟨k, X, P, Ap, cp, hk, rfl, hX, hXl, rfl, hP, hSP, hcat, hbr⟩ := hrel
      have hsr := hbr.size
      by_cases hlt : k < n
      · obtain ⟨ad, Ai, ci, rfl, hadB, hcell, hci, hsee⟩ := (hS.below hbr).out k (by have := HN.out; omega)
        have hLl := HA.out k (by have := HN.out; omega)
        have hfr := Lib.hid (packFrom_at (ls := ls) (k := k) P (by have := HN.out; omega))
        obtain ⟨L, hL⟩ : ∃ L, ls[k]'(by have := HN.out; omega) = L := ⟨_, rfl⟩
        rw [hL] at hcell hci hsee hLl hfr
        clear hL
        obtain ⟨hL1, hL2⟩ := hLl
        have hcm := common_le P L
        have hCm := Lib.hid (Common_any Ap Ai P.length L.length cp ci P L rfl rfl wr hSP (hsee.more hsr) (by omega) (by omega))
        generalize common P L = cm at hcm hCm hfr
        obtain ⟨hc1, hc2⟩ := hcm
        obtain ⟨d, hd⟩ : ∃ d, L.length - cm = d := ⟨_, rfl⟩
        rw [hd] at hfr
        have hsub : IntKind.i64.wrap ((L.length : Int) - (cm : Int)) = (d : Int) := by rw [IntKind.wrap_i64]; omega
        have hd4 : d ≤ 400 := by omega
        obtain ⟨A0, c0, rfl, hXc, hXm, hX', hXs⟩ := hX.open_
        go_wp2_with fail
        refine hCm.out.mono ?_
        rintro e w3 ⟨rfl, q, rfl⟩
        go_wp2_with fail
        refine (Put_any A0 X.length c0 X rfl cm (by unfold Is64; omega) (wr.drewN q) (hXs.drewN q) (by omega)).mono ?_
        rintro e w4 ⟨v4, rfl, hown4, hon4⟩
        have hbr4 : Below wr.heap.size wr w4 := (below_d (Below.refl _ wr) q).trans hon4.below_nil
        have hvc := venc_len (u := cm) (by unfold Is64; omega)
        have hvd := venc_len (u := d) (by unfold Is64; omega)
        obtain ⟨Y, hY⟩ : ∃ Y, X ++ venc cm = Y := ⟨_, rfl⟩
        rw [hY] at hown4
        have hYl : Y.length ≤ X.length + 10 := by rw [← hY, List.length_append]; omega
        have HY := Lib.hid hY
        clear hY
        obtain ⟨A4, c4, rfl, hc4, hm4, hown4', hs4⟩ := hown4.open_
        go_wp2_with fail
        refine (Put_any A4 Y.length c4 Y rfl d (by unfold Is64; omega) w4 hs4 (by omega)).mono ?_
        rintro e w5 ⟨v5, rfl, hown5, hon5⟩
        have hbr5 : Below wr.heap.size wr w5 := hbr4.trans (hon5.below_nil.mono hbr4.size)
        have hb5 : Below w.heap.size w w5 := hbr.trans (hbr5.mono hsr)
        have hs5 := hbr5.size
        have hsee5 : Sees w5 w5.heap.size Ai (bv L) := (hsee.below (hbr5.mono hsr)).more (by omega)
        obtain ⟨Z, hZ⟩ : ∃ Z, Y ++ venc d = Z := ⟨_, rfl⟩
        rw [hZ] at hown5
        have hZl : Z.length ≤ Y.length + 10 := by rw [← hZ, List.length_append]; omega
        have HZ := Lib.hid hZ
        clear hZ
        have hown5w : OwnB w5 w.heap.size v5 Z := hown5.base_le (by have := hbr4.size; omega)
        go_wp2_with (at_builtin; refine wpList_append_b rfl (.tmp 38) (.tmp 41) rfl w.heap.size v5 Z (by rfl) hown5w _ _ _ _ (L.drop cm) (by rfl) (by simp; omega) (by rw [bv_drop]; first | exact hsee5.cut' cm | (have hcut := hsee5.cut (k := cm) (cap := ci) (by rw [bv_length]; exact hci); simp only [Nat.mul_one] at hcut; exact hcut) | exact Sees.cut0 _ _ _ (by rw [bv_length]; omega)) (by rw [List.length_drop]; omega) (by omega) ?_; intro v6 w6 hown6 hon6)
        all_goals
          have hbr6 : Below wr.heap.size wr w6 := hbr4.trans ((hon5.trans hon6).below_nil.mono hbr4.size)
          have hs6 := hbr6.size
          go_roundg (n - (k + 1))
          case measure => omega
          case rel => exact ⟨k + 1, Z ++ L.drop cm, L, Ai, _, by omega, by go_num, hown6, by rw [List.length_append, List.length_drop]; omega, rfl, hL2, (hsee.below (hbr6.mono hsr)).more (by omega), (by have h1 := hcat.out; have h2 := hfr.out; have h3 := HY.out; have h4 := HZ.out; show _ = _; rw [← h1, h2, ← h4, ← h3]; simp), hbr.trans (hbr6.mono hsr)⟩
      · have HF : Hid (X = packB ls) := by have := hcat.out; rw [packFrom_end _ (by have := HN.out; omega), List.append_nil] at this; exact this
        have HE : Hid ((if checkN ls = 0 then packB ls else []) = packB ls) := if_pos HK.out
        clear hcat
        go_wp2_with fail
        go_ret2
        unfold PackIs
        rw [HE.out, HK.out, ← HF.out]
        exact ⟨_, rfl, hX, hbr⟩
  · have HK := Lib.hid (check_nz hk)
    have HE : Hid ((if checkN ls = 0 then packB ls else []) = []) := if_neg hk
    obtain ⟨X, hX⟩ : ∃ X, checkN ls = X := ⟨_, rfl⟩
    rw [hX] at hk HK hC
    have HX := Lib.hid hX
    have hz : ((X : Int) != 0) = true := by rw [bne_iff_ne]; omega
    clear hX hk hn
    go_enter Try.func15, Try.ntmps15
    go_wp2_with fail
    refine hC.out.mono ?_
    rintro e w1 ⟨rfl, q, rfl⟩
    go_wp2
    go_ret2
    unfold PackIs
    rw [HE.out, HX.out]
    exact ⟨_, rfl, OwnB.nil _ _, below_d (Below.refl _ w) q⟩
end Go.Proofs.Ytnjchdehjinooaa
