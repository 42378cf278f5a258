/-
  The law LabelsBack, walked.
-/
import Derived.Test.YtbgnmojdkhlbaaaDoorLbOrder
namespace Go.Proofs.YtbgnmojdkhlbaaaDoor
open Go.RowKit

theorem may_rev {l : List Lb} : MayL l.reverse ↔ MayL l := ⟨fun h => h.perm (List.reverse_perm l).symm, fun h => h.perm (List.reverse_perm l)⟩
theorem sort_rev {l : List Lb} (h : Dist l) : sortN l.reverse = sortN l := sortN_of_perm ((sortN_perm l).trans (List.reverse_perm l).symm) (sortN_up h)

theorem marsh_len : ∀ (m : List Lb), (∀ x ∈ m, 1 ≤ x.1.size ∧ x.1.size ≤ 12 ∧ 1 ≤ x.2.size ∧ x.2.size ≤ 16) → (marsh m).length ≤ 58 * m.length
  | [], _ => by simp [marsh]
  | x :: t, h => by
    have h1 := h x (by simp)
    have h2 := marsh_len t fun y hy => h y (by simp [hy])
    have e1 := esc_len x.1.data.toList
    have e2 := esc_len x.2.data.toList
    have l1 : x.1.data.toList.length = x.1.size := Array.length_toList
    have l2 : x.2.data.toList.length = x.2.size := Array.length_toList
    rw [marsh_cons, List.length_append, List.length_append, List.length_cons]
    omega

set_option maxRecDepth 100000 in
set_option maxHeartbeats 3200000 in
theorem LabelsBack_any (A B : Option Addr) (n c p d : Nat) (ls : List Lb) (r : List UInt8) (s : ByteArray) (hn : ls.length = n) (hp : r.length = p) (w : World) (hS : Sees w w.heap.size A (lv ls)) (hT : Sees w w.heap.size B (bv r)) :
    Calls Tryd.prog 8 #[.slice A n c, .string s, .slice B p d] w (Gives w (.bool true)) := by
  have hA := Lib.hid (awake_any w)
  have HN := Lib.hid hn
  have HP := Lib.hid hp
  clear hn hp
  go_enter Tryd.func8, Tryd.ntmps8
  go_wp2_with fail
  refine hA.out.mono ?_
  rintro en w1 ⟨rfl, hb1⟩
  have hs1 := hb1.size
  have hS1 := (hS.below hb1).more hs1
  have hT1 := (hT.below hb1).more hs1
  have hF := Lib.hid (few_any A n c ls HN.out w1 hS1)
  clear hA
  go_wp2_with fail
  refine hF.out.mono ?_
  rintro en w1' ⟨bf, hfew, rfl, rfl⟩
  clear hF
  cases bf with
  | false =>
    go_wp2
    go_ret
    exact ⟨rfl, hb1⟩
  | true =>
  by_cases hs : s.size ≤ 300
  rotate_left
  · have hs' : (300 : Int) < (s.size : Int) := by omega
    go_wp2
    go_ret
    exact ⟨rfl, hb1⟩
  have hs' : (s.size : Int) ≤ 300 := by omega
  by_cases hp : p ≤ 100
  rotate_left
  · have hp' : (100 : Int) < (p : Int) := by omega
    go_wp2
    go_ret
    exact ⟨rfl, hb1⟩
  have hp' : (p : Int) ≤ 100 := by omega
  have HFA := Lib.hid (hfew rfl)
  have hl1 : n ≤ 1099511627776 := by have := HFA.out.len; have := HN.out; omega
  clear hfew
  have hz1 : Hid (∀ x ∈ ls, x.1.size ≤ 9223372036854775807) := fun x hx => by have := (HFA.out.all x hx).1; omega
  have hE := Lib.hid (Escape_any s w1 (by omega))
  have hXl := esc_len s.data.toList
  have hsl : s.data.toList.length = s.size := Array.length_toList
  have hcr := cutR_esc s.data.toList r
  obtain ⟨X, hX⟩ : ∃ X, esc s.data.toList = X := ⟨_, rfl⟩
  rw [hX] at hE hXl hcr
  have HX := Lib.hid hX
  have HCR := Lib.hid hcr
  clear hX hcr
  go_wp2_with fail
  refine hE.out.mono ?_
  rintro en w2 ⟨v2, rfl, hown2, hon2⟩
  have hb2 := hon2.below_nil
  have hs2 := hb2.size
  clear hE
  go_wp2_with (at_builtin; refine wpList_append_b rfl (.tmp 41) (.tmp 42) rfl w1.heap.size v2 X (by rfl) hown2 w1.heap.size B p d r (by rfl) HP.out (hT1.below hb2) (by have := HP.out; omega) hs2 ?_; intro v3 w3 hown3 hon3)
  have hb3 : Below w1.heap.size w2 w3 := hon3.below hs2 hown2.block
  have hb13 := hb2.trans hb3
  have hs3 := hb13.size
  obtain ⟨A3, c3, e3, hc3, -, -, hs3'⟩ := hown3.open_
  have hl3 : (X ++ r).length = X.length + p := by rw [List.length_append, HP.out]
  rw [hl3] at e3 hc3
  subst e3
  have hCu := Lib.hid (Cut_any A3 (X.length + p) c3 (X ++ r) hl3 hc3 w3 hs3' (by omega))
  rw [HCR.out] at hCu
  unfold CutOut at hCu
  simp only [if_pos, List.drop_left, strOf_list] at hCu
  go_wp2_with fail
  refine hCu.out.mono ?_
  rintro en w4 ⟨v4, rfl, hown4, hb4⟩
  clear hCu
  have hs4 := hb4.size
  have hb14 := hb13.trans (hb4.mono hs3)
  obtain ⟨A4, c4, e4, -, -, -, hs4'⟩ := hown4.open_
  rw [HP.out] at e4
  subst e4
  have cv1 := run_str w4 _ A4 p c4 r hs4' HP.out
  have cv2 := run_str w4 _ B p d r (hT1.below hb14) HP.out
  have hss : (s.toList != s.toList) = false := by simp
  have hrr : ((strOf r).toList != (strOf r).toList) = false := by simp
  generalize strOf r = sr at cv1 cv2 hrr
  have hs14 := hb14.size
  have hS4 := (hS1.below hb14).more hs14
  clear hown3 hown4 hs3' hs4' hb3 hb4 hb13 hon3 hon2 hb2 hown2
  go_wp2_with fail
  go_loopg [12, 13] n (fun g t i wr => ∃ (k : Nat) (z : Int), k + g = n ∧ i = .int .i64 z ∧ z + 1 + k = n ∧ OwnL wr w4.heap.size t (ls.reverse.take k) ∧ Below w4.heap.size w4 wr)
  case atStart => exact ⟨0, (n : Int) - 1, by omega, by first | rfl | (go_num; omega), by omega, OwnL.nil _ _, Below.refl _ _⟩
  case round =>
    obtain ⟨k, z, hk, rfl, hz, hown, hbr⟩ := hrel
    have hsr := hbr.size
    by_cases hlt : k < n
    · obtain ⟨j, hj⟩ : ∃ j : Nat, j + k + 1 = n := ⟨n - k - 1, by omega⟩
      obtain rfl : z = (j : Int) := by omega
      have hjl : j < ls.length := by have := HN.out; omega
      obtain ⟨ad, had, hadB, hc0, hc1⟩ := ((hS4.below hbr).more hsr).lb (k := j) hjl
      have htk := take_step (m := ls.reverse) (k := k) (by rw [List.length_reverse]; have := HN.out; omega)
      rw [List.getElem_reverse] at htk
      have hje : ls.length - 1 - k = j := by have := HN.out; omega
      simp only [hje] at htk
      generalize ls[j] = x at hc0 hc1 htk
      have HTK := Lib.hid htk
      have hxl : Hid ((ls.reverse.take k).length ≤ k) := List.length_take_le _ _
      have jn : (j : Int) < (n : Int) := by omega
      have j0 : (0 : Int) ≤ (j : Int) := by omega
      subst had
      clear htk hje hz
      go_wp2_with (at_builtin; refine wpList_append_l rfl (.tmp 69) (.tmp 74) rfl w4.heap.size _ (ls.reverse.take k) (by rfl) (hown.alloc _) (wr.heap.size + 1) _ 1 _ [x] (by rfl) rfl (sees_newL wr [x] _ _ rfl) (by have := hxl.out; omega) (Nat.le_trans hsr (by simp)) ?_; intro v5 w5 hown5 hon5; have hB5 : Below w4.heap.size wr w5 := ((Below.refl _ wr).alloc hsr _).trans (hon5.below (Nat.le_trans hsr (by simp)) hown.block))
      go_roundg (n - (k + 1))
      case measure => omega
      case rel => exact ⟨k + 1, (j : Int) - 1, by omega, by first | rfl | go_num, by omega, by rw [← HTK.out]; exact hown5, hbr.trans hB5⟩
    · have hkn : k = n := by omega
      have htk : ls.reverse.take k = ls.reverse := List.take_of_length_le (by rw [List.length_reverse]; have := HN.out; omega)
      rw [htk] at hown
      have hz0 : z = -1 := by omega
      subst hz0
      have hSr := (hS4.below hbr).more hsr
      obtain ⟨A5, c5, e5, -, -, hs5⟩ := hown.open_
      rw [List.length_reverse, HN.out] at e5
      subst e5
      have hM1 := Lib.hid (Marshal_any A n c ls HN.out wr hSr hl1 hz1.out)
      have hb1r : Below w1.heap.size w1 wr := hb14.trans (hbr.mono hs14)
      clear htk hS4 hb14 hbr hown hz
      go_wp2_with fail
      refine hM1.out.mono ?_
      rintro en w5 ⟨v5, k5, rfl, hb5, hres5⟩
      clear hM1
      have hs55 := hb5.size
      have hM2 := Lib.hid (Marshal_any A5 n c5 ls.reverse (by rw [List.length_reverse]; exact HN.out) w5 ((hs5.below hb5).more hs55) hl1 (fun x hx => hz1.out x (List.mem_reverse.1 hx)))
      go_wp2_with fail
      refine hM2.out.mono ?_
      rintro en w6 ⟨v6, k6, rfl, hb6, hres6⟩
      clear hM2
      have hs66 := hb6.size
      have hbr6 : Below wr.heap.size wr w6 := hb5.trans (hb6.mono hs55)
      have hb16 : Below w1.heap.size w1 w6 := hb1r.trans (hbr6.mono hb1r.size)
      rcases hres5 with ⟨hma, rfl, hown5⟩ | ⟨hno, rfl, rfl⟩
      · rcases hres6 with ⟨hma', rfl, hown6⟩ | ⟨hno, -, -⟩
        rotate_left
        · exact absurd (may_rev.2 hma) hno
        rw [sort_rev hma.dist] at hown6
        obtain ⟨m, hm⟩ : ∃ m, sortN ls = m := ⟨_, rfl⟩
        have hup : MayL m := hm ▸ hma.sort
        have hss2 : sortN m = m := hm ▸ sortN_sort hma.dist
        have hcl := cmpLs_zero.2 (rfl : m = m)
        have hpm := parse_marsh m
        have hml : m.length = n := by rw [← hm, sortN_length]; exact HN.out
        rw [hm] at hown5 hown6
        obtain ⟨P, hP⟩ : ∃ P, marsh m = P := ⟨_, rfl⟩
        rw [hP] at hown5 hown6 hpm
        obtain ⟨AP, cP, rfl, hcP, -, -, hsP⟩ := hown5.open_
        obtain ⟨AQ, cQ, rfl, -, -, -, hsQ⟩ := hown6.open_
        have hsP6 := (hsP.below hb6).more hs66
        have hPs : Hid (P.length ≤ 1099511627776) := by
          unfold Hid
          rw [← hP]
          have h1 := marsh_len m fun x hx => okL_size (hup.ok x hx)
          have h2 := hup.few
          omega
        have hUP := Lib.hid hup
        have HSS := Lib.hid hss2
        have HPM := Lib.hid hpm
        have HM := Lib.hid hm
        have HMA := Lib.hid hma
        have HML := Lib.hid hml
        have HCL := Lib.hid hcl
        clear hm hma hma' hup hss2 hpm hml hP hcl
        have cv3 := run_str w6 _ AP P.length cP P hsP6 rfl
        have cv4 := run_str w6 _ AQ P.length cQ P hsQ rfl
        have hPP : ((strOf P).toList != (strOf P).toList) = false := by simp
        generalize strOf P = sP at cv3 cv4 hPP
        have hU := Lib.hid (Unmarshal_any AP P.length cP P rfl hcP w6 hsP6 hPs.out)
        rw [HPM.out] at hU
        unfold UnmOut at hU
        go_wp2_with fail
        refine hU.out.mono ?_
        rintro en w7 ⟨v7, k7, rfl, hb7, hres7⟩
        clear hU cv3 cv4 hPP
        simp only [true_and] at hres7
        rcases hres7 with ⟨-, -, rfl, hown7⟩ | ⟨hno, -, -⟩ | ⟨hno, -, -⟩
        rotate_left
        · exact absurd ⟨hUP.out, HSS.out⟩ hno
        · exact absurd rfl hno
        have hs7 := hb7.size
        have hSr7 := ((hSr.below hbr6).below (hb7.mono hbr6.size)).more (Nat.le_trans hbr6.size hs7)
        have hC := Lib.hid (Canon_any A n c ls HN.out w7 hSr7 hl1 hz1.out)
        rw [show CanonOut w7 ls = CanonOut w7 ls from rfl] at hC
        go_wp2_with fail
        refine hC.out.mono ?_
        rintro en w8 ⟨v8, k8, rfl, hb8, hres8⟩
        clear hC
        rcases hres8 with ⟨-, rfl, hown8⟩ | ⟨hno, -, -⟩
        rotate_left
        · exact absurd HMA.out hno
        rw [HM.out] at hown8
        have hs8 := hb8.size
        obtain ⟨A7, c7, e7, -, -, hs7'⟩ := hown7.open_
        obtain ⟨A8, c8, e8, -, -, hs8'⟩ := hown8.open_
        rw [HML.out] at e7 e8
        subst e7
        subst e8
        have hs78 := (hs7'.below hb8).more hs8
        have hSm := Lib.hid (Same_any A7 A8 n c7 n c8 m m HML.out HML.out w8 hs78 hs8' hl1 hl1)
        rw [sameLs_self] at hSm
        go_wp2_with fail
        refine hSm.out.mono ?_
        rintro en w9 ⟨rfl, q9, rfl⟩
        have hCm := Lib.hid (LCompare_any A7 A8 n c7 n c8 m m HML.out HML.out (w8.drewN q9) (hs78.drewN q9) (hs8'.drewN q9) hl1 hl1)
        rw [HCL.out] at hCm
        go_wp2_with fail
        refine hCm.out.mono ?_
        rintro en w10 ⟨rfl, hb10⟩
        go_wp2
        go_ret
        exact ⟨rfl, hb1.trans ((hb16.mono hs1).trans ((hb7.mono (by have := hb16.size; omega)).trans ((below_d hb8 q9).mono (by have := hb16.size; omega) |>.trans (hb10.mono (show _ ≤ w8.heap.size from by have := hb16.size; omega)))))⟩
      · rcases hres6 with ⟨hma', -, -⟩ | ⟨-, rfl, rfl⟩
        · exact absurd (may_rev.1 hma') hno
        have cv3 := run_str w6 0 none 0 0 [] (Sees.nil _ _ _) rfl
        have hPP : ((strOf []).toList != (strOf []).toList) = false := by simp
        generalize strOf [] = sP at cv3 hPP
        go_wp2
        go_ret
        exact ⟨rfl, hb1.trans (hb16.mono hs1)⟩
end Go.Proofs.YtbgnmojdkhlbaaaDoor
