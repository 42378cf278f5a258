/-
  The law ItemsBack, walked: what is packed is unpacked; cut short, or with more behind, it is refused.
-/
import Derived.Test.YtnjchdehjinooaaItBackPlain
import Derived.Deep.DeepCutAuto
namespace Go.Proofs.Ytnjchdehjinooaa
open Go.RowKit

theorem OwnB.block {w : World} {base : Nat} {v : Value} {l : List UInt8} (h : OwnB w base v l) : ∀ k, v.ownBlock = some k → base ≤ k := fun k hk => (World.ownsRow.lt h k hk).1
theorem strOf_ne (l : List UInt8) : ((strOf l).toList != (strOf l).toList) = false := by simp

theorem Unpack_at (A : Option Addr) (n c : Nat) (b : List UInt8) (hn : b.length = n) (hnc : n ≤ c) (hsm : n ≤ 1000000) (w : World) (hS : Sees w w.heap.size A (bv b)) (u : List (List UInt8)) (e : Nat) (hu : unpackR b = (u, e)) :
    Calls Try.prog 14 #[.slice A n c] w fun en w' => ∃ v, en = .returned (.tuple #[v, .int .i64 (e : Nat)]) ∧ OwnS w' (w.heap.size + 2) v u ∧ Below w.heap.size w w' := by
  have h := Unpack_any A n c b hn hnc hsm w hS
  unfold UnpackIs at h
  rw [hu] at h
  exact h
theorem Pack_at (A : Option Addr) (n c : Nat) (ls : List (List UInt8)) (hn : ls.length = n) (w : World) (hS : Sees2 w w.heap.size A ls) (hlen : n ≤ 1099511627776) (hk : checkN ls = 0) (b : List UInt8) (hb : packB ls = b) :
    Calls Try.prog 15 #[.slice A n c] w fun en w' => ∃ v, en = .returned (.tuple #[v, .int .i64 0]) ∧ OwnB w' w.heap.size v b ∧ Below w.heap.size w w' := by
  have h := Pack_any A n c ls hn w hS hlen
  unfold PackIs at h
  rw [hk, hb, if_pos rfl] at h
  exact h
theorem Pack_no (A : Option Addr) (n c : Nat) (ls : List (List UInt8)) (hn : ls.length = n) (w : World) (hS : Sees2 w w.heap.size A ls) (hlen : n ≤ 1099511627776) (k : Nat) (hk : checkN ls = k) (hk0 : k ≠ 0) :
    Calls Try.prog 15 #[.slice A n c] w fun en w' => ∃ v, en = .returned (.tuple #[v, .int .i64 (k : Nat)]) ∧ OwnB w' w.heap.size v [] ∧ Below w.heap.size w w' := by
  have h := Pack_any A n c ls hn w hS hlen
  unfold PackIs at h
  rw [hk, if_neg hk0] at h
  exact h
theorem OwnS.len_eq {w : World} {base : Nat} {v : Value} {ls : List (List UInt8)} (h : OwnS w base v ls) : ∃ A c, v = .slice A ls.length c ∧ ls.length ≤ c ∧ Sees2 w w.heap.size A ls := h.open_

set_option maxRecDepth 100000 in
set_option maxHeartbeats 1600000 in
theorem ItemsBack_small (A B : Option Addr) (n m c d : Nat) (ls : List (List UInt8)) (r : List UInt8) (hn : ls.length = n) (hm : r.length = m) (hmd : m ≤ d) (hf : fewB ls = true) (hm5 : m ≤ 5000) (w : World) (hS : Sees2 w w.heap.size A ls) (hS2 : Sees w w.heap.size B (bv r)) :
    Calls Try.prog 4 #[.slice A n c, .slice B m d] w (IsTrue w) := by
  have hnot : ∀ (x : Bool) (w : World), (Op.unary .not (.bool x)).run Try.prog w = .ok (.bool (!x)) w := fun _ _ => rfl
  obtain ⟨h60, hall⟩ := few_yes hf
  have hn60 : n ≤ 60 := by omega
  have HF := Lib.hid hf
  have HN := Lib.hid hn
  have HM := Lib.hid hm
  clear hn hm hf hall h60
  go_enter Try.func4, Try.ntmps4
  go_wp2_with fail
  refine (awake_any w).mono ?_
  rintro e w1 ⟨rfl, hb1⟩
  have hs1 := hb1.size
  have hS1 := (hS.below hb1).more hs1
  have hT1 := (hS2.below hb1).more hs1
  have hFew := few_any A n c ls HN.out w1 hS1
  rw [HF.out] at hFew
  go_wp2_with fail
  refine hFew.mono ?_
  rintro e w2 ⟨rfl, rfl⟩
  clear hFew
  obtain ⟨u, x, hux⟩ : ∃ u x, unpackR r = (u, x) := ⟨_, _, rfl⟩
  have HU := Lib.hid (Unpack_at B m d r HM.out hmd (by omega) w1 hT1 u x hux)
  have HUX := Lib.hid hux
  clear hux
  go_wp2_with fail
  refine HU.out.mono ?_
  rintro e w2 ⟨v2, rfl, hown2, hb2⟩
  go_upto_if 37 with fail
  have hb02 : Below w.heap.size w w2 := hb1.trans (hb2.mono hs1)
  clear HU
  go_cut [10] (fun t wx => Below w.heap.size w wx)
  case first =>
    by_cases hx : x = 0
    · subst hx
      have hok := unpack_ok (b := r) (by rw [HUX.out])
      rw [HUX.out] at hok
      obtain ⟨hk0, hpk⟩ := hok
      simp only at hk0 hpk
      obtain ⟨A2, c2, rfl, hc2, hSu⟩ := hown2.open_
      have h8 := (check_ok hk0).1
      have hP := Lib.hid (Pack_at A2 u.length c2 u rfl w2 hSu (by omega) hk0 r hpk)
      clear hk0 hpk
      go_wp2_with fail
      refine hP.out.mono ?_
      rintro e w3 ⟨v3, rfl, hown3, hb3⟩
      obtain ⟨A3, c3, rfl, hc3, -, -, hS3⟩ := hown3.open_
      have hb23 : Below w1.heap.size w1 w3 := hb2.trans (hb3.mono hb2.size)
      have cv1 := run_str w3 _ A3 r.length c3 r hS3 rfl
      have cv2 := run_str w3 _ B m d r ((hT1.below hb23)) HM.out
      have hne := strOf_ne r
      generalize strOf r = s at cv1 cv2 hne
      have hb03 : Below w.heap.size w w3 := hb1.trans (hb23.mono hs1)
      go_wp2_with fail
      go_meet
      exact hb03
    · have hz : ((x : Int) == 0) = false := by rw [beq_eq_false_iff_ne]; omega
      clear hx
      go_wp2_with fail
      go_meet
      exact hb02
  case rest =>
    clear hown2 hb2 hb02 HUX
    have hsc := hcut.size
    have hSc := (hS.below hcut).more hsc
    by_cases hk0 : checkN ls = 0
    · obtain ⟨h1, h9⟩ := packB_len hk0
      have hub := unpack_back hk0
      have hul := unpack_long hk0
      have hus := unpack_short hk0
      obtain ⟨P, hP⟩ : ∃ P, packB ls = P := ⟨_, rfl⟩
      have hPk := Lib.hid (Pack_at A n c ls HN.out wc hSc (by omega) hk0 P hP)
      rw [hP] at h1 h9 hub hul hus
      have HB := Lib.hid hub
      have HL := Lib.hid hul
      have HS := Lib.hid hus
      clear hk0 hP hub hul hus
      go_wp2_with fail
      refine hPk.out.mono ?_
      rintro e w3 ⟨v3, rfl, hown3, hb3⟩
      obtain ⟨A3, c3, rfl, hc3, hm3, hown3', hS3⟩ := hown3.open_
      have hb03 : Below w.heap.size w w3 := hcut.trans (hb3.mono hsc)
      clear hPk
      have hU1 := Lib.hid (Unpack_at A3 P.length c3 P rfl hc3 (by omega) w3 hS3 ls 0 HB.out)
      go_wp2_with fail
      refine hU1.out.mono ?_
      rintro e w4 ⟨v4, rfl, hown4, hb4⟩
      have hs4 := hb4.size
      have hS4 := (hS3.below hb4).more hs4
      obtain ⟨A4, c4, rfl, hc4, hQ4⟩ := hown4.open_
      clear hU1
      have hdl : P.dropLast = P.take (P.length - 1) := List.dropLast_eq_take
      have hdn : (P.take (P.length - 1)).length = P.length - 1 := by rw [List.length_take]; omega
      have hU2 := Lib.hid (Unpack_at A3 (P.length - 1) c3 (P.take (P.length - 1)) hdn (by omega) (by omega) w4 (by rw [bv_take]; exact hS4.take _) [] 10 (by rw [← hdl]; exact HS.out))
      clear hdl hdn
      have hsub : IntKind.i64.wrap ((P.length : Int) - 1) = ((P.length - 1 : Nat) : Int) := by rw [IntKind.wrap_i64]; omega
      have hsb1 : (0 : Int) ≤ ((P.length - 1 : Nat) : Int) := by omega
      have hsb2 : ((P.length - 1 : Nat) : Int) ≤ (c3 : Int) := by omega
      go_wp2_with fail
      refine hU2.out.mono ?_
      rintro e w5 ⟨v5, rfl, hown5, hb5⟩
      clear hU2 hsub hsb1 hsb2 hown5
      have hb45 : Below w3.heap.size w3 w5 := hb4.trans (hb5.mono hs4)
      have hS5 := (hS3.below hb45).more hb45.size
      have hQ5 := hQ4.below hb5
      go_wp2_with (first
        | (at_builtin
           refine wpList_append_b rfl (.tmp 83) (.tmp 84) rfl w5.heap.size (.slice (some ⟨w5.heap.size, 0, none⟩) 0 0) [] (by rfl) (OwnB.new _ _ (Nat.le_refl _) [] 0 rfl _ rfl (by simp [maxLen])) w5.heap.size A3 P.length c3 P (by rfl) rfl (hS5.alloc (Nat.le_refl _) _) (by simp; omega) (by simp) ?_
           intro v6 w6 hown6 hon6
           have hb6 : Below w5.heap.size w5 w6 := ((Onto.new w5 (.cells #[] 5) (.slice none 0 0) 0 0).trans hon6).below_nil)
        | (at_builtin
           refine wpList_append_b rfl (.tmp 85) (.tmp 86) rfl w5.heap.size v6 P (by rfl) (hown6.alloc _) (w6.heap.size + 1) _ 1 _ [0] (by rfl) rfl (sees_new _ _ _ _ (by simp [bv])) (by simp; omega) (by have := hb6.size; simp; omega) ?_
           intro v7 w7 hown7 hon7
           have hb7 : Below w5.heap.size w5 w7 := hb6.trans (((Onto.of_alloc _ _ _).trans hon7).below hb6.size (hown6.block))))
      obtain ⟨A7, c7, rfl, hc7, hm7, hown7', hS7⟩ := hown7.open_
      have hU3 := Lib.hid (Unpack_at A7 (P ++ [0]).length c7 (P ++ [0]) rfl hc7 (by simp; omega) w7 hS7 [] 11 HL.out)
      have hb57 := hb7
      have hQ7 := (hQ5.below (hb57.mono hb5.size)).more (Nat.le_trans hb5.size hb57.size)
      have hb37 : Below w3.heap.size w3 w7 := hb45.trans (hb57.mono hb45.size)
      clear hown7 hown7' hS7 hb6 hb7 hS5 hQ5
      go_wp2_with fail
      refine hU3.out.mono ?_
      rintro e w8 ⟨v8, rfl, hown8, hb8⟩
      have hb38 : Below w3.heap.size w3 w8 := hb37.trans (hb8.mono hb37.size)
      have hb08 : Below w.heap.size w w8 := hb03.trans (hb38.mono hb03.size)
      have hsm := Lib.hid (Same_any A4 A ls.length c4 n c ls ls rfl HN.out w8 ((hQ7.below hb8).more hb8.size) ((hS.below hb08).more hb08.size) (by have := HN.out; omega))
      unfold BoolIs at hsm
      rw [show (ls == ls) = true from by simp] at hsm
      go_wp2_with fail
      refine hsm.out.mono ?_
      rintro e w9 ⟨rfl, q, rfl⟩
      go_wp2
      go_ret
      exact ⟨rfl, below_d hb08 _⟩
    · obtain ⟨k, hk⟩ : ∃ k, checkN ls = k := ⟨_, rfl⟩
      rw [hk] at hk0
      have hPn := Lib.hid (Pack_no A n c ls HN.out wc hSc (by omega) k hk hk0)
      have hCk := fun w' h => Lib.hid (Check_any A n c ls HN.out w' h (by omega))
      unfold NumIs at hCk
      rw [hk] at hCk
      have hz : ((k : Int) != 0) = true := by rw [bne_iff_ne]; omega
      clear hk hk0
      go_wp2_with fail
      refine hPn.out.mono ?_
      rintro e w3 ⟨v3, rfl, hown3, hb3⟩
      obtain ⟨A3, c3, rfl, -, -, -, -⟩ := hown3.open_
      have hb03 : Below w.heap.size w w3 := hcut.trans (hb3.mono hsc)
      have hC3 := hCk w3 ((hS.below hb03).more hb03.size)
      clear hCk
      go_wp2_with fail
      refine hC3.out.mono ?_
      rintro e w4 ⟨rfl, q, rfl⟩
      go_wp2
      go_ret
      exact ⟨by simp, below_d hb03 _⟩

set_option maxRecDepth 100000 in
set_option maxHeartbeats 400000 in
theorem ItemsBack_any (A B : Option Addr) (n m c d : Nat) (ls : List (List UInt8)) (r : List UInt8) (hn : ls.length = n) (hm : r.length = m) (hmd : m ≤ d) (w : World) (hS : Sees2 w w.heap.size A ls) (hS2 : Sees w w.heap.size B (bv r)) :
    Calls Try.prog 4 #[.slice A n c, .slice B m d] w (IsTrue w) := by
  obtain ⟨b, hb⟩ : ∃ b, fewB ls = b := ⟨_, rfl⟩
  have hnot : ∀ (x : Bool) (w : World), (Op.unary .not (.bool x)).run Try.prog w = .ok (.bool (!x)) w := fun _ _ => rfl
  have hF := fun (w : World) (h : Sees2 w w.heap.size A ls) => few_any A n c ls hn w h
  cases b with
  | true =>
    by_cases h2 : m ≤ 5000
    · exact ItemsBack_small A B n m c d ls r hn hm hmd hb h2 w hS hS2
    · have h2' : (5000 : Int) < (m : Int) := by omega
      rw [hb] at hF
      have HF := Lib.hid hF
      clear hn hm hb hF hS2
      go_enter Try.func4, Try.ntmps4
      go_wp2_with fail
      refine (awake_any w).mono ?_
      rintro e w1 ⟨rfl, hb1⟩
      go_wp2_with fail
      refine (HF.out w1 ((hS.below hb1).more hb1.size)).mono ?_
      rintro e w2 ⟨rfl, rfl⟩
      go_wp2_with fail
      go_ret
      exact ⟨rfl, hb1⟩
  | false =>
    rw [hb] at hF
    have HF := Lib.hid hF
    clear hn hm hb hF hS2
    go_enter Try.func4, Try.ntmps4
    go_wp2_with fail
    refine (awake_any w).mono ?_
    rintro e w1 ⟨rfl, hb1⟩
    go_wp2_with fail
    refine (HF.out w1 ((hS.below hb1).more hb1.size)).mono ?_
    rintro e w2 ⟨rfl, rfl⟩
    go_wp2_with fail
    go_ret
    exact ⟨rfl, hb1⟩
end Go.Proofs.Ytnjchdehjinooaa
