/-
  The law ItempartBack, walked: what is built is opened, and built again it is the same; cut short, or with more behind, it is none.
-/
import Derived.Test.YtmdphaagbmipcaaDoorIpTurn
namespace Go.Proofs.YtmdphaagbmipcaaDoor
open Go.RowKit

set_option maxRecDepth 100000 in
set_option maxHeartbeats 1600000 in
theorem ItempartBack_small (A : Option Addr) (n c : Nat) (ls : List Item) (cut : Int) (hn : ls.length = n) (hnc : n ≤ c) (hf : fewB ls = true) (w : World) (hS : Sees2 w w.heap.size A ls) (hH : Halves w) :
    Calls Tryd.prog 5 #[.slice A n c, .int .i64 cut] w (IsTrue w) := by
  have hnot : ∀ (x : Bool) (w : World), (Op.unary .not (.bool x)).run Tryd.prog w = .ok (.bool (!x)) w := fun _ _ => rfl
  obtain ⟨h100, -⟩ := few_yes hf
  have hn100 : n ≤ 100 := by omega
  have hg0 := hH.1
  have HF := Lib.hid hf
  have HN := Lib.hid hn
  by_cases hb : buildE ls = 0
  · obtain ⟨hF4, hF6⟩ := file_len hb h100
    have hop := open_file hb
    have hcu := fun k hk => open_cut hb (k := k) hk
    have hmo := open_more hb 0
    obtain ⟨F, hFe⟩ : ∃ F, fileB ls = F := ⟨_, rfl⟩
    obtain ⟨N, hNe⟩ : ∃ N, F.length = N := ⟨_, rfl⟩
    rw [hFe] at hop hmo hF4 hF6
    rw [hNe] at hF4 hF6
    simp only [hFe, hNe] at hcu
    have ea := and65535 cut
    obtain ⟨x, hx⟩ : ∃ x, cut % 65536 = x := ⟨_, rfl⟩
    rw [hx] at ea
    have hx0 : 0 ≤ x := by omega
    have hF0 : 1 ≤ (N : Int) := by omega
    obtain ⟨k, hk⟩ : ∃ k : Nat, x % (N : Int) = (k : Int) := ⟨(x % (N : Int)).toNat, by have := Int.emod_nonneg x (show (N : Int) ≠ 0 by omega); omega⟩
    have hkF : k < N := by have := Int.emod_lt_of_pos x (show (0 : Int) < (N : Int) by omega); omega
    have HC := Lib.hid (hcu k hkF)
    have HB := Lib.hid hb
    have HFE := Lib.hid hFe
    have HNE := Lib.hid hNe
    have HOP := Lib.hid hop
    have HMO := Lib.hid hmo
    have hadd : IntKind.i64.wrap ((n : Int) + 5) = ((n + 5 : Nat) : Int) := by rw [IntKind.wrap_i64]; omega
    have hlsn : ls.take (n + 5) = ls := List.take_of_length_le (by omega)
    have HLS := Lib.hid hlsn
    clear hn hf h100 hb hFe hNe hop hmo hcu hx hlsn
    go_enter Tryd.func5, Tryd.ntmps5
    go_wp2_with fail
    refine (awake_any w hH).mono ?_
    rintro e w1 ⟨rfl, hb1⟩
    have hs1 := hb1.size
    have hS1 := (hS.below hb1).more hs1
    have hH1 := hH.below hb1 hg0
    have hFew := few_any A n c ls HN.out w1 hS1
    rw [HF.out] at hFew
    have hBu := Lib.hid (Build_good A n c ls HN.out hnc w1 hS1 hH1 (by omega) HB.out)
    go_wp2_with fail
    refine hFew.mono ?_
    rintro e w2 ⟨rfl, rfl⟩
    clear hFew
    go_wp2_with fail
    refine hBu.out.mono ?_
    rintro e w3 ⟨v3, rfl, hown3, hb3⟩
    rw [HFE.out] at hown3
    obtain ⟨A3, c3, rfl, hc3, hm3, -, hS3⟩ := hown3.open_
    rw [HNE.out] at hc3 ⊢
    have hb03 := hb1.trans (hb3.mono hs1)
    have hO := Lib.hid (Open_good A3 N c3 F HNE.out hc3 (by omega) w3 hS3 (hH.below hb03 hg0) ls HOP.out)
    clear hBu hown3 hb3
    go_wp2_with fail
    refine hO.out.mono ?_
    rintro e w4 ⟨P, rfl, hp4', hb4⟩
    have hp4 : PartAt (fun k => k < w4.heap.size) w4 P ls := hp4'.mono fun k e => e.2
    have hFr := From_part (Bx := none) (lx := 0) (dx := 0) (x := []) hp4 ⟨.inl rfl⟩ rfl ((n + 5 : Nat) : Int)
    rw [fromL_nil, show (((n + 5 : Nat) : Int)).toNat = n + 5 from by omega, HLS.out] at hFr
    have HFr := Lib.hid hFr
    clear hFr hO hp4'
    go_wp2_with fail
    refine HFr.out.mono ?_
    rintro e w5 hIs
    obtain ⟨A5, c5, rfl, hc5, hS5, hb5⟩ := hIs.open_
    rw [HN.out] at hc5 ⊢
    have hb35 := hb4.trans (hb5.mono hb4.size)
    have hb05 := hb03.trans (hb35.mono hb03.size)
    have hBu2 := Lib.hid (Build_good A5 n c5 ls HN.out hc5 w5 hS5 (hH.below hb05 hg0) (by omega) HB.out)
    clear hIs HFr hp4 hb4 hb5
    go_wp2_with fail
    refine hBu2.out.mono ?_
    rintro e w6 ⟨v6, rfl, hown6, hb6⟩
    rw [HFE.out] at hown6
    obtain ⟨A6, c6, rfl, hc6, -, -, hS6⟩ := hown6.open_
    rw [HNE.out] at hc6 ⊢
    have hb36 := hb35.trans (hb6.mono hb35.size)
    have hb06 := hb03.trans (hb36.mono hb03.size)
    have hS36 := (hS3.below hb36).more hb36.size
    have hO2 := Lib.hid (Open_bad A3 k c3 (F.take k) (by rw [List.length_take, HNE.out]; omega) (by omega) (by omega) w6 (by rw [bv_take]; exact hS36.take _) (hH.below hb06 hg0) HC.out)
    have hkc : (k : Int) ≤ (c3 : Int) := by omega
    clear hBu2 hown6
    go_wp2_with fail
    refine hO2.out.mono ?_
    rintro e w7 ⟨rfl, hb7⟩
    have hb37 := hb36.trans (hb7.mono hb36.size)
    have hS37 := (hS3.below hb37).more hb37.size
    clear hO2 hS36 hkc
    go_wp2_with (first
      | (at_builtin
         refine wpList_append_b rfl (.tmp 68) (.tmp 69) rfl w7.heap.size (.slice (some ⟨w7.heap.size, 0, none⟩) 0 0) [] (by rfl) (OwnB.new _ _ (Nat.le_refl _) [] 0 rfl _ rfl (by simp [maxLen])) w7.heap.size A3 N c3 F (by rfl) HNE.out (hS37.alloc (Nat.le_refl _) _) (by have := HNE.out; simp; omega) (by simp) ?_
         intro v8 w8 hown8 hon8
         have hb8 : Below w7.heap.size w7 w8 := ((Onto.new w7 (.cells #[] 5) (.slice none 0 0) 0 0).trans hon8).below_nil)
      | (at_builtin
         refine wpList_append_b rfl (.tmp 70) (.tmp 71) rfl w7.heap.size v8 F (by rfl) (hown8.alloc _) (w8.heap.size + 1) _ 1 _ [0] (by rfl) rfl (sees_new _ _ _ _ (by simp [bv])) (by have := HNE.out; simp; omega) (by have := hb8.size; simp; omega) ?_
         intro v9 w9 hown9 hon9
         have hb9 : Below w7.heap.size w7 w9 := hb8.trans (((Onto.of_alloc _ _ _).trans hon9).below hb8.size (hown8.block))))
    obtain ⟨A9, c9, rfl, hc9, -, -, hS9⟩ := hown9.open_
    have hb39 := hb37.trans (hb9.mono hb37.size)
    have hb09 := hb03.trans (hb39.mono hb03.size)
    have hO3 := Lib.hid (Open_bad A9 (F ++ [0]).length c9 (F ++ [0]) rfl hc9 (by have := HNE.out; simp; omega) w9 hS9 (hH.below hb09 hg0) HMO.out)
    have hb59 : Below w5.heap.size w5 w9 := hb6.trans ((hb7.trans (hb9.mono hb7.size)).mono hb6.size)
    have hb69 : Below w6.heap.size w6 w9 := hb7.trans (hb9.mono hb7.size)
    clear hown8 hown9 hon8 hon9 hb8 hS37
    go_wp2_with fail
    refine hO3.out.mono ?_
    rintro e wa ⟨rfl, hba⟩
    have hb0a := hb09.trans (hba.mono hb09.size)
    have hb5a := hb59.trans (hba.mono hb59.size)
    have hb6a := hb69.trans (hba.mono hb69.size)
    have hb3a := hb39.trans (hba.mono hb39.size)
    have hsm := Same_any A5 A n c5 n c ls ls HN.out HN.out wa ((hS5.below hb5a).more hb5a.size) ((hS.below hb0a).more hb0a.size) (by omega)
    unfold BoolIs at hsm
    rw [show (ls == ls) = true from by simp] at hsm
    have HSM := Lib.hid hsm
    clear hO3 hsm
    go_wp2_with fail
    refine HSM.out.mono ?_
    rintro e wb ⟨rfl, q, hwb⟩
    have hbb : Below wa.heap.size wa wb := by rw [hwb]; exact below_d (Below.refl _ _) _
    have cv1 := run_str wb _ A6 N c6 F ((hS6.below (hb6a.trans (hbb.mono hb6a.size))).more (by have := hb6a.size; have := hbb.size; omega)) HNE.out
    have cv2 := run_str wb _ A3 N c3 F ((hS3.below (hb3a.trans (hbb.mono hb3a.size))).more (by have := hb3a.size; have := hbb.size; omega)) HNE.out
    obtain ⟨str, hstr⟩ : ∃ str, strOf F = str := ⟨_, rfl⟩
    rw [hstr] at cv1 cv2
    have hb0b := hb0a.trans (hbb.mono hb0a.size)
    clear hwb HSM hstr
    go_wp2_with fail
    go_ret
    exact ⟨by simp, hb0b⟩
  · obtain ⟨k, hk⟩ : ∃ k, buildE ls = k := ⟨_, rfl⟩
    rw [hk] at hb
    have HB := Lib.hid hb
    have HK := Lib.hid hk
    have hz : ((k : Int) != 0) = true := by rw [bne_iff_ne]; omega
    clear hn hf h100 hb hk
    go_enter Tryd.func5, Tryd.ntmps5
    go_wp2_with fail
    refine (awake_any w hH).mono ?_
    rintro e w1 ⟨rfl, hb1⟩
    have hs1 := hb1.size
    have hS1 := (hS.below hb1).more hs1
    have hH1 := hH.below hb1 hg0
    have hFew := few_any A n c ls HN.out w1 hS1
    rw [HF.out] at hFew
    have hBu := Lib.hid (Build_bad A n c ls HN.out hnc w1 hS1 hH1 (by omega) k HK.out HB.out)
    go_wp2_with fail
    refine hFew.mono ?_
    rintro e w2 ⟨rfl, rfl⟩
    clear hFew
    go_wp2_with fail
    refine hBu.out.mono ?_
    rintro e w3 ⟨A', c', rfl, hb3⟩
    have hb03 := hb1.trans (hb3.mono hs1)
    go_wp2_with fail
    go_ret
    exact ⟨by simp, hb03⟩

set_option maxRecDepth 100000 in
set_option maxHeartbeats 400000 in
theorem ItempartBack_any (A : Option Addr) (n c : Nat) (ls : List Item) (cut : Int) (hn : ls.length = n) (hnc : n ≤ c) (w : World) (hS : Sees2 w w.heap.size A ls) (hH : Halves w) :
    Calls Tryd.prog 5 #[.slice A n c, .int .i64 cut] w (IsTrue w) := by
  obtain ⟨b, hb⟩ : ∃ b, fewB ls = b := ⟨_, rfl⟩
  have hnot : ∀ (x : Bool) (w : World), (Op.unary .not (.bool x)).run Tryd.prog w = .ok (.bool (!x)) w := fun _ _ => rfl
  have hF := fun (w : World) (h : Sees2 w w.heap.size A ls) => few_any A n c ls hn w h
  cases b with
  | true => exact ItempartBack_small A n c ls cut hn hnc hb w hS hH
  | false =>
    rw [hb] at hF
    have HF := Lib.hid hF
    clear hn hb hF
    go_enter Tryd.func5, Tryd.ntmps5
    go_wp2_with fail
    refine (awake_any w hH).mono ?_
    rintro e w1 ⟨rfl, hb1⟩
    go_wp2_with fail
    refine (HF.out w1 ((hS.below hb1).more hb1.size)).mono ?_
    rintro e w2 ⟨rfl, rfl⟩
    go_wp2_with fail
    go_ret
    exact ⟨rfl, hb1⟩
end Go.Proofs.YtmdphaagbmipcaaDoor
