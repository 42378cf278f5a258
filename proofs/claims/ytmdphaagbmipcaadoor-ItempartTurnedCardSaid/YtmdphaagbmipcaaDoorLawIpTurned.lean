/-
  The law ItempartTurned, walked: a file with a bit turned is none, or another's.
-/
import Derived.Test.YtmdphaagbmipcaaDoorLawIpBack
namespace Go.Proofs.YtmdphaagbmipcaaDoor
open Go.RowKit

theorem strOf_ne_of {a b : List UInt8} (h : a ≠ b) : ((strOf a).toList != (strOf b).toList) = true := by
  rw [bne, strOf_eq, decide_eq_false h]; rfl

set_option maxRecDepth 100000 in
set_option maxHeartbeats 1600000 in
theorem ItempartTurned_small (A : Option Addr) (n c : Nat) (ls : List Item) (at' : Int) (bit : UInt8) (hn : ls.length = n) (hnc : n ≤ c) (hf : fewB ls = true) (w : World) (hS : Sees2 w w.heap.size A ls) (hH : Halves w) :
    Calls Tryd.prog 6 #[.slice A n c, .int .i64 at', .int .u8 (bit.toNat : Int)] w (IsTrue w) := by
  have hnot : ∀ (x : Bool) (w : World), (Op.unary .not (.bool x)).run Tryd.prog w = .ok (.bool (!x)) w := fun _ _ => rfl
  obtain ⟨h100, -⟩ := few_yes hf
  have hn100 : n ≤ 100 := by omega
  have hg0 := hH.1
  have HF := Lib.hid hf
  have HN := Lib.hid hn
  by_cases hb : buildE ls = 0
  · obtain ⟨hF4, hF6⟩ := file_len hb h100
    obtain ⟨F, hFe⟩ : ∃ F, fileB ls = F := ⟨_, rfl⟩
    obtain ⟨N, hNe⟩ : ∃ N, F.length = N := ⟨_, rfl⟩
    rw [hFe] at hF4 hF6
    rw [hNe] at hF4 hF6
    have ea := and65535 at'
    obtain ⟨x, hx⟩ : ∃ x, at' % 65536 = x := ⟨_, rfl⟩
    rw [hx] at ea
    have hx0 : 0 ≤ x := by omega
    have hF0 : 1 ≤ (N : Int) := by omega
    obtain ⟨k, hk⟩ : ∃ k : Nat, x % (N : Int) = (k : Int) := ⟨(x % (N : Int)).toNat, by have := Int.emod_nonneg x (show (N : Int) ≠ 0 by omega); omega⟩
    have hkF : k < N := by have := Int.emod_lt_of_pos x (show (0 : Int) < (N : Int) by omega); omega
    have hxF : (F[k]?).isSome = true := by simp; omega
    obtain ⟨y, hy⟩ := Option.isSome_iff_exists.1 hxF
    obtain ⟨z, hz, hzy⟩ := turn_byte y bit
    have hGn : F.set k z ≠ F := fun e => by
      have h2 : (F.set k z)[k]? = some z := by rw [List.getElem?_set_self (by omega)]
      rw [e, hy] at h2
      injection h2 with h2
      exact hzy h2.symm
    obtain ⟨G, hG⟩ : ∃ G, F.set k z = G := ⟨_, rfl⟩
    have hGl : G.length = N := by rw [← hG, List.length_set, hNe]
    have hback : G.set k y = F := by
      rw [← hG, List.set_set]
      exact List.ext_getElem? fun j => by
        by_cases hj : k = j
        · subst hj; rw [List.getElem?_set_self (by omega), hy]
        · rw [List.getElem?_set_ne hj]
    rw [hG] at hGn
    have HB := Lib.hid hb
    have HFE := Lib.hid hFe
    have HNE := Lib.hid hNe
    have HG := Lib.hid hG
    have HGL := Lib.hid hGl
    have HBK := Lib.hid hback
    have HNEQ := Lib.hid (strOf_ne_of hGn)
    have HY := Lib.hid hy
    clear hn hf h100 hb hFe hNe hx hG hGl hback hGn hxF hzy hy
    go_enter Tryd.func6, Tryd.ntmps6
    go_wp2_with fail
    refine (awake_any w hH).mono ?_
    rintro e w1 ⟨rfl, hb1⟩
    have hs1 := hb1.size
    have hS1 := (hS.below hb1).more hs1
    have hH1 := hH.below hb1 hg0
    have hFew := few_any A n c ls HN.out w1 hS1
    rw [HF.out] at hFew
    have hBu := Lib.hid (Build_good A n c ls HN.out hnc w1 hS1 hH1 (by omega) HB.out)
    go_wp2_with fail
    refine hFew.mono ?_
    rintro e w2 ⟨rfl, rfl⟩
    clear hFew
    go_wp2_with fail
    refine hBu.out.mono ?_
    rintro e w3 ⟨v3, rfl, hown3, hb3⟩
    rw [HFE.out] at hown3
    obtain ⟨A3, c3, rfl, hc3, hm3, hown3', hS3⟩ := hown3.open_
    rw [HNE.out] at hc3 hown3' ⊢
    obtain ⟨g, rfl, hg1, hg2⟩ := own_at hown3' (by have := HNE.out; omega)
    have hb03 := hb1.trans (hb3.mono hs1)
    have hrow3 : w3.ownsRow w1.heap.size 5 1 (.slice (some ⟨g, 0, none⟩) N c3) N (bv F) := by have h1 := hown3'; unfold OwnB at h1; rw [HNE.out] at h1; exact h1
    have hc0 := World.ownsRow.cellAt hrow3 k (by omega)
    have hf0 := World.ownsRow.frozenAt hrow3 k
    rw [show (bv F)[k]? = some (.int .u8 (y.toNat : Int)) from by simp [bv, HY.out]] at hc0
    have hownS := OwnB.stored hrow3 HNE.out k z
    rw [HG.out] at hownS
    have hbS : Below w.heap.size w (w3.setCell ⟨g, k, none⟩ (.int .u8 (z.toNat : Int))) := hb03.setCell (by simp only []; omega) _
    have hkN : (k : Int) < (N : Int) := by omega
    clear hBu hown3 hb3 hown3' hS3
    go_wp2_with fail
    generalize w3.setCell ⟨g, k, none⟩ (.int .u8 (z.toNat : Int)) = w5 at hownS hbS
    have hs5 := hbS.size
    have hH5 := hH.below hbS hg0
    have hseeG : Sees w5 w5.heap.size (some ⟨g, 0, none⟩) (bv G) := by have := hownS.open_; obtain ⟨A', c', e, -, -, -, h⟩ := this; injection e with e; subst e; exact h
    have hg5 : g < w5.heap.size := (World.ownsRow.lt hownS g rfl).2
    clear hS1 hb1 hS hrow3 hc0 hf0
    cases hop : openB G with
    | none =>
      have hO := Lib.hid (Open_bad (some ⟨g, 0, none⟩) N c3 G HGL.out hc3 (by omega) w5 hseeG hH5 hop)
      clear hop
      refine hO.out.mono ?_
      rintro e w6 ⟨rfl, hb6⟩
      go_wp2_with fail
      go_ret
      exact ⟨by simp, hbS.trans (hb6.mono hs5)⟩
    | some ls' =>
      obtain ⟨hb', hf'⟩ := open_some hop
      have hO := Lib.hid (Open_good (some ⟨g, 0, none⟩) N c3 G HGL.out hc3 (by omega) w5 hseeG hH5 ls' hop)
      have HB' := Lib.hid hb'
      have HF' := Lib.hid hf'
      have hle := (buildE_ok hb').1
      clear hop hb' hf'
      refine hO.out.mono ?_
      rintro e w6 ⟨P, rfl, hp6', hb6⟩
      have hp6 : PartAt (fun k => k < w6.heap.size) w6 P ls' := hp6'.mono fun k e => e.2
      have hFr := From_part (Bx := none) (lx := 0) (dx := 0) (x := []) hp6 ⟨.inl rfl⟩ rfl 1073741824
      rw [fromL_nil, show ((1073741824 : Int)).toNat = 1073741824 from rfl, List.take_of_length_le (by omega)] at hFr
      have HFr := Lib.hid hFr
      clear hFr hO hp6'
      go_wp2_with fail
      refine HFr.out.mono ?_
      rintro e w7 hIs
      obtain ⟨A7, c7, rfl, hc7, hS7, hb7⟩ := hIs.open_
      have hb57 := hb6.trans (hb7.mono hb6.size)
      have hb07 := hbS.trans (hb57.mono hs5)
      obtain ⟨m, hm⟩ : ∃ m, ls'.length = m := ⟨_, rfl⟩
      rw [hm] at hc7 hle ⊢
      have hBu2 := Lib.hid (Build_good A7 m c7 ls' hm hc7 w7 hS7 (hH.below hb07 hg0) (by omega) HB'.out)
      clear hIs HFr hp6 hm hb6 hb7
      go_wp2_with fail
      refine hBu2.out.mono ?_
      rintro e w8 ⟨v8, rfl, hown8, hb8⟩
      rw [HF'.out] at hown8
      obtain ⟨A8, c8, rfl, hc8, -, hO8, hS8⟩ := hown8.open_
      rw [HGL.out] at hc8 ⊢
      have hb58 := hb57.trans (hb8.mono hb57.size)
      have hb08 := hbS.trans (hb58.mono hs5)
      have hown58 := hownS.below hb58
      have hrow8 : w8.ownsRow w1.heap.size 5 1 (.slice (some ⟨g, 0, none⟩) N c3) N (bv G) := by have h1 := hown58; unfold OwnB at h1; rw [HGL.out] at h1; exact h1
      have hc1 : (w8.cell? ⟨g, k, none⟩).isSome = true := by
        rw [World.ownsRow.cellAt hrow8 k (by omega)]
        simp [bv]; have := HGL.out; omega
      obtain ⟨u, hcu⟩ := Option.isSome_iff_exists.1 hc1
      have hf1 := World.ownsRow.frozenAt hrow8 k
      have hownE := OwnB.stored hrow8 HGL.out k y
      rw [HBK.out] at hownE
      have hbE : Below w.heap.size w (w8.setCell ⟨g, k, none⟩ (.int .u8 (y.toNat : Int))) := hb08.setCell (by simp only []; omega) _
      have hS8' : Sees (w8.setCell ⟨g, k, none⟩ (.int .u8 (y.toNat : Int))) (w8.setCell ⟨g, k, none⟩ (.int .u8 (y.toNat : Int))).heap.size A8 (bv G) := by
        have hk2 : Kept (fun j => w7.heap.size ≤ j ∧ j < w8.heap.size) w8 (w8.setCell ⟨g, k, none⟩ (.int .u8 (y.toNat : Int))) := fun j hj => other (by simp only; have := hb57.size; omega)
        exact ((ownB_seesM hO8).keep hk2).sees fun j hj => by rw [World.size_setCell]; exact hj.2
      have hS3' : Sees (w8.setCell ⟨g, k, none⟩ (.int .u8 (y.toNat : Int))) (w8.setCell ⟨g, k, none⟩ (.int .u8 (y.toNat : Int))).heap.size (some ⟨g, 0, none⟩) (bv F) := by
        obtain ⟨A', c', e, -, -, -, h⟩ := hownE.open_; injection e with e; subst e; exact h
      have cv1 := run_str _ _ A8 N c8 G hS8' HGL.out
      have cv2 := run_str _ _ (some ⟨g, 0, none⟩) N c3 F hS3' HNE.out
      have hne := HNEQ.out
      obtain ⟨s1, hs1'⟩ : ∃ s1, strOf G = s1 := ⟨_, rfl⟩
      obtain ⟨s2, hs2'⟩ : ∃ s2, strOf F = s2 := ⟨_, rfl⟩
      rw [hs1', hs2'] at hne
      rw [hs1'] at cv1
      rw [hs2'] at cv2
      clear hBu2 hown8 hownS hown58 hrow8 hc1 hS8 hO8 hs1' hs2' hS8' hS3' hownE
      go_wp2_with fail
      go_ret
      exact ⟨by simpa using hne, hbE⟩
  · obtain ⟨k, hk⟩ : ∃ k, buildE ls = k := ⟨_, rfl⟩
    rw [hk] at hb
    have HB := Lib.hid hb
    have HK := Lib.hid hk
    have hz : ((k : Int) != 0) = true := by rw [bne_iff_ne]; omega
    clear hn hf h100 hb hk
    go_enter Tryd.func6, Tryd.ntmps6
    go_wp2_with fail
    refine (awake_any w hH).mono ?_
    rintro e w1 ⟨rfl, hb1⟩
    have hs1 := hb1.size
    have hS1 := (hS.below hb1).more hs1
    have hH1 := hH.below hb1 hg0
    have hFew := few_any A n c ls HN.out w1 hS1
    rw [HF.out] at hFew
    have hBu := Lib.hid (Build_bad A n c ls HN.out hnc w1 hS1 hH1 (by omega) k HK.out HB.out)
    go_wp2_with fail
    refine hFew.mono ?_
    rintro e w2 ⟨rfl, rfl⟩
    clear hFew
    go_wp2_with fail
    refine hBu.out.mono ?_
    rintro e w3 ⟨A', c', rfl, hb3⟩
    have hb03 := hb1.trans (hb3.mono hs1)
    go_wp2_with fail
    go_ret
    exact ⟨by simp, hb03⟩

set_option maxRecDepth 100000 in
set_option maxHeartbeats 400000 in
theorem ItempartTurned_any (A : Option Addr) (n c : Nat) (ls : List Item) (at' : Int) (bit : UInt8) (hn : ls.length = n) (hnc : n ≤ c) (w : World) (hS : Sees2 w w.heap.size A ls) (hH : Halves w) :
    Calls Tryd.prog 6 #[.slice A n c, .int .i64 at', .int .u8 (bit.toNat : Int)] w (IsTrue w) := by
  obtain ⟨b, hb⟩ : ∃ b, fewB ls = b := ⟨_, rfl⟩
  have hnot : ∀ (x : Bool) (w : World), (Op.unary .not (.bool x)).run Tryd.prog w = .ok (.bool (!x)) w := fun _ _ => rfl
  have hF := fun (w : World) (h : Sees2 w w.heap.size A ls) => few_any A n c ls hn w h
  cases b with
  | true => exact ItempartTurned_small A n c ls at' bit hn hnc hb w hS hH
  | false =>
    rw [hb] at hF
    have HF := Lib.hid hF
    clear hn hb hF
    go_enter Tryd.func6, Tryd.ntmps6
    go_wp2_with fail
    refine (awake_any w hH).mono ?_
    rintro e w1 ⟨rfl, hb1⟩
    go_wp2_with fail
    refine (HF.out w1 ((hS.below hb1).more hb1.size)).mono ?_
    rintro e w2 ⟨rfl, rfl⟩
    go_wp2_with fail
    go_ret
    exact ⟨rfl, hb1⟩
end Go.Proofs.YtmdphaagbmipcaaDoor
