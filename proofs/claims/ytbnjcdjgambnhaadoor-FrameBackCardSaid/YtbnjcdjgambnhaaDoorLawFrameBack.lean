/-
  The law FrameBack, walked: frames one behind the other are taken.
-/
import Derived.Test.YtbnjcdjgambnhaaDoorLawFrameKinds
namespace Go.Proofs.YtbnjcdjgambnhaaDoor
open Go.RowKit

/-- A slice of slices of bytes. -/
structure Sees2 (w : World) (B : Nat) (A : Option Addr) (ls : List (List UInt8)) : Prop where
  out : ∀ i (hi : i < ls.length), ∃ ad Ai ci, A = some ad ∧ ad.block < B ∧ w.cell? (ad.add i) = some (.slice Ai (ls[i]).length ci) ∧ (ls[i]).length ≤ ci ∧ Sees w B Ai (bv ls[i])
theorem Sees2.below {w w' : World} {B : Nat} {A : Option Addr} {ls : List (List UInt8)} (h : Sees2 w B A ls) (hb : Below B w w') : Sees2 w' B A ls :=
  ⟨fun i hi => by
    obtain ⟨ad, Ai, ci, h1, h2, h3, h4, h5⟩ := h.out i hi
    exact ⟨ad, Ai, ci, h1, h2, (hb.cell (by rw [add_block]; exact h2)).trans h3, h4, h5.below hb⟩⟩

theorem OwnB.drewN {w : World} {base : Nat} {v : Value} {l : List UInt8} (h : OwnB w base v l) (k : Nat) : OwnB (w.drewN k) base v l := h

/-- Frames, one behind the other, of the kinds that follow. -/
def framesFrom (kind : Int) : Nat → List (List UInt8) → List UInt8
  | _, [] => []
  | i, l :: r => makeK (kb (kind + i)) l ++ framesFrom kind (i + 1) r
theorem framesFrom_at (kind : Int) (ls : List (List UInt8)) (k : Nat) (h : k < ls.length) : framesFrom kind k (ls.drop k) = makeK (kb (kind + k)) ls[k] ++ framesFrom kind (k + 1) (ls.drop (k + 1)) := by
  rw [List.drop_eq_getElem_cons h]
  rfl
theorem framesFrom_end (kind : Int) (ls : List (List UInt8)) (k : Nat) (h : ls.length ≤ k) : framesFrom kind k (ls.drop k) = [] := by
  rw [List.drop_eq_nil_of_le h]
  rfl

theorem kind_add (kind : Int) (i : Nat) (hi : i ≤ 20) (h1 : -9223372036854775808 ≤ kind) (h2 : kind ≤ 9223372036854775807) :
    bits .and .i64 (wrap64 (kind + (i : Int))) 255 = (kind + i) % 256 ∧ bits .and .i64 (wrap64 (wrap64 (kind + (i : Int)) + 1)) 255 = (kind + i + 1) % 256 := by
  unfold wrap64
  rw [and255 _ (by omega) (by omega), and255 _ (by omega) (by omega)]
  omega

set_option maxRecDepth 100000 in
set_option maxHeartbeats 1600000 in
theorem FrameBack_small (kind : Int) (hk1 : -9223372036854775808 ≤ kind) (hk2 : kind ≤ 9223372036854775807) (A B : Option Addr) (n c m d : Nat) (ls : List (List UInt8)) (r : List UInt8) (hn : ls.length = n) (hm : r.length = m) (hn20 : n ≤ 20) (hm100 : m ≤ 100) (w : World) (hS : Sees2 w w.heap.size A ls) (hS2 : Sees w w.heap.size B (bv r)) (hH : Halves w) :
    Calls Tryd.prog 4 #[.slice A n c, .int .i64 kind, .slice B m d] w (IsTrue w) := by
  have hnot : ∀ (x : Bool) (w : World), (Op.unary .not (.bool x)).run Tryd.prog w = .ok (.bool (!x)) w := fun _ _ => rfl
  have HN := Lib.hid hn
  have HM := Lib.hid hm
  have HK := Lib.hid hk1
  have HK2 := Lib.hid hk2
  clear hn hm hk1 hk2
  go_enter Tryd.func4, Tryd.ntmps4
  go_wp2_with fail
  refine (awake_any w hH).mono ?_
  rintro e w1 ⟨rfl, hb1⟩
  have hs1 := hb1.size
  have hS1 := (hS.below hb1)
  have hH1 := hH.below hb1 hH.1
  go_wp2_with fail
  go_loopg [8, 9] n (fun g b i wr => ∃ (k : Nat) (X : List UInt8), k + g = n ∧ i = .int .i64 k ∧ OwnB wr w1.heap.size b X ∧ X.length ≤ 600 * k ∧ Aside (X ++ framesFrom kind k (ls.drop k) = framesFrom kind 0 ls) ∧ Hid (∀ j (hj : j < ls.length), j < k → (ls[j]).length ≤ 500) ∧ Below w1.heap.size w1 wr)
  case atStart => exact ⟨0, [], by omega, rfl, OwnB.nil _ _, by simp, rfl, (fun j hj h0 => absurd h0 (by omega)), Below.refl _ _⟩
  case round =>
    obtain ⟨k, X, hk, rfl, hX, hXl, hcat, hsm, hbr⟩ := hrel
    have hbw : Below w.heap.size w wr := hb1.trans (hbr.mono hs1)
    have hsr := hbr.size
    by_cases hlt : k < n
    · obtain ⟨ad, Ai, ci, rfl, hadB, hcell, hci, hsee⟩ := (hS.below hbw).out k (by have := HN.out; omega)
      have hfr := Lib.hid (framesFrom_at kind ls k (by have := HN.out; omega))
      obtain ⟨L, hL⟩ : ∃ L, ls[k]'(by have := HN.out; omega) = L := ⟨_, rfl⟩
      rw [hL] at hcell hci hsee hfr
      have HL := Lib.hid hL
      clear hL
      by_cases hbig : 500 < L.length
      · go_wp2
        go_ret
        exact ⟨rfl, hbw⟩
      obtain ⟨ea, eb⟩ := kind_add kind k (by omega) HK.out HK2.out
      obtain ⟨a, ha⟩ : ∃ a, (kind + k) % 256 = a := ⟨_, rfl⟩
      obtain ⟨b, hb⟩ : ∃ b, (kind + k + 1) % 256 = b := ⟨_, rfl⟩
      rw [ha] at ea
      rw [hb] at eb
      have hmk := Lib.hid (Make_kb (kind + k) a ha.symm Ai L.length ci L rfl wr (hsee.more hbw.size) (hH.below hbw hH.1) (by omega))
      have hFl : (makeK (kb (kind + k)) L).length ≤ 600 := by rw [makeK_len]; have := venc_len (u := L.length) (by unfold Is64; omega); omega
      have hF1 : fonly (makeK (kb (kind + k)) L) a = (L, 0) := by rw [fonly_make _ _ (by omega), if_pos (by rw [kb_toNat, ha])]
      have hF2 : fonly (makeK (kb (kind + k)) L) b = ([], 11) := by rw [fonly_make _ _ (by omega), if_neg (by rw [kb_toNat]; omega)]
      have HF1 := Lib.hid hF1
      have HF2 := Lib.hid hF2
      clear hF1 hF2 ha hb
      generalize makeK (kb (kind + k)) L = F at hmk hFl HF1 HF2 hfr
      go_wp2_with fail
      refine hmk.out.mono ?_
      rintro e w2 ⟨v2, rfl, hown2, hb2⟩
      obtain ⟨A2, c2, rfl, hc2, -, -, hsee2⟩ := hown2.open_
      have hb02 : Below w.heap.size w w2 := hbw.trans (hb2.mono hbw.size)
      clear hown2
      go_wp2_with fail
      refine (Only_any A2 _ c2 F a rfl hc2 w2 hsee2 (hH.below hb02 hH.1) (by omega)).mono ?_
      rw [HF1.out]
      rintro e w3 ⟨A3, n3, c3, rfl, hn3, hc3, hm3, hb3⟩
      simp only at hn3 hm3
      subst hn3
      have hb03 : Below w.heap.size w w3 := hb02.trans (hb3.mono hb02.size)
      go_wp2_with fail
      refine (Only_any A2 _ c2 F b rfl hc2 w3 ((hsee2.below hb3).more hb3.size) (hH.below hb03 hH.1) (by omega)).mono ?_
      rw [HF2.out]
      rintro e w4 ⟨A4, n4, c4, rfl, hn4, -, -, hb4⟩
      simp only at hn4
      subst hn4
      have hb04 : Below w.heap.size w w4 := hb03.trans (hb4.mono hb03.size)
      have hcell4 : w4.cell? (ad.add k) = some (.slice Ai L.length ci) := ((hb2.trans (hb3.mono hb2.size)).trans (hb4.mono (Nat.le_trans hb2.size hb3.size)) |>.cell (by rw [add_block]; have := hbw.size; omega)).trans hcell
      have hs3 := (hm3.sees.below hb4)
      have hs4 := (hsee.below (((hb2.trans (hb3.mono hb2.size)).trans (hb4.mono (Nat.le_trans hb2.size hb3.size))).mono hbw.size))
      have cv1 := fun q => run_str (w4.drewN q) _ A3 L.length c3 L (hs3.drewN q) rfl
      have cv2 := fun q => run_str (w4.drewN q) _ Ai L.length ci L (hs4.drewN q) rfl
      go_wp2_with fail
      go_quiet (fail)
      have hbr4 : Below wr.heap.size wr w4 := (hb2.trans (hb3.mono hb2.size)).trans (hb4.mono (Nat.le_trans hb2.size hb3.size))
      have hX4 := (hX.below hbr4).drewN nq
      have hsz4 := hbr4.size
      have hF4 := (((hsee2.below (hb3)).more hb3.size).below hb4).drewN nq
      go_wp2_with (at_builtin; refine wpList_append_b rfl (.tmp 95) (.tmp 96) rfl w1.heap.size u8 X (by rfl) hX4 _ A2 _ c2 F (by rfl) rfl hF4 (by omega) (by simp only [World.drewN]; omega) ?_; intro v5 w5 hown5 hon5)
      go_roundg (n - (k + 1))
      case measure => omega
      case rel =>
        refine ⟨k + 1, X ++ F, by omega, by go_num, hown5, by rw [List.length_append]; omega, ?_, (fun j hj hjk => by rcases Nat.lt_or_ge j k with h | h; exact hsm.out j hj h; (obtain rfl : j = k := by omega); rw [HL.out]; omega), (hbr.trans (below_drewN (hbr4.mono hsr) nq)).trans (hon5.below (by simp only [World.drewN]; omega) hX4.block)⟩
        have h1 := hcat.out
        rw [hfr.out] at h1
        unfold Aside
        rw [← h1]
        simp
    · go_wp2_with (at_builtin; refine wpList_append_b rfl (.tmp 98) (.tmp 99) rfl w1.heap.size u8 X (by rfl) hX w.heap.size B m d r (by rfl) HM.out (hS2.below hbw) (by have := HM.out; omega) hsr ?_; intro v5 w5 hown5 hon5)
      have hk' : n ≤ k := by omega
      have hall := hcat.out
      rw [framesFrom_end kind ls k (by have := HN.out; omega), List.append_nil] at hall
      have Hall := Lib.hid hall
      have hb5 : Below w1.heap.size w1 w5 := hbr.trans (hon5.below hsr hX.block)
      have hlen5 : (X ++ r).length ≤ 20000 := by rw [List.length_append]; have := HM.out; omega
      rw [hall] at hown5 hlen5
      have hsm' : Hid (∀ j (hj : j < ls.length), (ls[j]).length ≤ 500) := fun j hj => hsm.out j hj (by have := HN.out; omega)
      clear hall hcat hk' hsm hX hXl
      go_loopg [8, 16] n (fun g b i wr => ∃ (j : Nat) (Y : List UInt8), j + g = n ∧ i = .int .i64 j ∧ OwnB wr w1.heap.size b Y ∧ Y.length ≤ 20000 ∧ Aside (Y = framesFrom kind j (ls.drop j) ++ r) ∧ Below w1.heap.size w1 wr)
      case atStart => exact ⟨0, _, by omega, rfl, hown5, hlen5, rfl, hb5⟩
      case round =>
        obtain ⟨j, Y, hj, rfl, hY, hYl, hcatY, hby⟩ := hrel
        have hbwy : Below w.heap.size w wr := hb1.trans (hby.mono hs1)
        by_cases hltj : j < n
        · obtain ⟨ad, Ai, ci, rfl, hadB, hcell, hci, hsee⟩ := (hS.below hbwy).out j (by have := HN.out; omega)
          have hfr := Lib.hid (framesFrom_at kind ls j (by have := HN.out; omega))
          have hl500 := hsm'.out j (by have := HN.out; omega)
          generalize ls[j]'(by have := HN.out; omega) = L at hcell hci hsee hfr hl500
          obtain ⟨ea, -⟩ := kind_add kind j (by omega) HK.out HK2.out
          rw [← kb_toNat] at ea
          have hfn := fnext_make (kb (kind + j)) L (framesFrom kind (j + 1) (ls.drop (j + 1)) ++ r) (by omega)
          have hYe : Y = makeK (kb (kind + j)) L ++ (framesFrom kind (j + 1) (ls.drop (j + 1)) ++ r) := by
            have h1 := hcatY.out
            rw [hfr.out, List.append_assoc] at h1
            exact h1
          rw [← hYe] at hfn
          have hRl : (framesFrom kind (j + 1) (ls.drop (j + 1)) ++ r).length ≤ 20000 := by
            have h1 := congrArg List.length hYe
            rw [List.length_append] at h1
            omega
          obtain ⟨R, hR⟩ : ∃ R, framesFrom kind (j + 1) (ls.drop (j + 1)) ++ r = R := ⟨_, rfl⟩
          rw [hR] at hfn hRl
          have HR := Lib.hid hR
          generalize (kb (kind + j)).toNat = K0 at ea hfn
          have HFN := Lib.hid hfn
          clear hfn hYe hR hfr
          obtain ⟨A2, c2, rfl, hc2, -, -, hsee2⟩ := hY.open_
          go_wp2_with fail
          refine (Next_any A2 _ c2 Y rfl hc2 wr hsee2 (hH.below hbwy hH.1) (by omega)).mono ?_
          rw [HFN.out]
          rintro e w3 ⟨A3, n3, c3, v3, rfl, hn3, hc3, hm3, hown3, hb3⟩
          simp only at hn3 hm3 hown3
          subst hn3
          have hcell3 : w3.cell? (ad.add j) = some (.slice Ai L.length ci) := (hb3.cell (by rw [add_block]; have := hbwy.size; omega)).trans hcell
          have cv1 := fun q => run_str (w3.drewN q) _ A3 L.length c3 L (hm3.sees.drewN q) rfl
          have cv2 := fun q => run_str (w3.drewN q) _ Ai L.length ci L ((hsee.below (hb3.mono hbwy.size)).drewN q) rfl
          go_wp2_with fail
          go_quiet (fail)
          go_wp2
          go_roundg (n - (j + 1))
          case measure => omega
          case rel => exact ⟨j + 1, R, by omega, by go_num, (hown3.base_le hby.size).drewN _, hRl, HR.out.symm, below_drewN (hby.trans (hb3.mono hby.size)) _⟩
        · have hYr : Y = r := by
            have h1 := hcatY.out
            rw [framesFrom_end kind ls j (by have := HN.out; omega)] at h1
            simpa using h1
          subst hYr
          obtain ⟨A2, c2, rfl, hc2, -, -, hsee2⟩ := hY.open_
          have cv1 := run_str wr _ A2 Y.length c2 Y hsee2 rfl
          have cv2 := run_str wr _ B m d Y (hS2.below hbwy) HM.out
          go_wp2
          go_ret
          exact ⟨rfl, hbwy⟩

set_option maxRecDepth 100000 in
set_option maxHeartbeats 400000 in
theorem FrameBack_any (kind : Int) (hk1 : -9223372036854775808 ≤ kind) (hk2 : kind ≤ 9223372036854775807) (A B : Option Addr) (n c m d : Nat) (ls : List (List UInt8)) (r : List UInt8) (hn : ls.length = n) (hm : r.length = m) (w : World) (hS : Sees2 w w.heap.size A ls) (hS2 : Sees w w.heap.size B (bv r)) (hH : Halves w) :
    Calls Tryd.prog 4 #[.slice A n c, .int .i64 kind, .slice B m d] w (IsTrue w) := by
  have hnot : ∀ (x : Bool) (w : World), (Op.unary .not (.bool x)).run Tryd.prog w = .ok (.bool (!x)) w := fun _ _ => rfl
  by_cases hb1 : 20 < n
  · clear hk1 hk2 hn hm
    go_enter Tryd.func4, Tryd.ntmps4
    go_wp2_with fail
    refine (awake_any w hH).mono ?_
    rintro e w1 ⟨rfl, hb1⟩
    go_wp2
    go_ret
    exact ⟨rfl, hb1⟩
  by_cases hb2 : 100 < m
  · clear hk1 hk2 hn hm
    go_enter Tryd.func4, Tryd.ntmps4
    go_wp2_with fail
    refine (awake_any w hH).mono ?_
    rintro e w1 ⟨rfl, hb1⟩
    go_wp2
    go_ret
    exact ⟨rfl, hb1⟩
  exact FrameBack_small kind hk1 hk2 A B n c m d ls r hn hm (by omega) (by omega) w hS hS2 hH
end Go.Proofs.YtbnjcdjgambnhaaDoor
