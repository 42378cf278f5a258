/-
  The law FrameOwn, walked: what is told is new memory; a body may have so many bytes, and no more.
-/
import Derived.Test.YtbnjcdjgambnhaaDoorLawFrameKinds
namespace Go.Proofs.YtbnjcdjgambnhaaDoor
open Go.RowKit

/-- n bytes that may be written, in blocks from 'base' on. -/
structure Wr (w : World) (base : Nat) (A : Option Addr) (n : Nat) : Prop where
  out : 0 < n → ∃ g o, A = some ⟨g, o, none⟩ ∧ base ≤ g ∧ ∀ j, j < n → (∃ z : Int, w.cell? ⟨g, o + j, none⟩ = some (.int .u8 z)) ∧ w.frozen? ⟨g, o + j, none⟩ = false
theorem Mine.wr {w : World} {base : Nat} {A : Option Addr} {l : List UInt8} (h : Mine w base A l) : Wr w base A l.length := by
  refine ⟨fun h0 => ?_⟩
  rcases h.out with h | ⟨g, o, rfl, hb, hc⟩
  · subst h; simp at h0
  · exact ⟨g, o, rfl, hb, fun j hj => ⟨⟨_, (hc j hj).1⟩, (hc j hj).2⟩⟩
theorem Wr.set {w : World} {base g o n : Nat} (h : Wr w base (some ⟨g, o, none⟩) n) (k : Nat) (z : Int) : Wr (w.setCell ⟨g, o + k, none⟩ (.int .u8 z)) base (some ⟨g, o, none⟩) n := by
  refine ⟨fun h0 => ?_⟩
  obtain ⟨g', o', e, hb, hc⟩ := h.out h0
  injection e with e
  injection e with e1 e2 e3
  subst e1
  subst e2
  refine ⟨_, _, rfl, hb, fun j hj => ?_⟩
  obtain ⟨⟨x, hx⟩, hf⟩ := hc j hj
  refine ⟨?_, by rw [World.frozen?_setCell]; exact hf⟩
  by_cases hjk : j = k
  · subst hjk
    exact ⟨z, World.cell?_setCell_same _ _ _ hx⟩
  · exact ⟨x, (World.cell?_setCell_other _ _ _ _ (by intro e; injection e with _ e _; omega)).trans hx⟩

theorem zeros (N : Nat) : ∃ Z : List UInt8, Z.length = N ∧ (madeCells (Value.int .u8 0).cells (N * 1)).toList = bv Z := by
  refine ⟨List.replicate N 0, List.length_replicate, ?_⟩
  rw [Nat.mul_one]
  have := toList_madeCells_one (.int .u8 0) N
  simp only [Value.cells]
  rw [this]
  simp [bv]
theorem venc_len3 {u : Nat} (h1 : 16384 ≤ u) (h2 : u < 2097152) : (venc u).length = 3 := by
  rw [venc_big (by omega), venc_big (by omega), venc_small (by omega)]
  rfl
theorem Make_full (A : Option Addr) (c : Nat) (Z : List UInt8) (hZ : Z.length = 65535) (w : World) (hS : Sees w w.heap.size A (bv Z)) (hH : Halves w) :
    ∃ G : List UInt8, G.length = 65543 ∧ Calls Tryd.prog 9 #[.int .i64 1, .slice A 65535 c] w (Ret2B w G 0) := by
  have h := Make_any 1 A 65535 c Z hZ w hS hH (by omega)
  have he : makeErr 1 Z.length = 0 := by unfold makeErr; rw [if_neg (by omega), if_neg (by omega)]
  rw [he] at h
  refine ⟨makeB 1 Z, ?_, h⟩
  unfold makeB
  rw [if_pos he, frameOf, sealB_len]
  simp only [List.length_cons, List.length_append]
  rw [hZ, venc_len3 (by omega) (by omega)]
theorem Make_over (A : Option Addr) (c : Nat) (Z : List UInt8) (hZ : Z.length = 65536) (w : World) (hS : Sees w w.heap.size A (bv Z)) (hH : Halves w) :
    Calls Tryd.prog 9 #[.int .i64 1, .slice A 65536 c] w (Ret2B w [] 2) := by
  have h := Make_any 1 A 65536 c Z hZ w hS hH (by omega)
  have he : makeErr 1 Z.length = 2 := by unfold makeErr; rw [if_neg (by omega), if_pos (by omega)]
  have hb : makeB 1 Z = [] := by unfold makeB; rw [if_neg (by rw [he]; omega)]
  rw [he, hb] at h
  exact h

set_option maxRecDepth 100000 in
set_option maxHeartbeats 1600000 in
theorem FrameOwn_small (N : Nat) (A : Option Addr) (n c : Nat) (l : List UInt8) (more : Int) (hmore : ((more.tmod 4) != 0) = decide (N = 65536)) (hN : N = 65535 ∨ N = 65536) (hn : l.length = n) (hn500 : n ≤ 500) (w : World) (hS : Sees w w.heap.size A (bv l)) (hH : Halves w) :
    Calls Tryd.prog 6 #[.slice A n c, .int .i64 more] w (IsTrue w) := by
  have hnot : ∀ (x : Bool) (w : World), (Op.unary .not (.bool x)).run Tryd.prog w = .ok (.bool (!x)) w := fun _ _ => rfl
  have HNn := Lib.hid hn
  have HN := Lib.hid hN
  have hM1 := Lib.hid (fun (w1 : World) (hS1 : Sees w1 w1.heap.size A (bv l)) (hH1 : Halves w1) => Make_kb 1 1 (by decide) A n c l hn w1 hS1 hH1 (by omega))
  have hF1 : (makeK (kb 1) l).length ≤ 2000 := by rw [makeK_len, hn]; have := venc_len (u := n) (by unfold Is64; omega); omega
  have hX : fnext (makeK (kb 1) l) = ((kb 1).toNat, l, [], 0) := by have := fnext_make (kb 1) l [] (by omega); rwa [List.append_nil] at this
  generalize makeK (kb 1) l = F at hM1 hF1 hX
  have HX := Lib.hid hX
  have Hmore := Lib.hid hmore
  clear hX hn hN hmore
  go_enter Tryd.func6, Tryd.ntmps6
  go_wp2_with fail
  refine (awake_any w hH).mono ?_
  rintro e w1 ⟨rfl, hb1⟩
  have hS1 := (hS.below hb1).more hb1.size
  have hH1 := hH.below hb1 hH.1
  go_wp2_with fail
  refine (hM1.out w1 hS1 hH1).mono ?_
  rintro e w2 ⟨v2, rfl, hown2, hb2⟩
  obtain ⟨A2, c2, rfl, hc2, -, -, hsee2⟩ := hown2.open_
  have hH2 := hH1.below hb2 hH1.1
  have cv1 := run_str w2 _ A2 _ c2 F hsee2 rfl
  go_wp2_with fail
  refine (Next_any A2 _ c2 F rfl hc2 w2 hsee2 hH2 (by omega)).mono ?_
  rw [HX.out]
  rintro e w3 ⟨A4, n4, c4, v4, rfl, hn4, hc4, hm4, hown4, hb3⟩
  simp only at hn4 hm4
  have hw4 := hm4.wr
  obtain rfl : n4 = n := hn4.symm.trans HNn.out
  rw [hn4] at hw4
  have HW := Lib.hid hw4
  clear hn4 hm4 hw4
  obtain ⟨A5, c5, rfl, -, -, -, -⟩ := hown4.open_
  clear hown4
  go_wp2
  go_loopg [13] n4 (fun g i wr => ∃ k : Nat, k + g = n4 ∧ i = .int .i64 k ∧ Aside (Wr wr w2.heap.size A4 n4) ∧ Below w2.heap.size w3 wr)
  case atStart => exact ⟨0, by omega, rfl, HW.out, Below.refl _ _⟩
  case round =>
    obtain ⟨k, hk, rfl, hwr, hbr⟩ := hrel
    by_cases hlt : k < n4
    · obtain ⟨g, o, rfl, hg, hc⟩ := hwr.out.out (by omega)
      obtain ⟨⟨z, hz⟩, hf⟩ := hc k hlt
      clear hc
      go_wp2
      go_roundg (n4 - (k + 1))
      case measure => omega
      case rel => exact ⟨k + 1, by omega, by go_num, hwr.out.set k _, hbr.setCell (by simp only []; omega) _⟩
    · have hb13 : Below w.heap.size w wr := ((hb1.trans (hb2.mono hb1.size)).trans (hb3.mono (Nat.le_trans hb1.size hb2.size))).trans (hbr.mono (Nat.le_trans hb1.size hb2.size))
      have hsr := (hsee2.below (hb3.trans (hbr)))
      have hHr := (hH2.below hb3 hH2.1).below hbr hH2.1
      have hszr : w.heap.size ≤ wr.heap.size := hb13.size
      have hmm := Hmore.out
      obtain ⟨i0, hi, hz0, hz1, hz2⟩ := info_parts Tryd.binfo
      rcases HN.out with rfl | rfl
      · have hm0 : ((more.tmod 4) != 0) = false := hmm
        clear hmm Hmore HN
        go_wp2_with (at_make; refine wpList_make_full _ rfl (.tmp 57) (.tmp 57) 22 rfl wr.heap.size 5 i0 _ 1 Tryd.underlying22 hi hz0 hz1 _ _ _ _ 65535 rfl rfl rfl rfl (by rw [hz2]; omega) (by simp [maxLen]) (Nat.le_refl _) ?_; intro w5 hown5 hg5)
        obtain ⟨Z, hZl, hZ⟩ := zeros 65535
        rw [hZ] at hown5
        have hs5 := Sees.of_own hown5
        have hb5 : Below wr.heap.size wr w5 := (Below.refl _ _).grown hg5 (Nat.le_refl _) (by simp)
        have hH5 := hHr.below hb5 hHr.1
        obtain ⟨G, hGl, hmk⟩ := Make_full _ 65535 Z hZl w5 hs5 hH5
        refine hmk.mono ?_
        rintro e w6 ⟨v6, rfl, hown6, hb6⟩
        obtain ⟨A6, c6, rfl, -, -, -, -⟩ := hown6.open_
        have hGb : ((G.length : Int) == 65543) = true := by rw [hGl]; rfl
        clear hGl hmk hown6
        have hb16 : Below w.heap.size w w6 := (hb13.trans (hb5.mono hszr)).trans (hb6.mono (Nat.le_trans hszr hb5.size))
        have hsr6 := (hsr.below (hb5.mono (Nat.le_trans hb3.size hbr.size))).below (hb6.mono (Nat.le_trans (Nat.le_trans hb3.size hbr.size) hb5.size))
        have cv2 := run_str w6 _ A2 _ c2 F hsr6 rfl
        clear cv1 hZ hZl
        go_wp2
        go_ret
        exact ⟨rfl, hb16⟩
      · have hm0 : ((more.tmod 4) != 0) = true := hmm
        clear hmm Hmore HN
        go_wp2_with (at_make; refine wpList_make_full _ rfl (.tmp 57) (.tmp 57) 22 rfl wr.heap.size 5 i0 _ 1 Tryd.underlying22 hi hz0 hz1 _ _ _ _ 65536 rfl rfl rfl rfl (by rw [hz2]; omega) (by simp [maxLen]) (Nat.le_refl _) ?_; intro w5 hown5 hg5)
        obtain ⟨Z, hZl, hZ⟩ := zeros 65536
        rw [hZ] at hown5
        have hs5 := Sees.of_own hown5
        have hb5 : Below wr.heap.size wr w5 := (Below.refl _ _).grown hg5 (Nat.le_refl _) (by simp)
        have hH5 := hHr.below hb5 hHr.1
        refine (Make_over _ 65536 Z hZl w5 hs5 hH5).mono ?_
        rintro e w6 ⟨v6, rfl, hown6, hb6⟩
        obtain ⟨A6, c6, rfl, -, -, -, -⟩ := hown6.open_
        clear hown6
        have hb16 : Below w.heap.size w w6 := (hb13.trans (hb5.mono hszr)).trans (hb6.mono (Nat.le_trans hszr hb5.size))
        have hsr6 := (hsr.below (hb5.mono (Nat.le_trans hb3.size hbr.size))).below (hb6.mono (Nat.le_trans (Nat.le_trans hb3.size hbr.size) hb5.size))
        have cv2 := run_str w6 _ A2 _ c2 F hsr6 rfl
        clear cv1 hZ hZl
        go_wp2
        go_ret
        exact ⟨rfl, hb16⟩

set_option maxRecDepth 100000 in
set_option maxHeartbeats 400000 in
theorem FrameOwn_any (A : Option Addr) (n c : Nat) (l : List UInt8) (more : Int) (hn : l.length = n) (w : World) (hS : Sees w w.heap.size A (bv l)) (hH : Halves w) :
    Calls Tryd.prog 6 #[.slice A n c, .int .i64 more] w (IsTrue w) := by
  have hnot : ∀ (x : Bool) (w : World), (Op.unary .not (.bool x)).run Tryd.prog w = .ok (.bool (!x)) w := fun _ _ => rfl
  by_cases hb1 : 500 < n
  · clear hn
    go_enter Tryd.func6, Tryd.ntmps6
    go_wp2_with fail
    refine (awake_any w hH).mono ?_
    rintro e w1 ⟨rfl, hb1⟩
    go_wp2
    go_ret
    exact ⟨rfl, hb1⟩
  · by_cases hm : more.tmod 4 = 0
    · exact FrameOwn_small 65535 A n c l more (by rw [hm]; rfl) (.inl rfl) hn (by omega) w hS hH
    · exact FrameOwn_small 65536 A n c l more (by rw [bne_iff_ne.2 hm]; rfl) (.inr rfl) hn (by omega) w hS hH
end Go.Proofs.YtbnjcdjgambnhaaDoor
