/-
  The document's example of a part: the laws' own first call.
-/
import Derived.Test.YtmdphaagbmipcaaDoorIpFew
namespace Go.Proofs.YtmdphaagbmipcaaDoor
open Go.RowKit

def exP : List Item := [[97], [98]]
theorem exP_blk : blk exP = [exP] := by
  rw [blk_cons (by decide), blk_nil (by decide)]; rfl
theorem exP_ok : okB exP = true := by decide
theorem exP_build : buildE exP = 0 := by
  have h : (tabB (blk exP)).length = 4 := by
    rw [exP_blk]
    simp [tabB, idxs, exP, venc_small]
  unfold buildE
  rw [if_neg (by decide), if_neg (by rw [exP_ok]; decide), if_neg (by omega)]
theorem exP_outs : (outs (blk exP)).length = 13 := by
  have hp : (packB exP).length = 7 := by simp [packB, packFrom, exP, common, venc_small]
  rw [exP_blk, outs_one]
  unfold frB
  rw [frameOf_makeK 1 _ 1 rfl, makeK_len, hp, venc_len1 (by omega)]
theorem exP_file : ∃ pre, fileB exP = pre ++ [13] := by
  refine ⟨outs (blk exP) ++ frameOf 2 (tabB (blk exP)) ++ [0, 0, 0], ?_⟩
  unfold fileB
  rw [exP_outs, List.append_assoc, List.append_assoc (outs (blk exP) ++ frameOf 2 (tabB (blk exP))), List.append_assoc (outs (blk exP))]
  rfl
theorem exP_tells : (fromL exP [97, 97]).take 5 = [[98]] ∧ exP.filter (preB [97]) = [[97]] := by decide +kernel

theorem sees_mark (w : World) (l : List UInt8) (t : TypeId) (m : Nat × Nat) (cs : Array Value) (h : cs = (bv l).toArray) : Sees (w.alloc (.cells cs t m)) (w.heap.size + 1) (some ⟨w.heap.size, 0, none⟩) (bv l) := by
  subst h
  refine ⟨.inr ⟨_, rfl, by simp, fun j u hu => ?_⟩⟩
  rw [Addr.add_lit, World.cell?_alloc_mark]
  simpa using hu
theorem run_const (w : World) (b : Nat) (hb : w.heap.size = b) (C : Array Value) (n c : Nat) :
    (convert 23 23 (.slice (some ⟨b, 0, none⟩) n c)).run Tryd.prog (w.alloc (.cells C 5)) = .ok (.slice (some ⟨b, 0, none⟩) n c) (w.alloc (.cells C 5 (C.size, C.size + 1))) := by
  subst hb
  exact Lib.run_convert_bytes_const (P := Tryd.prog) w 23 5 C n c Tryd.underlying23 Tryd.underlying5
theorem Sees2.new (W : World) (b : Nat) (hb : W.heap.size = b) (cs : Array Value) (t : TypeId) (ls : List (List UInt8))
    (h : ∀ i (hi : i < ls.length), ∃ Ai ci, cs[i]? = some (.slice Ai (ls[i]).length ci) ∧ (ls[i]).length ≤ ci ∧ Sees W b Ai (bv ls[i])) : Sees2 (W.alloc (.cells cs t)) (b + 1) (some ⟨b, 0, none⟩) ls := by
  subst hb
  refine ⟨fun i hi => ?_⟩
  obtain ⟨Ai, ci, h1, h2, h3⟩ := h i hi
  exact ⟨_, Ai, ci, rfl, by simp, by rw [Addr.add_lit, World.cell?_alloc_at _ _ _ _ rfl]; simpa using h1, h2, (h3.alloc (Nat.le_refl _) _).more (by omega)⟩
theorem sees_mark' (w : World) (b : Nat) (hb : w.heap.size = b) (l : List UInt8) (t : TypeId) (m : Nat × Nat) (cs : Array Value) (h : cs = (bv l).toArray) : Sees (w.alloc (.cells cs t m)) (b + 1) (some ⟨b, 0, none⟩) (bv l) := by
  subst hb
  exact sees_mark w l t m cs h
theorem exP_sees (w : World) : Sees2 (((w.alloc (.cells #[.int .u8 97] 5 (1, 2))).alloc (.cells #[.int .u8 98] 5 (1, 2))).alloc
      (.cells #[.slice (some ⟨w.heap.size, 0, none⟩) 1 1, .slice (some ⟨w.heap.size + 1, 0, none⟩) 1 1] 23)) (w.heap.size + 1 + 1 + 1) (some ⟨w.heap.size + 1 + 1, 0, none⟩) exP := by
  refine Sees2.new _ _ (by simp) _ _ _ fun i hi => ?_
  match i, hi with
  | 0, _ => exact ⟨_, 1, rfl, by simp [exP], ((sees_mark' w _ rfl [97] _ _ _ (by simp [bv])).alloc (by simp) _).more (by omega)⟩
  | 1, _ => exact ⟨_, 1, rfl, by simp [exP], (sees_mark' _ (w.heap.size + 1) (by simp) [98] _ _ _ (by simp [bv])).more (by omega)⟩

set_option maxRecDepth 100000 in
set_option maxHeartbeats 1600000 in
theorem awake_any (w : World) (hH : Halves w) : Calls Tryd.prog 9 #[] w (IsTrue w) := by
  have kc := run_const
  have hg0 := hH.1
  obtain ⟨pre, hpre⟩ := exP_file
  obtain ⟨hf4, hf6⟩ := file_len exP_build (by decide)
  have hop := open_file exP_build
  obtain ⟨F, hF⟩ : ∃ F, fileB exP = F := ⟨_, rfl⟩
  obtain ⟨n, hn⟩ : ∃ n, F.length = n := ⟨_, rfl⟩
  rw [hF] at hpre hop
  rw [hF, hn] at hf4 hf6
  have hlast : bv F = bv pre ++ [.int .u8 13] := by rw [hpre]; simp [bv]
  have hplen : (bv pre).length = n - 1 := by rw [← hn, hpre]; simp [bv]
  have HF := Lib.hid hF
  have HN := Lib.hid hn
  clear hF hn hpre
  go_enter Tryd.func9, Tryd.ntmps9
  go_wp2_with fail
  have hS0 := exP_sees w
  have hb0 : Below w.heap.size w (((w.alloc (.cells #[.int .u8 97] 5 (1, 2))).alloc (.cells #[.int .u8 98] 5 (1, 2))).alloc
      (.cells #[.slice (some ⟨w.heap.size, 0, none⟩) 1 1, .slice (some ⟨w.heap.size + 1, 0, none⟩) 1 1] 23)) :=
    (((Below.refl _ w).alloc (Nat.le_refl _) _).alloc (by simp) _).alloc (by simp; omega) _
  have hz0 : (((w.alloc (.cells #[.int .u8 97] 5 (1, 2))).alloc (.cells #[.int .u8 98] 5 (1, 2))).alloc
      (.cells #[.slice (some ⟨w.heap.size, 0, none⟩) 1 1, .slice (some ⟨w.heap.size + 1, 0, none⟩) 1 1] 23)).heap.size = w.heap.size + 1 + 1 + 1 := by simp
  generalize (((w.alloc (.cells #[.int .u8 97] 5 (1, 2))).alloc (.cells #[.int .u8 98] 5 (1, 2))).alloc
      (.cells #[.slice (some ⟨w.heap.size, 0, none⟩) 1 1, .slice (some ⟨w.heap.size + 1, 0, none⟩) 1 1] 23)) = W at hS0 hb0 hz0 ⊢
  rw [← hz0] at hS0
  clear hz0
  have hHW := hH.below hb0 hg0
  refine (Build_good _ 2 2 exP rfl (by decide) W hS0 hHW (by omega) exP_build).mono ?_
  rintro en w2 ⟨v2, rfl, hown2, hb2⟩
  rw [HF.out] at hown2
  obtain ⟨A2, c2, rfl, hc2, -, -, hs2⟩ := hown2.open_
  rw [HN.out] at hc2 ⊢
  have hb02 := hb0.trans (hb2.mono hb0.size)
  have hO := Lib.hid (Open_good A2 n c2 F HN.out hc2 (by omega) w2 hs2 (hH.below hb02 hg0) exP hop)
  clear hop hown2 hS0 hb2 hHW
  go_wp2_with fail
  refine hO.out.mono ?_
  rintro en w3 ⟨P, rfl, hp3', hb3⟩
  have hp3 : PartAt (fun k => k < w3.heap.size) w3 P exP := hp3'.mono fun k e => e.2
  have hs3 := (hs2.below hb3).more hb3.size
  have hb03 := hb02.trans (hb3.mono hb02.size)
  clear hO hp3' hs2 hb02 hb3
  have hn4 : ¬ ((n : Int) < 4) := by omega
  go_wp2_with fail
  -- From
  have hx4 := sees_mark' w3 _ rfl [97, 97] 5 (2, 3) #[.int .u8 97, .int .u8 97] (by simp [bv])
  have hb4 : Below w3.heap.size w3 (w3.alloc (.cells #[.int .u8 97, .int .u8 97] 5 (2, 3))) := (Below.refl _ _).alloc (Nat.le_refl _) _
  obtain ⟨w4, hw4⟩ : ∃ w4, w3.alloc (.cells #[.int .u8 97, .int .u8 97] 5 (2, 3)) = w4 := ⟨_, rfl⟩
  rw [hw4] at hx4 hb4 ⊢
  have hz4 : w4.heap.size = w3.heap.size + 1 := by rw [← hw4]; simp
  have hp4 := hp3.later hb4
  have hFr := From_part (lx := 2) (dx := 2) hp4 (hx4.more (by omega)) rfl 5
  rw [show ((5 : Int)).toNat = 5 from rfl, exP_tells.1] at hFr
  have HFr := Lib.hid hFr
  clear hFr hw4
  refine HFr.out.mono ?_
  rintro en w5 ⟨v5, rfl, hown5, hb5⟩
  obtain ⟨g, c5, A0, c0, vt, rfl, -, -, hsx, hY⟩ := RowIn.of hown5
  rw [show ([98] :: [] : List Item).length = 1 from rfl]
  rw [show ([98] : Item).length = 1 from rfl] at hY
  have hb45 := hb4.trans (hb5.mono hb4.size)
  have hp5 := hp3.later hb45
  have hrow : w5.cell? ⟨g, 0, none⟩ = some (.slice A0 1 c0) := hY.first
  have hg5 : g < w5.heap.size := hY.qg.2
  have hsx5 : Sees w5 w5.heap.size A0 (bv [98]) := hsx.sees fun k e => e.2
  have hb35 := hb45
  clear HFr hb5 hb4 hx4 hown5 hY hsx hp4 hz4 hb45
  have hLen := Lib.hid (Len_any hp5)
  rw [show exP.length = 2 from rfl] at hLen
  have hBl := Lib.hid (Blocks_any hp5)
  rw [show (exP.length + 7) / 8 = 1 from rfl] at hBl
  have hFi := Lib.hid (First_any hp5 fun k e => e)
  rw [show exP.headD [] = [97] from rfl] at hFi
  go_wp2_with fail
  refine hLen.out.mono ?_
  rintro en w6 ⟨rfl, rfl⟩
  go_wp2_with fail
  refine hBl.out.mono ?_
  rintro en w6 ⟨rfl, rfl⟩
  go_wp2_with fail
  refine hFi.out.mono ?_
  rintro en w6 ⟨v6, rfl, hown6, hb6⟩
  obtain ⟨A6, c6, rfl, hc6, -, -, hs6⟩ := hown6.open_
  have cv6 := run_str w6 _ A6 1 c6 [97] hs6 rfl
  rw [show strOf [97] = ⟨#[97]⟩ from rfl] at cv6
  rw [show ([97] : List UInt8).length = 1 from rfl]
  have hp6 := hp5.later hb6
  have hLa := Lib.hid (Last_any hp6 fun k e => e)
  rw [show exP.getLastD [] = [98] from rfl] at hLa
  clear hLen hBl hFi hown6 hs6 hc6
  go_wp2_with fail
  refine hLa.out.mono ?_
  rintro en w7 ⟨v7, rfl, hown7, hb7⟩
  obtain ⟨A7, c7, rfl, hc7, -, -, hs7⟩ := hown7.open_
  have cv7 := run_str w7 _ A7 1 c7 [98] hs7 rfl
  rw [show strOf [98] = ⟨#[98]⟩ from rfl] at cv7
  rw [show ([98] : List UInt8).length = 1 from rfl]
  have hp7 := hp6.later hb7
  have hb57 := hb6.trans (hb7.mono hb6.size)
  clear hLa hown7 hs7 hc7 hp6 cv6
  go_wp2_with fail
  have hx8 := sees_mark' w7 _ rfl [98] 5 (1, 2) #[.int .u8 98] (by simp [bv])
  have hb8 : Below w7.heap.size w7 (w7.alloc (.cells #[.int .u8 98] 5 (1, 2))) := (Below.refl _ _).alloc (Nat.le_refl _) _
  obtain ⟨w8, hw8⟩ : ∃ w8, w7.alloc (.cells #[.int .u8 98] 5 (1, 2)) = w8 := ⟨_, rfl⟩
  rw [hw8] at hx8 hb8 ⊢
  have hz8 : w8.heap.size = w7.heap.size + 1 := by rw [← hw8]; simp
  have hp8 := hp7.later hb8
  have hHa := Has_part (lx := 1) (dx := 1) hp8 (hx8.more (by omega)) rfl
  rw [show decide (([98] : Item) ∈ exP) = true from by decide] at hHa
  have HHa := Lib.hid hHa
  clear hHa hw8 cv7
  refine HHa.out.mono ?_
  rintro en w9 ⟨rfl, hb9⟩
  have hb79 := hb8.trans (hb9.mono hb8.size)
  have hb59 := hb57.trans (hb79.mono hb57.size)
  have hp9 := hp7.later hb79
  have hrow9 := (hb59.cell (p := ⟨g, 0, none⟩) hg5).trans hrow
  have cv9 := run_str w9 _ A0 1 c0 [98] ((hsx5.below hb59).more hb59.size) rfl
  rw [show strOf [98] = ⟨#[98]⟩ from rfl] at cv9
  clear HHa hx8 hb8 hb9 hp8 hb79 hb57 hb6 hb7 hrow hsx5
  go_wp2_with fail
  have hxa := sees_mark' w9 _ rfl [97] 5 (1, 2) #[.int .u8 97] (by simp [bv])
  have hba : Below w9.heap.size w9 (w9.alloc (.cells #[.int .u8 97] 5 (1, 2))) := (Below.refl _ _).alloc (Nat.le_refl _) _
  obtain ⟨wa, hwa⟩ : ∃ wa, w9.alloc (.cells #[.int .u8 97] 5 (1, 2)) = wa := ⟨_, rfl⟩
  rw [hwa] at hxa hba ⊢
  have hza : wa.heap.size = w9.heap.size + 1 := by rw [← hwa]; simp
  have hpa := hp9.later hba
  have hPr := Prefix_part (lx := 1) (dx := 1) hpa (hxa.more (by omega)) rfl
  rw [exP_tells.2] at hPr
  have HPr := Lib.hid hPr
  clear hPr hwa cv9
  refine HPr.out.mono ?_
  rintro en wb hIs
  obtain ⟨Ab, cb, rfl, -, -, hbb⟩ := hIs.open_
  rw [show ([[97]] : List Item).length = 1 from rfl]
  have hb9b := hba.trans (hbb.mono hba.size)
  have hb3b := (hb35.trans (hb59.mono hb35.size)).trans (hb9b.mono (hb35.trans (hb59.mono hb35.size)).size)
  have hbwb := hb03.trans (hb3b.mono hb03.size)
  have hsb := hs3.below hb3b
  obtain ⟨k, hk⟩ : ∃ k, n - 1 = k := ⟨_, rfl⟩
  rw [hlast] at hsb
  rw [hk] at hplen
  obtain ⟨ad, rfl, hcl⟩ : ∃ ad, A2 = some ad ∧ wb.cell? (ad.add k) = some (.int .u8 13) := by
    rcases hsb.out with e | ⟨ad, e, -, hc⟩
    · simp at e
    · exact ⟨ad, e, hc k _ (by rw [List.getElem?_append_right (by omega), hplen, Nat.sub_self]; rfl)⟩
  have hkn : (k : Int) < (n : Int) := by omega
  have hsub : IntKind.i64.wrap ((n : Int) - 1) = (k : Int) := by rw [IntKind.wrap_i64]; omega
  clear hk HPr hIs hsb hs3 hp3 hp5 hp7 hp9 hpa hxa hlast hplen
  go_wp2_with fail
  go_ret
  exact ⟨rfl, hbwb⟩
end Go.Proofs.YtmdphaagbmipcaaDoor
