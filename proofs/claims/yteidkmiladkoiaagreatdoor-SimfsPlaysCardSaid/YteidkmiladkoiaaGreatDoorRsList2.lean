/-
  The document's List, for any text.
-/
import Derived.Test.YteidkmiladkoiaaGreatDoorZRsA
namespace Go.Proofs.YteidkmiladkoiaaGreatDoor
open Go.RowKit

set_option maxRecDepth 100000 in
set_option maxHeartbeats 1600000 in
theorem listR2_any (m : Nat → Prop) (S : FsM) (fu : Bool) (lf : Int) (v : Value) (w : World) (h : RefAt m w v S fu lf) (h0 : S.now.length ≤ 90000) (hp24 : ∀ x ∈ S.now, x.1.length ≤ 24) (first : Txt) :
    Calls Tryz.prog 20 #[v, .string (strOf first)] w (TextsIs w (S.list first)) := by
  obtain ⟨r, Af, nf, cf, An, nn, cn, Ak, nk, ck, Aq, nq, cq, hC7⟩ := h.seven
  obtain rfl := hC7.v_
  obtain ⟨W1, e1⟩ : ∃ W1, w.alloc (.cells #[.int .i64 r, .slice Af nf cf, .slice An nn cn, .slice Ak nk ck, .slice Aq nq cq, .bool fu, .int .i64 lf] 30) = W1 := ⟨_, rfl⟩
  have bB : Blk W1 w.heap.size #[.int .i64 r, .slice Af nf cf, .slice An nn cn, .slice Ak nk ck, .slice Aq nq cq, .bool fu, .int .i64 lf] 30 := e1 ▸ Blk.new w _ _
  have H01 : Hid (Below w.heap.size w W1) := e1 ▸ (Below.refl _ _).alloc (Nat.le_refl _) _
  have hs1 : w.heap.size < W1.heap.size := by rw [← e1]; simp
  have N2 := Lib.hid (hC7.now.newB H01.out)
  have d2 := bB.cell 2 rfl
  have D2 := Lib.hid d2
  have HN := Lib.hid hC7.ln_
  have hnn : nn ≤ 90000 := by have := HN.out; omega
  have HP := Lib.hid hp24
  obtain ⟨fl, hfl2⟩ : ∃ n, first.length = n := ⟨_, rfl⟩
  have hsf : (strOf first).size = fl := by rw [← hfl2]; simp [strOf, ByteArray.size]
  have HFL := Lib.hid hfl2
  obtain ⟨L, hL⟩ : ∃ L, S.now.map (·.1) = L := ⟨_, rfl⟩
  have HL := Lib.hid hL
  obtain ⟨X, hX⟩ : ∃ X, S.list first = X := ⟨_, rfl⟩
  rw [hX]
  have HX : Hid (L.filter (fun p => decide (first <+: p)) = X) := by unfold Hid; rw [← hX, ← hL]; rfl
  obtain ⟨i0, hi0, hy0, hy1, hy2⟩ := info_parts Tryz.strinfo
  clear h hC7 bB hX hL h0 hp24 hfl2
  go_enter Tryz.func20, Tryz.ntmps20
  go_wp2
  clear d2
  go_loopg [5, 6] nn (fun g o i wr => ∃ (k t : Nat), k + g = nn ∧ i = .int .i64 (k : Int) ∧ wr.ownsRow W1.heap.size 9 1 o t (tv ((L.take k).filter fun p => decide (first <+: p))) ∧ t ≤ k ∧ Below W1.heap.size W1 wr)
  case atStart => exact ⟨0, 0, by omega, rfl, World.ownsRow_nil _ _ _ _, by omega, Below.refl _ _⟩
  case round =>
    obtain ⟨k, t, hk, rfl, hown, ht, hb⟩ := hrel
    have d2 : wr.cell? ⟨w.heap.size, 2, none⟩ = some (.slice An nn cn) := (hb.cell hs1).trans D2.out
    have hbs := hb.size
    by_cases hlt : k < nn
    · have hkl : k < S.now.length := by have := HN.out; omega
      have hkL : k < L.length := by rw [← HL.out]; simpa using hkl
      obtain ⟨ad, rfl, had, g1, g2⟩ := sees_gv (N2.out.newB hb).sees (k := k) (by rw [gd_length]; exact hkl)
      rw [gd_at S.now k hkl] at g1
      have hft := Lib.hid (filter_take L (fun p => decide (first <+: p)) k hkL)
      have hLk : L[k] = S.now[k].1 := by simp [← HL.out]
      have hy24 := HP.out _ (List.getElem_mem hkl)
      rw [hLk] at hft
      obtain ⟨y, hy⟩ : ∃ y, S.now[k].1 = y := ⟨_, rfl⟩
      rw [hy] at g1 hft hy24
      obtain ⟨ly, hly⟩ : ∃ n, y.length = n := ⟨_, rfl⟩
      have hsy : (strOf y).size = ly := by rw [← hly]; simp [strOf, ByteArray.size]
      rw [hly] at hy24
      have hpe := hasPre_eq y first
      unfold hasPre at hpe
      rw [hsf, hsy] at hpe
      obtain ⟨bp, hbp⟩ : ∃ b, decide (first <+: y) = b := ⟨_, rfl⟩
      rw [hbp] at hpe hft
      clear g2 hLk hy hkL hkl hly hbp
      cases bp with
      | false =>
        have hT : Hid ((L.take (k + 1)).filter (fun p => decide (first <+: p)) = (L.take k).filter fun p => decide (first <+: p)) := by unfold Hid; rw [hft.out]; simp
        by_cases hlen : fl ≤ ly
        · have hex : (((strOf y).extract 0 fl).toList == (strOf first).toList) = false := by rw [decide_eq_true hlen, Bool.true_and] at hpe; exact hpe
          clear hpe hft
          go_wp2
          go_roundg (nn - (k + 1))
          case measure => omega
          case rel => exact ⟨k + 1, t, by omega, by go_num, by rw [hT.out]; exact hown, by omega, hb⟩
        · clear hpe hft
          go_wp2
          go_roundg (nn - (k + 1))
          case measure => omega
          case rel => exact ⟨k + 1, t, by omega, by go_num, by rw [hT.out]; exact hown, by omega, hb⟩
      | true =>
        have hT : Hid ((L.take (k + 1)).filter (fun p => decide (first <+: p)) = ((L.take k).filter fun p => decide (first <+: p)) ++ [y]) := by unfold Hid; rw [hft.out]; simp
        simp only [Bool.and_eq_true, decide_eq_true_eq] at hpe
        obtain ⟨hlen, hex⟩ := hpe
        clear hft
        go_wp2_with (at_builtin; (refine wpList_append_v rfl (.tmp 34) (.tmp 36) 45 rfl 9 i0 _ 1 16 Tryz.underlying45 hi0 hy0 hy1 hy2 rfl (by omega) W1.heap.size _ t _ (by rfl) (World.ownsRow.alloc hown _) (wr.heap.size + 1) (some ⟨wr.heap.size, 0, none⟩) 1 1 [.string (strOf y)] (by rfl) rfl (sees_cells wr _ rfl _ _ _ rfl) (fun u hu => by simp at hu; subst hu; rfl) (by simp only [maxLen]; omega) (by omega) (by simp; omega) ?_; intro v2 w2 hown2 hon2; have hb2 : Below W1.heap.size wr w2 := ((Below.refl _ wr).alloc hbs _).trans (hon2.below (by simp; omega) (own_block hown))))
        go_roundg (nn - (k + 1))
        case measure => omega
        case rel => exact ⟨k + 1, t + 1, by omega, by go_num, by rw [hT.out]; simpa [tv] using hown2, by omega, hb.trans hb2⟩
    · have hkn : Hid ((L.take k).filter (fun p => decide (first <+: p)) = X) := by
        unfold Hid
        rw [List.take_of_length_le (by rw [← HL.out]; have := HN.out; simp; omega)]
        exact HX.out
      rw [hkn.out] at hown
      go_wp2
      go_ret
      have hl : X.length = t := by have := hown.1; rw [tv_length] at this; omega
      refine ⟨_, rfl, ?_, H01.out.trans (hb.mono (by omega))⟩
      unfold OwnT
      rw [hl]
      refine ⟨hown.1, ?_⟩
      rcases hown.2 with h | ⟨g, cap, cur, e, hg, r⟩
      · exact .inl h
      · exact .inr ⟨g, cap, cur, e, by omega, r⟩
end Go.Proofs.YteidkmiladkoiaaGreatDoor
