/-
  The document's bytes of items, walked.
-/
import Derived.Test.YtmdphaagbmipcaaDoorRfPack
namespace Go.Proofs.YtmdphaagbmipcaaDoor
open Go.RowKit

set_option maxRecDepth 100000 in
set_option maxHeartbeats 3200000 in
theorem RefPack_any (A : Option Addr) (n c : Nat) (ls : List Item) (hn : ls.length = n) (w : World) (hS : Sees2 w w.heap.size A ls) (hlen : n ≤ 1099511627776) :
    Calls Tryd.prog 33 #[.slice A n c] w (PackIs w ls) := by
  have hC := Lib.hid (RefCheck9_any A n c ls hn w hS hlen)
  by_cases hk : checkN ls = 0
  · obtain ⟨h8, h1, hall, hrise⟩ := check_ok hk
    have HK := Lib.hid hk
    rw [hk] at hC
    have HA := Lib.hid hall
    have hn8 : n ≤ 8 := by omega
    have HN := Lib.hid hn
    clear hk hall hrise h8 h1 hn hlen
    go_enter Tryd.func33, Tryd.ntmps33
    go_wp2_with fail
    refine hC.out.mono ?_
    rintro e w1 ⟨rfl, q, rfl⟩
    go_wp2_with fail
    refine (refBytes_any n (by unfold Is64; omega) (w.drewN q)).mono ?_
    rintro e w2 ⟨v2, rfl, hown2, hb2'⟩
    have hb2 : Below w.heap.size w w2 := (below_d (Below.refl _ w) q).trans hb2'
    clear hC hb2'
    go_wp2_with fail
    go_loopg [5, 6, 7] n (fun g b a i wr => ∃ (k : Nat) (X P : List UInt8) (Ap : Option Addr) (cp : Nat), k + g = n ∧ i = .int .i64 k ∧ OwnB wr w.heap.size b X ∧ X.length ≤ 10 + 1000 * k ∧ a = .slice Ap P.length cp ∧ P.length ≤ 400 ∧ Sees wr wr.heap.size Ap (bv P) ∧ Aside (X ++ packFrom P (ls.drop k) = packB ls) ∧ Below w.heap.size w wr)
    case atStart => exact ⟨0, venc n, [], none, 0, by omega, rfl, hown2, by have := venc_len (u := n) (by unfold Is64; omega); omega, rfl, by simp, Sees.nil _ _ _, (by show _ = _; unfold packB; rw [HN.out]; rfl), hb2⟩
    case round =>
      obtain ⟨k, X, P, Ap, cp, hk, rfl, hX, hXl, rfl, hP, hSP, hcat, hbr⟩ := hrel
      have hsr := hbr.size
      by_cases hlt : k < n
      · obtain ⟨ad, Ai, ci, rfl, hadB, hcell, hci, hsee⟩ := (hS.below hbr).out k (by have := HN.out; omega)
        have hLl := HA.out k (by have := HN.out; omega)
        have hfr := Lib.hid (packFrom_at (ls := ls) (k := k) P (by have := HN.out; omega))
        obtain ⟨L, hL⟩ : ∃ L, ls[k]'(by have := HN.out; omega) = L := ⟨_, rfl⟩
        rw [hL] at hcell hci hsee hLl hfr
        clear hL
        obtain ⟨hL1, hL2⟩ := hLl
        have hcm := common_le P L
        have hCm := Lib.hid (RefCommon_any Ap Ai P.length L.length cp ci P L rfl rfl wr hSP (hsee.more hsr) (by omega) (by omega))
        unfold CommonIs at hCm
        generalize common P L = cm at hcm hCm hfr
        obtain ⟨hc1, hc2⟩ := hcm
        obtain ⟨d, hd⟩ : ∃ d, L.length - cm = d := ⟨_, rfl⟩
        rw [hd] at hfr
        obtain ⟨AD, hAD⟩ : ∃ AD, (if ci = cm then Ai else Ai.map (fun x => x.add cm)) = AD := ⟨_, rfl⟩
        have hSD : Sees wr w.heap.size AD (bv (L.drop cm)) := by
          have h1 := hsee.cut (k := cm) (cap := ci) (by rw [bv_length]; exact hci)
          simp only [Nat.mul_one, ← bv_drop] at h1
          rw [hAD] at h1
          exact h1
        have HSD := Lib.hid hSD
        clear hSD
        have hsub : IntKind.i64.wrap ((L.length : Int) - (cm : Int)) = (d : Int) := by rw [IntKind.wrap_i64]; omega
        have hd4 : d ≤ 400 := by omega
        have hvc := venc_len (u := cm) (by unfold Is64; omega)
        have hvd := venc_len (u := d) (by unfold Is64; omega)
        obtain ⟨VC, hVC⟩ : ∃ V, venc cm = V := ⟨_, rfl⟩
        obtain ⟨VD, hVD⟩ : ∃ V, venc d = V := ⟨_, rfl⟩
        have hBc := fun W => Lib.hid (refBytes_any cm (by unfold Is64; omega) W)
        have hBd := fun W => Lib.hid (refBytes_any d (by unfold Is64; omega) W)
        rw [hVC] at hvc hfr
        rw [hVD] at hvd hfr
        simp only [hVC] at hBc
        simp only [hVD] at hBd
        have HD := Lib.hid hd
        clear hVC hVD hd
        go_wp2_with fail
        refine hCm.out.mono ?_
        rintro e w3 ⟨rfl, q, rfl⟩
        have hcellq : (wr.drewN q).cell? (ad.add k) = some (.slice Ai L.length ci) := hcell
        have hXq : OwnB (wr.drewN q) w.heap.size u5 X := hX
        clear hcell
        go_wp2_with fail
        refine (hBc (wr.drewN q)).out.mono ?_
        rintro e w4 ⟨v4, rfl, hown4, hb4⟩
        have hbr4 : Below wr.heap.size wr w4 := (below_d (Below.refl _ wr) q).trans hb4
        obtain ⟨A4, c4, rfl, hc4, hm4, -, hs4⟩ := hown4.open_
        have hX4 := hX.below hbr4
        have hs4s := hbr4.size
        have hcell4 : w4.cell? (ad.add k) = some (.slice Ai L.length ci) := (hbr4.cell (by rw [add_block]; omega)).trans hcellq
        clear hcellq hXq
        go_wp2_with (at_builtin; refine wpList_append_b rfl (.tmp 30) (.tmp 33) rfl w.heap.size u5 X (by rfl) hX4 w4.heap.size A4 VC.length c4 VC (by rfl) rfl hs4 (by omega) (by omega) ?_; intro v5 w5 hown5 hon5; have hbr5 : Below w.heap.size w4 w5 := hon5.below (by omega) hX4.block; have hs5 := hbr5.size; have hcell5 : w5.cell? (ad.add k) = some (.slice Ai L.length ci) := (hbr5.cell (by rw [add_block]; omega)).trans hcell4)
        refine (hBd w5).out.mono ?_
        rintro e w6 ⟨v6, rfl, hown6, hb6⟩
        obtain ⟨A6, c6, rfl, hc6, hm6, -, hs6⟩ := hown6.open_
        have hX6 := hown5.below hb6
        have hb06 : Below w.heap.size wr w6 := (hbr4.mono hsr).trans (hbr5.trans (hb6.mono (by omega)))
        have hcell6 : w6.cell? (ad.add k) = some (.slice Ai L.length ci) := (hb6.cell (by rw [add_block]; omega)).trans hcell5
        have hs6s := hb6.size
        clear hcell5 hcell4
        go_wp2_with (first
          | (at_builtin; refine wpList_append_b rfl (.tmp 35) (.tmp 44) rfl w.heap.size v5 (X ++ VC) (by rfl) hX6 w6.heap.size A6 VD.length c6 VD (by rfl) rfl hs6 (by rw [List.length_append]; omega) (by omega) ?_; intro v7 w7 hown7 hon7; have hbr7 : Below w.heap.size w6 w7 := hon7.below (by omega) hX6.block; have hs7 := hbr7.size; have hcell7 : w7.cell? (ad.add k) = some (.slice Ai L.length ci) := (hbr7.cell (by rw [add_block]; omega)).trans hcell6; have hb07 := hb06.trans hbr7; have hsee7 : Sees w7 w7.heap.size AD (bv (L.drop cm)) := (HSD.out.below hb07).more (by omega))
          | (at_builtin; refine wpList_append_b rfl (.tmp 46) (.tmp 52) rfl w.heap.size v7 (X ++ VC ++ VD) (by rfl) hown7 _ _ _ _ (L.drop cm) (by rfl) (by rw [List.length_drop]) hsee7 (by rw [List.length_append, List.length_append, List.length_drop]; omega) (by omega) ?_; intro v8 w8 hown8 hon8; have hbr8 : Below w.heap.size w7 w8 := hon8.below (by omega) hown7.block; have hs8 := hbr8.size; have hcell8 : w8.cell? (ad.add k) = some (.slice Ai L.length ci) := (hbr8.cell (by rw [add_block]; omega)).trans hcell7)
          | fail)
        all_goals
          have hb08 := hb07.trans hbr8
          go_roundg (n - (k + 1))
          case measure => omega
          case rel => exact ⟨k + 1, X ++ VC ++ VD ++ L.drop cm, L, Ai, _, by omega, by go_num, hown8, by rw [List.length_append, List.length_append, List.length_append, List.length_drop]; omega, rfl, hL2, (hsee.below hb08).more (by omega), (by have h1 := hcat.out; have h2 := hfr.out; show _ = _; rw [← h1, h2]; simp), hbr.trans hb08⟩
      · have HF : Hid (X = packB ls) := by have := hcat.out; rw [packFrom_end _ (by have := HN.out; omega), List.append_nil] at this; exact this
        have HE : Hid ((if checkN ls = 0 then packB ls else []) = packB ls) := if_pos HK.out
        clear hcat
        go_wp2_with fail
        go_ret2
        unfold PackIs
        rw [HE.out, HK.out, ← HF.out]
        exact ⟨_, rfl, hX, hbr⟩
  · have HK := Lib.hid (check_nz hk)
    have HE : Hid ((if checkN ls = 0 then packB ls else []) = []) := if_neg hk
    obtain ⟨X, hX⟩ : ∃ X, checkN ls = X := ⟨_, rfl⟩
    rw [hX] at hk HK hC
    have HX := Lib.hid hX
    have hz : ((X : Int) != 0) = true := by rw [bne_iff_ne]; omega
    clear hX hk hn
    go_enter Tryd.func33, Tryd.ntmps33
    go_wp2_with fail
    refine hC.out.mono ?_
    rintro e w1 ⟨rfl, q, rfl⟩
    clear hC
    go_wp2_with fail
    go_ret2
    unfold PackIs
    rw [HE.out, HX.out]
    exact ⟨_, rfl, OwnB.nil _ _, below_d (Below.refl _ w) q⟩
end Go.Proofs.YtmdphaagbmipcaaDoor
