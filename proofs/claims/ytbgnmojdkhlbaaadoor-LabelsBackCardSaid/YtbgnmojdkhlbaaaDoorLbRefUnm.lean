/-
  The document's Unmarshal, walked.
-/
import Derived.Test.YtbgnmojdkhlbaaaDoorLbParse2
namespace Go.Proofs.YtbgnmojdkhlbaaaDoor
open Go.RowKit

/-- A block of two cells. -/
structure TwoAt (w : World) (H : Nat) (v0 v1 : Value) : Prop where
  c0 : w.cell? ⟨H, 0, none⟩ = some v0
  c1 : w.cell? ⟨H, 1, none⟩ = some v1
  f0 : w.frozen? ⟨H, 0, none⟩ = false
  f1 : w.frozen? ⟨H, 1, none⟩ = false
theorem TwoAt.new (w : World) (v0 v1 : Value) (t : TypeId) : TwoAt (w.alloc (.cells #[v0, v1] t)) w.heap.size v0 v1 := by
  have hh : (w.alloc (.cells #[v0, v1] t)).heap[w.heap.size]? = some (.cells #[v0, v1] t (0, 0)) := by show (w.heap.push _)[w.heap.size]? = _; simp
  refine ⟨?_, ?_, ?_, ?_⟩
  · unfold World.cell?; rw [hh]; rfl
  · unfold World.cell?; rw [hh]; rfl
  · unfold World.frozen?; rw [hh]; simp
  · unfold World.frozen?; rw [hh]; simp
theorem TwoAt.below {w w' : World} {H : Nat} {v0 v1 : Value} (h : TwoAt w H v0 v1) {B : Nat} (hb : Below B w w') (hH : H < B) : TwoAt w' H v0 v1 :=
  ⟨(hb.cell (p := ⟨H, 0, none⟩) hH).trans h.c0, (hb.cell (p := ⟨H, 1, none⟩) hH).trans h.c1, (hb.frozen (p := ⟨H, 0, none⟩) hH).trans h.f0, (hb.frozen (p := ⟨H, 1, none⟩) hH).trans h.f1⟩
theorem TwoAt.set0 {w : World} {H : Nat} {v0 v1 : Value} (h : TwoAt w H v0 v1) (v : Value) : TwoAt (w.setCell ⟨H, 0, none⟩ v) H v v1 := by
  obtain ⟨c0, c1, f0, f1⟩ := h
  constructor <;> simp [go_sem, c0, c1, f0, f1]
theorem TwoAt.set1 {w : World} {H : Nat} {v0 v1 : Value} (h : TwoAt w H v0 v1) (v : Value) : TwoAt (w.setCell ⟨H, 1, none⟩ v) H v0 v := by
  obtain ⟨c0, c1, f0, f1⟩ := h
  constructor <;> simp [go_sem, c0, c1, f0, f1]

set_option maxRecDepth 100000 in
set_option maxHeartbeats 3200000 in
theorem RefUnmarshal_any (A : Option Addr) (n c : Nat) (b : List UInt8) (hn : b.length = n) (hnc : n ≤ c) (w : World) (hS : Sees w w.heap.size A (bv b)) (hlen : n ≤ 1099511627776) :
    Calls Tryd.prog 24 #[.slice A n c] w (UnmOut w (parse b)) := by
  obtain ⟨R, hR⟩ : ∃ R, parse b = R := ⟨_, rfl⟩
  rw [hR]
  have HR := Lib.hid hR
  have HN := Lib.hid hn
  clear hR hn
  go_enter Tryd.func24, Tryd.ntmps24
  go_wp2
  go_loopg [4, 5] n (fun g o r wr => ∃ (p f : Nat) (L : List Lb) (A' : Option Addr) (m c' : Nat), m ≤ g ∧ p + m = n ∧ m ≤ c' ∧ r = .slice A' m c' ∧ Sees w w.heap.size A' (bv (b.drop p)) ∧ OwnL wr w.heap.size o L ∧ L.length ≤ p ∧ (∀ x ∈ L, x.1.size ≤ n) ∧ m ≤ f ∧ Hid (R = parseF f (b.drop p) L) ∧ Below w.heap.size w wr)
  case atStart => exact ⟨0, n, [], A, n, c, Nat.le_refl _, by omega, hnc, rfl, hS, OwnL.nil _ _, by simp, by simp, Nat.le_refl _, by rw [List.drop_zero]; have := HR.out; unfold parse at this; rw [HN.out] at this; exact this.symm, Below.refl _ _⟩
  case round =>
    obtain ⟨p, f, L, A', m, c', hmg, hpm, hmc, rfl, hSr, hown, hLp, hLs, hmf, heq, hbr⟩ := hrel
    have hsr := hbr.size
    have hml : (b.drop p).length = m := by rw [List.length_drop, HN.out]; omega
    obtain ⟨B, hB⟩ : ∃ B, b.drop p = B := ⟨_, rfl⟩
    have HB := Lib.hid hB
    rw [hB] at hSr heq hml
    have HL := Lib.hid hml
    have HLS := Lib.hid hLs
    clear hB hml hLs
    by_cases hm : 0 < m
    · obtain ⟨f', rfl⟩ : ∃ f', f = f' + 1 := ⟨f - 1, by omega⟩
      have hBne : B ≠ [] := fun e => by have := HL.out; rw [e] at this; simp at this; omega
      have hT0 := TwoAt.new wr (.string ⟨#[]⟩) (.string ⟨#[]⟩) 34
      have hbW : Below wr.heap.size wr (wr.alloc (.cells #[.string ⟨#[]⟩, .string ⟨#[]⟩] 34)) := (Below.refl _ _).alloc (Nat.le_refl _) _
      have hWs : wr.heap.size < (wr.alloc (.cells #[.string ⟨#[]⟩, .string ⟨#[]⟩] 34)).heap.size := by simp
      have hownW := hown.alloc (.cells #[.string ⟨#[]⟩, .string ⟨#[]⟩] 34)
      have hne : u4.ownBlock ≠ some wr.heap.size := fun e => by have := (World.ownsRow.lt hown _ e).2; omega
      have hbW' : Below w.heap.size w (wr.alloc (.cells #[.string ⟨#[]⟩, .string ⟨#[]⟩] 34)) := hbr.trans (hbW.mono hsr)
      obtain ⟨s, k1, e1, h1⟩ : ∃ s k e, cutR B = (s, k, e) := ⟨_, _, _, rfl⟩
      have hsW := hbW'.size
      have hC := RefCut_any A' m c' B HL.out (wr.alloc (.cells #[.string ⟨#[]⟩, .string ⟨#[]⟩] 34)) ((hSr.below hbW').more hsW) (by omega)
      rw [h1] at hC
      generalize hW0 : wr.alloc (.cells #[.string ⟨#[]⟩, .string ⟨#[]⟩] 34) = W0 at hC hT0 hbW hWs hownW hbW' hsW
      have HW0 := Lib.hid hW0
      have HC := Lib.hid hC
      by_cases e0 : e1 = 0
      · subst e0
        have hok := cutR_ok (b := B) (by rw [h1])
        rw [h1] at hok
        simp only at hok
        have hl1 : (B.drop k1).length = m - k1 := by rw [List.length_drop, HL.out]
        obtain ⟨t, k2, e2, h2⟩ : ∃ s k e, cutR (B.drop k1) = (s, k, e) := ⟨_, _, _, rfl⟩
        have H1 := Lib.hid h1
        have H2 := Lib.hid h2
        have HL1 := Lib.hid hl1
        have k1m : k1 ≤ m := by have := HL.out; omega
        have g1 : (k1 : Int) ≤ (m : Int) := by omega
        have g2 : (k1 : Int) ≤ (c' : Int) := by omega
        have g0 : (0 : Int) < (m : Int) := by omega
        by_cases e20 : e2 = 0
        · subst e20
          have hok2 := cutR_ok (b := B.drop k1) (by rw [h2])
          rw [h2] at hok2
          simp only at hok2
          obtain ⟨q, hq⟩ : ∃ q, k1 + k2 = q := ⟨_, rfl⟩
          have hqm : q ≤ m := by omega
          have hq1 : 1 ≤ q := by omega
          have hk21 : 1 ≤ k2 := hok2.1
          have hT : Hid (R = parseF f' (b.drop (p + q)) (L ++ [(strOf s, strOf t)])) := by
            have := heq.out.trans (parseF_step hBne h1 h2)
            rw [hq, ← HB.out, List.drop_drop] at this
            exact this
          have hS1q : Sees w w.heap.size (A'.map (·.add k1)) (bv (B.drop k1)) := by rw [bv_drop]; exact hSr.cut' k1
          have hdq : bv (b.drop (p + q)) = (bv (B.drop k1)).drop k2 := by rw [← List.drop_drop, HB.out, ← bv_drop, List.drop_drop, hq]
          have HDQ := Lib.hid hdq
          have hq2 : Hid (q = k1 + k2) := hq.symm
          have g3 : (k2 : Int) ≤ ((m - k1 : Nat) : Int) := by omega
          have g4 : (k2 : Int) ≤ ((c' - k1 : Nat) : Int) := by omega
          have HLS2 : Hid (∀ x ∈ L ++ [(strOf s, strOf t)], x.1.size ≤ n) := by
            intro x hx
            rcases List.mem_append.1 hx with hx | hx
            · exact HLS.out x hx
            · rw [List.mem_singleton] at hx
              subst hx
              show (strOf s).size ≤ n
              rw [strOf_size]
              omega
          clear hC h1 h2 hl1 hok hok2 hq heq hdq hW0
          go_wp2_with fail
          rw [HW0.out]
          refine HC.out.mono ?_
          rintro en w1 ⟨rfl, hb1⟩
          have hT1 := hT0.below hb1 hWs
          have hb1' : Below w.heap.size w w1 := hbW'.trans (hb1.mono hsW)
          have hs1 := hb1'.size
          have hs11 := hb1.size
          have hown1 := hownW.below hb1
          clear hown hownW hT0
          obtain ⟨c0, c1, f0, f1⟩ := hT1
          have hT2 := (TwoAt.mk c0 c1 f0 f1).set0 (.string (strOf s))
          have hb2' : Below w.heap.size w (w1.setCell ⟨wr.heap.size, 0, none⟩ (.string (strOf s))) := hb1'.setCell (by simpa using hsr) _
          have hown2 : OwnL (w1.setCell ⟨wr.heap.size, 0, none⟩ (.string (strOf s))) w.heap.size u4 L := ownsRow_setCell_other hown1 hne _
          have hs2 : (w1.setCell ⟨wr.heap.size, 0, none⟩ (.string (strOf s))).heap.size = w1.heap.size := by simp [World.setCell]
          have hC2 : ∀ A2 c2, Sees w w.heap.size A2 (bv (B.drop k1)) → Hid (Calls Tryd.prog 26 #[.slice A2 (m - k1) c2] (w1.setCell ⟨wr.heap.size, 0, none⟩ (.string (strOf s))) (CutIs (w1.setCell ⟨wr.heap.size, 0, none⟩ (.string (strOf s))) (t, k2, 0))) := fun A2 c2 h => by rw [← H2.out]; exact Lib.hid (RefCut_any A2 (m - k1) c2 (B.drop k1) HL1.out _ ((h.below hb2').more (by rw [hs2]; exact hs1)) (by omega))
          go_wp2_with fail
          refine (hC2 _ _ hS1q).out.mono ?_
          rintro en w2 ⟨rfl, hb2⟩
          have hT3 := hT2.below hb2 (by rw [hs2]; omega)
          have hb3' : Below w.heap.size w w2 := hb2'.trans (hb2.mono (by rw [hs2]; exact hs1))
          have hown3 := hown2.below hb2
          have hs3 := hb2.size
          rw [hs2] at hs3
          clear hown2 hown1 hT2 hb2 hC2
          obtain ⟨c0', c1', f0', f1'⟩ := hT3
          obtain ⟨d0, d1, -, -⟩ := (TwoAt.mk c0' c1' f0' f1').set1 (.string (strOf t))
          have hb4' : Below w.heap.size w (w2.setCell ⟨wr.heap.size, 1, none⟩ (.string (strOf t))) := hb3'.setCell (by simpa using hsr) _
          have hown4 : OwnL (w2.setCell ⟨wr.heap.size, 1, none⟩ (.string (strOf t))) w.heap.size u4 L := ownsRow_setCell_other hown3 hne _
          have hs4 : (w2.setCell ⟨wr.heap.size, 1, none⟩ (.string (strOf t))).heap.size = w2.heap.size := by simp [World.setCell]
          have hsee := sees_newL (w2.setCell ⟨wr.heap.size, 1, none⟩ (.string (strOf t))) [(strOf s, strOf t)] 34 #[.string (strOf s), .string (strOf t)] rfl
          rw [hs4] at hsee
          have hSq : Sees w w.heap.size (A'.map ((fun x => x.add k2) ∘ fun x => x.add k1)) (bv (b.drop (p + q))) := by rw [HDQ.out, ← Option.map_map]; exact hS1q.cut' k2
          have hSq0 : c' - k1 = k2 → Sees w w.heap.size (A'.map (fun x => x.add k1)) (bv (b.drop (p + q))) := fun h => by rw [HDQ.out]; exact Sees.cut0 _ _ _ (by rw [bv_length, HL1.out]; have := hq2.out; omega)
          have hbl := hown4.block
          have HB4 := Lib.hid hb4'
          have hs24 : w.heap.size ≤ w2.heap.size := by omega
          go_wp2_with (at_builtin; refine wpList_append_l rfl (.tmp 47) (.tmp 49) rfl w.heap.size u4 L (by rfl) (hown4.alloc _) (w2.heap.size + 1) _ 1 _ [(strOf s, strOf t)] (by rfl) rfl hsee (by omega) (by simp only [World.size_alloc, hs4]; omega) ?_; intro v1 w3 hown5 hon5; have hb5 : Below w.heap.size (w2.setCell ⟨wr.heap.size, 1, none⟩ (.string (strOf t))) w3 := ((Below.refl _ _).alloc (by rw [hs4]; exact hs24) _).trans (hon5.below (by simp only [World.size_alloc, hs4]; omega) hbl))
          all_goals
            go_roundg (m - q)
            case measure => omega
            case rel => exact ⟨p + q, f', _, _, m - k1 - k2, _, by have := hq2.out; omega, by have := hq2.out; omega, by have := hq2.out; omega, rfl, by first | exact hSq | exact hSq0 (by omega), hown5, by simp; omega, HLS2.out, by have := hq2.out; omega, hT, HB4.out.trans hb5⟩
        · have hez : ((e2 : Int) != 0) = true := by rw [bne_iff_ne]; omega
          have hbad := Lib.hid (heq.out.trans (parseF_bad2 hBne h1 h2 e20))
          have HE := Lib.hid e20
          have hS1q : Sees w w.heap.size (A'.map (·.add k1)) (bv (B.drop k1)) := by rw [bv_drop]; exact hSr.cut' k1
          have hS1z : m ≤ k1 → Sees w w.heap.size A' (bv (B.drop k1)) := fun h => by rw [bv_drop]; exact Sees.cut0 _ _ _ (by rw [bv_length, HL.out]; exact h)
          clear hC h1 h2 hl1 hok heq e20 hW0
          go_wp2_with fail
          rw [HW0.out]
          refine HC.out.mono ?_
          rintro en w1 ⟨rfl, hb1⟩
          have hT1 := hT0.below hb1 hWs
          have hb1' : Below w.heap.size w w1 := hbW'.trans (hb1.mono hsW)
          have hs1 := hb1'.size
          have hs11 := hb1.size
          clear hown hownW hT0
          obtain ⟨c0, c1, f0, f1⟩ := hT1
          have hb2' : Below w.heap.size w (w1.setCell ⟨wr.heap.size, 0, none⟩ (.string (strOf s))) := hb1'.setCell (by simpa using hsr) _
          have hs2 : (w1.setCell ⟨wr.heap.size, 0, none⟩ (.string (strOf s))).heap.size = w1.heap.size := by simp [World.setCell]
          have hC2 : ∀ A2 c2, Sees w w.heap.size A2 (bv (B.drop k1)) → Hid (Calls Tryd.prog 26 #[.slice A2 (m - k1) c2] (w1.setCell ⟨wr.heap.size, 0, none⟩ (.string (strOf s))) (CutIs (w1.setCell ⟨wr.heap.size, 0, none⟩ (.string (strOf s))) (t, k2, e2))) := fun A2 c2 h => by rw [← H2.out]; exact Lib.hid (RefCut_any A2 (m - k1) c2 (B.drop k1) HL1.out _ ((h.below hb2').more (by rw [hs2]; exact hs1)) (by omega))
          go_wp2_with fail
          all_goals
            refine (hC2 _ _ (by first | exact hS1q | exact hS1z (by omega))).out.mono ?_
            rintro en w2 ⟨rfl, hb2⟩
            go_wp2
            go_ret2
            exact UnmOut.err hbad.out HE.out (hb2'.trans (hb2.mono (by rw [hs2]; exact hs1))) rfl
      · have hez : ((e1 : Int) != 0) = true := by rw [bne_iff_ne]; omega
        have hbad := Lib.hid (heq.out.trans (parseF_bad1 hBne h1 e0))
        have HE := Lib.hid e0
        have g0 : (0 : Int) < (m : Int) := by omega
        clear hC h1 heq e0 hW0
        go_wp2_with fail
        rw [HW0.out]
        refine HC.out.mono ?_
        rintro en w1 ⟨rfl, hb1⟩
        go_wp2
        go_ret2
        exact UnmOut.err hbad.out HE.out (hbW'.trans (hb1.mono hsW)) rfl
    · have hm0 : m = 0 := by omega
      subst hm0
      have hBn : B = [] := List.eq_nil_of_length_eq_zero HL.out
      have hRL : Hid (R = (L, 0)) := by have := heq.out; rw [hBn, parseF_end] at this; exact this
      have hiff := sorted_iff (HR.out.trans hRL.out)
      have hown0 := hown
      obtain ⟨Ao, co, rfl, hco, -, hSo⟩ := hown.open_
      have hMa := RefMarshal_any Ao L.length co L rfl wr hSo (by omega) (fun x hx => by have := HLS.out x hx; omega)
      have HMa := Lib.hid hMa
      have hLn : L.length ≤ 1099511627776 := by omega
      have HIFF := Lib.hid hiff
      obtain ⟨z, hz⟩ : ∃ z, L.length = z := ⟨_, rfl⟩
      rw [hz] at HMa hown0 ⊢
      have cb := run_str w w.heap.size A n c b hS HN.out
      obtain ⟨M, hM⟩ : ∃ M, marsh (sortN L) = M := ⟨_, rfl⟩
      have HM := Lib.hid hM
      clear hBn heq hMa hown hz hiff hM
      go_wp2_with fail
      refine HMa.out.mono ?_
      rintro en w1 ⟨v, kk, rfl, hb1, hres⟩
      have hs1 := hb1.size
      clear HMa
      rcases hres with ⟨hmay, rfl, hownB⟩ | ⟨hno, rfl, rfl⟩
      · rw [HM.out] at hownB
        have HMAY := Lib.hid hmay
        clear hmay
        obtain ⟨Av, cv, rfl, -, -, -, hsv⟩ := hownB.open_
        have cv1 := run_str w1 w1.heap.size Av M.length cv M hsv rfl
        have cb1 := run_str w1 w.heap.size A n c b (hS.below (hbr.trans (hb1.mono hsr))) HN.out
        by_cases hMb : M = b
        · have hc : ((strOf M).toList == (strOf b).toList) = true := by rw [strOf_toList, strOf_toList, beq_iff_eq]; exact hMb
          have HMB := Lib.hid hMb
          clear hMb cb
          go_wp2
          go_ret2
          refine ⟨_, 0, rfl, hbr.trans (hb1.mono hsr), .inl ?_⟩
          rw [hRL.out]
          exact ⟨rfl, HMAY.out, HIFF.out.2 (HM.out.trans HMB.out), rfl, hown0.below hb1⟩
        · have hc : ((strOf M).toList == (strOf b).toList) = false := by rw [strOf_toList, strOf_toList, beq_eq_false_iff_ne]; exact hMb
          have hbadl : Hid (¬ (MayL L ∧ sortN L = L)) := fun h => hMb (HM.out.symm.trans (HIFF.out.1 h.2))
          clear hMb cb
          go_wp2
          go_ret2
          exact UnmOut.bad hRL.out hbadl.out (hbr.trans (hb1.mono hsr))
      · have hbadl : Hid (¬ (MayL L ∧ sortN L = L)) := fun h => hno h.1
        clear hno
        go_wp2
        go_ret2
        exact UnmOut.bad hRL.out hbadl.out (hbr.trans (hb1.mono hsr))
end Go.Proofs.YtbgnmojdkhlbaaaDoor
