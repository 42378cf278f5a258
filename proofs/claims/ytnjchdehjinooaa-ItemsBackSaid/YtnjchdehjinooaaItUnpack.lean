/-
  items.Unpack, walked.
-/
import Derived.Test.YtnjchdehjinooaaItEq
import Derived.StillTailTactics
namespace Go.Proofs.Ytnjchdehjinooaa
open Go.RowKit

def UnpackIs (w : World) (b : List UInt8) (en : Ending) (w' : World) : Prop :=
  ∃ v, en = .returned (.tuple #[v, .int .i64 ((unpackR b).2 : Nat)]) ∧ OwnS w' (w.heap.size + 2) v (unpackR b).1 ∧ Below w.heap.size w w'

theorem St.init (w : World) (A : Option Addr) (n c : Nat) (b : List UInt8) (hn : b.length = n) (hnc : n ≤ c) (hsm : n ≤ 1000000) (hS : Sees w w.heap.size A (bv b)) :
    St w ((w.alloc (.cells #[.slice A n c] 23)).alloc (.cells #[.int .i64 0] 29)) A n c b 0 := by
  have hb1 : Below w.heap.size w (w.alloc (.cells #[.slice A n c] 23)) := (Below.refl _ w).alloc (Nat.le_refl _) _
  have hs1 : (w.alloc (.cells #[.slice A n c] 23)).heap.size = w.heap.size + 1 := by simp
  have hb2 : Below (w.heap.size + 1) (w.alloc (.cells #[.slice A n c] 23)) ((w.alloc (.cells #[.slice A n c] 23)).alloc (.cells #[.int .i64 0] 29)) := (Below.refl _ _).alloc (by omega) _
  have hb : Below w.heap.size w ((w.alloc (.cells #[.slice A n c] 23)).alloc (.cells #[.int .i64 0] 29)) := hb1.trans (hb2.mono (by omega))
  refine ⟨?_, ?_, hn, hnc, hsm, ?_, hb⟩
  · have := heap_alloc_new (w.alloc (.cells #[.slice A n c] 23)) (.cells #[.int .i64 0] 29)
    rw [hs1] at this
    exact this
  · exact (hb2.block _ (by omega)).trans (heap_alloc_new w _)
  · exact SeesX.of_sees (hS.below hb) hb.size

set_option maxRecDepth 100000 in
set_option maxHeartbeats 1600000 in
theorem Unpack_first (A : Option Addr) (n c : Nat) (b : List UInt8) (hn : b.length = n) (hnc : n ≤ c) (hsm : n ≤ 1000000) (w : World) (hS : Sees w w.heap.size A (bv b)) (u e : Nat) (r : List UInt8) (hnum : numR b = (u, r, e)) (he : e ≠ 0) :
    Calls Try.prog 14 #[.slice A n c] w (UnpackIs w b) := by
  have hU : Hid (unpackR b = ([], e)) := by unfold Hid unpackR; rw [hnum]; simp only; rw [if_pos he]
  have he2 := Lib.hid (show (numR b).2.2 = e by rw [hnum])
  have he1 : ((e : Int) != 0) = true := by rw [bne_iff_ne]; omega
  have hN := Lib.hid hn
  have he0 := Lib.hid he
  clear hnum he hn
  go_enter Try.func14, Try.ntmps14
  go_wp2_with fail
  refine (St.num_err (w0 := w) (A := A) (n := n) (c := c) (r := b) ?st e he2.out he0.out).mono ?_
  case st => exact St.init w A n c b hN.out hnc hsm hS
  rintro en w1 ⟨rfl, hst, hlt⟩
  have hc1 := cell_of_one hst.err
  go_wp2_with fail
  go_loopg [17] 0 (fun g i wr => i = .int .i64 0 ∧ wr = w1)
  case atStart => exact ⟨rfl, rfl⟩
  case round =>
    obtain ⟨rfl, rfl⟩ := hrel
    go_wp2
    go_quiet (fail)
    go_wp2
    go_ret2
    unfold UnpackIs
    rw [hU.out]
    exact ⟨_, rfl, OwnS.nil _ _, below_d hst.below _⟩

/-- What Unpack makes of the items that it took. -/
def unpackOf (b : List UInt8) (X : List (List UInt8) × Nat) : List (List UInt8) × Nat :=
  if X.2 ≠ 0 then ([], X.2) else if checkN X.1 = 0 ∧ packB X.1 = b then (X.1, 0) else ([], 11)

theorem Hid.mk' {p : Prop} (h : p) : Hid p := h

set_option maxRecDepth 100000 in
set_option maxHeartbeats 3200000 in
theorem Unpack_rest (A : Option Addr) (n c : Nat) (b : List UInt8) (hn : b.length = n) (hnc : n ≤ c) (hsm : n ≤ 1000000) (w : World) (hS : Sees w w.heap.size A (bv b)) (u : Nat) (r : List UInt8) (hnum : numR b = (u, r, 0)) :
    Calls Try.prog 14 #[.slice A n c] w (UnpackIs w b) := by
  obtain ⟨X, hX⟩ : ∃ X, itemsR u [] [] r = X := ⟨_, rfl⟩
  have hU : Hid (unpackR b = unpackOf b X) := by unfold Hid unpackR unpackOf; rw [hnum]; simp only; rw [if_neg (by simp), hX]
  have hu4 : u ≤ 400 := by have := (numR_len b).2; rw [hnum] at this; exact this
  have hN := Lib.hid hn
  have hNum := Lib.hid hnum
  have HX := Lib.hid hX
  clear hn hX hnum
  go_enter Try.func14, Try.ntmps14
  go_wp2_with fail
  refine (St.num_ok (w0 := w) (A := A) (n := n) (c := c) (r := b) ?st u r hNum.out).mono ?_
  case st => exact St.init w A n c b hN.out hnc hsm hS
  rintro en w1 ⟨rfl, A1, c1, hst1, hlt1, -⟩
  clear hlt1
  go_wp2_with fail
  go_loopg [7, 8, 17] u (fun g lv a i wr => ∃ (k : Nat) (ls : List (List UInt8)) (P : List UInt8) (Ah : Option Addr) (ch : Nat) (Ar : Option Addr) (cr : Nat) (q : List UInt8), k + g = u ∧ i = .int .i64 k ∧ OwnS wr (w.heap.size + 2) lv ls ∧ ls.length = k ∧ a = .slice Ah P.length ch ∧ P.length ≤ ch ∧ P.length ≤ 400 * k ∧ SeesN wr (w.heap.size + 2) lv.ownBlock Ah (bv P) ∧ St w wr Ar q.length cr q 0 ∧ Hid (X = itemsR (u - k) ls P q))
  case atStart => exact ⟨0, [], [], none, 0, A1, c1, r, by omega, rfl, OwnS.nil _ _, rfl, rfl, by simp, by simp, ⟨.inl rfl⟩, hst1, by unfold Hid; rw [Nat.sub_zero]; exact HX.out.symm⟩
  case round =>
    obtain ⟨k, ls, P, Ah, ch, Ar, cr, q, hk, rfl, hown, hlk, rfl, hPc, hPl, hsP, hst, heq⟩ := hrel
    by_cases hlt : k < u
    · obtain ⟨j, hj⟩ : ∃ j, u - k = j + 1 := ⟨u - k - 1, by omega⟩
      rw [hj] at heq
      obtain ⟨u1, q1, e1, h1⟩ : ∃ u1 q1 e1, numR q = (u1, q1, e1) := ⟨_, _, _, rfl⟩
      by_cases he1 : e1 = 0
      · subst he1
        have hu1 : u1 ≤ 400 := by have := (numR_len q).2; rw [h1] at this; exact this
        by_cases hbig : P.length < u1
        · have HF : Hid (unpackR b = ([], 11)) := by unfold Hid; rw [hU.out, heq.out, items_big h1 hbig]; rfl
          have h1H := Lib.hid h1
          clear heq h1 hj
          go_wp2_with fail
          refine (hst.num_ok u1 q1 h1H.out).mono ?_
          rintro en w2 ⟨rfl, A2, c2, hst2, hl2, -⟩
          have hcF := cell_of_one hst2.err
          have hfF := free_of_one hst2.err
          have hst3 := hst2.setErr 11
          have hcF3 := cell_of_one hst3.err
          go_wp2_with fail
          refine (hst3.num_idle (by decide)).mono ?_
          rintro en w3 ⟨rfl, rfl⟩
          go_wp2_with fail
          go_quiet (fail)
          go_wp2
          go_ret2
          unfold UnpackIs
          rw [HF.out]
          exact ⟨_, rfl, OwnS.nil _ _, below_d hst3.below _⟩
        · obtain ⟨u2, q2, e2, h2⟩ : ∃ u2 q2 e2, numR q1 = (u2, q2, e2) := ⟨_, _, _, rfl⟩
          by_cases he2 : e2 = 0
          · subst he2
            have hu2 : u2 ≤ 400 := by have := (numR_len q1).2; rw [h2] at this; exact this
            have h1H := Lib.hid h1
            have h2H := Lib.hid h2
            by_cases hsh : q2.length < u2
            · have HF : Hid (unpackR b = ([], 10)) := by unfold Hid; rw [hU.out, heq.out, items_short h1 hbig h2 hsh]; rfl
              clear heq h1 h2 hj
              go_wp2_with fail
              refine (hst.num_ok u1 q1 h1H.out).mono ?_
              rintro en w2 ⟨rfl, A2, c2, hst2, hl2, -⟩
              have hcF := cell_of_one hst2.err
              go_wp2_with fail
              refine (hst2.num_ok u2 q2 h2H.out).mono ?_
              rintro en w3 ⟨rfl, A3, c3, hst3, hl3, hA3⟩
              have hcF3 := cell_of_one hst3.err
              have hfF3 := free_of_one hst3.err
              have hcR3 := cell_of_one hst3.row
              have hst4 := hst3.setErr 10
              have hcF4 := cell_of_one hst4.err
              go_wp2_with fail
              go_quiet (fail)
              go_wp2
              go_ret2
              unfold UnpackIs
              rw [HF.out]
              exact ⟨_, rfl, OwnS.nil _ _, below_d hst4.below _⟩
            · obtain ⟨L1, hL1⟩ : ∃ L1, P.take u1 = L1 := ⟨_, rfl⟩
              obtain ⟨L2, hL2⟩ : ∃ L2, q2.take u2 = L2 := ⟨_, rfl⟩
              have hL1n : L1.length = u1 := by rw [← hL1, List.length_take]; omega
              have hL2n : L2.length = u2 := by rw [← hL2, List.length_take]; omega
              have HT : Hid (X = itemsR j (ls ++ [L1 ++ L2]) (L1 ++ L2) (q2.drop u2)) := by unfold Hid; rw [heq.out, items_more h1 hbig h2 hsh, hL1, hL2]
              have HJ := Lib.hid hj
              have HL1 := Lib.hid hL1
              have HL2 := Lib.hid hL2
              have HN1 := Lib.hid hL1n
              have HN2 := Lib.hid hL2n
              clear heq h1 h2 hj hL1 hL2 hL1n hL2n
              go_wp2_with fail
              refine (hst.num_ok u1 q1 h1H.out).mono ?_
              rintro en w2 ⟨rfl, A2, c2, hst2, hl2, -⟩
              have hcF := cell_of_one hst2.err
              go_wp2_with fail
              refine (hst2.num_ok u2 q2 h2H.out).mono ?_
              rintro en w3 ⟨rfl, A3, c3, hst3, hl3, hA3⟩
              have hcF3 := cell_of_one hst3.err
              have hcR3 := cell_of_one hst3.row
              have hc3 := hst3.nc
              have k1 : (u1 : Int) ≤ (ch : Int) := by omega
              have k2 : (u2 : Int) ≤ (c3 : Int) := by omega
              have k3 : (0 : Int) ≤ (u1 : Int) := by omega
              have k4 : (0 : Int) ≤ (u2 : Int) := by omega
              go_wp2_with fail
              go_still_tail 6, (by kernel_rfl)
              change wpList _ _ _ _ _ w3.drew
              have hdr : Below w3.heap.size w3 w3.drew := ⟨rfl, rfl, rfl, Nat.le_refl _, fun _ _ => rfl⟩
              have hst4 := hst3.keep hdr
              have hl4 := (hl2.trans hl3).trans (Later.of_below (B := w.heap.size + 2) hdr)
              have hA4 : ∀ ad : Addr, A3 = some ad → wr.heap.size ≤ ad.block := fun ad e => Nat.le_trans hl2.size (hA3 ad e)
              generalize w3.drew = W at hst4 hl4 ⊢
              have hown4 := hown.later hl4
              have hsP4 := hsP.later hl4
              have hob : Hid (∀ k, u7.ownBlock = some k → w.heap.size + 2 ≤ k ∧ k < wr.heap.size) := by obtain ⟨vs, g1, _⟩ := hown.out; exact World.ownsRow.lt g1
              have hall : ∀ i (hi : i < [L1, L2].length), ([L1, L2][i]).length ≤ 1000000 := by
                intro i hi
                match i, hi with
                | 0, _ => show L1.length ≤ _; rw [HN1.out]; omega
                | 1, _ => show L2.length ≤ _; rw [HN2.out]; omega
              have hCc := Lib.hid (Concat_any (some ⟨W.heap.size, 0, none⟩) 2 2 [L1, L2] rfl _ (sees2_pair W Ah A3 u1 u2 ch c3 L1 L2 HN1.out HN2.out (by omega) (by omega) (by rw [← HL1.out, bv_take]; exact hsP4.sees.take _) (by rw [← HL2.out, bv_take]; exact hst4.sees.sees.take _) 23) (by omega) hall)
              clear hall hst3 hst2 hcF hcF3 hcR3 hdr hA3 hst
              go_wp2_with fail
              refine hCc.out.mono ?_
              rintro en w6 ⟨v6, rfl, hown6, hon6⟩
              rw [show [L1, L2].flatten = L1 ++ L2 from by simp] at hown6
              obtain ⟨F, hF⟩ : ∃ F, L1 ++ L2 = F := ⟨_, rfl⟩
              rw [hF] at hown6 HT
              have hFl : Hid (F.length = u1 + u2) := by unfold Hid; rw [← hF, List.length_append, HN1.out, HN2.out]
              have HF := Lib.hid hF
              clear hF
              have hbW6 : Below W.heap.size W w6 := ((Below.refl _ W).alloc (Nat.le_refl _) _).trans (hon6.below_nil.mono (by simp))
              have hs6 := hbW6.size
              obtain ⟨A6, c6, rfl, hc6, hm6, hown6', -⟩ := hown6.open_
              have hlt6 := (World.ownsRow.lt hown6')
              have hWs : W.heap.size ≤ (W.alloc (.cells #[.slice Ah u1 ch, .slice A3 u2 c3] 23)).heap.size := by simp
              have hWr := hl4.size
              have hst4s := hst4.size
              have hsF : SeesN w6 (w.heap.size + 2) u7.ownBlock A6 (bv F) := SeesN.of_own (hown6'.base_le (by omega)) rfl _ (fun bk e1 e2 => by
                have g1 := (hlt6 bk e1).1
                have g2 := (hob.out bk e2.symm).2
                omega)
              have hst6 := hst4.keep hbW6
              have hown5 := hown4.below hbW6
              have hb67 : Below w6.heap.size w6 (w6.alloc (.cells #[.slice A6 F.length c6] 23)) := (Below.refl _ w6).alloc (Nat.le_refl _) _
              have hA4' : ∀ (ad : Addr) (bk : Nat), A3 = some ad → u7.ownBlock = some bk → ad.block ≠ bk := fun ad bk e1 e2 e3 => by
                have g1 := hA4 ad e1
                have g2 := (hob.out bk e2).2
                omega
              go_wp2_with (at_builtin; refine wpList_append_s rfl (.tmp 50) (.tmp 52) rfl (w.heap.size + 2) u7 ls (by rfl) (hown5.below hb67) ⟨w6.heap.size, 0, none⟩ 1 F A6 c6 (by rfl) (by rw [World.cell?_alloc_at _ _ _ _ rfl]; rfl) hc6 (hsF.below hb67) (by omega) (by simp; omega) ?_; intro v8 w8 hown8 hg8 ho8; have hst8 : St w w8 A3 q2.length c3 q2 0 := (hst6.keep hb67).grown hg8 (fun bk e1 => (hob.out bk e1).1) (fun ad e1 e2 => hA4' ad ad.block e1 e2.symm rfl); have hcR8 := cell_of_one hst8.row; have hfR8 := free_of_one hst8.row)
              all_goals
                have hb8 : SeesN w8 (w.heap.size + 2) v8.ownBlock A6 (bv F) := (hsF.below hb67).kept _ hg8.size (fun bk _ e2 e3 => hg8.block bk e2 e3) (fun bk _ e2 e3 => by
                  rcases ho8 with e | e
                  · rw [e]; exact e3
                  · rw [e]; intro e4; injection e4 with e4; omega)
                have hrl : (q2.drop u2).length = q2.length - u2 := List.length_drop
                have hq3 := hst8.nc
                have hqs := hst8.small
                have hx8 : SeesX w8 w.heap.size (if c3 = u2 then A3 else A3.map (fun x => x.add u2)) (bv (q2.drop u2)) := by rw [bv_drop]; exact hst8.sees.cut (by rw [bv_length]; exact hq3)
                have hFl' := hFl.out
              · have hcu : c3 = u2 := by assumption
                rw [if_pos hcu] at hx8
                have hst9 : St w (w8.setCell ⟨w.heap.size, 0, none⟩ (.slice A3 (q2.length - u2) 0)) A3 (q2.drop u2).length 0 (q2.drop u2) 0 := by
                  rw [← hrl]; exact hst8.setRow (by omega) (by omega) hx8
                go_roundg (u - (k + 1))
                case measure => omega
                case rel => exact ⟨k + 1, ls ++ [F], F, A6, c6, A3, 0, q2.drop u2, by omega, by go_num, hown8.setCell (by simp only; omega) _, by simp; omega, rfl, hc6, by omega, hb8.setCell (by simp only; omega) _, hst9, by have h1 := HT.out; have h2 := HJ.out; unfold Hid; rw [h1, show u - (k + 1) = j from by omega]⟩
              · have hcu : ¬ c3 = u2 := by assumption
                rw [if_neg hcu] at hx8
                have hst9 : St w (w8.setCell ⟨w.heap.size, 0, none⟩ (.slice (A3.map (fun x => x.add u2)) (q2.length - u2) (c3 - u2))) (A3.map (fun x => x.add u2)) (q2.drop u2).length (c3 - u2) (q2.drop u2) 0 := by
                  rw [← hrl]; exact hst8.setRow (by omega) (by omega) hx8
                go_roundg (u - (k + 1))
                case measure => omega
                case rel => exact ⟨k + 1, ls ++ [F], F, A6, c6, A3.map (fun x => x.add u2), c3 - u2, q2.drop u2, by omega, by go_num, hown8.setCell (by simp only; omega) _, by simp; omega, rfl, hc6, by omega, hb8.setCell (by simp only; omega) _, hst9, by have h1 := HT.out; have h2 := HJ.out; unfold Hid; rw [h1, show u - (k + 1) = j from by omega]⟩
          · have HF : Hid (unpackR b = ([], e2)) := by unfold Hid; rw [hU.out, heq.out, items_err2 h1 hbig h2 he2]; unfold unpackOf; rw [if_pos he2]
            have h1H := Lib.hid h1
            have h2H := Lib.hid (show (numR q1).2.2 = e2 by rw [h2])
            have he2' : ((e2 : Int) != 0) = true := by rw [bne_iff_ne]; omega
            have he2'' : ((e2 : Int) == 0) = false := by rw [beq_eq_false_iff_ne]; omega
            have HE := Lib.hid he2
            clear heq h1 h2 hj he2
            go_wp2_with fail
            refine (hst.num_ok u1 q1 h1H.out).mono ?_
            rintro en w2 ⟨rfl, A2, c2, hst2, hl2, -⟩
            have hcF := cell_of_one hst2.err
            go_wp2_with fail
            refine (hst2.num_err e2 h2H.out HE.out).mono ?_
            rintro en w3 ⟨rfl, hst3, hl3⟩
            have hcF3 := cell_of_one hst3.err
            go_wp2_with fail
            go_quiet (fail)
            go_wp2
            go_ret2
            unfold UnpackIs
            rw [HF.out]
            exact ⟨_, rfl, OwnS.nil _ _, below_d hst3.below _⟩
      · have HF : Hid (unpackR b = ([], e1)) := by unfold Hid; rw [hU.out, heq.out, items_err1 h1 he1]; unfold unpackOf; rw [if_pos he1]
        have h1H := Lib.hid (show (numR q).2.2 = e1 by rw [h1])
        have he1' : ((e1 : Int) != 0) = true := by rw [bne_iff_ne]; omega
        have he1'' : ((e1 : Int) == 0) = false := by rw [beq_eq_false_iff_ne]; omega
        have HE := Lib.hid he1
        clear heq h1 hj he1
        go_wp2_with fail
        refine (hst.num_err e1 h1H.out HE.out).mono ?_
        rintro en w2 ⟨rfl, hst2, hl2⟩
        have hcF := cell_of_one hst2.err
        go_wp2_with fail
        refine (hst2.num_idle HE.out).mono ?_
        rintro en w3 ⟨rfl, rfl⟩
        go_wp2_with fail
        go_quiet (fail)
        go_wp2
        go_ret2
        unfold UnpackIs
        rw [HF.out]
        exact ⟨_, rfl, OwnS.nil _ _, below_d hst2.below _⟩
    · obtain rfl : k = u := by omega
      have HXX : Hid (X = (ls, 0)) := by have := heq.out; rw [Nat.sub_self] at this; exact this
      obtain ⟨Al, cl, rfl, hcl, hs2⟩ := hown.open_
      have hcF := cell_of_one hst.err
      have hP := Pack_any Al ls.length cl ls rfl wr hs2 (by omega)
      unfold PackIs at hP
      have hsb := hst.below
      clear heq
      by_cases hck : checkN ls = 0
      · rw [hck] at hP
        simp only [if_true] at hP
        have HP := Lib.hid hP
        clear hP
        obtain ⟨PB, hPB⟩ : ∃ PB, packB ls = PB := ⟨_, rfl⟩
        rw [hPB] at HP
        have HU : Hid (unpackR b = if PB = b then (ls, 0) else ([], 11)) := by
          unfold Hid
          rw [hU.out, HXX.out]
          unfold unpackOf
          simp only [hck, hPB, true_and]
          rw [if_neg (by simp)]
        have HL := Lib.hid hlk
        clear hck hPB hlk
        by_cases heb : PB = b
        · have HB : decide (PB = b) = true := by simpa using heb
          have HE := Lib.hid heb
          clear heb
          go_wp2_with fail
          refine HP.out.mono ?_
          rintro en w2 ⟨v2, rfl, hown2, hb2⟩
          obtain ⟨A2, c2, rfl, hc2, hm2, hown2', hs2'⟩ := hown2.open_
          have hEq := BytesEqual_any A2 A PB.length n c2 c PB b rfl hN.out w2 hs2' ((hS.below (hsb.trans (hb2.mono hsb.size))).more (hsb.trans (hb2.mono hsb.size)).size)
          rw [HB] at hEq
          have HEq := Lib.hid hEq
          clear hEq HB
          go_wp2_with fail
          refine HEq.out.mono ?_
          rintro en w3 ⟨rfl, rfl⟩
          go_wp2_with fail
          go_ret2
          unfold UnpackIs
          rw [HU.out, if_pos HE.out]
          exact ⟨_, rfl, hown.below hb2, hsb.trans (hb2.mono hsb.size)⟩
        · have HB : decide (PB = b) = false := by simpa using heb
          have HE := Lib.hid heb
          clear heb
          go_wp2_with fail
          refine HP.out.mono ?_
          rintro en w2 ⟨v2, rfl, hown2, hb2⟩
          obtain ⟨A2, c2, rfl, hc2, hm2, hown2', hs2'⟩ := hown2.open_
          have hEq := BytesEqual_any A2 A PB.length n c2 c PB b rfl hN.out w2 hs2' ((hS.below (hsb.trans (hb2.mono hsb.size))).more (hsb.trans (hb2.mono hsb.size)).size)
          rw [HB] at hEq
          have HEq := Lib.hid hEq
          clear hEq HB
          go_wp2_with fail
          refine HEq.out.mono ?_
          rintro en w3 ⟨rfl, rfl⟩
          go_wp2_with fail
          go_ret2
          unfold UnpackIs
          rw [HU.out, if_neg HE.out]
          exact ⟨_, rfl, OwnS.nil _ _, hsb.trans (hb2.mono hsb.size)⟩
      · have HU : Hid (unpackR b = ([], 11)) := by
          unfold Hid
          rw [hU.out, HXX.out]
          unfold unpackOf
          simp only
          rw [if_neg (by simp), if_neg (by simp [hck])]
        rw [if_neg hck] at hP
        obtain ⟨ck, hck'⟩ : ∃ ck, checkN ls = ck := ⟨_, rfl⟩
        rw [hck'] at hP hck
        have HP := Lib.hid hP
        have hz : ((ck : Int) != 0) = true := by rw [bne_iff_ne]; omega
        clear hP hck hck' hlk
        go_wp2_with fail
        refine HP.out.mono ?_
        rintro en w2 ⟨v2, rfl, hown2, hb2⟩
        go_wp2_with fail
        go_ret2
        unfold UnpackIs
        rw [HU.out]
        exact ⟨_, rfl, OwnS.nil _ _, hsb.trans (hb2.mono hsb.size)⟩

theorem Unpack_any (A : Option Addr) (n c : Nat) (b : List UInt8) (hn : b.length = n) (hnc : n ≤ c) (hsm : n ≤ 1000000) (w : World) (hS : Sees w w.heap.size A (bv b)) :
    Calls Try.prog 14 #[.slice A n c] w (UnpackIs w b) := by
  obtain ⟨u, r, e, hnum⟩ : ∃ u r e, numR b = (u, r, e) := ⟨_, _, _, rfl⟩
  by_cases he : e = 0
  · subst he
    exact Unpack_rest A n c b hn hnc hsm w hS u r hnum
  · exact Unpack_first A n c b hn hnc hsm w hS u e r hnum he
end Go.Proofs.Ytnjchdehjinooaa
