/-
  Several texts in one: SmCrash SmTwin SmCloneP SmClone SmAwake SmOwn2 SmSwapsP.
-/
import Derived.Test.YteidkmiladkoiaaGreatDoorZSmA
import Derived.Lib.BytesEntry
import Derived.Lib.SlBytesConst
/-
  Crash, walked.
-/
namespace Go.Proofs.YteidkmiladkoiaaGreatDoor
open Go.RowKit

theorem crash_nil (a b : Int) (w : World) : Calls Tryz.prog 26 #[.pointer none, .int .i64 a, .int .i64 b] w fun e w' => (∃ v, e = .returned v) ∧ w = w' := by
  go_enter Tryz.func26, Tryz.ntmps26
  go_wp2
  refine bodyPost_ret (results_none rfl _ _ _) rfl ?_
  exact ⟨⟨_, rfl⟩, rfl⟩

/-- A row of bytes, cut. -/
theorem OwnB.cut {w : World} {base n c : Nat} {A : Option Addr} {l : List UInt8} (h : OwnB w base (.slice A n c) l) (k : Nat) (hk : k ≤ l.length) : OwnB w base (.slice A k c) (l.take k) := by
  have hbl := bv_length l
  have hkl : (l.take k).length = k := by rw [List.length_take]; omega
  rcases h.2 with ⟨e, hn⟩ | ⟨g, cap, cur, e, hb, hh, hnc, hm, hcs, ht⟩
  · simp only [Value.slice.injEq] at e
    obtain ⟨rfl, rfl, rfl⟩ := e
    have h0 : k = 0 := by omega
    subst h0
    rw [List.take_zero]
    exact OwnB.nil _ _
  · injection e with e1 e2 e3
    subst e1 e2 e3
    refine ⟨by rw [bv_length]; omega, .inr ⟨g, c, cur, by rw [hkl], hb, hh, by omega, hm, hcs, ?_⟩⟩
    rw [hkl, bv_take, ← ht, List.take_take, Nat.mul_one, Nat.mul_one, Nat.min_eq_left (by omega)]

/-- The files on the way: those of ls are still to be cut. -/
structure Cuts (S2 S3 : FsM) (L ls : List Nat) (n : Nat) : Prop where
  room : S3.room = S2.room
  now : S3.now = S2.now
  kept : S3.kept = S2.kept
  chg : S3.chg = S2.chg
  fuse : S3.fuse = S2.fuse
  len : S3.files.length = S2.files.length
  file : ∀ i, i < S2.files.length → S3.file i = if i ∈ L ∧ i ∉ ls then FsM.cut (S2.file i) n else S2.file i

theorem cut_file (S : FsM) (n i : Nat) (hi : i < S.files.length) (T : FsM) (hT : T.files = S.files.map fun x => FsM.cut x n) : T.file i = FsM.cut (S.file i) n := by
  unfold FsM.file
  rw [hT, List.getD_eq_getElem?_getD, List.getD_eq_getElem?_getD, List.getElem?_map, List.getElem?_eq_getElem hi]
  rfl
theorem FsAt.same {c F : Nat → Nat} {w : World} {f : Nat} {S T : FsM} (h : FsAt c F w f S) (h1 : T.room = S.room) (h2 : T.now = S.now) (h3 : T.kept = S.kept) (h4 : T.chg = S.chg) (h5 : T.fuse = S.fuse) (h6 : ∀ i, S.reach i → T.file i = S.file i) : FsAt c F w f T := by
  obtain ⟨bn, bk, v, g1, g2, g3, g4, g5, g6⟩ := h.out
  refine ⟨⟨bn, bk, v, ?_, g2, g3, by rw [h2]; exact g4, by rw [h3]; exact g5, by rw [h4]; exact g6⟩, h.col, fun i hi => ?_, h.lt⟩
  · have : fsV T bn bk v = fsV S bn bk v := by unfold fsV; rw [h1, h5]
    rw [this]; exact g1
  · have hr : S.reach i := by
      unfold FsM.reach at hi ⊢
      rw [h2, h3, h4] at hi
      exact hi
    rw [h6 i hr]
    exact h.files i hr

set_option maxRecDepth 100000 in
set_option maxHeartbeats 3200000 in
theorem crash_any {N : Nat} {c F : Nat → Nat} {w : World} {f : Nat} {S : FsM} (h : FsAt c F w f S) (hO : FsOk N S) (hN : N ≤ 10000) (ch by_ : Int) :
    Calls Tryz.prog 26 #[.pointer (some ⟨f, 0, none⟩), .int .i64 ch, .int .i64 by_] w fun e w' => (∃ v, e = .returned v) ∧ FsNew c w f (S.crash ch.toNat by_.toNat) w' := by
  obtain ⟨bn, bk, v, h1, h2, h3, h4, h5, h6⟩ := h.out
  obtain ⟨vs, r1, r2, r3⟩ := h6.out
  obtain ⟨A0, n0, rfl, hn0, -⟩ := row_open r1
  have hcf := h.col
  have c1 : w.cell? ⟨f, 1, none⟩ = some (.map (some bn)) := h1.cell 1 rfl
  have c2 : w.cell? ⟨f, 2, none⟩ = some (.map (some bk)) := h1.cell 2 rfl
  have c3 : w.cell? ⟨f, 3, none⟩ = some (.slice A0 S.chg.length n0) := h1.cell 3 rfl
  have c4 : w.cell? ⟨f, 4, none⟩ = some (.int .i64 (S.fuse : Int)) := h1.cell 4 rfl
  have f4 := h1.frozen 4
  have f1 := h1.frozen 1
  obtain ⟨L, hL⟩ : ∃ L, S.chg.length = L := ⟨_, rfl⟩
  obtain ⟨m, hm⟩ : ∃ m : Nat, min ch.toNat L = m := ⟨_, rfl⟩
  have hmI : min (max ch 0) (L : Int) = (m : Int) := by omega
  rw [hL] at c3 hn0
  go_enter Tryz.func26, Tryz.ntmps26
  go_wp2
  go_region
  obtain ⟨w2, hw2⟩ : ∃ W, ((w.setCell ⟨f, 4, none⟩ (.int .i64 0)).setCell ⟨f, 1, none⟩ (.map (some bk))).drew = W := ⟨_, rfl⟩
  rw [hw2]
  have hB2 : Blk w2 f #[.int .i64 (S.room : Int), .map (some bk), .map (some bk), .slice A0 S.chg.length n0, .int .i64 0] 64 := by
    rw [← hw2]
    exact ⟨((h1.set 4 (.int .i64 0)).set 1 (.map (some bk))).out⟩
  have ht2 : Turn (fun k => k = f) w w2 := by
    rw [← hw2]
    exact ((Turn.setCell w ⟨f, 4, none⟩ _ (T := fun k => k = f) rfl).trans (Turn.setCell _ ⟨f, 1, none⟩ _ rfl)).trans (Turn.drew _)
  have hfk : bk ≠ f := fun e => by rw [e] at h3; omega
  have hbkl : bk < w.heap.size := h5.lt
  have HM2 := Lib.hid (h5.keep (ht2.block bk hbkl hfk))
  have hml : m ≤ S.chg.length := by omega
  have HML := Lib.hid hml
  have HX := Lib.hid (And.intro h (And.intro hO (And.intro r1 (And.intro r2 r3))))
  have HB2 := Lib.hid hB2
  have HT2 := Lib.hid ht2
  have H3 := Lib.hid h3
  have HMM := Lib.hid hm
  have HCF := Lib.hid hcf
  have HFK := Lib.hid hfk
  have HLL := Lib.hid hL
  have hLN : m ≤ 10000 := by have := hO.many; omega
  have hmn : (m : Int) ≤ (n0 : Int) := by omega
  clear h hO h1 h2 h3 h4 h5 h6 r1 r2 r3 c1 c2 c3 c4 f4 f1 hw2 hB2 ht2 hcf hfk hm hmI hL hml hn0
  go_wp2
  go_loopg [35] m (fun g i wr => ∃ k : Nat, k + g = m ∧ i = .int .i64 k ∧ MapIs wr bk (((S.chg.take k).foldl againD S.kept).map (pv F)) ∧ Turn (fun k => k = bk) w2 wr)
  case atStart => exact ⟨0, by omega, rfl, HM2.out, Turn.refl _ _⟩
  case round =>
    obtain ⟨k, hk, rfl, hmap, ht⟩ := hrel
    by_cases hlt : k < m
    · have hkl : k < S.chg.length := by have := HML.out; omega
      obtain ⟨h, hO, r1, r2, r3⟩ := HX.out
      obtain ⟨Ak, nk, e1, e2, e3⟩ := r3 k hkl
      have htt : Turn (fun k => k = f ∨ k = bk) w wr := (HT2.out.mono fun k _ e => .inl e).trans (ht.mono fun k _ e => .inr e)
      have hcr : ∀ k, c k = 5 ∨ c k = 4 → k < w.heap.size ∧ ¬ (k = f ∨ k = bk) := fun k hk => ⟨h.lt k (by omega), fun e => by
        rcases e with rfl | rfl
        · have := HCF.out; omega
        · have := H3.out; omega⟩
      have r1r := ownsRow_kept r1 (w' := wr) fun k e => htt.block k (hcr k (.inr (r2 k e))).1 (hcr k (.inr (r2 k e))).2
      obtain ⟨ad, hA, hc⟩ : ∃ ad, A0 = some ad ∧ wr.cell? (ad.add k) = some (.slice Ak (S.chg[k]).length nk) := by
        rcases (Sees.of_own r1r).out with e | ⟨ad, ea, -, ec⟩
        · rw [e] at e1; simp at e1
        · exact ⟨ad, ea, ec k _ e1⟩
      subst hA
      have hb1 : wr.cell? ⟨f, 1, none⟩ = some (.map (some bk)) := (HB2.out.keep (ht.block f HB2.out.lt (fun e => HFK.out e.symm))).cell 1 rfl
      have hl2 := hO.chg2 _ (List.getElem_mem hkl)
      have hD := Lib.hid (do_any (fun k => c k = 5) Ak (S.chg[k]).length nk bk F S.chg[k] ((S.chg.take k).foldl againD S.kept) wr rfl (by omega) (e3.keep (Kept.of_turn htt fun k e => hcr k (.inl e))) (fun k e => ⟨Nat.lt_of_lt_of_le (hcr k (.inl e)).1 htt.size, fun e4 => (hcr k (.inl e)).2 (.inr e4)⟩) hmap (ri_fold _ hO.keptR))
      have hT := Lib.hid (show (S.chg.take (k + 1)).foldl againD S.kept = againD ((S.chg.take k).foldl againD S.kept) S.chg[k] by rw [List.take_succ_eq_append_getElem hkl, List.foldl_append]; rfl)
      obtain ⟨lk, hlk⟩ : ∃ lk, (S.chg[k]).length = lk := ⟨_, rfl⟩
      rw [hlk] at hc hD e2 hl2
      clear hlk r1r e3 e1 r1 r2 r3 h hO hcr htt hmap
      go_wp2_with fail
      refine hD.out.mono ?_
      rintro e w5 ⟨⟨v5, rfl⟩, hm5, ht5⟩
      have HM5 := Lib.hid hm5
      clear hm5
      go_wp2
      go_roundg (m - (k + 1))
      case measure => omega
      case rel => exact ⟨k + 1, by omega, by go_num, by rw [hT.out]; exact HM5.out, ht.trans ht5⟩
    · obtain rfl : k = m := by omega
      obtain ⟨h, hO, r1, r2, r3⟩ := HX.out
      obtain ⟨X, hX⟩ : ∃ X, (S.chg.take k).foldl againD S.kept = X := ⟨_, rfl⟩
      have hin : ∀ i p, (p, i) ∈ X → S.reach i := fun i p hp => by
        rw [← hX] at hp
        rcases mem_fold hO.keptR _ hp with e | ⟨g, e1, e2⟩
        · exact .inr (.inl ⟨p, e⟩)
        · exact .inr (.inr ⟨g, List.mem_of_mem_take e1, p, e2⟩)
      have htt : Turn (fun k => k = f ∨ k = bk) w wr := (HT2.out.mono fun k _ e => .inl e).trans (ht.mono fun k _ e => .inr e)
      have hhalf : FsHalf (upd c bk 2) F wr f { S with now := X, fuse := 0 } := by
        refine ⟨⟨bk, .map (some bk), .slice A0 S.chg.length n0, HB2.out.keep (ht.block f HB2.out.lt (fun e => HFK.out e.symm)), upd_same c bk 2, by rw [← hX]; exact hmap⟩, ?_, fun i ⟨p, hp⟩ => ?_, fun j hj => ?_⟩
        · rw [upd_ne c 2 (fun e => HFK.out e.symm)]; exact HCF.out
        · refine ((h.files i (hin i p hp)).keep (Kept.of_turn htt fun j e => ⟨h.lt j (by omega), fun e2 => ?_⟩)).recol fun j e => upd_ne c 2 (fun e2 => ?_)
          · rcases e2 with rfl | rfl
            · have := HCF.out; omega
            · have := H3.out; omega
          · have := H3.out; rw [e2] at e; omega
        · by_cases e : j = bk
          · rw [e]; exact Nat.lt_of_lt_of_le hbkl htt.size
          · rw [upd_ne c 2 e] at hj
            exact Nat.lt_of_lt_of_le (h.lt j hj) htt.size
      have hset := Lib.hid (settle_half hhalf)
      have HIN := Lib.hid hin
      have HTT := Lib.hid htt
      have HXX := Lib.hid hX
      clear hhalf h hO r1 r2 r3 hX hin htt hmap
      go_wp2_with fail
      refine hset.out.mono ?_
      rintro e w6 ⟨⟨v6, rfl⟩, c6, hAt6, hc6, ht6⟩
      have hall := Lib.hid (all_any hAt6)
      have HAT6 := Lib.hid hAt6
      have HC6 := Lib.hid hc6
      have HT6 := Lib.hid ht6
      clear hset hAt6 hc6 ht6
      go_wp2_with fail
      refine hall.out.mono ?_
      rintro e w7 ⟨bl, Ls, rfl, hml7, hnd7, hmem7, hbl7, hb7⟩
      obtain ⟨w8, hrg, hR8, hb8, hz8⟩ := hml7.range (P := Tryz.prog) Tryz.underlying81
      have HR8 := Lib.hid hR8
      have HB8 := Lib.hid (hb7.trans (hb8.mono hb7.size))
      have HME := Lib.hid hmem7
      have hs7 := hb7.size
      have hs8 := HB8.out.size
      clear hall hml7 hR8 hb7 hb8 hmem7 hz8
      obtain ⟨S1, hS1⟩ : ∃ S1, ({ S with now := X, fuse := 0 } : FsM).settle = S1 := ⟨_, rfl⟩
      rw [hS1] at HAT6
      have HS1 := Lib.hid hS1
      have hst1 : ∀ i, (S1.file i).stays ≤ (S1.file i).b.length ∧ (S1.file i).b.length ≤ 1048576 := fun i => by
        have e : S1.file i = S.file i := by rw [← hS1]; rfl
        rw [e]; exact HX.out.2.1.fileOk i
      have hlen1 : S1.files.length = S.files.length := by rw [← hS1]; rfl
      have hnow1 : S1.now = X := by rw [← hS1]; rfl
      have HST1 := Lib.hid hst1
      have HLEN1 := Lib.hid hlen1
      have HNOW1 := Lib.hid hnow1
      have hnum : ∀ n, n ∈ Ls → n < S1.files.length ∧ S1.reach n := fun n hn => by
        obtain ⟨p, hp⟩ := (HME.out n).1 hn
        have hp2 : (p, n) ∈ X := hp
        exact ⟨by rw [hlen1]; exact HX.out.2.1.num n (HIN.out n p hp2), .inl ⟨p, by rw [hnow1]; exact hp2⟩⟩
      have HNUM := Lib.hid hnum
      have HND := Lib.hid hnd7
      clear hS1 hst1 hlen1 hnow1 hnum hnd7
      go_wp2
      go_loopg [8] Ls.length (fun g u wr => ∃ (ls : List Nat) (S3 : FsM), ls.length = g ∧ MapRng wr bl w7.heap.size (Ls.map (kb F)) (ls.map (kb F)) ∧ FsAt c6 F wr f S3 ∧ Cuts S1 S3 Ls ls by_.toNat ∧ (∀ n ∈ ls, n ∈ Ls) ∧ ls.Nodup ∧ Turn (fun k => c6 k ≠ 0) w6 wr ∧ w8.heap.size ≤ wr.heap.size)
      case atStart => exact ⟨Ls, S1, rfl, HR8.out, HAT6.out.below HB8.out, ⟨rfl, rfl, rfl, rfl, rfl, rfl, fun i hi => by rw [if_neg (fun e => e.2 e.1)]⟩, fun _ e => e, HND.out, .of_new HB8.out, Nat.le_refl _⟩
      case round =>
        obtain ⟨ls, S3, hg, hrng, hAt, hcut, hin, hnd, htr, hsz⟩ := hrel
        rcases kb_next hrng with ⟨h0, hnx⟩ | ⟨n, ls', w9, hperm, hnx, hrng9, ht9, hz9, hen⟩
        · have HZ := Lib.hid (And.intro hAt (And.intro hcut (And.intro htr h0)))
          clear hAt hcut htr h0 hrng hin hnd hg
          go_wp2
          go_end0
          obtain ⟨hAt, hcut, htr, h0⟩ := HZ.out
          obtain ⟨h, hO, -⟩ := HX.out
          have hs1 := HS1.out
          have hcol : ∀ k, k < w.heap.size → c6 k = upd c bk 2 k := fun k hk => HC6.out k (Nat.lt_of_lt_of_le hk HTT.out.size)
          refine ⟨⟨_, rfl⟩, ⟨c6, F, hAt.same ?_ ?_ ?_ ?_ ?_ fun i hi => ?_, fun k hk e => ?_⟩, ?_⟩
          · rw [hcut.room, ← hs1]; rfl
          · rw [hcut.now, HNOW1.out, ← HXX.out, ← HMM.out]
            simp only [FsM.crash]
            congr 1
            rw [← HLL.out, List.take_eq_take_iff]
            omega
          · rw [hcut.kept, ← hs1]
            show _ = X
            rw [← HXX.out, ← HMM.out]
            simp only [FsM.crash]
            congr 1
            rw [← HLL.out, List.take_eq_take_iff]
            omega
          · rw [hcut.chg, ← hs1]; rfl
          · rw [hcut.fuse, ← hs1]; rfl
          · have hi1 : ∃ p, (p, i) ∈ S1.now := by
              unfold FsM.reach at hi
              rw [hcut.now, hcut.kept, hcut.chg, ← hs1] at hi
              rw [← hs1]
              rcases hi with e | e | ⟨l, e, -⟩
              · exact e
              · exact e
              · simp [FsM.settle] at e
            have hiL := (HME.out i).2 (by
              obtain ⟨p, hp⟩ := hi1
              exact ⟨p, by rw [HNOW1.out] at hp; exact hp⟩)
            obtain ⟨hil, -⟩ := HNUM.out i hiL
            rw [hcut.file i hil, if_pos ⟨hiL, by rw [h0]; simp⟩, cut_file S by_.toNat i (by rw [← HLEN1.out]; exact hil) _ rfl]
            congr 1
            rw [← hs1]; rfl
          · rw [hcol k hk, upd_ne c 2 (fun e2 => by have := H3.out; rw [e2] at e; omega)]
            exact e
          · refine ((HTT.out.mono fun k _ e => ?_).trans' (HT6.out) fun k hk e => ?_).trans' htr fun k hk e => ?_
            · rcases e with rfl | rfl
              · have := HCF.out; omega
              · have := H3.out; omega
            · rw [e, HCF.out]; omega
            · rw [hcol k hk] at e
              by_cases e2 : k = bk
              · rw [e2, H3.out]; omega
              · rw [upd_ne c 2 e2] at e; exact e
        · have hnl : n ∈ ls := hperm.mem_iff.2 (by simp)
          have hnL := hin n hnl
          obtain ⟨hnlen, hnr⟩ := HNUM.out n hnL
          have hr3 : S3.reach n := by
            obtain ⟨p, hp⟩ := (HME.out n).1 hnL
            exact .inl ⟨p, by rw [hcut.now, HNOW1.out]; exact hp⟩
          have hAt9 := hAt.turn (T := fun k => k = w7.heap.size) ht9 fun k e => by
            by_cases h0 : c6 k = 0
            · exact h0
            · have := HAT6.out.lt k h0; omega
          have hf3 : S3.file n = S1.file n := by rw [hcut.file n hnlen, if_neg (fun e => e.2 hnl)]
          have hfa := hAt9.files n hr3
          rw [hf3] at hfa
          obtain ⟨x, hx⟩ : ∃ x, S1.file n = x := ⟨_, rfl⟩
          obtain ⟨hsl, hlm⟩ := HST1.out n
          rw [hx] at hfa hsl hlm
          obtain ⟨A, cap, p0, p1, pf, pc, pm, -, pown, pblk, prow⟩ := hfa.open_
          obtain ⟨len, hlen⟩ : ∃ len, x.b.length = len := ⟨_, rfl⟩
          obtain ⟨st, hst⟩ : ∃ st, x.stays = st := ⟨_, rfl⟩
          obtain ⟨mo, hmo⟩ : ∃ mo, min by_.toNat (len - st) = mo := ⟨_, rfl⟩
          obtain ⟨q, hq⟩ : ∃ q, st + mo = q := ⟨_, rfl⟩
          obtain ⟨d, hd⟩ : ∃ d, len - st = d := ⟨_, rfl⟩
          rw [hlen] at hsl hlm
          rw [hst] at hsl
          have hw1 : IntKind.i64.wrap ((len : Int) - (st : Int)) = (d : Int) := by simp [IntKind.wrap, IntKind.signed, IntKind.bits]; omega
          have hw2 : min (max by_ 0) (d : Int) = (mo : Int) := by omega
          have hw3 : IntKind.i64.wrap ((st : Int) + (mo : Int)) = (q : Int) := by simp [IntKind.wrap, IntKind.signed, IntKind.bits]; omega
          have hql : q ≤ len := by omega
          have hcutx : Hid (FsM.cut x by_.toNat = ⟨x.b.take q, q⟩) := by unfold Hid FsM.cut; rw [hlen, hst, hmo, hq]
          have hqc : (q : Int) ≤ (cap : Int) := by rw [hlen] at pc; omega
          rw [hlen] at p0 pblk pown prow pc
          rw [hst] at p1 pblk
          have hF1 : (Value.slice A len cap).ownBlock ≠ some (F n) := fun e => by have := prow _ e; have := hfa.col; omega
          have hkr : ∀ (W W' : World) (j : Nat) (u : Value), W' = W.setCell ⟨F n, j, none⟩ u → OwnB W 0 (.slice A len cap) x.b → OwnB W' 0 (.slice A len cap) x.b := fun W W' j u e ho => by
            rw [e]
            exact ownsRow_kept ho fun k e2 => Below.heap_setCell _ _ _ _ (fun e3 => by simp only at e3; rw [e3] at e2; exact hF1 e2)
          have HP := Lib.hid (show ∀ w10 w11 : World, w10 = (w9.setCell ⟨F n, 1, none⟩ (.int .i64 (q : Int))).drew → w11 = (w10.setCell ⟨F n, 0, none⟩ (.slice A q cap)).drew →
              ∃ (ls : List Nat) (S3 : FsM), ls.length = ls'.length ∧ MapRng w11 bl w7.heap.size (Ls.map (kb F)) (ls.map (kb F)) ∧ FsAt c6 F w11 f S3 ∧ Cuts S1 S3 Ls ls by_.toNat ∧ (∀ n ∈ ls, n ∈ Ls) ∧ ls.Nodup ∧ Turn (fun k => c6 k ≠ 0) w6 w11 ∧ w8.heap.size ≤ w11.heap.size from fun w10 w11 e10 e11 => by
            have t10 : Turn (fun k => k = F n) w9 w11 := by
              rw [e11, e10]
              exact (((Turn.setCell (T := fun k => k = F n) w9 ⟨F n, 1, none⟩ _ rfl).trans (Turn.drew _)).trans (Turn.setCell _ ⟨F n, 0, none⟩ _ rfl)).trans (Turn.drew _)
            have hFn0 : c6 (F n) ≠ 0 := by have := hfa.col; omega
            have hFlt : F n < w6.heap.size := HAT6.out.lt _ hFn0
            have hFb : F n ≠ bl := by have := hrng9.is.lt; omega
            have o1 : OwnB w11 0 (.slice A len cap) x.b := by
              have := hkr w9 _ 1 (.int .i64 (q : Int)) rfl pown
              have h2 := hkr _ _ 0 (.slice A q cap) rfl (show OwnB (w9.setCell ⟨F n, 1, none⟩ (.int .i64 (q : Int))).drew 0 _ _ from this)
              rw [e11, e10]; exact h2
            have o2 := OwnB.cut o1 q (by omega)
            have b2 : Blk w11 (F n) #[.slice A q cap, .int .i64 (q : Int)] 77 := by
              have := (pblk.set 1 (.int .i64 (q : Int)))
              have h2 := Blk.set (show Blk (w9.setCell ⟨F n, 1, none⟩ (.int .i64 (q : Int))).drew (F n) _ _ from ⟨this.out⟩) 0 (.slice A q cap)
              rw [e11, e10]; exact ⟨h2.out⟩
            have hfile : FileAt c6 w11 n (F n) (FsM.cut x by_.toNat) := by
              rw [hcutx.out]
              exact ⟨⟨.slice A q cap, b2, o2, fun k e => prow k (by cases A with | none => simp [Value.ownBlock] at e | some a => exact e)⟩, hfa.col⟩
            have hlen3 : n < S3.files.length := by rw [hcut.len]; exact hnlen
            refine ⟨ls', S3.setFile n (FsM.cut x by_.toNat), rfl, hrng9.keep (t10.block bl hrng9.is.lt (fun e => hFb e.symm)) (t10.block _ hrng9.lt (fun e => by omega)), hAt9.file hlen3 (fun _ _ => rfl) (fun k e => Nat.lt_of_lt_of_le (hAt9.lt k e) t10.size) (t10.mono fun k _ e => .inl (by rw [e]; exact hfa.col)) hfile, ⟨hcut.room, hcut.now, hcut.kept, hcut.chg, hcut.fuse, by rw [← hcut.len]; simp [FsM.setFile], fun i hi => ?_⟩, fun k hk => hin k (hperm.mem_iff.2 (by simp [hk])), ?_, ?_, ?_⟩
            · rw [S3.setFile_file hlen3]
              have hnd2 := hperm.nodup_iff.1 hnd
              by_cases e : i = n
              · subst e
                rw [if_pos rfl, if_pos ⟨hnL, (List.nodup_cons.1 hnd2).1⟩, hx]
              · rw [if_neg e, hcut.file i hi]
                have : (i ∈ Ls ∧ i ∉ ls) ↔ (i ∈ Ls ∧ i ∉ ls') := by
                  constructor
                  · rintro ⟨h1, h2⟩
                    exact ⟨h1, fun h3 => h2 (hperm.mem_iff.2 (by simp [h3]))⟩
                  · rintro ⟨h1, h2⟩
                    refine ⟨h1, fun h3 => ?_⟩
                    rcases List.mem_cons.1 (hperm.mem_iff.1 h3) with h4 | h4
                    · exact e h4
                    · exact h2 h4
                by_cases h5 : i ∈ Ls ∧ i ∉ ls
                · rw [if_pos h5, if_pos (this.1 h5)]
                · rw [if_neg h5, if_neg (fun h6 => h5 (this.2 h6))]
            · exact (List.nodup_cons.1 (hperm.nodup_iff.1 hnd)).2
            · refine (htr.trans' ht9 fun k hk e => by omega).trans (t10.mono fun k _ e => by rw [e]; exact hFn0)
            · have := t10.size; omega)
          have hl2 := Lib.hid hperm.length_eq
          have hg2 := Lib.hid hg
          have pf0 := pf 0
          have pf1 := pf 1
          have B9 := Lib.hid pblk
          clear hg hrng hAt hcut hin hnd htr hperm hnl hnL hnlen hnr hr3 hAt9 hf3 hfa hx pf pm pown pblk prow hlen hst hmo hq hd hF1 hkr hrng9 ht9 hz9 hsl hlm pc
          go_wp2
          go_region
          obtain ⟨w10, hw10⟩ : ∃ W, (w9.setCell ⟨F n, 1, none⟩ (.int .i64 (q : Int))).drew = W := ⟨_, rfl⟩
          rw [hw10]
          have B10 : Hid (Blk w10 (F n) #[.slice A len cap, .int .i64 (q : Int)] 77) := by
            rw [← hw10]
            exact ⟨(B9.out.set 1 (.int .i64 (q : Int))).out⟩
          have q0 : w10.cell? ⟨F n, 0, none⟩ = some (.slice A len cap) := B10.out.cell 0 rfl
          have q1 : w10.cell? ⟨F n, 1, none⟩ = some (.int .i64 (q : Int)) := B10.out.cell 1 rfl
          have qf := B10.out.frozen 0
          have HW10 := Lib.hid hw10
          clear hw10 p0 p1 pf0 pf1 hw1 hw2 hw3
          go_wp2
          go_region
          go_wp2
          obtain ⟨w11, hw11⟩ : ∃ W, (w10.setCell ⟨F n, 0, none⟩ (.slice A q cap)).drew = W := ⟨_, rfl⟩
          rw [hw11]
          have HQ := HP.out w10 w11 HW10.out.symm hw11.symm
          go_roundg ls'.length
          case measure => have := hl2.out; have := hg2.out; simp only [List.length_cons] at *; omega
          case rel => exact HQ
end Go.Proofs.YteidkmiladkoiaaGreatDoor

/-
  Clone's twins of files, walked.
-/
namespace Go.Proofs.YteidkmiladkoiaaGreatDoor
open Go.RowKit

set_option maxRecDepth 100000 in
set_option maxHeartbeats 400000 in
theorem slicesClone_any (A : Option Addr) (n c : Nat) (l : List UInt8) (hn : l.length = n) (w : World) (h : Sees w w.heap.size A (bv l)) (hlen : l.length ≤ 1099511627776) :
    Calls Tryz.prog 54 #[.slice A n c] w (RetB w w.heap.size (.slice none 0 0) l) := by
  subst hn
  have he := fun (W : World) (a : Option Addr) (n c : Nat) => Lib.run_eql_slice_nil (P := Tryz.prog) W 32 5 a n c 0 0 Tryz.underlying32
  cases A with
  | none =>
    have hn : l = [] := by
      rcases h.out with h | ⟨ad, h, _⟩
      · simpa [bv] using h
      · cases h
    subst hn
    go_enter Tryz.func54, Tryz.ntmps54
    go_wp2
    go_ret
    exact ⟨_, rfl, OwnB.nil _ _, Onto.refl _ _⟩
  | some ad =>
    go_enter Tryz.func54, Tryz.ntmps54
    go_wp2_with (at_builtin; refine wpList_append_b rfl (.tmp 5) (.tmp 6) rfl w.heap.size (.slice (some ⟨w.heap.size, 0, none⟩) 0 0) [] (by rfl) (OwnB.new _ _ (Nat.le_refl _) [] 0 rfl _ rfl (by simp [maxLen])) w.heap.size (some ad) l.length c l (by rfl) rfl (h.alloc (Nat.le_refl _) _) (by simp; omega) (by simp) ?_; intro v1 w1 hown1 hon1)
    go_ret
    exact ⟨v1, rfl, hown1, (Onto.new _ _ _ _ _).trans hon1⟩

/-- The twins that are there. -/
def twV (F G : Nat → Nat) (D : List Nat) : List (Value × Value) := (.pointer none, .pointer none) :: D.map fun n => (ptr (F n), ptr (G n))
structure TwAt (c F : Nat → Nat) (S : FsM) (c2 G : Nat → Nat) (D : List Nat) (w : World) (B3 bt : Nat) : Prop where
  box : Box1 w B3 97 (.map (some bt))
  map : MapIs w bt (twV F G D)
  nd : D.Nodup
  file : ∀ n ∈ D, S.reach n ∧ FileAt c2 w n (G n) (S.file n)
  ne : bt ≠ B3
  off : c B3 = 0 ∧ c bt = 0 ∧ c2 B3 = 0 ∧ c2 bt = 0
  lt : ∀ k, c2 k ≠ 0 → k < w.heap.size
/-- What is behind a call of twin. -/
structure TwStep (c F : Nat → Nat) (S : FsM) (c2 G : Nat → Nat) (D : List Nat) (w : World) (B3 bt : Nat) (o : Option Nat) (c2' G' : Nat → Nat) (D' : List Nat) (w' : World) : Prop where
  at_ : TwAt c F S c2' G' D' w' B3 bt
  has : ∀ n, o = some n → n ∈ D'
  old : ∀ n ∈ D, n ∈ D' ∧ G' n = G n
  col : ∀ k, c2 k ≠ 0 → c2' k = c2 k
  new : ∀ k, c2' k ≠ 0 → c2 k ≠ 0 ∨ (w.heap.size ≤ k ∧ k < w'.heap.size)
  turn : Turn (fun k => k = bt) w w'
def TwinIs (c F : Nat → Nat) (S : FsM) (c2 G : Nat → Nat) (D : List Nat) (w : World) (B3 bt : Nat) (o : Option Nat) (e : Ending) (w' : World) : Prop :=
  ∃ c2' G' D', e = .returned (optV G' o) ∧ TwStep c F S c2 G D w B3 bt o c2' G' D' w'

section
variable {c F c2 G : Nat → Nat} {S : FsM} {D : List Nat} {w : World} {f B3 bt n : Nat}
theorem tw_ok (h : FsAt c F w f S) (ht : TwAt c F S c2 G D w B3 bt) : ∀ p ∈ twV F G D, okPtr w p.1 := fun p hp => by
  rcases List.mem_cons.1 hp with rfl | hp
  · exact .inl rfl
  · obtain ⟨n, hn, rfl⟩ := List.mem_map.1 hp
    exact (h.files n (ht.file n hn).1).okPtr
theorem tw_keys (h : FsAt c F w f S) (hD : D.Nodup) (hr : ∀ n ∈ D, S.reach n) : (twV F G D).Pairwise fun p q => p.1 ≠ q.1 := by
  refine List.pairwise_cons.2 ⟨fun q hq => ?_, ?_⟩
  · obtain ⟨n, -, rfl⟩ := List.mem_map.1 hq
    simp [ptr]
  · rw [List.pairwise_map]
    exact List.Pairwise.imp_of_mem (fun {a b} ha hb hne => fun e => hne (h.inj (hr a ha) (hr b hb) (ptr_inj e))) hD
theorem tw_in (h : FsAt c F w f S) (ht : TwAt c F S c2 G D w B3 bt) (o : Option Nat) (ho : ∀ n, o = some n → n ∈ D) (b : Bool) :
    (Instr.lookup 97 (.map (some bt)) (optV F o) b).run Tryz.prog w = .ok (if b then .tuple #[optV G o, .bool true] else optV G o) w := by
  refine ht.map.look (law_ptr w) Tryz.underlying97 (tw_ok h ht) (x := optV F o) (v := optV G o) ?_ b
  cases o with
  | none => exact List.mem_cons_self
  | some n => exact List.mem_cons_of_mem _ (List.mem_map.2 ⟨n, ho n rfl, rfl⟩)
theorem tw_out (h : FsAt c F w f S) (ht : TwAt c F S c2 G D w B3 bt) (hr : S.reach n) (hn : n ∉ D) :
    (Instr.lookup 97 (.map (some bt)) (.pointer (some ⟨F n, 0, none⟩)) true).run Tryz.prog w = .ok (.tuple #[.pointer none, .bool false]) w := by
  refine ht.map.look_out (law_ptr w) Tryz.underlying97 (tw_ok h ht) (x := ptr (F n)) (zero_ptr w) (h.files n hr).okPtr (fun p hp => ?_) true
  rcases List.mem_cons.1 hp with rfl | hp
  · simp [ptr]
  · obtain ⟨m, hm, rfl⟩ := List.mem_map.1 hp
    exact fun e => hn (by rw [← h.inj (ht.file m hm).1 hr (ptr_inj e)]; exact hm)
/-- One more twin. -/
theorem tw_put {w1 w2 w3 : World} (_ : FsAt c F w f S) (ht : TwAt c F S c2 G D w B3 bt) (hr : S.reach n) (hn : n ∉ D) {v : Value} (hown : OwnB w1 w.heap.size v (S.file n).b) (hb1 : Below w.heap.size w w1)
    (hw2 : w2 = w1.alloc (.cells #[v, .int .i64 ((S.file n).stays : Int)] 77)) (hm : MapIs w3 bt (twV F (upd G n w1.heap.size) (n :: D))) (ht3 : Turn (fun k => k = bt) w2 w3) :
    TwStep c F S c2 G D w B3 bt (some n) (upd (updO c2 v.ownBlock (2 * n + 7)) w1.heap.size (2 * n + 6)) (upd G n w1.heap.size) (n :: D) w3 := by
  have hs1 := hb1.size
  have hs3 := ht3.size
  have hz2 : w2.heap.size = w1.heap.size + 1 := by rw [hw2]; simp
  have hb2 : Below w.heap.size w w2 := by rw [hw2]; exact hb1.alloc hs1 _
  have hbt := ht.map.lt
  have hB3 := ht.box.lt
  have hvl := World.ownsRow.lt hown
  have hcol : ∀ k, k < w.heap.size → upd (updO c2 v.ownBlock (2 * n + 7)) w1.heap.size (2 * n + 6) k = c2 k := fun k hk => by
    rw [upd_ne _ _ (by omega), updO_ne (fun e => by have := (hvl k e).1; omega)]
  have htt : Turn (fun k => k = bt) w w3 := (Turn.of_new hb2).trans ht3
  have hne : ∀ m ∈ D, upd G n w1.heap.size m = G m := fun m hm => upd_ne G _ (fun e => hn (e ▸ hm))
  refine ⟨⟨⟨?_⟩, hm, List.nodup_cons.2 ⟨hn, ht.nd⟩, fun m hm => ?_, ht.ne, ⟨ht.off.1, ht.off.2.1, (hcol _ hB3).trans ht.off.2.2.1, (hcol _ hbt).trans ht.off.2.2.2⟩, fun k hk => ?_⟩, fun m e => by injection e with e; rw [e]; exact List.mem_cons_self, fun m hm => ⟨List.mem_cons_of_mem _ hm, hne m hm⟩, fun k hk => hcol k (ht.lt k hk), fun k hk => ?_, htt⟩
  · exact (htt.block B3 hB3 (fun e => ht.ne e.symm)).trans ht.box.out
  · rcases List.mem_cons.1 hm with rfl | hm
    · refine ⟨hr, ⟨v, ?_, ?_, fun k e => ?_⟩, ?_⟩
      · rw [upd_same]
        have := Blk.new w1 #[v, .int .i64 ((S.file m).stays : Int)] 77
        rw [← hw2] at this
        exact this.keep (ht3.block _ (by omega) (by omega))
      · have h1 : OwnB w1 0 v (S.file m).b := OwnB.base_le hown (Nat.zero_le _)
        have h2 : OwnB w2 0 v (S.file m).b := by rw [hw2]; exact OwnB.alloc h1 _
        exact ownsRow_kept h2 fun k e => ht3.block k (by have := (hvl k e).2; omega) (by have := (hvl k e).1; omega)
      · rw [upd_ne _ _ (by have := (hvl k e).2; omega), updO_same e]
      · rw [upd_same, upd_same]
    · obtain ⟨g1, g2⟩ := ht.file m hm
      rw [hne m hm]
      refine ⟨g1, (g2.keep (Kept.of_turn htt fun k e => ⟨ht.lt k (by omega), fun e2 => ?_⟩)).recol fun k e => hcol k (ht.lt k (by omega))⟩
      have := ht.off.2.2.2
      rw [e2] at e
      omega
  · by_cases e : k = w1.heap.size
    · omega
    · rw [upd_ne _ _ e] at hk
      by_cases e2 : v.ownBlock = some k
      · have := (hvl k e2).2; omega
      · rw [updO_ne e2] at hk
        have := ht.lt k hk; omega
  · by_cases e : k = w1.heap.size
    · exact .inr (by omega)
    · rw [upd_ne _ _ e] at hk
      by_cases e2 : v.ownBlock = some k
      · exact .inr (by have := hvl k e2; omega)
      · rw [updO_ne e2] at hk
        exact .inl hk
theorem tw_store (h : FsAt c F w f S) (hD : D.Nodup) (hDr : ∀ m ∈ D, S.reach m) (hm : MapIs w bt (twV F G D)) (hr : S.reach n) (hn : n ∉ D) (q : Nat) :
    ∃ w', (Instr.mapUpdate 97 (.map (some bt)) (.pointer (some ⟨F n, 0, none⟩)) (.pointer (some ⟨q, 0, none⟩))).run Tryz.prog w = .ok () w' ∧ MapIs w' bt (twV F (upd G n q) (n :: D)) ∧ Turn (fun k => k = bt) w w' := by
  have hne : ∀ m ∈ D, upd G n q m = G m := fun m hm => upd_ne G _ (fun e => hn (e ▸ hm))
  have hfn : ∀ m ∈ D, ptr (F m) ≠ ptr (F n) := fun m hm e => hn (by rw [← h.inj (hDr m hm) hr (ptr_inj e)]; exact hm)
  have hok : ∀ p ∈ twV F G D, okPtr w p.1 := fun p hp => by
    rcases List.mem_cons.1 hp with rfl | hp
    · exact .inl rfl
    · obtain ⟨m, hm, rfl⟩ := List.mem_map.1 hp
      exact (h.files m (hDr m hm)).okPtr
  obtain ⟨w', g1, g2, g3, -⟩ := hm.store (law_ptr w) Tryz.underlying97 hok (x := ptr (F n)) (v := ptr q) (h.files n hr).okPtr
    (tw_keys (G := upd G n q) h (List.nodup_cons.2 ⟨hn, hD⟩) (fun m hm => by rcases List.mem_cons.1 hm with rfl | hm; exact hr; exact hDr m hm)) (fun p => by
      unfold twV
      rw [List.map_cons, upd_same, List.mem_cons, List.mem_cons, List.mem_cons]
      constructor
      · rintro (rfl | rfl | hp)
        · exact .inr ⟨.inl rfl, by simp [ptr]⟩
        · exact .inl rfl
        · obtain ⟨m, hm, rfl⟩ := List.mem_map.1 hp
          exact .inr ⟨.inr (List.mem_map.2 ⟨m, hm, by rw [hne m hm]⟩), hfn m hm⟩
      · rintro (rfl | ⟨rfl | hp, hne2⟩)
        · exact .inr (.inl rfl)
        · exact .inl rfl
        · obtain ⟨m, hm, rfl⟩ := List.mem_map.1 hp
          exact .inr (.inr (List.mem_map.2 ⟨m, hm, by rw [hne m hm]⟩)))
  exact ⟨w', g1, g2, .of_grown g3 fun k e => (Option.some.inj e).symm⟩
theorem TwStep.refl (ht : TwAt c F S c2 G D w B3 bt) (o : Option Nat) (ho : ∀ n, o = some n → n ∈ D) : TwStep c F S c2 G D w B3 bt o c2 G D w := ⟨ht, ho, fun _ hn => ⟨hn, rfl⟩, fun _ _ => rfl, fun _ hk => .inl hk, Turn.refl _ _⟩
theorem TwAt.keep {w' : World} (ht : TwAt c F S c2 G D w B3 bt) (hk : Kept (fun k => 6 ≤ c2 k ∨ k = B3 ∨ k = bt) w w') (hs : w.heap.size ≤ w'.heap.size) : TwAt c F S c2 G D w' B3 bt :=
  ⟨⟨(hk B3 (.inr (.inl rfl))).trans ht.box.out⟩, ht.map.keep (hk bt (.inr (.inr rfl))), ht.nd, fun n hn => ⟨(ht.file n hn).1, (ht.file n hn).2.keep (hk.mono fun k e => .inl (by omega))⟩, ht.ne, ht.off, fun k e => Nat.lt_of_lt_of_le (ht.lt k e) hs⟩
end

set_option maxRecDepth 100000 in
set_option maxHeartbeats 1600000 in
theorem twin_any {N : Nat} {c F c2 G : Nat → Nat} {S : FsM} {D : List Nat} {w : World} {f B3 bt : Nat} (h : FsAt c F w f S) (hO : FsOk N S) (ht : TwAt c F S c2 G D w B3 bt) (o : Option Nat) (ho : ∀ n, o = some n → S.reach n) :
    Calls Tryz.prog 53 #[optV F o, .pointer (some ⟨B3, 0, none⟩)] w (TwinIs c F S c2 G D w B3 bt o) := by
  have hbox := ht.box.cell
  by_cases hin : ∀ n, o = some n → n ∈ D
  · have hl1 := tw_in h ht o hin true
    have hl0 := tw_in h ht o hin false
    have HP := Lib.hid (TwStep.refl ht o hin)
    clear h hO ht
    cases o with
    | none =>
      simp only [optV] at hl1 hl0 ⊢
      go_enter Tryz.func53, Tryz.ntmps53
      go_wp2
      go_ret
      exact ⟨c2, G, D, rfl, HP.out⟩
    | some n =>
      simp only [optV, ptr] at hl1 hl0 ⊢
      go_enter Tryz.func53, Tryz.ntmps53
      go_wp2
      go_ret
      exact ⟨c2, G, D, rfl, HP.out⟩
  · cases o with
    | none => exact absurd (fun n e => by cases e) hin
    | some n =>
      have hr := ho n rfl
      have hnD : n ∉ D := fun e => hin fun m em => by injection em with em; rw [← em]; exact e
      have hl1 := tw_out h ht hr hnD
      obtain ⟨A, cap, p0, p1, -, -, -, hS, -, -, -⟩ := (h.files n hr).open_
      have hlm := (hO.fileOk n).2
      have hFl : F n < w.heap.size := (h.files n hr).lt
      have hBl := ht.box.lt
      obtain ⟨len, hlen⟩ : ∃ len, (S.file n).b.length = len := ⟨_, rfl⟩
      obtain ⟨st, hst⟩ : ∃ st, (S.file n).stays = st := ⟨_, rfl⟩
      have hcl := Lib.hid (slicesClone_any A len cap (S.file n).b hlen w.drew hS.drew (by omega))
      rw [hlen] at p0
      rw [hst] at p1
      have HST := Lib.hid hst
      have HX := Lib.hid (And.intro h (And.intro ht (And.intro hr hnD)))
      simp only [optV, ptr]
      clear h hO ht hr hnD hS hlm hlen hst ho hin
      go_enter Tryz.func53, Tryz.ntmps53
      go_wp2_with fail
      refine wp_region_noPanic ?_
      refine wp_region_held_drew (S := fun w' => w'.cell? ⟨B3, 0, none⟩ = some (.map (some bt)) ∧ w'.cell? ⟨F n, 0, none⟩ = some (.slice A len cap) ∧ w'.cell? ⟨F n, 1, none⟩ = some (.int .i64 (st : Int))) (by kernel_rfl) ?_ (fun hHeld => ?_)
      · (exact ⟨hbox, p0, p1⟩)
      refine wpAnyH_take (i := 0) (oi := { dst := some 14, op := Op.load 97 (Operand.tmp 1), type := 97, pos := "simfs.go:290", after := #[], guard := none }) (v := ?_) rfl (by kernel_rfl) (by kernel_rfl) (by kernel_rfl) (fun _ _ _ h => h) (Or.inl ⟨by rfl, ?_⟩) hHeld ?_
      rotate_left
      · (intro w' hSw; (try dsimp only at hSw); go_split_ands; go_simp; first | done | with_reducible rfl)
      try simp only [Act.put, List.setIfInBounds_toArray, List.set_cons_zero, List.set_cons_succ]
      refine wpAnyH_take (i := 1) (oi := { dst := some 15, op := Op.move (Operand.tmp 0), type := 73, pos := "simfs.go:290", after := #[], guard := none }) (v := ?_) rfl (by kernel_rfl) (by kernel_rfl) (by kernel_rfl) (fun _ _ _ h => h) (Or.inl ⟨by rfl, ?_⟩) hHeld ?_
      rotate_left
      · (intro w' hSw; (try dsimp only at hSw); go_split_ands; go_simp; first | done | with_reducible rfl)
      try simp only [Act.put, List.setIfInBounds_toArray, List.set_cons_zero, List.set_cons_succ]
      refine wpAnyH_take (i := 2) (oi := { dst := some 16, op := Op.move (Operand.tmp 0), type := 73, pos := "simfs.go:290", after := #[], guard := none }) (v := ?_) rfl (by kernel_rfl) (by kernel_rfl) (by kernel_rfl) (fun _ _ _ h => h) (Or.inl ⟨by rfl, ?_⟩) hHeld ?_
      rotate_left
      · (intro w' hSw; (try dsimp only at hSw); go_split_ands; go_simp; first | done | with_reducible rfl)
      try simp only [Act.put, List.setIfInBounds_toArray, List.set_cons_zero, List.set_cons_succ]
      refine wpAnyH_take (i := 3) (oi := { dst := some 17, op := Op.nilCheck (Operand.tmp 16), type := 0, pos := "simfs.go:290", after := #[{ on := 2, ground := Ground.data }], guard := none }) (v := ?_) rfl (by kernel_rfl) (by kernel_rfl) (by kernel_rfl) (fun _ _ _ h => h) (Or.inl ⟨by rfl, ?_⟩) hHeld ?_
      rotate_left
      · (intro w' hSw; (try dsimp only at hSw); go_split_ands; go_simp; first | done | with_reducible rfl)
      try simp only [Act.put, List.setIfInBounds_toArray, List.set_cons_zero, List.set_cons_succ]
      refine wpAnyH_take (i := 4) (oi := { dst := some 18, op := Op.fieldAddr 77 (Operand.tmp 17) 0, type := 0, pos := "simfs.go:290", after := #[{ on := 3, ground := Ground.data }], guard := none }) (v := ?_) rfl (by kernel_rfl) (by kernel_rfl) (by kernel_rfl) (fun _ _ _ h => h) (Or.inl ⟨by rfl, ?_⟩) hHeld ?_
      rotate_left
      · (intro w' hSw; (try dsimp only at hSw); go_split_ands; go_simp; first | done | with_reducible rfl)
      try simp only [Act.put, List.setIfInBounds_toArray, List.set_cons_zero, List.set_cons_succ]
      refine wpAnyH_take (i := 5) (oi := { dst := some 19, op := Op.load 32 (Operand.tmp 18), type := 32, pos := "simfs.go:290", after := #[{ on := 4, ground := Ground.data }], guard := none }) (v := ?_) rfl (by kernel_rfl) (by kernel_rfl) (by kernel_rfl) (fun _ _ _ h => h) (Or.inl ⟨by rfl, ?_⟩) hHeld ?_
      rotate_left
      · (intro w' hSw; (try dsimp only at hSw); go_split_ands; go_simp; first | done | with_reducible rfl)
      try simp only [Act.put, List.setIfInBounds_toArray, List.set_cons_zero, List.set_cons_succ]
      refine wpAnyH_take (i := 7) (oi := { dst := some 21, op := Op.move (Operand.tmp 0), type := 73, pos := "simfs.go:290", after := #[], guard := none }) (v := ?_) rfl (by kernel_rfl) (by kernel_rfl) (by kernel_rfl) (fun _ _ _ h => h) (Or.inl ⟨by rfl, ?_⟩) hHeld ?_
      rotate_left
      · (intro w' hSw; (try dsimp only at hSw); go_split_ands; go_simp; first | done | with_reducible rfl)
      try simp only [Act.put, List.setIfInBounds_toArray, List.set_cons_zero, List.set_cons_succ]
      refine wpAnyH_take (i := 8) (oi := { dst := some 22, op := Op.nilCheck (Operand.tmp 21), type := 0, pos := "simfs.go:290", after := #[{ on := 7, ground := Ground.data }], guard := none }) (v := ?_) rfl (by kernel_rfl) (by kernel_rfl) (by kernel_rfl) (fun _ _ _ h => h) (Or.inl ⟨by rfl, ?_⟩) hHeld ?_
      rotate_left
      · (intro w' hSw; (try dsimp only at hSw); go_split_ands; go_simp; first | done | with_reducible rfl)
      try simp only [Act.put, List.setIfInBounds_toArray, List.set_cons_zero, List.set_cons_succ]
      refine wpAnyH_take (i := 9) (oi := { dst := some 23, op := Op.fieldAddr 77 (Operand.tmp 22) 1, type := 0, pos := "simfs.go:290", after := #[{ on := 8, ground := Ground.data }], guard := none }) (v := ?_) rfl (by kernel_rfl) (by kernel_rfl) (by kernel_rfl) (fun _ _ _ h => h) (Or.inl ⟨by rfl, ?_⟩) hHeld ?_
      rotate_left
      · (intro w' hSw; (try dsimp only at hSw); go_split_ands; go_simp; first | done | with_reducible rfl)
      try simp only [Act.put, List.setIfInBounds_toArray, List.set_cons_zero, List.set_cons_succ]
      refine wpAnyH_take (i := 10) (oi := { dst := some 24, op := Op.load 3 (Operand.tmp 23), type := 3, pos := "simfs.go:290", after := #[{ on := 9, ground := Ground.data }], guard := none }) (v := ?_) rfl (by kernel_rfl) (by kernel_rfl) (by kernel_rfl) (fun _ _ _ h => h) (Or.inl ⟨by rfl, ?_⟩) hHeld ?_
      rotate_left
      · (intro w' hSw; (try dsimp only at hSw); go_split_ands; go_simp; first | done | with_reducible rfl)
      try simp only [Act.put, List.setIfInBounds_toArray, List.set_cons_zero, List.set_cons_succ]
      refine wpAnyH_ready (rs := [6]) (by kernel_rfl) (by simp) ?_
      refine AllReadyH.cons (o := { dst := some 20, op := Op.call { callee := Callee.value (Operand.func 54), args := #[Operand.tmp 19], argTypes := #[32] }, type := 32, pos := "simfs.go:290", after := #[{ on := 5, ground := Ground.data }], guard := none }) rfl (fun K hK => ?_) AllReadyH.nil
      go_simp
      refine hcl.out.mono ?_
      rintro e w1 ⟨v, rfl, hown, hon⟩
      have hb1 : Below w.heap.size w w1 := below_undrew hon.below_nil
      have q1 := (hb1.cell (p := ⟨B3, 0, none⟩) hBl).trans hbox
      have q2 := (hb1.cell (p := ⟨F n, 0, none⟩) hFl).trans p0
      have q3 := (hb1.cell (p := ⟨F n, 1, none⟩) hFl).trans p1
      obtain ⟨Av, cv, hv, -, -⟩ := row_open hown
      subst hv
      go_wp2_with fail
      refine hK.out _ _ ?_ ?_
      · (exact ⟨q1, q2, q3⟩)
      clear hK K hHeld; intro hHeld
      try simp only [Act.put, List.setIfInBounds_toArray, List.set_cons_zero, List.set_cons_succ]
      refine wpAnyH_take (i := 11) (oi := { dst := some 25, op := Op.build 77 #[(0, Operand.tmp 20), (1, Operand.tmp 24)], type := 77, pos := "simfs.go:290", after := #[{ on := 6, ground := Ground.data }, { on := 10, ground := Ground.data }], guard := none }) (v := ?_) rfl (by kernel_rfl) (by kernel_rfl) (by kernel_rfl) (fun _ _ _ h => h) (Or.inl ⟨by rfl, ?_⟩) hHeld ?_
      rotate_left
      · (intro w' hSw; (try dsimp only at hSw); go_split_ands; go_simp; first | done | with_reducible rfl)
      try simp only [Act.put, List.setIfInBounds_toArray, List.set_cons_zero, List.set_cons_succ]
      refine wpAnyH_ready (rs := [12]) (by kernel_rfl) (by simp) ?_
      refine AllReadyH.cons (o := { dst := some 26, op := Op.box 77 (Operand.tmp 25), type := 73, pos := "simfs.go:290", after := #[{ on := 11, ground := Ground.data }], guard := none }) rfl (fun K hK => ?_) AllReadyH.nil
      go_simp
      have hb2 : Below w1.heap.size w1 (w1.alloc (.cells #[.slice Av (S.file n).b.length cv, .int .i64 (st : Int)] 77)) := (Below.refl _ w1).alloc (Nat.le_refl _) _
      obtain ⟨w2, hw2⟩ : ∃ w2, w1.alloc (.cells #[.slice Av (S.file n).b.length cv, .int .i64 (st : Int)] 77) = w2 := ⟨_, rfl⟩
      rw [hw2] at hb2 ⊢
      have s1 := (hb2.cell (p := ⟨B3, 0, none⟩) (Nat.lt_of_lt_of_le hBl hb1.size)).trans q1
      have s2 := (hb2.cell (p := ⟨F n, 0, none⟩) (Nat.lt_of_lt_of_le hFl hb1.size)).trans q2
      have s3 := (hb2.cell (p := ⟨F n, 1, none⟩) (Nat.lt_of_lt_of_le hFl hb1.size)).trans q3
      refine hK.out _ _ ?_ ?_
      · (exact ⟨s1, s2, s3⟩)
      clear hK K hHeld; intro hHeld
      try simp only [Act.put, List.setIfInBounds_toArray, List.set_cons_zero, List.set_cons_succ]
      refine wpAnyH_ready (rs := [13]) (by kernel_rfl) (by simp) ?_
      refine AllReadyH.cons (o := { dst := none, op := Op.mapUpdate 97 (Operand.tmp 14) (Operand.tmp 15) (Operand.tmp 26), type := 0, pos := "simfs.go:290", after := #[{ on := 0, ground := Ground.data }, { on := 1, ground := Ground.data }, { on := 12, ground := Ground.data }, { on := 6, ground := Ground.chain }, { on := 0, ground := Ground.phase }, { on := 1, ground := Ground.phase }, { on := 2, ground := Ground.phase }, { on := 3, ground := Ground.phase }, { on := 4, ground := Ground.phase }, { on := 5, ground := Ground.phase }, { on := 6, ground := Ground.phase }, { on := 7, ground := Ground.phase }, { on := 8, ground := Ground.phase }, { on := 9, ground := Ground.phase }, { on := 10, ground := Ground.phase }, { on := 11, ground := Ground.phase }, { on := 12, ground := Ground.phase }], guard := none }) rfl (fun K hK => ?_) AllReadyH.nil
      obtain ⟨h, ht, hr, hnD⟩ := HX.out
      have hbb := hb1.trans (hb2.mono hb1.size)
      obtain ⟨w3, hrun, hm3, ht3⟩ := tw_store (h.below hbb) ht.nd (fun m hm => (ht.file m hm).1) (ht.map.keep (hbb.block bt ht.map.lt)) hr hnD w1.heap.size
      have hkt : ∀ p : Addr, p.block < w.heap.size → p.block ≠ bt → w3.cell? p = w2.cell? p := fun p e1 e2 => ht3.keep (Nat.lt_of_lt_of_le e1 hbb.size) e2
      have t1 := (hkt ⟨B3, 0, none⟩ hBl (fun e => ht.ne e.symm)).trans s1
      have hFb : F n ≠ bt := fun e => by have h1 := (h.files n hr).col; have h2 := ht.off.2.1; rw [e] at h1; omega
      have t2 := (hkt ⟨F n, 0, none⟩ hFl hFb).trans s2
      have t3 := (hkt ⟨F n, 1, none⟩ hFl hFb).trans s3
      have HSTEP := Lib.hid (tw_put h ht hr hnD (hown.base_le (Nat.le_refl _)) hb1 (by rw [HST.out]; exact hw2.symm) hm3 ht3)
      have hAt3 := h.below hbb |>.turn ht3 (fun k e => by rw [e]; exact ht.off.2.1)
      have hlast := Lib.hid (tw_in hAt3 HSTEP.out.at_ (some n) (fun m e => by injection e with e; rw [← e]; exact List.mem_cons_self) false)
      clear hkt hbb hm3 ht3 h ht hr hnD hAt3
      go_simp
      refine hK.out _ _ ?_ ?_
      · (exact ⟨t1, t2, t3⟩)
      clear hK K hHeld; intro hHeld
      try simp only [Act.put, List.setIfInBounds_toArray, List.set_cons_zero, List.set_cons_succ]
      refine wpAnyH_done (by kernel_rfl) ?_ _
      refine NoPanic.normal ?_
      have hl := hlast.out
      simp only [optV, ptr] at hl
      have HB := Lib.hid hlast
      clear hlast
      go_wp2
      go_ret
      exact ⟨_, _, _, rfl, HSTEP.out⟩
end Go.Proofs.YteidkmiladkoiaaGreatDoor

/-
  Clone's state: the files that are made, and the twins.
-/
namespace Go.Proofs.YteidkmiladkoiaaGreatDoor
open Go.RowKit

/-- A clone on its way: T: what it is so far. -/
structure ClI (c F : Nat → Nat) (S : FsM) (w : World) (g B3 bt : Nat) (c2 G : Nat → Nat) (D : List Nat) (T : FsM) (W : World) : Prop where
  fs : FsAt c2 G W g T
  tw : TwAt c F S c2 G D W B3 bt
  below : Below w.heap.size w W
  new : ∀ k, c2 k ≠ 0 → w.heap.size ≤ k
  at_ : w.heap.size ≤ bt ∧ w.heap.size ≤ B3
  sub : ∀ n, T.reach n → n ∈ D
  files : T.files = S.files

section
variable {c F c2 G c2' G' : Nat → Nat} {S T : FsM} {D D' : List Nat} {w W W' : World} {g B3 bt : Nat} {o : Option Nat}
theorem ClI.turn {R : Nat → Prop} (h : ClI c F S w g B3 bt c2 G D T W) (ht : Turn R W W') (hR : ∀ k, R k → c2 k = 0 ∧ k ≠ B3 ∧ k ≠ bt ∧ w.heap.size ≤ k) : ClI c F S w g B3 bt c2 G D T W' := by
  refine ⟨h.fs.turn ht fun k e => (hR k e).1, h.tw.keep (Kept.of_turn ht fun k e => ⟨?_, fun e2 => ?_⟩) ht.size, h.below.trans (ht.below (fun j e => (hR j e).2.2.2) h.below.size), h.new, h.at_, h.sub, h.files⟩
  · rcases e with e | rfl | rfl
    · exact h.tw.lt k (by omega)
    · exact h.tw.box.lt
    · exact h.tw.map.lt
  · have := hR k e2
    rcases e with e | e | e
    · have := this.1; omega
    · exact this.2.1 e
    · exact this.2.2.1 e
theorem ClI.newB (h : ClI c F S w g B3 bt c2 G D T W) (hb : Below W.heap.size W W') : ClI c F S w g B3 bt c2 G D T W' := h.turn (R := fun _ => False) (Turn.of_new hb) fun _ e => e.elim
theorem ClI.twin (h : ClI c F S w g B3 bt c2 G D T W) (ht : TwStep c F S c2 G D W B3 bt o c2' G' D' W') : ClI c F S w g B3 bt c2' G' D' T W' := by
  have hs := ht.turn.size
  have h1 : FsAt c2 G W' g T := h.fs.turn ht.turn fun k e => by rw [e]; exact h.tw.off.2.2.2
  refine ⟨(h1.refile fun i hi => (ht.old i (h.sub i hi)).2).recol ht.col ht.at_.lt, ht.at_, h.below.trans (ht.turn.below (fun j e => by rw [e]; exact h.at_.1) h.below.size), fun k hk => ?_, h.at_, fun n hn => (ht.old n (h.sub n hn)).1, h.files⟩
  rcases ht.new k hk with e | e
  · exact h.new k e
  · have := h.below.size; omega
theorem ClI.fileAt (h : ClI c F S w g B3 bt c2 G D T W) {n : Nat} (hn : n ∈ D) : FileAt c2 W n (G n) (T.file n) := by
  have := (h.tw.file n hn).2
  unfold FsM.file at this ⊢
  rw [h.files]
  exact this
/-- One more path that stays. -/
theorem ClI.kept {bk : Nat} {K : Dir} (h : ClI c F S w g B3 bt c2 G D T W) (hT : T.kept = K) (hbk : W.cell? ⟨g, 2, none⟩ = some (.map (some bk))) {x : Txt × Nat} (hx : x.2 ∈ D) (hK : (K ++ [x]).Pairwise fun p q => p.1 ≠ q.1) :
    ∃ W', (Instr.mapUpdate 61 (.map (some bk)) (.string (strOf x.1)) (.pointer (some ⟨G x.2, 0, none⟩))).run Tryz.prog W = .ok () W' ∧ ClI c F S w g B3 bt c2 G D { T with kept := K ++ [x] } W' ∧ Turn (fun k => k = bk) W W' ∧ c2 bk = 3 := by
  obtain ⟨bn, bk', v, h1, h2, h3, h4, h5, h6⟩ := h.fs.out
  have e : bk = bk' := by
    have : W.cell? ⟨g, 2, none⟩ = some (.map (some bk')) := h1.cell 2 rfl
    rw [hbk] at this
    simpa using this
  subst e
  rw [hT] at h5
  have hne : ∀ y ∈ K, y.1 ≠ x.1 := fun y hy => (List.pairwise_append.1 hK).2.2 y hy x (by simp)
  obtain ⟨W', g1, g2, g3, -⟩ := h5.store (law_pstr W) Tryz.underlying61 pv_ok (x := .string (strOf x.1)) (v := ptr (G x.2)) ⟨_, rfl⟩ (l' := (K ++ [x]).map (pv G))
    (by
      rw [List.pairwise_map]
      exact hK.imp fun {a b} e1 => fun e2 => e1 (strOf_inj (by simpa [pv] using e2)))
    (fun p => by
      rw [List.map_append, List.mem_append]
      constructor
      · rintro (hp | hp)
        · obtain ⟨y, hy, rfl⟩ := List.mem_map.1 hp
          exact .inr ⟨hp, fun e2 => hne y hy (strOf_inj (by simpa [pv] using e2))⟩
        · simp at hp
          exact .inl hp
      · rintro (rfl | ⟨hp, -⟩)
        · exact .inr (by simp [pv])
        · exact .inl hp)
  have ht : Turn (fun k => k = bk) W W' := .of_grown g3 fun k e => (Option.some.inj e).symm
  have hcg := h.fs.col
  have hkk : Kept (fun k => c2 k ≠ 0 ∧ k ≠ bk) W W' := Kept.of_turn ht fun k e => ⟨h.fs.lt k e.1, e.2⟩
  refine ⟨W', g1, ⟨⟨⟨bn, bk, v, h1.keep (hkk g ⟨by omega, fun e2 => by rw [e2] at hcg; omega⟩), h2, h3, h4.keep (hkk bn ⟨by omega, fun e2 => by rw [e2] at h2; omega⟩), g2, h6.keep (hkk.mono fun k e => ⟨by omega, fun e2 => by rw [e2] at e; omega⟩)⟩, hcg, fun i hi => ?_, fun k hk => Nat.lt_of_lt_of_le (h.fs.lt k hk) ht.size⟩,
    h.tw.keep (Kept.of_turn ht fun k e => ?_) ht.size, h.below.trans (ht.below (fun j e => by rw [e]; exact h.new bk (by omega)) h.below.size), h.new, h.at_, fun n hn => ?_, h.files⟩, ht, h3⟩
  · have hi2 : i ∈ D := by
      rcases hi with ⟨p, e⟩ | ⟨p, e⟩ | ⟨l, e, p, ep⟩
      · exact h.sub i (.inl ⟨p, e⟩)
      · rcases List.mem_append.1 e with e | e
        · exact h.sub i (.inr (.inl ⟨p, by rw [hT]; exact e⟩))
        · rw [← List.mem_singleton.1 e] at hx
          exact hx
      · exact h.sub i (.inr (.inr ⟨l, e, p, ep⟩))
    have := h.fileAt hi2
    exact this.keep (hkk.mono fun k e => ⟨by omega, fun e2 => by rw [e2] at e; omega⟩)
  · rcases e with e | rfl | rfl
    · exact ⟨h.fs.lt k (by omega), fun e2 => by rw [e2] at e; omega⟩
    · exact ⟨h.tw.box.lt, fun e2 => by have := h.tw.off.2.2.1; rw [e2] at this; omega⟩
    · exact ⟨h.tw.map.lt, fun e2 => by have := h.tw.off.2.2.2; rw [e2] at this; omega⟩
  · rcases hn with ⟨p, e⟩ | ⟨p, e⟩ | ⟨l, e, p, ep⟩
    · exact h.sub n (.inl ⟨p, e⟩)
    · rcases List.mem_append.1 e with e | e
      · exact h.sub n (.inr (.inl ⟨p, by rw [hT]; exact e⟩))
      · rw [← List.mem_singleton.1 e] at hx
        exact hx
    · exact h.sub n (.inr (.inr ⟨l, e, p, ep⟩))
theorem TwAt.recol (ht : TwAt c F S c2 G D w B3 bt) (hc : ∀ k, 6 ≤ c2 k → c2' k = c2 k) (h0 : c2' B3 = 0 ∧ c2' bt = 0) (hl : ∀ k, c2' k ≠ 0 → k < w.heap.size) : TwAt c F S c2' G D w B3 bt :=
  ⟨ht.box, ht.map, ht.nd, fun n hn => ⟨(ht.file n hn).1, (ht.file n hn).2.recol fun k e => hc k (by omega)⟩, ht.ne, ⟨ht.off.1, ht.off.2.1, h0.1, h0.2⟩, hl⟩
/-- The paths that stay are those of now, too. -/
theorem ClI.now {bk : Nat} {K K' : Dir} {es : Array MapEntry} {clock : Nat} {W1 W2 : World} (h : ClI c F S w g B3 bt c2 G D T W) (hT : T.kept = K) (hbk : W.cell? ⟨g, 2, none⟩ = some (.map (some bk))) (hb : W.heap[bk]? = some (.map es clock)) (hK : K.Perm K')
    (h1 : W1 = W.alloc (.map es clock)) (h2 : W2 = W1.setCell ⟨g, 1, none⟩ (.map (some W.heap.size))) (_ : T.now = []) (_ : T.chg = []) : ClI c F S w g B3 bt (upd c2 W.heap.size 2) G D { T with kept := K', now := K' } W2 := by
  obtain ⟨bn, bk', v, e1, e2, e3, e4, e5, e6⟩ := h.fs.out
  have e : bk = bk' := by
    have : W.cell? ⟨g, 2, none⟩ = some (.map (some bk')) := e1.cell 2 rfl
    rw [hbk] at this
    simpa using this
  subst e
  rw [hT] at e5
  have hcl := MapIs.clone W hb e5
  rw [← h1] at hcl
  have hcg := h.fs.col
  have hgl : g < W.heap.size := e1.lt
  have hz1 : W1.heap.size = W.heap.size + 1 := by rw [h1]; simp
  have hb1 : Below W.heap.size W W1 := by rw [h1]; exact (Below.refl _ W).alloc (Nat.le_refl _) _
  have ht : Turn (fun k => k = g) W W2 := by
    rw [h2]
    exact (Turn.of_new hb1).trans (Turn.setCell _ _ _ rfl)
  have hk2 : ∀ k, k ≠ g → W2.heap[k]? = W1.heap[k]? := fun k hk => by rw [h2]; exact Below.heap_setCell _ _ _ _ hk
  have hz2 : W2.heap.size = W.heap.size + 1 := by rw [h2, World.size_setCell, hz1]
  have hcol : ∀ k, k < W.heap.size → upd c2 W.heap.size 2 k = c2 k := fun k hk => upd_ne c2 2 (by omega)
  have hkk : Kept (fun k => c2 k ≠ 0 ∧ k ≠ g) W W2 := Kept.of_turn ht fun k e => ⟨h.fs.lt k e.1, e.2⟩
  have hp := hK.map (pv G)
  have hlt2 : ∀ k, upd c2 W.heap.size 2 k ≠ 0 → k < W2.heap.size := fun k hk => by
    by_cases e : k = W.heap.size
    · omega
    · rw [upd_ne c2 2 e] at hk
      have := h.fs.lt k hk; omega
  have hbt := h.tw.map.lt
  have hB3 := h.tw.box.lt
  refine ⟨⟨⟨W.heap.size, bk, v, ?_, upd_same c2 _ 2, (hcol bk (h.fs.lt bk (by omega))).trans e3, (hcl.perm hp).keep (hk2 _ (by omega)), (e5.perm hp).keep (hkk bk ⟨by omega, fun e7 => by rw [e7] at e3; omega⟩), ?_⟩, (hcol g hgl).trans hcg, fun i hi => ?_, hlt2⟩,
    (h.tw.keep (Kept.of_turn ht fun k e => ?_) ht.size).recol (fun k e => hcol k (h.tw.lt k (by omega))) ⟨(hcol B3 hB3).trans h.tw.off.2.2.1, (hcol bt hbt).trans h.tw.off.2.2.2⟩ hlt2, h.below.trans (ht.below (fun j e => by rw [e]; exact h.new g (by omega)) h.below.size), fun k hk => ?_, h.at_, fun n hn => ?_, h.files⟩
  · have := (e1.keep (hb1.block g hgl)).set 1 (.map (some W.heap.size))
    rw [← h2] at this
    exact this
  · show ChgAt _ G W2 v T.chg
    exact (e6.keep (hkk.mono fun k e => ⟨by omega, fun e7 => by rw [e7] at e; omega⟩)).recol fun k e => hcol k (h.fs.lt k (by omega))
  · have hi2 : i ∈ D := by
      rcases hi with ⟨p, e⟩ | ⟨p, e⟩ | ⟨l, e, p, ep⟩
      · exact h.sub i (.inr (.inl ⟨p, by rw [hT]; exact hK.mem_iff.2 e⟩))
      · exact h.sub i (.inr (.inl ⟨p, by rw [hT]; exact hK.mem_iff.2 e⟩))
      · exact h.sub i (.inr (.inr ⟨l, e, p, ep⟩))
    exact ((h.fileAt hi2).keep (hkk.mono fun k e => ⟨by omega, fun e7 => by rw [e7] at e; omega⟩)).recol fun k e => hcol k (h.fs.lt k (by omega))
  · rcases e with e | rfl | rfl
    · exact ⟨h.fs.lt k (by omega), fun e7 => by rw [e7] at e; omega⟩
    · exact ⟨hB3, fun e7 => by have := h.tw.off.2.2.1; rw [e7] at this; omega⟩
    · exact ⟨hbt, fun e7 => by have := h.tw.off.2.2.2; rw [e7] at this; omega⟩
  · by_cases e : k = W.heap.size
    · have := h.below.size; omega
    · rw [upd_ne c2 2 e] at hk
      exact h.new k hk
  · rcases hn with ⟨p, e⟩ | ⟨p, e⟩ | ⟨l, e, p, ep⟩
    · exact h.sub n (.inr (.inl ⟨p, by rw [hT]; exact hK.mem_iff.2 e⟩))
    · exact h.sub n (.inr (.inl ⟨p, by rw [hT]; exact hK.mem_iff.2 e⟩))
    · exact h.sub n (.inr (.inr ⟨l, e, p, ep⟩))
/-- One more change, in a row of the call's own. -/
theorem clI_change {v : Value} {n cap base : Nat} {A : Option Addr} {l : List Giv} (h : ClI c F S w g B3 bt c2 G D T W) (hv : v = .slice A n cap) (hnc : n ≤ cap) (hl : l.length = n) (hn : n ≤ 1000) (hown : W.ownsRow base 92 2 v n (givV G l)) (hbase : w.heap.size ≤ base)
    (hfree : ∀ b, v.ownBlock = some b → c2 b = 0 ∧ b ≠ B3 ∧ b ≠ bt) (hD : ∀ p i, (p, some i) ∈ l → i ∈ D) (hR : RiD T.now) (hN : T.chg.length ≤ 100000) :
    Calls Tryz.prog 50 #[.pointer (some ⟨g, 0, none⟩), .slice A n cap] W fun e W' => e = .returned (.int .i64 0) ∧ ∃ c2', ClI c F S w g B3 bt c2' G D (T.change l) W' := by
  have hvl := World.ownsRow.lt hown
  have hcol : ∀ k, c2 k ≠ 0 → updO c2 v.ownBlock 5 k = c2 k := fun k hk => updO_ne fun e => hk (hfree k e).1
  have hlt : ∀ k, updO c2 v.ownBlock 5 k ≠ 0 → k < W.heap.size := fun k hk => by
    by_cases e : v.ownBlock = some k
    · exact (hvl k e).2
    · rw [updO_ne e] at hk
      exact h.fs.lt k hk
  have hfs := h.fs.recol hcol hlt
  have h0 : updO c2 v.ownBlock 5 B3 = 0 ∧ updO c2 v.ownBlock 5 bt = 0 := ⟨(updO_ne fun e => (hfree _ e).2.1 rfl).trans h.tw.off.2.2.1, (updO_ne fun e => (hfree _ e).2.2 rfl).trans h.tw.off.2.2.2⟩
  have htw := h.tw.recol (fun k e => hcol k (by omega)) h0 hlt
  have hsee : SeesM (fun k => updO c2 v.ownBlock 5 k = 5) W A (givV G l) := by
    rw [hv] at hown
    rcases (Sees.of_own hown).out with e | ⟨ad, e1, e2, e3⟩
    · exact ⟨.inl e⟩
    · exact ⟨.inr ⟨ad, e1, updO_same (by rw [hv, e1]; rfl), e3⟩⟩
  refine (change_any hfs hR A n cap l hl hnc hn hsee (fun p i hp => ((h.fileAt (hD p i hp)).recol fun k e => hcol k (by omega))) hN).mono ?_
  rintro e W' ⟨rfl, c', g1, g2, g3⟩
  have hs := g3.size
  have hbt := h.tw.map.lt
  have hB3 := h.tw.box.lt
  have hcg := hfs.col
  refine ⟨rfl, c', g1, (htw.keep (Kept.of_turn g3 fun k e => ?_) hs).recol (fun k e => g2 k (htw.lt k (by omega))) ⟨(g2 B3 hB3).trans h0.1, (g2 bt hbt).trans h0.2⟩ g1.lt, h.below.trans (g3.below (fun j e => ?_) h.below.size), fun k hk => ?_, h.at_, fun i hi => ?_, h.files⟩
  · rcases e with e | rfl | rfl
    · exact ⟨htw.lt k (by omega), fun e2 => by rcases e2 with e2 | e2 | e2 <;> first | omega | (rw [e2] at e; omega)⟩
    · exact ⟨hB3, fun e2 => by rcases e2 with e2 | e2 | e2 <;> first | omega | (rw [← e2] at hcg; omega)⟩
    · exact ⟨hbt, fun e2 => by rcases e2 with e2 | e2 | e2 <;> first | omega | (rw [← e2] at hcg; omega)⟩
  · have h5 : updO c2 v.ownBlock 5 j ≠ 0 := by rcases e with e | e | e <;> first | omega | (rw [e]; omega)
    by_cases e2 : v.ownBlock = some j
    · have := (hvl j e2).1; omega
    · rw [updO_ne e2] at h5
      exact h.new j h5
  · by_cases hk2 : k < W.heap.size
    · rw [g2 k hk2] at hk
      by_cases e2 : v.ownBlock = some k
      · have := (hvl k e2).1; omega
      · rw [updO_ne e2] at hk
        exact h.new k hk
    · have := h.below.size; omega
  · rcases reach_change hR hi with e | ⟨p, e⟩
    · exact h.sub i e
    · exact hD p i e
end
end Go.Proofs.YteidkmiladkoiaaGreatDoor

/-
  Clone, walked.
-/
namespace Go.Proofs.YteidkmiladkoiaaGreatDoor
open Go.RowKit

theorem clone_nil (w : World) : Calls Tryz.prog 31 #[.pointer none] w fun e w' => e = .returned (.pointer none) ∧ w = w' := by
  go_enter Tryz.func31, Tryz.ntmps31
  go_wp2
  go_ret
  exact ⟨rfl, rfl⟩

/-- The step of a range over paths. -/
theorem pv_next {w : World} {F : Nat → Nat} {b r : Nat} {d ls : Dir} (h : MapRng w b r (d.map (pv F)) (ls.map (pv F))) :
    (ls = [] ∧ (Instr.next (.pointer (some ⟨r, 0, none⟩)) false 0).run Tryz.prog w = .ok (.tuple #[.bool false]) w) ∨
    ∃ x ls' w', ls.Perm (x :: ls') ∧ (Instr.next (.pointer (some ⟨r, 0, none⟩)) false 0).run Tryz.prog w = .ok (.tuple #[.bool true, .string (strOf x.1), .pointer (some ⟨F x.2, 0, none⟩)]) w' ∧
      MapRng w' b r (d.map (pv F)) (ls'.map (pv F)) ∧ Turn (fun k => k = r) w w' ∧ w'.heap.size = w.heap.size ∧ (Instr.entry (.pointer (some ⟨r, 0, none⟩))).run Tryz.prog w' = .ok (.tuple #[.string (strOf x.1), .pointer (some ⟨F x.2, 0, none⟩)]) w' := by
  rcases h.next (P := Tryz.prog) 0 with ⟨h0, hnx⟩ | ⟨key, v, left', w2, hperm, hnx, hrng2, hgr, hz2, hen⟩
  · exact .inl ⟨by simpa using h0, hnx⟩
  · obtain ⟨x, hn, hne⟩ := List.mem_map.1 (hperm.mem_iff.2 (List.mem_cons_self (a := (key, v)) (l := left')))
    obtain ⟨rfl, rfl⟩ : key = .string (strOf x.1) ∧ v = ptr (F x.2) := ⟨(congrArg Prod.fst hne).symm, (congrArg Prod.snd hne).symm⟩
    have hp := List.perm_cons_erase hn
    refine .inr ⟨x, ls.erase x, w2, hp, hnx, hrng2.perm ?_, .of_grown hgr fun k e => (Option.some.inj e).symm, hz2, hen⟩
    have h1 := hp.map (pv F)
    rw [List.map_cons] at h1
    exact (hperm.symm.trans h1).cons_inv

theorem keys_of_perm {Kd ls : Dir} {d : Dir} (h : (Kd ++ ls).Perm d) (hd : RiD d) : (Kd ++ ls).Pairwise fun p q => p.1 ≠ q.1 :=
  (h.pairwise_iff (fun {_ _} hne => Ne.symm hne)).2 (hd.imp fun {_ _} e => lt_ne e)
theorem Tryz.givinfo : (Tryz.prog.info? 92).map (fun i => (i.zero, i.size, i.bytes)) = some (some (.agg #[.string ⟨#[]⟩, .pointer none]), 2, 24) := by kernel_rfl
/-- A clone before anything is in it. -/
def cl0 (S : FsM) : FsM := { FsM.new S.room with files := S.files }
/-- .. with so many changes. -/
def clk (S : FsM) (k : Nat) : FsM := { cl0 S with kept := S.kept, now := (S.chg.take k).foldl againD S.kept, chg := S.chg.take k }

set_option maxRecDepth 100000 in
set_option maxHeartbeats 6400000 in
theorem clone_any {N : Nat} {c F : Nat → Nat} {w : World} {f : Nat} {S : FsM} (h : FsAt c F w f S) (hO : FsOk N S) (hN : N ≤ 10000) :
    Calls Tryz.prog 31 #[.pointer (some ⟨f, 0, none⟩)] w fun e w' => ∃ g c2 G, e = .returned (.pointer (some ⟨g, 0, none⟩)) ∧ FsAt c2 G w' g S ∧ (∀ k, k < w.heap.size → c2 k = 0) ∧ Below w.heap.size w w' := by
  obtain ⟨bn, bk, A0, n0, d0, -, d2, d3, d4, -, hbn, hbk, -, hmk, hch, hn0, -⟩ := h.open_
  obtain ⟨L, hL⟩ : ∃ L, S.chg.length = L := ⟨_, rfl⟩
  rw [hL] at d3 hn0
  have hfl : f < w.heap.size := h.lt f (by have := h.col; omega)
  have hmake := @run_makeMap Tryz.prog
  -- the twins' map
  have hm1 := MapIs.new w
  obtain ⟨W1, hW1⟩ : ∃ W1, w.alloc (.map #[] 0) = W1 := ⟨_, rfl⟩
  rw [hW1] at hm1
  obtain ⟨W2, hins, hm2, hg2, hz2'⟩ := hm1.store (law_ptr W1) Tryz.underlying97 (by simp) (x := .pointer none) (v := .pointer none) (.inl rfl) (l' := twV F F []) (by simp [twV]) (by simp [twV])
  have hb1 : Below w.heap.size w W1 := by rw [← hW1]; exact (Below.refl _ w).alloc (Nat.le_refl _) _
  have hz1 : W1.heap.size = w.heap.size + 1 := by rw [← hW1]; simp
  have hb2 : Below w.heap.size w W2 := hb1.grown hg2 hb1.size (fun g e => by injection e with e; omega)
  have hz2 : W2.heap.size = w.heap.size + 1 := by omega
  obtain ⟨W3, hW3⟩ : ∃ W3, W2.alloc (.cells #[.map (some w.heap.size)] 97) = W3 := ⟨_, rfl⟩
  have hb3 : Below w.heap.size w W3 := by rw [← hW3]; exact hb2.alloc hb2.size _
  have hx3 : Box1 W3 (w.heap.size + 1) 97 (.map (some w.heap.size)) := by
    have := Box1.new W2 97 (.map (some w.heap.size))
    rw [hW3, hz2] at this
    exact this
  have hm3 : MapIs W3 w.heap.size (twV F F []) := by rw [← hW3]; exact hm2.keep (Below.heap_alloc _ _ _ (by omega))
  have hz3 : W3.heap.size = w.heap.size + 2 := by rw [← hW3]; simp [hz2]
  have hnw := Lib.hid (new_any (S.room : Int) W3)
  have HZ2 := Lib.hid hz2
  have d03 := (hb3.cell (p := ⟨f, 0, none⟩) hfl).trans d0
  have HX := Lib.hid (And.intro h (And.intro hO (And.intro hb3 (And.intro hx3 (And.intro hm3 (And.intro hz3 (And.intro hmk (And.intro hL hch))))))))
  have hL5 : L ≤ 10000 := by rw [← hL]; have := hO.many; omega
  clear hm1 hm2 hg2 hb1 hb2 hb3 hx3 hm3 hz1 hz3 h hO hmk hL hch hz2' d0
  go_enter Tryz.func31, Tryz.ntmps31
  go_wp2_with fail
  refine hnw.out.mono ?_
  rintro e w4 ⟨g, c0, F0, rfl, hAt0, hc0, hb4⟩
  obtain ⟨h, hO, hb3, hx3, hm3, hz3, hmk, hL, hch⟩ := HX.out
  have hroom : (min (max (S.room : Int) 0) 16777216).toNat = S.room := by have := hO.roomOk; omega
  rw [hroom] at hAt0
  have hbw := hb3.trans (hb4.mono hb3.size)
  have hs4 := hb4.size
  have e2 := (hbw.cell (p := ⟨f, 2, none⟩) hfl).trans d2
  obtain ⟨w5, hrg, hR5, hb5, hz5⟩ := (hmk.keep (hbw.block bk hmk.lt)).range (P := Tryz.prog) Tryz.underlying61
  have hcl4 : ClI c F S w g (w.heap.size + 1) w.heap.size c0 F0 [] { cl0 S with kept := [] } w4 := by
    refine ⟨hAt0.same rfl rfl rfl rfl rfl fun i hi => ?_, ⟨hx3.below hb4 hx3.lt, ?_, List.nodup_nil, by simp, by omega, ⟨?_, ?_, hc0 _ (by omega), hc0 _ (by omega)⟩, hAt0.lt⟩, hbw, fun k hk => ?_, ⟨by omega, by omega⟩, fun n hn => ?_, rfl⟩
    · rcases hi with ⟨p, e⟩ | ⟨p, e⟩ | ⟨l, e, -⟩ <;> simp [FsM.new] at e
    · have := hm3.keep (hb4.block w.heap.size (by omega))
      simpa [twV] using this
    · by_cases e : c (w.heap.size + 1) = 0
      · exact e
      · have := h.lt _ e; omega
    · by_cases e : c w.heap.size = 0
      · exact e
      · have := h.lt _ e; omega
    · by_cases e : k < w.heap.size
      · exact absurd (hc0 k (by omega)) hk
      · omega
    · rcases hn with ⟨p, e⟩ | ⟨p, e⟩ | ⟨l, e, -⟩ <;> simp [cl0, FsM.new] at e
  have hcl5 := hcl4.newB hb5
  have hc0r : c0 w4.heap.size = 0 := by
    by_cases e : c0 w4.heap.size = 0
    · exact e
    · have := hAt0.lt _ e; omega
  have HCL5 := Lib.hid hcl5
  have HR5 := Lib.hid hR5
  have HC0R := Lib.hid hc0r
  have hw42 : w.heap.size + 2 ≤ w4.heap.size := by omega
  have hw54 : w4.heap.size < w5.heap.size := by omega
  clear hnw hAt0 hc0 hb4 hb3 hx3 hm3 hz3 hmk hroom hbw hR5 hb5 hcl4 hcl5 hc0r h hO hch d03 d2 hs4 hins hz5 hL hW1 hW3
  go_wp2
  go_loopg [6] S.kept.length (fun g6 u wr => ∃ (c2 G : Nat → Nat) (D : List Nat) (Kd ls : Dir), ls.length = g6 ∧ MapRng wr bk w4.heap.size (S.kept.map (pv F)) (ls.map (pv F)) ∧ ClI c F S w g (w.heap.size + 1) w.heap.size c2 G D { cl0 S with kept := Kd } wr ∧ Hid ((Kd ++ ls).Perm S.kept) ∧ w5.heap.size ≤ wr.heap.size ∧ c2 w4.heap.size = 0)
  case atStart => exact ⟨c0, F0, [], [], S.kept, rfl, HR5.out, HCL5.out, List.Perm.refl _, Nat.le_refl _, HC0R.out⟩
  case round =>
    obtain ⟨c2, G, D, Kd, ls, hg6, hrng, hcl, hperm, hsz, hcr⟩ := hrel
    clear HCL5 HR5 HC0R
    rcases pv_next hrng with ⟨h0, hnx⟩ | ⟨x, ls', w6, hpx, hnx, hrng6, ht6, hz6, hen⟩
    · subst h0
      have hKp : Kd.Perm S.kept := by have := hperm.out; rwa [List.append_nil] at this
      obtain ⟨bn2, bk2, A2, n2, -, -, k2, -, -, kf, -, -, -, k9, -, -, -⟩ := hcl.fs.open_
      obtain ⟨es, clock, q1, q2, q3⟩ := k9.out
      have hCl := Lib.hid (AnyW.maps_Clone Tryz.cloneM bk2 es clock wr q1)
      change Hid (Calls Tryz.prog 55 _ _ _) at hCl
      obtain ⟨Wa, hWa⟩ : ∃ W, wr.alloc (.map es clock) = W := ⟨_, rfl⟩
      rw [hWa] at hCl
      obtain ⟨Wb, hWb⟩ : ∃ W, Wa.setCell ⟨g, 1, none⟩ (.map (some wr.heap.size)) = W := ⟨_, rfl⟩
      have hclb := Lib.hid (ClI.now hcl rfl k2 q1 hKp hWa.symm hWb.symm rfl rfl)
      have hgl := hcl.fs.lt g (by have := hcl.fs.col; omega)
      have hba : Below wr.heap.size wr Wa := by rw [← hWa]; exact (Below.refl _ wr).alloc (Nat.le_refl _) _
      obtain ⟨bn3, bk3, A3, n3, -, z1, -, -, -, zf, -, -, -, -, -, -, zb⟩ := (hcl.fs.below hba).open_
      have zf1 := zf 1
      have hCK : ({ { cl0 S with kept := Kd } with kept := S.kept, now := S.kept } : FsM) = clk S 0 := rfl
      rw [hCK] at hclb
      obtain ⟨h, hO, hb3, hx3, hm3, hz3, hmk, hL, hch⟩ := HX.out
      have y3 := (hclb.out.below.cell (p := ⟨f, 3, none⟩) hfl).trans d3
      obtain ⟨vs, r1, r2, r3⟩ := hch.out
      have HROW := Lib.hid (And.intro r1 (And.intro r2 r3))
      clear hcl hKp hperm kf k9 q1 q2 q3 hrng hsz hcr hg6 hba zf zb hCK h hO hb3 hx3 hm3 hz3 hmk hL hch r1 r2 r3 hWa
      go_wp2_with fail
      refine hCl.out.mono ?_
      rintro e w6 ⟨rfl, rfl⟩
      clear hCl
      go_wp2
      go_loopg [54] L (fun g7 i wr => ∃ (k : Nat) (c2 G : Nat → Nat) (D : List Nat), k + g7 = L ∧ i = .int .i64 k ∧ ClI c F S w g (w.heap.size + 1) w.heap.size c2 G D (clk S k) wr)
      case atStart => exact ⟨0, _, _, _, by omega, rfl, hclb.out⟩
      case round =>
        obtain ⟨k, c4, G4, D4, hk, rfl, hcl⟩ := hrel
        clear hclb
        by_cases hlt : k < L
        · obtain ⟨r1, r2, r3⟩ := HROW.out
          obtain ⟨h, hO, hb3, hx3, hm3, hz3, hmk, hL, hch⟩ := HX.out
          have hkl : k < S.chg.length := by rw [hL]; exact hlt
          obtain ⟨Ak, nk, e1, e2', e3⟩ := r3 k hkl
          have r1r := ownsRow_kept r1 (w' := wr) fun k e => hcl.below.block k (World.ownsRow.lt r1 k e).2
          obtain ⟨ad, hA, hc⟩ : ∃ ad, A0 = some ad ∧ wr.cell? (ad.add k) = some (.slice Ak (S.chg[k]).length nk) := by
            rcases (Sees.of_own r1r).out with e | ⟨ad, ea, -, ec⟩
            · rw [e] at e1; simp at e1
            · exact ⟨ad, ea, ec k _ e1⟩
          subst hA
          obtain ⟨ck, hck⟩ : ∃ ck, S.chg[k] = ck := ⟨_, rfl⟩
          have hl2 := hO.chg2 _ (List.getElem_mem hkl)
          have hnm : ∀ p n, (p, some n) ∈ ck → S.reach n := fun p n hp => .inr (.inr ⟨ck, by rw [← hck]; exact List.getElem_mem hkl, p, hp⟩)
          have hT := Lib.hid (show clk S (k + 1) = (clk S k).change ck by
            unfold clk FsM.change
            rw [List.take_succ_eq_append_getElem hkl, List.foldl_append, hck]
            rfl)
          rw [hck] at hc e2' e3 hl2
          obtain ⟨lk, hlk⟩ : ∃ lk, ck.length = lk := ⟨_, rfl⟩
          rw [hlk] at hc e2' hl2
          have HLK := Lib.hid hlk
          have HNM := Lib.hid hnm
          have HSEE := Lib.hid (e3.keep (Kept.of_below hcl.below fun k e => h.lt k (by omega)))
          have hq5 : ∀ j, c j = 5 → j < w.heap.size := fun j e => h.lt j (by omega)
          have HQ5 := Lib.hid hq5
          have HRI := Lib.hid (show RiD (clk S k).now from ri_fold _ hO.keptR)
          have HCN : Hid ((clk S k).chg.length ≤ 100000) := by unfold Hid; show (S.chg.take k).length ≤ _; rw [List.length_take]; have := hO.many; omega
          have hsw := hcl.below.size
          have HCL := Lib.hid hcl
          clear r1 r2 r3 h hO hb3 hx3 hm3 hz3 hmk hL hch e1 e3 r1r hck hnm hlk hq5 hcl hkl
          obtain ⟨wo, rfl⟩ : ∃ W, W = wr := ⟨_, rfl⟩
          go_wp2
          go_loopg [10, 60] lk (fun g8 v i2 wz => ∃ (j : Nat) (c3 G3 : Nat → Nat) (D3 : List Nat), j + g8 = lk ∧ i2 = .int .i64 j ∧ ClI c F S w g (w.heap.size + 1) w.heap.size c3 G3 D3 (clk S k) wz ∧ wz.ownsRow (w.heap.size + 2) 92 2 v j (givV G3 (ck.take j)) ∧
            Hid ((∀ p n, (p, some n) ∈ ck.take j → n ∈ D3) ∧ (∀ b, v.ownBlock = some b → c3 b = 0) ∧ Kept (fun k => c k = 5) wo wz) ∧ w.heap.size + 2 ≤ wz.heap.size)
          case atStart => exact ⟨0, c4, G4, D4, by omega, rfl, HCL.out, World.ownsRow_nil _ _ _ _, ⟨by simp, fun b hb => by simp [Value.ownBlock] at hb, Kept.refl _ _⟩, by have := HCL.out.tw.box.lt; omega⟩
          case round =>
            obtain ⟨j, c3, G3, D3, hj, rfl, hclz, hown, hst, hzs⟩ := hrel
            clear HCL
            by_cases hlt2 : j < lk
            · have hjl : j < ck.length := by rw [HLK.out]; exact hlt2
              obtain ⟨ad2, hA2, hq2, g1, g2⟩ := (HSEE.out.keep hst.out.2.2).giv hjl
              subst hA2
              obtain ⟨Av, cv, hv, -, -⟩ := row_open hown
              subst hv
              have hTK := Lib.hid (show ck.take (j + 1) = ck.take j ++ [ck[j]] from List.take_succ_eq_append_getElem hjl)
              obtain ⟨gj, hgj⟩ : ∃ gj, ck[j] = gj := ⟨_, rfl⟩
              have hmem : gj ∈ ck := by rw [← hgj]; exact List.getElem_mem hjl
              rw [hgj] at g1 g2 hTK
              obtain ⟨p, o⟩ := gj
              obtain ⟨po, hpo⟩ : ∃ po, optV F o = .pointer po := by cases o <;> exact ⟨_, rfl⟩
              simp only at g1 g2
              rw [hpo] at g2
              have ho : ∀ n, o = some n → S.reach n := fun n e => HNM.out p n (by rw [← e]; exact hmem)
              obtain ⟨h, hO, -⟩ := HX.out
              obtain ⟨wv, hwv⟩ : ∃ W, wr.alloc (.cells #[.string (strOf p), .pointer po] 92) = W := ⟨_, rfl⟩
              have hbv : Below wr.heap.size wr wv := by rw [← hwv]; exact (Below.refl _ wr).alloc (Nat.le_refl _) _
              have hzv : wv.heap.size = wr.heap.size + 1 := by rw [← hwv]; simp
              have bv0 : Blk wv wr.heap.size #[.string (strOf p), .pointer po] 92 := by rw [← hwv]; exact Blk.new _ _ _
              have b0 : wv.cell? ⟨wr.heap.size, 0, none⟩ = some (.string (strOf p)) := bv0.cell 0 rfl
              have b1 : wv.cell? ⟨wr.heap.size, 1, none⟩ = some (.pointer po) := bv0.cell 1 rfl
              have hclv := hclz.newB hbv
              have htw := Lib.hid (twin_any (h.below (below_drew hclv.below)) hO (hclv.tw.keep (w' := wv.drew) (fun _ _ => rfl) (Nat.le_refl _)) o ho)
              rw [hpo] at htw
              have HCV := Lib.hid hclv
              have HBV := Lib.hid hbv
              have HOW := Lib.hid hown
              have HZV := Lib.hid hzv
              have hbtl := hclz.tw.map.lt
              obtain ⟨ti, hti, hi0, hi1, hi2⟩ := info_parts Tryz.givinfo
              have HTI := Lib.hid hti
              have HI0 := Lib.hid hi0
              have HI1 := Lib.hid hi1
              have HI2 := Lib.hid hi2
              clear hown hclz hclv bv0 hbv hzv h hO ho hmem hgj hjl hti hi0 hi1 hi2 hpo
              go_wp2_with fail
              clear hwv
              refine wp_region_noPanic ?_
              refine wp_region_held_drew (S := fun w' => w'.cell? ⟨wr.heap.size, 0, none⟩ = some (.string (strOf p)) ∧ w'.cell? ⟨wr.heap.size, 1, none⟩ = some (.pointer po)) (by kernel_rfl) ?_ (fun hHeld => ?_)
              · (exact ⟨b0, b1⟩)
              refine wpAnyH_take (i := 0) (oi := { dst := some 64, op := Op.move (Operand.tmp 10), type := 93, pos := "simfs.go:302", after := #[], guard := none }) (v := ?_) rfl (by kernel_rfl) (by kernel_rfl) (by kernel_rfl) (fun _ _ _ h => h) (Or.inl ⟨by rfl, ?_⟩) hHeld ?_
              rotate_left
              · (intro w' hSw; (try dsimp only at hSw); go_split_ands; go_simp; first | done | with_reducible rfl)
              try simp only [Act.put, List.setIfInBounds_toArray, List.set_cons_zero, List.set_cons_succ]
              refine wpAnyH_take (i := 1) (oi := { dst := some 65, op := Op.fieldAddr 92 (Operand.tmp 12) 0, type := 0, pos := "simfs.go:302", after := #[], guard := none }) (v := ?_) rfl (by kernel_rfl) (by kernel_rfl) (by kernel_rfl) (fun _ _ _ h => h) (Or.inl ⟨by rfl, ?_⟩) hHeld ?_
              rotate_left
              · (intro w' hSw; (try dsimp only at hSw); go_split_ands; go_simp; first | done | with_reducible rfl)
              try simp only [Act.put, List.setIfInBounds_toArray, List.set_cons_zero, List.set_cons_succ]
              refine wpAnyH_take (i := 2) (oi := { dst := some 66, op := Op.load 9 (Operand.tmp 65), type := 9, pos := "simfs.go:302", after := #[{ on := 1, ground := Ground.data }], guard := none }) (v := ?_) rfl (by kernel_rfl) (by kernel_rfl) (by kernel_rfl) (fun _ _ _ h => h) (Or.inl ⟨by rfl, ?_⟩) hHeld ?_
              rotate_left
              · (intro w' hSw; (try dsimp only at hSw); go_split_ands; go_simp; first | done | with_reducible rfl)
              try simp only [Act.put, List.setIfInBounds_toArray, List.set_cons_zero, List.set_cons_succ]
              refine wpAnyH_take (i := 3) (oi := { dst := some 67, op := Op.move (Operand.tmp 4), type := 99, pos := "simfs.go:302", after := #[], guard := none }) (v := ?_) rfl (by kernel_rfl) (by kernel_rfl) (by kernel_rfl) (fun _ _ _ h => h) (Or.inl ⟨by rfl, ?_⟩) hHeld ?_
              rotate_left
              · (intro w' hSw; (try dsimp only at hSw); go_split_ands; go_simp; first | done | with_reducible rfl)
              try simp only [Act.put, List.setIfInBounds_toArray, List.set_cons_zero, List.set_cons_succ]
              refine wpAnyH_take (i := 4) (oi := { dst := some 68, op := Op.fieldAddr 92 (Operand.tmp 12) 1, type := 0, pos := "simfs.go:302", after := #[], guard := none }) (v := ?_) rfl (by kernel_rfl) (by kernel_rfl) (by kernel_rfl) (fun _ _ _ h => h) (Or.inl ⟨by rfl, ?_⟩) hHeld ?_
              rotate_left
              · (intro w' hSw; (try dsimp only at hSw); go_split_ands; go_simp; first | done | with_reducible rfl)
              try simp only [Act.put, List.setIfInBounds_toArray, List.set_cons_zero, List.set_cons_succ]
              refine wpAnyH_take (i := 5) (oi := { dst := some 69, op := Op.load 73 (Operand.tmp 68), type := 73, pos := "simfs.go:302", after := #[{ on := 4, ground := Ground.data }], guard := none }) (v := ?_) rfl (by kernel_rfl) (by kernel_rfl) (by kernel_rfl) (fun _ _ _ h => h) (Or.inl ⟨by rfl, ?_⟩) hHeld ?_
              rotate_left
              · (intro w' hSw; (try dsimp only at hSw); go_split_ands; go_simp; first | done | with_reducible rfl)
              try simp only [Act.put, List.setIfInBounds_toArray, List.set_cons_zero, List.set_cons_succ]
              refine wpAnyH_ready (rs := [6]) (by kernel_rfl) (by simp) ?_
              refine AllReadyH.cons (o := { dst := some 70, op := Op.call { callee := Callee.value (Operand.tmp 67), args := #[Operand.tmp 69], argTypes := #[73] }, type := 73, pos := "simfs.go:302", after := #[{ on := 3, ground := Ground.data }, { on := 5, ground := Ground.data }], guard := none }) rfl (fun K hK => ?_) AllReadyH.nil
              go_simp
              refine htw.out.mono ?_
              rintro e w7 ⟨c5, G5, D5, rfl, hst5'⟩
              obtain ⟨pr, hpr⟩ : ∃ pr, optV G5 o = .pointer pr := by cases o <;> exact ⟨_, rfl⟩
              rw [hpr]
              have hst5 : TwStep c F S c3 G3 D3 wv (w.heap.size + 1) w.heap.size o c5 G5 D5 w7 := ⟨hst5'.at_, hst5'.has, hst5'.old, hst5'.col, hst5'.new, ⟨hst5'.turn.os, hst5'.turn.tape, hst5'.turn.output, hst5'.turn.size, hst5'.turn.block⟩⟩
              have x0 := (hst5.turn.keep (p := ⟨wr.heap.size, 0, none⟩) (by show wr.heap.size < _; have := HZV.out; omega) (by show wr.heap.size ≠ _; omega)).trans b0
              have x1 := (hst5.turn.keep (p := ⟨wr.heap.size, 1, none⟩) (by show wr.heap.size < _; have := HZV.out; omega) (by show wr.heap.size ≠ _; omega)).trans b1
              have HST5 := Lib.hid hst5
              have HPR := Lib.hid hpr
              clear hst5 hst5' hpr
              refine hK.out _ _ ?_ ?_
              · (exact ⟨x0, x1⟩)
              clear hK K hHeld; intro hHeld
              try simp only [Act.put, List.setIfInBounds_toArray, List.set_cons_zero, List.set_cons_succ]
              refine wpAnyH_take (i := 7) (oi := { dst := some 71, op := Op.build 92 #[(0, Operand.tmp 66), (1, Operand.tmp 70)], type := 92, pos := "simfs.go:302", after := #[{ on := 2, ground := Ground.data }, { on := 6, ground := Ground.data }], guard := none }) (v := ?_) rfl (by kernel_rfl) (by kernel_rfl) (by kernel_rfl) (fun _ _ _ h => h) (Or.inl ⟨by rfl, ?_⟩) hHeld ?_
              rotate_left
              · (intro w' hSw; (try dsimp only at hSw); go_split_ands; go_simp; first | done | with_reducible rfl)
              try simp only [Act.put, List.setIfInBounds_toArray, List.set_cons_zero, List.set_cons_succ]
              refine wpAnyH_ready (rs := [8]) (by kernel_rfl) (by simp) ?_
              refine AllReadyH.cons (o := { dst := some 72, op := Op.buildSlice 93 1 #[(0, Operand.tmp 71)], type := 93, pos := "simfs.go:302", after := #[{ on := 7, ground := Ground.data }], guard := none }) rfl (fun K hK => ?_) AllReadyH.nil
              go_simp
              have hb8 : Below w7.heap.size w7 (w7.alloc (.cells #[.string (strOf p), .pointer pr] 92)) := (Below.refl _ w7).alloc (Nat.le_refl _) _
              have hsee8 := Lib.hid (sees_cells w7 _ rfl [.string (strOf p), .pointer pr] 92 #[.string (strOf p), .pointer pr] rfl)
              have hzz : wr.heap.size < w7.heap.size := by have := HZV.out; have := HST5.out.turn.size; omega
              have hz8 : (w7.alloc (.cells #[.string (strOf p), .pointer pr] 92)).heap.size = w7.heap.size + 1 := by simp
              obtain ⟨w8, hw8⟩ : ∃ W, w7.alloc (.cells #[.string (strOf p), .pointer pr] 92) = W := ⟨_, rfl⟩
              rw [hw8] at hb8 hsee8 hz8 ⊢
              have y0 := (hb8.cell (p := ⟨wr.heap.size, 0, none⟩) hzz).trans x0
              have y1 := (hb8.cell (p := ⟨wr.heap.size, 1, none⟩) hzz).trans x1
              have HZ8 := Lib.hid hz8
              have HB8 := Lib.hid hb8
              have hown8 : w8.ownsRow (w.heap.size + 2) 92 2 (.slice Av j cv) j (givV G3 (ck.take j)) := ownsRow_kept HOW.out fun k e => by
                have hk := World.ownsRow.lt HOW.out k e
                rw [hb8.block k (by omega), HST5.out.turn.block k (by have := HZV.out; omega) (by omega), HBV.out.block k hk.2]
              refine hK.out _ _ ?_ ?_
              · (exact ⟨y0, y1⟩)
              clear hK K hHeld; intro hHeld
              try simp only [Act.put, List.setIfInBounds_toArray, List.set_cons_zero, List.set_cons_succ]
              refine wpAnyH_ready (rs := [9]) (by kernel_rfl) (by simp) ?_
              refine AllReadyH.cons (o := { dst := some 73, op := Op.call { callee := Callee.builtin Builtin.append, args := #[Operand.tmp 64, Operand.tmp 72], argTypes := #[93, 93] }, type := 93, pos := "simfs.go:302", after := #[{ on := 0, ground := Ground.data }, { on := 8, ground := Ground.data }, { on := 6, ground := Ground.chain }], guard := none }) rfl (fun K hK => ?_) AllReadyH.nil
              refine step_append_v (by rfl) (.tmp 64) (.tmp 72) 93 (by rfl) 92 ti _ 2 24 Tryz.underlying93 HTI.out HI0.out HI1.out HI2.out rfl (by omega) (w.heap.size + 2) _ j (givV G3 (ck.take j)) (by rfl) hown8 (w7.heap.size + 1) (some ⟨w7.heap.size, 0, none⟩) 1 1 [.string (strOf p), .pointer pr] (by rfl) rfl hsee8.out (fun u hu => by simp at hu; rcases hu with rfl | rfl <;> rfl) (by simp only [maxLen]; omega) (by omega) (by have := HZ8.out; omega) ?_
              intro v9 w9 hown9 hon9
              obtain ⟨A9, c9, hv9, -, -⟩ := row_open hown9
              subst hv9
              have hne9 : (Value.slice Av j cv).ownBlock ≠ some wr.heap.size := fun e => by have := (World.ownsRow.lt HOW.out _ e).2; omega
              have hbl9 := hon9.grown.block wr.heap.size (by have := HZ8.out; omega) (fun e => hne9 e.symm)
              have u0 := (World.cell?_of_block (a := ⟨wr.heap.size, 0, none⟩) hbl9).trans y0
              have u1 := (World.cell?_of_block (a := ⟨wr.heap.size, 1, none⟩) hbl9).trans y1
              have HOWN9 := Lib.hid hown9
              have HON9 := Lib.hid hon9
              clear hown9 hon9 hown8 hne9 hbl9 hb8 hz8
              refine hK.out _ _ ?_ ?_
              · (exact ⟨u0, u1⟩)
              clear hK K hHeld; intro hHeld
              try simp only [Act.put, List.setIfInBounds_toArray, List.set_cons_zero, List.set_cons_succ]
              refine wpAnyH_take (i := 10) (oi := { dst := some 10, op := Op.assign (Operand.tmp 73), type := 93, pos := "simfs.go:302", after := #[{ on := 9, ground := Ground.data }, { on := 9, ground := Ground.chain }, { on := 0, ground := Ground.phase }, { on := 1, ground := Ground.phase }, { on := 2, ground := Ground.phase }, { on := 3, ground := Ground.phase }, { on := 4, ground := Ground.phase }, { on := 5, ground := Ground.phase }, { on := 6, ground := Ground.phase }, { on := 7, ground := Ground.phase }, { on := 8, ground := Ground.phase }, { on := 9, ground := Ground.phase }], guard := none }) (v := ?_) rfl (by kernel_rfl) (by kernel_rfl) (by kernel_rfl) (fun _ _ _ h => h) (Or.inl ⟨by rfl, ?_⟩) hHeld ?_
              rotate_left
              · (intro w' hSw; (try dsimp only at hSw); go_split_ands; go_simp; first | done | with_reducible rfl)
              try simp only [Act.put, List.setIfInBounds_toArray, List.set_cons_zero, List.set_cons_succ]
              refine wpAnyH_done (by kernel_rfl) ?_ _
              refine NoPanic.normal ?_
              have HQ := Lib.hid (show ∃ (c3 G3 : Nat → Nat) (D3 : List Nat), ClI c F S w g (w.heap.size + 1) w.heap.size c3 G3 D3 (clk S k) w9 ∧ w9.ownsRow (w.heap.size + 2) 92 2 (.slice A9 (j + 1) c9) (j + 1) (givV G3 (ck.take (j + 1))) ∧
                  Hid ((∀ p n, (p, some n) ∈ ck.take (j + 1) → n ∈ D3) ∧ (∀ b, (Value.slice A9 (j + 1) c9).ownBlock = some b → c3 b = 0) ∧ Kept (fun k => c k = 5) wo w9) ∧ w.heap.size + 2 ≤ w9.heap.size from by
                have hs7 := HST5.out.turn.size
                have hs9 := HON9.out.size
                have hz8 := HZ8.out
                have hzv := HZV.out
                have hvl := World.ownsRow.lt HOW.out
                have hfree5 : ∀ b, (Value.slice Av j cv).ownBlock = some b → c5 b = 0 := fun b e => by
                  by_cases e2 : c5 b = 0
                  · exact e2
                  · rcases HST5.out.new b e2 with e3 | e3
                    · exact absurd (hst.out.2.1 b e) e3
                    · have := (hvl b e).2; omega
                have hcl7 := HCV.out.twin HST5.out
                have hcl9 := (hcl7.newB HB8.out).turn (Turn.onto (T := fun k => (Value.slice Av j cv).ownBlock = some k) HON9.out fun k e => e) fun k e => ⟨hfree5 k e, by have := (hvl k e).1; omega, by have := (hvl k e).1; omega, by have := (hvl k e).1; omega⟩
                have hgv : givV G5 (ck.take (j + 1)) = givV G3 (ck.take j) ++ [.string (strOf p), .pointer pr] := by
                  rw [hTK.out, givV_append, givV_congr (F := G3) fun p n hp => (HST5.out.old n (hst.out.1 p n hp)).2]
                  rw [← HPR.out]
                  rfl
                refine ⟨c5, G5, D5, hcl9, by rw [hgv]; exact HOWN9.out, ⟨fun p' n hp => ?_, fun b e => ?_, ?_⟩, by omega⟩
                · rw [hTK.out] at hp
                  rcases List.mem_append.1 hp with hp | hp
                  · exact (HST5.out.old n (hst.out.1 p' n hp)).1
                  · simp only [List.mem_singleton, Prod.mk.injEq] at hp
                    exact HST5.out.has n hp.2.symm
                · rcases HON9.out.at_ with e2 | ⟨q, e2, hq⟩
                  · exact hfree5 b (e2 ▸ e)
                  · rw [e2] at e
                    injection e with e
                    by_cases e3 : c5 b = 0
                    · exact e3
                    · have := HST5.out.at_.lt b e3; omega
                · refine (((hst.out.2.2.trans (Kept.of_below HBV.out fun k e => ?_)).trans (Kept.of_turn HST5.out.turn fun k e => ⟨?_, ?_⟩)).trans (Kept.of_below HB8.out fun k e => ?_)).trans fun k e => HON9.out.grown.block k ?_ fun e2 => ?_
                  · have := HQ5.out k e; omega
                  · have := HQ5.out k e; omega
                  · have := HQ5.out k e; omega
                  · have := HQ5.out k e; omega
                  · have := HQ5.out k e; omega
                  · have h1 := HQ5.out k e
                    have := (hvl k e2.symm).1
                    omega)
              clear HOWN9 HON9 HZ8 HB8 HST5 HPR htw HCV HBV HOW HZV hst hsee8 hTK
              go_wp2
              go_roundg (lk - (j + 1))
              case measure => omega
              case rel =>
                obtain ⟨c6, G6, D6, q1, q2, q3, q4⟩ := HQ.out
                exact ⟨j + 1, c6, G6, D6, by omega, by go_num, q1, q2, q3, q4⟩
            · obtain rfl : j = lk := by omega
              obtain ⟨Av, cv, hv, hvc, -⟩ := row_open hown
              subst hv
              have htk : ck.take j = ck := by rw [List.take_of_length_le (by rw [HLK.out]; omega)]
              rw [htk] at hown hst
              have hvl := World.ownsRow.lt hown
              have hchg := Lib.hid (clI_change hclz rfl hvc HLK.out (by omega) hown (by omega) (fun b e => ⟨hst.out.2.1 b e, by have := (hvl b e).1; omega, by have := (hvl b e).1; omega⟩) hst.out.1 HRI.out HCN.out)
              clear hown hclz hst htk hvl HSEE HNM
              go_wp2_with fail
              refine hchg.out.mono ?_
              rintro e w7 ⟨rfl, c6, hcl6⟩
              have HC6 := Lib.hid hcl6
              clear hcl6 hchg
              go_wp2
              go_roundg (L - (k + 1))
              case measure => omega
              case rel => exact ⟨k + 1, c6, G3, D3, by omega, by go_num, by rw [hT.out]; exact HC6.out⟩
        · obtain rfl : k = L := by omega
          have y4 := (hcl.below.cell (p := ⟨f, 4, none⟩) hfl).trans d4
          obtain ⟨bn3, bk3, A3, n3, -, -, -, -, z4, zf, -⟩ := hcl.fs.open_
          have zf4 := zf 4
          have hfin := Lib.hid (show FsAt c4 G4 (wr.setCell ⟨g, 4, none⟩ (.int .i64 (S.fuse : Int))) g S ∧ (∀ k, k < w.heap.size → c4 k = 0) ∧ Below w.heap.size w (wr.setCell ⟨g, 4, none⟩ (.int .i64 (S.fuse : Int))) from by
            obtain ⟨h, hO, hb3, hx3, hm3, hz3, hmk, hL, hch⟩ := HX.out
            have hgw : w.heap.size ≤ g := hcl.new g (by have := hcl.fs.col; omega)
            refine ⟨(hcl.fs.setFuse S.fuse).same rfl ?_ rfl ?_ rfl fun i _ => rfl, fun k hk => ?_, hcl.below.setCell hgw _⟩
            · show S.now = (S.chg.take k).foldl againD S.kept
              rw [hO.again, List.take_of_length_le (by omega)]
            · show S.chg = S.chg.take k
              rw [List.take_of_length_le (by omega)]
            · by_cases e : c4 k = 0
              · exact e
              · have := hcl.new k e; omega)
          clear hcl zf HROW HX
          go_wp2
          go_ret
          exact ⟨g, c4, G4, rfl, hfin.out⟩
    · have HG6 := Lib.hid hg6
      have hcl6 := hcl.turn ht6 (fun k e => ⟨by rw [e]; exact hcr, by omega, by omega, by omega⟩)
      obtain ⟨h, hO, -⟩ := HX.out
      have hxk : x ∈ S.kept := (hperm.out.mem_iff).1 (List.mem_append_right _ (hpx.mem_iff.2 (by simp)))
      have htw := Lib.hid (twin_any (h.below (below_drew hcl6.below)) hO (hcl6.tw.keep (w' := w6.drew) (fun _ _ => rfl) (Nat.le_refl _)) (some x.2) (fun n e => by injection e with e; rw [← e]; exact .inr (.inl ⟨x.1, hxk⟩)))
      simp only [optV, ptr] at htw
      obtain ⟨bn2, bk2, A2, n2, -, -, k2, -, -, kf, -, -, -, -, -, -, -⟩ := hcl6.fs.open_
      have hgl := hcl6.fs.lt g (by have := hcl6.fs.col; omega)
      have hgb : g ≠ w.heap.size := fun e => by have h1 := hcl6.fs.col; have h2 := hcl6.tw.off.2.2.2; rw [e] at h1; omega
      have HC6 := Lib.hid hcl6
      have HPX := Lib.hid (And.intro hperm.out (And.intro hpx (And.intro hcr (And.intro hrng6 (And.intro ht6.size hsz)))))
      clear hcl hrng hperm hg6 hcl6 h hO hxk hrng6 ht6 hpx kf hcr
      go_wp2_with fail
      refine wp_region_noPanic ?_
      refine wp_region_held_drew (S := fun w' => w'.cell? ⟨g, 2, none⟩ = some (.map (some bk2))) (by kernel_rfl) ?_ (fun hHeld => ?_)
      · (exact k2)
      refine wpAnyH_take (i := 0) (oi := { dst := some 33, op := Op.move (Operand.tmp 5), type := 24, pos := "simfs.go:296", after := #[], guard := none }) (v := ?_) rfl (by kernel_rfl) (by kernel_rfl) (by kernel_rfl) (fun _ _ _ h => h) (Or.inl ⟨by rfl, ?_⟩) hHeld ?_
      rotate_left
      · (intro w' hSw; (try dsimp only at hSw); go_split_ands; go_simp; first | done | with_reducible rfl)
      try simp only [Act.put, List.setIfInBounds_toArray, List.set_cons_zero, List.set_cons_succ]
      refine wpAnyH_take (i := 1) (oi := { dst := some 34, op := Op.nilCheck (Operand.tmp 33), type := 0, pos := "simfs.go:296", after := #[{ on := 0, ground := Ground.data }], guard := none }) (v := ?_) rfl (by kernel_rfl) (by kernel_rfl) (by kernel_rfl) (fun _ _ _ h => h) (Or.inl ⟨by rfl, ?_⟩) hHeld ?_
      rotate_left
      · (intro w' hSw; (try dsimp only at hSw); go_split_ands; go_simp; first | done | with_reducible rfl)
      try simp only [Act.put, List.setIfInBounds_toArray, List.set_cons_zero, List.set_cons_succ]
      refine wpAnyH_take (i := 2) (oi := { dst := some 35, op := Op.fieldAddr 64 (Operand.tmp 34) 2, type := 0, pos := "simfs.go:296", after := #[{ on := 1, ground := Ground.data }], guard := none }) (v := ?_) rfl (by kernel_rfl) (by kernel_rfl) (by kernel_rfl) (fun _ _ _ h => h) (Or.inl ⟨by rfl, ?_⟩) hHeld ?_
      rotate_left
      · (intro w' hSw; (try dsimp only at hSw); go_split_ands; go_simp; first | done | with_reducible rfl)
      try simp only [Act.put, List.setIfInBounds_toArray, List.set_cons_zero, List.set_cons_succ]
      refine wpAnyH_take (i := 3) (oi := { dst := some 36, op := Op.load 61 (Operand.tmp 35), type := 61, pos := "simfs.go:296", after := #[{ on := 2, ground := Ground.data }], guard := none }) (v := ?_) rfl (by kernel_rfl) (by kernel_rfl) (by kernel_rfl) (fun _ _ _ h => h) (Or.inl ⟨by rfl, ?_⟩) hHeld ?_
      rotate_left
      · (intro w' hSw; (try dsimp only at hSw); go_split_ands; go_simp; first | done | with_reducible rfl)
      try simp only [Act.put, List.setIfInBounds_toArray, List.set_cons_zero, List.set_cons_succ]
      refine wpAnyH_take (i := 4) (oi := { dst := some 37, op := Op.move (Operand.tmp 6), type := 9, pos := "simfs.go:296", after := #[], guard := none }) (v := ?_) rfl (by kernel_rfl) (by kernel_rfl) (by kernel_rfl) (fun _ _ _ h => h) (Or.inl ⟨by rfl, ?_⟩) hHeld ?_
      rotate_left
      · (intro w' hSw; (try dsimp only at hSw); go_split_ands; go_simp; first | done | with_reducible rfl)
      try simp only [Act.put, List.setIfInBounds_toArray, List.set_cons_zero, List.set_cons_succ]
      refine wpAnyH_take (i := 5) (oi := { dst := some 38, op := Op.move (Operand.tmp 4), type := 99, pos := "simfs.go:296", after := #[], guard := none }) (v := ?_) rfl (by kernel_rfl) (by kernel_rfl) (by kernel_rfl) (fun _ _ _ h => h) (Or.inl ⟨by rfl, ?_⟩) hHeld ?_
      rotate_left
      · (intro w' hSw; (try dsimp only at hSw); go_split_ands; go_simp; first | done | with_reducible rfl)
      try simp only [Act.put, List.setIfInBounds_toArray, List.set_cons_zero, List.set_cons_succ]
      refine wpAnyH_take (i := 6) (oi := { dst := some 39, op := Op.move (Operand.tmp 7), type := 73, pos := "simfs.go:296", after := #[], guard := none }) (v := ?_) rfl (by kernel_rfl) (by kernel_rfl) (by kernel_rfl) (fun _ _ _ h => h) (Or.inl ⟨by rfl, ?_⟩) hHeld ?_
      rotate_left
      · (intro w' hSw; (try dsimp only at hSw); go_split_ands; go_simp; first | done | with_reducible rfl)
      try simp only [Act.put, List.setIfInBounds_toArray, List.set_cons_zero, List.set_cons_succ]
      refine wpAnyH_ready (rs := [7]) (by kernel_rfl) (by simp) ?_
      refine AllReadyH.cons (o := { dst := some 40, op := Op.call { callee := Callee.value (Operand.tmp 38), args := #[Operand.tmp 39], argTypes := #[73] }, type := 73, pos := "simfs.go:296", after := #[{ on := 5, ground := Ground.data }, { on := 6, ground := Ground.data }], guard := none }) rfl (fun K hK => ?_) AllReadyH.nil
      go_simp
      refine htw.out.mono ?_
      rintro e w7 ⟨c3, G3, D3, rfl, hst⟩
      have hst6 : TwStep c F S c2 G D w6 (w.heap.size + 1) w.heap.size (some x.2) c3 G3 D3 w7 := ⟨hst.at_, hst.has, hst.old, hst.col, hst.new, ⟨hst.turn.os, hst.turn.tape, hst.turn.output, hst.turn.size, hst.turn.block⟩⟩
      have k7 : w7.cell? ⟨g, 2, none⟩ = some (.map (some bk2)) := (hst6.turn.keep (p := ⟨g, 2, none⟩) hgl hgb).trans k2
      have HST := Lib.hid hst6
      simp only [optV, ptr]
      clear hst hst6
      refine hK.out _ _ ?_ ?_
      · (exact k7)
      clear hK K hHeld; intro hHeld
      try simp only [Act.put, List.setIfInBounds_toArray, List.set_cons_zero, List.set_cons_succ]
      refine wpAnyH_ready (rs := [8]) (by kernel_rfl) (by simp) ?_
      refine AllReadyH.cons (o := { dst := none, op := Op.mapUpdate 61 (Operand.tmp 36) (Operand.tmp 37) (Operand.tmp 40), type := 0, pos := "simfs.go:296", after := #[{ on := 3, ground := Ground.data }, { on := 4, ground := Ground.data }, { on := 7, ground := Ground.data }, { on := 7, ground := Ground.chain }, { on := 0, ground := Ground.phase }, { on := 1, ground := Ground.phase }, { on := 2, ground := Ground.phase }, { on := 3, ground := Ground.phase }, { on := 4, ground := Ground.phase }, { on := 5, ground := Ground.phase }, { on := 6, ground := Ground.phase }, { on := 7, ground := Ground.phase }], guard := none }) rfl (fun K hK => ?_) AllReadyH.nil
      obtain ⟨hperm, hpx, hcr, hrng6, hs6, hsz6⟩ := HPX.out
      obtain ⟨h, hO, -⟩ := HX.out
      have hcl7 := HC6.out.twin HST.out
      obtain ⟨w8, hrun, hcl8, ht8, hb3⟩ := hcl7.kept rfl k7 (x := x) (HST.out.has x.2 rfl) (by
        have h1 := keys_of_perm ((List.Perm.append_left Kd hpx.symm).trans hperm) hO.keptR
        rw [List.append_cons] at h1
        exact (List.pairwise_append.1 h1).1)
      have hgk : g ≠ bk2 := fun e => by have h1 := hcl7.fs.col; rw [e] at h1; omega
      have k8 : w8.cell? ⟨g, 2, none⟩ = some (.map (some bk2)) := (ht8.keep (p := ⟨g, 2, none⟩) (Nat.lt_of_lt_of_le hgl HST.out.turn.size) hgk).trans k7
      have HC8 := Lib.hid hcl8
      have HT8 := Lib.hid (And.intro ht8 hb3)
      clear hperm hpx hcr hrng6 hs6 hsz6 h hO hcl7 hcl8 ht8 hb3
      go_simp
      refine hK.out _ _ ?_ ?_
      · (exact k8)
      clear hK K hHeld; intro hHeld
      try simp only [Act.put, List.setIfInBounds_toArray, List.set_cons_zero, List.set_cons_succ]
      refine wpAnyH_done (by kernel_rfl) ?_ _
      refine NoPanic.normal ?_
      have HQ := Lib.hid (show ∀ g', ls'.length = g' → ∃ (c2 G : Nat → Nat) (D : List Nat) (Kd ls : Dir), ls.length = g' ∧ MapRng w8 bk w4.heap.size (S.kept.map (pv F)) (ls.map (pv F)) ∧ ClI c F S w g (w.heap.size + 1) w.heap.size c2 G D { cl0 S with kept := Kd } w8 ∧ Hid ((Kd ++ ls).Perm S.kept) ∧ w5.heap.size ≤ w8.heap.size ∧ c2 w4.heap.size = 0 from fun g' hg' => by
        obtain ⟨hperm, hpx, hcr, hrng6, hs6, hsz6⟩ := HPX.out
        obtain ⟨h, hO, -, -, -, -, hmk, -⟩ := HX.out
        have s7 := HST.out.turn.size
        have s8 := HT8.out.1.size
        have hbkl : bk < w.heap.size := hmk.lt
        have hb2n : w.heap.size ≤ bk2 := (HC6.out.twin HST.out).new bk2 (by rw [HT8.out.2]; omega)
        have hc3r : c3 w4.heap.size = 0 := by
          by_cases e : c3 w4.heap.size = 0
          · exact e
          · rcases HST.out.new _ e with e2 | e2
            · exact absurd hcr e2
            · omega
        refine ⟨c3, G3, D3, Kd ++ [x], ls', hg', hrng6.keep ?_ ?_, HC8.out, ?_, by omega, hc3r⟩
        · rw [HT8.out.1.block bk (by omega) (by omega), HST.out.turn.block bk (by omega) (by omega)]
        · rw [HT8.out.1.block _ (by omega) (fun e => by rw [e, HT8.out.2] at hc3r; omega), HST.out.turn.block _ (by omega) (by omega)]
        · show (Kd ++ [x] ++ ls').Perm S.kept
          rw [← List.append_cons]
          exact (List.Perm.append_left Kd hpx.symm).trans hperm)
      have HLEN := Lib.hid HPX.out.2.1.length_eq
      clear HPX HC8 HT8 htw
      go_wp2
      go_roundg ls'.length
      case measure => have := HLEN.out; have := HG6.out; simp only [List.length_cons] at *; omega
      case rel => exact HQ.out _ rfl
end Go.Proofs.YteidkmiladkoiaaGreatDoor

/-
  The law's example, walked.
-/
namespace Go.Proofs.YteidkmiladkoiaaGreatDoor
open Go.RowKit

/-- Files in blocks laid since w0. -/
structure Own (w0 : World) (c F : Nat → Nat) (w : World) (f : Nat) (S : FsM) : Prop where
  at_ : FsAt c F w f S
  low : ∀ k, k < w0.heap.size → c k = 0
  below : Below w0.heap.size w0 w
/-- The same; all the blocks are of m. -/
structure OwnE (w0 w : World) (f : Nat) (S : FsM) (m : Nat → Prop) : Prop where
  out : ∃ c F, Own w0 c F w f S ∧ ∀ k, c k ≠ 0 → m k
  lt : ∀ k, m k → w0.heap.size ≤ k ∧ k < w.heap.size
/-- A step over blocks of m, which are then of m'. -/
structure Stp (m : Nat → Prop) (w : World) (m' : Nat → Prop) (w' : World) : Prop where
  turn : Turn m w w'
  new : ∀ k, m' k → m k ∨ (w.heap.size ≤ k ∧ k < w'.heap.size)
/-- Cells that are seen, not of m. -/
structure Hold (m : Nat → Prop) (w : World) (A : Option Addr) (xs : List Value) : Prop where
  out : SeesM (fun k => k < w.heap.size ∧ ¬ m k) w A xs
section
variable {w0 w w' : World} {c F c2 G : Nat → Nat} {f g : Nat} {S S' T : FsM} {m m' : Nat → Prop} {A : Option Addr} {xs : List Value}
theorem Hold.step (h : Hold m w A xs) (hs : Stp m w m' w') : Hold m' w' A xs :=
  ⟨(h.out.keep (Kept.of_turn hs.turn fun k e => e)).mono fun k e => ⟨Nat.lt_of_lt_of_le e.1 hs.turn.size, fun e2 => by rcases hs.new k e2 with e3 | e3; exact e.2 e3; omega⟩⟩
theorem Hold.newB (h : Hold m w A xs) (hb : Below w.heap.size w w') : Hold m w' A xs :=
  ⟨(h.out.keep (Kept.of_below hb fun _ e => e.1)).mono fun _ e => ⟨Nat.lt_of_lt_of_le e.1 hb.size, e.2⟩⟩
theorem Hold.sees (h : Hold m w A xs) : Sees w w.heap.size A xs := h.out.sees fun _ e => e.1
theorem Hold.of_old (h : Sees w w0.heap.size A xs) (hb : w0.heap.size ≤ w.heap.size) (hm : ∀ k, m k → w0.heap.size ≤ k ∧ k < w.heap.size) : Hold m w A xs :=
  ⟨h.toM.mono fun k e => ⟨by omega, fun e2 => by have := hm k e2; omega⟩⟩
/-- What was laid behind the files. -/
theorem Hold.of_new {base n cp : Nat} {l : List UInt8} (h : OwnB w' base (.slice A n cp) l) (hm : ∀ k, m k → k < base) : Hold m w' A (bv l) :=
  ⟨(ownB_seesU h).toM.mono fun k e => ⟨e.2, fun e2 => by have := hm k e2; omega⟩⟩
theorem OwnE.of (h : Own w0 c F w f S) : OwnE w0 w f S (fun k => c k ≠ 0) := ⟨⟨c, F, h, fun _ e => e⟩, fun k e => ⟨by
  by_cases hk : k < w0.heap.size
  · exact absurd (h.low k hk) e
  · omega, h.at_.lt k e⟩⟩
theorem OwnE.newB (h : OwnE w0 w f S m) (hb : Below w.heap.size w w') : OwnE w0 w' f S m := by
  obtain ⟨c, F, h1, h2⟩ := h.out
  exact ⟨⟨c, F, ⟨h1.at_.below hb, h1.low, h1.below.trans (hb.mono h1.below.size)⟩, h2⟩, fun k e => ⟨(h.lt k e).1, Nat.lt_of_lt_of_le (h.lt k e).2 hb.size⟩⟩
theorem OwnE.below (h : OwnE w0 w f S m) : Below w0.heap.size w0 w := by
  obtain ⟨c, F, h1, h2⟩ := h.out
  exact h1.below
theorem turn_low {R : Nat → Prop} (hb : Below w0.heap.size w0 w) (ht : Turn R w w') (hR : ∀ k, R k → w0.heap.size ≤ k) : Below w0.heap.size w0 w' := hb.trans (ht.below hR hb.size)
/-- Files in the place of the old ones. -/
def Steps (w0 w : World) (f : Nat) (S' : FsM) (m : Nat → Prop) (w' : World) : Prop := ∃ m', OwnE w0 w' f S' m' ∧ Stp m w m' w'
theorem Own.step (h : Own w0 c F w f S) (hm : ∀ k, c k ≠ 0 → m k) (hl : ∀ k, m k → w0.heap.size ≤ k ∧ k < w.heap.size) (hn : FsNew c w f S' w') : Steps w0 w f S' m w' := by
  obtain ⟨c', F', h1, h2⟩ := hn.out
  have hs := h.below.size
  have hs' := hn.turn.size
  have hlow : ∀ k, k < w0.heap.size → c' k = 0 := fun k hk => h2 k (by omega) (h.low k hk)
  have ht : Turn m w w' := hn.turn.mono fun k _ e => hm k e
  refine ⟨fun k => (c' k ≠ 0 ∨ m k) ∧ w0.heap.size ≤ k, ⟨⟨c', F', ⟨h1, hlow, turn_low h.below ht fun k e => (hl k e).1⟩, fun k e => ⟨.inl e, ?_⟩⟩, fun k e => ⟨e.2, ?_⟩⟩, ⟨ht, fun k e => ?_⟩⟩
  · by_cases hk : k < w0.heap.size
    · exact absurd (hlow k hk) e
    · omega
  · rcases e.1 with e | e
    · exact h1.lt k e
    · have := (hl k e).2; omega
  · rcases e.1 with e1 | e1
    · by_cases hk : k < w.heap.size
      · by_cases e2 : c k = 0
        · exact absurd (h2 k hk e2) e1
        · exact .inl (hm k e2)
      · exact .inr ⟨by omega, h1.lt k e1⟩
    · exact .inl e1
/-- Two of them, apart. -/
structure Pair2 (w0 w : World) (f g : Nat) (S T : FsM) (m : Nat → Prop) : Prop where
  out : ∃ c F c2 G, Own w0 c F w f S ∧ Own w0 c2 G w g T ∧ (∀ k, c k = 0 ∨ c2 k = 0) ∧ ∀ k, c k ≠ 0 ∨ c2 k ≠ 0 → m k
  lt : ∀ k, m k → w0.heap.size ≤ k ∧ k < w.heap.size
def Steps2 (w0 w : World) (f g : Nat) (S' T : FsM) (m : Nat → Prop) (w' : World) : Prop := ∃ m', Pair2 w0 w' f g S' T m' ∧ Stp m w m' w'
theorem pair_left (h : Own w0 c F w f S) (k : Own w0 c2 G w g T) (hd : ∀ k, c k = 0 ∨ c2 k = 0) (hm : ∀ k, c k ≠ 0 ∨ c2 k ≠ 0 → m k) (hl : ∀ k, m k → w0.heap.size ≤ k ∧ k < w.heap.size) (hn : FsNew c w f S' w') : Steps2 w0 w f g S' T m w' := by
  obtain ⟨c', F', h1, h2⟩ := hn.out
  have hs := h.below.size
  have hs' := hn.turn.size
  have hlow : ∀ k, k < w0.heap.size → c' k = 0 := fun k hk => h2 k (by omega) (h.low k hk)
  have ht : Turn m w w' := hn.turn.mono fun k _ e => hm k (.inl e)
  refine ⟨fun k => (c' k ≠ 0 ∨ m k) ∧ w0.heap.size ≤ k, ⟨⟨c', F', c2, G, ⟨h1, hlow, turn_low h.below ht fun k e => (hl k e).1⟩, ⟨k.at_.turn hn.turn (fun j e => (hd j).resolve_left e), k.low, turn_low k.below ht fun k e => (hl k e).1⟩, fun j => ?_, fun j e => ⟨?_, ?_⟩⟩, fun k e => ⟨e.2, ?_⟩⟩, ⟨ht, fun k e => ?_⟩⟩
  · by_cases e : c2 j = 0
    · exact .inr e
    · exact .inl (h2 j (k.at_.lt j e) ((hd j).resolve_right e))
  · rcases e with e | e
    · exact .inl e
    · exact .inr (hm j (.inr e))
  · by_cases hk : j < w0.heap.size
    · rcases e with e | e
      · exact absurd (hlow j hk) e
      · exact absurd (k.low j hk) e
    · omega
  · rcases e.1 with e | e
    · exact h1.lt k e
    · have := (hl k e).2; omega
  · rcases e.1 with e1 | e1
    · by_cases hk : k < w.heap.size
      · by_cases e2 : c k = 0
        · exact absurd (h2 k hk e2) e1
        · exact .inl (hm k (.inl e2))
      · exact .inr ⟨by omega, h1.lt k e1⟩
    · exact .inl e1
theorem Pair2.swap (h : Pair2 w0 w f g S T m) : Pair2 w0 w g f T S m := by
  obtain ⟨c, F, c2, G, h1, h2, h3, h4⟩ := h.out
  exact ⟨⟨c2, G, c, F, h2, h1, fun k => (h3 k).symm, fun k e => h4 k e.symm⟩, h.lt⟩
theorem Pair2.left (h : Pair2 w0 w f g S T m) : OwnE w0 w f S m := by
  obtain ⟨c, F, c2, G, h1, h2, h3, h4⟩ := h.out
  exact ⟨⟨c, F, h1, fun k e => h4 k (.inl e)⟩, h.lt⟩
theorem Pair2.right (h : Pair2 w0 w f g S T m) : OwnE w0 w g T m := h.swap.left
theorem Pair2.newB (h : Pair2 w0 w f g S T m) (hb : Below w.heap.size w w') : Pair2 w0 w' f g S T m := by
  obtain ⟨c, F, c2, G, h1, h2, h3, h4⟩ := h.out
  have hh : ∀ {c F : Nat → Nat} {f : Nat} {S : FsM}, Own w0 c F w f S → Own w0 c F w' f S := fun h => ⟨h.at_.below hb, h.low, h.below.trans (hb.mono h.below.size)⟩
  exact ⟨⟨c, F, c2, G, hh h1, hh h2, h3, h4⟩, fun k e => ⟨(h.lt k e).1, Nat.lt_of_lt_of_le (h.lt k e).2 hb.size⟩⟩
theorem Stp.newB (h : Stp m w m' w') {w2 : World} (hb : Below w'.heap.size w' w2) : Stp m w m' w2 := ⟨h.turn.trans (Turn.of_new hb), fun k e => by
  rcases h.new k e with e | e
  · exact .inl e
  · have := hb.size; exact .inr (by omega)⟩
theorem Stp.trans (h : Stp m w m' w') {m2 : Nat → Prop} {w2 : World} (k : Stp m' w' m2 w2) : Stp m w m2 w2 := by
  have h1 := h.turn.size
  have h2 := k.turn.size
  refine ⟨h.turn.trans' k.turn fun j hj e => ?_, fun j e => ?_⟩
  · rcases h.new j e with e | e
    · exact e
    · omega
  · rcases k.new j e with e | e
    · rcases h.new j e with e | e
      · exact .inl e
      · exact .inr (by omega)
    · exact .inr (by omega)
theorem Stp.before (h : Stp m w m' w') {w2 : World} (hb : Below w2.heap.size w2 w) (_ : ∀ k, m k → k < w2.heap.size) : Stp m w2 m' w' := ⟨(Turn.of_new hb).trans h.turn, fun k e => by
  rcases h.new k e with e | e
  · exact .inl e
  · have := hb.size; exact .inr (by omega)⟩

theorem new_own (n : Int) (w : World) : Calls Tryz.prog 9 #[.int .i64 n] w fun e w' => ∃ f m, e = .returned (.pointer (some ⟨f, 0, none⟩)) ∧ OwnE w w' f (FsM.new (min (max n 0) 16777216).toNat) m := by
  refine (new_any n w).mono ?_
  rintro e w' ⟨f, c, F, rfl, h1, h2, h3⟩
  exact ⟨f, _, rfl, OwnE.of ⟨h1, h2, h3⟩⟩
theorem create_own {N : Nat} (h0 : OwnE w0 w f S m) (hO : FsOk N S) (hN : N ≤ 9000) (p : Txt) (hp : p.length ≤ 1000000) :
    Calls Tryz.prog 22 #[.pointer (some ⟨f, 0, none⟩), .string (strOf p)] w fun e w' => e = .returned (.int .i64 ((S.go (·.create p)).2 : Int)) ∧ Steps w0 w f (S.go (·.create p)).1 m w' := by
  obtain ⟨c, F, h, hm⟩ := h0.out
  refine (create_any h.at_ hO hN p hp).mono ?_
  rintro e w' ⟨rfl, h1⟩
  exact ⟨rfl, h.step hm h0.lt h1⟩
theorem sync_own {N : Nat} (h0 : OwnE w0 w f S m) (hO : FsOk N S) (p : Txt) :
    Calls Tryz.prog 24 #[.pointer (some ⟨f, 0, none⟩), .string (strOf p)] w fun e w' => e = .returned (.int .i64 ((S.go (·.sync p)).2 : Int)) ∧ Steps w0 w f (S.go (·.sync p)).1 m w' := by
  obtain ⟨c, F, h, hm⟩ := h0.out
  refine (sync_any h.at_ hO p).mono ?_
  rintro e w' ⟨rfl, h1⟩
  exact ⟨rfl, h.step hm h0.lt h1⟩
/-- Bytes that are not the files'. -/
theorem append_own {N : Nat} (h0 : OwnE w0 w f S m) (hO : FsOk N S) (hN : N ≤ 9000) (p : Txt) (Ab : Option Addr) (lb cb : Nat) (b : Txt) (hb : b.length = lb) (hbc : lb ≤ cb) (hlb : lb ≤ 1000000000) (hs : Hold m w Ab (bv b)) :
    Calls Tryz.prog 23 #[.pointer (some ⟨f, 0, none⟩), .string (strOf p), .slice Ab lb cb] w fun e w' => e = .returned (.int .i64 ((S.go (·.append p b)).2 : Int)) ∧ Steps w0 w f (S.go (·.append p b)).1 m w' := by
  obtain ⟨c, F, h, hm⟩ := h0.out
  refine (append_any h.at_ hO hN p Ab lb cb b hb hbc hlb _ hs.out fun k hk => ⟨hk.1, ?_⟩).mono ?_
  · by_cases e : c k = 0
    · exact e
    · exact absurd (hm k e) hk.2
  · rintro e w' ⟨rfl, h1⟩
    exact ⟨rfl, h.step hm h0.lt h1⟩
/-- .. that were just laid. -/
theorem sees_mark (w : World) (l : List UInt8) (t : TypeId) (m : Nat × Nat) (cs : Array Value) (h : cs = (bv l).toArray) : Sees (w.alloc (.cells cs t m)) (w.heap.size + 1) (some ⟨w.heap.size, 0, none⟩) (bv l) := by
  subst h
  refine ⟨.inr ⟨_, rfl, by simp, fun j u hu => ?_⟩⟩
  rw [Addr.add_lit, World.cell?_alloc_mark]
  simpa using hu
theorem run_const (w : World) (b : Nat) (hb : w.heap.size = b) (C : Array Value) (n c : Nat) :
    (convert 32 32 (.slice (some ⟨b, 0, none⟩) n c)).run Tryz.prog (w.alloc (.cells C 5)) = .ok (.slice (some ⟨b, 0, none⟩) n c) (w.alloc (.cells C 5 (C.size, C.size + 1))) := by
  subst hb
  exact Lib.run_convert_bytes_const (P := Tryz.prog) w 32 5 C n c Tryz.underlying32 Tryz.underlying5
theorem append_lit {N : Nat} (h0 : OwnE w0 w f S m) (hO : FsOk N S) (hN : N ≤ 9000) (p : Txt) (n : Nat) (b : Txt) (hb : b.length = n) (hlb : n ≤ 1000000000) (cs : Array Value) (t : TypeId) (mk : Nat × Nat) (hcs : cs = (bv b).toArray) :
    Calls Tryz.prog 23 #[.pointer (some ⟨f, 0, none⟩), .string (strOf p), .slice (some ⟨w.heap.size, 0, none⟩) n n] (w.alloc (.cells cs t mk)) fun e w' => e = .returned (.int .i64 ((S.go (·.append p b)).2 : Int)) ∧ Steps w0 w f (S.go (·.append p b)).1 m w' := by
  have hb1 : Below w.heap.size w (w.alloc (.cells cs t mk)) := (Below.refl _ w).alloc (Nat.le_refl _) _
  have hs := sees_mark w b t mk cs hcs
  have hsm : Hold m (w.alloc (.cells cs t mk)) (some ⟨w.heap.size, 0, none⟩) (bv b) := by
    rcases hs.out with e | ⟨ad, e1, -, e3⟩
    · exact ⟨⟨.inl e⟩⟩
    · injection e1 with e1
      subst e1
      exact ⟨⟨.inr ⟨_, rfl, ⟨by simp, fun e => by have := (h0.lt _ e).2; simp at this⟩, e3⟩⟩⟩
  refine (append_own (h0.newB hb1) hO hN p (some ⟨w.heap.size, 0, none⟩) n n b hb (Nat.le_refl _) hlb hsm).mono ?_
  rintro e w' ⟨rfl, m', h1, h2⟩
  exact ⟨rfl, m', h1, h2.before hb1 fun k e => (h0.lt k e).2⟩
theorem pending_own (h0 : OwnE w0 w f S m) : Calls Tryz.prog 17 #[.pointer (some ⟨f, 0, none⟩)] w fun e w' => e = .returned (.int .i64 (S.chg.length : Int)) ∧ w = w' := by
  obtain ⟨c, F, h, hm⟩ := h0.out
  exact pending_any h.at_
theorem clone_own {N : Nat} (h0 : OwnE w0 w f S m) (hO : FsOk N S) (hN : N ≤ 10000) : Calls Tryz.prog 31 #[.pointer (some ⟨f, 0, none⟩)] w fun e w' => ∃ g, e = .returned (.pointer (some ⟨g, 0, none⟩)) ∧ Steps2 w0 w f g S S m w' := by
  obtain ⟨c, F, h, hm⟩ := h0.out
  refine (clone_any h.at_ hO hN).mono ?_
  rintro e w' ⟨g, c2, G, rfl, h1, h2, h3⟩
  have hs := h.below.size
  have hs3 := h3.size
  refine ⟨g, rfl, fun k => m k ∨ c2 k ≠ 0, ⟨⟨c, F, c2, G, ⟨h.at_.below h3, h.low, h.below.trans (h3.mono hs)⟩, ⟨h1, fun k hk => h2 k (by omega), h.below.trans (h3.mono hs)⟩, fun k => ?_, fun k e => ?_⟩, fun k e => ?_⟩, ⟨Turn.of_new h3, fun k e => ?_⟩⟩
  · by_cases e : c k = 0
    · exact .inl e
    · exact .inr (h2 k (h.at_.lt k e))
  · rcases e with e | e
    · exact .inl (hm k e)
    · exact .inr e
  · rcases e with e | e
    · have := h0.lt k e; omega
    · refine ⟨?_, h1.lt k e⟩
      by_cases hk : k < w.heap.size
      · exact absurd (h2 k hk) e
      · omega
  · rcases e with e | e
    · exact .inl e
    · by_cases hk : k < w.heap.size
      · exact absurd (h2 k hk) e
      · exact .inr ⟨by omega, h1.lt k e⟩
theorem crash_left {N : Nat} (h : Pair2 w0 w f g S T m) (hO : FsOk N S) (hN : N ≤ 10000) (a b : Int) : Calls Tryz.prog 26 #[.pointer (some ⟨f, 0, none⟩), .int .i64 a, .int .i64 b] w fun e w' => (∃ v, e = .returned v) ∧ Steps2 w0 w f g (S.crash a.toNat b.toNat) T m w' := by
  obtain ⟨c, F, c2, G, h1, h2, h3, h5⟩ := h.out
  refine (crash_any h1.at_ hO hN a b).mono ?_
  rintro e w' ⟨hv, h4⟩
  exact ⟨hv, pair_left h1 h2 h3 h5 h.lt h4⟩
theorem crash_own {N : Nat} (h0 : OwnE w0 w f S m) (hO : FsOk N S) (hN : N ≤ 10000) (a b : Int) : Calls Tryz.prog 26 #[.pointer (some ⟨f, 0, none⟩), .int .i64 a, .int .i64 b] w fun e w' => (∃ v, e = .returned v) ∧ Steps w0 w f (S.crash a.toNat b.toNat) m w' := by
  obtain ⟨c, F, h, hm⟩ := h0.out
  refine (crash_any h.at_ hO hN a b).mono ?_
  rintro e w' ⟨hv, h4⟩
  exact ⟨hv, h.step hm h0.lt h4⟩
theorem read_own {N : Nat} (h0 : OwnE w0 w f S m) (hO : FsOk N S) (p : Txt) : Calls Tryz.prog 13 #[.pointer (some ⟨f, 0, none⟩), .string (strOf p)] w (ReadIs w (S.read p)) := by
  obtain ⟨c, F, h, hm⟩ := h0.out
  exact read_any h.at_ hO p
theorem list_own {N : Nat} (h0 : OwnE w0 w f S m) (hO : FsOk N S) (hN : N ≤ 10000) (p : Txt) : Calls Tryz.prog 19 #[.pointer (some ⟨f, 0, none⟩), .string (strOf p)] w (TextsIs w (S.list p)) := by
  obtain ⟨c, F, h, hm⟩ := h0.out
  exact list_any h.at_ hO hN p
theorem used_own {N : Nat} (h0 : OwnE w0 w f S m) (hO : FsOk N S) (hN : N ≤ 100000) : Calls Tryz.prog 15 #[.pointer (some ⟨f, 0, none⟩)] w fun e w' => e = .returned (.int .i64 (S.used : Int)) ∧ Below w.heap.size w w' := by
  obtain ⟨c, F, h, hm⟩ := h0.out
  exact used_any h.at_ hO hN
end

def aw1 : FsM := ⟨100, [⟨[], 0⟩], [([97], 0)], [], [[([97], some 0)]], 0⟩
def aw2 : FsM := ⟨100, [⟨[120, 121, 122], 0⟩], [([97], 0)], [], [[([97], some 0)]], 0⟩
def aw3 : FsM := ⟨100, [⟨[120, 121, 122], 3⟩], [([97], 0)], [], [[([97], some 0)]], 0⟩
def aw4 : FsM := ⟨100, [⟨[120, 121, 122, 117, 118], 3⟩], [([97], 0)], [], [[([97], some 0)]], 0⟩
def aw5 : FsM := ⟨100, [⟨[120, 121, 122, 117], 4⟩], [([97], 0)], [([97], 0)], [], 0⟩
theorem aw_1 : (FsM.new 100).go (·.create [97]) = (aw1, 0) := by kernel_rfl
theorem aw_2 : aw1.go (·.append [97] [120, 121, 122]) = (aw2, 0) := by kernel_rfl
theorem aw_3 : aw2.go (·.sync [97]) = (aw3, 0) := by kernel_rfl
theorem aw_4 : aw3.go (·.append [97] [117, 118]) = (aw4, 0) := by kernel_rfl
theorem aw_5 : aw4.crash 1 1 = aw5 := by kernel_rfl
theorem aw_6 : aw5.read [97] = ([120, 121, 122, 117], 0) := by kernel_rfl
theorem aw_7 : (aw4.crash 0 9).list [] = [] := by kernel_rfl
theorem aw_8 : aw5.used = 4 := by kernel_rfl
theorem aw_ok0 : FsOk 0 (FsM.new 100) := FsOk.new (by omega)
theorem aw_ok1 : FsOk 4 aw1 := by have := aw_ok0.create [97]; exact this
theorem go_ok {N M : Nat} {S : FsM} (h : FsOk N S) {act : FsM → FsM × Nat} (ha : ∀ T, FsOk N T → FsOk M (act T).1) (hNM : N ≤ M) : FsOk M (S.go act).1 := by
  unfold FsM.go
  split
  · exact h.spent.mono hNM
  · exact ha _ h.spent
theorem aw_ok2 : FsOk 4 aw2 := by have := go_ok aw_ok1 (act := (·.append [97] [120, 121, 122])) (fun T h => h.append _ _) (Nat.le_refl _); rwa [aw_2] at this
theorem aw_ok3 : FsOk 4 aw3 := by have := go_ok aw_ok2 (act := (·.sync [97])) (fun T h => h.sync _) (Nat.le_refl _); rwa [aw_3] at this
theorem aw_ok4 : FsOk 4 aw4 := by have := go_ok aw_ok3 (act := (·.append [97] [117, 118])) (fun T h => h.append _ _) (Nat.le_refl _); rwa [aw_4] at this
theorem aw_ok5 : FsOk 4 aw5 := by have := aw_ok4.crash 1 1; rwa [aw_5] at this
theorem aw_ok6 : FsOk 4 (aw4.crash 0 9) := aw_ok4.crash 0 9

set_option maxRecDepth 100000 in
set_option maxHeartbeats 1600000 in
theorem awake_any (w : World) : Calls Tryz.prog 8 #[] w (IsTrue w) := by
  have kc := run_const
  have h0 := Lib.hid (new_own 100 w)
  go_enter Tryz.func8, Tryz.ntmps8
  go_wp2_with fail
  refine h0.out.mono ?_
  rintro e w1 ⟨f, m1, rfl, o1⟩
  have o1' : OwnE w w1 f (FsM.new 100) m1 := o1
  have k1 := create_own o1' aw_ok0 (by omega) [97] (by simp)
  rw [aw_1] at k1
  have K1 := Lib.hid k1
  clear h0 o1 o1' k1
  go_wp2_with fail
  refine K1.out.mono ?_
  rintro e w2 ⟨rfl, m2, o2, -⟩
  have k2 := append_lit o2 aw_ok1 (by omega) [97] 3 [120, 121, 122] rfl (by omega) #[.int .u8 120, .int .u8 121, .int .u8 122] 5 (3, 4) (by simp [bv])
  rw [aw_2] at k2
  have K2 := Lib.hid k2
  clear K1 o2 k2
  go_wp2_with fail
  refine K2.out.mono ?_
  rintro e w3 ⟨rfl, m3, o3, -⟩
  have k3 := sync_own o3 aw_ok2 [97]
  rw [aw_3] at k3
  have K3 := Lib.hid k3
  clear K2 o3 k3
  go_wp2_with fail
  refine K3.out.mono ?_
  rintro e w4 ⟨rfl, m4, o4, -⟩
  have k4 := append_lit o4 aw_ok3 (by omega) [97] 2 [117, 118] rfl (by omega) #[.int .u8 117, .int .u8 118] 5 (2, 3) (by simp [bv])
  rw [aw_4] at k4
  have K4 := Lib.hid k4
  clear K3 o4 k4
  go_wp2_with fail
  refine K4.out.mono ?_
  rintro e w5 ⟨rfl, m5, o5, -⟩
  have k5 := pending_own o5
  rw [show aw4.chg.length = 1 from rfl] at k5
  have K5 := Lib.hid k5
  clear k5
  have O5 := Lib.hid o5
  clear K4 o5
  go_wp2_with fail
  refine K5.out.mono ?_
  rintro e w6 ⟨rfl, rfl⟩
  have K6 := Lib.hid (clone_own O5.out aw_ok4 (by omega))
  clear K5 O5
  go_wp2_with fail
  refine K6.out.mono ?_
  rintro e w7 ⟨g, rfl, m7, o7, -⟩
  have k7 := crash_left o7 aw_ok4 (by omega) 1 1
  have e7 : aw4.crash (1 : Int).toNat (1 : Int).toNat = aw5 := aw_5
  rw [e7] at k7
  have K7 := Lib.hid k7
  clear K6 o7 k7 e7
  go_wp2_with fail
  refine K7.out.mono ?_
  rintro e w8 ⟨⟨v8, rfl⟩, m8, o8, -⟩
  have k8 := read_own o8.left aw_ok5 [97]
  rw [aw_6] at k8
  have K8 := Lib.hid k8
  have O8 := Lib.hid o8
  clear K7 o8 k8
  go_wp2_with fail
  refine K8.out.mono ?_
  rintro e w9 ⟨v9, rfl, hown9, hb9⟩
  obtain ⟨A9, c9, rfl, hc9, -, -, -⟩ := hown9.open_
  have hh9 := Hold.of_new (m := m8) hown9 fun k e => (O8.out.lt k e).2
  have k9 := crash_left (O8.out.newB hb9).swap aw_ok4 (by omega) 0 9
  have K9 := Lib.hid k9
  have HS9 := Lib.hid hh9
  clear K8 O8 hown9 hb9 k9 hh9 hc9
  go_wp2_with fail
  refine K9.out.mono ?_
  rintro e w10 ⟨⟨v10, rfl⟩, m10, o10, st10⟩
  have k10 := list_own o10.left aw_ok6 (by omega) []
  have e10 : (aw4.crash (0 : Int).toNat (9 : Int).toNat).list [] = [] := aw_7
  have k10' : Calls Tryz.prog 19 #[.pointer (some ⟨g, 0, none⟩), .string (strOf [])] w10 (TextsIs w10 []) := by rw [← e10]; exact k10
  have K10 := Lib.hid k10'
  have O10 := Lib.hid o10
  have HS10 := Lib.hid (HS9.out.step st10)
  clear K9 o10 k10 k10' e10 st10
  go_wp2_with fail
  refine K10.out.mono ?_
  rintro e w11 ⟨v11, rfl, hown11, hb11⟩
  obtain ⟨A11, c11, rfl, -, -⟩ := row_open hown11
  have hcv := run_str w11 _ A9 4 c9 [120, 121, 122, 117] (HS10.out.newB hb11).sees rfl
  have hst := strOf_toList [120, 121, 122, 117]
  have O11 := Lib.hid (O10.out.newB hb11).right
  have K11 := Lib.hid (used_own O11.out aw_ok5 (by omega))
  rw [aw_8] at K11
  have HB11 := Lib.hid (O10.out.left.below.trans (hb11.mono O10.out.left.below.size))
  clear K10 O10 hown11 hb11 HS9 HS10
  go_wp2_with fail
  refine K11.out.mono ?_
  rintro e w12 ⟨rfl, hb12⟩
  have k12 := pending_own (O11.out.newB hb12)
  rw [show aw5.chg.length = 0 from rfl] at k12
  have K12 := Lib.hid k12
  clear k12
  have HB12 := Lib.hid (HB11.out.trans (hb12.mono HB11.out.size))
  clear K11 O11 hb12 hcv hst
  go_wp2_with fail
  refine K12.out.mono ?_
  rintro e w13 ⟨rfl, rfl⟩
  clear K12
  go_wp2
  go_ret
  exact ⟨rfl, HB12.out⟩
end Go.Proofs.YteidkmiladkoiaaGreatDoor

/-
  More calls over one's own files.
-/
namespace Go.Proofs.YteidkmiladkoiaaGreatDoor
open Go.RowKit

section
variable {w0 w w' : World} {f g : Nat} {S T : FsM} {m : Nat → Prop}
theorem rename_own {N : Nat} (h0 : OwnE w0 w f S m) (hO : FsOk N S) (hN : N ≤ 9000) (p q : Txt) (hq : q.length ≤ 1000000) :
    Calls Tryz.prog 30 #[.pointer (some ⟨f, 0, none⟩), .string (strOf p), .string (strOf q)] w fun e w' => e = .returned (.int .i64 ((S.go (·.rename p q)).2 : Int)) ∧ Steps w0 w f (S.go (·.rename p q)).1 m w' := by
  obtain ⟨c, F, h, hm⟩ := h0.out
  refine (rename_any h.at_ hO hN p q hq).mono ?_
  rintro e w' ⟨rfl, h1⟩
  exact ⟨rfl, h.step hm h0.lt h1⟩
theorem link_own {N : Nat} (h0 : OwnE w0 w f S m) (hO : FsOk N S) (hN : N ≤ 9000) (p q : Txt) (hq : q.length ≤ 1000000) :
    Calls Tryz.prog 28 #[.pointer (some ⟨f, 0, none⟩), .string (strOf p), .string (strOf q)] w fun e w' => e = .returned (.int .i64 ((S.go (·.link p q)).2 : Int)) ∧ Steps w0 w f (S.go (·.link p q)).1 m w' := by
  obtain ⟨c, F, h, hm⟩ := h0.out
  refine (link_any h.at_ hO hN p q hq).mono ?_
  rintro e w' ⟨rfl, h1⟩
  exact ⟨rfl, h.step hm h0.lt h1⟩
theorem remove_own {N : Nat} (h0 : OwnE w0 w f S m) (hO : FsOk N S) (hN : N ≤ 9000) (p : Txt) :
    Calls Tryz.prog 27 #[.pointer (some ⟨f, 0, none⟩), .string (strOf p)] w fun e w' => e = .returned (.int .i64 ((S.go (·.remove p)).2 : Int)) ∧ Steps w0 w f (S.go (·.remove p)).1 m w' := by
  obtain ⟨c, F, h, hm⟩ := h0.out
  refine (remove_any h.at_ hO hN p).mono ?_
  rintro e w' ⟨rfl, h1⟩
  exact ⟨rfl, h.step hm h0.lt h1⟩
theorem syncDir_own {N : Nat} (h0 : OwnE w0 w f S m) (hO : FsOk N S) :
    Calls Tryz.prog 25 #[.pointer (some ⟨f, 0, none⟩)] w fun e w' => e = .returned (.int .i64 ((S.go fun S => (S.settle, 0)).2 : Int)) ∧ Steps w0 w f (S.go fun S => (S.settle, 0)).1 m w' := by
  obtain ⟨c, F, h, hm⟩ := h0.out
  refine (syncDir_any h.at_ hO).mono ?_
  rintro e w' ⟨rfl, h1⟩
  exact ⟨rfl, h.step hm h0.lt h1⟩
theorem fuse_own (h0 : OwnE w0 w f S m) (n : Int) : Calls Tryz.prog 29 #[.pointer (some ⟨f, 0, none⟩), .int .i64 n] w fun e w' => (∃ v, e = .returned v) ∧ Steps w0 w f (S.setFuse (min n.toNat 1099511627776 + 1)) m w' := by
  obtain ⟨c, F, h, hm⟩ := h0.out
  refine (fuse_any h.at_ n).mono ?_
  rintro e w' ⟨hv, h1, h2⟩
  have hcf := h.at_.col
  exact ⟨hv, h.step hm h0.lt ⟨⟨c, F, h1, fun _ _ e => e⟩, h2.mono fun k _ e => by rw [e, hcf]; decide⟩⟩
end
/-- Bytes that are all 0. -/
theorem bv_zeros (n : Nat) : bv (List.replicate n 0) = List.replicate n (.int .u8 0) := by simp [bv]
set_option maxRecDepth 100000 in
theorem append_nil (s : ByteArray) (A : Option Addr) (n c : Nat) (w : World) : Calls Tryz.prog 23 #[.pointer none, .string s, .slice A n c] w fun e w' => e = .returned (.int .i64 1) ∧ w = w' := by
  go_enter Tryz.func23, Tryz.ntmps23
  go_wp2
  go_ret
  exact ⟨rfl, rfl⟩
end Go.Proofs.YteidkmiladkoiaaGreatDoor

/-
  Files that a law makes: plain. No program in sight.
-/
namespace Go.Proofs.YteidkmiladkoiaaGreatDoor

def nmL : Txt := [108, 105, 115, 116]
def nmT : Txt := [108, 105, 115, 116, 46, 116, 109, 112]
def sw1 : FsM := ⟨100000, [⟨[], 0⟩], [(nmL, 0)], [], [[(nmL, some 0)]], 0⟩
def sw2 (a : Txt) : FsM := ⟨100000, [⟨a, 0⟩], [(nmL, 0)], [], [[(nmL, some 0)]], 0⟩
def sw3 (a : Txt) : FsM := ⟨100000, [⟨a, a.length⟩], [(nmL, 0)], [], [[(nmL, some 0)]], 0⟩
def sw4 (a : Txt) : FsM := ⟨100000, [⟨a, a.length⟩], [(nmL, 0)], [(nmL, 0)], [], 0⟩
def sw5 (a : Txt) : FsM := ⟨100000, [⟨a, a.length⟩, ⟨[], 0⟩], [(nmL, 0), (nmT, 1)], [(nmL, 0)], [[(nmT, some 1)]], 0⟩
def sw6 (a b : Txt) : FsM := ⟨100000, [⟨a, a.length⟩, ⟨b, 0⟩], [(nmL, 0), (nmT, 1)], [(nmL, 0)], [[(nmT, some 1)]], 0⟩
def sw7 (a b : Txt) : FsM := ⟨100000, [⟨a, a.length⟩, ⟨b, b.length⟩], [(nmL, 0), (nmT, 1)], [(nmL, 0)], [[(nmT, some 1)]], 0⟩
def swC : List (List Giv) := [[(nmT, some 1)], [(nmT, none), (nmL, some 1)]]
def sw8 (a b : Txt) : FsM := ⟨100000, [⟨a, a.length⟩, ⟨b, b.length⟩], [(nmL, 1)], [(nmL, 0)], swC, 0⟩
theorem append_is {S : FsM} {p b : Txt} {n : Nat} (h0 : S.fuse = 0) (h1 : S.look p = some n) (h2 : (S.file n).b.length + b.length ≤ 1048576) (h3 : S.used + b.length ≤ S.room) : S.go (·.append p b) = (S.setFile n { S.file n with b := (S.file n).b ++ b }, 0) := by
  have h4 : S.spent = (S, false) := by unfold FsM.spent; rw [if_pos h0]
  unfold FsM.go
  rw [h4]
  rw [if_neg (by simp)]
  show S.append p b = _
  unfold FsM.append
  rw [h1]
  dsimp only
  rw [if_neg (by omega), if_neg (by omega)]
theorem swe_1 : (FsM.new 100000).go (·.create nmL) = (sw1, 0) := by kernel_rfl
theorem swe_2 {a : Txt} (h : a.length ≤ 200) : sw1.go (·.append nmL a) = (sw2 a, 0) := by
  have h1 : sw1.used = 0 := by kernel_rfl
  rw [append_is (n := 0) rfl (by kernel_rfl) (by show 0 + a.length ≤ _; omega) (by rw [h1]; show 0 + a.length ≤ 100000; omega)]
  rfl
theorem swe_3 (a : Txt) : (sw2 a).go (·.sync nmL) = (sw3 a, 0) := by kernel_rfl
theorem swe_4 (a : Txt) : (sw3 a).go (fun S => (S.settle, 0)) = (sw4 a, 0) := by kernel_rfl
theorem swe_5 (a : Txt) : (sw4 a).go (·.create nmT) = (sw5 a, 0) := by kernel_rfl
theorem swe_6 {a b : Txt} (h : a.length ≤ 200) (hb : b.length ≤ 200) : (sw5 a).go (·.append nmT b) = (sw6 a b, 0) := by
  have h1 : (sw5 a).used = a.length := by kernel_rfl
  rw [append_is (n := 1) rfl (by kernel_rfl) (by show 0 + b.length ≤ _; omega) (by rw [h1]; show a.length + b.length ≤ 100000; omega)]
  rfl
theorem swe_7 (a b : Txt) : (sw6 a b).go (·.sync nmT) = (sw7 a b, 0) := by kernel_rfl
theorem swe_8 (a b : Txt) : (sw7 a b).go (·.rename nmT nmL) = (sw8 a b, 0) := by kernel_rfl
theorem swe_9 (a b : Txt) : (sw8 a b).read nmL = (b, 0) := by kernel_rfl
theorem cut_full (a : Txt) (n : Nat) : FsM.cut ⟨a, a.length⟩ n = ⟨a, a.length⟩ := by simp [FsM.cut]
def sw9 (a b : Txt) (d : Dir) : FsM := ⟨100000, [⟨a, a.length⟩, ⟨b, b.length⟩], d, d, [], 0⟩
theorem sw_crash (a b : Txt) (n k : Nat) : (sw8 a b).crash n k = sw9 a b ((swC.take n).foldl againD [(nmL, 0)]) := by
  show FsM.mk 100000 [FsM.cut ⟨a, a.length⟩ k, FsM.cut ⟨b, b.length⟩ k] _ _ [] 0 = _
  rw [cut_full, cut_full]
  rfl
/-- Behind a crash: which bytes; whether the other name is there. -/
theorem swe_10 (a b : Txt) (N : Int) (k : Nat) : ∃ (x : Txt) (e : Nat) (y : Txt), ((sw8 a b).crash N.toNat k).read nmL = (x, 0) ∧ ((sw8 a b).crash N.toNat k).read nmT = (y, e) ∧
    ((2 ≤ N ∧ x = b ∧ e = 60) ∨ (N = 1 ∧ x = a ∧ e = 0) ∨ (N < 1 ∧ x = a ∧ e = 60)) := by
  rw [sw_crash]
  by_cases h2 : 2 ≤ N
  · have e : swC.take N.toNat = swC := List.take_of_length_le (by show 2 ≤ _; omega)
    rw [e]
    exact ⟨b, 60, [], by kernel_rfl, by kernel_rfl, .inl ⟨h2, rfl, rfl⟩⟩
  · by_cases h1 : N = 1
    · subst h1
      exact ⟨a, 0, b, by kernel_rfl, by kernel_rfl, .inr (.inl ⟨rfl, rfl, rfl⟩)⟩
    · have e : N.toNat = 0 := by omega
      rw [e]
      exact ⟨a, 60, [], by kernel_rfl, by kernel_rfl, .inr (.inr ⟨by omega, rfl, rfl⟩)⟩
theorem swo_0 : FsOk 0 (FsM.new 100000) := FsOk.new (by omega)
theorem swo_1 : FsOk 4 sw1 := by have := go_ok swo_0 (act := (·.create nmL)) (M := 4) (fun T h => h.create _) (by omega); rwa [swe_1] at this
theorem swo_2 {a : Txt} (h : a.length ≤ 200) : FsOk 4 (sw2 a) := by have := go_ok swo_1 (act := (·.append nmL a)) (fun T h => h.append _ _) (Nat.le_refl _); rwa [swe_2 h] at this
theorem swo_3 {a : Txt} (h : a.length ≤ 200) : FsOk 4 (sw3 a) := by have := go_ok (swo_2 h) (act := (·.sync nmL)) (fun T h => h.sync _) (Nat.le_refl _); rwa [swe_3] at this
theorem swo_4 {a : Txt} (h : a.length ≤ 200) : FsOk 4 (sw4 a) := by have := go_ok (swo_3 h) (act := (fun S => (S.settle, 0))) (fun T h => h.settle) (Nat.le_refl _); rwa [swe_4] at this
theorem swo_5 {a : Txt} (h : a.length ≤ 200) : FsOk 8 (sw5 a) := by have := go_ok (swo_4 h) (act := (·.create nmT)) (M := 8) (fun T h => h.create _) (by omega); rwa [swe_5] at this
theorem swo_6 {a b : Txt} (h : a.length ≤ 200) (hb : b.length ≤ 200) : FsOk 8 (sw6 a b) := by have := go_ok (swo_5 h) (act := (·.append nmT b)) (fun T h => h.append _ _) (Nat.le_refl _); rwa [swe_6 h hb] at this
theorem swo_7 {a b : Txt} (h : a.length ≤ 200) (hb : b.length ≤ 200) : FsOk 8 (sw7 a b) := by have := go_ok (swo_6 h hb) (act := (·.sync nmT)) (fun T h => h.sync _) (Nat.le_refl _); rwa [swe_7] at this
theorem swo_8 {a b : Txt} (h : a.length ≤ 200) (hb : b.length ≤ 200) : FsOk 10 (sw8 a b) := by have := go_ok (swo_7 h hb) (act := (·.rename nmT nmL)) (M := 10) (fun T h => h.rename _ _) (by omega); rwa [swe_8] at this
theorem swo_9 {a b : Txt} (h : a.length ≤ 200) (hb : b.length ≤ 200) (n k : Nat) : FsOk 10 ((sw8 a b).crash n k) := (swo_8 h hb).crash n k
end Go.Proofs.YteidkmiladkoiaaGreatDoor
