/-
  Crash, walked.
-/
import Derived.Test.YteidkmiladkoiaaDoorSmList
namespace Go.Proofs.YteidkmiladkoiaaDoor
open Go.RowKit

theorem crash_nil (a b : Int) (w : World) : Calls Tryd.prog 15 #[.pointer none, .int .i64 a, .int .i64 b] w fun e w' => (∃ v, e = .returned v) ∧ w = w' := by
  go_enter Tryd.func15, Tryd.ntmps15
  go_wp2
  refine bodyPost_ret (results_none rfl _ _ _) rfl ?_
  exact ⟨⟨_, rfl⟩, rfl⟩

/-- A row of bytes, cut. -/
theorem OwnB.cut {w : World} {base n c : Nat} {A : Option Addr} {l : List UInt8} (h : OwnB w base (.slice A n c) l) (k : Nat) (hk : k ≤ l.length) : OwnB w base (.slice A k c) (l.take k) := by
  have hbl := bv_length l
  have hkl : (l.take k).length = k := by rw [List.length_take]; omega
  rcases h.2 with ⟨e, hn⟩ | ⟨g, cap, cur, e, hb, hh, hnc, hm, hcs, ht⟩
  · simp only [Value.slice.injEq] at e
    obtain ⟨rfl, rfl, rfl⟩ := e
    have h0 : k = 0 := by omega
    subst h0
    rw [List.take_zero]
    exact OwnB.nil _ _
  · injection e with e1 e2 e3
    subst e1 e2 e3
    refine ⟨by rw [bv_length]; omega, .inr ⟨g, c, cur, by rw [hkl], hb, hh, by omega, hm, hcs, ?_⟩⟩
    rw [hkl, bv_take, ← ht, List.take_take, Nat.mul_one, Nat.mul_one, Nat.min_eq_left (by omega)]

/-- The files on the way: those of ls are still to be cut. -/
structure Cuts (S2 S3 : FsM) (L ls : List Nat) (n : Nat) : Prop where
  room : S3.room = S2.room
  now : S3.now = S2.now
  kept : S3.kept = S2.kept
  chg : S3.chg = S2.chg
  fuse : S3.fuse = S2.fuse
  len : S3.files.length = S2.files.length
  file : ∀ i, i < S2.files.length → S3.file i = if i ∈ L ∧ i ∉ ls then FsM.cut (S2.file i) n else S2.file i

theorem cut_file (S : FsM) (n i : Nat) (hi : i < S.files.length) (T : FsM) (hT : T.files = S.files.map fun x => FsM.cut x n) : T.file i = FsM.cut (S.file i) n := by
  unfold FsM.file
  rw [hT, List.getD_eq_getElem?_getD, List.getD_eq_getElem?_getD, List.getElem?_map, List.getElem?_eq_getElem hi]
  rfl
theorem FsAt.same {c F : Nat → Nat} {w : World} {f : Nat} {S T : FsM} (h : FsAt c F w f S) (h1 : T.room = S.room) (h2 : T.now = S.now) (h3 : T.kept = S.kept) (h4 : T.chg = S.chg) (h5 : T.fuse = S.fuse) (h6 : ∀ i, S.reach i → T.file i = S.file i) : FsAt c F w f T := by
  obtain ⟨bn, bk, v, g1, g2, g3, g4, g5, g6⟩ := h.out
  refine ⟨⟨bn, bk, v, ?_, g2, g3, by rw [h2]; exact g4, by rw [h3]; exact g5, by rw [h4]; exact g6⟩, h.col, fun i hi => ?_, h.lt⟩
  · have : fsV T bn bk v = fsV S bn bk v := by unfold fsV; rw [h1, h5]
    rw [this]; exact g1
  · have hr : S.reach i := by
      unfold FsM.reach at hi ⊢
      rw [h2, h3, h4] at hi
      exact hi
    rw [h6 i hr]
    exact h.files i hr

set_option maxRecDepth 100000 in
set_option maxHeartbeats 3200000 in
theorem crash_any {N : Nat} {c F : Nat → Nat} {w : World} {f : Nat} {S : FsM} (h : FsAt c F w f S) (hO : FsOk N S) (hN : N ≤ 10000) (ch by_ : Int) :
    Calls Tryd.prog 15 #[.pointer (some ⟨f, 0, none⟩), .int .i64 ch, .int .i64 by_] w fun e w' => (∃ v, e = .returned v) ∧ FsNew c w f (S.crash ch.toNat by_.toNat) w' := by
  obtain ⟨bn, bk, v, h1, h2, h3, h4, h5, h6⟩ := h.out
  obtain ⟨vs, r1, r2, r3⟩ := h6.out
  obtain ⟨A0, n0, rfl, hn0, -⟩ := row_open r1
  have hcf := h.col
  have c1 : w.cell? ⟨f, 1, none⟩ = some (.map (some bn)) := h1.cell 1 rfl
  have c2 : w.cell? ⟨f, 2, none⟩ = some (.map (some bk)) := h1.cell 2 rfl
  have c3 : w.cell? ⟨f, 3, none⟩ = some (.slice A0 S.chg.length n0) := h1.cell 3 rfl
  have c4 : w.cell? ⟨f, 4, none⟩ = some (.int .i64 (S.fuse : Int)) := h1.cell 4 rfl
  have f4 := h1.frozen 4
  have f1 := h1.frozen 1
  obtain ⟨L, hL⟩ : ∃ L, S.chg.length = L := ⟨_, rfl⟩
  obtain ⟨m, hm⟩ : ∃ m : Nat, min ch.toNat L = m := ⟨_, rfl⟩
  have hmI : min (max ch 0) (L : Int) = (m : Int) := by omega
  rw [hL] at c3 hn0
  go_enter Tryd.func15, Tryd.ntmps15
  go_wp2
  go_region
  obtain ⟨w2, hw2⟩ : ∃ W, ((w.setCell ⟨f, 4, none⟩ (.int .i64 0)).setCell ⟨f, 1, none⟩ (.map (some bk))).drew = W := ⟨_, rfl⟩
  rw [hw2]
  have hB2 : Blk w2 f #[.int .i64 (S.room : Int), .map (some bk), .map (some bk), .slice A0 S.chg.length n0, .int .i64 0] 47 := by
    rw [← hw2]
    exact ⟨((h1.set 4 (.int .i64 0)).set 1 (.map (some bk))).out⟩
  have ht2 : Turn (fun k => k = f) w w2 := by
    rw [← hw2]
    exact ((Turn.setCell w ⟨f, 4, none⟩ _ (T := fun k => k = f) rfl).trans (Turn.setCell _ ⟨f, 1, none⟩ _ rfl)).trans (Turn.drew _)
  have hfk : bk ≠ f := fun e => by rw [e] at h3; omega
  have hbkl : bk < w.heap.size := h5.lt
  have HM2 := Lib.hid (h5.keep (ht2.block bk hbkl hfk))
  have hml : m ≤ S.chg.length := by omega
  have HML := Lib.hid hml
  have HX := Lib.hid (And.intro h (And.intro hO (And.intro r1 (And.intro r2 r3))))
  have HB2 := Lib.hid hB2
  have HT2 := Lib.hid ht2
  have H3 := Lib.hid h3
  have HMM := Lib.hid hm
  have HCF := Lib.hid hcf
  have HFK := Lib.hid hfk
  have HLL := Lib.hid hL
  have hLN : m ≤ 10000 := by have := hO.many; omega
  have hmn : (m : Int) ≤ (n0 : Int) := by omega
  clear h hO h1 h2 h3 h4 h5 h6 r1 r2 r3 c1 c2 c3 c4 f4 f1 hw2 hB2 ht2 hcf hfk hm hmI hL hml hn0
  go_wp2
  go_loopg [35] m (fun g i wr => ∃ k : Nat, k + g = m ∧ i = .int .i64 k ∧ MapIs wr bk (((S.chg.take k).foldl againD S.kept).map (pv F)) ∧ Turn (fun k => k = bk) w2 wr)
  case atStart => exact ⟨0, by omega, rfl, HM2.out, Turn.refl _ _⟩
  case round =>
    obtain ⟨k, hk, rfl, hmap, ht⟩ := hrel
    by_cases hlt : k < m
    · have hkl : k < S.chg.length := by have := HML.out; omega
      obtain ⟨h, hO, r1, r2, r3⟩ := HX.out
      obtain ⟨Ak, nk, e1, e2, e3⟩ := r3 k hkl
      have htt : Turn (fun k => k = f ∨ k = bk) w wr := (HT2.out.mono fun k _ e => .inl e).trans (ht.mono fun k _ e => .inr e)
      have hcr : ∀ k, c k = 5 ∨ c k = 4 → k < w.heap.size ∧ ¬ (k = f ∨ k = bk) := fun k hk => ⟨h.lt k (by omega), fun e => by
        rcases e with rfl | rfl
        · have := HCF.out; omega
        · have := H3.out; omega⟩
      have r1r := ownsRow_kept r1 (w' := wr) fun k e => htt.block k (hcr k (.inr (r2 k e))).1 (hcr k (.inr (r2 k e))).2
      obtain ⟨ad, hA, hc⟩ : ∃ ad, A0 = some ad ∧ wr.cell? (ad.add k) = some (.slice Ak (S.chg[k]).length nk) := by
        rcases (Sees.of_own r1r).out with e | ⟨ad, ea, -, ec⟩
        · rw [e] at e1; simp at e1
        · exact ⟨ad, ea, ec k _ e1⟩
      subst hA
      have hb1 : wr.cell? ⟨f, 1, none⟩ = some (.map (some bk)) := (HB2.out.keep (ht.block f HB2.out.lt (fun e => HFK.out e.symm))).cell 1 rfl
      have hl2 := hO.chg2 _ (List.getElem_mem hkl)
      have hD := Lib.hid (do_any (fun k => c k = 5) Ak (S.chg[k]).length nk bk F S.chg[k] ((S.chg.take k).foldl againD S.kept) wr rfl (by omega) (e3.keep (Kept.of_turn htt fun k e => hcr k (.inl e))) (fun k e => ⟨Nat.lt_of_lt_of_le (hcr k (.inl e)).1 htt.size, fun e4 => (hcr k (.inl e)).2 (.inr e4)⟩) hmap (ri_fold _ hO.keptR))
      have hT := Lib.hid (show (S.chg.take (k + 1)).foldl againD S.kept = againD ((S.chg.take k).foldl againD S.kept) S.chg[k] by rw [List.take_succ_eq_append_getElem hkl, List.foldl_append]; rfl)
      obtain ⟨lk, hlk⟩ : ∃ lk, (S.chg[k]).length = lk := ⟨_, rfl⟩
      rw [hlk] at hc hD e2 hl2
      clear hlk r1r e3 e1 r1 r2 r3 h hO hcr htt hmap
      go_wp2_with fail
      refine hD.out.mono ?_
      rintro e w5 ⟨⟨v5, rfl⟩, hm5, ht5⟩
      have HM5 := Lib.hid hm5
      clear hm5
      go_wp2
      go_roundg (m - (k + 1))
      case measure => omega
      case rel => exact ⟨k + 1, by omega, by go_num, by rw [hT.out]; exact HM5.out, ht.trans ht5⟩
    · obtain rfl : k = m := by omega
      obtain ⟨h, hO, r1, r2, r3⟩ := HX.out
      obtain ⟨X, hX⟩ : ∃ X, (S.chg.take k).foldl againD S.kept = X := ⟨_, rfl⟩
      have hin : ∀ i p, (p, i) ∈ X → S.reach i := fun i p hp => by
        rw [← hX] at hp
        rcases mem_fold hO.keptR _ hp with e | ⟨g, e1, e2⟩
        · exact .inr (.inl ⟨p, e⟩)
        · exact .inr (.inr ⟨g, List.mem_of_mem_take e1, p, e2⟩)
      have htt : Turn (fun k => k = f ∨ k = bk) w wr := (HT2.out.mono fun k _ e => .inl e).trans (ht.mono fun k _ e => .inr e)
      have hhalf : FsHalf (upd c bk 2) F wr f { S with now := X, fuse := 0 } := by
        refine ⟨⟨bk, .map (some bk), .slice A0 S.chg.length n0, HB2.out.keep (ht.block f HB2.out.lt (fun e => HFK.out e.symm)), upd_same c bk 2, by rw [← hX]; exact hmap⟩, ?_, fun i ⟨p, hp⟩ => ?_, fun j hj => ?_⟩
        · rw [upd_ne c 2 (fun e => HFK.out e.symm)]; exact HCF.out
        · refine ((h.files i (hin i p hp)).keep (Kept.of_turn htt fun j e => ⟨h.lt j (by omega), fun e2 => ?_⟩)).recol fun j e => upd_ne c 2 (fun e2 => ?_)
          · rcases e2 with rfl | rfl
            · have := HCF.out; omega
            · have := H3.out; omega
          · have := H3.out; rw [e2] at e; omega
        · by_cases e : j = bk
          · rw [e]; exact Nat.lt_of_lt_of_le hbkl htt.size
          · rw [upd_ne c 2 e] at hj
            exact Nat.lt_of_lt_of_le (h.lt j hj) htt.size
      have hset := Lib.hid (settle_half hhalf)
      have HIN := Lib.hid hin
      have HTT := Lib.hid htt
      have HXX := Lib.hid hX
      clear hhalf h hO r1 r2 r3 hX hin htt hmap
      go_wp2_with fail
      refine hset.out.mono ?_
      rintro e w6 ⟨⟨v6, rfl⟩, c6, hAt6, hc6, ht6⟩
      have hall := Lib.hid (all_any hAt6)
      have HAT6 := Lib.hid hAt6
      have HC6 := Lib.hid hc6
      have HT6 := Lib.hid ht6
      clear hset hAt6 hc6 ht6
      go_wp2_with fail
      refine hall.out.mono ?_
      rintro e w7 ⟨bl, Ls, rfl, hml7, hnd7, hmem7, hbl7, hb7⟩
      obtain ⟨w8, hrg, hR8, hb8, hz8⟩ := hml7.range (P := Tryd.prog) Tryd.underlying57
      have HR8 := Lib.hid hR8
      have HB8 := Lib.hid (hb7.trans (hb8.mono hb7.size))
      have HME := Lib.hid hmem7
      have hs7 := hb7.size
      have hs8 := HB8.out.size
      clear hall hml7 hR8 hb7 hb8 hmem7 hz8
      obtain ⟨S1, hS1⟩ : ∃ S1, ({ S with now := X, fuse := 0 } : FsM).settle = S1 := ⟨_, rfl⟩
      rw [hS1] at HAT6
      have HS1 := Lib.hid hS1
      have hst1 : ∀ i, (S1.file i).stays ≤ (S1.file i).b.length ∧ (S1.file i).b.length ≤ 1048576 := fun i => by
        have e : S1.file i = S.file i := by rw [← hS1]; rfl
        rw [e]; exact HX.out.2.1.fileOk i
      have hlen1 : S1.files.length = S.files.length := by rw [← hS1]; rfl
      have hnow1 : S1.now = X := by rw [← hS1]; rfl
      have HST1 := Lib.hid hst1
      have HLEN1 := Lib.hid hlen1
      have HNOW1 := Lib.hid hnow1
      have hnum : ∀ n, n ∈ Ls → n < S1.files.length ∧ S1.reach n := fun n hn => by
        obtain ⟨p, hp⟩ := (HME.out n).1 hn
        have hp2 : (p, n) ∈ X := hp
        exact ⟨by rw [hlen1]; exact HX.out.2.1.num n (HIN.out n p hp2), .inl ⟨p, by rw [hnow1]; exact hp2⟩⟩
      have HNUM := Lib.hid hnum
      have HND := Lib.hid hnd7
      clear hS1 hst1 hlen1 hnow1 hnum hnd7
      go_wp2
      go_loopg [8] Ls.length (fun g u wr => ∃ (ls : List Nat) (S3 : FsM), ls.length = g ∧ MapRng wr bl w7.heap.size (Ls.map (kb F)) (ls.map (kb F)) ∧ FsAt c6 F wr f S3 ∧ Cuts S1 S3 Ls ls by_.toNat ∧ (∀ n ∈ ls, n ∈ Ls) ∧ ls.Nodup ∧ Turn (fun k => c6 k ≠ 0) w6 wr ∧ w8.heap.size ≤ wr.heap.size)
      case atStart => exact ⟨Ls, S1, rfl, HR8.out, HAT6.out.below HB8.out, ⟨rfl, rfl, rfl, rfl, rfl, rfl, fun i hi => by rw [if_neg (fun e => e.2 e.1)]⟩, fun _ e => e, HND.out, .of_new HB8.out, Nat.le_refl _⟩
      case round =>
        obtain ⟨ls, S3, hg, hrng, hAt, hcut, hin, hnd, htr, hsz⟩ := hrel
        rcases kb_next hrng with ⟨h0, hnx⟩ | ⟨n, ls', w9, hperm, hnx, hrng9, ht9, hz9, hen⟩
        · have HZ := Lib.hid (And.intro hAt (And.intro hcut (And.intro htr h0)))
          clear hAt hcut htr h0 hrng hin hnd hg
          go_wp2
          go_end0
          obtain ⟨hAt, hcut, htr, h0⟩ := HZ.out
          obtain ⟨h, hO, -⟩ := HX.out
          have hs1 := HS1.out
          have hcol : ∀ k, k < w.heap.size → c6 k = upd c bk 2 k := fun k hk => HC6.out k (Nat.lt_of_lt_of_le hk HTT.out.size)
          refine ⟨⟨_, rfl⟩, ⟨c6, F, hAt.same ?_ ?_ ?_ ?_ ?_ fun i hi => ?_, fun k hk e => ?_⟩, ?_⟩
          · rw [hcut.room, ← hs1]; rfl
          · rw [hcut.now, HNOW1.out, ← HXX.out, ← HMM.out]
            simp only [FsM.crash]
            congr 1
            rw [← HLL.out, List.take_eq_take_iff]
            omega
          · rw [hcut.kept, ← hs1]
            show _ = X
            rw [← HXX.out, ← HMM.out]
            simp only [FsM.crash]
            congr 1
            rw [← HLL.out, List.take_eq_take_iff]
            omega
          · rw [hcut.chg, ← hs1]; rfl
          · rw [hcut.fuse, ← hs1]; rfl
          · have hi1 : ∃ p, (p, i) ∈ S1.now := by
              unfold FsM.reach at hi
              rw [hcut.now, hcut.kept, hcut.chg, ← hs1] at hi
              rw [← hs1]
              rcases hi with e | e | ⟨l, e, -⟩
              · exact e
              · exact e
              · simp [FsM.settle] at e
            have hiL := (HME.out i).2 (by
              obtain ⟨p, hp⟩ := hi1
              exact ⟨p, by rw [HNOW1.out] at hp; exact hp⟩)
            obtain ⟨hil, -⟩ := HNUM.out i hiL
            rw [hcut.file i hil, if_pos ⟨hiL, by rw [h0]; simp⟩, cut_file S by_.toNat i (by rw [← HLEN1.out]; exact hil) _ rfl]
            congr 1
            rw [← hs1]; rfl
          · rw [hcol k hk, upd_ne c 2 (fun e2 => by have := H3.out; rw [e2] at e; omega)]
            exact e
          · refine ((HTT.out.mono fun k _ e => ?_).trans' (HT6.out) fun k hk e => ?_).trans' htr fun k hk e => ?_
            · rcases e with rfl | rfl
              · have := HCF.out; omega
              · have := H3.out; omega
            · rw [e, HCF.out]; omega
            · rw [hcol k hk] at e
              by_cases e2 : k = bk
              · rw [e2, H3.out]; omega
              · rw [upd_ne c 2 e2] at e; exact e
        · have hnl : n ∈ ls := hperm.mem_iff.2 (by simp)
          have hnL := hin n hnl
          obtain ⟨hnlen, hnr⟩ := HNUM.out n hnL
          have hr3 : S3.reach n := by
            obtain ⟨p, hp⟩ := (HME.out n).1 hnL
            exact .inl ⟨p, by rw [hcut.now, HNOW1.out]; exact hp⟩
          have hAt9 := hAt.turn (T := fun k => k = w7.heap.size) ht9 fun k e => by
            by_cases h0 : c6 k = 0
            · exact h0
            · have := HAT6.out.lt k h0; omega
          have hf3 : S3.file n = S1.file n := by rw [hcut.file n hnlen, if_neg (fun e => e.2 hnl)]
          have hfa := hAt9.files n hr3
          rw [hf3] at hfa
          obtain ⟨x, hx⟩ : ∃ x, S1.file n = x := ⟨_, rfl⟩
          obtain ⟨hsl, hlm⟩ := HST1.out n
          rw [hx] at hfa hsl hlm
          obtain ⟨A, cap, p0, p1, pf, pc, pm, -, pown, pblk, prow⟩ := hfa.open_
          obtain ⟨len, hlen⟩ : ∃ len, x.b.length = len := ⟨_, rfl⟩
          obtain ⟨st, hst⟩ : ∃ st, x.stays = st := ⟨_, rfl⟩
          obtain ⟨mo, hmo⟩ : ∃ mo, min by_.toNat (len - st) = mo := ⟨_, rfl⟩
          obtain ⟨q, hq⟩ : ∃ q, st + mo = q := ⟨_, rfl⟩
          obtain ⟨d, hd⟩ : ∃ d, len - st = d := ⟨_, rfl⟩
          rw [hlen] at hsl hlm
          rw [hst] at hsl
          have hw1 : IntKind.i64.wrap ((len : Int) - (st : Int)) = (d : Int) := by simp [IntKind.wrap, IntKind.signed, IntKind.bits]; omega
          have hw2 : min (max by_ 0) (d : Int) = (mo : Int) := by omega
          have hw3 : IntKind.i64.wrap ((st : Int) + (mo : Int)) = (q : Int) := by simp [IntKind.wrap, IntKind.signed, IntKind.bits]; omega
          have hql : q ≤ len := by omega
          have hcutx : Hid (FsM.cut x by_.toNat = ⟨x.b.take q, q⟩) := by unfold Hid FsM.cut; rw [hlen, hst, hmo, hq]
          have hqc : (q : Int) ≤ (cap : Int) := by rw [hlen] at pc; omega
          rw [hlen] at p0 pblk pown prow pc
          rw [hst] at p1 pblk
          have hF1 : (Value.slice A len cap).ownBlock ≠ some (F n) := fun e => by have := prow _ e; have := hfa.col; omega
          have hkr : ∀ (W W' : World) (j : Nat) (u : Value), W' = W.setCell ⟨F n, j, none⟩ u → OwnB W 0 (.slice A len cap) x.b → OwnB W' 0 (.slice A len cap) x.b := fun W W' j u e ho => by
            rw [e]
            exact ownsRow_kept ho fun k e2 => Below.heap_setCell _ _ _ _ (fun e3 => by simp only at e3; rw [e3] at e2; exact hF1 e2)
          have HP := Lib.hid (show ∀ w10 w11 : World, w10 = (w9.setCell ⟨F n, 1, none⟩ (.int .i64 (q : Int))).drew → w11 = (w10.setCell ⟨F n, 0, none⟩ (.slice A q cap)).drew →
              ∃ (ls : List Nat) (S3 : FsM), ls.length = ls'.length ∧ MapRng w11 bl w7.heap.size (Ls.map (kb F)) (ls.map (kb F)) ∧ FsAt c6 F w11 f S3 ∧ Cuts S1 S3 Ls ls by_.toNat ∧ (∀ n ∈ ls, n ∈ Ls) ∧ ls.Nodup ∧ Turn (fun k => c6 k ≠ 0) w6 w11 ∧ w8.heap.size ≤ w11.heap.size from fun w10 w11 e10 e11 => by
            have t10 : Turn (fun k => k = F n) w9 w11 := by
              rw [e11, e10]
              exact (((Turn.setCell (T := fun k => k = F n) w9 ⟨F n, 1, none⟩ _ rfl).trans (Turn.drew _)).trans (Turn.setCell _ ⟨F n, 0, none⟩ _ rfl)).trans (Turn.drew _)
            have hFn0 : c6 (F n) ≠ 0 := by have := hfa.col; omega
            have hFlt : F n < w6.heap.size := HAT6.out.lt _ hFn0
            have hFb : F n ≠ bl := by have := hrng9.is.lt; omega
            have o1 : OwnB w11 0 (.slice A len cap) x.b := by
              have := hkr w9 _ 1 (.int .i64 (q : Int)) rfl pown
              have h2 := hkr _ _ 0 (.slice A q cap) rfl (show OwnB (w9.setCell ⟨F n, 1, none⟩ (.int .i64 (q : Int))).drew 0 _ _ from this)
              rw [e11, e10]; exact h2
            have o2 := OwnB.cut o1 q (by omega)
            have b2 : Blk w11 (F n) #[.slice A q cap, .int .i64 (q : Int)] 54 := by
              have := (pblk.set 1 (.int .i64 (q : Int)))
              have h2 := Blk.set (show Blk (w9.setCell ⟨F n, 1, none⟩ (.int .i64 (q : Int))).drew (F n) _ _ from ⟨this.out⟩) 0 (.slice A q cap)
              rw [e11, e10]; exact ⟨h2.out⟩
            have hfile : FileAt c6 w11 n (F n) (FsM.cut x by_.toNat) := by
              rw [hcutx.out]
              exact ⟨⟨.slice A q cap, b2, o2, fun k e => prow k (by cases A with | none => simp [Value.ownBlock] at e | some a => exact e)⟩, hfa.col⟩
            have hlen3 : n < S3.files.length := by rw [hcut.len]; exact hnlen
            refine ⟨ls', S3.setFile n (FsM.cut x by_.toNat), rfl, hrng9.keep (t10.block bl hrng9.is.lt (fun e => hFb e.symm)) (t10.block _ hrng9.lt (fun e => by omega)), hAt9.file hlen3 (fun _ _ => rfl) (fun k e => Nat.lt_of_lt_of_le (hAt9.lt k e) t10.size) (t10.mono fun k _ e => .inl (by rw [e]; exact hfa.col)) hfile, ⟨hcut.room, hcut.now, hcut.kept, hcut.chg, hcut.fuse, by rw [← hcut.len]; simp [FsM.setFile], fun i hi => ?_⟩, fun k hk => hin k (hperm.mem_iff.2 (by simp [hk])), ?_, ?_, ?_⟩
            · rw [S3.setFile_file hlen3]
              have hnd2 := hperm.nodup_iff.1 hnd
              by_cases e : i = n
              · subst e
                rw [if_pos rfl, if_pos ⟨hnL, (List.nodup_cons.1 hnd2).1⟩, hx]
              · rw [if_neg e, hcut.file i hi]
                have : (i ∈ Ls ∧ i ∉ ls) ↔ (i ∈ Ls ∧ i ∉ ls') := by
                  constructor
                  · rintro ⟨h1, h2⟩
                    exact ⟨h1, fun h3 => h2 (hperm.mem_iff.2 (by simp [h3]))⟩
                  · rintro ⟨h1, h2⟩
                    refine ⟨h1, fun h3 => ?_⟩
                    rcases List.mem_cons.1 (hperm.mem_iff.1 h3) with h4 | h4
                    · exact e h4
                    · exact h2 h4
                by_cases h5 : i ∈ Ls ∧ i ∉ ls
                · rw [if_pos h5, if_pos (this.1 h5)]
                · rw [if_neg h5, if_neg (fun h6 => h5 (this.2 h6))]
            · exact (List.nodup_cons.1 (hperm.nodup_iff.1 hnd)).2
            · refine (htr.trans' ht9 fun k hk e => by omega).trans (t10.mono fun k _ e => by rw [e]; exact hFn0)
            · have := t10.size; omega)
          have hl2 := Lib.hid hperm.length_eq
          have hg2 := Lib.hid hg
          have pf0 := pf 0
          have pf1 := pf 1
          have B9 := Lib.hid pblk
          clear hg hrng hAt hcut hin hnd htr hperm hnl hnL hnlen hnr hr3 hAt9 hf3 hfa hx pf pm pown pblk prow hlen hst hmo hq hd hF1 hkr hrng9 ht9 hz9 hsl hlm pc
          go_wp2
          go_region
          obtain ⟨w10, hw10⟩ : ∃ W, (w9.setCell ⟨F n, 1, none⟩ (.int .i64 (q : Int))).drew = W := ⟨_, rfl⟩
          rw [hw10]
          have B10 : Hid (Blk w10 (F n) #[.slice A len cap, .int .i64 (q : Int)] 54) := by
            rw [← hw10]
            exact ⟨(B9.out.set 1 (.int .i64 (q : Int))).out⟩
          have q0 : w10.cell? ⟨F n, 0, none⟩ = some (.slice A len cap) := B10.out.cell 0 rfl
          have q1 : w10.cell? ⟨F n, 1, none⟩ = some (.int .i64 (q : Int)) := B10.out.cell 1 rfl
          have qf := B10.out.frozen 0
          have HW10 := Lib.hid hw10
          clear hw10 p0 p1 pf0 pf1 hw1 hw2 hw3
          go_wp2
          go_region
          go_wp2
          obtain ⟨w11, hw11⟩ : ∃ W, (w10.setCell ⟨F n, 0, none⟩ (.slice A q cap)).drew = W := ⟨_, rfl⟩
          rw [hw11]
          have HQ := HP.out w10 w11 HW10.out.symm hw11.symm
          go_roundg ls'.length
          case measure => have := hl2.out; have := hg2.out; simp only [List.length_cons] at *; omega
          case rel => exact HQ
end Go.Proofs.YteidkmiladkoiaaDoor
