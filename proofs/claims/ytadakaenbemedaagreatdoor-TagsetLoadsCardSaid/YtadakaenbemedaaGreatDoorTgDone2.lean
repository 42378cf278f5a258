/-
  Acts that make files, over both sides, walked.
-/
import Derived.Test.YtadakaenbemedaaGreatDoorTgDone
namespace Go.Proofs.YtadakaenbemedaaGreatDoor
open Go.RowKit Go.Maps

/-- Bytes don't lie in a box of slices. -/
theorem Sees.far_box {W : World} {B0 : Nat} {t : TypeId} {v0 v1 : Value} {b : Nat} {A : Option Addr} {l : List UInt8} (h : Sees W b A (bv l)) (hb : Box2 W B0 t v0 v1) (h0 : ∀ x, v0 ≠ .int .u8 x) (h1 : ∀ x, v1 ≠ .int .u8 x) : SeesM (fun k => k < b ∧ k ≠ B0) W A (bv l) := by
  rcases h.out with h | ⟨ad, e, hbl, hc⟩
  · exact ⟨.inl h⟩
  · cases l with
    | nil => exact ⟨.inl rfl⟩
    | cons y t =>
      refine ⟨.inr ⟨ad, e, ⟨hbl, fun he => ?_⟩, hc⟩⟩
      have hcell := hc 0 (.int .u8 (y.toNat : Int)) rfl
      have hbk : (ad.add 0).block = B0 := (add_block _ _).trans he
      unfold World.cell? at hcell
      rw [hbk, hb.out] at hcell
      revert hcell
      generalize (ad.add 0).off = o
      generalize (ad.add 0) = p
      intro hcell
      match o, hcell with
      | 0, hcell => simp at hcell; exact h0 _ hcell.2
      | 1, hcell => simp at hcell; exact h1 _ hcell.2
      | n + 2, hcell => simp at hcell

/-- The bytes of a file and of the document's file are the same, in the world where the answers are compared, before and behind the store. -/
structure SameFile (W : World) (B6 : Nat) (va vb : Value) (A : Option Addr) (n c : Nat) (B : Option Addr) (d : Nat) (l : List UInt8) : Prop where
  a1 : (convert 27 9 (.slice A n c)).run Tryz.prog W.drew = .ok (.string (strOf l)) W.drew
  b1 : (convert 27 9 (.slice B n d)).run Tryz.prog W.drew = .ok (.string (strOf l)) W.drew
  a2 : (convert 27 9 (.slice A n c)).run Tryz.prog ((W.setCell ⟨B6, 0, none⟩ va).setCell ⟨B6, 1, none⟩ vb).drew = .ok (.string (strOf l)) ((W.setCell ⟨B6, 0, none⟩ va).setCell ⟨B6, 1, none⟩ vb).drew
  b2 : (convert 27 9 (.slice B n d)).run Tryz.prog ((W.setCell ⟨B6, 0, none⟩ va).setCell ⟨B6, 1, none⟩ vb).drew = .ok (.string (strOf l)) ((W.setCell ⟨B6, 0, none⟩ va).setCell ⟨B6, 1, none⟩ vb).drew
theorem SameFile.of {w2 W : World} {b B6 : Nat} {va vb : Value} {A : Option Addr} {n c : Nat} {B : Option Addr} {d : Nat} {l : List UInt8} (hA : SeesM (fun k => k < b ∧ k ≠ B6) w2 A (bv l)) (hB : SeesM (fun k => k < b ∧ k ≠ B6) w2 B (bv l)) (hb : Below b w2 W) (hbs : b ≤ w2.heap.size) (hn : l.length = n) : SameFile W B6 va vb A n c B d l := by
  have k1 : Kept (fun k => k < b ∧ k ≠ B6) w2 W.drew := (Kept.of_below hb fun k e => e.1).trans fun k e => rfl
  have k2 : Kept (fun k => k < b ∧ k ≠ B6) w2 ((W.setCell ⟨B6, 0, none⟩ va).setCell ⟨B6, 1, none⟩ vb).drew := ((Kept.of_below hb fun k e => e.1).trans (Kept.of_turn (turn_two W B6 va vb) fun k e => ⟨by have := hb.size; have := e.1; omega, e.2⟩)).trans fun k e => rfl
  exact ⟨run_str _ b A n c l ((hA.keep k1).sees fun k e => e.1) hn, run_str _ b B n d l ((hB.keep k1).sees fun k e => e.1) hn, run_str _ b A n c l ((hA.keep k2).sees fun k e => e.1) hn, run_str _ b B n d l ((hB.keep k2).sees fun k e => e.1) hn⟩

set_option maxRecDepth 100000 in
set_option maxHeartbeats 6400000 in
theorem done_flush (n0 : Nat) (m q : Nat → Prop) (w : World) (S : Nat) (v : Value) (s : SetM) (hp : Pair n0 m q w S v s) (hF : SetFit s) (hH : Halves w) (Bx : Option Addr) (lx dx : Nat) (kd a b : Int) (hk : kd % 8 = 5 ∨ kd % 8 = 6) :
    Calls Tryz.prog 16 #[.pointer (some ⟨S, 0, none⟩), v, .agg #[.int .i64 kd, .slice Bx lx dx, .int .i64 a, .int .i64 b]] w (Done n0 m q w S s.flush.1) := by
  have hz := and7 kd
  obtain ⟨A, c, F, d, hv, -⟩ := hp.ref.out
  obtain ⟨n, hn⟩ : ∃ n, s.mem.length = n := ⟨_, rfl⟩
  obtain ⟨k, hkk⟩ : ∃ k, s.fs.length = k := ⟨_, rfl⟩
  rw [hn, hkk] at hv
  subst hv
  obtain ⟨wa, hwa⟩ : ∃ wa, w.alloc (.cells #[.slice A n c, .slice F k d] 38) = wa := ⟨_, rfl⟩
  obtain ⟨wb, hwb⟩ : ∃ wb, wa.alloc (.cells #[.int .i64 kd, .slice Bx lx dx, .int .i64 a, .int .i64 b] 42) = wb := ⟨_, rfl⟩
  obtain ⟨wc, hwc⟩ : ∃ wc, wb.alloc (.cells #[.slice none 0 0, .slice none 0 0] 38) = wc := ⟨_, rfl⟩
  have hB := DoneBox.new hwa hwb hwc
  have hza : wa.heap.size = w.heap.size + 1 := by rw [← hwa]; simp
  have hzb : wb.heap.size = w.heap.size + 1 + 1 := by rw [← hwb]; simp [hza]
  have c0 := hB.act.cell0
  have c2 := hB.act.cell2
  have c3 := hB.act.cell3
  have HB := Lib.hid hB
  have hHc : Halves wc := hH.below hB.below hH.1

  have hA := Lib.hid (flush_any m wc S s (hp.set.below hB.below) hF hHc)
  have HP := Lib.hid hp
  have HR := fun w1 => fun (hk : Kept q w w1) (hs : w.heap.size ≤ w1.heap.size) => Lib.hid (refFlush_any q w1 _ s (hp.ref.keep hk) (fun k e => by have := (hp.sep k e).1; omega) hF)
  obtain ⟨n', hn'⟩ : ∃ n', s.flush.1.mem.length = n' := ⟨_, rfl⟩
  obtain ⟨k', hk'⟩ : ∃ k', s.flush.1.fs.length = k' := ⟨_, rfl⟩
  obtain ⟨fb, hfb⟩ : ∃ fb, s.flush.2.2 = fb := ⟨_, rfl⟩
  rw [hfb] at hA HR
  clear hfb
  have HN' := Lib.hid hn'
  have HK' := Lib.hid hk'
  obtain ⟨L, hL⟩ : ∃ L, s.flush.2.1 = L := ⟨_, rfl⟩
  obtain ⟨fl, hfl⟩ : ∃ fl, L.length = fl := ⟨_, rfl⟩
  rw [hL, hfl] at hA HR
  have HFL := Lib.hid hfl
  clear hB hF hH hHc hn hkk hn' hk' hL hfl hp
  rcases hk with e | e
  all_goals
    rw [e] at hz
    clear e
    go_enter Tryz.func16, Tryz.ntmps16
    go_wp2_with fail
    refine hA.out.mono ?_
    rintro e w1 ⟨A1, ca, rfl, fs⟩
    obtain ⟨m', st, hSA⟩ := fs.out
    obtain ⟨d1, d2, d3⟩ := HB.out.keep HP.out.set.lt st.turn
    have hzc := HB.out.size
    have hs1 := st.turn.size
    have hKq : Kept q w w1 := (Kept.of_below HB.out.below fun k e => (HP.out.sep k e).1).trans (Kept.of_turn st.turn fun k e => ⟨by have := (HP.out.sep k e).1; omega, (HP.out.sep k e).2⟩)
    have hR := HR w1 hKq (by omega)
    have ST := Lib.hid st
    have D3 := Lib.hid d3
    have HSA := Lib.hid hSA
    have c0 := d1.cell0
    have c1 := d1.cell1
    have e2 := d2.cell2
    have e3 := d2.cell3
    clear st d1 d2 d3 hKq HR hA fs hSA
    go_wp2_with fail
    refine hR.out.mono ?_
    rintro e w2 ⟨v', B2, b2, rfl, r, hSB⟩
    have hs2 := r.below.size
    have R := Lib.hid r
    obtain ⟨A', c', F', d', hv', -⟩ := r.set.out
    rw [HN'.out, HK'.out] at hv'
    subst hv'
    have d3 := D3.out.below r.below D3.out.lt
    obtain ⟨w3, hw3⟩ : ∃ w3, w2.alloc (.cells #[.slice A' n' c', .slice F' k' d'] 38) = w3 := ⟨_, rfl⟩
    have b9 : Box2 w3 w2.heap.size 38 (.slice A' n' c') (.slice F' k' d') := by rw [← hw3]; exact Box2.new w2 _ rfl _ _ _
    have b3 : Box2 w3 (w.heap.size + 1 + 1) 38 (.slice none 0 0) (.slice none 0 0) := by rw [← hw3]; exact d3.alloc _
    have hb3 : Below w2.heap.size w2 w3 := by rw [← hw3]; exact (Below.refl _ w2).alloc (Nat.le_refl _) _
    have hsf : SameFile w3 (w.heap.size + 1 + 1) (.slice A' n' c') (.slice F' k' d') A1 fl ca B2 b2 L :=
      SameFile.of ((HSA.out.keep (Kept.of_below r.below fun k e => e.2.1)).mono fun k e => ⟨by have := e.2.1; omega, by have := e.1; omega⟩) (hSB.far_box d3 (fun x e => by cases e) fun x e => by cases e) hb3 (Nat.le_refl _) HFL.out
    obtain ⟨s1, s2, s3, s4⟩ := hsf
    have g0 := b9.cell0
    have g1 := b9.cell1
    have f0 := b3.frozen 0
    have f1 := b3.frozen 1
    have r0 := b3.cell0
    have r1 := b3.cell1
    have B3 := Lib.hid b3
    have HB3 := Lib.hid hb3
    clear r hR d3 b9 b3 hb3 hSB
    go_wp2_with fail
    go_region
    go_wp2
    have z := ((B3.out.set0 (.slice A' n' c')).set1 (.slice F' k' d')).keep (W' := ((w3.setCell ⟨w.heap.size + 1 + 1, 0, none⟩ (.slice A' n' c')).setCell ⟨w.heap.size + 1 + 1, 1, none⟩ (.slice F' k' d')).drew) rfl
    have z0 := z.cell0
    have z1 := z.cell1
    refine bodyPost_ret (v := .tuple #[.agg #[.slice A' n' c', .slice F' k' d'], .bool true]) (by simp [results, Tryz.results16, go_sem, z0, z1]) rfl ?_
    exact ⟨_, m', _, rfl, HP.out.step HB.out.below ST.out R.out (w.heap.size + 1 + 1) (by omega) (by omega) (((Turn.of_new HB3.out).trans (turn_two w3 _ (.slice A' n' c') (.slice F' k' d'))).trans (Turn.drew _))⟩
set_option maxRecDepth 100000 in
set_option maxHeartbeats 6400000 in
theorem done_merge (n0 : Nat) (m q : Nat → Prop) (w : World) (S : Nat) (v : Value) (s : SetM) (hp : Pair n0 m q w S v s) (hF : SetFit s) (hH : Halves w) (Bx : Option Addr) (lx dx : Nat) (kd : Int) (a b : Nat) (hk : kd % 8 = 7) (hj : 2 ≤ b) (hij : a + b ≤ s.fs.length) :
    Calls Tryz.prog 16 #[.pointer (some ⟨S, 0, none⟩), v, .agg #[.int .i64 kd, .slice Bx lx dx, .int .i64 a, .int .i64 b]] w (Done n0 m q w S ⟨s.mem, s.fs.take a ++ s.join a b :: s.fs.drop (a + b)⟩) := by
  have hz := and7 kd
  obtain ⟨A, c, F, d, hv, -⟩ := hp.ref.out
  obtain ⟨n, hn⟩ : ∃ n, s.mem.length = n := ⟨_, rfl⟩
  obtain ⟨k, hkk⟩ : ∃ k, s.fs.length = k := ⟨_, rfl⟩
  rw [hn, hkk] at hv
  subst hv
  obtain ⟨wa, hwa⟩ : ∃ wa, w.alloc (.cells #[.slice A n c, .slice F k d] 38) = wa := ⟨_, rfl⟩
  obtain ⟨wb, hwb⟩ : ∃ wb, wa.alloc (.cells #[.int .i64 kd, .slice Bx lx dx, .int .i64 a, .int .i64 b] 42) = wb := ⟨_, rfl⟩
  obtain ⟨wc, hwc⟩ : ∃ wc, wb.alloc (.cells #[.slice none 0 0, .slice none 0 0] 38) = wc := ⟨_, rfl⟩
  have hB := DoneBox.new hwa hwb hwc
  have hza : wa.heap.size = w.heap.size + 1 := by rw [← hwa]; simp
  have hzb : wb.heap.size = w.heap.size + 1 + 1 := by rw [← hwb]; simp [hza]
  have c0 := hB.act.cell0
  have c2 := hB.act.cell2
  have c3 := hB.act.cell3
  have HB := Lib.hid hB
  have hHc : Halves wc := hH.below hB.below hH.1

  have hA := Lib.hid (merge_good m wc S s (hp.set.below hB.below) hF hHc a b hj hij)
  have HP := Lib.hid hp
  have HR := fun w1 => fun (hk : Kept q w w1) (hs : w.heap.size ≤ w1.heap.size) => Lib.hid (refMerge_good q w1 _ s (hp.ref.keep hk) (fun k e => by have := (hp.sep k e).1; omega) hF a b hj hij)
  obtain ⟨n', hn'⟩ : ∃ n', s.mem.length = n' := ⟨_, rfl⟩
  obtain ⟨k', hk'⟩ : ∃ k', (s.fs.take a ++ s.join a b :: s.fs.drop (a + b)).length = k' := ⟨_, rfl⟩
  have HN' := Lib.hid hn'
  have HK' := Lib.hid hk'
  obtain ⟨L, hL⟩ : ∃ L, fileB (s.join a b) = L := ⟨_, rfl⟩
  obtain ⟨fl, hfl⟩ : ∃ fl, L.length = fl := ⟨_, rfl⟩
  rw [hL, hfl] at hA HR
  have HFL := Lib.hid hfl
  clear hB hF hH hHc hn hkk hn' hk' hL hfl hp
  have e := hk
  all_goals
    rw [e] at hz
    clear e hk
    go_enter Tryz.func16, Tryz.ntmps16
    go_wp2_with fail
    refine hA.out.mono ?_
    rintro e w1 ⟨A1, ca, rfl, fs⟩
    obtain ⟨m', st, hSA⟩ := fs.out
    obtain ⟨d1, d2, d3⟩ := HB.out.keep HP.out.set.lt st.turn
    have hzc := HB.out.size
    have hs1 := st.turn.size
    have hKq : Kept q w w1 := (Kept.of_below HB.out.below fun k e => (HP.out.sep k e).1).trans (Kept.of_turn st.turn fun k e => ⟨by have := (HP.out.sep k e).1; omega, (HP.out.sep k e).2⟩)
    have hR := HR w1 hKq (by omega)
    have ST := Lib.hid st
    have D3 := Lib.hid d3
    have HSA := Lib.hid hSA
    have c0 := d1.cell0
    have c1 := d1.cell1
    have e2 := d2.cell2
    have e3 := d2.cell3
    clear st d1 d2 d3 hKq HR hA fs hSA
    go_wp2_with fail
    refine hR.out.mono ?_
    rintro e w2 ⟨v', B2, b2, rfl, r, hSB⟩
    have hs2 := r.below.size
    have R := Lib.hid r
    obtain ⟨A', c', F', d', hv', -⟩ := r.set.out
    rw [HN'.out, HK'.out] at hv'
    subst hv'
    have d3 := D3.out.below r.below D3.out.lt
    obtain ⟨w3, hw3⟩ : ∃ w3, w2.alloc (.cells #[.slice A' n' c', .slice F' k' d'] 38) = w3 := ⟨_, rfl⟩
    have b9 : Box2 w3 w2.heap.size 38 (.slice A' n' c') (.slice F' k' d') := by rw [← hw3]; exact Box2.new w2 _ rfl _ _ _
    have b3 : Box2 w3 (w.heap.size + 1 + 1) 38 (.slice none 0 0) (.slice none 0 0) := by rw [← hw3]; exact d3.alloc _
    have hb3 : Below w2.heap.size w2 w3 := by rw [← hw3]; exact (Below.refl _ w2).alloc (Nat.le_refl _) _
    have hsf : SameFile w3 (w.heap.size + 1 + 1) (.slice A' n' c') (.slice F' k' d') A1 fl ca B2 b2 L :=
      SameFile.of ((HSA.out.keep (Kept.of_below r.below fun k e => e.2.1)).mono fun k e => ⟨by have := e.2.1; omega, by have := e.1; omega⟩) (hSB.far_box d3 (fun x e => by cases e) fun x e => by cases e) hb3 (Nat.le_refl _) HFL.out
    obtain ⟨s1, s2, s3, s4⟩ := hsf
    have g0 := b9.cell0
    have g1 := b9.cell1
    have f0 := b3.frozen 0
    have f1 := b3.frozen 1
    have r0 := b3.cell0
    have r1 := b3.cell1
    have B3 := Lib.hid b3
    have HB3 := Lib.hid hb3
    clear r hR d3 b9 b3 hb3 hSB
    go_wp2_with fail
    go_region
    go_wp2
    have z := ((B3.out.set0 (.slice A' n' c')).set1 (.slice F' k' d')).keep (W' := ((w3.setCell ⟨w.heap.size + 1 + 1, 0, none⟩ (.slice A' n' c')).setCell ⟨w.heap.size + 1 + 1, 1, none⟩ (.slice F' k' d')).drew) rfl
    have z0 := z.cell0
    have z1 := z.cell1
    refine bodyPost_ret (v := .tuple #[.agg #[.slice A' n' c', .slice F' k' d'], .bool true]) (by simp [results, Tryz.results16, go_sem, z0, z1]) rfl ?_
    exact ⟨_, m', _, rfl, HP.out.step HB.out.below ST.out R.out (w.heap.size + 1 + 1) (by omega) (by omega) (((Turn.of_new HB3.out).trans (turn_two w3 _ (.slice A' n' c') (.slice F' k' d'))).trans (Turn.drew _))⟩
set_option maxRecDepth 100000 in
set_option maxHeartbeats 6400000 in
theorem done_none (n0 : Nat) (m q : Nat → Prop) (w : World) (S : Nat) (v : Value) (s : SetM) (hp : Pair n0 m q w S v s) (hF : SetFit s) (hH : Halves w) (Bx : Option Addr) (lx dx : Nat) (kd a b : Int) (hk : kd % 8 = 7) (hb : ¬ (2 ≤ b ∧ 0 ≤ a ∧ a ≤ s.fs.length ∧ b ≤ s.fs.length - a)) :
    Calls Tryz.prog 16 #[.pointer (some ⟨S, 0, none⟩), v, .agg #[.int .i64 kd, .slice Bx lx dx, .int .i64 a, .int .i64 b]] w (Done n0 m q w S s) := by
  have hz := and7 kd
  obtain ⟨A, c, F, d, hv, -⟩ := hp.ref.out
  obtain ⟨n, hn⟩ : ∃ n, s.mem.length = n := ⟨_, rfl⟩
  obtain ⟨k, hkk⟩ : ∃ k, s.fs.length = k := ⟨_, rfl⟩
  rw [hn, hkk] at hv
  subst hv
  obtain ⟨wa, hwa⟩ : ∃ wa, w.alloc (.cells #[.slice A n c, .slice F k d] 38) = wa := ⟨_, rfl⟩
  obtain ⟨wb, hwb⟩ : ∃ wb, wa.alloc (.cells #[.int .i64 kd, .slice Bx lx dx, .int .i64 a, .int .i64 b] 42) = wb := ⟨_, rfl⟩
  obtain ⟨wc, hwc⟩ : ∃ wc, wb.alloc (.cells #[.slice none 0 0, .slice none 0 0] 38) = wc := ⟨_, rfl⟩
  have hB := DoneBox.new hwa hwb hwc
  have hza : wa.heap.size = w.heap.size + 1 := by rw [← hwa]; simp
  have hzb : wb.heap.size = w.heap.size + 1 + 1 := by rw [← hwb]; simp [hza]
  have c0 := hB.act.cell0
  have c2 := hB.act.cell2
  have c3 := hB.act.cell3
  have HB := Lib.hid hB
  have hHc : Halves wc := hH.below hB.below hH.1

  have hA := Lib.hid (merge_bad m wc S s (hp.set.below hB.below) hF a b hb)
  have HP := Lib.hid hp
  have HR := fun w1 => fun (hk : Kept q w w1) (hs : w.heap.size ≤ w1.heap.size) => Lib.hid (refMerge_bad q w1 _ s (hp.ref.keep hk) (fun k e => by have := (hp.sep k e).1; omega) hF a b hb)
  obtain ⟨n', hn'⟩ : ∃ n', s.mem.length = n' := ⟨_, rfl⟩
  obtain ⟨k', hk'⟩ : ∃ k', s.fs.length = k' := ⟨_, rfl⟩
  have HN' := Lib.hid hn'
  have HK' := Lib.hid hk'
  obtain ⟨L, hL⟩ : ∃ L, ([] : List UInt8) = L := ⟨_, rfl⟩
  have HL : Hid (L = []) := hL.symm
  have HFL : Hid (L.length = 0) := by unfold Hid; rw [← hL]; rfl
  clear hB hF hH hHc hn hkk hn' hk' hL hp hb
  have e := hk
  all_goals
    rw [e] at hz
    clear e hk
    go_enter Tryz.func16, Tryz.ntmps16
    go_wp2_with fail
    refine hA.out.mono ?_
    rintro e w1 ⟨rfl, rfl⟩
    obtain ⟨m', hm'⟩ : ∃ m', m = m' := ⟨_, rfl⟩
    have st : SetStep m m' wc wc S s := hm' ▸ ⟨HP.out.set.below HB.out.below, Turn.refl _ _, fun k e => .inl e⟩
    have hSA : SeesM (fun k => wc.heap.size ≤ k ∧ k < wc.heap.size ∧ ¬ m' k) wc none (bv L) := ⟨.inl (by rw [HL.out]; rfl)⟩
    clear hm'
    obtain ⟨d1, d2, d3⟩ := HB.out.keep HP.out.set.lt st.turn
    have hzc := HB.out.size
    have hs1 := st.turn.size
    have hKq : Kept q w wc := (Kept.of_below HB.out.below fun k e => (HP.out.sep k e).1).trans (Kept.of_turn st.turn fun k e => ⟨by have := (HP.out.sep k e).1; omega, (HP.out.sep k e).2⟩)
    have hR := HR wc hKq (by omega)
    have ST := Lib.hid st
    have D3 := Lib.hid d3
    have HSA := Lib.hid hSA
    have c0 := d1.cell0
    have c1 := d1.cell1
    have e2 := d2.cell2
    have e3 := d2.cell3
    clear st d1 d2 d3 hKq HR hA hSA
    go_wp2_with fail
    refine hR.out.mono ?_
    rintro e w2 ⟨v', rfl, r⟩
    have hSB : Sees w2 w2.heap.size none (bv L) := ⟨.inl (by rw [HL.out]; rfl)⟩
    have hs2 := r.below.size
    have R := Lib.hid r
    obtain ⟨A', c', F', d', hv', -⟩ := r.set.out
    rw [HN'.out, HK'.out] at hv'
    subst hv'
    have d3 := D3.out.below r.below D3.out.lt
    obtain ⟨w3, hw3⟩ : ∃ w3, w2.alloc (.cells #[.slice A' n' c', .slice F' k' d'] 38) = w3 := ⟨_, rfl⟩
    have b9 : Box2 w3 w2.heap.size 38 (.slice A' n' c') (.slice F' k' d') := by rw [← hw3]; exact Box2.new w2 _ rfl _ _ _
    have b3 : Box2 w3 (w.heap.size + 1 + 1) 38 (.slice none 0 0) (.slice none 0 0) := by rw [← hw3]; exact d3.alloc _
    have hb3 : Below w2.heap.size w2 w3 := by rw [← hw3]; exact (Below.refl _ w2).alloc (Nat.le_refl _) _
    have hsf : SameFile w3 (w.heap.size + 1 + 1) (.slice A' n' c') (.slice F' k' d') none 0 0 none 0 L :=
      SameFile.of ((HSA.out.keep (Kept.of_below r.below fun k e => e.2.1)).mono fun k e => ⟨by have := e.2.1; omega, by have := e.1; omega⟩) (hSB.far_box d3 (fun x e => by cases e) fun x e => by cases e) hb3 (Nat.le_refl _) HFL.out
    obtain ⟨s1, s2, s3, s4⟩ := hsf
    have g0 := b9.cell0
    have g1 := b9.cell1
    have f0 := b3.frozen 0
    have f1 := b3.frozen 1
    have r0 := b3.cell0
    have r1 := b3.cell1
    have B3 := Lib.hid b3
    have HB3 := Lib.hid hb3
    clear r hR d3 b9 b3 hb3 hSB
    go_wp2_with fail
    go_region
    go_wp2
    have z := ((B3.out.set0 (.slice A' n' c')).set1 (.slice F' k' d')).keep (W' := ((w3.setCell ⟨w.heap.size + 1 + 1, 0, none⟩ (.slice A' n' c')).setCell ⟨w.heap.size + 1 + 1, 1, none⟩ (.slice F' k' d')).drew) rfl
    have z0 := z.cell0
    have z1 := z.cell1
    refine bodyPost_ret (v := .tuple #[.agg #[.slice A' n' c', .slice F' k' d'], .bool true]) (by simp [results, Tryz.results16, go_sem, z0, z1]) rfl ?_
    exact ⟨_, m', _, rfl, HP.out.step HB.out.below ST.out R.out (w.heap.size + 1 + 1) (by omega) (by omega) (((Turn.of_new HB3.out).trans (turn_two w3 _ (.slice A' n' c') (.slice F' k' d'))).trans (Turn.drew _))⟩
end Go.Proofs.YtadakaenbemedaaGreatDoor
