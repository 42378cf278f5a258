/-
  The law TagsetLoads, walked: a set that is loaded from all its files has all but what was in memory.
-/
import Derived.Test.YtadakaenbemedaaGreatDoorTgFiles
namespace Go.Proofs.YtadakaenbemedaaGreatDoor
open Go.RowKit Go.Maps

theorem seesM_of {w : World} {m : Nat → Prop} {B : Nat} {A : Option Addr} {xs : List Value} (h : Sees w B A xs) (hm : ∀ k, k < B → m k) : SeesM m w A xs := by
  rcases h.out with h | ⟨ad, e, hb, hc⟩
  · exact ⟨.inl h⟩
  · exact ⟨.inr ⟨ad, e, hm _ hb, hc⟩⟩
theorem filter_snoc {α : Type} (p : α → Bool) (l : List α) (j : Nat) (hj : j < l.length) : ((l.take (j + 1)).filter p).length = ((l.take j).filter p).length + (if p l[j] then 1 else 0) := by
  rw [List.take_add_one, List.getElem?_eq_getElem hj, Option.toList_some, List.filter_append, List.length_append]
  congr 1
  cases h : p l[j] <;> simp [h]

set_option maxRecDepth 100000 in
set_option maxHeartbeats 6400000 in
theorem TagsetLoads_any (A : Option Addr) (n c : Nat) (ls : List Act) (hn : ls.length = n) (B : Option Addr) (lx dx : Nat) (x : List UInt8) (hxl : x.length = lx) (hld : lx ≤ dx) (w : World) (hS : ActsAt (fun k => k < w.heap.size) w A ls) (hX : Sees w w.heap.size B (bv x)) (hH : Halves w) :
    Calls Tryz.prog 8 #[.slice A n c, .slice B lx dx] w (IsTrue w) := by
  have hnot : ∀ (x : Bool) (w : World), (Op.unary .not (.bool x)).run Tryz.prog w = .ok (.bool (!x)) w := fun _ _ => rfl
  have HH := Lib.hid hH
  have HN := Lib.hid hn
  have HXL := Lib.hid hxl
  have HX := Lib.hid hX
  have hFw := fun w' (hb : Below w.heap.size w w') => Lib.hid (fewA_any (fun k => k < w.heap.size) A n c ls hn w' (hS.below hb))
  cases hf : fewA ls with
  | false =>
    rw [hf] at hFw
    clear hf hn hxl hX hH
    go_enter Tryz.func8, Tryz.ntmps8
    go_wp2_with fail
    refine (awake_any w HH.out).mono ?_
    rintro e w0 ⟨rfl, hb0⟩
    go_wp2_with fail
    refine (hFw w0 hb0).out.mono ?_
    rintro e w1 ⟨rfl, rfl⟩
    go_wp2
    go_ret
    exact ⟨rfl, hb0⟩
  | true =>
  rw [hf] at hFw
  obtain ⟨hl80, hsh⟩ := fewA_yes hf
  have HL80 := Lib.hid hl80
  rw [hn] at hl80
  have hn80 : n ≤ 80 := hl80
  have HSH := Lib.hid hsh
  by_cases hlong : 5000 < lx
  · have hlong' : (5000 : Int) < (lx : Int) := by omega
    clear hf hn hxl hX hH hsh
    go_enter Tryz.func8, Tryz.ntmps8
    go_wp2_with fail
    refine (awake_any w HH.out).mono ?_
    rintro e w0 ⟨rfl, hb0⟩
    go_wp2_with fail
    refine (hFw w0 hb0).out.mono ?_
    rintro e w1 ⟨rfl, rfl⟩
    go_wp2
    go_ret
    exact ⟨rfl, hb0⟩
  have hshort : (lx : Int) ≤ 5000 := by omega
  have hlx4 : lx ≤ 5000 := by omega
  clear hf hn hxl hX hH hsh hlong
  go_enter Tryz.func8, Tryz.ntmps8
  go_wp2_with fail
  refine (awake_any w HH.out).mono ?_
  rintro e w0 ⟨rfl, hb0⟩
  go_wp2_with fail
  refine (hFw w0 hb0).out.mono ?_
  rintro e w0' ⟨rfl, rfl⟩
  go_wp2_with fail
  refine (new_any w0).mono ?_
  rintro e w1 ⟨rfl, hA1, hb1⟩
  obtain ⟨S, hS1⟩ : ∃ S, w0.heap.size + 1 = S := ⟨_, rfl⟩
  rw [hS1] at hA1 ⊢
  have hs0 := hb0.size
  have hs1 := hb1.size
  have HSC : Hid (Held w.heap.size (fun k => w0.heap.size ≤ k ∧ k < w1.heap.size) (fun _ => False) w1 S (.slice none 0 0) SetM.new) := ⟨hA1, FilesAt.nil _ _, fun k e => e.elim, fun k e => by omega, fun k e => e.elim, by omega⟩
  have hbw2 : Below w.heap.size w w1 := hb0.trans (hb1.mono hb0.size)
  obtain ⟨ti, hti, hz0, hz1, hz2⟩ := info_parts Tryz.sinfo
  clear hA1 hS1 hb0 hb1 hFw
  go_wp2
  go_loopg [8, 9] n (fun g u i wr => ∃ k : Nat, k + g = n ∧ i = .int .i64 k ∧ Hid (∃ m q, Held w.heap.size m q wr S u (SetM.new.plays (ls.take k))) ∧ Below w.heap.size w wr)
  case atStart => exact ⟨0, by omega, rfl, ⟨_, _, HSC.out⟩, hbw2⟩
  case round =>
    obtain ⟨k, hk, rfl, hpair, hb⟩ := hrel
    have hbs := hb.size
    obtain ⟨m, q, hH⟩ := hpair.out
    by_cases hlt : k < n
    · have hkl : k < ls.length := by have := HN.out; omega
      have hfit := plays_fit ls HL80.out k (by omega)
      obtain ⟨s, hs⟩ : ∃ s, SetM.new.plays (ls.take k) = s := ⟨_, rfl⟩
      have hnext := plays_succ SetM.new ls k hkl
      rw [hs] at hH hfit hnext
      obtain ⟨ad, Ai, ci, rfl, had, g0, g1, g2, g3, hci, hsee⟩ := hS.out k hkl
      obtain ⟨y, hy⟩ : ∃ y, ls[k] = y := ⟨_, rfl⟩
      rw [hy] at g0 g1 g2 g3 hci hsee hnext
      have hy450 : y.item.length ≤ 450 := hy ▸ HSH.out k hkl
      obtain ⟨li, hli⟩ : ∃ li, y.item.length = li := ⟨_, rfl⟩
      rw [hli] at g1 hci hy450
      have hKp : Kept (fun k => k < w.heap.size) w wr := Kept.of_below hb fun k e => e
      have hadk : (ad.add (k * 4)).block < w.heap.size := by rw [add_block]; exact had
      have q2 := (hKp.cell (p := ad.add (k * 4)) hadk).trans g0
      have q3 := (hKp.cell (p := ⟨(ad.add (k * 4)).block, (ad.add (k * 4)).off + 1, none⟩) hadk).trans g1
      have q4 := (hKp.cell (p := ⟨(ad.add (k * 4)).block, (ad.add (k * 4)).off + 2, none⟩) hadk).trans g2
      have q5 := (hKp.cell (p := ⟨(ad.add (k * 4)).block, (ad.add (k * 4)).off + 3, none⟩) hadk).trans g3
      have hz := and7 y.kind
      unfold SetM.play at hnext
      obtain ⟨kd, hkd⟩ : ∃ x, y.kind = x := ⟨_, rfl⟩
      obtain ⟨aa, haa⟩ : ∃ x, y.a = x := ⟨_, rfl⟩
      obtain ⟨bb, hbb⟩ : ∃ x, y.b = x := ⟨_, rfl⟩
      rw [hkd] at q2 hz hnext
      rw [haa] at q4 hnext
      rw [hbb] at q5 hnext
      obtain ⟨wx, hwx⟩ : ∃ wx, wr.alloc (.cells #[.int .i64 kd, .slice Ai li ci, .int .i64 aa, .int .i64 bb] 42) = wx := ⟨_, rfl⟩
      have hb1 : Below wr.heap.size wr wx := by rw [← hwx]; exact (Below.refl _ wr).alloc (Nat.le_refl _) _
      have hbox : Box4 wx wr.heap.size 42 (.int .i64 kd) (.slice Ai li ci) (.int .i64 aa) (.int .i64 bb) := by rw [← hwx]; exact Box4.new wr _ rfl _ _ _ _ _
      have hHx := hH.below hb1
      have hDm : ¬ m wr.heap.size := fun e => by have := hH.set.lt _ e; omega
      have hDq : ¬ q wr.heap.size := fun e => by have := (hH.sep _ e).1; omega
      have hbwx := hb.trans (hb1.mono hbs)
      have hsx : Sees wx wx.heap.size Ai (bv y.item) := ((hsee.sees (B := w.heap.size) fun k e => e).below hbwx).more hbwx.size
      obtain ⟨nf, hnf⟩ : ∃ l, s.fs.length = l := ⟨_, rfl⟩
      have hnf9 : nf ≤ 900 := by have := hfit.fs; omega
      obtain ⟨vs, r1, r2, r3⟩ := hHx.row.out
      obtain ⟨A8, c8, hu8, hc8, hm8, hV8⟩ := ownsRow_open r1 r2
      rw [List.length_map, hnf] at r1 hu8 hc8
      subst hu8
      have c0 := hbox.cell0
      have c1 := hbox.cell1
      have c2 := hbox.cell2
      have c3 := hbox.cell3
      have HBX := Lib.hid hbox
      have HHX := Lib.hid hHx
      have HFIT := Lib.hid hfit
      have HNX := Lib.hid hnext
      have HLI := Lib.hid hli
      have HKL := Lib.hid hkl
      have HNF := Lib.hid hnf
      have HR1 := Lib.hid r1
      have HR2 := Lib.hid r2
      have HR3 := Lib.hid r3
      have HV8 := Lib.hid hV8
      have HC8 := Lib.hid (show nf ≤ c8 from hc8)
      have hm9 : 0 ≤ kd % 8 ∧ kd % 8 < 8 := by omega
      have hAd := Lib.hid (add_any m wx S s hHx.set hfit Ai li ci y.item hli (by omega) hsx)
      have hFl := Lib.hid (flush_any m wx S s hHx.set hfit (HH.out.below hbwx HH.out.1))
      clear hH hHx hpair hfit hnext hsee g0 g1 g2 g3 hKp hkd haa hbb hy hli hbox hsx HSC hbw2 hs hnf r1 r2 r3 hV8 hm8 hc8
      have hcase : (kd % 8 = 0 ∨ kd % 8 = 1 ∨ kd % 8 = 2 ∨ kd % 8 = 3 ∨ kd % 8 = 4) ∨ (kd % 8 = 5 ∨ kd % 8 = 6) ∨ kd % 8 = 7 := by omega
      clear hm9
      rcases hcase with hcase | hcase | hcase
      · have HNX2 := Lib.hid (HNX.out.trans (if_pos (by omega)))
        clear hFl
        rcases hcase with e | e | e | e | e
        all_goals
          rw [e] at hz
          clear e
          go_wp2_with fail
          refine hAd.out.mono ?_
          rintro e w4 ⟨rfl, st⟩
          have HST := Lib.hid st
          clear hAd st
          go_wp2
          go_roundg (n - (k + 1))
          case measure => have := HKL.out; have := HN.out; omega
          case rel => exact ⟨k + 1, by omega, by go_num, ⟨m, q, HNX2.out.symm ▸ HHX.out.step HST.out (add_fs _ _)⟩, hbwx.trans (HST.out.turn.below HHX.out.old HHX.out.low)⟩
      · have HNX2 := Lib.hid ((HNX.out.trans (if_neg (by omega))).trans (if_pos (by omega)))
        clear hAd
        by_cases hno : s.mem.length = 0 ∨ 100 ≤ s.fs.length
        · have e1 : s.flush = (s, [], false) := by unfold SetM.flush; rw [if_pos hno]
          rw [e1] at hFl
          have HE1 := Lib.hid e1
          clear e1 hno
          rcases hcase with e | e
          all_goals
            rw [e] at hz
            clear e
            go_wp2_with fail
            refine hFl.out.mono ?_
            rintro e w4 ⟨A4, c4, rfl, fs⟩
            obtain ⟨m', st, -⟩ := fs.out
            have HST := Lib.hid st
            clear hFl st fs
            go_wp2
            go_roundg (n - (k + 1))
            case measure => have := HKL.out; have := HN.out; omega
            case rel => exact ⟨k + 1, by omega, by go_num, ⟨m', q, by rw [HNX2.out, HE1.out]; exact HHX.out.step HST.out rfl⟩, hbwx.trans (HST.out.turn.below HHX.out.old HHX.out.low)⟩
        · have e1 : s.flush = (⟨[], s.fs ++ [s.mem]⟩, fileB s.mem, true) := by unfold SetM.flush; rw [if_neg hno]
          rw [e1] at hFl
          have HE1 := Lib.hid e1
          clear e1 hno
          obtain ⟨fb, hfb⟩ : ∃ l, (fileB s.mem).length = l := ⟨_, rfl⟩
          rw [hfb] at hFl
          have HFB := Lib.hid hfb
          clear hfb
          rcases hcase with e | e
          all_goals
            rw [e] at hz
            clear e
            go_wp2_with fail
            refine hFl.out.mono ?_
            rintro e w4 ⟨A4, c4, rfl, fs⟩
            obtain ⟨m', st, hsee4⟩ := fs.out
            have hcap4 := fs.cap
            have hs4 := st.turn.size
            have o4 := ownsRow_kept HR1.out fun j e => st.turn.block j (HHX.out.sep j (HR2.out j e)).1 (HHX.out.sep j (HR2.out j e)).2
            have HST := Lib.hid st
            have HSEE := Lib.hid hsee4
            have HCAP := Lib.hid hcap4
            clear hFl st fs hsee4 hcap4
            go_wp2_with (at_builtin; (refine wpList_append_v rfl (.tmp 71) (.tmp 73) 31 rfl 27 ti _ 1 24 Tryz.underlying31 hti hz0 hz1 hz2 rfl (by omega) 0 _ nf vs (by rfl) (World.ownsRow.alloc o4 _) (w4.heap.size + 1) (some ⟨w4.heap.size, 0, none⟩) 1 1 [.slice A4 fb c4] (by rfl) rfl (sees_cell w4 _ rfl _ _) (fun u hu => by simp at hu; subst hu; rfl) (by simp only [maxLen]; omega) (by omega) (by omega) ?_; intro v5 w5 hown5 hon5; have HO5 := Lib.hid hown5; have HN5 := Lib.hid hon5; clear hown5 hon5))
            go_roundg (n - (k + 1))
            case measure => have := HKL.out; have := HN.out; omega
            case rel =>
              have hpt := HHX.out.put (w1 := w4) HST.out rfl HSEE.out HCAP.out HR3.out HR2.out ((Below.refl _ w4).alloc (Nat.le_refl _) _) (by rw [HNF.out, HFB.out]; exact HO5.out) HN5.out
              exact ⟨k + 1, by omega, by go_num, ⟨m', _, by rw [HNX2.out, HE1.out]; exact hpt.1⟩, hbwx.trans hpt.2⟩
      · have HNX2 := Lib.hid ((HNX.out.trans (if_neg (by omega))).trans (if_neg (by omega)))
        rw [hcase] at hz
        clear hcase hAd hFl
        by_cases hmay : mayMerge s.fs.length aa bb = true
        · obtain ⟨m1, m2, m3, m4⟩ := may_iff.1 hmay
          obtain ⟨i, rfl⟩ : ∃ i : Nat, aa = i := ⟨aa.toNat, by omega⟩
          obtain ⟨j, rfl⟩ : ∃ j : Nat, bb = j := ⟨bb.toNat, by omega⟩
          have hM := Lib.hid (merge_good m wx S s HHX.out.set HFIT.out (HH.out.below hbwx HH.out.1) i j (by omega) (by omega))
          have hmg : (s.merge i j).1 = ⟨s.mem, s.fs.take i ++ s.join i j :: s.fs.drop (i + j)⟩ := by
            unfold SetM.merge
            rw [if_pos hmay]
            rfl
          have HMG := Lib.hid hmg
          rw [HNF.out] at m3 m4
          obtain ⟨x5, hx5⟩ : ∃ l, s.join i j = l := ⟨_, rfl⟩
          obtain ⟨fb, hfb⟩ : ∃ l, (fileB x5).length = l := ⟨_, rfl⟩
          rw [hx5, hfb] at hM
          have HX5 := Lib.hid hx5
          have HFB := Lib.hid hfb
          obtain ⟨jj, hjj⟩ : ∃ l, i + j = l := ⟨_, rfl⟩
          have HJJ := Lib.hid hjj
          obtain ⟨t, ht⟩ : ∃ l, nf - jj = l := ⟨_, rfl⟩
          have HT := Lib.hid (show t + jj = nf from by omega)
          have hw1 : IntKind.i64.wrap ((i : Int) + (j : Int)) = (jj : Int) := by rw [IntKind.wrap_i64]; omega
          have hc9 := HC8.out
          have y1 : (0 : Int) ≤ (i : Int) := by omega
          have y2 : (2 : Int) ≤ (j : Int) := by omega
          have y3 : (jj : Int) ≤ (nf : Int) := by omega
          have y4 : (i : Int) ≤ (c8 : Int) := by omega
          have y5 : (jj : Int) ≤ (c8 : Int) := by omega
          have y6 : ¬ c8 < i := by omega
          obtain ⟨Fj, hFj⟩ : ∃ Fj, (if c8 = jj then A8 else A8.map (fun x => x.add jj)) = Fj := ⟨_, rfl⟩
          have hrm := HR3.out.mono (q' := q) fun k e => e.1
          have hvl : vs.length = nf := by rw [hrm.len, List.length_map, HNF.out]
          have hV0 : SeesM q wx A8 (vs.take i) := by
            rcases HV8.out.out with e | ⟨a9, e, e1, e2⟩
            · exact ⟨.inl (by rw [e]; simp)⟩
            · exact ⟨.inr ⟨a9, e, e1, fun x u hu => e2 x u (by rw [List.getElem?_take] at hu; split at hu; exact hu; cases hu)⟩⟩
          have hVj : SeesM q wx Fj (vs.drop jj) := by
            rw [← hFj]
            by_cases e : c8 = jj
            · rw [if_pos e]; exact ⟨.inl (List.drop_eq_nil_of_le (by omega))⟩
            · rw [if_neg e]
              rcases HV8.out.out with e0 | ⟨a9, e0, e1, e2⟩
              · exact ⟨.inl (by rw [e0]; simp)⟩
              · exact ⟨.inr ⟨a9.add jj, by rw [e0]; rfl, by rw [add_block]; exact e1, fun x u hu => by rw [add_add']; exact e2 _ u (by rw [← hu, List.getElem?_drop])⟩⟩
          have HV0 := Lib.hid hV0
          have HVJ := Lib.hid hVj
          have H10 := Lib.hid (hrm.take i).cells
          have H1J := Lib.hid (hrm.drop jj).cells
          have HL0 := Lib.hid (show (vs.take i).length = i from by rw [List.length_take]; omega)
          have HLJ := Lib.hid (show (vs.drop jj).length = t from by rw [List.length_drop]; omega)
          obtain ⟨V0, hv0⟩ : ∃ l, vs.take i = l := ⟨_, rfl⟩
          obtain ⟨Vj, hvj⟩ : ∃ l, vs.drop jj = l := ⟨_, rfl⟩
          rw [hv0] at HV0 H10 HL0
          rw [hvj] at HVJ H1J HLJ
          have HE0 := Lib.hid hv0
          have HEJ := Lib.hid hvj
          have HIO := Lib.hid (show i ≤ 900 ∧ t ≤ 900 ∧ i ≤ c8 ∧ jj ≤ c8 ∧ 2 ≤ j from by omega)
          clear hmay m1 m2 m3 m4 hmg hx5 hfb hjj hrm hvl hV0 hVj hv0 hvj hc9
          go_wp2_with fail
          refine hM.out.mono ?_
          rintro e w2 ⟨A1, un, rfl, fs⟩
          obtain ⟨m', st, hsee4⟩ := fs.out
          have hcap4 := fs.cap
          have hs4 := st.turn.size
          have hbox2 := HBX.out.keep (W' := w2) (st.turn.block _ HBX.out.lt hDm)
          have d2 := hbox2.cell2
          have d3 := hbox2.cell3
          have hkq : Kept q wx w2 := Kept.of_turn st.turn HHX.out.sep
          have hVb := (HV0.out.keep hkq).sees (B := w2.heap.size) fun y e => by have := (HHX.out.sep y e).1; omega
          have HST := Lib.hid st
          have HSEE := Lib.hid hsee4
          have HCAP := Lib.hid hcap4
          have HKQ := Lib.hid hkq
          have HBX2 := Lib.hid hbox2
          clear hM st fs hsee4 hcap4 hkq hbox2
          go_wp2_with (first
            | (at_builtin; (refine wpList_append_v rfl (.tmp 107) (.tmp 111) 31 rfl 27 ti _ 1 24 Tryz.underlying31 hti hz0 hz1 hz2 rfl (by omega) w2.heap.size (.slice none 0 0) 0 [] (by rfl) (World.ownsRow_nil _ _ _ _) w2.heap.size A8 i c8 V0 (by rfl) (by rw [HL0.out, Nat.mul_one]) hVb H10.out (by have := HIO.out; simp only [maxLen]; omega) (by have := HIO.out; omega) (Nat.le_refl _) ?_; intro v3 w3 hown3 hon3; rw [List.nil_append, Nat.zero_add] at hown3; have hb3 : Below w2.heap.size w2 w3 := hon3.below_nil; have hs3 := hb3.size; have hsc := sees_cell w3 _ rfl (.slice A1 fb un) 27; have hown3' := World.ownsRow.alloc hown3 (.cells #[.slice A1 fb un] 27)))
            | (at_builtin; (refine wpList_append_v rfl (.tmp 113) (.tmp 115) 31 rfl 27 ti _ 1 24 Tryz.underlying31 hti hz0 hz1 hz2 rfl (by omega) w2.heap.size v3 i V0 (by rfl) hown3' (w3.heap.size + 1) (some ⟨w3.heap.size, 0, none⟩) 1 1 [.slice A1 fb un] (by rfl) rfl hsc (fun u hu => by simp at hu; subst hu; rfl) (by have := HIO.out; simp only [maxLen]; omega) (by have := HIO.out; omega) (by simp; omega) ?_; intro v4 w4 hown4 hon4; have hb4 : Below w2.heap.size w2 w4 := hb3.trans (((Below.refl _ w3).alloc hs3 _).trans (append_below hown3' (by simp; omega) hon4)); have hs44 := hb4.size; have hbox4 := HBX2.out.keep (W' := w4) (hb4.block _ HBX2.out.lt); have d24 := hbox4.cell2; have d34 := hbox4.cell3; have hVJ4 := ((HVJ.out.keep (HKQ.out.trans (Kept.of_below hb4 fun y e => by have := (HHX.out.sep y e).1; omega))).sees (B := w4.heap.size) fun y e => by have := (HHX.out.sep y e).1; omega); have hkdd : c8 - jj < t → False := (fun e => by have := HIO.out; have := HT.out; have := HC8.out; omega)))
            | (at_builtin; (refine wpList_append_v rfl (.tmp 117) (.tmp 124) 31 rfl 27 ti _ 1 24 Tryz.underlying31 hti hz0 hz1 hz2 rfl (by omega) w2.heap.size v4 (i + 1) (V0 ++ [.slice A1 fb un]) (by rfl) hown4 w4.heap.size Fj t (c8 - jj) Vj (by rfl) (by rw [HLJ.out, Nat.mul_one]) hVJ4 H1J.out (by have := HIO.out; simp only [maxLen]; omega) (by have := HIO.out; omega) hs44 ?_; intro v5 w5 hown5 hon5; have hb5 : Below w2.heap.size w2 w5 := hb4.trans (append_below hown4 hs44 hon5); have HO5 := Lib.hid hown5; have HB5 := Lib.hid hb5; clear hown5 hon5 hb5)))
          go_roundg (n - (k + 1))
          case measure => have := HKL.out; have := HN.out; omega
          case rel =>
            have hct := HHX.out.cut (s' := ⟨s.mem, s.fs.take i ++ x5 :: s.fs.drop jj⟩) (w1 := w2) (by rw [← HJJ.out]; exact HST.out) rfl HSEE.out HCAP.out (HR3.out.mono fun k e => e.1) HB5.out (by
              have h1 := HO5.out
              rw [List.append_assoc] at h1
              rw [HE0.out, HEJ.out, HFB.out, show (s.fs.take i ++ x5 :: s.fs.drop jj).length = i + 1 + t from by have := HNF.out; have := HIO.out; have := HT.out; have := HJJ.out; simp; omega]
              exact h1)
            exact ⟨k + 1, by omega, by go_num, ⟨m', _, by rw [HNX2.out, HMG.out, HX5.out, HJJ.out]; exact hct.1⟩, hbwx.trans hct.2⟩
        · have hM := Lib.hid (merge_bad m wx S s HHX.out.set HFIT.out aa bb fun e => hmay (may_iff.2 e))
          have HMG := Lib.hid (show (s.merge aa bb).1 = s from by unfold SetM.merge; rw [if_neg hmay])
          clear hmay
          go_wp2_with fail
          refine hM.out.mono ?_
          rintro e w4 ⟨rfl, rfl⟩
          clear hM
          go_wp2
          go_roundg (n - (k + 1))
          case measure => have := HKL.out; have := HN.out; omega
          case rel => exact ⟨k + 1, by omega, by go_num, ⟨m, q, by rw [HNX2.out, HMG.out]; exact HHX.out⟩, hbwx⟩
    · obtain rfl : k = n := by omega
      have hkl : k ≤ ls.length := by have := HN.out; omega
      have hfit := plays_fit ls HL80.out k hkl
      have hpok := plays_ok ls HL80.out k hkl
      obtain ⟨s, hs⟩ : ∃ s, SetM.new.plays (ls.take k) = s := ⟨_, rfl⟩
      rw [hs] at hH hfit hpok
      obtain ⟨nf, hnf⟩ : ∃ l, s.fs.length = l := ⟨_, rfl⟩
      have hnf80 : nf ≤ 80 := by
        have h1 := fs_le hpok.1.files
        have h2 := hpok.2
        unfold SetM.total at h2
        omega
      obtain ⟨a, ha⟩ : ∃ a, s.all = a := ⟨_, rfl⟩
      have hal : a.length ≤ 80 := by rw [← ha]; have := all_len s; have := hpok.2; omega
      obtain ⟨la, hla⟩ : ∃ l, a.length = l := ⟨_, rfl⟩
      rw [hla] at hal
      obtain ⟨vs, r1, r2, r3⟩ := hH.row.out
      obtain ⟨A8, c8, hu8, hc8, hm8, hV8⟩ := ownsRow_open r1 r2
      obtain ⟨A8', c8', he8, -, hse8⟩ := hH.row.sees2
      rw [hu8] at he8
      injection he8 with he8 _ he9
      subst he8 he9
      rw [List.length_map, hnf] at r1 hu8 hc8
      subst hu8
      have hL1 := Lib.hid (load_good A8 nf c8 s.fs hpok.1.files hnf (by omega) wr (hse8.sees fun k e => (hH.sep k e).1) (HH.out.below hb HH.out.1))
      have HNF := Lib.hid hnf
      have HFIT := Lib.hid hfit
      have HPOK := Lib.hid hpok
      have HR1 := Lib.hid r1
      have HR2 := Lib.hid r2
      have HR3 := Lib.hid r3
      have HHD := Lib.hid hH
      have HA := Lib.hid ha
      have HLA := Lib.hid hla
      clear hpair hH hfit hpok hs hnf ha hla r1 r2 r3 hV8 hse8 hc8 hm8 HSC hbw2 hlt hkl
      go_wp2_with fail
      refine hL1.out.mono ?_
      rintro e w2 ⟨hb2, T, rfl, hT⟩
      have hs2 := hb2.size
      have hPa := Lib.hid (parts_any hT)
      have hFr := Lib.hid (fresh_any hT)
      rw [show (SetM.mk [] s.fs).fs.length = nf from HNF.out] at hPa
      rw [show (SetM.mk [] s.fs).mem.length = 0 from rfl] at hFr
      have o2 := own_below HR1.out hb2
      have HT := Lib.hid hT
      have HB2 := Lib.hid hb2
      clear hL1 hT hb2
      go_wp2_with fail
      refine hPa.out.mono ?_
      rintro e w3 ⟨rfl, rfl⟩
      go_wp2_with fail
      refine hFr.out.mono ?_
      rintro e w3 ⟨rfl, rfl⟩
      clear hPa hFr
      go_wp2_with (first
        | (at_builtin; (refine wpList_append_v rfl (.tmp 150) (.tmp 152) 31 rfl 27 ti _ 1 24 Tryz.underlying31 hti hz0 hz1 hz2 rfl (by omega) 0 _ nf vs (by rfl) (World.ownsRow.alloc o2 _) (w2.heap.size + 1) (some ⟨w2.heap.size, 0, none⟩) 1 1 [.slice B lx dx] (by rfl) rfl (sees_cell w2 _ rfl _ _) (fun u hu => by simp at hu; subst hu; rfl) (by simp only [maxLen]; omega) (by omega) (by omega) ?_; intro v5 w5 hown5 hon5; have HO5 := Lib.hid hown5; have HN5 := Lib.hid hon5; obtain ⟨gv, cv, rfl⟩ := ownsRow_succ hown5; clear hown5 hon5))
        | fail)
      have hba : Below w2.heap.size w2 (w2.alloc (.cells #[.slice B lx dx] 27)) := (Below.refl _ w2).alloc (Nat.le_refl _) _
      have hza := hba.size
      have hz5 := HN5.out.size
      have hlow := HHD.out.low
      have hbw2 : Below w.heap.size w w2 := hb.trans (HB2.out.mono hbs)
      have hbwa := hbw2.trans (hba.mono hbw2.size)
      have hbw5 : Below w.heap.size w w5 := hbwa.trans (HN5.out.below hbwa.size fun k e => HHD.out.oldq k (HR2.out k e))
      have hka : Below wr.heap.size wr (w2.alloc (.cells #[.slice B lx dx] 27)) := HB2.out.trans (hba.mono hs2)
      have hput := FilesAt.put (q := q) (q2 := fun k => k < w.heap.size) (w := w2.alloc (.cells #[.slice B lx dx] 27)) (w' := w5) (bs := s.fs.map fileB) (x := x) (A := B) (c := dx) (fun k e => by have := (HHD.out.sep k e).1; have := hka.size; omega) (HR3.out.keep (Kept.of_below hka fun k e => (HHD.out.sep k e.1).1)) (by rw [HXL.out]; exact hld) (seesM_of (HX.out.below hbwa) fun k e => e) (fun k e => ⟨by have := hbwa.size; omega, fun e' => by have := HHD.out.oldq k (HR2.out k e'); omega⟩) (by rw [List.length_map, HNF.out, HXL.out]; exact HO5.out) HN5.out HR2.out
      obtain ⟨A5', c5', he5, -, hse5⟩ := hput.sees2
      rw [List.length_append, List.length_map, HNF.out] at he5
      injection he5 with he5 _ he6
      subst he5 he6
      have hL2 := Lib.hid (load_last (some ⟨gv, 0, none⟩) (nf + 1) cv s.fs HPOK.out.1.files x (by rw [HXL.out]; omega) (by rw [HNF.out]) (by omega) w5 (hse5.sees fun k e => by
        rcases e with e | e | e
        · have := (HHD.out.sep k e).1; have := hka.size; omega
        · have := hbwa.size; omega
        · exact e.2) (HH.out.below hbw5 HH.out.1))
      have hkeep : Kept (fun k => k < w2.heap.size ∧ ¬ q k) w2 w5 := fun k e => (HN5.out.grown.block k (by omega) fun e' => e.2 (HR2.out k e'.symm)).trans (hba.block k e.1)
      have hT5 := Lib.hid (HT.out.keep (hkeep.mono fun k e => ⟨e.2, fun e' => by have := (HHD.out.sep k e').1; omega⟩) (by omega))
      have hS5 := Lib.hid ((HHD.out.set.below HB2.out).keep (hkeep.mono fun k e => ⟨by have := HHD.out.set.lt k e; omega, fun e' => (HHD.out.sep k e').2 e⟩) (by omega))
      have hXw : ∀ W, Below w.heap.size w W → Sees W W.heap.size B (bv x) := fun W hW => (HX.out.below hW).more hW.size
      have HXW := Lib.hid hXw
      obtain ⟨E, hE⟩ : ∃ E, errB x = E := ⟨_, rfl⟩
      rw [hE] at hL2
      have HE := Lib.hid hE
      have HMLT := Lib.hid HHD.out.set.lt
      have HMOLD := Lib.hid HHD.out.old
      obtain ⟨b, hbt⟩ : ∃ b, (SetM.mk [] s.fs).all = b := ⟨_, rfl⟩
      obtain ⟨p, hp⟩ : ∃ p, (SetM.mk [] s.fs).has = p := ⟨_, rfl⟩
      have hfa := files_all s
      rw [HA.out, hp, hbt] at hfa
      have hft : SetFit (SetM.mk [] s.fs) := ⟨⟨List.Pairwise.nil, by simp, by simp, HPOK.out.1.files⟩, by have := HPOK.out.2; unfold SetM.total at this ⊢; simp only [List.length_nil]; omega⟩
      obtain ⟨lt, hlt⟩ : ∃ l, b.length = l := ⟨_, rfl⟩
      have hltle : lt ≤ la := by rw [← hlt, ← hfa, ← HLA.out]; exact List.length_filter_le _ _
      have hfm : s.flush.1.mem.length = 0 := by
        unfold SetM.flush
        split
        · rename_i h1
          rcases h1 with h1 | h1
          · exact h1
          · have := HNF.out; omega
        · rfl
      have hsh : ∀ y ∈ a, y.length ≤ 400 := fun y hy => by
        rw [← HA.out] at hy
        rcases (mem_all s y).1 hy with e | e
        · obtain ⟨f, hf, e⟩ := List.mem_flatten.1 e
          exact (bad_len (HFIT.out.ok.bad f (List.mem_cons_of_mem _ hf) y e)).2
        · exact (bad_len (HFIT.out.ok.bad s.mem List.mem_cons_self y e)).2
      have HFM := Lib.hid hfm
      have HFA := Lib.hid hfa
      have HFT := Lib.hid hft
      have HP := Lib.hid hp
      have HBT := Lib.hid hbt
      have HLT := Lib.hid hlt
      have HSHO := Lib.hid hsh
      have HBW5 := Lib.hid hbw5
      have hfull : ∀ l : List Item, l.length ≤ 900 → (fromL l []).take (1073741824 : Int).toNat = l := fun l hl => by
        rw [fromL_nil]
        exact List.take_of_length_le (by omega)
      have HFULL := Lib.hid hfull
      clear hba hka hput hse5 hkeep hXw hE hfa hft hlt hfm hsh hfull hp hbt hbwa hbw5
      go_wp2_with fail
      refine hL2.out.mono ?_
      rintro e w6 ⟨hb6, pp, rfl⟩
      have hbw6 := HBW5.out.trans (hb6.mono HBW5.out.size)
      have hT6 := Lib.hid (hT5.out.below hb6)
      have hS6 := Lib.hid (hS5.out.below hb6)
      have hRO := Lib.hid (RefOpen_any B lx dx x HXL.out hld w6 (HXW.out w6 hbw6) (by omega))
      clear hL2 hb6
      go_wp2_with fail
      refine hRO.out.mono ?_
      rintro e w7 ⟨A7, n7, c7, er, l7, rfl, hb7, -, -, -, hor⟩
      obtain rfl : er = E := by
        rw [← HE.out]
        unfold errB
        rcases hor with ⟨h1, h2⟩ | ⟨h1, h2, -⟩
        · rw [h1, h2]; rfl
        · rw [if_pos h1, h2]
      have hbw7 := hbw6.trans (hb7.mono hbw6.size)
      have hT7 := Lib.hid (hT6.out.below hb7)
      have hS7 := Lib.hid (hS6.out.below hb7)
      have hF7 := Lib.hid (setFrom_any hS7.out HFIT.out (x := []) (Bx := none) (lx := 0) (dx := 0) rfl ⟨.inl rfl⟩ 1073741824)
      rw [HA.out, HFULL.out a (by have := HLA.out; omega)] at hF7
      clear hRO hor hb7
      go_wp2_with fail
      refine hF7.out.mono ?_
      rintro e w8 ⟨A9, c9, rfl, hrow, hb8⟩
      rw [HLA.out]
      have hs8 := hb8.size
      have hbw8 := hbw7.trans (hb8.mono hbw7.size)
      have hT8 := Lib.hid (hT7.out.below hb8)
      have hS8 := Lib.hid (hS7.out.below hb8)
      have hse9 : Sees2 w8 w8.heap.size A9 a := hrow.sees.sees fun k e => e.2
      clear hF7 hrow hb8 hT5 hS5 hT6 hS6 hT7 hS7
      go_wp2
      obtain ⟨wp, hwp⟩ : ∃ W, W = w8 := ⟨_, rfl⟩
      subst hwp
      go_loopg [24, 25] la (fun g cn i wy => ∃ j : Nat, j + g = la ∧ i = .int .i64 j ∧ cn = .int .i64 (((a.take j).filter p).length : Nat) ∧ Below wp.heap.size wp wy)
      case atStart => exact ⟨0, by omega, rfl, rfl, Below.refl _ _⟩
      case round =>
        obtain ⟨j, hj, rfl, rfl, hby⟩ := hrel
        have hys := hby.size
        have hbwy := hbw8.trans (hby.mono hbw8.size)
        obtain ⟨cn, hcn⟩ : ∃ l, ((a.take j).filter p).length = l := ⟨_, rfl⟩
        have hcn9 : cn ≤ j := by rw [← hcn]; exact Nat.le_trans (List.length_filter_le _ _) (by rw [List.length_take]; omega)
        have HCN := Lib.hid hcn
        rw [hcn]
        clear hcn
        by_cases hlt2 : j < la
        · have hja : j < a.length := by have := HLA.out; omega
          obtain ⟨ad, Aj, cj, rfl, had, hcell, hcj, hseej⟩ := hse9.out j hja
          have hstep := filter_snoc p a j hja
          have h400 : (a[j]).length ≤ 400 := HSHO.out _ (List.getElem_mem _)
          obtain ⟨y, hy⟩ : ∃ y, a[j] = y := ⟨_, rfl⟩
          rw [hy] at hcell hcj hseej hstep h400
          obtain ⟨ly, hly⟩ : ∃ l, y.length = l := ⟨_, rfl⟩
          rw [hly] at hcell h400
          replace hcell := (hby.cell (p := ad.add j) (by rw [add_block]; exact had)).trans hcell
          have hHs := Lib.hid (setHas_any (dx := cj) (hT8.out.below hby) HFT.out Aj ly y hly (by omega) ((hseej.below hby).more hys))
          rw [HP.out] at hHs
          rw [HCN.out] at hstep
          have HSTEP := Lib.hid hstep
          have HJA := Lib.hid hja
          clear hstep hy hly hseej
          cases hpy : p y with
          | true =>
            rw [hpy] at hHs
            have HST2 := Lib.hid (show ((a.take (j + 1)).filter p).length = cn + 1 from by rw [HSTEP.out, hpy]; rfl)
            clear hpy
            go_wp2_with fail
            refine hHs.out.mono ?_
            rintro e w9 ⟨rfl, hb9⟩
            have HB9 := Lib.hid (hby.trans (hb9.mono hys))
            clear hHs hb9
            go_wp2
            go_roundg (la - (j + 1))
            case measure => omega
            case rel => exact ⟨j + 1, by omega, by go_num, by rw [HST2.out]; go_num, HB9.out⟩
          | false =>
            rw [hpy] at hHs
            have HST2 := Lib.hid (show ((a.take (j + 1)).filter p).length = cn from by rw [HSTEP.out, hpy]; rfl)
            clear hpy
            go_wp2_with fail
            refine hHs.out.mono ?_
            rintro e w9 ⟨rfl, hb9⟩
            have HB9 := Lib.hid (hby.trans (hb9.mono hys))
            clear hHs hb9
            go_wp2
            go_roundg (la - (j + 1))
            case measure => omega
            case rel => exact ⟨j + 1, by omega, by go_num, by rw [HST2.out], HB9.out⟩
        · obtain rfl : cn = lt := by
            have h1 := HCN.out
            rw [List.take_of_length_le (by have := HLA.out; omega), HFA.out, HLT.out] at h1
            exact h1.symm
          have hFl := Lib.hid (flush_any m wr S s (hS8.out.below hby) HFIT.out (HH.out.below hbwy HH.out.1))
          have hTy := Lib.hid (hT8.out.below hby)
          have v1 : IntKind.i64.wrap ((la : Int) - (cn : Int)) = (la : Int) - (cn : Int) := by rw [IntKind.wrap_i64]; omega
          have v2 : IntKind.i64.wrap ((la : Int) - ((la : Int) - (cn : Int))) = (cn : Int) := by rw [IntKind.wrap_i64]; omega
          have v3 : ((la : Int) - (cn : Int)) ≤ 80 := by omega
          clear hcn9 HCN hse9
          go_wp2_with fail
          refine hFl.out.mono ?_
          rintro e w9 ⟨A10, c10, rfl, fs⟩
          obtain ⟨m', st, -⟩ := fs.out
          have hbw9 := hbwy.trans (st.turn.below HMOLD.out hbwy.size)
          have hT9 := Lib.hid (hTy.out.turn st.turn fun k e e' => by have := HMLT.out k e'; omega)
          have hFr := Lib.hid (fresh_any st.set)
          have hF9 := Lib.hid (setFrom_any hT9.out HFT.out (x := []) (Bx := none) (lx := 0) (dx := 0) rfl ⟨.inl rfl⟩ 1073741824)
          rw [HBT.out, HFULL.out b (by have := HLT.out; omega)] at hF9
          rw [HFM.out] at hFr
          have HSET9 := Lib.hid st.set
          clear hFl fs st hFr
          go_wp2_with fail
          refine hF9.out.mono ?_
          rintro e wa ⟨Aa, ca, rfl, -, hba⟩
          rw [HLT.out]
          have hFr := Lib.hid (fresh_any (HSET9.out.below hba))
          rw [HFM.out] at hFr
          have HBA := Lib.hid hba
          clear hF9 hba
          go_wp2_with fail
          refine hFr.out.mono ?_
          rintro e wb ⟨rfl, rfl⟩
          go_wp2
          go_ret
          exact ⟨rfl, hbw9.trans (HBA.out.mono hbw9.size)⟩
end Go.Proofs.YtadakaenbemedaaGreatDoor
