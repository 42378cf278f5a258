/-
  A set's Merge, walked.
-/
import Derived.Test.YtadakaenbemedaaGreatDoorTgReplace
namespace Go.Proofs.YtadakaenbemedaaGreatDoor
open Go.RowKit Go.Maps

theorem own_slice0 {w : World} {e : TypeId} {A : Option Addr} {n c : Nat} {xs : List Value} (h : w.ownsRow 0 e 1 (.slice A n c) n xs) (hn : 0 < n) : ∃ g, A = some ⟨g, 0, none⟩ ∧ g < w.heap.size := by
  rcases h.2 with ⟨e, h0⟩ | ⟨g, cap, cur, e, -, hh, -⟩
  · omega
  · injection e with e
    exact ⟨g, e, (Array.getElem?_eq_some_iff.1 hh).1⟩

/-- Some neighbours' pointers replaced by one. -/
theorem PartsAt.repl {q : Nat → Prop} {w0 w3 : World} {g cap i k : Nat} {fs : List (List Item)} {ps : List Value} {P : Nat} {f : List Item} {B : Nat} {B' : Nat}
    (h3 : ∀ a (ha : a < fs.length), ∃ P, ps[a]? = some (.pointer (some ⟨P, 0, none⟩)) ∧ PartAt (fun k => q k ∧ g ≠ k) w0 P fs[a]) (hpl : ps.length = fs.length) (hik : i + k ≤ fs.length) (hgq : q g)
    (hk : Kept (fun k => q k ∧ g ≠ k) w0 w3) (hP : PartAt (fun k => B ≤ k ∧ k < B') w3 P f) (hB : g < B)
    (hown : w3.ownsRow 0 65 1 (.slice (some ⟨g, 0, none⟩) (ps.take i ++ .pointer (some ⟨P, 0, none⟩) :: ps.drop (i + k)).length cap) (ps.take i ++ .pointer (some ⟨P, 0, none⟩) :: ps.drop (i + k)).length (ps.take i ++ .pointer (some ⟨P, 0, none⟩) :: ps.drop (i + k))) :
    PartsAt (fun k => q k ∨ (B ≤ k ∧ k < B')) w3 (.slice (some ⟨g, 0, none⟩) (fs.take i ++ f :: fs.drop (i + k)).length cap) (fs.take i ++ f :: fs.drop (i + k)) := by
  have hl : (ps.take i ++ Value.pointer (some ⟨P, 0, none⟩) :: ps.drop (i + k)).length = (fs.take i ++ f :: fs.drop (i + k)).length := by simp [hpl]
  rw [hl] at hown
  refine ⟨_, hown, fun a e => .inl (Option.some.inj e ▸ hgq), fun a ha => ?_⟩
  have hti : (fs.take i).length = i := by rw [List.length_take]; omega
  have htp : (ps.take i).length = i := by rw [List.length_take]; omega
  by_cases h1 : a < i
  · obtain ⟨P', g1, g2⟩ := h3 a (by omega)
    refine ⟨P', ?_, ?_⟩
    · rw [List.getElem?_append_left (by omega), List.getElem?_take, if_pos h1]; exact g1
    · rw [List.getElem_append_left (by omega), List.getElem_take]
      exact (g2.keep hk).mono fun x e => ⟨.inl e.1, fun e2 => e.2 (Option.some.inj e2)⟩
  · by_cases h2 : a = i
    · subst h2
      refine ⟨P, ?_, ?_⟩
      · rw [List.getElem?_append_right (by omega), htp]; simp
      · rw [List.getElem_append_right (by omega)]
        simp only [hti, Nat.sub_self, List.getElem_cons_zero]
        exact hP.mono fun x e => ⟨.inr e, fun e2 => by have e3 : g = x := Option.some.inj e2; omega⟩
    · have hlen : (fs.take i ++ f :: fs.drop (i + k)).length = i + 1 + (fs.length - (i + k)) := by rw [List.length_append, hti, List.length_cons, List.length_drop]; omega
      obtain ⟨d, hd⟩ : ∃ d, a = i + 1 + d := ⟨a - i - 1, by omega⟩
      subst hd
      obtain ⟨P', g1, g2⟩ := h3 (i + k + d) (by omega)
      refine ⟨P', ?_, ?_⟩
      · rw [List.getElem?_append_right (by omega), htp, show i + 1 + d - i = d + 1 from by omega, List.getElem?_cons_succ, List.getElem?_drop]; exact g1
      · have e1 : (fs.take i ++ f :: fs.drop (i + k))[i + 1 + d] = fs[i + k + d]'(by omega) := by
          rw [List.getElem_append_right (by omega)]
          simp only [hti, show i + 1 + d - i = d + 1 from by omega, List.getElem_cons_succ, List.getElem_drop]
        rw [e1]
        exact (g2.keep hk).mono fun x e => ⟨.inl e.1, fun e2 => e.2 (Option.some.inj e2)⟩

theorem merge_no {s : SetM} {first many : Int} (h : ¬ (2 ≤ many ∧ 0 ≤ first ∧ first ≤ s.fs.length ∧ many ≤ s.fs.length - first)) : s.merge first many = (s, [], 1) := by
  unfold SetM.merge
  rw [if_neg (fun e => h (may_iff.1 e))]

theorem merge_nil (w : World) : Calls Tryz.prog 25 #[.pointer none, .int .i64 0, .int .i64 2] w fun e w' => e = .returned (.tuple #[.slice none 0 0, .int .i64 1]) ∧ w = w' := by
  have hp := Lib.hid (parts_nil w)
  go_enter Tryz.func25, Tryz.ntmps25
  go_wp2_with fail
  refine hp.out.mono ?_
  rintro e w1 ⟨rfl, rfl⟩
  go_wp2
  go_ret2
  exact ⟨rfl, rfl⟩

set_option maxRecDepth 100000 in
set_option maxHeartbeats 1600000 in
theorem merge_bad (m : Nat → Prop) (w : World) (S : Nat) (s : SetM) (h : SetAt m w S s) (hF : SetFit s) (first many : Int) (hb : ¬ (2 ≤ many ∧ 0 ≤ first ∧ first ≤ s.fs.length ∧ many ≤ s.fs.length - first)) :
    Calls Tryz.prog 25 #[.pointer (some ⟨S, 0, none⟩), .int .i64 first, .int .i64 many] w fun e w' => e = .returned (.tuple #[.slice none 0 0, .int .i64 1]) ∧ w = w' := by
  have hp := Lib.hid (parts_any h)
  have hfs := hF.fs
  obtain ⟨n, hn⟩ : ∃ n, s.fs.length = n := ⟨_, rfl⟩
  rw [hn] at hp hb hfs
  clear h hF hn
  by_cases h1 : many < 2
  · clear hb
    go_enter Tryz.func25, Tryz.ntmps25
    go_wp2_with fail
    refine hp.out.mono ?_
    rintro e w1 ⟨rfl, rfl⟩
    go_wp2
    go_ret2
    exact ⟨rfl, rfl⟩
  have h1' : 2 ≤ many := by omega
  by_cases h2 : first < 0
  · clear hb h1
    go_enter Tryz.func25, Tryz.ntmps25
    go_wp2_with fail
    refine hp.out.mono ?_
    rintro e w1 ⟨rfl, rfl⟩
    go_wp2
    go_ret2
    exact ⟨rfl, rfl⟩
  have h2' : 0 ≤ first := by omega
  by_cases h3 : (n : Int) < first
  · clear hb h1 h2
    go_enter Tryz.func25, Tryz.ntmps25
    go_wp2_with fail
    refine hp.out.mono ?_
    rintro e w1 ⟨rfl, rfl⟩
    go_wp2
    go_ret2
    exact ⟨rfl, rfl⟩
  have h3' : first ≤ (n : Int) := by omega
  have h4 : (n : Int) - first < many := by omega
  have hw : IntKind.i64.wrap ((n : Int) - first) = (n : Int) - first := by rw [IntKind.wrap_i64]; omega
  clear hb h1 h2 h3
  go_enter Tryz.func25, Tryz.ntmps25
  go_wp2_with fail
  refine hp.out.mono ?_
  rintro e w1 ⟨rfl, rfl⟩
  go_wp2
  go_ret2
  exact ⟨rfl, rfl⟩

set_option maxRecDepth 100000 in
set_option maxHeartbeats 3200000 in
theorem merge_good (m : Nat → Prop) (w : World) (S : Nat) (s : SetM) (h : SetAt m w S s) (hF : SetFit s) (hH : Halves w) (i k : Nat) (hk : 2 ≤ k) (hik : i + k ≤ s.fs.length) :
    Calls Tryz.prog 25 #[.pointer (some ⟨S, 0, none⟩), .int .i64 i, .int .i64 k] w fun e w' => ∃ A c, e = .returned (.tuple #[.slice A (fileB (s.join i k)).length c, .int .i64 0]) ∧ FileStep m w w' S ⟨s.mem, s.fs.take i ++ s.join i k :: s.fs.drop (i + k)⟩ A c (fileB (s.join i k)) := by
  have hp := Lib.hid (parts_any h)
  obtain ⟨bm, v, g1, g2, g3, g4, g5, g6, g7, g8⟩ := h.out
  obtain ⟨A, c, rfl, hc, -⟩ := g8.open_
  have hSlt := h.lt S g4
  have hm := h.lt
  have hjok := join_ok hF.ok (by have := hF.total; omega) (i := i) (k := k) (by omega) (by omega)
  obtain ⟨U, hU⟩ : ∃ U, s.join i k = U := ⟨_, rfl⟩
  rw [hU] at hjok ⊢
  obtain ⟨FS, hFS⟩ : ∃ FS, (s.fs.drop i).take k = FS := ⟨_, rfl⟩
  have hFl : FS.length = k := by rw [← hFS, List.length_take, List.length_drop]; omega
  have hUe : uniqL ahead FS.flatten = U := by rw [← hU, ← hFS]; rfl
  have hfl := join_le s i k
  have hft : FS.flatten.length ≤ 900 := by
    have h2 := congrArg List.length (flat_parts s.fs i k)
    rw [List.length_append, List.length_append, hFS] at h2
    have := hF.total; unfold SetM.total at this; omega
  have hFo : ∀ r ∈ FS, ∀ y ∈ r, y.length ≤ 1000 := fun r hr y hy => by
    have : r ∈ s.fs := List.mem_of_mem_drop (List.mem_of_mem_take (hFS ▸ hr))
    have := (bad_len ((build_ok (hF.ok.files r this)).2.1 y hy)).2
    omega
  have hn9 := hF.fs
  obtain ⟨n, hn⟩ : ∃ n, s.fs.length = n := ⟨_, rfl⟩
  rw [hn] at hp g2 hc hik hn9 g8
  obtain ⟨ps, o1, o2, o3⟩ := g8.out
  rw [hn] at o1
  have hpl : ps.length = n := by have := o1.1; omega
  obtain ⟨g, rfl, hgl⟩ := own_slice0 o1 (by omega)
  have hcell : ∀ q (hq : q < k), ∃ P f, FS[q]? = some f ∧ w.cell? ⟨g, i + q, none⟩ = some (.pointer (some ⟨P, 0, none⟩)) ∧ PartAt (fun k => k < w.heap.size) w P f := fun q hq => by
    have hq2 : i + q < s.fs.length := by omega
    obtain ⟨P, p1, p2⟩ := o3 (i + q) hq2
    refine ⟨P, s.fs[i + q]'hq2, ?_, ?_, p2.mono fun x e => hm x e.1.1⟩
    · rw [← hFS, List.getElem?_take, if_pos hq, List.getElem?_drop, List.getElem?_eq_getElem]
    · have := World.ownsRow.cellAt o1 (i + q) (by omega)
      rw [this, p1]
  obtain ⟨j, hj⟩ : ∃ j, i + k = j := ⟨_, rfl⟩
  have hw1 : IntKind.i64.wrap ((i : Int) + (k : Int)) = (j : Int) := by rw [IntKind.wrap_i64]; omega
  obtain ⟨d, hd⟩ : ∃ d, n - i = d := ⟨_, rfl⟩
  have hw2 : IntKind.i64.wrap ((n : Int) - (i : Int)) = (d : Int) := by rw [IntKind.wrap_i64]; omega
  have hjk : j - i = k := by omega
  have hkd : (k : Int) ≤ (d : Int) := by omega
  have hin : (i : Int) ≤ (n : Int) := by omega
  have hk2 : (2 : Int) ≤ (k : Int) := by omega
  have hij : (i : Int) ≤ (j : Int) := by omega
  have hjn : (j : Int) ≤ (n : Int) := by omega
  have hjc : (j : Int) ≤ (c : Int) := by omega
  have hci : ¬ c = i := by omega
  have hni : ¬ n < i := by omega
  have hdk : ¬ d < k := by omega
  have HAt := Lib.hid h
  have HN := Lib.hid hn
  have HC := Lib.hid hcell
  have H7 := Lib.hid g7
  have HO1 := Lib.hid o1
  have HO2 := Lib.hid o2
  have HO3 := Lib.hid o3
  have HPL := Lib.hid hpl
  have HFL := Lib.hid hFl
  have HUE := Lib.hid hUe
  have HFT := Lib.hid hft
  have HFO := Lib.hid hFo
  have HH := Lib.hid hH
  have HBE := Lib.hid hjok
  have HIK := Lib.hid hik
  have HJ := Lib.hid hj
  have HK := Lib.hid hk
  clear h hF hH hn hcell g7 g8 o1 o2 o3 hpl hFl hUe hft hFo hjok hfl hU hFS hik hd hj hk
  go_enter Tryz.func25, Tryz.ntmps25
  go_wp2_with fail
  refine hp.out.mono ?_
  rintro e w1 ⟨rfl, rfl⟩
  go_wp2
  go_loopg [9, 46] k (fun gg u x wr => ∃ q : Nat, q + gg = k ∧ x = .int .i64 q ∧ PileS w.heap.size wr u (FS.take q) ∧ Below w.heap.size w wr)
  case atStart => exact ⟨0, by omega, rfl, PileS.nil _ _ (Nat.le_refl _), Below.refl _ _⟩
  case round =>
    obtain ⟨q, hq, rfl, hP, hb⟩ := hrel
    have hbs := hb.size
    obtain ⟨vs, hvs, hvs2⟩ := hP.out
    by_cases hlt : q < k
    · obtain ⟨P, f, hf, hcl, hPt⟩ := HC.out q hlt
      have hcl2 : wr.cell? ⟨g, i + q, none⟩ = some (.pointer (some ⟨P, 0, none⟩)) := (hb.cell (p := ⟨g, i + q, none⟩) hgl).trans hcl
      have hPr := hPt.later hb
      have hLen := Lib.hid (Len_any hPr)
      have hFr := Lib.hid (From_part (x := []) (Bx := none) (lx := 0) (dx := 0) hPr ⟨.inl rfl⟩ rfl (f.length : Nat))
      rw [show (fromL f []).take ((f.length : Nat) : Int).toNat = f from by rw [fromL_nil, Int.toNat_natCast, List.take_length]] at hFr
      have hT2 : Hid (FS.take (q + 1) = FS.take q ++ [f]) := by
        unfold Hid
        obtain ⟨hq3, e⟩ := List.getElem?_eq_some_iff.1 hf
        rw [List.take_succ_eq_append_getElem hq3, e]
      obtain ⟨tk, htk⟩ : ∃ tk, FS.take q = tk := ⟨_, rfl⟩
      have htl : tk.length = q := by rw [← htk, List.length_take, HFL.out]; omega
      rw [htk] at hP hvs hvs2 hT2
      have HTL := Lib.hid htl
      obtain ⟨lf, hlf⟩ : ∃ lf, f.length = lf := ⟨_, rfl⟩
      rw [hlf] at hLen hFr
      have HLF := Lib.hid hlf
      have hq9 : Hid (q ≤ 900) := by unfold Hid; have := HIK.out; omega
      clear htk htl hf hcl hPt hPr hlf
      go_wp2_with fail
      refine hLen.out.mono ?_
      rintro e w2 ⟨rfl, rfl⟩
      go_wp2_with fail
      refine hFr.out.mono ?_
      rintro e w2 hI
      obtain ⟨A2, c2, rfl, k1, k2, hb2⟩ := hI.rowS
      have hs2 := hb2.size
      rw [HLF.out]
      clear hFr hI hLen
      go_wp2_with (at_builtin; (refine wpList_append_p rfl (.tmp 50) (.tmp 55) rfl w.heap.size _ tk.length vs (by rfl) (own_below hvs (hb2.trans ((Below.refl _ w2).alloc hs2 (.cells #[.slice A2 lf c2] 31)))) (w2.heap.size + 1) (some ⟨w2.heap.size, 0, none⟩) (.slice A2 lf c2) (by rfl) (sees_cell w2 _ rfl _ _) rfl (by have := HTL.out; have := hq9.out; omega) (by simp; omega) ?_; intro v3 w3 hown3 hon3))
      have hP3 := hP.push (x := f) (hb2.trans ((Below.refl _ w2).alloc hs2 (.cells #[.slice A2 lf c2] 31))) ((k2.keep (Kept.of_below ((Below.refl _ w2).alloc (Nat.le_refl _) _) fun k e => e.2)).mono fun k e => ⟨e.1, by simp; omega⟩) k1 vs hvs hvs2 (by rw [HLF.out]; exact hown3) hon3
      have hb3 : Below w.heap.size w w3 := hb.trans ((hb2.mono hbs).trans (((Below.refl _ w2).alloc (by omega) _).trans (hon3.below (by simp; omega) fun g e => (World.ownsRow.lt hvs g e).1)))
      go_roundg (k - (q + 1))
      case measure => omega
      case rel => exact ⟨q + 1, by omega, by go_num, by rw [hT2.out]; exact hP3, hb3⟩
    · obtain rfl : q = k := by omega
      have hE : Hid (FS.take q = FS) := by unfold Hid; rw [List.take_of_length_le (by rw [HFL.out]; exact Nat.le_refl _)]
      rw [hE.out] at hP
      obtain ⟨Al, cl, rfl, hcl, hS3⟩ := hP.sees
      have hI := Lib.hid (Items_q Al q cl FS wr hS3 HFL.out (by have := HIK.out; omega) (by have := HFT.out; omega) HFO.out)
      rw [HUE.out] at hI
      rw [HFL.out]
      clear hP hvs hvs2 hlt
      go_wp2_with fail
      refine hI.out.mono ?_
      rintro e w1 ⟨v1, rfl, hQ, hb1'⟩
      obtain ⟨A1, c1, rfl, hc1, hS1⟩ := hQ.open_
      have hb1 := hb.trans (hb1'.mono hbs)
      obtain ⟨un, hun⟩ : ∃ un, U.length = un := ⟨_, rfl⟩
      have HUN := Lib.hid hun
      rw [hun] at hc1 ⊢
      have hun9 : Hid (un ≤ 2000) := by unfold Hid; rw [← hun]; exact (build_ok HBE.out).2.2.2
      clear hun hI
      have hB := Lib.hid (Build_good A1 un c1 U HUN.out hc1 w1 (hS1.sees fun k e => e.2) (HH.out.below hb1 HH.out.1) (by have := hun9.out; omega) HBE.out)
      go_wp2_with fail
      refine hB.out.mono ?_
      rintro e w2 ⟨v2, rfl, hown2, hb2'⟩
      have hb2 := hb1.trans (hb2'.mono hb1.size)
      obtain ⟨A2, c2, rfl, hc2, -, -, hS2⟩ := hown2.open_
      have hM2 := ownB_seesM hown2
      obtain ⟨fb, hfb⟩ : ∃ fb, (fileB U).length = fb := ⟨_, rfl⟩
      have hfl := file_len2 HBE.out
      rw [hfb] at hfl hc2 ⊢
      have HFB := Lib.hid hfb
      have hO := Lib.hid (Open_good A2 fb c2 (fileB U) hfb hc2 (by omega) w2 hS2 (HH.out.below hb2 HH.out.1) U (open_file HBE.out))
      clear hB hown2 hfb
      go_wp2_with fail
      refine hO.out.mono ?_
      rintro e w3 ⟨P, rfl, hP, hb3'⟩
      have hb3 := hb2.trans (hb3'.mono hb2.size)
      have hs1 := hb1.size
      have hs2 := hb2.size
      have hs3 := hb3.size
      have hs23 := hb3'.size
      have hk3 : Kept m w w3 := Kept.of_below hb3 hm
      have c1' := (hk3.cell (p := ⟨S, 1, none⟩) g4).trans g2
      have f1 := (frozen_of_block (a := ⟨S, 1, none⟩) (hk3 S g4)).trans g3
      have o1 := World.ownsRow.alloc (own_below HO1.out hb3) (.cells #[.pointer (some ⟨P, 0, none⟩)] 65)
      have hSl3 : S < w3.heap.size := by omega
      have hRp := Lib.hid (replace_any (w3.alloc (.cells #[.pointer (some ⟨P, 0, none⟩)] 65)) g n c ps o1 w3.heap.size (.pointer (some ⟨P, 0, none⟩)) (by rw [World.cell?_alloc_at _ _ _ _ rfl]; rfl) rfl (fun u hu => by
        obtain ⟨a, ha, rfl⟩ := List.mem_iff_getElem.1 hu
        obtain ⟨P', p1, -⟩ := HO3.out a (by rw [HN.out, ← HPL.out]; exact ha)
        rw [List.getElem?_eq_getElem ha] at p1
        rw [Option.some.inj p1]; rfl) i j (by have := HJ.out; have := HK.out; omega) (by have := HJ.out; have := HIK.out; omega) (by omega))
      clear hO o1
      go_wp2_with fail
      refine hRp.out.mono ?_
      rintro e w5 ⟨rfl, hown5, ht5, hz5⟩
      have hnS : S ≠ g := fun e => (HO2.out g rfl).2.1 e.symm
      have hk5 : Kept (fun x => x < w3.heap.size ∧ x ≠ g) w3 w5 := fun x hx => (ht5.block x (by simp; omega) hx.2).trans (Below.heap_alloc _ _ x hx.1)
      have d1 := (hk5.cell (p := ⟨S, 1, none⟩) ⟨hSl3, hnS⟩).trans c1'
      have e1 := (frozen_of_block (a := ⟨S, 1, none⟩) (hk5 S ⟨hSl3, hnS⟩)).trans f1
      obtain ⟨N, hN⟩ : ∃ N, (ps.take i ++ Value.pointer (some ⟨P, 0, none⟩) :: ps.drop j).length = N := ⟨_, rfl⟩
      rw [hN]
      have HNN := Lib.hid hN
      clear hN hRp
      go_wp2
      go_ret2
      have hbm := hm bm g5
      have hgm : m g := (HO2.out g rfl).1
      have hgb : g ≠ bm := (HO2.out g rfl).2.2
      have hz3 : (w3.alloc (.cells #[.pointer (some ⟨P, 0, none⟩)] 65)).heap.size = w3.heap.size + 1 := by simp
      have hkq : Kept (fun x => (m x ∧ x ≠ S ∧ x ≠ bm) ∧ g ≠ x) w w5 := fun x e => (hk5 x ⟨by have := hm x e.1.1; omega, fun e2 => e.2 e2.symm⟩).trans (hk3 x e.1.1)
      have hP5 : PartAt (fun x => w2.heap.size ≤ x ∧ x < w3.heap.size) w5 P U := hP.keep fun x e => hk5 x ⟨e.2, by omega⟩
      have hrep := PartsAt.repl (q := fun x => m x ∧ x ≠ S ∧ x ≠ bm) (w0 := w) (fs := s.fs) (f := U) (i := i) (k := q) (g := g) (cap := c) (P := P) (B := w2.heap.size) (B' := w3.heap.size)
        (fun a ha => by obtain ⟨P', p1, p2⟩ := HO3.out a ha; exact ⟨P', p1, p2.mono fun x e => ⟨e.1, fun e2 => e.2 (by rw [e2]; rfl)⟩⟩) (by rw [HPL.out, HN.out]) (by rw [HN.out]; exact HIK.out) ⟨hgm, fun e => hnS e.symm, hgb⟩ hkq hP5 (by omega) (by rw [HJ.out]; exact hown5)
      rw [HJ.out] at hrep ⊢
      have hNe : (s.fs.take i ++ U :: s.fs.drop j).length = N := by rw [← HNN.out]; simp [HPL.out, HN.out]
      rw [hNe] at hrep
      have hk6 : Kept (fun x => x ≠ S) w5 (w5.setCell ⟨S, 1, none⟩ (.slice (some ⟨g, 0, none⟩) N c)) := fun x hx => Below.heap_setCell _ _ _ _ hx
      have hz6 : (w5.setCell ⟨S, 1, none⟩ (.slice (some ⟨g, 0, none⟩) N c)).heap.size = w3.heap.size + 1 := by rw [World.size_setCell, hz5, hz3]
      refine ⟨A2, c2, by rw [HFB.out]; rfl, by rw [HFB.out]; exact hc2, fun x => m x ∨ (w2.heap.size ≤ x ∧ x < w3.heap.size), ⟨⟨⟨bm, .slice (some ⟨g, 0, none⟩) N c, ?_, ?_, ?_, .inl g4, .inl g5, g6, ?_, ?_⟩, fun x e => by rw [hz6]; rcases e with e | e; have := hm x e; omega; omega⟩, ?_, fun x e => by rw [hz6]; rcases e with e | e; exact .inl e; exact .inr ⟨by omega, by omega⟩⟩, ?_⟩
      · refine (World.cell?_setCell_other _ _ _ _ (by simp)).trans ((hk5.cell (p := ⟨S, 0, none⟩) ⟨hSl3, hnS⟩).trans ((hk3.cell (p := ⟨S, 0, none⟩) g4).trans g1))
      · exact World.cell?_setCell_same _ _ _ d1
      · rw [World.frozen?_setCell]; exact e1
      · exact H7.out.keep ((hk6 bm g6).trans ((hk5 bm ⟨by omega, fun e => hgb e.symm⟩).trans (hk3 bm g5)))
      · refine (hrep.keep (hk6.mono fun x e => ?_)).mono fun x e => ?_
        · rcases e with e | e
          · exact e.2.1
          · omega
        · rcases e with e | e
          · exact ⟨.inl e.1, e.2⟩
          · exact ⟨.inr e, by omega, by omega⟩
      · refine (((Turn.of_new hb3).trans' (Turn.alloc w3 (.cells #[.pointer (some ⟨P, 0, none⟩)] 65)) (T' := m) fun _ _ e => e).trans' (ht5.mono (T' := m) fun x _ e => e ▸ hgm) fun _ _ e => e).trans (Turn.setCell _ ⟨S, 1, none⟩ _ g4)
      · refine (hM2.keep (w' := w5.setCell ⟨S, 1, none⟩ (.slice (some ⟨g, 0, none⟩) N c)) fun x e => ((hk6 x (by omega)).trans (hk5 x ⟨by omega, by omega⟩)).trans (hb3'.block x e.2)).mono fun x e => ⟨by omega, by rw [hz6]; omega, fun e2 => by rcases e2 with e2 | e2; have := hm x e2; omega; omega⟩
end Go.Proofs.YtadakaenbemedaaGreatDoor
