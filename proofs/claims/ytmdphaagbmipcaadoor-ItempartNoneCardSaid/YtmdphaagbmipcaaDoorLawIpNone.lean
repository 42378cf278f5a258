/-
  The law ItempartNone, walked: a part that is none has nothing; what is told is new memory.
-/
import Derived.Test.YtmdphaagbmipcaaDoorIpTurn
namespace Go.Proofs.YtmdphaagbmipcaaDoor
open Go.RowKit

theorem cell_set {W : World} {a : Addr} {u : Value} (p : Addr) (v : Value) (h : W.cell? a = some u) : (W.setCell p v).cell? a = some u ∨ (W.setCell p v).cell? a = some v := by
  by_cases e : p = a
  · subst e; exact .inr (World.cell?_setCell_same W p v h)
  · exact .inl ((World.cell?_setCell_other W p a v e).trans h)
theorem frozen_set (W : World) (p a : Addr) (v : Value) : (W.setCell p v).frozen? a = W.frozen? a := by simp

/-- Some bytes, in a block of m, unfrozen. -/
structure BytesAt (W : World) (m : Nat → Prop) (A : Option Addr) (n : Nat) : Prop where
  out : ∀ j, j < n → ∃ ad, A = some ad ∧ m ad.block ∧ ∃ b : UInt8, W.cell? (ad.add j) = some (.int .u8 (b.toNat : Int)) ∧ W.frozen? (ad.add j) = false
theorem BytesAt.set {W : World} {m : Nat → Prop} {A : Option Addr} {n : Nat} (h : BytesAt W m A n) (p : Addr) (z : UInt8) : BytesAt (W.setCell p (.int .u8 (z.toNat : Int))) m A n :=
  ⟨fun j hj => by
    obtain ⟨ad, h1, h2, b, h3, h4⟩ := h.out j hj
    rcases cell_set p (.int .u8 (z.toNat : Int)) h3 with e | e
    · exact ⟨ad, h1, h2, b, e, (frozen_set _ _ _ _).trans h4⟩
    · exact ⟨ad, h1, h2, z, e, (frozen_set _ _ _ _).trans h4⟩⟩
/-- A row of rows of some bytes, the rows not in the row's own block. -/
structure RowAt (W : World) (q : Nat → Prop) (A : Option Addr) (Y : List Item) : Prop where
  out : ∀ i (hi : i < Y.length), ∃ ad Ai ci, A = some ad ∧ q ad.block ∧ W.cell? (ad.add i) = some (.slice Ai (Y[i]).length ci) ∧ (Y[i]).length ≤ ci ∧ BytesAt W (fun k => q k ∧ k ≠ ad.block) Ai (Y[i]).length
theorem RowAt.set {W : World} {q : Nat → Prop} {A : Option Addr} {Y : List Item} (h : RowAt W q A Y) (p : Addr) (hp : ∀ ad, A = some ad → p.block ≠ ad.block) (z : UInt8) : RowAt (W.setCell p (.int .u8 (z.toNat : Int))) q A Y :=
  ⟨fun i hi => by
    obtain ⟨ad, Ai, ci, h1, h2, h3, h4, h5⟩ := h.out i hi
    exact ⟨ad, Ai, ci, h1, h2, (World.cell?_setCell_far _ _ _ _ (by rw [add_block]; exact hp ad h1)).trans h3, h4, h5.set p z⟩⟩
theorem RowAt.drew {W : World} {q : Nat → Prop} {A : Option Addr} {Y : List Item} (h : RowAt W q A Y) : RowAt W.drew q A Y := ⟨fun i hi => by
    obtain ⟨ad, Ai, ci, h1, h2, h3, h4, h5⟩ := h.out i hi
    exact ⟨ad, Ai, ci, h1, h2, h3, h4, ⟨h5.out⟩⟩⟩
theorem OwnQ.rowAt {q : Nat → Prop} {w : World} {base : Nat} {v : Value} {ls : List (List UInt8)} (h : OwnQ q w base v ls) : ∃ A c, v = .slice A ls.length c ∧ ls.length ≤ c ∧ RowAt w q A ls := by
  obtain ⟨vs, h1, h2, h3⟩ := h.out
  rcases h1.2 with ⟨rfl, hn⟩ | ⟨g, cap, cur, rfl, hb, hh, hc, hm, _⟩
  · have : ls = [] := List.eq_nil_of_length_eq_zero hn
    subst this
    exact ⟨none, 0, rfl, by simp, ⟨fun i hi => absurd hi (by simp)⟩⟩
  · refine ⟨_, cap, rfl, hc, ⟨fun i hi => ?_⟩⟩
    obtain ⟨Ai, ci, g1, g2, g3⟩ := h3 i hi
    refine ⟨_, Ai, ci, rfl, h2 g rfl, h1.cells (g := g) rfl i _ g1, g2, ⟨fun j hj => ?_⟩⟩
    rcases g3.out with e | ⟨ad, e, ⟨e1, e2⟩, e3⟩
    · exfalso
      have : (bv ls[i]).length = 0 := by rw [e]; rfl
      simp [bv] at this
      rw [this] at hj
      simp at hj
    · have hg : (bv ls[i])[j]? = some (.int .u8 ((ls[i])[j].toNat : Int)) := by simp [bv, List.getElem?_eq_getElem hj]
      exact ⟨ad, e, ⟨e1, fun e4 => e2 (by rw [e4]; rfl)⟩, _, (e3 j _ hg).1, (e3 j _ hg).2⟩
theorem xor255 (b : UInt8) : ∃ z : UInt8, bits .xor .u8 (b.toNat : Int) 255 = (z.toNat : Int) := by
  have hb := b.toNat_lt
  have hlt : b.toNat ^^^ 255 < 256 := Nat.xor_lt_two_pow (n := 8) (by omega) (by omega)
  refine ⟨UInt8.ofNat (b.toNat ^^^ 255), ?_⟩
  rw [u8_nat _ hlt]
  exact u8_xor_nat _ 255 (by omega) (by omega)

theorem From_partQ {w : World} {P : Nat} {ls : List Item} {Bx : Option Addr} {lx dx : Nat} {x : Item} (h : PartAt (fun k => k < w.heap.size) w P ls) (hx : Sees w w.heap.size Bx (bv x)) (hxl : x.length = lx) (most : Int) :
    Calls Tryd.prog 16 #[.pointer (some ⟨P, 0, none⟩), .slice Bx lx dx, .int .i64 most] w fun e w' => ∃ v, e = .returned v ∧ OwnQ (fun k => w.heap.size ≤ k ∧ k < w'.heap.size) w' w.heap.size v ((fromL ls x).take most.toNat) ∧ Below w.heap.size w w' := by
  have hs := seqFrom_part h (fun k e => e) x Bx lx dx hx hxl
  rw [fromY_eq h.well h.many] at hs
  exact From_own w _ Bx lx dx most (fromL ls x) (fun y hy => (ok_short h.well y (List.mem_filter.1 hy).1).2) (Nat.le_trans (List.length_filter_le _ _) h.few) hs

set_option maxRecDepth 100000 in
set_option maxHeartbeats 3200000 in
theorem ItempartNone_small (A : Option Addr) (n c : Nat) (ls : List Item) (Bx : Option Addr) (lx dx : Nat) (x : Item) (hn : ls.length = n) (hnc : n ≤ c) (hxl : x.length = lx) (hf : fewB ls = true) (hlx : lx ≤ 300) (w : World) (hS : Sees2 w w.heap.size A ls) (hx : Sees w w.heap.size Bx (bv x)) (hH : Halves w) :
    Calls Tryd.prog 8 #[.slice A n c, .slice Bx lx dx] w (IsTrue w) := by
  have hnot : ∀ (x : Bool) (w : World), (Op.unary .not (.bool x)).run Tryd.prog w = .ok (.bool (!x)) w := fun _ _ => rfl
  obtain ⟨h100, h500⟩ := few_yes hf
  have H500 := Lib.hid h500
  have hn100 : n ≤ 100 := by omega
  have hg0 := hH.1
  have HF := Lib.hid hf
  have HN := Lib.hid hn
  have HXL := Lib.hid hxl
  obtain ⟨k, hk⟩ : ∃ k, buildE ls = k := ⟨_, rfl⟩
  have HK := Lib.hid hk
  have H100 := Lib.hid h100
  clear hn hf hk hxl h100 h500
  go_enter Tryd.func8, Tryd.ntmps8
  go_wp2_with fail
  refine (awake_any w hH).mono ?_
  rintro e w1 ⟨rfl, hb1⟩
  have hs1 := hb1.size
  have hS1 := (hS.below hb1).more hs1
  have hFew := few_any A n c ls HN.out w1 hS1
  rw [HF.out] at hFew
  go_wp2_with fail
  refine hFew.mono ?_
  rintro e w2 ⟨rfl, rfl⟩
  clear hFew hS1
  go_wp2_with fail
  refine (Len_nil w1).mono ?_
  rintro e w2 ⟨rfl, rfl⟩
  go_wp2_with fail
  refine (Blocks_nil w1).mono ?_
  rintro e w2 ⟨rfl, rfl⟩
  go_wp2_with fail
  refine (First_nil w1).mono ?_
  rintro e w2 ⟨rfl, rfl⟩
  go_wp2_with fail
  refine (Last_nil w1).mono ?_
  rintro e w2 ⟨rfl, rfl⟩
  go_wp2_with fail
  refine (Has_nil w1 Bx lx dx x ((hx.below hb1).more hs1) HXL.out).mono ?_
  rintro e w2 ⟨rfl, hb2'⟩
  have hb2 := hb1.trans (hb2'.mono hs1)
  clear hb2'
  go_wp2_with fail
  refine (From_nil w2 Bx lx dx 5).mono ?_
  rintro e w3 hIs
  obtain ⟨A3, c3, rfl, -, -, hb3'⟩ := hIs.open_
  rw [show ([] : List Item).length = 0 from rfl]
  have hb3 := hb2.trans (hb3'.mono hb2.size)
  clear hb3' hIs
  go_wp2_with fail
  refine (Prefix_nil w3 Bx lx dx x ((hx.below hb3).more hb3.size) HXL.out).mono ?_
  rintro e w4 hIs
  obtain ⟨A4, c4, rfl, -, -, hb4'⟩ := hIs.open_
  rw [show ([] : List Item).length = 0 from rfl]
  have hb4 := hb3.trans (hb4'.mono hb3.size)
  have hS4 := (hS.below hb4).more hb4.size
  have hH4 := hH.below hb4 hg0
  clear hb4' hIs hb2 hb3 hb1 hs1
  by_cases hk0 : k = 0
  · subst hk0
    have hBu := Lib.hid (Build_good A n c ls HN.out hnc w4 hS4 hH4 (by omega) HK.out)
    obtain ⟨hF4, hF6⟩ := file_len HK.out H100.out
    have hop := open_file HK.out
    obtain ⟨F, hFe⟩ : ∃ F, fileB ls = F := ⟨_, rfl⟩
    obtain ⟨N, hNe⟩ : ∃ N, F.length = N := ⟨_, rfl⟩
    rw [hFe] at hop hF4 hF6
    rw [hNe] at hF4 hF6
    have HFE := Lib.hid hFe
    have HNE := Lib.hid hNe
    have HOP := Lib.hid hop
    clear hFe hNe hop
    go_wp2_with fail
    refine hBu.out.mono ?_
    rintro e w5 ⟨v5, rfl, hown5, hb5'⟩
    rw [HFE.out] at hown5
    obtain ⟨A5, c5, rfl, hc5, hm5, hown5', hS5⟩ := hown5.open_
    rw [HNE.out] at hc5 hown5' ⊢
    obtain ⟨g, rfl, hg1, hg2⟩ := own_at hown5' (by have := HNE.out; omega)
    have hrow5 : w5.ownsRow w4.heap.size 5 1 (.slice (some ⟨g, 0, none⟩) N c5) N (bv F) := by have h1 := hown5'; unfold OwnB at h1; rw [HNE.out] at h1; exact h1
    have hb5 := hb4.trans (hb5'.mono hb4.size)
    have hg45 := hb4.size
    have hO := Lib.hid (Open_good _ N c5 F HNE.out hc5 (by omega) w5 hS5 (hH.below hb5 hg0) ls HOP.out)
    clear hBu hown5 hown5' hS5 hb5' hS4 hH4
    go_wp2_with fail
    refine hO.out.mono ?_
    rintro e w6 ⟨P, rfl, hp6, hb6'⟩
    have hb6 := hb5.trans (hb6'.mono hb5.size)
    have hrow6 := own_below hrow5 hb6'
    have hz56 := hb6'.size
    clear hO hrow5 hb5
    go_wp2
    go_loopg [12] N (fun g' i wr => ∃ (k : Nat) (l : List UInt8), k + g' = N ∧ i = .int .i64 k ∧ Hid (l.length = N) ∧ wr.ownsRow w4.heap.size 5 1 (.slice (some ⟨g, 0, none⟩) N c5) N (bv l) ∧ PartAt (fun k => w5.heap.size ≤ k ∧ k < w6.heap.size) wr P ls ∧ Below w.heap.size w wr ∧ w6.heap.size ≤ wr.heap.size)
    case atStart => exact ⟨0, F, by omega, rfl, HNE.out, hrow6, hp6, hb6, Nat.le_refl _⟩
    case round =>
      obtain ⟨k, l, hk, rfl, HL, hrow, hp, hb, hz⟩ := hrel
      by_cases hlt : k < N
      · have hc0 := World.ownsRow.cellAt hrow k (by omega)
        have hf0 := World.ownsRow.frozenAt hrow k
        have hxF : ((bv l)[k]?).isSome = true := by simp [bv]; have := HL.out; omega
        obtain ⟨y, hy⟩ := Option.isSome_iff_exists.1 hxF
        rw [hy] at hc0
        have hownS := World.ownsRow.stored hrow k (.int .u8 (((0 : UInt8).toNat : Nat) : Int))
        have hset : (bv l).set k (.int .u8 (((0 : UInt8).toNat : Nat) : Int)) = bv (l.set k 0) := by simp [bv, List.map_set]
        rw [hset] at hownS
        have hpk : PartAt (fun k => w5.heap.size ≤ k ∧ k < w6.heap.size) (wr.setCell ⟨g, k, none⟩ (.int .u8 (((0 : UInt8).toNat : Nat) : Int))) P ls := hp.keep fun j hj => Below.heap_setCell _ _ _ _ (by simp only; omega)
        have hbk := hb.setCell (p := ⟨g, k, none⟩) (by simp only []; omega) (.int .u8 (((0 : UInt8).toNat : Nat) : Int))
        clear hxF hy hset
        go_wp2
        go_roundg (N - (k + 1))
        case measure => omega
        case rel => exact ⟨k + 1, l.set k 0, by omega, by go_num, by unfold Hid; rw [List.length_set, HL.out], hownS.1, hpk, hbk, by rw [World.size_setCell]; exact hz⟩
      · have hpw : PartAt (fun k => k < wr.heap.size) wr P ls := hp.mono fun k e => by omega
        have hFr := From_partQ (Bx := none) (lx := 0) (dx := 0) (x := []) hpw ⟨.inl rfl⟩ rfl 3
        rw [fromL_nil, show ((3 : Int)).toNat = 3 from rfl] at hFr
        have HFr := Lib.hid hFr
        clear hFr hrow HL hp
        go_wp2_with fail
        refine HFr.out.mono ?_
        rintro e w7 ⟨v7, rfl, hown7, hb7'⟩
        obtain ⟨A7, c7, rfl, hc7, hrow7⟩ := hown7.rowAt
        obtain ⟨Y, hY⟩ : ∃ Y, ls.take 3 = Y := ⟨_, rfl⟩
        rw [hY] at hc7 hrow7 ⊢
        obtain ⟨m, hm⟩ : ∃ m, Y.length = m := ⟨_, rfl⟩
        rw [hm] at hc7 ⊢
        have HY := Lib.hid hY
        have HM := Lib.hid hm
        have hm3 : m ≤ 3 := by rw [← hm, ← hY, List.length_take]; omega
        have hb7 := hb.trans (hb7'.mono hb.size)
        have hp7 := hpw.keep (Kept.of_below hb7' fun k e => e)
        have hwr := hb.size
        have hw7 := hb7'.size
        obtain ⟨z0, hz0⟩ : ∃ z0, wr.heap.size = z0 := ⟨_, rfl⟩
        simp only [hz0] at hrow7 hp7
        rw [hz0] at hwr hw7
        clear HFr hown7 hpw hY hm hb7' hz0 hb hz
        go_wp2
        go_loopg [14] m (fun g' i wx => ∃ (k : Nat), k + g' = m ∧ i = .int .i64 k ∧ RowAt wx (fun k => z0 ≤ k ∧ k < w7.heap.size) A7 Y ∧ PartAt (fun k => k < z0) wx P ls ∧ Below w.heap.size w wx ∧ w7.heap.size ≤ wx.heap.size)
        case atStart => exact ⟨0, by omega, rfl, hrow7, hp7, hb7, Nat.le_refl _⟩
        case round =>
          obtain ⟨i, hi, rfl, hrow, hp, hbx, hzx⟩ := hrel
          by_cases hlt2 : i < m
          · obtain ⟨ad, Ai, ci, rfl, hadq, -, -, -⟩ := hrow.out i (by have := HM.out; omega)
            obtain ⟨Li, hLi⟩ : ∃ Li, (Y[i]'(by have := HM.out; omega)).length = Li := ⟨_, rfl⟩
            have hL500 : Li ≤ 500 := by
              have h1 : Y[i]'(by have := HM.out; omega) ∈ ls.take 3 := by rw [HY.out]; exact List.getElem_mem _
              obtain ⟨j, hj, e⟩ := List.mem_iff_getElem.1 (List.mem_of_mem_take h1)
              have h2 := H500.out j hj
              rwa [e, hLi] at h2
            have HLI := Lib.hid hLi
            clear hLi
            go_wp2
            go_loopg [15] Li (fun g2 u wy => ∃ (j : Nat), j + g2 = Li ∧ u = .int .i64 j ∧ RowAt wy (fun k => z0 ≤ k ∧ k < w7.heap.size) (some ad) Y ∧ PartAt (fun k => k < z0) wy P ls ∧ Below w.heap.size w wy ∧ w7.heap.size ≤ wy.heap.size)
            case atStart => exact ⟨0, by omega, rfl, hrow, hp, hbx, hzx⟩
            case round =>
              obtain ⟨j, hj, rfl, hrow2, hp2, hby, hzy⟩ := hrel
              obtain ⟨ad2, Ai2, ci2, hade, hadq2, hcell, hci, hby2⟩ := hrow2.out i (by have := HM.out; omega)
              obtain rfl := Option.some.inj hade
              rw [HLI.out] at hcell hci hby2
              by_cases hlt3 : j < Li
              · obtain ⟨adi, rfl, ⟨⟨hq1, hq3⟩, hq2⟩, b, hbc, hbf⟩ := hby2.out j hlt3
                obtain ⟨z, hz3⟩ := xor255 b
                have hbfd : wr.drew.frozen? (adi.add j) = false := hbf
                have hbcd : wr.drew.cell? (adi.add j) = some (.int .u8 (b.toNat : Int)) := hbc
                have hrowE := hrow2.drew.set (adi.add j) (fun a e => by obtain rfl := Option.some.inj e; rw [add_block]; exact hq2) z
                have hpE : PartAt (fun k => k < z0) (wr.drew.setCell (adi.add j) (.int .u8 (z.toNat : Int))) P ls := (hp2.keep (w' := wr.drew) fun _ _ => rfl).keep fun k hk => Below.heap_setCell _ _ _ _ (by rw [add_block]; omega)
                have hbE : Below w.heap.size w (wr.drew.setCell (adi.add j) (.int .u8 (z.toNat : Int))) := (below_drew hby).setCell (by rw [add_block]; omega) _
                have hzE : w7.heap.size ≤ (wr.drew.setCell (adi.add j) (.int .u8 (z.toNat : Int))).heap.size := by rw [World.size_setCell]; exact hzy
                clear hrow2 hp2 hby hby2 hrow hp hbx hzy hzx hrow7 hp7 hb7
                go_wp2
                go_still_tail 14, (by kernel_rfl)
                change wpList _ _ _ _ _ wr.drew
                go_wp2
                go_roundg (Li - (j + 1))
                case measure => omega
                case rel => exact ⟨j + 1, by omega, by go_num, hrowE, hpE, hbE, hzE⟩
              · clear hby2 hrow hp hbx hzx hrow7 hp7 hb7
                go_wp2
                go_roundg (m - (i + 1))
                case measure => omega
                case rel => exact ⟨i + 1, by omega, by go_num, hrow2, hp2, hby, hzy⟩
          · have hpw : PartAt (fun k => k < wr.heap.size) wr P ls := hp.mono fun k e => by omega
            have hFr := From_part (Bx := none) (lx := 0) (dx := 0) (x := []) hpw ⟨.inl rfl⟩ rfl 1073741824
            rw [fromL_nil, show ((1073741824 : Int)).toNat = 1073741824 from rfl, List.take_of_length_le (by have := HN.out; omega)] at hFr
            have HFr := Lib.hid hFr
            clear hFr hrow hp hrow7 hp7 hb7
            go_wp2_with fail
            refine HFr.out.mono ?_
            rintro e w8 hIs
            obtain ⟨A8, c8, rfl, hc8, hS8, hb8'⟩ := hIs.open_
            have hb8 := hbx.trans (hb8'.mono hbx.size)
            have hp8 := hpw.later hb8'
            rw [HN.out] at hc8 ⊢
            have hsm := Same_any A8 A n c8 n c ls ls HN.out HN.out w8 hS8 ((hS.below hb8).more hb8.size) (by omega)
            unfold BoolIs at hsm
            rw [show (ls == ls) = true from by simp] at hsm
            have HSM := Lib.hid hsm
            clear hsm hIs HFr hpw hS8 hb8'
            go_wp2_with fail
            refine HSM.out.mono ?_
            rintro e w9 ⟨rfl, q, hw9⟩
            have hb9' : Below w8.heap.size w8 w9 := by rw [hw9]; exact below_d (Below.refl _ _) _
            have hb9 := hb8.trans (hb9'.mono hb8.size)
            have hp9 := hp8.later hb9'
            have hFr := From_part (Bx := none) (lx := 0) (dx := 0) (x := []) hp9 ⟨.inl rfl⟩ rfl 0
            rw [fromL_nil, show ((0 : Int)).toNat = 0 from rfl, List.take_zero] at hFr
            have HFr := Lib.hid hFr
            clear HSM hw9 hp8 hb9' hFr
            go_wp2_with fail
            refine HFr.out.mono ?_
            rintro e wa hIs
            obtain ⟨Aa, ca, rfl, -, -, hba'⟩ := hIs.open_
            rw [show ([] : List Item).length = 0 from rfl]
            have hba := hb9.trans (hba'.mono hb9.size)
            have hpa := hp9.later hba'
            have hFr := From_part (Bx := none) (lx := 0) (dx := 0) (x := []) hpa ⟨.inl rfl⟩ rfl (-5)
            rw [fromL_nil, show ((-5 : Int)).toNat = 0 from rfl, List.take_zero] at hFr
            have HFr2 := Lib.hid hFr
            clear HFr hp9 hba' hFr hIs
            go_wp2_with fail
            refine HFr2.out.mono ?_
            rintro e wb hIs
            obtain ⟨Ab, cb, rfl, -, -, hbb'⟩ := hIs.open_
            rw [show ([] : List Item).length = 0 from rfl]
            have hbb := hba.trans (hbb'.mono hba.size)
            clear HFr2 hIs
            go_wp2_with fail
            go_ret
            exact ⟨by simp, hbb⟩
  · have hz : ((k : Int) != 0) = true := by rw [bne_iff_ne]; omega
    have hBu := Lib.hid (Build_bad A n c ls HN.out hnc w4 hS4 hH4 (by omega) k HK.out hk0)
    go_wp2_with fail
    refine hBu.out.mono ?_
    rintro e w5 ⟨A', c', rfl, hb5⟩
    have hb05 := hb4.trans (hb5.mono hb4.size)
    go_wp2_with fail
    go_ret
    exact ⟨by simp, hb05⟩

set_option maxRecDepth 100000 in
set_option maxHeartbeats 400000 in
theorem ItempartNone_any (A : Option Addr) (n c : Nat) (ls : List Item) (Bx : Option Addr) (lx dx : Nat) (x : Item) (hn : ls.length = n) (hnc : n ≤ c) (hxl : x.length = lx) (w : World) (hS : Sees2 w w.heap.size A ls) (hx : Sees w w.heap.size Bx (bv x)) (hH : Halves w) :
    Calls Tryd.prog 8 #[.slice A n c, .slice Bx lx dx] w (IsTrue w) := by
  obtain ⟨b, hb⟩ : ∃ b, fewB ls = b := ⟨_, rfl⟩
  have hnot : ∀ (x : Bool) (w : World), (Op.unary .not (.bool x)).run Tryd.prog w = .ok (.bool (!x)) w := fun _ _ => rfl
  have hF := fun (w : World) (h : Sees2 w w.heap.size A ls) => few_any A n c ls hn w h
  by_cases hy : b = true ∧ lx ≤ 300
  · exact ItempartNone_small A n c ls Bx lx dx x hn hnc hxl (hb.trans hy.1) hy.2 w hS hx hH
  · rw [hb] at hF
    have HF := Lib.hid hF
    clear hn hb hF hxl
    go_enter Tryd.func8, Tryd.ntmps8
    go_wp2_with fail
    refine (awake_any w hH).mono ?_
    rintro e w1 ⟨rfl, hb1⟩
    go_wp2_with fail
    refine (HF.out w1 ((hS.below hb1).more hb1.size)).mono ?_
    rintro e w2 ⟨rfl, rfl⟩
    cases b with
    | true =>
      have hlx : ¬ lx ≤ 300 := fun e => hy ⟨rfl, e⟩
      go_wp2_with fail
      go_ret
      exact ⟨rfl, hb1⟩
    | false =>
      clear hy
      go_wp2_with fail
      go_ret
      exact ⟨rfl, hb1⟩
end Go.Proofs.YtmdphaagbmipcaaDoor
