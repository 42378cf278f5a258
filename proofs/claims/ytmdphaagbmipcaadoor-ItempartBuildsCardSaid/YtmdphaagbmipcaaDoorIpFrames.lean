/-
  The bodies of the blocks of bytes: the iterator, walked.
-/
import Derived.Test.YtmdphaagbmipcaaDoorIpHas
import Derived.Test.YtmdphaagbmipcaaDoorFrm
namespace Go.Proofs.YtmdphaagbmipcaaDoor
open Go.RowKit Go.Shelf

attribute [local go_sem] Oper.semAt_some

/-- The bodies of the blocks of bytes, an error at the end where there is one. -/
def framesL : Nat → List UInt8 → List (Item × Nat)
  | 0, _ => []
  | f + 1, b => if (fnext b).2.2.2 ≠ 0 then [([], (fnext b).2.2.2)] else if (fnext b).1 ≠ 1 then [] else ((fnext b).2.1, 0) :: framesL f (fnext b).2.2.1
theorem fnext_ok {b : List UInt8} (h : (fnext b).2.2.2 = 0) : (fnext b).2.2.1.length < b.length ∧ (fnext b).2.1.length < b.length := by
  cases b with
  | nil => simp [fnext] at h
  | cons k t =>
    simp only [fnext] at h ⊢
    split at h
    · rename_i h1; exact absurd h h1
    · rename_i h1
      rw [if_neg h1]
      split at h
      · simp at h
      · rename_i h2
        rw [if_neg h2]
        split at h
        · simp at h
        · rename_i h3
          rw [if_neg h3]
          split at h
          · rename_i h4
            rw [if_pos h4]
            simp only [List.length_drop, List.length_take, List.length_cons] at *
            omega
          · simp at h

theorem framesL_fuel : ∀ (f f' : Nat) (b : List UInt8), b.length < f → b.length < f' → framesL f b = framesL f' b
  | 0, _, _, h, _ => by omega
  | _, 0, _, _, h => by omega
  | f + 1, f' + 1, b, h, h' => by
    simp only [framesL]
    split
    · rfl
    · rename_i he
      split
      · rfl
      · have h1 := (fnext_ok (b := b) (by omega)).1
        rw [framesL_fuel f f' _ (by omega) (by omega)]

abbrev Framed := (Item × Nat) × (Option Addr × Nat)
def Framed.vals (y : Framed) : Array Value := #[.slice y.2.1 y.1.1.length y.2.2, .int .i64 (y.1.2 : Nat)]
def FrameOk (n0 : Nat) (L : List (Item × Nat)) (s : Nat → Prop) (pre : List Framed) (y : Framed) (W : World) : Prop :=
  SeesM (fun k => s k ∧ k < W.heap.size) W y.2.1 (bv y.1.1) ∧ y.1.1.length ≤ y.2.2 ∧ (pre.map (·.1) ++ [y.1]) <+: L ∧ n0 ≤ W.heap.size

theorem frames_any (B : Option Addr) (n c : Nat) (w : World) : Calls Tryd.prog 36 #[.slice B n c] w fun e w' =>
    e = .returned (.func (.func 56) #[] #[.pointer (some ⟨w.heap.size, 0, none⟩)]) ∧ w' = w.alloc (.cells #[.slice B n c] 23) := by
  go_enter Tryd.func36, Tryd.ntmps36
  go_wp2
  go_ret
  exact ⟨rfl, rfl⟩

theorem mine_seesM {w : World} {base : Nat} {A : Option Addr} {l : List UInt8} (h : Mine w base A l) : SeesM (fun k => base ≤ k ∧ k < w.heap.size) w A (bv l) := by
  rcases h.out with e | ⟨g, o, e, hb, hc⟩
  · subst e; exact ⟨.inl rfl⟩
  · by_cases hl : l = []
    · subst hl; exact ⟨.inl rfl⟩
    · have h0 := (hc 0 (by cases l with | nil => exact absurd rfl hl | cons a t => simp)).1
      refine ⟨.inr ⟨_, e, ⟨hb, by have := World.block_lt_of_cell? w _ h0; simpa using this⟩, fun j u hu => ?_⟩⟩
      have hj : j < l.length := by
        have := (List.getElem?_eq_some_iff.1 hu).1
        rwa [bv_length] at this
      rw [Addr.add_lit, (hc j hj).1]
      rw [bv_at l j hj] at hu
      exact hu

set_option maxRecDepth 100000 in
set_option maxHeartbeats 3200000 in
theorem frames1_seq {w : World} {b : List UInt8} {A : Option Addr} {nb c : Nat} (n0 : Nat) (hb : Sees w n0 A (bv b)) (hbl : b.length = nb) (hbc : nb ≤ c) (hb6 : nb ≤ 1000000) (hH : Halves w) (hg0 : 1 + 1 ≤ n0) (B0 : Nat) (h1 : Box1 w B0 23 (.slice A nb c)) (hn0 : n0 ≤ B0) (n : Nat) :
    SeqT Fence.wide n Tryd.prog 56 #[.pointer (some ⟨B0, 0, none⟩)] Framed.vals (fun k => k < n0) (fun k => k = B0) (FrameOk n0 (framesL (nb + 1) b)) (fun xs => xs.map (·.1) = framesL (nb + 1) b) (fun pre => pre.map (·.1) <+: framesL (nb + 1) b) (framesL (nb + 1) b).length w := by
  intro l J Jx W hW hJ hJx hY h0
  have hB0 := h1.lt
  have hbW : SeesM (fun k => k < n0) W A (bv b) := hb.toM.keep (Kept.of_below hW fun k hk => by omega)
  have h1W := h1.below hW hB0
  have hHW := hH.below hW (by omega)
  have hsW := hW.size
  clear hb h1 hH hW
  obtain ⟨L, hL⟩ : ∃ L, framesL (nb + 1) b = L := ⟨_, rfl⟩
  rw [hL] at hY ⊢
  have HL := Lib.hid hL
  have HBL := Lib.hid hbl
  clear hL hbl
  refine callsIn_of_wp Tryd.func56 rfl trivial ?_ rfl
  simp only [Tryd.ntmps56, Framed.vals, List.size_toArray, List.length_cons, List.length_nil, Nat.reduceAdd, Nat.reduceSub, Array.replicate_succ, Array.replicate_zero, List.push_toArray, List.append_toArray, List.nil_append, List.cons_append]
  gi_wp2_with fail
  gi_loopg [3] nb (fun g _ wr => ∃ (r : List UInt8) (Ar : Option Addr) (cr : Nat) (s : Nat → Prop) (pre : List Framed), r.length = g ∧ g ≤ nb ∧ g ≤ cr ∧ J s pre wr ∧ Box1 wr B0 23 (.slice Ar g cr) ∧ SeesM (fun k => s k ∨ k < n0) wr Ar (bv r) ∧ Halves wr ∧ s B0 ∧ (∀ k, s k → k < wr.heap.size) ∧ n0 ≤ wr.heap.size ∧ Hid (L = pre.map (·.1) ++ framesL (g + 1) r))
  case atStart => exact ⟨b, A, c, _, [], HBL.out, Nat.le_refl _, hbc, h0, h1W, hbW.mono fun k e => .inr e, hHW, rfl, fun k e => by subst e; omega, by omega, HL.out.symm⟩
  case round =>
    obtain ⟨r, Ar, cr, s, pre, hr, hgn, hgc, hJs, hbx, hsee, hHr, hsB, hsl, hnr, heq⟩ := hrel
    have hcb := hbx.cell
    have hfb := hbx.frozen
    have hN := Lib.hid (Next_any Ar gk cr r hr hgc wr (hsee.sees (fun k e => by rcases e with e | e; exact hsl k e; omega)) hHr (by omega))
    obtain ⟨kd, bd, rs, e, hf⟩ : ∃ kd bd rs e, fnext r = (kd, bd, rs, e) := ⟨_, _, _, _, rfl⟩
    have hok := fnext_ok (b := r)
    have hst : framesL (gk + 1) r = if e ≠ 0 then [([], e)] else if kd ≠ 1 then [] else (bd, 0) :: framesL gk rs := by
      simp only [framesL, hf]
    rw [hf] at hN hok
    rw [hst] at heq
    unfold NextIs at hN
    simp only at hN hok
    have HOK := Lib.hid hok
    have HR := Lib.hid hr
    clear hok hf hst hr
    have hB0r := hbx.lt
    gi_wp2_with fail
    refine ⟨trivial, fun h => absurd h (by simp [Fence.wide]), (callsIn_wide.2 hN.out).mono ?_⟩
    rintro en w1 ⟨A1, n1, c1, v1, rfl, hbd, hbdc, hmine, hown, hb1⟩
    clear hN
    have hs1 := hb1.size
    have hJ1 := hJ _ _ _ _ hJs (Turn.of_new hb1)
    have hH1 := hHr.below hb1 (by omega)
    have hbx1 := hbx.below hb1 hB0r
    have hsl1 : ∀ k, grown s wr w1 k → k < w1.heap.size := fun k hk => by rcases hk with hk | hk; have := hsl k hk; omega; exact hk.2
    have hok1 : SeesM (fun k => grown s wr w1 k ∧ k < w1.heap.size) w1 A1 (bv bd) := (mine_seesM hmine).mono fun k hk => ⟨.inr hk, hk.2⟩
    obtain ⟨A2, c2, e2, hc2, -, -, -⟩ := hown.open_
    have hs2 : SeesM (fun k => grown s wr w1 k) w1 A2 (bv rs) := by
      rw [e2] at hown
      exact (ownB_seesM hown).mono fun k hk => .inr hk
    have hs2' : SeesM (fun k => grown s wr w1 k ∧ k ≠ B0) w1 A2 (bv rs) := by
      rw [e2] at hown
      exact (ownB_seesM hown).mono fun k hk => ⟨.inr hk, by omega⟩
    obtain ⟨n2, hn2⟩ : ∃ n2, rs.length = n2 := ⟨_, rfl⟩
    rw [hn2] at e2 hc2
    subst e2
    have HN2 := Lib.hid hn2
    have HBD := Lib.hid hbd
    have hgs : grown s wr w1 B0 := .inl hsB
    clear hn2 hbd hJs hown hmine hbx hcb hfb
    generalize hgen : grown s wr w1 = s1 at *
    clear hgen
    by_cases he : e = 0
    · subst he
      have hke : ((0 : Nat) : Int) = 0 := rfl
      rw [if_neg (by simp)] at heq
      by_cases hk1 : kd = 1
      · subst hk1
        rw [if_neg (by simp)] at heq
        have hlt : n2 < gk := by have := (HOK.out rfl).1; have h1 := HR.out; have h2 := HN2.out; omega
        have hp : (pre.map (·.1) ++ [(bd, 0)]) <+: L := by
          rw [heq.out, show pre.map (·.1) ++ (bd, 0) :: framesL gk rs = (pre.map (·.1) ++ [(bd, 0)]) ++ framesL gk rs from by simp]
          exact List.prefix_append _ _
        have hfr : Hid (framesL gk rs = framesL (n2 + 1) rs) := framesL_fuel _ _ _ (by rw [HN2.out]; exact hlt) (by rw [HN2.out]; omega)
        have hY1 := hY s1 pre ((bd, 0), (A1, c1)) w1 hJ1 (by have := hp.length_le; rw [List.length_append, List.length_map, List.length_singleton] at this; omega) ⟨hok1, by show bd.length ≤ c1; rw [HBD.out]; exact hbdc, hp, by omega⟩
        obtain ⟨fn, tmps, assign, body, hyy, hR⟩ := hY1
        dsimp only [Framed.vals] at hyy
        rw [HBD.out] at hyy
        have hyy' : (Instr.yield l #[.slice A1 n1 c1, .int .i64 0]).run Tryd.prog w1 = _ := hyy
        have HP := Lib.hid hp
        have HQ := Lib.hid heq
        clear hp hyy heq
        gi_wp2_with fail
        refine ⟨fun h => absurd h (by simp [Fence.wide]), hR.mono ?_⟩
        rintro e w4 (⟨rfl, hJ4, ht4⟩ | ⟨rfl, hJx4, -⟩)
        · have hk4 : Kept (fun k => s1 k ∨ k < n0) w1 w4 := Kept.of_turn ht4 (fun k hk => ⟨by rcases hk with hk | hk; exact hsl1 k hk; omega, fun e => by rcases hk with hk | hk; exact e.1 hk; exact e.2 hk⟩)
          have hbx4 : Box1 w4 B0 23 (.slice Ar gk cr) := hbx1.turn ht4 (fun e => e.1 hgs)
          have hcb4 := hbx4.cell
          have hfb4 := hbx4.frozen
          have hs4 := ht4.size
          have hT5 : Turn s1 w4 (w4.setCell ⟨B0, 0, none⟩ (.slice A2 n2 c2)) := Turn.setCell _ _ _ hgs
          have hJ5 := hJ _ _ _ _ hJ4 hT5
          have hbx5 := hbx4.set (.slice A2 n2 c2)
          have hk5 : Kept (fun k => (s1 k ∨ k < n0) ∧ k ≠ B0) w4 (w4.setCell ⟨B0, 0, none⟩ (.slice A2 n2 c2)) := fun k hk => Below.heap_setCell _ _ _ _ hk.2
          have hs5 : SeesM (fun k => grown s1 w4 (w4.setCell ⟨B0, 0, none⟩ (.slice A2 n2 c2)) k ∨ k < n0) (w4.setCell ⟨B0, 0, none⟩ (.slice A2 n2 c2)) A2 (bv rs) := by
            have h1 := hs2'.keep (hk4.mono fun k e => .inl e.1)
            exact (h1.keep (hk5.mono fun k e => ⟨.inl e.1, e.2⟩)).mono fun k e => .inl (.inl e.1)
          have hH5 : Halves (w4.setCell ⟨B0, 0, none⟩ (.slice A2 n2 c2)) := by
            refine ⟨by rw [World.size_setCell]; have := hH1.1; omega, fun i hi => ?_⟩
            have h1 := hH1.2 i hi
            rw [← h1]
            exact (hk5.cell (p := ⟨1, i, none⟩) ⟨.inr (by simp only; omega), by simp only; omega⟩).trans (hk4.cell (p := ⟨1, i, none⟩) (.inr (by simp only; omega)))
          gi_wp2_with fail
          gi_roundg n2
          case measure => omega
          case rel => exact ⟨rs, A2, c2, _, pre ++ [((bd, 0), (A1, c1))], HN2.out, by omega, hc2, hJ5, hbx5, hs5, hH5, .inl hgs, fun k hk => by rw [World.size_setCell]; rcases hk with hk | hk; have := hsl1 k hk; omega; have := hk.2; rw [World.size_setCell] at this; exact this, by rw [World.size_setCell]; omega, by unfold Hid; rw [HQ.out, hfr.out, List.map_append, List.append_assoc]; rfl⟩
        · gi_wp2_with fail
          refine bodyPost_ret (results_none rfl _ _ _) rfl ?_
          exact ⟨⟨_, rfl⟩, .inr ⟨s1, _, by rw [List.map_append]; exact HP.out, hJx4⟩⟩
      · have hkz : ((kd : Int) != 1) = true := by rw [bne_iff_ne]; omega
        rw [if_pos hk1, List.append_nil] at heq
        have HQ := Lib.hid heq
        clear heq hk1
        gi_wp2_with fail
        refine ⟨fun _ _ => trivial, ?_⟩
        gi_wp2_with fail
        refine bodyPost_ret (results_none rfl _ _ _) rfl ?_
        exact ⟨⟨_, rfl⟩, .inl ⟨s1, pre, HQ.out.symm, hJ1⟩⟩
    · have hez : ((e : Int) != 0) = true := by rw [bne_iff_ne]; omega
      rw [if_pos he] at heq
      have hp : (pre.map (·.1) ++ [([], e)]) <+: L := by rw [heq]; exact List.prefix_refl _
      have hY1 := hY s1 pre (([], e), (none, 0)) w1 hJ1 (by have := hp.length_le; rw [List.length_append, List.length_map, List.length_singleton] at this; omega) ⟨⟨.inl rfl⟩, Nat.le_refl _, hp, by omega⟩
      obtain ⟨fn, tmps, assign, body, hyy, hR⟩ := hY1
      have hyy' : (Instr.yield l #[.slice none 0 0, .int .i64 (e : Int)]).run Tryd.prog w1 = _ := hyy
      have HQ := Lib.hid heq
      clear hp hyy heq he
      gi_wp2_with fail
      refine ⟨fun h => absurd h (by simp [Fence.wide]), hR.mono ?_⟩
      rintro e w4 (⟨rfl, hJ4, ht4⟩ | ⟨rfl, hJx4, -⟩)
      · gi_wp2_with fail
        refine bodyPost_ret (results_none rfl _ _ _) rfl ?_
        exact ⟨⟨_, rfl⟩, .inl ⟨s1, _, by show List.map _ _ = L; rw [HQ.out, List.map_append]; rfl, hJ4⟩⟩
      · gi_wp2_with fail
        refine bodyPost_ret (results_none rfl _ _ _) rfl ?_
        exact ⟨⟨_, rfl⟩, .inr ⟨s1, _, by rw [List.map_append, HQ.out]; exact List.prefix_refl _, hJx4⟩⟩
end Go.Proofs.YtmdphaagbmipcaaDoor
