/-
  A part's items from one on: the iterator, walked.
-/
import Derived.Test.YtmdphaagbmipcaaDoorIpFrom
namespace Go.Proofs.YtmdphaagbmipcaaDoor
open Go.RowKit Go.Shelf

attribute [local go_sem] Oper.semAt_some

theorem flat_pre {α β : Type} (f : α → List β) {L : List α} {k : Nat} (h : k < L.length) (j : Nat) : (L.take k).flatMap f ++ (f L[k]).take j <+: L.flatMap f := by
  have e : L.flatMap f = (L.take k).flatMap f ++ (f L[k] ++ (L.drop (k + 1)).flatMap f) := by
    rw [← List.flatMap_cons, ← List.flatMap_append, ← List.drop_eq_getElem_cons h, List.take_append_drop]
  rw [e, List.prefix_append_right_inj]
  exact (List.take_prefix _ _).trans (List.prefix_append _ _)
theorem flat_step {α β : Type} (f : α → List β) {L : List α} {k : Nat} (h : k < L.length) : (L.take (k + 1)).flatMap f = (L.take k).flatMap f ++ f L[k] := by
  rw [take_snoc h, List.flatMap_append, List.flatMap_cons, List.flatMap_nil, List.append_nil]
theorem told_len {pre : List Told} {y : Item} {Y : List Item} (h : (pre.map (·.1) ++ [y]) <+: Y) : pre.length < Y.length := by
  have := h.length_le
  rw [List.length_append, List.length_map, List.length_singleton] at this
  omega

set_option maxRecDepth 100000 in
set_option maxHeartbeats 3200000 in
theorem from1_seq {m : Nat → Prop} {w : World} {P : Nat} {ls : List Item} (h : PartAt m w P ls) (n0 : Nat) (hm : ∀ k, m k → k < n0) (x : Item) (Bx : Option Addr) (lx dx : Nat) (hx : Sees w n0 Bx (bv x)) (hxl : x.length = lx) (B1 B2 : Nat)
    (h1 : w.cell? ⟨B1, 0, none⟩ = some (.pointer (some ⟨P, 0, none⟩))) (h2 : w.cell? ⟨B2, 0, none⟩ = some (.slice Bx lx dx)) (hB1 : B1 < w.heap.size) (hB2 : B2 < w.heap.size) (hn0 : n0 ≤ w.heap.size) (n : Nat) :
    SeqT Fence.wide n Tryd.prog 62 #[.pointer (some ⟨B1, 0, none⟩), .pointer (some ⟨B2, 0, none⟩)] Told.vals (fun k => k < n0 ∨ k = B1 ∨ k = B2) (fun _ => False) (FromOk n0 (fromY ls x)) (fun xs => xs.map (·.1) = fromY ls x) (fun pre => pre.map (·.1) <+: fromY ls x) (fromY ls x).length w := by
  intro l J Jx W hW hJ hJx hY h0
  have hro : Fence.wide.round = none := rfl
  have hkR : Kept (fun k => k < n0 ∨ k = B1 ∨ k = B2) w W := Kept.of_below hW (fun k hk => by rcases hk with hk | rfl | rfl <;> omega)
  have hP := h.keep (hkR.mono fun k hk => .inl (hm k hk))
  have hxW : SeesM (fun k => k < n0) W Bx (bv x) := hx.toM.keep (hkR.mono fun k hk => .inl hk)
  have h1W := (hkR.cell (p := ⟨B1, 0, none⟩) (.inr (.inl rfl))).trans h1
  have h2W := (hkR.cell (p := ⟨B2, 0, none⟩) (.inr (.inr rfl))).trans h2
  have hnW : n0 ≤ W.heap.size := Nat.le_trans hn0 hW.size
  clear h hx h1 h2 hkR
  have hmW : ∀ k, m k → k < W.heap.size := fun k hk => by have := hm k hk; omega
  have hL := Lib.hid (Len_any hP)
  obtain ⟨X, AB, AF, cB, cF, p1, p2, p3, p4, p5, p6, p7, p8, p9, p10⟩ := hP.out
  have hAt := fun q => Lib.hid (at_any X AF Bx (blk ls).length cF lx dx (firstsB ls) x (by simp [firstsB]) hxl (W.drewN q) p6 ((p10.sees hmW).drew q) ((hxW.sees (fun k hk => by show k < W.heap.size; omega)).drewN q) (by have := blk_length ls; have := hP.few; omega) (firsts_rise hP.well))
  have hat := firstNot_at_most (ls := firstsB ls) (x := x) (by simpa [firstsB] using hP.pos)
  have hfl : (firstsB ls).length = (blk ls).length := by simp [firstsB]
  rw [hfl] at hat
  have hYd : fromY ls x = ((blk ls).drop (atB (firstsB ls) x)).flatMap fun o => o.drop (firstNot x o) := rfl
  obtain ⟨k0, hk0⟩ : ∃ k0, atB (firstsB ls) x = k0 := ⟨_, rfl⟩
  obtain ⟨Y, hYY⟩ : ∃ Y, fromY ls x = Y := ⟨_, rfl⟩
  rw [hk0] at hAt hat hYd
  rw [hYY] at hYd hY ⊢
  obtain ⟨N, hN⟩ : ∃ N, (blk ls).length = N := ⟨_, rfl⟩
  rw [hN] at p4 p6 p7 hat
  have hn0' : ((ls.length : Int) == 0) = false := by rw [beq_eq_false_iff_ne]; have := hP.many; omega
  obtain ⟨nl, hnl⟩ : ∃ nl, ls.length = nl := ⟨_, rfl⟩
  rw [hnl] at hL hn0'
  have HYD := Lib.hid hYd
  have HN := Lib.hid hN
  have hN250 : N ≤ 250 := by have h1 := blk_length ls; have h2 := hP.few; omega
  have p9' := Lib.hid p9
  have HXL := Lib.hid hxl
  have hwell := Lib.hid hP.well
  have hkept : Kept (fun k => k < n0 ∨ k = B1 ∨ k = B2) W W := Kept.refl _ _
  clear hYd hYY hk0 hN hnl p9 p10 hfl hP p5 hxl
  refine callsIn_of_wp Tryd.func62 rfl trivial ?_ rfl
  simp only [Tryd.ntmps62, Told.vals, List.size_toArray, List.length_cons, List.length_nil, Nat.reduceAdd, Nat.reduceSub, Array.replicate_succ, Array.replicate_zero, List.push_toArray, List.append_toArray, List.nil_append, List.cons_append]
  gi_wp2_with fail
  refine ⟨trivial, fun h => absurd h (by simp [Fence.wide]), (callsIn_wide.2 hL.out).mono ?_⟩
  rintro e w1 ⟨rfl, rfl⟩
  gi_wp2_with fail
  refine wpIn_wide.2 ?_
  go_quiet ((refine (hAt _).out.mono ?_; rintro e w1 ⟨rfl, rfl⟩; exact ⟨rfl, _, rfl⟩))
  have hne : ¬ cB = k0 := by omega
  have ik0 : (k0 : Int) ≤ (N : Int) := by omega
  have ik1 : (k0 : Int) ≤ (cB : Int) := by omega
  have ik2 : (0 : Int) ≤ (k0 : Int) := by omega
  have HW := hW.size
  clear hL hAt hmW hW p6 p8 hn0'
  gi_wp2_with fail
  gi_loopg [25] (N - k0) (fun g i wr => ∃ (k : Nat) (s : Nat → Prop) (pre : List Told), k + g = N - k0 ∧ i = .int .i64 k ∧ J s pre wr ∧ Kept (fun k => k < n0 ∨ k = B1 ∨ k = B2) W wr ∧ W.heap.size ≤ wr.heap.size ∧ Hid (pre.map (·.1) = (((blk ls).drop k0).take k).flatMap fun o => o.drop (firstNot x o)))
  case atStart => exact ⟨0, _, [], by omega, rfl, hJ _ _ _ _ h0 (Turn.drewN W nq), hkept, Nat.le_refl _, rfl⟩
  case round =>
    obtain ⟨k, s, pre, hk, rfl, hJs, hkr, hsr, hpre⟩ := hrel
    by_cases hlt : k < N - k0
    · have hkb : k0 + k < (blk ls).length := by rw [HN.out]; omega
      obtain ⟨ad, Ao, co, rfl, hadm, hco, hoc, hso⟩ := p9'.out.out (k0 + k) hkb
      have hkD : k < ((blk ls).drop k0).length := by rw [List.length_drop, HN.out]; omega
      have hgd : ((blk ls).drop k0)[k] = (blk ls)[k0 + k] := List.getElem_drop
      have hpf := fun j => flat_pre (fun o : List Item => o.drop (firstNot x o)) hkD j
      have hst := flat_step (fun o : List Item => o.drop (firstNot x o)) hkD
      simp only [hgd, ← HYD.out] at hpf hst
      have hbo : ∃ j, 8 * j < ls.length ∧ (blk ls)[k0 + k] = (ls.drop (8 * j)).take 8 := blk_block (List.getElem_mem hkb)
      obtain ⟨o, ho⟩ : ∃ o, (blk ls)[k0 + k] = o := ⟨_, rfl⟩
      rw [ho] at hco hoc hso hbo
      simp only [ho] at hpf hst
      have hro : risesB o = true := by
        obtain ⟨j, hj, e⟩ := hbo
        exact (check_ok (by rw [e]; exact block_ok hwell.out hj)).2.2.2
      have hol8 : o.length ≤ 8 := by obtain ⟨j, hj, e⟩ := hbo; rw [e, List.length_take]; omega
      have hkm : Kept m W wr := hkr.mono fun j hj => .inl (hm j hj)
      have hcor : wr.cell? (ad.add (k0 + k)) = some (.slice Ao o.length co) := (hkm.cell (by rw [add_block]; exact hadm)).trans hco
      rw [← add_add'] at hcor
      have hsor := hso.keep hkm
      have hh2 : wr.cell? ⟨B2, 0, none⟩ = some (.slice Bx lx dx) := (hkr.cell (p := ⟨B2, 0, none⟩) (.inr (.inr rfl))).trans h2W
      have hSk := Lib.hid (Seek_any Ao Bx o.length co lx dx o x rfl HXL.out wr (hsor.sees (fun k hk => by have := hm k hk; omega)) ((hxW.keep (hkr.mono fun j hj => .inl hj)).sees (fun k hk => by show k < wr.heap.size; omega)) (by omega))
      obtain ⟨ol, hol⟩ : ∃ ol, o.length = ol := ⟨_, rfl⟩
      rw [hol] at hcor hoc hSk hol8
      have HOL := Lib.hid hol
      have HRO := Lib.hid hro
      have hpf' := Lib.hid hpf
      have hst' := Lib.hid hst
      have ikN : (k : Int) < ((N - k0 : Nat) : Int) := by omega
      clear hco hso hbo ho hgd hpf hst hol hro
      gi_wp2_with fail
      refine ⟨trivial, fun h => absurd h (by simp [Fence.wide]), (callsIn_wide.2 hSk.out).mono ?_⟩
      rintro e w1 ⟨rfl, k1, hk1, hk1e, rfl⟩
      have HK1 := Lib.hid (hk1e HRO.out)
      clear hSk hk1e
      rw [HOL.out] at hk1
      by_cases hk1l : k1 < ol
      · have hnc : ¬ co = k1 := by omega
        have j1 : (k1 : Int) ≤ (ol : Int) := by omega
        have j2 : (k1 : Int) ≤ (co : Int) := by omega
        have j3 : (0 : Int) ≤ (k1 : Int) := by omega
        obtain ⟨ado, hAo⟩ : ∃ ado, Ao = some ado := by
          obtain ⟨ado, _, _, e, _⟩ := hsor.out 0 (by rw [HOL.out]; omega)
          exact ⟨ado, e⟩
        subst hAo
        obtain ⟨wo, rfl⟩ : ∃ wo, wo = w1 := ⟨_, rfl⟩
        gi_wp2_with fail
        gi_loopg [35] (ol - k1) (fun g i wz => ∃ (k2 : Nat) (s : Nat → Prop) (pre : List Told), k2 + g = ol - k1 ∧ i = .int .i64 k2 ∧ J s pre wz ∧ Kept (fun k => k < n0 ∨ k = B1 ∨ k = B2) W wz ∧ W.heap.size ≤ wz.heap.size ∧ Hid (pre.map (·.1) = ((((blk ls).drop k0).take k).flatMap fun o => o.drop (firstNot x o)) ++ (o.drop k1).take k2))
        case atStart => exact ⟨0, s, pre, by omega, rfl, hJs, hkr, hsr, by unfold Hid; rw [hpre.out]; simp⟩
        case round =>
          obtain ⟨k2, s2, pre2, hk2, rfl, hJ2, hkz, hsz, hpre2⟩ := hrel
          by_cases hlt2 : k2 < ol - k1
          · have hkol : k1 + k2 < o.length := by rw [HOL.out]; omega
            have hkmz : Kept m W wr := hkz.mono fun j hj => .inl (hm j hj)
            have hkmrz : Kept m wo wr := fun j hj => (hkmz j hj).trans (hkm j hj).symm
            obtain ⟨ady, Ay, cy, hady, hadym, hcy, hyc, hsy⟩ := hsor.out (k1 + k2) hkol
            obtain rfl := Option.some.inj hady
            have hcyz : wr.cell? ((ado.add k1).add k2) = some (.slice Ay (o[k1 + k2]).length cy) := by rw [add_add']; exact (hkmrz.cell (by rw [add_block]; exact hadym)).trans hcy
            have hod : k2 < (o.drop k1).length := by rw [List.length_drop]; omega
            have htk2 := take_snoc hod
            rw [List.getElem_drop] at htk2
            obtain ⟨y, hy⟩ : ∃ y, o[k1 + k2] = y := ⟨_, rfl⟩
            rw [hy] at hcyz hyc hsy htk2
            have hp2 : (pre2.map (·.1) ++ [y]) <+: Y := by
              rw [hpre2.out, List.append_assoc, ← htk2]
              have := hpf'.out (k2 + 1)
              rw [← HK1.out] at this
              exact this
            have hY1 := hY s2 pre2 (y, (Ay, cy)) wr hJ2 (told_len hp2) ⟨(hsy.keep hkmrz).mono hm, hyc, hp2, by omega⟩
            have HP2 := Lib.hid hp2
            have HTK2 := Lib.hid htk2
            obtain ⟨fn, tmps, assign, body, hyy, hR⟩ := hY1
            dsimp only [Told.vals] at hyy
            obtain ⟨ly, hly⟩ : ∃ ly, y.length = ly := ⟨_, rfl⟩
            rw [hly] at hcyz hyy
            have il : (k2 : Int) < ((ol - k1 : Nat) : Int) := by omega
            clear hp2 htk2 hy hcy hly hyc
            gi_wp2_with fail
            refine ⟨fun h => absurd h (by simp [Fence.wide]), hR.mono ?_⟩
            rintro e w4 (⟨rfl, hJ4, ht4⟩ | ⟨rfl, hJx4, -⟩)
            · have hk4 : Kept (fun k => k < n0 ∨ k = B1 ∨ k = B2) wr w4 := Kept.of_turn ht4 (fun k hk => ⟨by rcases hk with hk | rfl | rfl <;> omega, fun e => e.2 hk⟩)
              gi_wp2_with fail
              gi_roundg (ol - k1 - (k2 + 1))
              case measure => omega
              case rel => exact ⟨k2 + 1, s2, pre2 ++ [(y, (Ay, cy))], by omega, by go_num, hJ4, hkz.trans hk4, Nat.le_trans hsz ht4.size, by unfold Hid; rw [List.map_append, hpre2.out, HTK2.out, List.append_assoc]; rfl⟩
            · gi_wp2_with fail
              refine bodyPost_ret (results_none rfl _ _ _) rfl ?_
              exact ⟨⟨_, rfl⟩, .inr ⟨s2, _, by rw [List.map_append]; exact HP2.out, hJx4⟩⟩
          · have hk2e : k2 = ol - k1 := by omega
            gi_wp2_with fail
            gi_roundg (N - k0 - (k + 1))
            case measure => omega
            case rel => exact ⟨k + 1, s2, pre2, by omega, by go_num, hJ2, hkz, hsz, by unfold Hid; rw [hpre2.out, hst'.out, ← HK1.out, List.take_of_length_le (l := o.drop k1) (by rw [List.length_drop, HOL.out]; omega)]⟩
      · have hk1e : k1 = ol := by omega
        have hd0 : ol - k1 = 0 := by omega
        have j1 : (k1 : Int) ≤ (ol : Int) := by omega
        have j2 : (k1 : Int) ≤ (co : Int) := by omega
        have j3 : (0 : Int) ≤ (k1 : Int) := by omega
        have hde : o.drop k1 = [] := List.drop_eq_nil_of_le (by rw [HOL.out]; omega)
        have HDE := Lib.hid hde
        clear hde
        obtain ⟨wo, rfl⟩ : ∃ wo, wo = w1 := ⟨_, rfl⟩
        gi_wp2_with fail
        all_goals
          gi_loopg [35] 0 (fun g i wz => i = .int .i64 0 ∧ wz = wo)
          case atStart => exact ⟨rfl, rfl⟩
          case round =>
            obtain ⟨rfl, rfl⟩ := hrel
            gi_wp2_with fail
            gi_roundg (N - k0 - (k + 1))
            case measure => omega
            case rel => exact ⟨k + 1, s, pre, by omega, by go_num, hJs, hkr, hsr, by unfold Hid; rw [hpre.out, hst'.out, ← HK1.out, HDE.out, List.append_nil]⟩
    · have hke : k = N - k0 := by omega
      have ikN : ((N - k0 : Nat) : Int) ≤ (k : Int) := by omega
      gi_wp2_with fail
      go_end0
      refine ⟨⟨_, rfl⟩, .inl ⟨s, pre, ?_, hJs⟩⟩
      show pre.map (·.1) = Y
      rw [hpre.out, HYD.out, List.take_of_length_le (l := (blk ls).drop k0) (by rw [List.length_drop, HN.out]; omega)]
end Go.Proofs.YtmdphaagbmipcaaDoor
