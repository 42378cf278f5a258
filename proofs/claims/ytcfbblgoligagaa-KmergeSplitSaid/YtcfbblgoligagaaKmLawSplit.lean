/-
  The law KmergeSplit, walked: a row split into as many rows as there are items is the row, rising, each once.
-/
import Derived.Test.YtcfbblgoligagaaKmLawB
namespace Go.Proofs.Ytcfbblgoligagaa
open Go.RowKit KB

theorem singleE {m : Nat → Prop} {w : World} {A : Option Addr} {xs : List El} {i : Nat} (h : SeesM m w A (xs.map KB.val)) (hi : i < xs.length) : ∃ ad, A = some ad ∧ m ad.block ∧ SeesM m w (some (ad.add i)) ([xs[i]].map KB.val) := by
  rcases h.out with e | ⟨ad, e, hb, hc⟩
  · simp at e; subst e; simp at hi
  · refine ⟨ad, e, hb, ⟨.inr ⟨_, rfl, by rw [add_block]; exact hb, fun j u hu => ?_⟩⟩⟩
    match j, hu with
    | 0, hu =>
      rw [add_add', Nat.add_zero]
      refine hc i u ?_
      rw [List.getElem?_map, List.getElem?_eq_getElem hi]
      exact hu
theorem singleI {m : Nat → Prop} {w : World} {A : Option Addr} {xs : List Int} {i : Nat} (h : SeesM m w A (xs.map KI.val)) (hi : i < xs.length) : ∃ ad, A = some ad ∧ m ad.block ∧ SeesM m w (some (ad.add i)) ([xs[i]].map KI.val) := by
  rcases h.out with e | ⟨ad, e, hb, hc⟩
  · simp at e; subst e; simp at hi
  · refine ⟨ad, e, hb, ⟨.inr ⟨_, rfl, by rw [add_block]; exact hb, fun j u hu => ?_⟩⟩⟩
    match j, hu with
    | 0, hu =>
      rw [add_add', Nat.add_zero]
      refine hc i u ?_
      rw [List.getElem?_map, List.getElem?_eq_getElem hi]
      exact hu
theorem singles_flat {α : Type} (l : List α) : (l.map fun x => [x]).flatten = l := by
  induction l with
  | nil => rfl
  | cons y t ih => simp only [List.map_cons, List.flatten_cons, ih]; rfl
theorem split_items (xs : List El) : uniqL ahead ((xs.map fun x => [x]).reverse.flatten.map key) = uniqL ahead (xs.map key) := uniqL_congr ordr fun x => by
  have e : ((xs.map fun x => [x]).reverse.flatten).Perm xs := by
    have := (List.reverse_perm (xs.map fun x => [x])).flatten
    rwa [singles_flat] at this
  exact (e.map key).mem_iff
/-- append of one row of numbers onto a pile, at an operation of a plain statement. -/
theorem wpList_append_q {w : World} {ops : Array Oper} {rest : List Oper} {o : Oper} {a : Act} {Q : Exit → Act → World → Prop} (hgd : o.guard = none) (s x : Operand)
    (ho : o.op = .call { callee := .builtin .append, args := #[s, x], argTypes := #[29, 29] })
    (base : Nat) (v : Value) (n : Nat) (vs : List Value) (hs : a.eval s = v) (hown : w.ownsRow base 30 1 v n vs) (B : Nat) (A : Option Addr) (u : Value) (hx : a.eval x = .slice A 1 1) (hsee : Sees w B A [u]) (hu : u.oneCell' = true)
    (hlen : n ≤ 100000) (hbase : base ≤ w.heap.size)
    (h : ∀ v' w', w'.ownsRow base 30 1 v' (n + 1) (vs ++ [u]) → Onto w w' v v' → wpList Try.prog ops Q rest (a.put o.dst v') w') : wpList Try.prog ops Q (o :: rest) a w := by
  obtain ⟨ti, hi, hy0, hy1, hy2⟩ := info_parts KI.rowinfo
  exact wpList_append_v hgd s x 29 ho 30 ti _ 1 24 Try.underlying29 hi hy0 hy1 hy2 rfl (by omega) base v n vs hs hown B A 1 1 [u] hx rfl hsee (fun y hy => by simp at hy; subst hy; exact hu) (by simp only [maxLen]; omega) (by omega) hbase h

set_option maxRecDepth 100000 in
set_option maxHeartbeats 3200000 in
theorem KmergeSplit_small (A B : Option Addr) (n cn m cm : Nat) (xs : List El) (l : List Int) (hn : xs.length = n) (hnc : n ≤ cn) (hm : l.length = m) (hmc : m ≤ cm) (hm1 : m ≤ 100) (w : World) (hX : SeesM (fun k => k < w.heap.size) w A (xs.map KB.val)) (hxok : ∀ x ∈ xs, EOk (fun k => k < w.heap.size) w x) (hf : fewB [xs.map key] = true) (hS : Sees2 w w.heap.size A (xs.map key)) (hL : Sees w w.heap.size B (KI.iv l)) :
    Calls Try.prog 8 #[.slice A n cn, .slice B m cm] w (IsTrue w) := by
  have hnot : ∀ (x : Bool) (w : World), (Op.unary .not (.bool x)).run Try.prog w = .ok (.bool (!x)) w := fun _ _ => rfl
  have hy := (few_yes hf).2 _ (List.mem_singleton.2 rfl)
  rw [List.length_map] at hy
  have hn60 : n ≤ 60 := by omega
  have hsh : ∀ y ∈ xs, y.1.length ≤ 1000 := fun y hyr => Nat.le_trans (hy.2 _ (List.mem_map_of_mem hyr)) (by omega)
  have hrow := fun (w' : World) (hb : Below w.heap.size w w') => (⟨by rw [List.length_map]; exact hn, hnc, by omega, fun x hx => by obtain ⟨y, hym, rfl⟩ := List.mem_map.1 hx; exact hsh y hym, (hS.below hb).more hb.size⟩ : BRow w' A n cn (xs.map key))
  have hint := fun (w' : World) (hb : Below w.heap.size w w') => (⟨hm, hmc, by omega, (hL.below hb).more hb.size⟩ : KI.Row w' B m cm l)
  have HRW := Lib.hid hrow
  have HIN := Lib.hid hint
  have HN := Lib.hid hn
  have HM := Lib.hid hm
  have HF := Lib.hid hf
  have HSH := Lib.hid hsh
  have HXO := Lib.hid hxok
  have hLM : SeesM (fun k => k < w.heap.size) w B (l.map KI.val) := hL.toM
  clear hn hm hf hsh hy hrow hint hS hL hxok
  go_enter Try.func8, Try.ntmps8
  go_wp2_with fail
  refine (awake_any w).mono ?_
  rintro e w0 ⟨rfl, hb0⟩
  obtain ⟨w1, hw1⟩ : ∃ w1, w0.alloc (.cells #[.slice A n cn] 26) = w1 := ⟨_, rfl⟩
  have hb1 : Below w.heap.size w w1 := by rw [← hw1]; exact hb0.trans ((KI.below_new w0 _).mono hb0.size)
  have hfew : Calls Try.prog 10 #[.slice (some ⟨w0.heap.size, 0, none⟩) 1 1] w1 fun e w' => e = .returned (.bool (fewB [xs.map key])) ∧ w1 = w' := by
    have h3 : Sees3 w1 (w0.heap.size + 1) (some ⟨w0.heap.size, 0, none⟩) [xs.map key] := by
      rw [← hw1]
      refine Sees3.new _ _ rfl _ _ _ fun i hi => ?_
      match i, hi with
      | 0, _ => exact ⟨A, cn, by rw [show ([xs.map key][0]).length = n from (HRW.out w0 hb0).len]; rfl, by show (xs.map key).length ≤ cn; rw [(HRW.out w0 hb0).len]; exact hnc, (HRW.out w0 hb0).sees⟩
    have hz : w1.heap.size = w0.heap.size + 1 := by rw [← hw1]; simp
    exact few_any _ 1 1 [xs.map key] rfl w1 (by rw [hz]; exact h3)
  rw [HF.out] at hfew
  have HFW := Lib.hid hfew
  clear hfew
  go_wp2_with fail
  refine HFW.out.mono ?_
  rintro e w2 ⟨rfl, rfl⟩
  clear HFW hw1
  have hX1 := hX.keep (Kept.of_below hb1 fun k e => e)
  go_wp2_with fail
  go_loopg [7, 8] n (fun g o i wr => ∃ (j p : Nat) (x : Int) (L : List (List El)) (Ao : Option Addr) (co : Nat), Hid (j = g) ∧ Hid (p + j = n) ∧ x = (j : Int) - 1 ∧ i = .int .i64 x ∧ o = .slice Ao p co ∧ Pile (fun k => k < w1.heap.size) w1.heap.size wr (.slice Ao p co) L ∧ Hid (L = ((xs.drop j).map fun x => [x]).reverse) ∧ Hid (L.length = p) ∧ Below w1.heap.size w1 wr)
  case atStart => exact ⟨n, 0, _, [], none, 0, rfl, (by omega : 0 + n = n), rfl, by go_num, rfl, Pile.nil _ _ _ (fun _ e => e) (Nat.le_refl _), by unfold Hid; rw [List.drop_eq_nil_of_le (by have := HN.out; omega)]; rfl, rfl, Below.refl _ _⟩
  case round =>
    obtain ⟨j, p, x, L, Ao, co, hjg, hpj, hxj, rfl, rfl, hP, hLL, hLp, hbr⟩ := hrel
    have hsr := hbr.size
    have hb0r := hb1.trans (hbr.mono hb1.size)
    cases j with
    | succ j =>
      have hxe : x = (j : Int) := by omega
      subst hxe
      have hjn : j < n := by have := hpj.out; omega
      have hpn : p ≤ 60 := by have := hpj.out; omega
      obtain ⟨ad, rfl, hadm, hsee⟩ := singleE (hX1.keep (Kept.of_below hbr fun k e => by have := hb1.size; omega)) (i := j) (by have := HN.out; omega)
      have hdr : ((xs.drop j).map fun x => [x]).reverse = ((xs.drop (j + 1)).map fun x => [x]).reverse ++ [[xs[j]'(by have := HN.out; omega)]] := by rw [List.drop_eq_getElem_cons (by have := HN.out; omega), List.map_cons, List.reverse_cons]
      have hok1 := HXO.out _ (List.getElem_mem (by have := HN.out; omega : j < xs.length))
      obtain ⟨u, hu⟩ : ∃ u, xs[j]'(by have := HN.out; omega) = u := ⟨_, rfl⟩
      rw [hu] at hsee hdr hok1
      have HDR := Lib.hid hdr
      have HOK1 := Lib.hid hok1
      obtain ⟨vs, hvs, hvs2⟩ := hP.out
      rw [hLp.out] at hvs
      have hvsy := hvs.alloc (.cells #[.slice (some (ad.add j)) 1 (cn - j)] 26)
      have HVS := Lib.hid hvs
      have HVS2 := Lib.hid hvs2
      obtain ⟨j1, hj1⟩ : ∃ j1, j + 1 = j1 := ⟨_, rfl⟩
      have hadd1 : IntKind.i64.wrap ((j : Int) + 1) = (j1 : Int) := by rw [IntKind.wrap_i64]; omega
      have hd1 : j1 - j = 1 := by omega
      have hj1n : (j1 : Int) ≤ (n : Int) := by omega
      have hj1c : (j1 : Int) ≤ (cn : Int) := by omega
      have hjj1 : (j : Int) ≤ (j1 : Int) := by omega
      have hcj : ¬ cn = j := by omega
      have hsub2 : IntKind.i64.wrap ((j : Int) - 1) = (j : Int) - 1 := by rw [IntKind.wrap_i64]; omega
      clear hu hdr hvs hvs2 hxj hok1 hX hX1 hj1
      go_wp2_with (at_builtin; refine wpList_append_p rfl (.tmp 36) (.tmp 42) rfl w1.heap.size (.slice Ao p co) p vs (by rfl) hvsy _ (some ⟨wr.heap.size, 0, none⟩) (.slice (some (ad.add j)) 1 (cn - j)) (by rfl) (sees_cell wr _ rfl _ _) rfl (by omega) (by simp; omega) ?_; intro v' w5 hown5 hon5)
      have hP5 := hP.push (A1 := some (ad.add j)) (c1 := cn - j) (x := [u]) (KI.below_new wr _) ((hsee.keep (Kept.of_below (KI.below_new wr _) fun k e => by have := hb1.size; omega)).mono fun k e => .inl (by have := hb1.size; omega)) (by simp; omega) (fun y hy => by
        simp only [List.mem_singleton] at hy
        subst hy
        exact (HOK1.out.keep (Kept.of_below hb0r fun k e => e)).mono fun k e => by have := hb1.size; omega) vs (by rw [hLp.out]; exact HVS.out) HVS2.out (by rw [hLp.out]; exact hown5) hon5
      have hL5 : (L ++ [[u]]).length = p + 1 := by rw [List.length_append, hLp.out]; rfl
      obtain ⟨A5, c5, hv5, hc5⟩ := hP5.slice
      rw [hL5] at hv5
      subst hv5
      have hb5 : Below w1.heap.size w1 w5 := (hbr.trans ((KI.below_new wr _).mono hsr)).trans ((Turn.onto (T := fun k => w1.heap.size ≤ k) hon5 fun k e => (World.ownsRow.lt HVS.out k e).1).below (fun j e => e) (by simp; omega))
      go_roundg j
      case measure => have := hjg.out; omega
      case rel => exact ⟨j, p + 1, _, L ++ [[u]], A5, c5, rfl, (by have := hpj.out; omega : p + 1 + j = n), rfl, by go_num, rfl, hP5, by unfold Hid; rw [HDR.out, hLL.out], hL5, hb5⟩
    | zero =>
      obtain rfl : x = -1 := by omega
      have hg0 : ¬ (0 : Int) ≤ -1 := by omega
      have hp60 : p ≤ 60 := by have := hpj.out; omega
      have hLr : Hid (L = (xs.map fun x => [x]).reverse) := by unfold Hid; rw [hLL.out]; rfl
      have hPR := Lib.hid (by have := hP; rw [← hLp.out] at this; exact this.rowsIn : KB.RowsIn (fun k => k < wr.heap.size) wr Ao L)
      obtain ⟨wq, rfl⟩ : ∃ wq : World, wq = wr := ⟨_, rfl⟩
      have hLQ := hLM.keep (Kept.of_below hb0r fun k e => e)
      have hszq := hb0r.size
      clear hxj hP hX hX1 hbr
      go_wp2_with fail
      go_loopg [9, 10] m (fun g o i wr => ∃ (k : Nat) (L2 : List (List Int)) (Ap : Option Addr) (cp : Nat), k + g = m ∧ i = .int .i64 k ∧ o = .slice Ap k cp ∧ KI.Pile (fun k => k < wq.heap.size) wq.heap.size wr (.slice Ap k cp) L2 ∧ Hid (L2 = (l.take k).map fun x => [x]) ∧ Hid (L2.length = k) ∧ Below wq.heap.size wq wr)
      case atStart => exact ⟨0, [], none, 0, by omega, rfl, rfl, KI.Pile.nil _ _ _ (fun _ e => e) (Nat.le_refl _), rfl, rfl, Below.refl _ _⟩
      case round =>
        obtain ⟨k, L2, Ap, cp, hk, rfl, rfl, hP, hL2, hLk, hbr⟩ := hrel
        have hsr := hbr.size
        by_cases hlt : k < m
        · obtain ⟨ad, rfl, hadm, hsee⟩ := singleI (hLQ.keep (Kept.of_below hbr fun k e => by omega)) (i := k) (by have := HM.out; omega)
          have hdr : (l.take (k + 1)).map (fun x => [x]) = (l.take k).map (fun x => [x]) ++ [[l[k]'(by have := HM.out; omega)]] := by rw [List.take_succ_eq_append_getElem (by have := HM.out; omega), List.map_append]; rfl
          obtain ⟨u, hu⟩ : ∃ u, l[k]'(by have := HM.out; omega) = u := ⟨_, rfl⟩
          rw [hu] at hsee hdr
          have HDR := Lib.hid hdr
          obtain ⟨vs, hvs, hvs2⟩ := hP.out
          rw [hLk.out] at hvs
          have hvsy := hvs.alloc (.cells #[.slice (some (ad.add k)) 1 (cm - k)] 30)
          have HVS := Lib.hid hvs
          have HVS2 := Lib.hid hvs2
          obtain ⟨j1, hj1⟩ : ∃ j1, k + 1 = j1 := ⟨_, rfl⟩
          have hadd1 : IntKind.i64.wrap ((k : Int) + 1) = (j1 : Int) := by rw [IntKind.wrap_i64]; omega
          have hd1 : j1 - k = 1 := by omega
          have hj1n : (j1 : Int) ≤ (m : Int) := by omega
          have hj1c : (j1 : Int) ≤ (cm : Int) := by omega
          have hjj1 : (k : Int) ≤ (j1 : Int) := by omega
          have hcj : ¬ cm = k := by omega
          have HJ1 := Lib.hid hj1
          clear hu hdr hvs hvs2 hj1
          go_wp2_with (at_builtin; refine wpList_append_q rfl (.tmp 50) (.tmp 56) rfl wq.heap.size (.slice Ap k cp) k vs (by rfl) hvsy _ (some ⟨wr.heap.size, 0, none⟩) (.slice (some (ad.add k)) 1 (cm - k)) (by rfl) (sees_cell wr _ rfl _ _) rfl (by omega) (by simp; omega) ?_; intro v' w5 hown5 hon5)
          have hP5 := hP.push (A1 := some (ad.add k)) (c1 := cm - k) (x := [u]) (KI.below_new wr _) ((hsee.keep (Kept.of_below (KI.below_new wr _) fun k e => by omega)).mono fun k e => .inl (by omega)) (by simp; omega) (fun y _ => ⟨trivial⟩) vs (by rw [hLk.out]; exact HVS.out) HVS2.out (by rw [hLk.out]; exact hown5) hon5
          have hL5 : (L2 ++ [[u]]).length = k + 1 := by rw [List.length_append, hLk.out]; rfl
          obtain ⟨A5, c5, hv5, hc5⟩ := hP5.slice
          rw [hL5] at hv5
          subst hv5
          have hb5 : Below wq.heap.size wq w5 := (hbr.trans ((KI.below_new wr _).mono hsr)).trans ((Turn.onto (T := fun k => wq.heap.size ≤ k) hon5 fun k e => (World.ownsRow.lt HVS.out k e).1).below (fun j e => e) (by simp; omega))
          go_roundg (m - (k + 1))
          case measure => omega
          case rel => exact ⟨k + 1, L2 ++ [[u]], A5, c5, by omega, by have := HJ1.out; subst this; go_num, rfl, hP5, by unfold Hid; rw [HDR.out, hL2.out], hL5, hb5⟩
        · have hk100 : k ≤ 100 := by omega
          have hLl : Hid (L2.flatten = l) := by unfold Hid; rw [hL2.out, List.take_of_length_le (by have := HM.out; omega), singles_flat]
          have hPR2 := Lib.hid (by have := hP; rw [← hLk.out] at this; exact this.rowsIn : KI.RowsIn (fun k => k < wr.heap.size) wr Ap L2)
          have hsm : Hid (∀ r ∈ L2, r.length ≤ 1000000) := fun r hr => by
            rw [hL2.out] at hr
            obtain ⟨y, -, rfl⟩ := List.mem_map.1 hr
            simp
          have hPRr := Lib.hid ((hPR.out.keep (Kept.of_below hbr fun k e => e)).mono (fun k e => Nat.lt_of_lt_of_le e hbr.size) : KB.RowsIn (fun k => k < wr.heap.size) wr Ao L)
          have hb0s := hb0r.trans (hbr.mono hb0r.size)
          have hf60 : L.flatten.length ≤ 60 := by
            rw [hLr.out]
            have := ((List.reverse_perm (xs.map fun x => [x])).flatten).length_eq
            rw [singles_flat] at this
            have := HN.out
            omega
          have hshL : Hid (∀ r ∈ L, ∀ y ∈ r, y.1.length ≤ 1000) := fun r hr y hyr => by
            rw [hLr.out, List.mem_reverse] at hr
            obtain ⟨z, hz, rfl⟩ := List.mem_map.1 hr
            simp only [List.mem_singleton] at hyr
            subst hyr
            exact HSH.out y hz
          have hmk : Hid (m = k) := (by omega : m = k)
          clear hPR hP hLQ hk
          go_wp2_with fail
          refine (Items_rowsIn Ao p co L wr hPRr.out hLp.out (by omega) (by omega) hshL.out).mono ?_
          rw [show uniqL ahead (L.flatten.map key) = uniqL ahead (xs.map key) from by rw [hLr.out]; exact split_items xs]
          obtain ⟨U, hU⟩ : ∃ U, uniqL ahead (xs.map key) = U := ⟨_, rfl⟩
          have hUr : Hid (Ri ahead U) := by unfold Hid; rw [← hU]; exact uniqL_ri ordr _
          rw [hU]
          have HU := Lib.hid hU
          clear hU
          rintro e w3 ⟨A3, c3, rfl, hR3, hb3⟩
          have hb03 := hb0s.trans (hb3.mono hb0s.size)
          have hPR3 := Lib.hid ((hPR2.out.keep (Kept.of_below hb3 fun k e => e)).mono (fun k e => Nat.lt_of_lt_of_le e hb3.size) : KI.RowsIn (fun k => k < w3.heap.size) w3 Ap L2)
          clear hPR2 hPRr
          go_wp2_with fail
          refine (KI.Ints_any Ap k cp L2 w3 hPR3.out hLk.out (by omega) hsm.out (by rw [hLl.out]; have := HM.out; omega)).mono ?_
          rw [hLl.out]
          have hVl := uniqL_len (lt := KI.lt) KI.ordr l
          have hVr := uniqL_ri (lt := KI.lt) KI.ordr l
          have hVm := fun x => uniqL_mem (lt := KI.lt) KI.ordr l x
          obtain ⟨V, hV⟩ : ∃ V, uniqL KI.lt l = V := ⟨_, rfl⟩
          rw [hV] at hVl hVr hVm ⊢
          have HV := Lib.hid hV
          have HVR := Lib.hid hVr
          have HVM := Lib.hid hVm
          rintro e w4 g4
          obtain ⟨A4, c4, rfl, hR4, hb4⟩ := g4.rowI.row (by have := HM.out; omega)
          have hb04 := hb03.trans (hb4.mono hb03.size)
          replace hR3 := hR3.below hb4
          obtain ⟨lv, hlv⟩ : ∃ lv, V.length = lv := ⟨_, rfl⟩
          rw [hlv] at hR4 hVl ⊢
          have hlvm : lv ≤ m := by have := HM.out; omega
          have HLV := Lib.hid hlv
          clear hPR3 g4 hlv hVr hVm hV hVl
          go_wp2_with fail
          go_loopg [13] lv (fun g i wr => ∃ k : Nat, k + g = lv + 1 ∧ 1 ≤ k ∧ i = .int .i64 k ∧ ∃ q, wr = w4.drewN q)
          case atStart => exact ⟨1, by omega, by omega, rfl, 0, rfl⟩
          case round =>
            obtain ⟨k2, hk2, hk21, rfl, q, rfl⟩ := hrel
            by_cases hlt2 : k2 < lv
            · obtain ⟨j, hj⟩ : ∃ j, k2 - 1 = j := ⟨_, rfl⟩
              have hjn : j < lv := by omega
              have hsub3 : IntKind.i64.wrap ((k2 : Int) - 1) = (j : Int) := by rw [IntKind.wrap_i64]; omega
              obtain ⟨ad, rfl, -, hx1⟩ := KI.Sees.iat hR4.sees (k := j) (by have := HLV.out; omega)
              obtain ⟨ad2, e2, -, hx2⟩ := KI.Sees.iat hR4.sees (k := k2) (by have := HLV.out; omega)
              injection e2 with e2
              subst e2
              have hlt3 := List.pairwise_iff_getElem.1 HVR.out j k2 (by have := HLV.out; omega) (by have := HLV.out; omega) (by omega)
              simp only [KI.lt, decide_eq_true_eq] at hlt3
              obtain ⟨y, hy⟩ : ∃ y, V[j]'(by have := HLV.out; omega) = y := ⟨_, rfl⟩
              obtain ⟨z, hz⟩ : ∃ z, V[k2]'(by have := HLV.out; omega) = z := ⟨_, rfl⟩
              rw [hy] at hx1 hlt3
              rw [hz] at hx2 hlt3
              have hng : ¬ z ≤ y := by omega
              clear hj hy hz
              go_wp2
              go_quiet (fail)
              go_wp2
              go_roundg (lv - k2)
              case measure => omega
              case rel => exact ⟨k2 + 1, by omega, by omega, by go_num, _, rfl⟩
            · obtain ⟨wz, hwz⟩ : ∃ wz, w4.drewN q = wz := ⟨_, rfl⟩
              have hb4z : Below w4.heap.size w4 wz := by rw [← hwz]; exact below_d (Below.refl _ _) _
              have hb0z := hb04.trans (hb4z.mono hb04.size)
              replace hR3 := hR3.below hb4z
              replace hR4 := hR4.below hb4z
              have hLz := hLM.keep (Kept.of_below hb0z fun k e => e)
              have hIn := Lib.hid (fun x => KI.In_any A4 lv c4 V x HLV.out wz hR4.sees (by omega))
              rw [hwz]
              clear hwz hk2 hk21
              go_wp2_with fail
              go_loopg [14, 15] m (fun g b i wr => ∃ t : Nat, t + g = m ∧ i = .int .i64 t ∧ b = .bool true ∧ wr = wz)
              case atStart => exact ⟨0, by omega, rfl, rfl, rfl⟩
              case round =>
                obtain ⟨t, ht, rfl, rfl, rfl⟩ := hrel
                by_cases hlt4 : t < m
                · obtain ⟨ad, rfl, -, hx⟩ := KI.Sees.iat (hLz.sees (B := wr.heap.size) fun k e => Nat.lt_of_lt_of_le e hb0z.size) (k := t) (by have := HM.out; omega)
                  have hin := hIn.out (l[t]'(by have := HM.out; omega))
                  rw [show decide ((l[t]'(by have := HM.out; omega)) ∈ V) = true from decide_eq_true ((HVM.out _).2 (List.getElem_mem _))] at hin
                  obtain ⟨y, hy⟩ : ∃ y, l[t]'(by have := HM.out; omega) = y := ⟨_, rfl⟩
                  rw [hy] at hin hx
                  have HIN2 := Lib.hid hin
                  clear hin hy
                  go_wp2_with fail
                  refine HIN2.out.mono ?_
                  rintro e w5 ⟨rfl, rfl⟩
                  clear HIN2
                  go_wp2_with fail
                  go_roundg (m - (t + 1))
                  case measure => omega
                  case rel => exact ⟨t + 1, by omega, by go_num, rfl, rfl⟩
                · have hlm : (lv : Int) ≤ (m : Int) := by omega
                  have hrw := HRW.out wr hb0z
                  clear hLz ht
                  go_wp2_with fail
                  refine (brises hR3 hUr.out).mono ?_
                  rintro e w5 ⟨rfl, hb5⟩
                  have hb05 := hb0z.trans (hb5.mono hb0z.size)
                  replace hR3 := hR3.below hb5
                  replace hR4 := hR4.below hb5
                  go_wp2_with fail
                  refine (items_1 (HRW.out w5 hb05) _ rfl).mono ?_
                  rw [HU.out]
                  rintro e w6 ⟨A6, c6, rfl, hR6, hb6⟩
                  have hb06 := hb05.trans (hb6.mono hb05.size)
                  replace hR3 := hR3.below hb6
                  replace hR4 := hR4.below hb6
                  go_wp2_with fail
                  refine (bsame hR3 hR6 rfl).mono ?_
                  rintro e w7 ⟨rfl, hb7⟩
                  have hb07 := hb06.trans (hb7.mono hb06.size)
                  replace hR4 := hR4.below hb7
                  go_wp2_with fail
                  refine (KI.ints_1 (HIN.out w7 hb07) _ rfl).mono ?_
                  rw [HV.out]
                  rintro e w8 g8
                  obtain ⟨A8, c8, rfl, hR8, hb8⟩ := g8.row (by have := HLV.out; omega)
                  rw [HLV.out] at hR8 ⊢
                  have hb08 := hb07.trans (hb8.mono hb07.size)
                  replace hR4 := hR4.below hb8
                  clear g8
                  go_wp2_with fail
                  refine (KI.same_2 hR4 hR8 rfl).mono ?_
                  rintro e w9 ⟨rfl, hb9⟩
                  have hb09 := hb08.trans (hb9.mono hb08.size)
                  go_wp2_with fail
                  go_ret
                  exact ⟨by simp, hb09⟩

theorem few_one (A : Option Addr) (n cn : Nat) (ls : List Item) (hn : ls.length = n) (hnc : n ≤ cn) (w : World) (hS : Sees2 w w.heap.size A ls) (bb : Nat) (hbb : w.heap.size = bb) :
    Calls Try.prog 10 #[.slice (some ⟨bb, 0, none⟩) 1 1] (w.alloc (.cells #[.slice A n cn] 26)) fun e w' => e = .returned (.bool (fewB [ls])) ∧ w.alloc (.cells #[.slice A n cn] 26) = w' := by
  have h3 : Sees3 (w.alloc (.cells #[.slice A n cn] 26)) (bb + 1) (some ⟨bb, 0, none⟩) [ls] := by
    refine Sees3.new _ _ hbb _ _ _ fun i hi => ?_
    subst hbb
    match i, hi with
    | 0, _ => exact ⟨A, cn, by rw [← hn]; rfl, by show ls.length ≤ cn; omega, hS⟩
  exact few_any _ 1 1 [ls] rfl _ (h3.more (by simp; omega))

set_option maxRecDepth 100000 in
set_option maxHeartbeats 400000 in
theorem KmergeSplit_any (A B : Option Addr) (n cn m cm : Nat) (ls : List Item) (l : List Int) (hn : ls.length = n) (hnc : n ≤ cn) (hm : l.length = m) (hmc : m ≤ cm) (w : World) (hS : Sees2 w w.heap.size A ls) (hL : Sees w w.heap.size B (KI.iv l)) :
    Calls Try.prog 8 #[.slice A n cn, .slice B m cm] w (IsTrue w) := by
  have hnot : ∀ (x : Bool) (w : World), (Op.unary .not (.bool x)).run Try.prog w = .ok (.bool (!x)) w := fun _ _ => rfl
  obtain ⟨s, hs⟩ : ∃ s, fewB [ls] = s := ⟨_, rfl⟩
  by_cases hb : s = true ∧ m ≤ 100
  · obtain ⟨xs, rfl, hX, hxok⟩ := els_of hS
    exact KmergeSplit_small A B n cn m cm xs l (by rw [← hn, List.length_map]) hnc hm hmc hb.2 w hX hxok (hs.trans hb.1) hS hL
  · have hsh := fun (w1 : World) (hb1 : Below w.heap.size w w1) => few_one A n cn ls hn hnc w1 ((hS.below hb1).more hb1.size) _ rfl
    rw [hs] at hsh
    have HSH := Lib.hid hsh
    clear hs hn hS hsh hm hL
    go_enter Try.func8, Try.ntmps8
    go_wp2_with fail
    refine (awake_any w).mono ?_
    rintro e w1 ⟨rfl, hb1⟩
    go_wp2_with fail
    refine (HSH.out w1 hb1).mono ?_
    rintro e w2 ⟨rfl, hw2⟩
    have hb2 : Below w.heap.size w w2 := by rw [← hw2]; exact hb1.trans ((KI.below_new w1 _).mono hb1.size)
    clear hw2
    cases s with
    | false =>
      clear hb
      go_wp2_with fail
      go_ret
      exact ⟨rfl, hb2⟩
    | true =>
      have hm1 : ¬ m ≤ 100 := fun e => hb ⟨rfl, e⟩
      clear hb
      go_wp2_with fail
      go_ret
      exact ⟨rfl, hb2⟩
end Go.Proofs.Ytcfbblgoligagaa
