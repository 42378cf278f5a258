/-
  The document's All of rows, walked.
-/
import Derived.Test.YtpjiioeodcinpaaGreatDoorRwAll
import Derived.Test.YtpjiioeodcinpaaGreatDoorRwRefMake
namespace Go.Proofs.YtpjiioeodcinpaaGreatDoor
open Go.RowKit KB

/-- Two rows of the call's own as a row of rows. -/
theorem OwnS.two (w : World) (base : Nat) (hb : base ≤ w.heap.size) (A B : Option Addr) (n m c d : Nat) (l r : List UInt8) (hn : l.length = n) (hm : r.length = m) (hc : n ≤ c) (hd : m ≤ d) (hl : OwnB w base (.slice A n c) l) (hr : OwnB w base (.slice B m d) r) :
    OwnS (w.alloc (.cells #[.slice A n c, .slice B m d] 29)) base (.slice (some ⟨w.heap.size, 0, none⟩) 2 2) [l, r] := by
  subst hn
  subst hm
  refine ⟨[.slice A l.length c, .slice B r.length d], own_new w base hb _ 1 2 _ rfl (by simp [maxLen]) _ rfl, fun i hi => ?_⟩
  have hk : ∀ {v : Value} {x : List UInt8}, OwnB w base v x → ∀ b, v.ownBlock = some b → some b ≠ (Value.slice (some ⟨w.heap.size, 0, none⟩) 2 2).ownBlock := fun h b e1 e2 => by
    have h1 := (World.ownsRow.lt h b e1).2
    simp [Value.ownBlock] at e2
    omega
  match i, hi with
  | 0, _ => exact ⟨A, c, rfl, hc, (SeesN.of_own hl rfl _ (hk hl)).below (KI_new w _)⟩
  | 1, _ => exact ⟨B, d, rfl, hd, (SeesN.of_own hr rfl _ (hk hr)).below (KI_new w _)⟩
theorem MakeOut.may {w w' : World} {r : RowP} {e : Ending} (h : MakeOut w r e w') (hm : MayR r) : ∃ A c, e = .returned (.tuple #[.slice A (makeR r).length c, .int .i64 0]) ∧ Below w.heap.size w w' ∧ (makeR r).length ≤ c ∧ OwnB w' w.heap.size (.slice A (makeR r).length c) (makeR r) := by
  obtain ⟨v, k, rfl, hb, ⟨_, rfl, ho⟩ | ⟨hn, _, _⟩⟩ := h
  · obtain ⟨A, c, rfl, hc, -, ho', -⟩ := ho.open_
    exact ⟨A, c, rfl, hb, hc, ho'⟩
  · exact absurd hm hn
theorem MakeOut.open_ {w w' : World} {r : RowP} {e : Ending} (h : MakeOut w r e w') : ∃ A n c k, e = .returned (.tuple #[.slice A n c, .int .i64 (k : Nat)]) ∧ Below w.heap.size w w' ∧ ((MayR r ∧ k = 0 ∧ n = (makeR r).length ∧ n ≤ c ∧ OwnB w' w.heap.size (.slice A n c) (makeR r)) ∨ (¬ MayR r ∧ k = 120 ∧ A = none ∧ n = 0 ∧ c = 0)) := by
  obtain ⟨v, k, rfl, hb, ⟨h1, h2, ho⟩ | ⟨h1, h2, rfl⟩⟩ := h
  · obtain ⟨A, c, rfl, hc, -, ho', -⟩ := ho.open_
    exact ⟨A, _, c, k, rfl, hb, .inl ⟨h1, h2, rfl, hc, ho'⟩⟩
  · exact ⟨none, 0, 0, k, rfl, hb, .inr ⟨h1, h2, rfl, rfl, rfl⟩⟩
/-- A row of items, put together by the document's way. -/
theorem refItems_1 {w : World} {A : Option Addr} {n c : Nat} {a : List Item} (h : BRow w A n c a) (bb : Nat) (hbb : w.heap.size = bb) : Calls Tryz.prog 43 #[.slice (some ⟨bb, 0, none⟩) 1 1] (w.alloc (.cells #[.slice A n c] 44)) (BIs w (uniqL ahead a)) := by
  have h1 := h.len
  have h0 := h.few
  have hS : Sees3 (w.alloc (.cells #[.slice A n c] 44)) (bb + 1) (some ⟨bb, 0, none⟩) [a] := Sees3.new _ _ hbb _ _ _ fun i hi => by
    subst hbb
    match i, hi with
    | 0, _ => exact ⟨A, c, by rw [← h1]; rfl, by show a.length ≤ c; rw [h1]; exact h.cap, h.sees⟩
  obtain ⟨LL, hLL, hR⟩ := rows_of (hS.more (B' := (w.alloc (.cells #[.slice A n c] 44)).heap.size) (by simp; omega))
  have hfl : LL.flatten.map key = a := by
    have := congrArg List.flatten hLL
    rw [keysOf_flat] at this
    rw [this]; simp
  have hlen : LL.length = 1 := by have := congrArg List.length hLL; simpa [keysOf] using this
  have hk : LL.flatten.length ≤ 10000 := by rw [← hfl, List.length_map] at h1; omega
  have := RefItems_any (some ⟨bb, 0, none⟩) 1 1 LL _ hR hlen (by omega) hk fun r hr y hy => h.short _ (by rw [← hfl]; exact List.mem_map_of_mem (List.mem_flatten.2 ⟨r, hr, hy⟩))
  rw [hfl] at this
  exact this.mono fun e w' hr => hr.back (below_newB w _)

theorem wants_1 (ls : List Lb) (days : List Int) : (⟨1, true, lb0, 0⟩ : RQ) ∈ wants ls days := by simp [wants]
theorem wants_4 {ls : List Lb} {days : List Int} {x : Lb} {d : Int} (hx : x ∈ ls) (hd : d ∈ days) : (⟨4, false, x, d⟩ : RQ) ∈ wants ls days := by
  unfold wants
  refine List.mem_append_right _ (List.mem_flatMap.2 ⟨x, hx, ?_⟩)
  unfold perL
  exact List.mem_cons_of_mem _ (List.mem_map.2 ⟨d, hd, rfl⟩)
theorem may_12 {ls : List Lb} {i k : Int} (hm : MayL ls) (h1 : 1 ≤ i) (h2 : i ≤ 1073741824) (hk : k = 1 ∨ k = 2) : MayR ⟨k, ls, lb0, 0, i⟩ := ⟨h1, h2, Int.le_refl 0, (by show (0 : Int) ≤ 2147483647; decide), .inl ⟨hk, hm, rfl, rfl⟩⟩
theorem may_3 {x : Lb} {i : Int} (hx : okL x = true) (h1 : 1 ≤ i) (h2 : i ≤ 1073741824) : MayR ⟨3, [], x, 0, i⟩ := ⟨h1, h2, Int.le_refl 0, (by show (0 : Int) ≤ 2147483647; decide), .inr (.inl ⟨rfl, rfl, hx, rfl⟩)⟩
theorem not_may {ls : List Lb} {i : Int} {days : List Int} (h : ¬ (MayL ls ∧ 1 ≤ i ∧ i ≤ 1073741824)) : ¬ ∀ q ∈ wants ls days, MayR (rowOf ls i q) := fun ha => h (by
  have h1 := ha _ (wants_1 ls days)
  rcases h1.kinds with ⟨_, b, _⟩ | ⟨b, _⟩ | ⟨b, _⟩ | ⟨b, _⟩
  · exact ⟨b, h1.id1, h1.id2⟩
  · simp [rowOf] at b
  · simp [rowOf] at b
  · simp [rowOf] at b)
theorem AllRows.bad {w w' : World} {ls : List Lb} {i : Int} {days : List Int} (h : ¬ ∀ q ∈ wants ls days, MayR (rowOf ls i q)) (hb : Below w.heap.size w w') : AllRows w ls i days (.returned (.tuple #[.slice none 0 0, .int .i64 120])) w' :=
  ⟨none, 0, 0, 120, [], rfl, hb, BRow.nil _, .inr ⟨h, rfl, rfl⟩⟩
theorem itemsOf_app (ls : List Lb) (i : Int) (P Q : List RQ) : itemsOf ls i (P ++ Q) = itemsOf ls i P ++ itemsOf ls i Q := by simp [itemsOf]

set_option maxRecDepth 100000 in
set_option maxHeartbeats 6400000 in
theorem RefAll_any (A A2 : Option Addr) (n c m c2 : Nat) (ls : List Lb) (days : List Int) (hn : ls.length = n) (hm : days.length = m) (i : Int) (w : World) (hS : Sees w w.heap.size A (lv ls)) (hD : Sees w w.heap.size A2 (dv days)) (hn10 : n ≤ 100) (hm20 : m ≤ 20) (hsz : ∀ x ∈ ls, x.1.size ≤ 9223372036854775807) :
    Calls Tryz.prog 20 #[.slice A n c, .int .i64 i, .slice A2 m c2] w (AllRows w ls i days) := by
  have HN := Lib.hid hn
  have HM := Lib.hid hm
  have HSZ := Lib.hid hsz
  have hMay := Lib.hid (RefMay_any A n c ls hn w hS (by omega) hsz)
  clear hn hm hsz
  go_enter Tryz.func20, Tryz.ntmps20
  go_wp2_with fail
  refine hMay.out.mono ?_
  rintro en w2 ⟨b, hbm, rfl, q0, rfl⟩
  have HBM := Lib.hid hbm
  have hbq : Below w.heap.size w (w.drewN q0) := below_d (Below.refl _ _) q0
  have HBQ := Lib.hid hbq
  clear hbm hMay hbq
  cases b with
  | false =>
    have HNO := Lib.hid (not_may (days := days) (i := i) fun h => absurd (HBM.out.2 h.1) (by simp))
    go_wp2_with fail
    go_ret2
    exact AllRows.bad HNO.out HBQ.out
  | true =>
  have HML : Hid (MayL ls) := HBM.out.1 rfl
  clear HBM
  by_cases hi1 : i < 1
  · have HNO := Lib.hid (not_may (ls := ls) (days := days) (i := i) fun h => by omega)
    go_wp2_with fail
    go_ret2
    exact AllRows.bad HNO.out HBQ.out
  by_cases hi2 : 1073741824 < i
  · have HNO := Lib.hid (not_may (ls := ls) (days := days) (i := i) fun h => by omega)
    go_wp2_with fail
    go_ret2
    exact AllRows.bad HNO.out HBQ.out
  have i1 : 1 ≤ i := by omega
  have i2 : i ≤ 1073741824 := by omega
  have hn6 : n ≤ 6 := by have := HML.out.few; have := HN.out; omega
  have hM1 := Lib.hid (RefMakeR_any A n c ls HN.out 1 0 i ⟨#[]⟩ ⟨#[]⟩ (w.drewN q0) ((hS.below HBQ.out).more HBQ.out.size) (by omega) HSZ.out (by decide))
  go_wp2_with fail
  refine hM1.out.mono ?_
  rintro en w3 h3
  obtain ⟨A3, c3, rfl, hb3, hc3, ho3⟩ := h3.may (may_12 HML.out i1 i2 (.inl rfl))
  obtain ⟨L1, hL1⟩ : ∃ L, makeR ⟨1, ls, (⟨#[]⟩, ⟨#[]⟩), 0, i⟩ = L := ⟨_, rfl⟩
  rw [hL1] at hc3 ho3
  simp only [hL1]
  obtain ⟨n3, hn3⟩ : ∃ n3, L1.length = n3 := ⟨_, rfl⟩
  rw [hn3] at hc3 ho3
  simp only [hn3]
  have HL1 := Lib.hid hL1
  have HN3 := Lib.hid hn3
  have hb03 : Below w.heap.size w w3 := HBQ.out.trans (hb3.mono HBQ.out.size)
  have hM2 := Lib.hid (RefMakeR_any A n c ls HN.out 2 0 i ⟨#[]⟩ ⟨#[]⟩ w3 ((hS.below hb03).more hb03.size) (by omega) HSZ.out (by decide))
  clear hM1 h3 hL1 hn3
  go_wp2_with fail
  refine hM2.out.mono ?_
  rintro en w4 h4
  obtain ⟨A4, c4, rfl, hb4, hc4, ho4⟩ := h4.may (may_12 HML.out i1 i2 (.inr rfl))
  obtain ⟨L2, hL2⟩ : ∃ L, makeR ⟨2, ls, (⟨#[]⟩, ⟨#[]⟩), 0, i⟩ = L := ⟨_, rfl⟩
  rw [hL2] at hc4 ho4
  simp only [hL2]
  obtain ⟨n4, hn4⟩ : ∃ n4, L2.length = n4 := ⟨_, rfl⟩
  rw [hn4] at hc4 ho4
  simp only [hn4]
  have HL2 := Lib.hid hL2
  have HN4 := Lib.hid hn4
  have hb04 : Below w.heap.size w w4 := hb03.trans (hb4.mono hb03.size)
  have ho3' := (ho3.base_le HBQ.out.size).below hb4
  have ho4' := ho4.base_le hb03.size
  have htwo := Lib.hid (OwnS.two w4 w.heap.size hb04.size A3 A4 n3 n4 c3 c4 L1 L2 HN3.out HN4.out hc3 hc4 ho3' ho4')
  have hit0 : Hid (itemsOf ls i ([⟨1, true, lb0, 0⟩, ⟨2, true, lb0, 0⟩] : List RQ) = [L1, L2]) := by
    unfold Hid; rw [← HL1.out, ← HL2.out]; rfl
  have hall0 : Hid (∀ q ∈ ([⟨1, true, lb0, 0⟩, ⟨2, true, lb0, 0⟩] : List RQ), MayR (rowOf ls i q)) := fun q hq => by
    simp at hq
    rcases hq with rfl | rfl
    · exact may_12 HML.out i1 i2 (.inl rfl)
    · exact may_12 HML.out i1 i2 (.inr rfl)
  obtain ⟨w5, hw5⟩ : ∃ w5, w4.alloc (.cells #[.slice A3 n3 c3, .slice A4 n4 c4] 29) = w5 := ⟨_, rfl⟩
  rw [hw5] at htwo
  have hb5 : Below w.heap.size w w5 := hw5 ▸ hb04.alloc hb04.size _
  have hv5 : Hid (∃ v, v = Value.slice (some ⟨w4.heap.size, 0, none⟩) 2 2) := ⟨_, rfl⟩
  clear hM2 h4 hL2 hn4 ho3' ho4' ho3 ho4 hb3 hb4 hc3 hc4
  go_wp2_with fail
  go_loopg [12, 13] n (fun g v z wr => ∃ k : Nat, k + g = n ∧ z = .int .i64 k ∧ OwnS wr w.heap.size v (itemsOf ls i ([⟨1, true, lb0, 0⟩, ⟨2, true, lb0, 0⟩] ++ (ls.take k).flatMap (perL days))) ∧ Hid (∀ q ∈ ([⟨1, true, lb0, 0⟩, ⟨2, true, lb0, 0⟩] : List RQ) ++ (ls.take k).flatMap (perL days), MayR (rowOf ls i q)) ∧ Below w.heap.size w wr)
  case atStart => exact ⟨0, by omega, rfl, by simpa [hit0.out] using htwo.out, by have := hall0.out; unfold Hid; simpa using this, hb5⟩
  case round =>
    obtain ⟨k, hk, rfl, hown, hmays, hbr⟩ := hrel
    have hsr := hbr.size
    clear hw5 hb5 htwo
    by_cases hlt : k < n
    · have hkl : k < ls.length := by have := HN.out; omega
      obtain ⟨ad, rfl, hadB, hc0, hc1⟩ := (hS.below hbr).lb (k := k) hkl
      have hft := flat_take hkl days
      have hxm : ls[k] ∈ ls := List.getElem_mem hkl
      have hPl : (([⟨1, true, lb0, 0⟩, ⟨2, true, lb0, 0⟩] : List RQ) ++ (ls.take k).flatMap (perL days)).length ≤ 2 + 100 * 21 := by
        have h1 := wants_len (ls.take k) days
        unfold wants at h1
        rw [h1, List.length_take, HM.out]
        have : min k ls.length * (m + 1) ≤ 100 * 21 := Nat.mul_le_mul (by omega) (by omega)
        omega
      obtain ⟨x, hx⟩ : ∃ x, ls[k] = x := ⟨_, rfl⟩
      rw [hx] at hc0 hc1 hft hxm
      obtain ⟨x1, x2⟩ := x
      have HLS := Lib.hid hx
      clear hx
      have hpre : ([⟨1, true, lb0, 0⟩, ⟨2, true, lb0, 0⟩] : List RQ) ++ (ls.take (k + 1)).flatMap (perL days) = ([⟨1, true, lb0, 0⟩, ⟨2, true, lb0, 0⟩] ++ (ls.take k).flatMap (perL days)) ++ perL days (x1, x2) := by rw [hft, List.append_assoc]
      obtain ⟨P, hP⟩ : ∃ P, ([⟨1, true, lb0, 0⟩, ⟨2, true, lb0, 0⟩] : List RQ) ++ (ls.take k).flatMap (perL days) = P := ⟨_, rfl⟩
      rw [hP] at hpre hown hPl hmays
      have HP := Lib.hid hpre
      have HPL := Lib.hid hPl
      have HXM := Lib.hid hxm
      have hx1 : x1.size ≤ 9223372036854775807 := HSZ.out _ hxm
      have hokx := HML.out.ok _ hxm
      have hm3 := may_3 hokx i1 i2
      have hM3 := Lib.hid (RefMakeR_any none 0 0 [] rfl 3 0 i x1 x2 wr (Sees.nil _ _ _) (by omega) (by simp) hx1)
      have hPi : (itemsOf ls i P).length ≤ 2200 := by unfold itemsOf; rw [List.length_map]; omega
      have HPI := Lib.hid hPi
      have HX1 := Lib.hid hx1
      have hm3' := Lib.hid hm3
      have jn : (k : Int) < (n : Int) := by omega
      obtain ⟨vsO, hO1, -⟩ := hown.out
      have hOlt := World.ownsRow.lt hO1
      clear hft hpre hP hPl hxm hx1 hokx hm3 hPi hO1
      go_wp2_with fail
      refine hM3.out.mono ?_
      rintro en w6 h6
      obtain ⟨A6, c6, rfl, hb6, hc6, ho6⟩ := h6.may hm3'.out
      obtain ⟨Y, hY⟩ : ∃ L, makeR ⟨3, [], (x1, x2), 0, i⟩ = L := ⟨_, rfl⟩
      rw [hY] at hc6 ho6
      simp only [hY]
      have hs6 := hb6.size
      have hb06 := hbr.trans (hb6.mono hsr)
      have HY := Lib.hid hY
      have hseN : SeesN (w6.alloc (.cells #[.slice A6 Y.length c6] 29)) w.heap.size (Value.ownBlock u12) A6 (bv Y) :=
        (SeesN.of_own (ho6.base_le hsr) rfl (Value.ownBlock u12) (fun bb hb he => by
          have h1 := (hOlt bb he.symm).2
          have h2 := ho6.block bb hb
          omega)).below (KI_new w6 _)
      have hown6 := hown.below hb6
      clear hM3 h6 hY hown
      go_wp2_with (at_builtin; refine wpList_append_s rfl (.tmp 63) (.tmp 65) rfl w.heap.size u12 _ (by rfl) (hown6.below (KI_new w6 _)) ⟨w6.heap.size, 0, none⟩ 1 Y A6 c6 (by rfl) (by rw [World.cell?_alloc_at _ _ _ _ rfl]; rfl) hc6 hseN (by have := HPI.out; omega) (by simp; omega) ?_; intro v7 w7 hown7 hgr7 hat7)
      have hb7 : Below w.heap.size w w7 := hb06.trans (((Below.refl _ w6).alloc hb06.size _).trans ((Below.refl _ _).grown hgr7 (by have := hb06.size; simp; omega) (fun bb hb => (hOlt bb hb).1)))
      have hit3 : Hid (itemsOf ls i (P ++ [⟨3, false, (x1, x2), 0⟩]) = itemsOf ls i P ++ [Y]) := by
        unfold Hid; rw [itemsOf_app, ← HY.out]; rfl
      have hown7' : OwnS w7 w.heap.size v7 (itemsOf ls i (P ++ [⟨3, false, (x1, x2), 0⟩])) := by rw [hit3.out]; exact hown7
      have hmays7 : Hid (∀ q ∈ P ++ [(⟨3, false, (x1, x2), 0⟩ : RQ)], MayR (rowOf ls i q)) := fun q hq => by
        rcases List.mem_append.1 hq with h | h
        · exact hmays.out q h
        · rw [List.mem_singleton.1 h]; exact hm3'.out
      have HO7 := Lib.hid hown7'
      obtain ⟨wo, rfl⟩ : ∃ wo : World, wo = wr := ⟨_, rfl⟩
      clear hown6 hgr7 hat7 hown7 hseN hOlt hown7' hc0 hc1 hbr hsr hs6 hb6 hb06 hc6 ho6
      go_loopg [12, 16] m (fun g v z wq => ∃ j : Nat, j + g = m ∧ z = .int .i64 j ∧ OwnS wq w.heap.size v (itemsOf ls i (P ++ [⟨3, false, (x1, x2), 0⟩] ++ (days.take j).map fun d => ⟨4, false, (x1, x2), d⟩)) ∧ Hid (∀ q ∈ P ++ [(⟨3, false, (x1, x2), 0⟩ : RQ)] ++ (days.take j).map (fun d => ⟨4, false, (x1, x2), d⟩), MayR (rowOf ls i q)) ∧ Below w.heap.size w wq)
      case atStart => exact ⟨0, by omega, rfl, by simpa using HO7.out, by have := hmays7.out; unfold Hid; simpa using this, hb7⟩
      case round =>
        obtain ⟨j, hj, rfl, hown, hmq, hbq⟩ := hrel
        have hsq := hbq.size
        clear hb7 HO7 hmays7
        by_cases hjl : j < m
        · have hjd : j < days.length := by have := HM.out; omega
          obtain ⟨ad2, rfl, had2, hdc⟩ := dv_cell (hD.below hbq) hjd
          have hdm : days[j] ∈ days := List.getElem_mem hjd
          have htk : (days.take (j + 1)).map (fun d => (⟨4, false, (x1, x2), d⟩ : RQ)) = (days.take j).map (fun d => ⟨4, false, (x1, x2), d⟩) ++ [⟨4, false, (x1, x2), days[j]⟩] := by rw [List.take_add_one, List.getElem?_eq_getElem hjd, List.map_append]; rfl
          have hPl2 : (P ++ [(⟨3, false, (x1, x2), 0⟩ : RQ)] ++ (days.take j).map fun d => (⟨4, false, (x1, x2), d⟩ : RQ)).length ≤ 3000 := by
            rw [List.length_append, List.length_append, List.length_map, List.length_take]; have := HPL.out; simp; omega
          obtain ⟨ad3, had3, hadB3, hx0, hx1'⟩ := (hS.below hbq).lb (k := k) hkl
          injection had3 with had3
          subst had3
          rw [HLS.out] at hx0 hx1'
          generalize days[j] = dd at hdc htk hdm
          have HTK := Lib.hid htk
          obtain ⟨P2, hP2⟩ : ∃ P2, P ++ [(⟨3, false, (x1, x2), 0⟩ : RQ)] ++ (days.take j).map (fun d => (⟨4, false, (x1, x2), d⟩ : RQ)) = P2 := ⟨_, rfl⟩
          rw [hP2] at hown hPl2 hmq
          have HP2 := Lib.hid hP2
          have hPi2 : (itemsOf ls i P2).length ≤ 3000 := by unfold itemsOf; rw [List.length_map]; omega
          have HPI2 := Lib.hid hPi2
          have HDM := Lib.hid hdm
          obtain ⟨vsO, hO1, -⟩ := hown.out
          have hOlt := World.ownsRow.lt hO1
          have jn2 : (j : Int) < (m : Int) := by omega
          have hM4 := Lib.hid (RefMakeR_any none 0 0 [] rfl 4 dd i x1 x2 wr.drew (Sees.nil _ _ _) (by omega) (by simp) HX1.out)
          clear htk hP2 hPl2 hPi2 hdm hO1
          go_wp2_with fail
          refine wp_region_noPanic ?_
          refine wp_region_held_drew (S := fun w' => w'.cell? (ad2.add j) = some (.int .i64 dd) ∧ w'.cell? (ad.add (k * 2)) = some (.string x1) ∧ w'.cell? ⟨(ad.add (k * 2)).block, (ad.add (k * 2)).off + 1, none⟩ = some (.string x2)) (by kernel_rfl) ?_ (fun hHeld => ?_)
          · (exact ⟨hdc, hx0, hx1'⟩)
          refine wpAnyH_take (i := 0) (oi := { dst := some 74, op := Op.move (Operand.tmp 2), type := 43, pos := "ref.go:150", after := #[], guard := none }) (v := ?_) rfl (by kernel_rfl) (by kernel_rfl) (by kernel_rfl) (fun _ _ _ h => h) (Or.inl ⟨by rfl, ?_⟩) hHeld ?_
          rotate_left
          · (intro w' hSw; (try dsimp only at hSw); go_split_ands; go_simp; first | done | with_reducible rfl)
          try simp only [Act.put, List.setIfInBounds_toArray, List.set_cons_zero, List.set_cons_succ]
          refine wpAnyH_take (i := 1) (oi := { dst := some 75, op := Op.move (Operand.tmp 16), type := 3, pos := "ref.go:150", after := #[], guard := none }) (v := ?_) rfl (by kernel_rfl) (by kernel_rfl) (by kernel_rfl) (fun _ _ _ h => h) (Or.inl ⟨by rfl, ?_⟩) hHeld ?_
          rotate_left
          · (intro w' hSw; (try dsimp only at hSw); go_split_ands; go_simp; first | done | with_reducible rfl)
          try simp only [Act.put, List.setIfInBounds_toArray, List.set_cons_zero, List.set_cons_succ]
          refine wpAnyH_take (i := 2) (oi := { dst := some 76, op := Op.indexAddr 43 (Operand.tmp 74) (Operand.tmp 75), type := 0, pos := "ref.go:150", after := #[{ on := 0, ground := Ground.data }, { on := 1, ground := Ground.data }], guard := none }) (v := ?_) rfl (by kernel_rfl) (by kernel_rfl) (by kernel_rfl) (fun _ _ _ h => h) (Or.inl ⟨by rfl, ?_⟩) hHeld ?_
          rotate_left
          · (intro w' hSw; (try dsimp only at hSw); go_split_ands; go_simp; first | done | with_reducible rfl)
          try simp only [Act.put, List.setIfInBounds_toArray, List.set_cons_zero, List.set_cons_succ]
          refine wpAnyH_take (i := 3) (oi := { dst := some 77, op := Op.load 3 (Operand.tmp 76), type := 3, pos := "ref.go:150", after := #[{ on := 2, ground := Ground.data }], guard := none }) (v := ?_) rfl (by kernel_rfl) (by kernel_rfl) (by kernel_rfl) (fun _ _ _ h => h) (Or.inl ⟨by rfl, ?_⟩) hHeld ?_
          rotate_left
          · (intro w' hSw; (try dsimp only at hSw); go_split_ands; go_simp; first | done | with_reducible rfl)
          try simp only [Act.put, List.setIfInBounds_toArray, List.set_cons_zero, List.set_cons_succ]
          refine wpAnyH_take (i := 4) (oi := { dst := some 78, op := Op.move (Operand.tmp 0), type := 22, pos := "ref.go:150", after := #[], guard := none }) (v := ?_) rfl (by kernel_rfl) (by kernel_rfl) (by kernel_rfl) (fun _ _ _ h => h) (Or.inl ⟨by rfl, ?_⟩) hHeld ?_
          rotate_left
          · (intro w' hSw; (try dsimp only at hSw); go_split_ands; go_simp; first | done | with_reducible rfl)
          try simp only [Act.put, List.setIfInBounds_toArray, List.set_cons_zero, List.set_cons_succ]
          refine wpAnyH_take (i := 5) (oi := { dst := some 79, op := Op.move (Operand.tmp 13), type := 3, pos := "ref.go:150", after := #[], guard := none }) (v := ?_) rfl (by kernel_rfl) (by kernel_rfl) (by kernel_rfl) (fun _ _ _ h => h) (Or.inl ⟨by rfl, ?_⟩) hHeld ?_
          rotate_left
          · (intro w' hSw; (try dsimp only at hSw); go_split_ands; go_simp; first | done | with_reducible rfl)
          try simp only [Act.put, List.setIfInBounds_toArray, List.set_cons_zero, List.set_cons_succ]
          refine wpAnyH_take (i := 6) (oi := { dst := some 80, op := Op.indexAddr 22 (Operand.tmp 78) (Operand.tmp 79), type := 0, pos := "ref.go:150", after := #[{ on := 4, ground := Ground.data }, { on := 5, ground := Ground.data }], guard := none }) (v := ?_) rfl (by kernel_rfl) (by kernel_rfl) (by kernel_rfl) (fun _ _ _ h => h) (Or.inl ⟨by rfl, ?_⟩) hHeld ?_
          rotate_left
          · (intro w' hSw; (try dsimp only at hSw); go_split_ands; go_simp; first | done | with_reducible rfl)
          try simp only [Act.put, List.setIfInBounds_toArray, List.set_cons_zero, List.set_cons_succ]
          refine wpAnyH_take (i := 7) (oi := { dst := some 81, op := Op.load 24 (Operand.tmp 80), type := 24, pos := "ref.go:150", after := #[{ on := 6, ground := Ground.data }], guard := none }) (v := ?_) rfl (by kernel_rfl) (by kernel_rfl) (by kernel_rfl) (fun _ _ _ h => h) (Or.inl ⟨by rfl, ?_⟩) hHeld ?_
          rotate_left
          · (intro w' hSw; (try dsimp only at hSw); go_split_ands; go_simp; first | done | with_reducible rfl)
          try simp only [Act.put, List.setIfInBounds_toArray, List.set_cons_zero, List.set_cons_succ]
          refine wpAnyH_take (i := 8) (oi := { dst := some 82, op := Op.move (Operand.tmp 1), type := 3, pos := "ref.go:150", after := #[], guard := none }) (v := ?_) rfl (by kernel_rfl) (by kernel_rfl) (by kernel_rfl) (fun _ _ _ h => h) (Or.inl ⟨by rfl, ?_⟩) hHeld ?_
          rotate_left
          · (intro w' hSw; (try dsimp only at hSw); go_split_ands; go_simp; first | done | with_reducible rfl)
          try simp only [Act.put, List.setIfInBounds_toArray, List.set_cons_zero, List.set_cons_succ]
          refine wpAnyH_take (i := 9) (oi := { dst := some 83, op := Op.build 34 #[(0, Operand.const (Value.int IntKind.i64 4)), (3, Operand.tmp 77), (2, Operand.tmp 81), (4, Operand.tmp 82)], type := 34, pos := "ref.go:150", after := #[{ on := 3, ground := Ground.data }, { on := 7, ground := Ground.data }, { on := 8, ground := Ground.data }], guard := none }) (v := ?_) rfl (by kernel_rfl) (by kernel_rfl) (by kernel_rfl) (fun _ _ _ h => h) (Or.inl ⟨by rfl, ?_⟩) hHeld ?_
          rotate_left
          · (intro w' hSw; (try dsimp only at hSw); go_split_ands; go_simp; first | done | with_reducible rfl)
          try simp only [Act.put, List.setIfInBounds_toArray, List.set_cons_zero, List.set_cons_succ]
          refine wpAnyH_ready (rs := [10]) (by kernel_rfl) (by simp) ?_
          refine AllReadyH.cons (o := { dst := some 84, op := Op.call { callee := Callee.value (Operand.func 12), args := #[Operand.tmp 83], argTypes := #[34] }, type := 31, pos := "ref.go:150", after := #[{ on := 9, ground := Ground.data }], guard := none }) rfl (fun K hK => ?_) AllReadyH.nil
          go_simp
          refine hM4.out.mono ?_
          rintro en w8 h8
          obtain ⟨A8, n8, c8, k8, rfl, hb8, hres⟩ := h8.open_
          have hbW : Below wr.heap.size wr w8 := below_undrew hb8
          refine hK.out _ _ ?_ ?_
          · (exact ⟨(hbW.cell (by rw [add_block]; omega)).trans hdc, (hbW.cell (by rw [add_block]; omega)).trans hx0, (hbW.cell (by show (ad.add (k * 2)).block < _; rw [add_block]; omega)).trans hx1'⟩)
          clear hK K hHeld; intro hHeld
          try simp only [Act.put, List.setIfInBounds_toArray, List.set_cons_zero, List.set_cons_succ]
          refine wpAnyH_take (i := 11) (oi := { dst := some 73, op := Op.move (Operand.tmp 84), type := 31, pos := "ref.go:150", after := #[{ on := 10, ground := Ground.data }], guard := none }) (v := ?_) rfl (by kernel_rfl) (by kernel_rfl) (by kernel_rfl) (fun _ _ _ h => h) (Or.inl ⟨by rfl, ?_⟩) hHeld ?_
          rotate_left
          · (intro w' hSw; (try dsimp only at hSw); go_split_ands; go_simp; first | done | with_reducible rfl)
          try simp only [Act.put, List.setIfInBounds_toArray, List.set_cons_zero, List.set_cons_succ]
          refine wpAnyH_take (i := 12) (oi := { dst := some 85, op := Op.extract (Operand.tmp 73) 0, type := 29, pos := "ref.go:150", after := #[{ on := 11, ground := Ground.data }], guard := none }) (v := ?_) rfl (by kernel_rfl) (by kernel_rfl) (by kernel_rfl) (fun _ _ _ h => h) (Or.inl ⟨by rfl, ?_⟩) hHeld ?_
          rotate_left
          · (intro w' hSw; (try dsimp only at hSw); go_split_ands; go_simp; first | done | with_reducible rfl)
          try simp only [Act.put, List.setIfInBounds_toArray, List.set_cons_zero, List.set_cons_succ]
          refine wpAnyH_take (i := 13) (oi := { dst := some 86, op := Op.extract (Operand.tmp 73) 1, type := 30, pos := "ref.go:150", after := #[{ on := 11, ground := Ground.data }, { on := 14, ground := Ground.gcOnly Departure.lateStores }], guard := none }) (v := ?_) rfl (by kernel_rfl) (by kernel_rfl) (by kernel_rfl) (fun _ _ _ h => h) (Or.inl ⟨by rfl, ?_⟩) hHeld ?_
          rotate_left
          · (intro w' hSw; (try dsimp only at hSw); go_split_ands; go_simp; first | done | with_reducible rfl)
          try simp only [Act.put, List.setIfInBounds_toArray, List.set_cons_zero, List.set_cons_succ]
          refine wpAnyH_take (i := 14) (oi := { dst := some 17, op := Op.assign (Operand.tmp 85), type := 29, pos := "ref.go:150", after := #[{ on := 12, ground := Ground.data }, { on := 10, ground := Ground.chain }, { on := 0, ground := Ground.phase }, { on := 1, ground := Ground.phase }, { on := 2, ground := Ground.phase }, { on := 3, ground := Ground.phase }, { on := 4, ground := Ground.phase }, { on := 5, ground := Ground.phase }, { on := 6, ground := Ground.phase }, { on := 7, ground := Ground.phase }, { on := 8, ground := Ground.phase }, { on := 9, ground := Ground.phase }, { on := 10, ground := Ground.phase }, { on := 11, ground := Ground.phase }, { on := 12, ground := Ground.phase }, { on := 13, ground := Ground.textOnly Departure.lateStores }], guard := none }) (v := ?_) rfl (by kernel_rfl) (by kernel_rfl) (by kernel_rfl) (fun _ _ _ h => h) (Or.inl ⟨by rfl, ?_⟩) hHeld ?_
          rotate_left
          · (intro w' hSw; (try dsimp only at hSw); go_split_ands; go_simp; first | done | with_reducible rfl)
          try simp only [Act.put, List.setIfInBounds_toArray, List.set_cons_zero, List.set_cons_succ]
          refine wpAnyH_take (i := 15) (oi := { dst := some 18, op := Op.assign (Operand.tmp 86), type := 30, pos := "ref.go:150", after := #[{ on := 13, ground := Ground.data }, { on := 14, ground := Ground.chain }, { on := 0, ground := Ground.phase }, { on := 1, ground := Ground.phase }, { on := 2, ground := Ground.phase }, { on := 3, ground := Ground.phase }, { on := 4, ground := Ground.phase }, { on := 5, ground := Ground.phase }, { on := 6, ground := Ground.phase }, { on := 7, ground := Ground.phase }, { on := 8, ground := Ground.phase }, { on := 9, ground := Ground.phase }, { on := 10, ground := Ground.phase }, { on := 11, ground := Ground.phase }, { on := 12, ground := Ground.phase }, { on := 13, ground := Ground.phase }, { on := 14, ground := Ground.phase }], guard := none }) (v := ?_) rfl (by kernel_rfl) (by kernel_rfl) (by kernel_rfl) (fun _ _ _ h => h) (Or.inl ⟨by rfl, ?_⟩) hHeld ?_
          rotate_left
          · (intro w' hSw; (try dsimp only at hSw); go_split_ands; go_simp; first | done | with_reducible rfl)
          try simp only [Act.put, List.setIfInBounds_toArray, List.set_cons_zero, List.set_cons_succ]
          refine wpAnyH_done (by kernel_rfl) ?_ _
          refine NoPanic.normal ?_
          have hs8 := hbW.size
          have hb08 : Below w.heap.size w w8 := hbq.trans (hbW.mono hsq)
          clear hM4 h8 hb8 hHeld
          rcases hres with ⟨hmay, rfl, hn8, hc8, ho8⟩ | ⟨hno, rfl, rfl, rfl, rfl⟩
          · obtain ⟨Y, hY⟩ : ∃ Y, makeR ⟨4, [], (x1, x2), dd, i⟩ = Y := ⟨_, rfl⟩
            rw [hY] at hn8 ho8
            subst hn8
            have HY := Lib.hid hY
            have HMY := Lib.hid hmay
            have hseN : SeesN (w8.alloc (.cells #[.slice A8 Y.length c8] 29)) w.heap.size (Value.ownBlock u12) A8 (bv Y) :=
              (SeesN.of_own (ho8.base_le hsq) rfl (Value.ownBlock u12) (fun bb hb he => by
                have h1 := (hOlt bb he.symm).2
                have h2 := ho8.block bb hb
                have h3 : wr.drew.heap.size = wr.heap.size := rfl
                omega)).below (KI_new w8 _)
            have hown8 := hown.below hbW
            clear hmay hY hown hdc hx0 hx1'
            go_wp2_with (at_builtin; refine wpList_append_s rfl (.tmp 89) (.tmp 91) rfl w.heap.size u12 _ (by rfl) (hown8.below (KI_new w8 _)) ⟨w8.heap.size, 0, none⟩ 1 Y A8 c8 (by rfl) (by rw [World.cell?_alloc_at _ _ _ _ rfl]; rfl) hc8 hseN (by have := HPI2.out; omega) (by simp; omega) ?_; intro v9 w9 hown9 hgr9 hat9)
            have hb9 : Below w.heap.size w w9 := hb08.trans (((Below.refl _ w8).alloc hb08.size _).trans ((Below.refl _ _).grown hgr9 (by have := hb08.size; simp; omega) (fun bb hb => (hOlt bb hb).1)))
            go_roundg (m - (j + 1))
            case measure => omega
            case rel =>
              refine ⟨j + 1, by omega, by go_num, ?_, ?_, hb9⟩
              · rw [HTK.out, ← List.append_assoc, HP2.out, itemsOf_app]
                rw [show itemsOf ls i [(⟨4, false, (x1, x2), dd⟩ : RQ)] = [Y] from by rw [← HY.out]; rfl]
                exact hown9
              · unfold Hid
                rw [HTK.out, ← List.append_assoc, HP2.out]
                intro q hq
                rcases List.mem_append.1 hq with h | h
                · exact hmq.out q h
                · rw [List.mem_singleton.1 h]; exact HMY.out
          · have HNO : Hid (¬ ∀ q ∈ wants ls days, MayR (rowOf ls i q)) := fun h => hno (h _ (wants_4 HXM.out HDM.out))
            clear hno
            go_wp2_with fail
            go_ret2
            exact AllRows.bad HNO.out hb08
        · have htk : days.take j = days := List.take_of_length_le (by have := HM.out; omega)
          rw [htk] at hown hmq
          clear htk
          go_wp2
          go_roundg (n - (k + 1))
          case measure => omega
          case rel =>
            refine ⟨k + 1, by omega, by go_num, ?_, ?_, hbq⟩
            · rw [HP.out]; unfold perL; rw [← List.singleton_append, ← List.append_assoc]; exact hown
            · unfold Hid; rw [HP.out]; unfold perL; rw [← List.singleton_append, ← List.append_assoc]; exact hmq.out
    · have hkn : k = n := by omega
      have htk : ls.take k = ls := List.take_of_length_le (by have := HN.out; omega)
      clear hkn
      rw [htk] at hown hmays
      change OwnS wr w.heap.size _ (itemsOf ls i (wants ls days)) at hown
      have hall : ∀ q ∈ wants ls days, MayR (rowOf ls i q) := hmays.out
      have hN1 : (wants ls days).length ≤ 2200 := by
        rw [wants_len, HM.out]
        have : ls.length * (m + 1) ≤ 100 * 21 := Nat.mul_le_mul (by have := HN.out; omega) (by omega)
        omega
      obtain ⟨AO, cO, hvO, hcO, hsO⟩ := hown.open_
      have hsh : ∀ x ∈ itemsOf ls i (wants ls days), x.length ≤ 1000 := by
        intro x hx
        unfold itemsOf at hx
        obtain ⟨q, hq, rfl⟩ := List.mem_map.1 hx
        have := make_len (hall q hq)
        omega
      obtain ⟨N, hN⟩ : ∃ N, (itemsOf ls i (wants ls days)).length = N := ⟨_, rfl⟩
      have hN2 : N ≤ 2200 := by rw [← hN]; unfold itemsOf; rw [List.length_map]; exact hN1
      rw [hN] at hvO hcO
      have hbro : BRow wr AO N cO (itemsOf ls i (wants ls days)) := ⟨hN, hcO, by omega, hsh, hsO⟩
      subst hvO
      have hIt := Lib.hid (refItems_1 hbro wr.heap.size rfl)
      have HALL := Lib.hid hall
      clear hown htk hall hcO hsO hN hsh hbro hmays hN1
      go_wp2_with fail
      refine hIt.out.mono ?_
      rintro en w9 ⟨A9, c9, rfl, hb9r, hb9⟩
      go_wp2_with fail
      go_ret2
      exact ⟨A9, _, c9, 0, _, rfl, hbr.trans (hb9.mono hbr.size), hb9r, .inl ⟨HALL.out, rfl, rfl⟩⟩
end Go.Proofs.YtpjiioeodcinpaaGreatDoor
