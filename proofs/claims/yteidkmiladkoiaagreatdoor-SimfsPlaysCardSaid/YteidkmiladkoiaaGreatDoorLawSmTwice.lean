/-
  The law SimfsTwice, walked.
-/
import Derived.Test.YteidkmiladkoiaaGreatDoorLawSmLinks
namespace Go.Proofs.YteidkmiladkoiaaGreatDoor
open Go.RowKit

theorem OwnT.hold {w : World} {base : Nat} {v : Value} {l : List Txt} {n : Nat} {m : Nat → Prop} (h : OwnT w base v l) (hn : l.length = n) (hm : ∀ k, m k → k < base) : ∃ A c, v = .slice A n c ∧ n ≤ c ∧ Hold m w A (tv l) := by
  subst hn
  exact own_hold h hm
theorem OwnT.of {w : World} {base : Nat} {v : Value} {l : List Txt} {n : Nat} (h : w.ownsRow base 9 1 v n (tv l)) (hn : l.length = n) : OwnT w base v l := by
  subst hn
  exact h
theorem tv_at (l : List Txt) {k : Nat} (hk : k < l.length) : (tv l)[k]? = some (.string (strOf l[k])) := by simp [tv, hk]
theorem list_len {N : Nat} {S : FsM} (h : FsOk N S) (p : Txt) : (S.list p).length ≤ N := by
  have h1 := h.nowN
  have h2 := List.length_filter_le (fun q => decide (p <+: q)) (S.now.map (·.1))
  rw [List.length_map] at h2
  exact Nat.le_trans h2 h1
theorem map_take_snoc (l : List Txt) (g : Txt → Txt) (k : Nat) (hk : k < l.length) : (l.map g).take k ++ [g l[k]] = (l.map g).take (k + 1) := by
  rw [List.take_succ_eq_append_getElem (by simpa using hk)]
  simp
/-- On the way: between two crashes. -/
structure TwoIs (w2 : World) (f : Nat) (S T : FsM) (m : Nat → Prop) (A4 AW : Option Addr) (L R : List Txt) (W : World) : Prop where
  still : Still S T
  ok : FsOk 300 T
  own : OwnE w2 W f T m
  l : Hold m W A4 (tv L)
  r : Hold m W AW (tv R)
theorem TwoIs.newB {w2 W W' : World} {f : Nat} {S T : FsM} {m : Nat → Prop} {A4 AW : Option Addr} {L R : List Txt} (h : TwoIs w2 f S T m A4 AW L R W) (hb : Below W.heap.size W W') : TwoIs w2 f S T m A4 AW L R W' :=
  ⟨h.still, h.ok, h.own.newB hb, h.l.newB hb, h.r.newB hb⟩

set_option maxRecDepth 100000 in
set_option maxHeartbeats 3200000 in
theorem SimfsTwice_any (A0 : Option Addr) (n0 c0 : Nat) (ls : List ActF) (h0 : ls.length = n0)
    (x0 x1 x2 x3 : Value) (N K0 : Int) (w : World) (hS0 : ActsF (fun k => k < w.heap.size) w A0 ls) :
    Calls Tryz.prog 6 #[.slice A0 n0 c0, .agg #[x0, x1, x2, x3, .int .i64 N, .int .i64 K0]] w (Gives w (.bool true)) := by
  obtain ⟨i0, hi0, hy0, hy1, hy2⟩ := info_parts Tryz.strinfo
  obtain ⟨W1, hW1⟩ : ∃ W1, w.alloc (.cells #[x0, x1, x2, x3, .int .i64 N, .int .i64 K0] 34) = W1 := ⟨_, rfl⟩
  have hb1 : Below w.heap.size w W1 := hW1 ▸ (Below.refl _ w).alloc (Nat.le_refl _) _
  have q4 : W1.cell? ⟨w.heap.size, 4, none⟩ = some (.int .i64 N) := by rw [← hW1, World.cell?_alloc_at _ _ _ _ rfl]; rfl
  have q5 : W1.cell? ⟨w.heap.size, 5, none⟩ = some (.int .i64 K0) := by rw [← hW1, World.cell?_alloc_at _ _ _ _ rfl]; rfl
  have hs1 : w.heap.size < W1.heap.size := by rw [← hW1]; simp
  have Q4 := Lib.hid q4
  have Q5 := Lib.hid q5
  have hA := Lib.hid (awake_any W1)
  have HS0 := Lib.hid (hS0.below hb1)
  clear q4 q5 hS0
  go_enter Tryz.func6, Tryz.ntmps6
  go_wp2_with fail
  refine hA.out.mono ?_
  rintro en w2 ⟨rfl, hb2⟩
  have b2 : Below w.heap.size w w2 := hb1.trans (hb2.mono hb1.size)
  clear hA
  have hbeh := Lib.hid (behind_any A0 n0 c0 ls h0 w2 (HS0.out.below hb2))
  go_wp2_with fail
  refine hbeh.out.mono ?_
  rintro e w3 ⟨f, S, m3, rfl, hB, o3⟩
  obtain ⟨L, hL⟩ : ∃ L, S.list [] = L := ⟨_, rfl⟩
  have hLl := list_len hB.ok []
  rw [hL] at hLl
  obtain ⟨n, hn⟩ : ∃ n, L.length = n := ⟨_, rfl⟩
  rw [hn] at hLl
  have hn200 : n ≤ 200 := by omega
  have k3 : Calls Tryz.prog 19 #[.pointer (some ⟨f, 0, none⟩), .string (strOf [])] w3 (TextsIs w3 L) := by rw [← hL]; exact list_own o3 hB.ok (by omega) []
  have K3 := Lib.hid k3
  have O3 := Lib.hid o3
  have HB := Lib.hid hB
  have HL := Lib.hid hL
  have HN := Lib.hid hn
  have BB := Lib.hid b2
  have BC : Hid (Below W1.heap.size W1 w2) := hb2
  obtain ⟨R, hR⟩ : ∃ R, L.map (fun p => (S.read p).1) = R := ⟨_, rfl⟩
  have HR := Lib.hid hR
  clear hbeh o3 HS0 h0 hB b2 hb2 hL hn k3 hR hLl
  go_wp2_with fail
  refine K3.out.mono ?_
  rintro e w4 ⟨v4, rfl, hown4, hb4⟩
  obtain ⟨A4, c4, rfl, hc4, hh4⟩ := hown4.hold HN.out (m := m3) fun k e => (O3.out.lt k e).2
  have Z4 := Lib.hid hh4
  have O4 := Lib.hid (O3.out.newB hb4)
  clear K3 O3 hown4 hb4 hh4
  go_wp2
  go_loopg [8, 9] n (fun g ws i wr => ∃ k : Nat, k + g = n ∧ i = .int .i64 (k : Int) ∧ Hid (wr.ownsRow w4.heap.size 9 1 ws k (tv (R.take k))) ∧ Below w4.heap.size w4 wr)
  case atStart => exact ⟨0, by omega, rfl, World.ownsRow_nil _ _ _ _, Below.refl _ _⟩
  case round =>
    obtain ⟨k, hk, rfl, hown, hb⟩ := hrel
    have hbs := hb.size
    by_cases hlt : k < n
    · have hkl : k < L.length := by have := HN.out; omega
      obtain ⟨ad, rfl, hbb, g1⟩ := sees_cell1 (Z4.out.newB hb).sees (tv_at L hkl)
      have hsn := Lib.hid (map_take_snoc L (fun p => (S.read p).1) k hkl)
      rw [HR.out] at hsn
      obtain ⟨y, hy⟩ : ∃ y, L[k] = y := ⟨_, rfl⟩
      rw [hy] at g1 hsn
      have kr := read_own (O4.out.newB hb) HB.out.ok y
      obtain ⟨x, er, hxr⟩ : ∃ x er, S.read y = (x, er) := ⟨_, _, rfl⟩
      rw [hxr] at kr hsn
      have KR := Lib.hid kr
      clear hy kr hxr
      go_wp2_with fail
      refine KR.out.mono ?_
      rintro e w6 ⟨v6, rfl, hown6, hb6⟩
      dsimp only at hown6
      obtain ⟨A6, c6, rfl, hc6, -, -, -⟩ := hown6.open_
      dsimp only at hc6 ⊢
      obtain ⟨lx, hlx⟩ : ∃ l, x.length = l := ⟨_, rfl⟩
      rw [hlx]
      have cv := run_str w6 _ A6 lx c6 x (Hold.of_new (m := m3) hown6 fun k e => ((O4.out.newB hb).lt k e).2).sees hlx
      have hown6w := Lib.hid (own_below hown.out hb6)
      have hb46 : Below w4.heap.size w4 w6 := hb.trans (hb6.mono hbs)
      have hbs6 := hb46.size
      clear KR hown6 hc6 hlx hown g1 hb6
      go_wp2_with (at_builtin; go_loud (refine wpList_append_v rfl (.tmp 39) (.tmp 42) 45 rfl 9 i0 _ 1 16 Tryz.underlying45 hi0 hy0 hy1 hy2 rfl (by omega) w4.heap.size _ k _ (by rfl) (World.ownsRow.alloc hown6w.out _) (w6.heap.size + 1) (some ⟨w6.heap.size, 0, none⟩) 1 1 [.string (strOf x)] (by rfl) rfl (sees_cells w6 _ rfl _ _ _ rfl) (fun u hu => by simp at hu; subst hu; rfl) (by simp only [maxLen]; omega) (by omega) (by simp; omega) ?_); go_loud (intro v7 w7 hown7 hon7; have hb7 : Below w4.heap.size w6 w7 := ((Below.refl _ w6).alloc hbs6 _).trans (hon7.below (by simp; omega) (own_block hown6w.out)); have HB7 := Lib.hid (hb46.trans hb7); have hown7' : Hid (w7.ownsRow w4.heap.size 9 1 v7 (k + 1) (tv (R.take (k + 1)))) := (by unfold Hid; rw [← hsn.out]; simpa [tv] using hown7); clear hown7 hon7 hb7))
      go_roundg (n - (k + 1))
      case measure => omega
      case rel => exact ⟨k + 1, by omega, by go_num, hown7'.out, HB7.out⟩
    · have hkn : Hid (k = n) := by unfold Hid; omega
      have hRl : R.length = n := by rw [← HR.out, List.length_map]; exact HN.out
      have hh := hown.out
      rw [hkn.out, List.take_of_length_le (by omega)] at hh
      have hown' := OwnT.of hh hRl
      obtain ⟨AW, cW, rfl, hcW, hhW⟩ := hown'.hold hRl (m := m3) fun j e => (O4.out.lt j e).2
      have kcr := crash_own (O4.out.newB hb) HB.out.ok (by omega) 1099511627776 1099511627776
      obtain ⟨T0, hT0⟩ : ∃ T, S.crash (1099511627776 : Int).toNat (1099511627776 : Int).toNat = T := ⟨_, rfl⟩
      rw [hT0] at kcr
      have hst0 : Still S T0 := by rw [← hT0]; exact still_first HB.out.ok (by omega)
      have hok0 : FsOk 300 T0 := by rw [← hT0]; exact (HB.out.ok.crash _ _).mono (by omega)
      have KC := Lib.hid kcr
      have ZL := Lib.hid (Z4.out.newB hb)
      have ZW := Lib.hid hhW
      have ST0 := Lib.hid hst0
      have OK0 := Lib.hid hok0
      have HRL := Lib.hid hRl
      clear kcr hT0 hst0 hok0 hhW hown' hown hRl hkn hh Z4 O4
      go_wp2_with fail
      refine KC.out.mono ?_
      rintro e w8 ⟨⟨v8, rfl⟩, m8, o8, st8⟩
      have TW0 : Hid (TwoIs w2 f S T0 m8 A4 AW L R w8) := ⟨ST0.out, OK0.out, o8, ZL.out.step st8, ZW.out.step st8⟩
      clear KC o8 st8 ZL ZW ST0 OK0 hb hbs
      go_wp2
      go_loopg [12] 2 (fun g i wr => ∃ (k : Nat) (T : FsM) (m : Nat → Prop), k + g = 2 ∧ i = .int .i64 (k : Int) ∧ Hid (TwoIs w2 f S T m A4 AW L R wr))
      case atStart => exact ⟨0, _, _, by omega, rfl, TW0.out⟩
      case round =>
        obtain ⟨k, T, m, hk2, rfl, tw⟩ := hrel
        by_cases hlt2 : (k : Int) < 2
        · have kl := list_own tw.out.own tw.out.ok (by omega) []
          rw [tw.out.still.list, HL.out] at kl
          have KL := Lib.hid kl
          clear kl
          go_wp2_with fail
          refine KL.out.mono ?_
          rintro e w9 ⟨v9, rfl, hown9, hb9⟩
          obtain ⟨A9, c9, rfl, hc9, hh9⟩ := hown9.hold HN.out (m := m) fun k e => (tw.out.own.lt k e).2
          have TW9 := Lib.hid (tw.out.newB hb9)
          have ks := strings_r A4 A9 n c4 n c9 L L HN.out HN.out (by omega) w9 TW9.out.l.sees hh9.sees
          rw [decide_eq_true rfl] at ks
          have KS := Lib.hid ks
          have Z9 := Lib.hid hh9
          clear KL hown9 hb9 ks hh9 tw
          go_wp2_with fail
          refine KS.out.mono ?_
          rintro e w10 ⟨rfl, hb10⟩
          have TW := Lib.hid (TW9.out.newB hb10)
          have Z10 := Lib.hid (Z9.out.newB hb10)
          clear KS TW9 Z9 hb10
          go_wp2
          go_loopg [14] n (fun g i wr => ∃ k : Nat, k + g = n ∧ i = .int .i64 (k : Int) ∧ Below w10.heap.size w10 wr)
          case atStart => exact ⟨0, by omega, rfl, Below.refl _ _⟩
          case round =>
            obtain ⟨j, hj, rfl, hb⟩ := hrel
            by_cases hlt3 : j < n
            · have hjl : j < L.length := by have := HN.out; omega
              obtain ⟨ad, rfl, hbb, g1⟩ := sees_cell1 (Z10.out.newB hb).sees (tv_at L hjl)
              have hjr : j < R.length := by have := HRL.out; omega
              obtain ⟨ad2, rfl, hbb2, g2⟩ := sees_cell1 (TW.out.r.newB hb).sees (tv_at R hjr)
              have hRj : R[j] = (S.read L[j]).1 := by
                have := HR.out
                subst this
                simp
              rw [hRj] at g2
              obtain ⟨y, hy⟩ : ∃ y, L[j] = y := ⟨_, rfl⟩
              rw [hy] at g1 g2
              have kr := read_own (TW.out.own.newB hb) TW.out.ok y
              rw [TW.out.still.read] at kr
              obtain ⟨x, er, hxr⟩ : ∃ x er, S.read y = (x, er) := ⟨_, _, rfl⟩
              rw [hxr] at kr g2
              have KR := Lib.hid kr
              clear hy kr hxr hRj
              go_wp2_with fail
              refine KR.out.mono ?_
              rintro e w12 ⟨v12, rfl, hown12, hb12⟩
              dsimp only at hown12 g2
              obtain ⟨A12, c12, rfl, hc12, -, -, -⟩ := hown12.open_
              dsimp only at hc12 ⊢
              obtain ⟨lx, hlx⟩ : ∃ l, x.length = l := ⟨_, rfl⟩
              rw [hlx]
              have hd := below_drew (Below.refl w12.heap.size w12)
              have cv := run_str w12.drew _ A12 lx c12 x ((Hold.of_new (m := m) hown12 fun k e => ((TW.out.own.newB hb).lt k e).2).newB hd).sees hlx
              have g3 : w12.drew.cell? (ad2.add j) = some (.string (strOf x)) := (hb12.cell (by rw [add_block]; exact hbb2)).trans g2
              have HB12 := Lib.hid (hb.trans (hb12.mono hb.size))
              clear KR hown12 hc12 hlx g1 g2 hb12 hb hd
              go_wp2_with fail
              refine wp_region_noPanic ?_
              refine wp_region_held_drew (S := fun w' => (convert 32 9 (.slice A12 lx c12)).run Tryz.prog w' = .ok (.string (strOf x)) w' ∧ w'.cell? (ad2.add j) = some (.string (strOf x))) (by kernel_rfl) ?_ (fun hHeld => ?_)
              · (exact ⟨cv, g3⟩)
              refine wpAnyH_take (i := 0) (oi := { dst := some 71, op := Op.move (Operand.tmp 15), type := 32, pos := "law.go:290", after := #[], guard := none }) (v := ?_) rfl (by kernel_rfl) (by kernel_rfl) (by kernel_rfl) (fun _ _ _ h => h) (Or.inl ⟨by rfl, ?_⟩) hHeld ?_
              rotate_left
              · (intro w' hSw; (try dsimp only at hSw); go_split_ands; go_simp; first | done | with_reducible rfl)
              try simp only [Act.put, List.setIfInBounds_toArray, List.set_cons_zero, List.set_cons_succ]
              refine wpAnyH_take (i := 1) (oi := { dst := some 72, op := Op.convert 32 9 (Operand.tmp 71), type := 9, pos := "law.go:290", after := #[{ on := 0, ground := Ground.data }], guard := none }) (v := ?_) rfl (by kernel_rfl) (by kernel_rfl) (by kernel_rfl) (fun _ _ _ h => h) (Or.inl ⟨by rfl, ?_⟩) hHeld ?_
              rotate_left
              · (intro w' hSw; (try dsimp only at hSw); go_split_ands; go_simp; first | done | with_reducible rfl)
              try simp only [Act.put, List.setIfInBounds_toArray, List.set_cons_zero, List.set_cons_succ]
              refine wpAnyH_take (i := 2) (oi := { dst := some 73, op := Op.move (Operand.tmp 8), type := 45, pos := "law.go:290", after := #[], guard := none }) (v := ?_) rfl (by kernel_rfl) (by kernel_rfl) (by kernel_rfl) (fun _ _ _ h => h) (Or.inl ⟨by rfl, ?_⟩) hHeld ?_
              rotate_left
              · (intro w' hSw; (try dsimp only at hSw); go_split_ands; go_simp; first | done | with_reducible rfl)
              try simp only [Act.put, List.setIfInBounds_toArray, List.set_cons_zero, List.set_cons_succ]
              refine wpAnyH_take (i := 3) (oi := { dst := some 74, op := Op.move (Operand.tmp 14), type := 3, pos := "law.go:290", after := #[], guard := none }) (v := ?_) rfl (by kernel_rfl) (by kernel_rfl) (by kernel_rfl) (fun _ _ _ h => h) (Or.inl ⟨by rfl, ?_⟩) hHeld ?_
              rotate_left
              · (intro w' hSw; (try dsimp only at hSw); go_split_ands; go_simp; first | done | with_reducible rfl)
              try simp only [Act.put, List.setIfInBounds_toArray, List.set_cons_zero, List.set_cons_succ]
              refine wpAnyH_take (i := 4) (oi := { dst := some 75, op := Op.indexAddr 45 (Operand.tmp 73) (Operand.tmp 74), type := 0, pos := "law.go:290", after := #[{ on := 2, ground := Ground.data }, { on := 3, ground := Ground.data }], guard := none }) (v := ?_) rfl (by kernel_rfl) (by kernel_rfl) (by kernel_rfl) (fun _ _ _ h => h) (Or.inl ⟨by rfl, ?_⟩) hHeld ?_
              rotate_left
              · (intro w' hSw; (try dsimp only at hSw); go_split_ands; go_simp; first | done | with_reducible rfl)
              try simp only [Act.put, List.setIfInBounds_toArray, List.set_cons_zero, List.set_cons_succ]
              refine wpAnyH_take (i := 5) (oi := { dst := some 76, op := Op.load 9 (Operand.tmp 75), type := 9, pos := "law.go:290", after := #[{ on := 4, ground := Ground.data }], guard := none }) (v := ?_) rfl (by kernel_rfl) (by kernel_rfl) (by kernel_rfl) (fun _ _ _ h => h) (Or.inl ⟨by rfl, ?_⟩) hHeld ?_
              rotate_left
              · (intro w' hSw; (try dsimp only at hSw); go_split_ands; go_simp; first | done | with_reducible rfl)
              try simp only [Act.put, List.setIfInBounds_toArray, List.set_cons_zero, List.set_cons_succ]
              refine wpAnyH_take (i := 6) (oi := { dst := some 77, op := Op.binOp BinOp.neq 9 (Operand.tmp 72) (Operand.tmp 76) 9, type := 4, pos := "law.go:290", after := #[{ on := 1, ground := Ground.data }, { on := 5, ground := Ground.data }], guard := none }) (v := (.bool false)) rfl (by kernel_rfl) (by kernel_rfl) (by kernel_rfl) (fun _ _ _ h => h) (Or.inl ⟨by rfl, ?_⟩) hHeld ?_
              · (intro w' hSw; (try dsimp only at hSw); go_split_ands; go_simp; first | done | with_reducible rfl | simp)
              try simp only [Act.put, List.setIfInBounds_toArray, List.set_cons_zero, List.set_cons_succ]
              refine wpAnyH_done (by kernel_rfl) ?_ _
              refine NoPanic.normal ?_
              go_wp2
              go_roundg (n - (j + 1))
              case measure => omega
              case rel => exact ⟨j + 1, by omega, by go_num, below_d HB12.out _⟩
            · have hTW := TW.out.newB hb
              have bz : Below W1.heap.size W1 _ := BC.out.trans (hTW.own.below.mono BC.out.size)
              have q4 := (bz.cell hs1).trans Q4.out
              have q5 := (bz.cell hs1).trans Q5.out
              have kc := crash_own hTW.own hTW.ok (by omega) N K0
              have KC := Lib.hid kc
              have TZ := Lib.hid hTW
              clear kc hTW bz hb TW Z10
              go_wp2_with fail
              refine KC.out.mono ?_
              rintro e w13 ⟨⟨v13, rfl⟩, m13, o13, st13⟩
              have TN : Hid (TwoIs w2 f S (T.crash N.toNat K0.toNat) m13 A4 AW L R w13) := ⟨TZ.out.still.crash _ _, TZ.out.ok.crash _ _, o13, TZ.out.l.step st13, TZ.out.r.step st13⟩
              clear KC o13 st13 TZ q4 q5
              go_wp2
              go_roundg (2 - (k + 1))
              case measure => omega
              case rel => exact ⟨k + 1, _, _, by omega, by go_num, TN.out⟩
        · have kp := pending_own tw.out.own
          have hc0 : T.chg.length = 0 := by rw [tw.out.still.chg]; rfl
          rw [hc0] at kp
          have KP := Lib.hid kp
          have HZ := Lib.hid (BB.out.trans (tw.out.own.below.mono BB.out.size))
          clear kp hc0 tw
          go_wp2_with fail
          refine KP.out.mono ?_
          rintro e w14 ⟨rfl, rfl⟩
          clear KP
          go_wp2
          go_ret
          exact ⟨rfl, HZ.out⟩
end Go.Proofs.YteidkmiladkoiaaGreatDoor
