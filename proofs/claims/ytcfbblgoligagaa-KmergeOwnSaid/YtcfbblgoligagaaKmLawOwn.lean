/-
  The law KmergeOwn, walked: what is handed in stays as it was; what is told is new memory.
-/
import Derived.Test.YtcfbblgoligagaaKmOwnP
namespace Go.Proofs.Ytcfbblgoligagaa
open Go.RowKit KB

theorem sinfo : (Try.prog.info? 9).map (fun i => (i.zero, i.size, i.bytes)) = some (some (.string ⟨#[]⟩), 1, 16) := by kernel_rfl
/-- append of one string, at an operation of a plain statement. -/
theorem wpList_append_w {w : World} {ops : Array Oper} {rest : List Oper} {o : Oper} {a : Act} {Q : Exit → Act → World → Prop} (hgd : o.guard = none) (s x : Operand)
    (ho : o.op = .call { callee := .builtin .append, args := #[s, x], argTypes := #[40, 40] })
    (base : Nat) (v : Value) (n : Nat) (vs : List Value) (hs : a.eval s = v) (hown : w.ownsRow base 9 1 v n vs) (B : Nat) (A : Option Addr) (u : Value) (hx : a.eval x = .slice A 1 1) (hsee : Sees w B A [u]) (hu : u.oneCell' = true)
    (hlen : n ≤ 100000) (hbase : base ≤ w.heap.size)
    (h : ∀ v' w', w'.ownsRow base 9 1 v' (n + 1) (vs ++ [u]) → Onto w w' v v' → wpList Try.prog ops Q rest (a.put o.dst v') w') : wpList Try.prog ops Q (o :: rest) a w := by
  obtain ⟨ti, hi, hy0, hy1, hy2⟩ := info_parts sinfo
  exact wpList_append_v hgd s x 40 ho 9 ti _ 1 16 Try.underlying40 hi hy0 hy1 hy2 rfl (by omega) base v n vs hs hown B A 1 1 [u] hx rfl hsee (fun y hy => by simp at hy; subst hy; exact hu) (by simp only [maxLen]; omega) (by omega) hbase h
theorem own_slice' {w : World} {base n : Nat} {e : TypeId} {v : Value} {xs : List Value} (h : w.ownsRow base e 1 v n xs) : ∃ A c, v = .slice A n c ∧ n ≤ c := by
  rcases h.2 with ⟨rfl, hn⟩ | ⟨g, cap, cur, rfl, -, -, hc, -⟩
  · exact ⟨none, 0, by rw [hn], by omega⟩
  · exact ⟨_, cap, rfl, hc⟩
/-- The words of some items. -/
def words (ls : List Item) : List Value := ls.map fun x => .string (strOf x)

set_option maxRecDepth 100000 in
set_option maxHeartbeats 3200000 in
theorem KmergeOwn_small (A B : Option Addr) (n cn m cm : Nat) (ls : List Item) (l : List Int) (hn : ls.length = n) (hnc : n ≤ cn) (hm : l.length = m) (hmc : m ≤ cm) (hm1 : m ≤ 100) (w : World) (hf : fewB [ls] = true) (hS : Sees2 w w.heap.size A ls) (hL : Sees w w.heap.size B (KI.iv l)) :
    Calls Try.prog 7 #[.slice A n cn, .slice B m cm] w (IsTrue w) := by
  have hnot : ∀ (x : Bool) (w : World), (Op.unary .not (.bool x)).run Try.prog w = .ok (.bool (!x)) w := fun _ _ => rfl
  have hy := (few_yes hf).2 _ (List.mem_singleton.2 rfl)
  have hn60 : n ≤ 60 := by omega
  have hsh : ∀ y ∈ ls, y.length ≤ 1000 := fun y hyr => Nat.le_trans (hy.2 _ hyr) (by omega)
  have hrow := fun (w' : World) (hb : Below w.heap.size w w') => (⟨hn, hnc, by omega, hsh, (hS.below hb).more hb.size⟩ : BRow w' A n cn ls)
  have hint := fun (w' : World) (hb : Below w.heap.size w w') => (⟨hm, hmc, by omega, (hL.below hb).more hb.size⟩ : KI.Row w' B m cm l)
  have HRW := Lib.hid hrow
  have HIN := Lib.hid hint
  have HN := Lib.hid hn
  have HM := Lib.hid hm
  have HF := Lib.hid hf
  have HSH := Lib.hid hsh
  clear hn hm hf hsh hy hrow hint hS hL
  go_enter Try.func7, Try.ntmps7
  go_wp2_with fail
  refine (awake_any w).mono ?_
  rintro e w0 ⟨rfl, hb0⟩
  obtain ⟨w1, hw1⟩ : ∃ w1, w0.alloc (.cells #[.slice A n cn] 26) = w1 := ⟨_, rfl⟩
  have hb1 : Below w.heap.size w w1 := by rw [← hw1]; exact hb0.trans ((KI.below_new w0 _).mono hb0.size)
  have hfew : Calls Try.prog 10 #[.slice (some ⟨w0.heap.size, 0, none⟩) 1 1] w1 fun e w' => e = .returned (.bool (fewB [ls])) ∧ w1 = w' := by
    have h3 : Sees3 w1 (w0.heap.size + 1) (some ⟨w0.heap.size, 0, none⟩) [ls] := by
      rw [← hw1]
      refine Sees3.new _ _ rfl _ _ _ fun i hi => ?_
      match i, hi with
      | 0, _ => exact ⟨A, cn, by rw [show ([ls][0]).length = n from HN.out]; rfl, by show ls.length ≤ cn; rw [HN.out]; exact hnc, (HRW.out w0 hb0).sees⟩
    have hz : w1.heap.size = w0.heap.size + 1 := by rw [← hw1]; simp
    exact few_any _ 1 1 [ls] rfl w1 (by rw [hz]; exact h3)
  rw [HF.out] at hfew
  have HFW := Lib.hid hfew
  clear hfew
  go_wp2_with fail
  refine HFW.out.mono ?_
  rintro e w2 ⟨rfl, rfl⟩
  clear HFW hw1
  go_wp2_with fail
  go_loopg [7, 8] n (fun g o i wr => ∃ (k : Nat) (Ao : Option Addr) (co : Nat), k + g = n ∧ i = .int .i64 k ∧ o = .slice Ao k co ∧ wr.ownsRow w1.heap.size 9 1 (.slice Ao k co) k (words (ls.take k)) ∧ Below w1.heap.size w1 wr)
  case atStart => exact ⟨0, none, 0, by omega, rfl, rfl, World.ownsRow_nil _ _ _ _, Below.refl _ _⟩
  case round =>
    obtain ⟨k, Ao, co, hk, rfl, rfl, hown, hbr⟩ := hrel
    have hsr := hbr.size
    have hb0r := hb1.trans (hbr.mono hb1.size)
    by_cases hlt : k < n
    · obtain ⟨ad, Ai, ci, rfl, hadB, hcell, hci, hsee⟩ := (HRW.out wr hb0r).sees.out k (by have := HN.out; omega)
      have htk : words (ls.take (k + 1)) = words (ls.take k) ++ [.string (strOf (ls[k]'(by have := HN.out; omega)))] := by unfold words; rw [List.take_succ_eq_append_getElem (by have := HN.out; omega), List.map_append]; rfl
      obtain ⟨x, hx⟩ : ∃ x, ls[k]'(by have := HN.out; omega) = x := ⟨_, rfl⟩
      rw [hx] at hcell hci hsee htk
      have cv := run_str wr _ Ai x.length ci x hsee rfl
      have HTK := Lib.hid htk
      have howny := hown.alloc (.cells #[.string (strOf x)] 9)
      have HOWN := Lib.hid hown
      clear hx htk hsee hown
      go_wp2_with (at_builtin; refine wpList_append_w rfl (.tmp 35) (.tmp 41) rfl w1.heap.size (.slice Ao k co) k _ (by rfl) howny _ (some ⟨wr.heap.size, 0, none⟩) (.string (strOf x)) (by rfl) (sees_cell wr _ rfl _ _) rfl (by omega) (by simp; omega) ?_; intro v' w5 hown5 hon5)
      have hb5 : Below w1.heap.size w1 w5 := (hbr.trans ((KI.below_new wr _).mono hsr)).trans ((Turn.onto (T := fun k => w1.heap.size ≤ k) hon5 fun k e => (World.ownsRow.lt HOWN.out k e).1).below (fun j e => e) (by simp; omega))
      obtain ⟨A5, c5, rfl, hc5⟩ := own_slice' hown5
      rw [← HTK.out] at hown5
      go_roundg (n - (k + 1))
      case measure => omega
      case rel => exact ⟨k + 1, A5, c5, by omega, by go_num, rfl, hown5, hb5⟩
    · have HWD : Hid (wr.ownsRow w1.heap.size 9 1 (.slice Ao k co) k (words ls)) := by unfold Hid; rw [List.take_of_length_le (by have := HN.out; omega)] at hown; exact hown
      have hkn : Hid (k = n) := (by omega : k = n)
      have hn0 := World.ownsRow_nil wr wr.heap.size 3 1
      have hin := (HIN.out wr hb0r).sees
      clear hown hk
      go_wp2_with (at_builtin; refine KI.wpList_append_i rfl (.tmp 43) (.tmp 44) rfl wr.heap.size (.slice none 0 0) [] (by rfl) hn0 _ B m cm l (by rfl) HM.out hin (by have := HM.out; simp; omega) (Nat.le_refl _) ?_; intro v2 w3 hown2 hon2; rw [List.nil_append] at hown2; have hb3' := hon2.below_nil; obtain ⟨W, hW⟩ : ∃ W, w3.alloc (.cells #[.slice A n cn, .slice A n cn] 26) = W := ⟨_, rfl⟩)
      have hb03 : Below w.heap.size w w3 := hb0r.trans (hb3'.mono hb0r.size)
      have HWD3 := Lib.hid (own_below HWD.out hb3')
      have hbW : Below w3.heap.size w3 W := by rw [← hW]; exact KI.below_new w3 _
      have hzW : W.heap.size = w3.heap.size + 1 := by rw [← hW]; simp
      have hrw3 := HRW.out w3 hb03
      have hS3 : Sees3 W (w3.heap.size + 1) (some ⟨w3.heap.size, 0, none⟩) [ls, ls] := by
        rw [← hW]
        refine Sees3.new _ _ rfl _ _ _ fun i hi => ?_
        match i, hi with
        | 0, _ => exact ⟨A, cn, by rw [show ([ls, ls][0]).length = n from HN.out]; rfl, by show ls.length ≤ cn; rw [HN.out]; exact hnc, hrw3.sees⟩
        | 1, _ => exact ⟨A, cn, by rw [show ([ls, ls][1]).length = n from HN.out]; rfl, by show ls.length ≤ cn; rw [HN.out]; exact hnc, hrw3.sees⟩
      rw [← hzW] at hS3
      have hit := Items_sees (some ⟨w3.heap.size, 0, none⟩) 2 2 [ls, ls] W hS3 rfl (by omega) (by have := HN.out; simp; omega) (by have := HN.out; simp; omega) (by simp; exact fun y hy => by have := HSH.out y hy; omega)
      have hYm := fun x => uniqL_mem (lt := ahead) ordr [ls, ls].flatten x
      have hYl := uniqL_len (lt := ahead) ordr [ls, ls].flatten
      obtain ⟨Y, hY⟩ : ∃ Y, uniqL ahead [ls, ls].flatten = Y := ⟨_, rfl⟩
      rw [hY] at hit hYm hYl
      have HYM := Lib.hid hYm
      refine hit.mono ?_
      rintro e w4 ⟨v4, rfl, hown4, hb4⟩
      obtain ⟨A4, c4, rfl, hc4, hrow4⟩ := hown4.rowAt
      obtain ⟨my, hmy⟩ : ∃ my, Y.length = my := ⟨_, rfl⟩
      rw [hmy] at hc4 ⊢
      have hmy200 : my ≤ 200 := by simp at hYl; have := HN.out; omega
      have HMY := Lib.hid hmy
      obtain ⟨z0, hz0⟩ : ∃ z0, W.heap.size = z0 := ⟨_, rfl⟩
      simp only [hz0] at hrow4
      have hw4 := hb4.size
      rw [hz0] at hb4 hw4
      have HZ0 := Lib.hid hz0
      obtain ⟨A2, c2, rfl, hc2⟩ := own_slice' hown2
      have HOWN2 := Lib.hid hown2
      clear hit hown4 hYm hYl hY hmy hown2 hon2 hS3 hrw3 hin hn0 hW hz0
      go_wp2
      go_loopg [11] my (fun g' i wx => ∃ (k : Nat), k + g' = my ∧ i = .int .i64 k ∧ RowAt wx (fun k => z0 ≤ k ∧ k < w4.heap.size) A4 Y ∧ Below z0 W wx ∧ w4.heap.size ≤ wx.heap.size)
      case atStart => exact ⟨0, by omega, rfl, hrow4, hb4, Nat.le_refl _⟩
      case round =>
        obtain ⟨i, hi, rfl, hrow, hbx, hzx⟩ := hrel
        by_cases hlt2 : i < my
        · obtain ⟨ad, Ai, ci, rfl, hadq, -, -, -⟩ := hrow.out i (by have := HMY.out; omega)
          obtain ⟨Li, hLi⟩ : ∃ Li, (Y[i]'(by have := HMY.out; omega)).length = Li := ⟨_, rfl⟩
          have hL1000 : Li ≤ 1000 := by
            rw [← hLi]
            have h1 := (HYM.out _).1 (List.getElem_mem (by have := HMY.out; omega : i < Y.length))
            simp at h1
            exact HSH.out _ h1
          have HLI := Lib.hid hLi
          clear hLi
          go_wp2
          go_loopg [12] Li (fun g2 u wy => ∃ (j : Nat), j + g2 = Li ∧ u = .int .i64 j ∧ RowAt wy (fun k => z0 ≤ k ∧ k < w4.heap.size) (some ad) Y ∧ Below z0 W wy ∧ w4.heap.size ≤ wy.heap.size)
          case atStart => exact ⟨0, by omega, rfl, hrow, hbx, hzx⟩
          case round =>
            obtain ⟨j, hj, rfl, hrow2, hby, hzy⟩ := hrel
            obtain ⟨ad2, Ai2, ci2, hade, hadq2, hcell, hci, hby2⟩ := hrow2.out i (by have := HMY.out; omega)
            obtain rfl := Option.some.inj hade
            rw [HLI.out] at hcell hci hby2
            by_cases hlt3 : j < Li
            · obtain ⟨adi, rfl, ⟨⟨hq1, hq3⟩, hq2⟩, b, hbc, hbf⟩ := hby2.out j hlt3
              obtain ⟨z, hz3⟩ := xor255 b
              have hbfd : wr.drew.frozen? (adi.add j) = false := hbf
              have hbcd : wr.drew.cell? (adi.add j) = some (.int .u8 (b.toNat : Int)) := hbc
              have hrowE := hrow2.drew.set (adi.add j) (fun a e => by obtain rfl := Option.some.inj e; rw [add_block]; exact hq2) z
              have hbE : Below z0 W (wr.drew.setCell (adi.add j) (.int .u8 (z.toNat : Int))) := (below_drew hby).setCell (by rw [add_block]; omega) _
              have hzE : w4.heap.size ≤ (wr.drew.setCell (adi.add j) (.int .u8 (z.toNat : Int))).heap.size := by rw [World.size_setCell]; exact hzy
              clear hrow2 hby hby2 hrow hbx hzy hzx hrow4 hb4
              go_wp2
              go_still_tail 14, (by kernel_rfl)
              change wpList _ _ _ _ _ wr.drew
              go_wp2
              go_roundg (Li - (j + 1))
              case measure => omega
              case rel => exact ⟨j + 1, by omega, by go_num, hrowE, hbE, hzE⟩
            · clear hby2 hrow hbx hzx hrow4 hb4
              go_wp2
              go_roundg (my - (i + 1))
              case measure => omega
              case rel => exact ⟨i + 1, by omega, by go_num, hrow2, hby, hzy⟩
        · clear hrow hrow4 hb4
          have hb3x : Below w3.heap.size w3 wr := hbW.trans (hbx.mono (by have := HZ0.out; omega))
          have hb0x := hb03.trans (hb3x.mono hb03.size)
          have hR := HIN.out wr hb0x
          obtain ⟨W2, hW2⟩ : ∃ W2, wr.alloc (.cells #[.slice B m cm, .slice B m cm] 30) = W2 := ⟨_, rfl⟩
          have hbW2 : Below wr.heap.size wr W2 := by rw [← hW2]; exact KI.below_new wr _
          have hti : KI.RowsIn (fun k => k < W2.heap.size) W2 (some ⟨wr.heap.size, 0, none⟩) [l, l] := by rw [← hW2]; exact KI.two_rows hR hR _
          have hit := KI.Ints_any (some ⟨wr.heap.size, 0, none⟩) 2 2 [l, l] W2 hti rfl (by omega) (by have := HM.out; simp; omega) (by have := HM.out; simp; omega)
          have hVl := uniqL_len (lt := KI.lt) KI.ordr [l, l].flatten
          obtain ⟨V, hV⟩ : ∃ V, uniqL KI.lt [l, l].flatten = V := ⟨_, rfl⟩
          rw [hV] at hit hVl
          have HIT := Lib.hid hit
          clear hit hV hti hR
          go_wp2_with fail
          refine HIT.out.mono ?_
          rintro e w5 ⟨v5, rfl, hown5, hb5⟩
          obtain ⟨A5, c5, rfl, hc5⟩ := own_slice' hown5
          obtain ⟨lv, hlv⟩ : ∃ lv, V.length = lv := ⟨_, rfl⟩
          rw [hlv] at hown5 hc5 ⊢
          have hlv200 : lv ≤ 200 := by simp at hVl; have := HM.out; omega
          have HLV := Lib.hid hlv
          clear HIT hVl hlv hW2
          go_wp2_with fail
          go_loopg [14] lv (fun g' i wy => ∃ (k : Nat) (V' : List Int), k + g' = lv ∧ i = .int .i64 k ∧ Hid (V'.length = lv) ∧ wy.ownsRow W2.heap.size 3 1 (.slice A5 lv c5) lv (V'.map KI.val) ∧ Below W2.heap.size W2 wy)
          case atStart => exact ⟨0, V, by omega, rfl, HLV.out, hown5, hb5⟩
          case round =>
            obtain ⟨t, V', ht, rfl, hVL, hown, hby⟩ := hrel
            by_cases hlt5 : t < lv
            · rcases hown.2 with ⟨e, h0⟩ | ⟨g, cap, cur, e, -⟩
              · exact absurd h0 (by omega)
              injection e with e1 e2 e3
              subst e1
              have hg := (World.ownsRow.lt hown g rfl).1
              have hc0 := World.ownsRow.cellAt hown t (by omega)
              have hf0 := World.ownsRow.frozenAt hown t
              have htl : t < V'.length := by have := hVL.out; omega
              rw [List.getElem?_map, List.getElem?_eq_getElem htl] at hc0
              obtain ⟨y, hy⟩ : ∃ y, V'[t] = y := ⟨_, rfl⟩
              rw [hy, show Option.map KI.val (some y) = some (.int .i64 y) from rfl] at hc0
              obtain ⟨z, hz⟩ : ∃ z, IntKind.i64.wrap (y + 1) = z := ⟨_, rfl⟩
              have hownS := World.ownsRow.stored hown t (.int .i64 z)
              rw [show (V'.map KI.val).set t (.int .i64 z) = (V'.set t z).map KI.val from by rw [List.map_set]; rfl] at hownS
              have hbk := hby.setCell (p := ⟨g, t, none⟩) (by simp only []; omega) (.int .i64 z)
              have HVL := Lib.hid (by rw [List.length_set]; exact hVL.out : (V'.set t z).length = lv)
              have hownE := hownS.1
              clear hy htl hownS hown5 e3 hown hby hb5
              go_wp2
              go_roundg (lv - (t + 1))
              case measure => omega
              case rel => exact ⟨t + 1, V'.set t z, by omega, by go_num, HVL.out, hownE, hbk⟩
            · have hbz : Below w3.heap.size w3 wr := hb3x.trans ((hbW2.trans (hby.mono (by have := hbW2.size; omega))).mono hb3x.size)
              have hb0z := hb03.trans (hbz.mono hb03.size)
              have hwd := own_below HWD3.out hbz
              have hrw := (HRW.out wr hb0z).sees
              have hnn := own_below HOWN2.out hbz
              have hszz := hbz.size
              have hn2 : KI.Row wr A2 l.length c2 l := ⟨rfl, hc2, by have := HM.out; omega, Sees.of_own hnn⟩
              have hb2 := HIN.out wr hb0z
              clear hown hby hbx hown5 hb5 hnn hb3x hb0x hbW2 ht hbW
              go_wp2_with fail
              go_loopg [15] n (fun g' i wy => ∃ (t : Nat), t + g' = n ∧ i = .int .i64 t ∧ ∃ q, wy = wr.drewN q)
              case atStart => exact ⟨0, by omega, rfl, 0, rfl⟩
              case round =>
                obtain ⟨t4, ht4, rfl, q, hwq⟩ := hrel
                subst hwq
                by_cases hlt6 : t4 < n
                · have htk : t4 < k := by have := hkn.out; omega
                  rcases hwd.2 with ⟨e, h0⟩ | ⟨g, cap, cur, e, -⟩
                  · exact absurd h0 (by omega)
                  injection e with e1 e2 e3
                  subst e1
                  have hc0 := World.ownsRow.cellAt hwd t4 (by omega)
                  obtain ⟨ad, Ai, ci, rfl, hadB, hcell, hci, hsee⟩ := hrw.out t4 (by have := HN.out; omega)
                  unfold words at hc0
                  rw [List.getElem?_map, List.getElem?_eq_getElem (by have := HN.out; omega : t4 < ls.length)] at hc0
                  obtain ⟨x, hx⟩ : ∃ x, ls[t4]'(by have := HN.out; omega) = x := ⟨_, rfl⟩
                  rw [hx] at hcell hci hsee hc0
                  rw [show Option.map (fun x => Value.string (strOf x)) (some x) = some (.string (strOf x)) from rfl] at hc0
                  have cv := fun p => run_str (World.drewN _ p) _ Ai x.length ci x (hsee.drewN p) rfl
                  clear hx hsee e3 hwd
                  go_wp2
                  go_quiet (fail)
                  go_wp2
                  go_roundg (n - (t4 + 1))
                  case measure => omega
                  case rel => exact ⟨t4 + 1, by omega, by go_num, _, rfl⟩
                · have hsm := Lib.hid (KI.same_2 (hb2.below (below_d (Below.refl _ _) q)) (hn2.below (below_d (Below.refl _ _) q)) rfl)
                  have hbend := below_d hb0z q
                  clear ht4 hwd hrw
                  go_wp2_with fail
                  refine hsm.out.mono ?_
                  rintro e w9 ⟨rfl, hb9⟩
                  go_wp2_with fail
                  go_ret
                  exact ⟨rfl, hbend.trans (hb9.mono hbend.size)⟩

theorem few_one' (A : Option Addr) (n cn : Nat) (ls : List Item) (hn : ls.length = n) (hnc : n ≤ cn) (w : World) (hS : Sees2 w w.heap.size A ls) (bb : Nat) (hbb : w.heap.size = bb) :
    Calls Try.prog 10 #[.slice (some ⟨bb, 0, none⟩) 1 1] (w.alloc (.cells #[.slice A n cn] 26)) fun e w' => e = .returned (.bool (fewB [ls])) ∧ w.alloc (.cells #[.slice A n cn] 26) = w' := by
  have h3 : Sees3 (w.alloc (.cells #[.slice A n cn] 26)) (bb + 1) (some ⟨bb, 0, none⟩) [ls] := by
    refine Sees3.new _ _ hbb _ _ _ fun i hi => ?_
    subst hbb
    match i, hi with
    | 0, _ => exact ⟨A, cn, by rw [← hn]; rfl, by show ls.length ≤ cn; omega, hS⟩
  exact few_any _ 1 1 [ls] rfl _ (h3.more (by simp; omega))

set_option maxRecDepth 100000 in
set_option maxHeartbeats 400000 in
theorem KmergeOwn_any (A B : Option Addr) (n cn m cm : Nat) (ls : List Item) (l : List Int) (hn : ls.length = n) (hnc : n ≤ cn) (hm : l.length = m) (hmc : m ≤ cm) (w : World) (hS : Sees2 w w.heap.size A ls) (hL : Sees w w.heap.size B (KI.iv l)) :
    Calls Try.prog 7 #[.slice A n cn, .slice B m cm] w (IsTrue w) := by
  have hnot : ∀ (x : Bool) (w : World), (Op.unary .not (.bool x)).run Try.prog w = .ok (.bool (!x)) w := fun _ _ => rfl
  obtain ⟨s, hs⟩ : ∃ s, fewB [ls] = s := ⟨_, rfl⟩
  by_cases hb : s = true ∧ m ≤ 100
  · exact KmergeOwn_small A B n cn m cm ls l hn hnc hm hmc hb.2 w (hs.trans hb.1) hS hL
  · have hsh := fun (w1 : World) (hb1 : Below w.heap.size w w1) => few_one' A n cn ls hn hnc w1 ((hS.below hb1).more hb1.size) _ rfl
    rw [hs] at hsh
    have HSH := Lib.hid hsh
    clear hs hn hS hsh hm hL
    go_enter Try.func7, Try.ntmps7
    go_wp2_with fail
    refine (awake_any w).mono ?_
    rintro e w1 ⟨rfl, hb1⟩
    go_wp2_with fail
    refine (HSH.out w1 hb1).mono ?_
    rintro e w2 ⟨rfl, hw2⟩
    have hb2 : Below w.heap.size w w2 := by rw [← hw2]; exact hb1.trans ((KI.below_new w1 _).mono hb1.size)
    clear hw2
    cases s with
    | false =>
      clear hb
      go_wp2_with fail
      go_ret
      exact ⟨rfl, hb2⟩
    | true =>
      have hm1 : ¬ m ≤ 100 := fun e => hb ⟨rfl, e⟩
      clear hb
      go_wp2_with fail
      go_ret
      exact ⟨rfl, hb2⟩
end Go.Proofs.Ytcfbblgoligagaa
