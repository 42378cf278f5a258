/-
  The document's put and Items of rows of items, walked.
-/
import Derived.Test.YtcfbblgoligagaaKmLawB
namespace Go.Proofs.Ytcfbblgoligagaa.KB
open Go.RowKit

/-- put, of items where they lie. -/
def putE (xs : List El) (x : El) : List El := if (xs.map key)[cutG ahead (key x) (xs.map key)]? = some (key x) then xs else xs.take (cutG ahead (key x) (xs.map key)) ++ x :: xs.drop (cutG ahead (key x) (xs.map key))
theorem putE_key (xs : List El) (x : El) : (putE xs x).map key = putG ahead (xs.map key) (key x) := by
  unfold putE putG
  split
  · rfl
  · rw [List.map_append, List.map_take, List.map_cons, List.map_drop]
theorem putE_mem {xs : List El} {x y : El} (h : y ∈ putE xs x) : y = x ∨ y ∈ xs := by
  unfold putE at h
  split at h
  · exact .inr h
  · rcases List.mem_append.1 h with h | h
    · exact .inr (List.mem_of_mem_take h)
    · rcases List.mem_cons.1 h with h | h
      · exact .inl h
      · exact .inr (List.mem_of_mem_drop h)
theorem putE_len (xs : List El) (x : El) : (putE xs x).length ≤ xs.length + 1 := by
  unfold putE
  split
  · omega
  · simp only [List.length_append, List.length_cons, List.length_take, List.length_drop]; omega
/-- A row of items where they lie, given back. -/
def RowE (w : World) (xs : List El) (e : Ending) (w' : World) : Prop := ∃ A c, e = .returned (.slice A xs.length c) ∧ xs.length ≤ c ∧ Sees w' w'.heap.size A (xs.map val) ∧ Below w.heap.size w w'
theorem val_ones (l : List El) : ∀ u ∈ l.map val, u.oneCell' = true := fun u hu => by obtain ⟨y, _, rfl⟩ := List.mem_map.1 hu; rfl
theorem wpList_append_e {w : World} {ops : Array Oper} {rest : List Oper} {o : Oper} {a : Act} {Q : Exit → Act → World → Prop} (hgd : o.guard = none) (s x : Operand)
    (ho : o.op = .call { callee := .builtin .append, args := #[s, x], argTypes := #[26, 26] })
    (base : Nat) (v : Value) (l : List El) (hs : a.eval s = v) (hown : w.ownsRow base 41 1 v l.length (l.map val)) (B : Nat) (A : Option Addr) (m c : Nat) (news : List El) (hx : a.eval x = .slice A m c) (hm : news.length = m) (hsee : Sees w B A (news.map val))
    (hlen : l.length + news.length ≤ 1099511627776) (hbase : base ≤ w.heap.size)
    (h : ∀ v' w', w'.ownsRow base 41 1 v' (l ++ news).length ((l ++ news).map val) → Onto w w' v v' → wpList Try.prog ops Q rest (a.put o.dst v') w') : wpList Try.prog ops Q (o :: rest) a w := by
  obtain ⟨ti, hi, hy0, hy1, hy2⟩ := info_parts (show (Try.prog.info? 41).map (fun i => (i.zero, i.size, i.bytes)) = some (some (.slice none 0 0), 1, 24) by kernel_rfl)
  subst hm
  refine wpList_append_v hgd s x 26 ho 41 ti _ 1 24 Try.underlying26 hi hy0 hy1 hy2 rfl (by omega) base v l.length (l.map val) hs hown B A news.length c (news.map val) hx (by rw [List.length_map, Nat.mul_one]) hsee (val_ones news) (by simp only [maxLen]; omega) (by omega) hbase (fun v' w' h1 h2 => h v' w' ?_ h2)
  rw [List.length_append, List.map_append]
  exact h1
theorem own_rowE {w w' : World} {base : Nat} {v : Value} {l : List El} (h : w'.ownsRow base 41 1 v l.length (l.map val)) (hb : Below w.heap.size w w') : RowE w l (.returned v) w' := by
  rcases h.2 with ⟨rfl, hn⟩ | ⟨g, cap, cur, rfl, -, -, hc, -⟩
  · exact ⟨none, 0, by rw [hn], by omega, ⟨.inl (by rw [List.eq_nil_of_length_eq_zero hn]; rfl)⟩, hb⟩
  · exact ⟨_, cap, rfl, hc, Sees.of_own h, hb⟩

set_option maxRecDepth 100000 in
set_option maxHeartbeats 1600000 in
theorem put_any (A : Option Addr) (n c : Nat) (xs : List El) (x : El) (hn : xs.length = n) (hnc : n ≤ c) (w : World) (hS : Sees w w.heap.size A (xs.map val)) (hok : ∀ y ∈ xs, EOk (fun k => k < w.heap.size) w y) (hx : EOk (fun k => k < w.heap.size) w x) (hlen : n ≤ 1000000000) :
    Calls Try.prog 27 #[.slice A n c, val x] w (RowE w (putE xs x)) := by
  obtain ⟨R, hR⟩ : ∃ R, putE xs x = R := ⟨_, rfl⟩
  rw [hR]
  have HR := Lib.hid hR
  have HN := Lib.hid hn
  have HOK := Lib.hid hok
  obtain ⟨xk, xA, xc⟩ := x
  have cv2 := fun p => run_str (w.drewN p) _ xA xk.length xc xk ((hx.sees.sees fun k e => e).drewN p) rfl
  have hxl : Hid (xk.length ≤ xc) := hx.cap
  clear hn hR hok hx
  simp only [val]
  go_enter Try.func27, Try.ntmps27
  go_wp2
  go_loopg [5] n (fun g i wr => ∃ k : Nat, k + g = n ∧ i = .int .i64 k ∧ Hid (∀ j (h : j < (xs.map key).length), j < k → ahead (xs.map key)[j] xk = true) ∧ ∃ q, wr = w.drewN q)
  case atStart => exact ⟨0, by omega, rfl, fun j h h0 => absurd h0 (by omega), 0, rfl⟩
  case round =>
    obtain ⟨k, hk, rfl, hah, q, rfl⟩ := hrel
    have hkl' : (xs.map key).length = n := by rw [List.length_map]; exact HN.out
    have hfin : (∀ h : k < (xs.map key).length, ahead (xs.map key)[k] xk = false) → Hid (R = if (xs.map key)[k]? = some xk then xs else xs.take k ++ (xk, xA, xc) :: xs.drop k) := fun h => by
      unfold Hid
      rw [← HR.out]
      unfold putE
      rw [show key (xk, xA, xc) = xk from rfl, cutG_eq (by omega) hah.out h]
    have HKL := Lib.hid hkl'
    clear hkl'
    by_cases hlt : k < n
    · obtain ⟨ad, rfl, hb, hcell⟩ := hS.at_ (k := k) (by rw [List.length_map]; have := HN.out; omega)
      have hkl : k < xs.length := by have := HN.out; omega
      have hgk : (xs.map key)[k]? = some (key xs[k]) := by rw [List.getElem?_map, List.getElem?_eq_getElem hkl]; rfl
      have hgk2 : (xs.map key)[k]'(by rw [List.length_map]; exact hkl) = key xs[k] := List.getElem_map ..
      have hyok := HOK.out _ (List.getElem_mem hkl)
      rw [List.getElem_map] at hcell
      obtain ⟨y, hy⟩ : ∃ y, xs[k] = y := ⟨_, rfl⟩
      rw [hy] at hcell hyok hgk hgk2
      obtain ⟨yk, yA, yc⟩ := y
      have cv1 := fun p => run_str (w.drewN p) _ yA yk.length yc yk ((hyok.sees.sees fun k e => e).drewN p) rfl
      simp only [val] at hcell
      rw [show key (yk, yA, yc) = yk from rfl] at hgk hgk2
      have hble : Op.bytesLess (strOf yk).toList (strOf xk).toList = ahead yk xk := by rw [strOf_toList, strOf_toList]; rfl
      by_cases hyx : ahead yk xk = true
      · have hT : Hid (∀ j (h : j < (xs.map key).length), j < k + 1 → ahead (xs.map key)[j] xk = true) := fun j h hj => by
          by_cases e : j = k
          · subst e; rw [hgk2]; exact hyx
          · exact hah.out j h (by omega)
        rw [hyx] at hble
        clear hah hfin hgk hgk2 hyx hy hyok
        go_wp2
        go_quiet (fail)
        go_wp2
        go_roundg (n - (k + 1))
        case measure => omega
        case rel => exact ⟨k + 1, by omega, by go_num, hT, _, rfl⟩
      · rw [Bool.not_eq_true] at hyx
        have hF := hfin (fun h => by rw [hgk2]; exact hyx)
        rw [hyx] at hble
        have hbeq : ((strOf yk).toList == (strOf xk).toList) = (yk == xk) := by rw [strOf_toList, strOf_toList]
        by_cases hxy : yk = xk
        · have HF : Hid (R = xs) := by have := hF.out; rw [hgk, hxy, if_pos rfl] at this; exact this
          rw [show (yk == xk) = true from by simpa using hxy] at hbeq
          clear hah hfin hgk hgk2 hF hxy hyx hy hyok
          go_wp2
          go_quiet (fail)
          go_wp2
          go_quiet (fail)
          go_wp2
          go_ret
          rw [HF.out]
          exact ⟨some ad, c, by rw [HN.out]; rfl, by rw [HN.out]; exact hnc, (hS.drewN _).drewN _ |>.drewN _, below_d (below_d (below_d (Below.refl _ _) _) _) _⟩
        · have HF : Hid (R = xs.take k ++ (xk, xA, xc) :: xs.drop k) := by
            have := hF.out
            rw [hgk, if_neg (fun e => hxy (Option.some.inj e))] at this
            exact this
          rw [show (yk == xk) = false from by simpa using hxy] at hbeq
          have h1 := hS.take k
          rw [← List.map_take] at h1
          have h2 := Sees.cut' hS k
          rw [← List.map_drop] at h2
          have hlt1 : (xs.take k).length = k := by rw [List.length_take]; omega
          have hld : (xs.drop k).length = n - k := by rw [List.length_drop, HN.out]
          have HLT := Lib.hid hlt1
          have HLD := Lib.hid hld
          have hck : ¬ c = k := by omega
          have hkc : (k : Int) ≤ (c : Int) := by omega
          have hkn : (k : Int) ≤ (n : Int) := by omega
          have hl1 : (xs.take k).length ≤ 1000000000 := by omega
          have hl2 : (xs.drop k).length ≤ 1000000000 := by omega
          have HL1 := Lib.hid hl1
          have HL2 := Lib.hid hl2
          clear hah hfin hgk hgk2 hF hxy hyx hy hyok hlt1 hld hl1 hl2
          go_wp2
          go_quiet (fail)
          go_wp2
          go_quiet (fail)
          go_wp2_with (first
            | (at_builtin; refine wpList_append_e rfl (.tmp 38) (.tmp 41) rfl w.heap.size (.slice none 0 0) [] (by rfl) (World.ownsRow_nil _ _ _ _) w.heap.size (some ad) k c (xs.take k) (by rfl) HLT.out (h1.drewN _) (by have := HL1.out; simp; omega) (Nat.le_refl _) ?_; intro v1 w1 hown1 hon1; rw [List.nil_append] at hown1; have hb1' : Below w.heap.size w w1 := (below_d (Below.refl _ w) _).trans hon1.below_nil; have hs1 := hb1'.size; have hsee1 : Sees (w1.alloc (.cells #[.slice xA xk.length xc] 41)) (w1.heap.size + 1) (some ⟨w1.heap.size, 0, none⟩) ([(xk, xA, xc)].map val) := sees_cell w1 _ rfl _ _; have hown1' := hown1.alloc (.cells #[.slice xA xk.length xc] 41))
            | (at_builtin; refine wpList_append_e rfl (.tmp 43) (.tmp 45) rfl w.heap.size v1 (xs.take k) (by rfl) hown1' _ (some ⟨w1.heap.size, 0, none⟩) 1 1 [(xk, xA, xc)] (by rfl) rfl hsee1 (by have := HL1.out; simp; omega) (by simp; omega) ?_; intro v2 w2 hown2 hon2; have hb2 : Below w.heap.size w w2 := hb1'.trans ((((Below.refl _ w1).alloc (Nat.le_refl _) (.cells #[.slice xA xk.length xc] 41)).mono hs1).trans (hon2.below (by simp; omega) (fun j hj => (World.ownsRow.lt hown1 j hj).1))); have hs2 := hb2.size; have hsee2 := h2.below hb2)
            | (at_builtin; refine wpList_append_e rfl (.tmp 47) (.tmp 50) rfl w.heap.size v2 (xs.take k ++ [(xk, xA, xc)]) (by rfl) hown2 _ _ (n - k) (c - k) (xs.drop k) (by rfl) HLD.out hsee2 (by have := HL1.out; have := HL2.out; simp only [List.length_append, List.length_singleton]; omega) hs2 ?_; intro v3 w3 hown3 hon3; have hb3 : Below w.heap.size w w3 := hb2.trans (hon3.below hs2 (fun j hj => (World.ownsRow.lt hown2 j hj).1))))
          go_ret
          rw [HF.out, show xs.take k ++ (xk, xA, xc) :: xs.drop k = xs.take k ++ [(xk, xA, xc)] ++ xs.drop k from by simp]
          exact own_rowE hown3 hb3
    · have hkn0 : k = n := by omega
      have hF := hfin (fun h => absurd h (by have := HKL.out; omega))
      have HF : Hid (R = xs ++ [(xk, xA, xc)]) := by
        have := hF.out
        rw [List.getElem?_eq_none (by have := HKL.out; omega), if_neg (by simp), List.take_of_length_le (by have := HN.out; omega), List.drop_eq_nil_of_le (by have := HN.out; omega)] at this
        exact this
      subst hkn0
      have hkc : (k : Int) ≤ (c : Int) := by omega
      clear hah hfin hF
      cases A with
      | none =>
        by_cases hck : c = k
        · go_wp2
          go_quiet (fail)
          go_wp2
          go_quiet (fail)
          go_wp2_with (first
            | (at_builtin; refine wpList_append_e rfl (.tmp 38) (.tmp 41) rfl w.heap.size (.slice none 0 0) [] (by rfl) (World.ownsRow_nil _ _ _ _) w.heap.size none _ _ (xs) (by rfl) HN.out (hS.drewN _) (by have := HN.out; simp; omega) (Nat.le_refl _) ?_; intro v1 w1 hown1 hon1; rw [List.nil_append] at hown1; have hb1' : Below w.heap.size w w1 := (below_d (Below.refl _ w) _).trans hon1.below_nil; have hs1 := hb1'.size; have hsee1 : Sees (w1.alloc (.cells #[.slice xA xk.length xc] 41)) (w1.heap.size + 1) (some ⟨w1.heap.size, 0, none⟩) ([(xk, xA, xc)].map val) := sees_cell w1 _ rfl _ _; have hown1' := hown1.alloc (.cells #[.slice xA xk.length xc] 41))
            | (at_builtin; refine wpList_append_e rfl (.tmp 43) (.tmp 45) rfl w.heap.size v1 (xs) (by rfl) hown1' _ (some ⟨w1.heap.size, 0, none⟩) 1 1 [(xk, xA, xc)] (by rfl) rfl hsee1 (by have := HN.out; simp; omega) (by simp; omega) ?_; intro v2 w2 hown2 hon2; have hb2 : Below w.heap.size w w2 := hb1'.trans ((((Below.refl _ w1).alloc (Nat.le_refl _) (.cells #[.slice xA xk.length xc] 41)).mono hs1).trans (hon2.below (by simp; omega) (fun j hj => (World.ownsRow.lt hown1 j hj).1))); have hs2 := hb2.size)
            | (at_builtin; refine wpList_append_e rfl (.tmp 47) (.tmp 50) rfl w.heap.size v2 (xs ++ [(xk, xA, xc)]) (by rfl) hown2 _ _ _ _ [] (by rfl) (by simp) (Sees.nil _ w2.heap.size _) (by have := HN.out; simp only [List.length_append, List.length_singleton, List.length_nil]; omega) hs2 ?_; intro v3 w3 hown3 hon3; rw [List.append_nil] at hown3; have hb3 : Below w.heap.size w w3 := hb2.trans (hon3.below hs2 (fun j hj => (World.ownsRow.lt hown2 j hj).1))))
          go_ret
          rw [HF.out]
          exact own_rowE hown3 hb3
        · go_wp2
          go_quiet (fail)
          go_wp2
          go_quiet (fail)
          go_wp2_with (first
            | (at_builtin; refine wpList_append_e rfl (.tmp 38) (.tmp 41) rfl w.heap.size (.slice none 0 0) [] (by rfl) (World.ownsRow_nil _ _ _ _) w.heap.size none _ _ (xs) (by rfl) HN.out (hS.drewN _) (by have := HN.out; simp; omega) (Nat.le_refl _) ?_; intro v1 w1 hown1 hon1; rw [List.nil_append] at hown1; have hb1' : Below w.heap.size w w1 := (below_d (Below.refl _ w) _).trans hon1.below_nil; have hs1 := hb1'.size; have hsee1 : Sees (w1.alloc (.cells #[.slice xA xk.length xc] 41)) (w1.heap.size + 1) (some ⟨w1.heap.size, 0, none⟩) ([(xk, xA, xc)].map val) := sees_cell w1 _ rfl _ _; have hown1' := hown1.alloc (.cells #[.slice xA xk.length xc] 41))
            | (at_builtin; refine wpList_append_e rfl (.tmp 43) (.tmp 45) rfl w.heap.size v1 (xs) (by rfl) hown1' _ (some ⟨w1.heap.size, 0, none⟩) 1 1 [(xk, xA, xc)] (by rfl) rfl hsee1 (by have := HN.out; simp; omega) (by simp; omega) ?_; intro v2 w2 hown2 hon2; have hb2 : Below w.heap.size w w2 := hb1'.trans ((((Below.refl _ w1).alloc (Nat.le_refl _) (.cells #[.slice xA xk.length xc] 41)).mono hs1).trans (hon2.below (by simp; omega) (fun j hj => (World.ownsRow.lt hown1 j hj).1))); have hs2 := hb2.size)
            | (at_builtin; refine wpList_append_e rfl (.tmp 47) (.tmp 50) rfl w.heap.size v2 (xs ++ [(xk, xA, xc)]) (by rfl) hown2 _ _ _ _ [] (by rfl) (by simp) (Sees.nil _ w2.heap.size _) (by have := HN.out; simp only [List.length_append, List.length_singleton, List.length_nil]; omega) hs2 ?_; intro v3 w3 hown3 hon3; rw [List.append_nil] at hown3; have hb3 : Below w.heap.size w w3 := hb2.trans (hon3.below hs2 (fun j hj => (World.ownsRow.lt hown2 j hj).1))))
          go_ret
          rw [HF.out]
          exact own_rowE hown3 hb3
      | some ad =>
        by_cases hck : c = k
        · go_wp2
          go_quiet (fail)
          go_wp2
          go_quiet (fail)
          go_wp2_with (first
            | (at_builtin; refine wpList_append_e rfl (.tmp 38) (.tmp 41) rfl w.heap.size (.slice none 0 0) [] (by rfl) (World.ownsRow_nil _ _ _ _) w.heap.size (some ad) _ _ (xs) (by rfl) HN.out (hS.drewN _) (by have := HN.out; simp; omega) (Nat.le_refl _) ?_; intro v1 w1 hown1 hon1; rw [List.nil_append] at hown1; have hb1' : Below w.heap.size w w1 := (below_d (Below.refl _ w) _).trans hon1.below_nil; have hs1 := hb1'.size; have hsee1 : Sees (w1.alloc (.cells #[.slice xA xk.length xc] 41)) (w1.heap.size + 1) (some ⟨w1.heap.size, 0, none⟩) ([(xk, xA, xc)].map val) := sees_cell w1 _ rfl _ _; have hown1' := hown1.alloc (.cells #[.slice xA xk.length xc] 41))
            | (at_builtin; refine wpList_append_e rfl (.tmp 43) (.tmp 45) rfl w.heap.size v1 (xs) (by rfl) hown1' _ (some ⟨w1.heap.size, 0, none⟩) 1 1 [(xk, xA, xc)] (by rfl) rfl hsee1 (by have := HN.out; simp; omega) (by simp; omega) ?_; intro v2 w2 hown2 hon2; have hb2 : Below w.heap.size w w2 := hb1'.trans ((((Below.refl _ w1).alloc (Nat.le_refl _) (.cells #[.slice xA xk.length xc] 41)).mono hs1).trans (hon2.below (by simp; omega) (fun j hj => (World.ownsRow.lt hown1 j hj).1))); have hs2 := hb2.size)
            | (at_builtin; refine wpList_append_e rfl (.tmp 47) (.tmp 50) rfl w.heap.size v2 (xs ++ [(xk, xA, xc)]) (by rfl) hown2 _ _ _ _ [] (by rfl) (by simp) (Sees.nil _ w2.heap.size _) (by have := HN.out; simp only [List.length_append, List.length_singleton, List.length_nil]; omega) hs2 ?_; intro v3 w3 hown3 hon3; rw [List.append_nil] at hown3; have hb3 : Below w.heap.size w w3 := hb2.trans (hon3.below hs2 (fun j hj => (World.ownsRow.lt hown2 j hj).1))))
          go_ret
          rw [HF.out]
          exact own_rowE hown3 hb3
        · go_wp2
          go_quiet (fail)
          go_wp2
          go_quiet (fail)
          go_wp2_with (first
            | (at_builtin; refine wpList_append_e rfl (.tmp 38) (.tmp 41) rfl w.heap.size (.slice none 0 0) [] (by rfl) (World.ownsRow_nil _ _ _ _) w.heap.size (some ad) _ _ (xs) (by rfl) HN.out (hS.drewN _) (by have := HN.out; simp; omega) (Nat.le_refl _) ?_; intro v1 w1 hown1 hon1; rw [List.nil_append] at hown1; have hb1' : Below w.heap.size w w1 := (below_d (Below.refl _ w) _).trans hon1.below_nil; have hs1 := hb1'.size; have hsee1 : Sees (w1.alloc (.cells #[.slice xA xk.length xc] 41)) (w1.heap.size + 1) (some ⟨w1.heap.size, 0, none⟩) ([(xk, xA, xc)].map val) := sees_cell w1 _ rfl _ _; have hown1' := hown1.alloc (.cells #[.slice xA xk.length xc] 41))
            | (at_builtin; refine wpList_append_e rfl (.tmp 43) (.tmp 45) rfl w.heap.size v1 (xs) (by rfl) hown1' _ (some ⟨w1.heap.size, 0, none⟩) 1 1 [(xk, xA, xc)] (by rfl) rfl hsee1 (by have := HN.out; simp; omega) (by simp; omega) ?_; intro v2 w2 hown2 hon2; have hb2 : Below w.heap.size w w2 := hb1'.trans ((((Below.refl _ w1).alloc (Nat.le_refl _) (.cells #[.slice xA xk.length xc] 41)).mono hs1).trans (hon2.below (by simp; omega) (fun j hj => (World.ownsRow.lt hown1 j hj).1))); have hs2 := hb2.size)
            | (at_builtin; refine wpList_append_e rfl (.tmp 47) (.tmp 50) rfl w.heap.size v2 (xs ++ [(xk, xA, xc)]) (by rfl) hown2 _ _ _ _ [] (by rfl) (by simp) (Sees.nil _ w2.heap.size _) (by have := HN.out; simp only [List.length_append, List.length_singleton, List.length_nil]; omega) hs2 ?_; intro v3 w3 hown3 hon3; rw [List.append_nil] at hown3; have hb3 : Below w.heap.size w w3 := hb2.trans (hon3.below hs2 (fun j hj => (World.ownsRow.lt hown2 j hj).1))))
          go_ret
          rw [HF.out]
          exact own_rowE hown3 hb3
theorem sees2_of {w : World} {B : Nat} {A : Option Addr} {xs : List El} (h : Sees w B A (xs.map val)) (hok : ∀ x ∈ xs, EOk (fun k => k < B) w x) : Sees2 w B A (xs.map key) := ⟨fun i hi => by
  have hi' : i < xs.length := by simpa using hi
  obtain ⟨ad, e, hb, hc⟩ := h.at_ (k := i) (by simpa using hi')
  have hx := hok _ (List.getElem_mem hi')
  rw [List.getElem_map] at hc
  simp only [List.getElem_map]
  exact ⟨ad, (xs[i]).2.1, (xs[i]).2.2, e, hb, hc, hx.cap, hx.sees.sees fun k e => e⟩⟩
theorem take_flatE {ll : List (List El)} {k : Nat} (h : k < ll.length) : (ll.take (k + 1)).flatten = (ll.take k).flatten ++ ll[k] := by
  rw [List.take_succ_eq_append_getElem h, List.flatten_append]; simp
theorem flat_leE (ll : List (List El)) (k j : Nat) (h : k < ll.length) : ((ll.take k).flatten ++ (ll[k]).take j).length ≤ ll.flatten.length := by
  have e : ll.flatten = (ll.take k).flatten ++ (ll[k] ++ (ll.drop (k + 1)).flatten) := by
    rw [← List.flatten_cons, ← List.drop_eq_getElem_cons h, ← List.flatten_append, List.take_append_drop]
  rw [e]
  simp only [List.length_append, List.length_take]
  omega

set_option maxRecDepth 100000 in
set_option maxHeartbeats 1600000 in
theorem RefItems_any (A : Option Addr) (n c : Nat) (ll : List (List El)) (w : World) (hR : KB.RowsIn (fun k => k < w.heap.size) w A ll) (hn : ll.length = n) (hn6 : n ≤ 1000) (hK : ll.flatten.length ≤ 10000) (hsh : ∀ r ∈ ll, ∀ y ∈ r, y.1.length ≤ 1000) :
    Calls Try.prog 13 #[.slice A n c] w (BIs w (uniqL ahead (ll.flatten.map key))) := by
  have hU := putG_all (lt := ahead) ordr (ll.flatten.map key)
  obtain ⟨U, hUU⟩ : ∃ U, uniqL ahead (ll.flatten.map key) = U := ⟨_, rfl⟩
  rw [hUU] at hU ⊢
  have HU := Lib.hid hU
  have HN := Lib.hid hn
  have HKL := Lib.hid hK
  have HOK := Lib.hid (fun y (hy : y ∈ ll.flatten) => (by
    obtain ⟨r, hr, hyr⟩ := List.mem_flatten.1 hy
    obtain ⟨i, hi, rfl⟩ := List.mem_iff_getElem.1 hr
    obtain ⟨_, _, _, _, _, _, _, _, h6⟩ := hR.out i hi
    exact ⟨h6 y hyr, hsh _ hr y hyr⟩ : EOk (fun k => k < w.heap.size) w y ∧ y.1.length ≤ 1000))
  clear hU hUU hn hK hsh
  go_enter Try.func13, Try.ntmps13
  go_wp2
  go_loopg [3, 4] n (fun g o i wr => ∃ (k : Nat) (Ao : Option Addr) (lo co : Nat) (out : List El), k + g = n ∧ i = .int .i64 k ∧ o = .slice Ao lo co ∧ Hid (out.length = lo) ∧ lo ≤ co ∧ Hid (out.map key = ((ll.take k).flatten.map key).foldl (putG ahead) []) ∧ Hid (∀ y ∈ out, y ∈ ll.flatten) ∧ Sees wr wr.heap.size Ao (out.map val) ∧ Below w.heap.size w wr)
  case atStart => exact ⟨0, none, 0, 0, [], by omega, rfl, rfl, rfl, Nat.le_refl _, rfl, (fun y hy => absurd hy (by simp)), ⟨.inl rfl⟩, Below.refl _ _⟩
  case round =>
    obtain ⟨k, Ao, lo, co, out, hk, rfl, rfl, hlo, hloc, hout, hin, hsee, hb⟩ := hrel
    by_cases hlt : k < n
    · obtain ⟨ad, Ak, ck, rfl, hadm, hcell0, hck, hrow, -⟩ := hR.out k (by have := HN.out; omega)
      have htf := take_flatE (ll := ll) (k := k) (by have := HN.out; omega)
      have hfl := fun j => flat_leE ll k j (by have := HN.out; omega)
      have hmr : ∀ y ∈ ll[k]'(by have := HN.out; omega), y ∈ ll.flatten := fun y hy => List.mem_flatten.2 ⟨_, List.getElem_mem _, hy⟩
      obtain ⟨r, hr⟩ : ∃ r, ll[k]'(by have := HN.out; omega) = r := ⟨_, rfl⟩
      rw [hr] at hcell0 hck hrow htf hmr
      simp only [hr] at hfl
      obtain ⟨lk, hlk⟩ : ∃ lk, r.length = lk := ⟨_, rfl⟩
      rw [hlk] at hcell0 hck
      have hlk9 : lk ≤ 1000000000 := by
        have := hfl lk
        rw [← hlk, List.take_length, List.length_append] at this
        have := HKL.out; omega
      have HTF := Lib.hid htf
      have HFL := Lib.hid hfl
      have HLK := Lib.hid hlk
      have HMR := Lib.hid hmr
      obtain ⟨wo, rfl⟩ : ∃ wo : World, wo = wr := ⟨_, rfl⟩
      clear htf hfl hlk hr hmr
      go_wp2
      go_loopg [3, 5] lk (fun g o i wr => ∃ (j : Nat) (Ao : Option Addr) (lo co : Nat) (out : List El), j + g = lk ∧ i = .int .i64 j ∧ o = .slice Ao lo co ∧ Hid (out.length = lo) ∧ lo ≤ co ∧ Hid (out.map key = (((ll.take k).flatten ++ r.take j).map key).foldl (putG ahead) []) ∧ Hid (∀ y ∈ out, y ∈ ll.flatten) ∧ Sees wr wr.heap.size Ao (out.map val) ∧ Below w.heap.size w wr)
      case atStart => exact ⟨0, Ao, lo, co, out, by omega, rfl, rfl, hlo.out, hloc, by unfold Hid; rw [hout.out]; simp, hin.out, hsee, hb⟩
      case round =>
        obtain ⟨j, Ap, lp, cp, op, hj, rfl, rfl, hlp, hlpc, hop, hinp, hseep, hbp⟩ := hrel
        clear hlo hloc hout hsee hb hin
        have hcell : wr.cell? (ad.add k) = some (.slice Ak lk ck) := (hbp.cell (by rw [add_block]; exact hadm)).trans hcell0
        have hszp := hbp.size
        by_cases hjl : j < lk
        · have hrowp := hrow.keep (Kept.of_below hbp fun k e => e)
          obtain ⟨adk, rfl, -, hx⟩ := (hrowp.sees (B := wr.heap.size) fun k e => Nat.lt_of_lt_of_le e hbp.size).at_ (k := j) (by rw [List.length_map, HLK.out]; exact hjl)
          have htk := List.take_succ_eq_append_getElem (l := r) (i := j) (by rw [HLK.out]; exact hjl)
          rw [List.getElem_map] at hx
          have hxm := HMR.out _ (List.getElem_mem (by rw [HLK.out]; exact hjl : j < r.length))
          obtain ⟨x, hxe⟩ : ∃ x, r[j]'(by rw [HLK.out]; exact hjl) = x := ⟨_, rfl⟩
          rw [hxe] at hx htk hxm
          have hlp9 : lp ≤ 1000000000 := by
            have h1 := fold_len (lt := ahead) (((ll.take k).flatten ++ r.take j).map key) []
            rw [← hop.out, List.length_map, hlp.out, List.length_map] at h1
            have h2 := HFL.out j
            have h3 := HKL.out
            simp only [List.length_nil] at h1
            omega
          have hlift : ∀ y ∈ ll.flatten, EOk (fun k => k < wr.heap.size) wr y := fun y hy => ((HOK.out y hy).1.keep (Kept.of_below hbp fun k e => e)).mono fun k e => Nat.lt_of_lt_of_le e hszp
          have hput := Lib.hid (put_any Ap lp cp op x hlp.out hlpc wr hseep (fun y hy => hlift y (hinp.out y hy)) (hlift x hxm) hlp9)
          have HTK := Lib.hid htk
          have HXM := Lib.hid hxm
          obtain ⟨vx, hvx⟩ : ∃ vx, val x = vx := ⟨_, rfl⟩
          rw [hvx] at hx hput
          clear htk hxe hrowp hlift hxm hvx
          go_wp2_with fail
          refine hput.out.mono ?_
          rintro e w2 ⟨A2, c2, rfl, hc2, hs2, hb2⟩
          have hb02 := hbp.trans (hb2.mono hbp.size)
          obtain ⟨l2, hl2⟩ : ∃ l2, (putE op x).length = l2 := ⟨_, rfl⟩
          rw [hl2] at hc2 ⊢
          have HL2 := Lib.hid hl2
          clear hput hb2 hl2
          go_wp2_with fail
          go_roundg (lk - (j + 1))
          case measure => omega
          case rel => exact ⟨j + 1, A2, l2, c2, _, by omega, by go_num, rfl, HL2.out, hc2, by unfold Hid; rw [putE_key, hop.out, HTK.out]; simp only [List.foldl_append, List.foldl_cons, List.foldl_nil, List.map_append, List.map_cons, List.map_nil], (fun y hy => (putE_mem hy).elim (fun e => e ▸ HXM.out) fun e => hinp.out y e), hs2, hb02⟩
        · have hje : j = lk := by omega
          have hoe : Hid (op.map key = ((ll.take (k + 1)).flatten.map key).foldl (putG ahead) []) := by
            unfold Hid
            rw [hop.out, HTF.out, hje, ← HLK.out, List.take_length]
          clear hje
          go_wp2_with fail
          go_roundg (n - (k + 1))
          case measure => omega
          case rel => exact ⟨k + 1, Ap, lp, cp, op, by omega, by go_num, rfl, hlp.out, hlpc, hoe, hinp.out, hseep, hbp⟩
    · have hoe : Hid (out.map key = U) := by
        have := hout.out
        rw [List.take_of_length_le (by have := HN.out; omega), HU.out] at this
        exact this
      have hsz := hb.size
      have hfull : Hid (BRow wr Ao lo co U) := by
        unfold Hid
        have hlift : ∀ y ∈ out, EOk (fun k => k < wr.heap.size) wr y := fun y hy => ((HOK.out y (hin.out y hy)).1.keep (Kept.of_below hb fun k e => e)).mono fun k e => Nat.lt_of_lt_of_le e hsz
        have h1 := fold_len (lt := ahead) ((ll.take k).flatten.map key) []
        have h2 : (ll.take k).flatten.length ≤ ll.flatten.length := by rw [List.take_of_length_le (by have := HN.out; omega)]; exact Nat.le_refl _
        rw [← hout.out, List.length_map, hlo.out, List.length_map] at h1
        simp only [List.length_nil] at h1
        have h3 := HKL.out
        rw [← hoe.out]
        exact ⟨by rw [List.length_map]; exact hlo.out, hloc, by omega, fun x hx => by obtain ⟨y, hy, rfl⟩ := List.mem_map.1 hx; exact (HOK.out y (hin.out y hy)).2, sees2_of hsee hlift⟩
      clear hout hoe
      go_wp2
      go_ret
      have h1 := hfull.out.len
      refine ⟨Ao, co, by rw [h1]; rfl, by rw [h1]; exact hfull.out, hb⟩
end Go.Proofs.Ytcfbblgoligagaa.KB
