/-
  The document's Put and Ints of rows of numbers, walked.
-/
import Derived.Test.YtcfbblgoligagaaKmRefI
namespace Go.Proofs.Ytcfbblgoligagaa.KI
open Go.RowKit

/-- append of numbers that are seen onto a row of the call's own, at an operation of a plain statement. -/
theorem wpList_append_i {w : World} {ops : Array Oper} {rest : List Oper} {o : Oper} {a : Act} {Q : Exit → Act → World → Prop} (hgd : o.guard = none) (s x : Operand)
    (ho : o.op = .call { callee := .builtin .append, args := #[s, x], argTypes := #[30, 30] })
    (base : Nat) (v : Value) (l : List Int) (hs : a.eval s = v) (hown : w.ownsRow base 3 1 v l.length (iv l)) (B : Nat) (A : Option Addr) (m c : Nat) (news : List Int) (hx : a.eval x = .slice A m c) (hm : news.length = m) (hsee : Sees w B A (iv news))
    (hlen : l.length + news.length ≤ 1099511627776) (hbase : base ≤ w.heap.size)
    (h : ∀ v' w', w'.ownsRow base 3 1 v' (l ++ news).length (iv (l ++ news)) → Onto w w' v v' → wpList Try.prog ops Q rest (a.put o.dst v') w') : wpList Try.prog ops Q (o :: rest) a w := by
  obtain ⟨ti, hi, hy0, hy1, hy2⟩ := info_parts iinfo
  subst hm
  refine wpList_append_v hgd s x 30 ho 3 ti _ 1 8 Try.underlying30 hi hy0 hy1 hy2 rfl (by omega) base v l.length (iv l) hs hown B A news.length c (iv news) hx (by rw [iv_length, Nat.mul_one]) hsee iv_one (by simp only [maxLen]; omega) (by omega) hbase (fun v' w' h1 h2 => h v' w' ?_ h2)
  rw [List.length_append, show iv (l ++ news) = iv l ++ iv news from by simp [iv]]
  exact h1
theorem own_rowI {w w' : World} {base : Nat} {v : Value} {l : List Int} (h : w'.ownsRow base 3 1 v l.length (iv l)) (hb : Below w.heap.size w w') : RowI w l (.returned v) w' := by
  rcases h.2 with ⟨rfl, hn⟩ | ⟨g, cap, cur, rfl, -, -, hc, -⟩
  · exact ⟨none, 0, by rw [hn], by omega, ⟨.inl (by rw [List.eq_nil_of_length_eq_zero hn]; rfl)⟩, hb⟩
  · exact ⟨_, cap, rfl, hc, Sees.of_own h, hb⟩
theorem own_slice {w : World} {base n : Nat} {v : Value} {xs : List Value} (h : w.ownsRow base 3 1 v n xs) : ∃ A c, v = .slice A n c ∧ n ≤ c := by
  rcases h.2 with ⟨rfl, hn⟩ | ⟨g, cap, cur, rfl, -, -, hc, -⟩
  · exact ⟨none, 0, by rw [hn], by omega⟩
  · exact ⟨_, cap, rfl, hc⟩
theorem iv_take (l : List Int) (k : Nat) : iv (l.take k) = (iv l).take k := by simp [iv, List.map_take]
theorem iv_drop (l : List Int) (k : Nat) : iv (l.drop k) = (iv l).drop k := by simp [iv, List.map_drop]

set_option maxRecDepth 100000 in
set_option maxHeartbeats 1600000 in
theorem Put_any (A : Option Addr) (n c : Nat) (l : List Int) (x : Int) (hn : l.length = n) (hnc : n ≤ c) (w : World) (hS : Sees w w.heap.size A (iv l)) (hlen : n ≤ 1000000000) :
    Calls Try.prog 30 #[.slice A n c, .int .i64 x] w (RowI w (putG lt l x)) := by
  obtain ⟨R, hR⟩ : ∃ R, putG lt l x = R := ⟨_, rfl⟩
  rw [hR]
  have HR := Lib.hid hR
  have HN := Lib.hid hn
  clear hn hR
  go_enter Try.func30, Try.ntmps30
  go_wp2
  go_loopg [5] n (fun g i wr => ∃ k : Nat, k + g = n ∧ i = .int .i64 k ∧ Hid (∀ j (h : j < l.length), j < k → lt l[j] x = true) ∧ wr = w)
  case atStart => exact ⟨0, by omega, rfl, fun j h h0 => absurd h0 (by omega), rfl⟩
  case round =>
    obtain ⟨k, hk, rfl, hah, rfl⟩ := hrel
    have hfin : (∀ h : k < l.length, lt l[k] x = false) → Hid (R = if l[k]? = some x then l else l.take k ++ x :: l.drop k) := fun h => by
      unfold Hid
      rw [← HR.out]
      unfold putG
      rw [cutG_eq (by have := HN.out; omega) hah.out h]
    by_cases hlt : k < n
    · obtain ⟨ad, rfl, hb, hcell⟩ := Sees.iat hS (k := k) (by have := HN.out; omega)
      have hkl : k < l.length := by have := HN.out; omega
      have hgk : l[k]? = some l[k] := List.getElem?_eq_getElem hkl
      have htk := List.take_succ_eq_append_getElem hkl
      obtain ⟨y, hy⟩ : ∃ y, l[k] = y := ⟨_, rfl⟩
      by_cases hyx : y < x
      · have hT : Hid (∀ j (h : j < l.length), j < k + 1 → lt l[j] x = true) := fun j h hj => by
          by_cases e : j = k
          · subst e; rw [hy]; simp [lt, hyx]
          · exact hah.out j h (by omega)
        rw [hy] at hcell
        clear hah hfin hgk htk hy
        go_wp2
        go_roundg (n - (k + 1))
        case measure => omega
        case rel => exact ⟨k + 1, by omega, by go_num, hT, rfl⟩
      · have hF := hfin (fun h => by rw [hy]; simp [lt, hyx])
        rw [hy] at hcell hgk
        by_cases hxy : y = x
        · have HF : Hid (R = l) := by have := hF.out; rw [hgk, hxy, if_pos rfl] at this; exact this
          have hb1 : (y == x) = true := by simpa using hxy
          clear hah hfin hgk htk hy hF hxy
          go_wp2
          go_ret
          rw [HF.out]
          exact ⟨some ad, c, by rw [HN.out]; rfl, by rw [HN.out]; exact hnc, hS, Below.refl _ _⟩
        · have HF : Hid (R = l.take k ++ x :: l.drop k) := by
            have := hF.out
            rw [hgk, if_neg (fun e => hxy (Option.some.inj e))] at this
            exact this
          have hb1 : (y == x) = false := by simpa using hxy
          have h1 := hS.take k
          rw [← iv_take] at h1
          have h2 := Sees.cut' hS k
          rw [← iv_drop] at h2
          have hlt1 : (l.take k).length = k := by rw [List.length_take]; omega
          have hld : (l.drop k).length = n - k := by rw [List.length_drop, HN.out]
          have HLT := Lib.hid hlt1
          have HLD := Lib.hid hld
          have hck : ¬ c = k := by omega
          have hkc : (k : Int) ≤ (c : Int) := by omega
          have hkn : (k : Int) ≤ (n : Int) := by omega
          have hl1 : (l.take k).length ≤ 1000000000 := by omega
          have hl2 : (l.drop k).length ≤ 1000000000 := by omega
          have HL1 := Lib.hid hl1
          have HL2 := Lib.hid hl2
          have hown0 := World.ownsRow_nil wr wr.heap.size 3 1
          clear hah hfin hgk htk hy hF hxy hlt1 hld hl1 hl2
          go_wp2_with (first
            | (at_builtin; refine wpList_append_i rfl (.tmp 34) (.tmp 37) rfl wr.heap.size (.slice none 0 0) [] (by rfl) hown0 wr.heap.size (some ad) k c (l.take k) (by rfl) HLT.out h1 (by have := HL1.out; simp; omega) (Nat.le_refl _) ?_; intro v1 w1 hown1 hon1; rw [List.nil_append] at hown1; have hb1' := hon1.below_nil; have hs1 := hb1'.size; have hsee1 : Sees (w1.alloc (.cells #[.int .i64 x] 3)) (w1.heap.size + 1) (some ⟨w1.heap.size, 0, none⟩) (iv [x]) := ⟨.inr ⟨_, rfl, by simp, fun j u hu => by match j, hu with | 0, hu => (simp [iv] at hu; subst hu; rw [Addr.add_lit, World.cell?_alloc_at _ _ _ _ rfl]; rfl)⟩⟩; have hown1' := hown1.alloc (.cells #[.int .i64 x] 3))
            | (at_builtin; refine wpList_append_i rfl (.tmp 39) (.tmp 41) rfl wr.heap.size v1 (l.take k) (by rfl) hown1' _ (some ⟨w1.heap.size, 0, none⟩) 1 1 [x] (by rfl) rfl hsee1 (by have := HL1.out; simp; omega) (by simp; omega) ?_; intro v2 w2 hown2 hon2; have hb2 : Below wr.heap.size wr w2 := hb1'.trans ((((Below.refl _ w1).alloc (Nat.le_refl _) (.cells #[.int .i64 x] 3)).mono hs1).trans (hon2.below (by simp; omega) (fun j hj => (World.ownsRow.lt hown1 j hj).1))); have hs2 := hb2.size; have hsee2 := h2.below hb2)
            | (at_builtin; refine wpList_append_i rfl (.tmp 43) (.tmp 46) rfl wr.heap.size v2 (l.take k ++ [x]) (by rfl) hown2 _ _ (n - k) (c - k) (l.drop k) (by rfl) HLD.out hsee2 (by have := HL1.out; have := HL2.out; simp only [List.length_append, List.length_singleton]; omega) hs2 ?_; intro v3 w3 hown3 hon3; have hb3 : Below wr.heap.size wr w3 := hb2.trans (hon3.below hs2 (fun j hj => (World.ownsRow.lt hown2 j hj).1))))
          go_ret
          rw [HF.out, show l.take k ++ x :: l.drop k = l.take k ++ [x] ++ l.drop k from by simp]
          exact own_rowI hown3 hb3
    · have hkn0 : k = n := by omega
      have hF := hfin (fun h => absurd h (by have := HN.out; omega))
      have HF : Hid (R = l ++ [x]) := by
        have := hF.out
        rw [List.getElem?_eq_none (by have := HN.out; omega), if_neg (by simp), List.take_of_length_le (by have := HN.out; omega), List.drop_eq_nil_of_le (by have := HN.out; omega)] at this
        exact this
      subst hkn0
      have hkc : (k : Int) ≤ (c : Int) := by omega
      have hown0 := World.ownsRow_nil wr wr.heap.size 3 1
      clear hah hfin hF
      cases A with
      | none =>
        by_cases hck : c = k
        · go_wp2_with (first
            | (at_builtin; refine wpList_append_i rfl (.tmp 34) (.tmp 37) rfl wr.heap.size (.slice none 0 0) [] (by rfl) hown0 wr.heap.size none _ _ l (by rfl) HN.out hS (by have := HN.out; simp; omega) (Nat.le_refl _) ?_; intro v1 w1 hown1 hon1; rw [List.nil_append] at hown1; have hb1' := hon1.below_nil; have hs1 := hb1'.size; have hsee1 : Sees (w1.alloc (.cells #[.int .i64 x] 3)) (w1.heap.size + 1) (some ⟨w1.heap.size, 0, none⟩) (iv [x]) := ⟨.inr ⟨_, rfl, by simp, fun j u hu => by match j, hu with | 0, hu => (simp [iv] at hu; subst hu; rw [Addr.add_lit, World.cell?_alloc_at _ _ _ _ rfl]; rfl)⟩⟩; have hown1' := hown1.alloc (.cells #[.int .i64 x] 3))
            | (at_builtin; refine wpList_append_i rfl (.tmp 39) (.tmp 41) rfl wr.heap.size v1 l (by rfl) hown1' _ (some ⟨w1.heap.size, 0, none⟩) 1 1 [x] (by rfl) rfl hsee1 (by have := HN.out; simp; omega) (by simp; omega) ?_; intro v2 w2 hown2 hon2; have hb2 : Below wr.heap.size wr w2 := hb1'.trans ((((Below.refl _ w1).alloc (Nat.le_refl _) (.cells #[.int .i64 x] 3)).mono hs1).trans (hon2.below (by simp; omega) (fun j hj => (World.ownsRow.lt hown1 j hj).1))); have hs2 := hb2.size)
            | (at_builtin; refine wpList_append_i rfl (.tmp 43) (.tmp 46) rfl wr.heap.size v2 (l ++ [x]) (by rfl) hown2 _ _ _ _ [] (by rfl) (by simp) (Sees.nil _ w2.heap.size _) (by have := HN.out; simp only [List.length_append, List.length_singleton, List.length_nil]; omega) hs2 ?_; intro v3 w3 hown3 hon3; rw [List.append_nil] at hown3; have hb3 : Below wr.heap.size wr w3 := hb2.trans (hon3.below hs2 (fun j hj => (World.ownsRow.lt hown2 j hj).1))))
          go_ret
          rw [HF.out]
          exact own_rowI hown3 hb3
        · go_wp2_with (first
            | (at_builtin; refine wpList_append_i rfl (.tmp 34) (.tmp 37) rfl wr.heap.size (.slice none 0 0) [] (by rfl) hown0 wr.heap.size none _ _ l (by rfl) HN.out hS (by have := HN.out; simp; omega) (Nat.le_refl _) ?_; intro v1 w1 hown1 hon1; rw [List.nil_append] at hown1; have hb1' := hon1.below_nil; have hs1 := hb1'.size; have hsee1 : Sees (w1.alloc (.cells #[.int .i64 x] 3)) (w1.heap.size + 1) (some ⟨w1.heap.size, 0, none⟩) (iv [x]) := ⟨.inr ⟨_, rfl, by simp, fun j u hu => by match j, hu with | 0, hu => (simp [iv] at hu; subst hu; rw [Addr.add_lit, World.cell?_alloc_at _ _ _ _ rfl]; rfl)⟩⟩; have hown1' := hown1.alloc (.cells #[.int .i64 x] 3))
            | (at_builtin; refine wpList_append_i rfl (.tmp 39) (.tmp 41) rfl wr.heap.size v1 l (by rfl) hown1' _ (some ⟨w1.heap.size, 0, none⟩) 1 1 [x] (by rfl) rfl hsee1 (by have := HN.out; simp; omega) (by simp; omega) ?_; intro v2 w2 hown2 hon2; have hb2 : Below wr.heap.size wr w2 := hb1'.trans ((((Below.refl _ w1).alloc (Nat.le_refl _) (.cells #[.int .i64 x] 3)).mono hs1).trans (hon2.below (by simp; omega) (fun j hj => (World.ownsRow.lt hown1 j hj).1))); have hs2 := hb2.size)
            | (at_builtin; refine wpList_append_i rfl (.tmp 43) (.tmp 46) rfl wr.heap.size v2 (l ++ [x]) (by rfl) hown2 _ _ _ _ [] (by rfl) (by simp) (Sees.nil _ w2.heap.size _) (by have := HN.out; simp only [List.length_append, List.length_singleton, List.length_nil]; omega) hs2 ?_; intro v3 w3 hown3 hon3; rw [List.append_nil] at hown3; have hb3 : Below wr.heap.size wr w3 := hb2.trans (hon3.below hs2 (fun j hj => (World.ownsRow.lt hown2 j hj).1))))
          go_ret
          rw [HF.out]
          exact own_rowI hown3 hb3
      | some ad =>
        by_cases hck : c = k
        · go_wp2_with (first
            | (at_builtin; refine wpList_append_i rfl (.tmp 34) (.tmp 37) rfl wr.heap.size (.slice none 0 0) [] (by rfl) hown0 wr.heap.size (some ad) _ _ l (by rfl) HN.out hS (by have := HN.out; simp; omega) (Nat.le_refl _) ?_; intro v1 w1 hown1 hon1; rw [List.nil_append] at hown1; have hb1' := hon1.below_nil; have hs1 := hb1'.size; have hsee1 : Sees (w1.alloc (.cells #[.int .i64 x] 3)) (w1.heap.size + 1) (some ⟨w1.heap.size, 0, none⟩) (iv [x]) := ⟨.inr ⟨_, rfl, by simp, fun j u hu => by match j, hu with | 0, hu => (simp [iv] at hu; subst hu; rw [Addr.add_lit, World.cell?_alloc_at _ _ _ _ rfl]; rfl)⟩⟩; have hown1' := hown1.alloc (.cells #[.int .i64 x] 3))
            | (at_builtin; refine wpList_append_i rfl (.tmp 39) (.tmp 41) rfl wr.heap.size v1 l (by rfl) hown1' _ (some ⟨w1.heap.size, 0, none⟩) 1 1 [x] (by rfl) rfl hsee1 (by have := HN.out; simp; omega) (by simp; omega) ?_; intro v2 w2 hown2 hon2; have hb2 : Below wr.heap.size wr w2 := hb1'.trans ((((Below.refl _ w1).alloc (Nat.le_refl _) (.cells #[.int .i64 x] 3)).mono hs1).trans (hon2.below (by simp; omega) (fun j hj => (World.ownsRow.lt hown1 j hj).1))); have hs2 := hb2.size)
            | (at_builtin; refine wpList_append_i rfl (.tmp 43) (.tmp 46) rfl wr.heap.size v2 (l ++ [x]) (by rfl) hown2 _ _ _ _ [] (by rfl) (by simp) (Sees.nil _ w2.heap.size _) (by have := HN.out; simp only [List.length_append, List.length_singleton, List.length_nil]; omega) hs2 ?_; intro v3 w3 hown3 hon3; rw [List.append_nil] at hown3; have hb3 : Below wr.heap.size wr w3 := hb2.trans (hon3.below hs2 (fun j hj => (World.ownsRow.lt hown2 j hj).1))))
          go_ret
          rw [HF.out]
          exact own_rowI hown3 hb3
        · go_wp2_with (first
            | (at_builtin; refine wpList_append_i rfl (.tmp 34) (.tmp 37) rfl wr.heap.size (.slice none 0 0) [] (by rfl) hown0 wr.heap.size (some ad) _ _ l (by rfl) HN.out hS (by have := HN.out; simp; omega) (Nat.le_refl _) ?_; intro v1 w1 hown1 hon1; rw [List.nil_append] at hown1; have hb1' := hon1.below_nil; have hs1 := hb1'.size; have hsee1 : Sees (w1.alloc (.cells #[.int .i64 x] 3)) (w1.heap.size + 1) (some ⟨w1.heap.size, 0, none⟩) (iv [x]) := ⟨.inr ⟨_, rfl, by simp, fun j u hu => by match j, hu with | 0, hu => (simp [iv] at hu; subst hu; rw [Addr.add_lit, World.cell?_alloc_at _ _ _ _ rfl]; rfl)⟩⟩; have hown1' := hown1.alloc (.cells #[.int .i64 x] 3))
            | (at_builtin; refine wpList_append_i rfl (.tmp 39) (.tmp 41) rfl wr.heap.size v1 l (by rfl) hown1' _ (some ⟨w1.heap.size, 0, none⟩) 1 1 [x] (by rfl) rfl hsee1 (by have := HN.out; simp; omega) (by simp; omega) ?_; intro v2 w2 hown2 hon2; have hb2 : Below wr.heap.size wr w2 := hb1'.trans ((((Below.refl _ w1).alloc (Nat.le_refl _) (.cells #[.int .i64 x] 3)).mono hs1).trans (hon2.below (by simp; omega) (fun j hj => (World.ownsRow.lt hown1 j hj).1))); have hs2 := hb2.size)
            | (at_builtin; refine wpList_append_i rfl (.tmp 43) (.tmp 46) rfl wr.heap.size v2 (l ++ [x]) (by rfl) hown2 _ _ _ _ [] (by rfl) (by simp) (Sees.nil _ w2.heap.size _) (by have := HN.out; simp only [List.length_append, List.length_singleton, List.length_nil]; omega) hs2 ?_; intro v3 w3 hown3 hon3; rw [List.append_nil] at hown3; have hb3 : Below wr.heap.size wr w3 := hb2.trans (hon3.below hs2 (fun j hj => (World.ownsRow.lt hown2 j hj).1))))
          go_ret
          rw [HF.out]
          exact own_rowI hown3 hb3
end Go.Proofs.Ytcfbblgoligagaa.KI
