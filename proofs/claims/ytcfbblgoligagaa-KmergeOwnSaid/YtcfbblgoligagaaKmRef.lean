/-
  Several texts in one: KmRefP KmRefI KmPutI KmRefInts KmRefMeet KmLess KmPileI KmMeet KmLaw0.
-/
import Derived.Test.YtcfbblgoligagaaKmPlain
import Derived.Test.YtcfbblgoligagaaKmInts
import Derived.Shelf.SlicesE.DeleteFunc
import Derived.Shelf.Slices.SearchI
import Derived.Shelf.Slices.Empties
import Derived.Lib.OwnBridge
import Derived.Test.YtcfbblgoligagaaKmSeqI
import Derived.Test.YtcfbblgoligagaaKmIntsP
/-
  One more, again and again: plain lists.
-/
namespace Go.Proofs.Ytcfbblgoligagaa
section
variable {κ : Type} [DecidableEq κ] {lt : κ → κ → Bool}
/-- How many of the first are ahead of x, till one isn't. -/
def cutG (lt : κ → κ → Bool) (x : κ) : List κ → Nat
  | a :: t => if lt a x = true then cutG lt x t + 1 else 0
  | [] => 0
/-- A rising row with one more, once. -/
def putG (lt : κ → κ → Bool) (l : List κ) (x : κ) : List κ := if l[cutG lt x l]? = some x then l else l.take (cutG lt x l) ++ x :: l.drop (cutG lt x l)
omit [DecidableEq κ] in
theorem cutG_eq {x : κ} : ∀ {l : List κ} {k : Nat}, k ≤ l.length → (∀ j (h : j < l.length), j < k → lt l[j] x = true) → (∀ h : k < l.length, lt l[k] x = false) → cutG lt x l = k
  | [], k, h, _, _ => by have : k = 0 := by simpa using h
                         subst this; rfl
  | a :: t, 0, _, _, h2 => by
    have := h2 (by simp)
    simp only [List.getElem_cons_zero] at this
    simp [cutG, this]
  | a :: t, k + 1, h, h1, h2 => by
    have h0 := h1 0 (by simp) (by omega)
    simp only [List.getElem_cons_zero] at h0
    have ih := cutG_eq (l := t) (k := k) (by simpa using h) (fun j hj hjk => by have := h1 (j + 1) (by simpa using hj) (by omega); simpa using this) (fun hk => by have := h2 (by simpa using hk); simpa using this)
    simp [cutG, h0, ih]
theorem putG_cons (x a : κ) (t : List κ) : putG lt (a :: t) x = if lt a x = true then a :: putG lt t x else if a = x then a :: t else x :: a :: t := by
  by_cases ha : lt a x = true
  · have e : cutG lt x (a :: t) = cutG lt x t + 1 := by show (if _ then _ else _) = _; rw [if_pos ha]
    rw [if_pos ha]
    unfold putG
    rw [e, List.getElem?_cons_succ, List.take_succ_cons, List.drop_succ_cons]
    split <;> simp
  · have e : cutG lt x (a :: t) = 0 := by show (if _ then _ else _) = _; rw [if_neg ha]
    rw [if_neg ha]
    unfold putG
    rw [e]
    simp
theorem putG_mem (x : κ) : ∀ (l : List κ) (y : κ), y ∈ putG lt l x ↔ y = x ∨ y ∈ l
  | [], y => by simp [putG, cutG]
  | a :: t, y => by
    rw [putG_cons]
    split
    · rw [List.mem_cons, putG_mem x t y, List.mem_cons]
      constructor <;> (rintro (h | h | h) <;> simp [h])
    · split
      · rename_i h; subst h; simp
      · simp
theorem putG_ri (h : Ordr lt) (x : κ) : ∀ {l : List κ}, Ri lt l → Ri lt (putG lt l x)
  | [], _ => by simp [putG, cutG, Ri]
  | a :: t, hr => by
    have hr' := List.pairwise_cons.1 hr
    rw [putG_cons]
    split
    · rename_i ha
      refine List.pairwise_cons.2 ⟨fun y hy => ?_, putG_ri h x hr'.2⟩
      rcases (putG_mem x t y).1 hy with rfl | hy
      · exact ha
      · exact hr'.1 y hy
    · rename_i ha
      split
      · exact hr
      · rename_i hne
        have hxa : lt x a = true := by
          cases h2 : lt x a with
          | true => rfl
          | false => exact absurd (h.tri _ _ (by simpa using ha) h2) hne
        refine List.pairwise_cons.2 ⟨fun y hy => ?_, hr⟩
        rcases List.mem_cons.1 hy with rfl | hy
        · exact hxa
        · exact h.trans _ _ _ hxa (hr'.1 y hy)
theorem putG_len (x : κ) (l : List κ) : (putG lt l x).length ≤ l.length + 1 := by
  unfold putG
  split
  · omega
  · simp; omega
theorem fold_putG (h : Ordr lt) : ∀ (l out : List κ), Ri lt out → Ri lt (l.foldl (putG lt) out) ∧ ∀ y, y ∈ l.foldl (putG lt) out ↔ y ∈ out ∨ y ∈ l
  | [], out, hr => ⟨hr, fun y => by simp⟩
  | x :: t, out, hr => by
    obtain ⟨h1, h2⟩ := fold_putG h t (putG lt out x) (putG_ri h x hr)
    refine ⟨h1, fun y => ?_⟩
    rw [List.foldl_cons, h2, putG_mem, List.mem_cons]
    constructor <;> (rintro (g | g) <;> first | (rcases g with g | g <;> simp [g]) | simp [g])
theorem putG_all (h : Ordr lt) (l : List κ) : l.foldl (putG lt) [] = uniqL lt l := by
  obtain ⟨h1, h2⟩ := fold_putG h l [] List.Pairwise.nil
  exact (uniqL_of h h1 fun x => by rw [h2]; simp).symm
theorem fold_len (l : List κ) : ∀ out : List κ, (l.foldl (putG lt) out).length ≤ out.length + l.length := by
  induction l with
  | nil => intro out; simp
  | cons x t ih => intro out; have := ih (putG lt out x); have := putG_len (lt := lt) x out; simp only [List.foldl_cons, List.length_cons]; omega
end
end Go.Proofs.Ytcfbblgoligagaa

/-
  The document's In, Put, Ints, Same of rows of numbers, walked.
-/
namespace Go.Proofs.Ytcfbblgoligagaa.KI
open Go.RowKit

/-- The cells of a row of numbers. -/
def iv (l : List Int) : List Value := l.map (.int .i64)
theorem iv_length (l : List Int) : (iv l).length = l.length := by simp [iv]
theorem iv_at {l : List Int} {j : Nat} (h : j < l.length) : (iv l)[j]? = some (.int .i64 l[j]) := by simp [iv, h]
theorem iv_one {l : List Int} : ∀ u ∈ iv l, u.oneCell' = true := by
  intro u hu
  simp only [iv, List.mem_map] at hu
  obtain ⟨b, _, rfl⟩ := hu
  rfl
theorem Sees.iat {w : World} {B : Nat} {A : Option Addr} {l : List Int} (h : Sees w B A (iv l)) {k : Nat} (hk : k < l.length) : ∃ ad, A = some ad ∧ ad.block < B ∧ w.cell? (ad.add k) = some (.int .i64 l[k]) := by
  obtain ⟨ad, e, hb, hc⟩ := h.at_ (k := k) (by rw [iv_length]; exact hk)
  exact ⟨ad, e, hb, by rw [hc]; simp [iv]⟩
/-- A row of numbers, somewhere. -/
def RowI (w : World) (l : List Int) (e : Ending) (w' : World) : Prop := ∃ A c, e = .returned (.slice A l.length c) ∧ l.length ≤ c ∧ Sees w' w'.heap.size A (iv l) ∧ Below w.heap.size w w'
theorem RowVal.rowI {w w' : World} {l : List Int} {e : Ending} (h : RowVal w l e w') : RowI w l e w' := by
  obtain ⟨v, rfl, h1, h2⟩ := h
  rcases h1.2 with ⟨rfl, hn⟩ | ⟨g, cap, cur, rfl, -, -, hc, -⟩
  · exact ⟨none, 0, by rw [hn], by omega, ⟨.inl (by rw [List.eq_nil_of_length_eq_zero hn]; rfl)⟩, h2⟩
  · exact ⟨_, cap, rfl, hc, Sees.of_own h1, h2⟩

set_option maxRecDepth 100000 in
set_option maxHeartbeats 400000 in
theorem In_any (A : Option Addr) (n c : Nat) (l : List Int) (x : Int) (hn : l.length = n) (w : World) (hS : Sees w w.heap.size A (iv l)) (hlen : n ≤ 1099511627776) :
    Calls Try.prog 23 #[.slice A n c, .int .i64 x] w fun e w' => e = .returned (.bool (decide (x ∈ l))) ∧ w = w' := by
  obtain ⟨X, hX⟩ : ∃ X, decide (x ∈ l) = X := ⟨_, rfl⟩
  rw [hX]
  have HX := Lib.hid hX
  have HN := Lib.hid hn
  clear hn hX
  go_enter Try.func23, Try.ntmps23
  go_wp2
  go_loopg [5] n (fun g i wr => ∃ k : Nat, k + g = n ∧ i = .int .i64 k ∧ Hid (decide (x ∈ l.drop k) = X) ∧ wr = w)
  case atStart => exact ⟨0, by omega, rfl, HX.out, rfl⟩
  case round =>
    obtain ⟨k, hk, rfl, heq, rfl⟩ := hrel
    by_cases hlt : k < n
    · obtain ⟨ad, rfl, hb, hcell⟩ := Sees.iat hS (k := k) (by have := HN.out; omega)
      have hd := List.drop_eq_getElem_cons (l := l) (i := k) (by have := HN.out; omega)
      obtain ⟨y, hy⟩ : ∃ y, l[k]'(by have := HN.out; omega) = y := ⟨_, rfl⟩
      rw [hy] at hcell hd
      have HD := Lib.hid hd
      clear hd hy
      by_cases hxy : y = x
      · have hF : Hid (X = true) := by unfold Hid; rw [← heq.out, HD.out, hxy]; simp
        have hb1 : (y == x) = true := by simpa using hxy
        clear heq HD hxy
        go_wp2
        go_ret
        rw [hF.out]
        exact ⟨rfl, rfl⟩
      · have hT : Hid (decide (x ∈ l.drop (k + 1)) = X) := by unfold Hid; rw [← heq.out, HD.out]; have hne : ¬ x = y := fun e => hxy e.symm; simp [hne]
        have hb1 : (y == x) = false := by simpa using hxy
        clear heq HD hxy
        go_wp2
        go_roundg (n - (k + 1))
        case measure => omega
        case rel => exact ⟨k + 1, by omega, by go_num, hT, rfl⟩
    · have HF : Hid (X = false) := by unfold Hid; rw [← heq.out, List.drop_eq_nil_of_le (by have := HN.out; omega)]; simp
      clear heq
      go_wp2
      go_ret
      rw [HF.out]
      exact ⟨rfl, rfl⟩

set_option maxRecDepth 100000 in
set_option maxHeartbeats 400000 in
theorem SameI_any (A B : Option Addr) (n c m d : Nat) (l r : List Int) (hn : l.length = n) (hm : r.length = m) (w : World) (hS : Sees w w.heap.size A (iv l)) (hS2 : Sees w w.heap.size B (iv r)) (hlen : n ≤ 1099511627776) :
    Calls Try.prog 15 #[.slice A n c, .slice B m d] w (BoolIs w (l == r)) := by
  obtain ⟨X, hX⟩ : ∃ X, (l == r) = X := ⟨_, rfl⟩
  rw [hX]
  have HX := Lib.hid hX
  have HN := Lib.hid hn
  have HM := Lib.hid hm
  by_cases hnm : n = m
  · subst hnm
    clear hn hm hX
    go_enter Try.func15, Try.ntmps15
    go_wp2
    go_loopg [5] n (fun g i wr => ∃ k : Nat, k + g = n ∧ i = .int .i64 k ∧ Hid (X = (l.drop k == r.drop k)) ∧ ∃ q, wr = w.drewN q)
    case atStart => exact ⟨0, by omega, rfl, HX.out.symm, 0, rfl⟩
    case round =>
      obtain ⟨k, hk, rfl, heq, q, rfl⟩ := hrel
      by_cases hlt : k < n
      · obtain ⟨ad, rfl, hb, hcell⟩ := Sees.iat hS (k := k) (by have := HN.out; omega)
        obtain ⟨ad2, rfl, hb2, hcell2⟩ := Sees.iat hS2 (k := k) (by have := HM.out; omega)
        have hstep : Hid (X = (l[k]'(by have := HN.out; omega) == r[k]'(by have := HM.out; omega) && (l.drop (k + 1) == r.drop (k + 1)))) := by
          have := heq.out
          rw [List.drop_eq_getElem_cons (l := l) (by have := HN.out; omega), List.drop_eq_getElem_cons (l := r) (by have := HM.out; omega)] at this
          exact this
        generalize l[k]'(by have := HN.out; omega) = x at hcell hstep
        generalize r[k]'(by have := HM.out; omega) = y at hcell2 hstep
        clear heq
        by_cases hxy : x = y
        · have hb1 : (x != y) = false := by simpa using hxy
          have hT : Hid (X = (l.drop (k + 1) == r.drop (k + 1))) := by have := hstep.out; rw [hxy, beq_self_eq_true, Bool.true_and] at this; exact this
          clear hstep hxy
          go_wp2
          go_quiet (fail)
          go_wp2
          go_roundg (n - (k + 1))
          case measure => omega
          case rel => exact ⟨k + 1, by omega, by go_num, hT, _, rfl⟩
        · have hb1 : (x != y) = true := by simpa using hxy
          have HF : Hid (X = false) := by have := hstep.out; rw [beq_eq_false_iff_ne.2 hxy, Bool.false_and] at this; exact this
          clear hstep hxy
          go_wp2
          go_quiet (fail)
          go_wp2
          go_ret
          unfold BoolIs
          rw [HF.out]
          exact ⟨rfl, _, World.drewN_drewN _ _ _⟩
      · have HF : Hid (X = true) := by have := heq.out; rw [List.drop_eq_nil_of_le (by have := HN.out; omega), List.drop_eq_nil_of_le (by have := HM.out; omega)] at this; exact this
        clear heq
        go_wp2
        go_ret
        unfold BoolIs
        rw [HF.out]
        exact ⟨rfl, q, rfl⟩
  · have hl2 : ((n : Int) != (m : Int)) = true := by rw [bne_iff_ne]; omega
    have HF : Hid (X = false) := by
      unfold Hid
      rw [← hX, beq_eq_false_iff_ne]
      rintro rfl
      exact hnm (hn.symm.trans hm)
    clear hnm hn hm hX
    go_enter Try.func15, Try.ntmps15
    go_wp2
    go_ret
    unfold BoolIs
    rw [HF.out]
    exact ⟨rfl, 0, rfl⟩
end Go.Proofs.Ytcfbblgoligagaa.KI

/-
  The document's Put and Ints of rows of numbers, walked.
-/
namespace Go.Proofs.Ytcfbblgoligagaa.KI
open Go.RowKit

/-- append of numbers that are seen onto a row of the call's own, at an operation of a plain statement. -/
theorem wpList_append_i {w : World} {ops : Array Oper} {rest : List Oper} {o : Oper} {a : Act} {Q : Exit → Act → World → Prop} (hgd : o.guard = none) (s x : Operand)
    (ho : o.op = .call { callee := .builtin .append, args := #[s, x], argTypes := #[30, 30] })
    (base : Nat) (v : Value) (l : List Int) (hs : a.eval s = v) (hown : w.ownsRow base 3 1 v l.length (iv l)) (B : Nat) (A : Option Addr) (m c : Nat) (news : List Int) (hx : a.eval x = .slice A m c) (hm : news.length = m) (hsee : Sees w B A (iv news))
    (hlen : l.length + news.length ≤ 1099511627776) (hbase : base ≤ w.heap.size)
    (h : ∀ v' w', w'.ownsRow base 3 1 v' (l ++ news).length (iv (l ++ news)) → Onto w w' v v' → wpList Try.prog ops Q rest (a.put o.dst v') w') : wpList Try.prog ops Q (o :: rest) a w := by
  obtain ⟨ti, hi, hy0, hy1, hy2⟩ := info_parts iinfo
  subst hm
  refine wpList_append_v hgd s x 30 ho 3 ti _ 1 8 Try.underlying30 hi hy0 hy1 hy2 rfl (by omega) base v l.length (iv l) hs hown B A news.length c (iv news) hx (by rw [iv_length, Nat.mul_one]) hsee iv_one (by simp only [maxLen]; omega) (by omega) hbase (fun v' w' h1 h2 => h v' w' ?_ h2)
  rw [List.length_append, show iv (l ++ news) = iv l ++ iv news from by simp [iv]]
  exact h1
theorem own_rowI {w w' : World} {base : Nat} {v : Value} {l : List Int} (h : w'.ownsRow base 3 1 v l.length (iv l)) (hb : Below w.heap.size w w') : RowI w l (.returned v) w' := by
  rcases h.2 with ⟨rfl, hn⟩ | ⟨g, cap, cur, rfl, -, -, hc, -⟩
  · exact ⟨none, 0, by rw [hn], by omega, ⟨.inl (by rw [List.eq_nil_of_length_eq_zero hn]; rfl)⟩, hb⟩
  · exact ⟨_, cap, rfl, hc, Sees.of_own h, hb⟩
theorem own_slice {w : World} {base n : Nat} {v : Value} {xs : List Value} (h : w.ownsRow base 3 1 v n xs) : ∃ A c, v = .slice A n c ∧ n ≤ c := by
  rcases h.2 with ⟨rfl, hn⟩ | ⟨g, cap, cur, rfl, -, -, hc, -⟩
  · exact ⟨none, 0, by rw [hn], by omega⟩
  · exact ⟨_, cap, rfl, hc⟩
theorem iv_take (l : List Int) (k : Nat) : iv (l.take k) = (iv l).take k := by simp [iv, List.map_take]
theorem iv_drop (l : List Int) (k : Nat) : iv (l.drop k) = (iv l).drop k := by simp [iv, List.map_drop]

set_option maxRecDepth 100000 in
set_option maxHeartbeats 1600000 in
theorem Put_any (A : Option Addr) (n c : Nat) (l : List Int) (x : Int) (hn : l.length = n) (hnc : n ≤ c) (w : World) (hS : Sees w w.heap.size A (iv l)) (hlen : n ≤ 1000000000) :
    Calls Try.prog 30 #[.slice A n c, .int .i64 x] w (RowI w (putG lt l x)) := by
  obtain ⟨R, hR⟩ : ∃ R, putG lt l x = R := ⟨_, rfl⟩
  rw [hR]
  have HR := Lib.hid hR
  have HN := Lib.hid hn
  clear hn hR
  go_enter Try.func30, Try.ntmps30
  go_wp2
  go_loopg [5] n (fun g i wr => ∃ k : Nat, k + g = n ∧ i = .int .i64 k ∧ Hid (∀ j (h : j < l.length), j < k → lt l[j] x = true) ∧ wr = w)
  case atStart => exact ⟨0, by omega, rfl, fun j h h0 => absurd h0 (by omega), rfl⟩
  case round =>
    obtain ⟨k, hk, rfl, hah, rfl⟩ := hrel
    have hfin : (∀ h : k < l.length, lt l[k] x = false) → Hid (R = if l[k]? = some x then l else l.take k ++ x :: l.drop k) := fun h => by
      unfold Hid
      rw [← HR.out]
      unfold putG
      rw [cutG_eq (by have := HN.out; omega) hah.out h]
    by_cases hlt : k < n
    · obtain ⟨ad, rfl, hb, hcell⟩ := Sees.iat hS (k := k) (by have := HN.out; omega)
      have hkl : k < l.length := by have := HN.out; omega
      have hgk : l[k]? = some l[k] := List.getElem?_eq_getElem hkl
      have htk := List.take_succ_eq_append_getElem hkl
      obtain ⟨y, hy⟩ : ∃ y, l[k] = y := ⟨_, rfl⟩
      by_cases hyx : y < x
      · have hT : Hid (∀ j (h : j < l.length), j < k + 1 → lt l[j] x = true) := fun j h hj => by
          by_cases e : j = k
          · subst e; rw [hy]; simp [lt, hyx]
          · exact hah.out j h (by omega)
        rw [hy] at hcell
        clear hah hfin hgk htk hy
        go_wp2
        go_roundg (n - (k + 1))
        case measure => omega
        case rel => exact ⟨k + 1, by omega, by go_num, hT, rfl⟩
      · have hF := hfin (fun h => by rw [hy]; simp [lt, hyx])
        rw [hy] at hcell hgk
        by_cases hxy : y = x
        · have HF : Hid (R = l) := by have := hF.out; rw [hgk, hxy, if_pos rfl] at this; exact this
          have hb1 : (y == x) = true := by simpa using hxy
          clear hah hfin hgk htk hy hF hxy
          go_wp2
          go_ret
          rw [HF.out]
          exact ⟨some ad, c, by rw [HN.out]; rfl, by rw [HN.out]; exact hnc, hS, Below.refl _ _⟩
        · have HF : Hid (R = l.take k ++ x :: l.drop k) := by
            have := hF.out
            rw [hgk, if_neg (fun e => hxy (Option.some.inj e))] at this
            exact this
          have hb1 : (y == x) = false := by simpa using hxy
          have h1 := hS.take k
          rw [← iv_take] at h1
          have h2 := Sees.cut' hS k
          rw [← iv_drop] at h2
          have hlt1 : (l.take k).length = k := by rw [List.length_take]; omega
          have hld : (l.drop k).length = n - k := by rw [List.length_drop, HN.out]
          have HLT := Lib.hid hlt1
          have HLD := Lib.hid hld
          have hck : ¬ c = k := by omega
          have hkc : (k : Int) ≤ (c : Int) := by omega
          have hkn : (k : Int) ≤ (n : Int) := by omega
          have hl1 : (l.take k).length ≤ 1000000000 := by omega
          have hl2 : (l.drop k).length ≤ 1000000000 := by omega
          have HL1 := Lib.hid hl1
          have HL2 := Lib.hid hl2
          have hown0 := World.ownsRow_nil wr wr.heap.size 3 1
          clear hah hfin hgk htk hy hF hxy hlt1 hld hl1 hl2
          go_wp2_with (first
            | (at_builtin; refine wpList_append_i rfl (.tmp 34) (.tmp 37) rfl wr.heap.size (.slice none 0 0) [] (by rfl) hown0 wr.heap.size (some ad) k c (l.take k) (by rfl) HLT.out h1 (by have := HL1.out; simp; omega) (Nat.le_refl _) ?_; intro v1 w1 hown1 hon1; rw [List.nil_append] at hown1; have hb1' := hon1.below_nil; have hs1 := hb1'.size; have hsee1 : Sees (w1.alloc (.cells #[.int .i64 x] 3)) (w1.heap.size + 1) (some ⟨w1.heap.size, 0, none⟩) (iv [x]) := ⟨.inr ⟨_, rfl, by simp, fun j u hu => by match j, hu with | 0, hu => (simp [iv] at hu; subst hu; rw [Addr.add_lit, World.cell?_alloc_at _ _ _ _ rfl]; rfl)⟩⟩; have hown1' := hown1.alloc (.cells #[.int .i64 x] 3))
            | (at_builtin; refine wpList_append_i rfl (.tmp 39) (.tmp 41) rfl wr.heap.size v1 (l.take k) (by rfl) hown1' _ (some ⟨w1.heap.size, 0, none⟩) 1 1 [x] (by rfl) rfl hsee1 (by have := HL1.out; simp; omega) (by simp; omega) ?_; intro v2 w2 hown2 hon2; have hb2 : Below wr.heap.size wr w2 := hb1'.trans ((((Below.refl _ w1).alloc (Nat.le_refl _) (.cells #[.int .i64 x] 3)).mono hs1).trans (hon2.below (by simp; omega) (fun j hj => (World.ownsRow.lt hown1 j hj).1))); have hs2 := hb2.size; have hsee2 := h2.below hb2)
            | (at_builtin; refine wpList_append_i rfl (.tmp 43) (.tmp 46) rfl wr.heap.size v2 (l.take k ++ [x]) (by rfl) hown2 _ _ (n - k) (c - k) (l.drop k) (by rfl) HLD.out hsee2 (by have := HL1.out; have := HL2.out; simp only [List.length_append, List.length_singleton]; omega) hs2 ?_; intro v3 w3 hown3 hon3; have hb3 : Below wr.heap.size wr w3 := hb2.trans (hon3.below hs2 (fun j hj => (World.ownsRow.lt hown2 j hj).1))))
          go_ret
          rw [HF.out, show l.take k ++ x :: l.drop k = l.take k ++ [x] ++ l.drop k from by simp]
          exact own_rowI hown3 hb3
    · have hkn0 : k = n := by omega
      have hF := hfin (fun h => absurd h (by have := HN.out; omega))
      have HF : Hid (R = l ++ [x]) := by
        have := hF.out
        rw [List.getElem?_eq_none (by have := HN.out; omega), if_neg (by simp), List.take_of_length_le (by have := HN.out; omega), List.drop_eq_nil_of_le (by have := HN.out; omega)] at this
        exact this
      subst hkn0
      have hkc : (k : Int) ≤ (c : Int) := by omega
      have hown0 := World.ownsRow_nil wr wr.heap.size 3 1
      clear hah hfin hF
      cases A with
      | none =>
        by_cases hck : c = k
        · go_wp2_with (first
            | (at_builtin; refine wpList_append_i rfl (.tmp 34) (.tmp 37) rfl wr.heap.size (.slice none 0 0) [] (by rfl) hown0 wr.heap.size none _ _ l (by rfl) HN.out hS (by have := HN.out; simp; omega) (Nat.le_refl _) ?_; intro v1 w1 hown1 hon1; rw [List.nil_append] at hown1; have hb1' := hon1.below_nil; have hs1 := hb1'.size; have hsee1 : Sees (w1.alloc (.cells #[.int .i64 x] 3)) (w1.heap.size + 1) (some ⟨w1.heap.size, 0, none⟩) (iv [x]) := ⟨.inr ⟨_, rfl, by simp, fun j u hu => by match j, hu with | 0, hu => (simp [iv] at hu; subst hu; rw [Addr.add_lit, World.cell?_alloc_at _ _ _ _ rfl]; rfl)⟩⟩; have hown1' := hown1.alloc (.cells #[.int .i64 x] 3))
            | (at_builtin; refine wpList_append_i rfl (.tmp 39) (.tmp 41) rfl wr.heap.size v1 l (by rfl) hown1' _ (some ⟨w1.heap.size, 0, none⟩) 1 1 [x] (by rfl) rfl hsee1 (by have := HN.out; simp; omega) (by simp; omega) ?_; intro v2 w2 hown2 hon2; have hb2 : Below wr.heap.size wr w2 := hb1'.trans ((((Below.refl _ w1).alloc (Nat.le_refl _) (.cells #[.int .i64 x] 3)).mono hs1).trans (hon2.below (by simp; omega) (fun j hj => (World.ownsRow.lt hown1 j hj).1))); have hs2 := hb2.size)
            | (at_builtin; refine wpList_append_i rfl (.tmp 43) (.tmp 46) rfl wr.heap.size v2 (l ++ [x]) (by rfl) hown2 _ _ _ _ [] (by rfl) (by simp) (Sees.nil _ w2.heap.size _) (by have := HN.out; simp only [List.length_append, List.length_singleton, List.length_nil]; omega) hs2 ?_; intro v3 w3 hown3 hon3; rw [List.append_nil] at hown3; have hb3 : Below wr.heap.size wr w3 := hb2.trans (hon3.below hs2 (fun j hj => (World.ownsRow.lt hown2 j hj).1))))
          go_ret
          rw [HF.out]
          exact own_rowI hown3 hb3
        · go_wp2_with (first
            | (at_builtin; refine wpList_append_i rfl (.tmp 34) (.tmp 37) rfl wr.heap.size (.slice none 0 0) [] (by rfl) hown0 wr.heap.size none _ _ l (by rfl) HN.out hS (by have := HN.out; simp; omega) (Nat.le_refl _) ?_; intro v1 w1 hown1 hon1; rw [List.nil_append] at hown1; have hb1' := hon1.below_nil; have hs1 := hb1'.size; have hsee1 : Sees (w1.alloc (.cells #[.int .i64 x] 3)) (w1.heap.size + 1) (some ⟨w1.heap.size, 0, none⟩) (iv [x]) := ⟨.inr ⟨_, rfl, by simp, fun j u hu => by match j, hu with | 0, hu => (simp [iv] at hu; subst hu; rw [Addr.add_lit, World.cell?_alloc_at _ _ _ _ rfl]; rfl)⟩⟩; have hown1' := hown1.alloc (.cells #[.int .i64 x] 3))
            | (at_builtin; refine wpList_append_i rfl (.tmp 39) (.tmp 41) rfl wr.heap.size v1 l (by rfl) hown1' _ (some ⟨w1.heap.size, 0, none⟩) 1 1 [x] (by rfl) rfl hsee1 (by have := HN.out; simp; omega) (by simp; omega) ?_; intro v2 w2 hown2 hon2; have hb2 : Below wr.heap.size wr w2 := hb1'.trans ((((Below.refl _ w1).alloc (Nat.le_refl _) (.cells #[.int .i64 x] 3)).mono hs1).trans (hon2.below (by simp; omega) (fun j hj => (World.ownsRow.lt hown1 j hj).1))); have hs2 := hb2.size)
            | (at_builtin; refine wpList_append_i rfl (.tmp 43) (.tmp 46) rfl wr.heap.size v2 (l ++ [x]) (by rfl) hown2 _ _ _ _ [] (by rfl) (by simp) (Sees.nil _ w2.heap.size _) (by have := HN.out; simp only [List.length_append, List.length_singleton, List.length_nil]; omega) hs2 ?_; intro v3 w3 hown3 hon3; rw [List.append_nil] at hown3; have hb3 : Below wr.heap.size wr w3 := hb2.trans (hon3.below hs2 (fun j hj => (World.ownsRow.lt hown2 j hj).1))))
          go_ret
          rw [HF.out]
          exact own_rowI hown3 hb3
      | some ad =>
        by_cases hck : c = k
        · go_wp2_with (first
            | (at_builtin; refine wpList_append_i rfl (.tmp 34) (.tmp 37) rfl wr.heap.size (.slice none 0 0) [] (by rfl) hown0 wr.heap.size (some ad) _ _ l (by rfl) HN.out hS (by have := HN.out; simp; omega) (Nat.le_refl _) ?_; intro v1 w1 hown1 hon1; rw [List.nil_append] at hown1; have hb1' := hon1.below_nil; have hs1 := hb1'.size; have hsee1 : Sees (w1.alloc (.cells #[.int .i64 x] 3)) (w1.heap.size + 1) (some ⟨w1.heap.size, 0, none⟩) (iv [x]) := ⟨.inr ⟨_, rfl, by simp, fun j u hu => by match j, hu with | 0, hu => (simp [iv] at hu; subst hu; rw [Addr.add_lit, World.cell?_alloc_at _ _ _ _ rfl]; rfl)⟩⟩; have hown1' := hown1.alloc (.cells #[.int .i64 x] 3))
            | (at_builtin; refine wpList_append_i rfl (.tmp 39) (.tmp 41) rfl wr.heap.size v1 l (by rfl) hown1' _ (some ⟨w1.heap.size, 0, none⟩) 1 1 [x] (by rfl) rfl hsee1 (by have := HN.out; simp; omega) (by simp; omega) ?_; intro v2 w2 hown2 hon2; have hb2 : Below wr.heap.size wr w2 := hb1'.trans ((((Below.refl _ w1).alloc (Nat.le_refl _) (.cells #[.int .i64 x] 3)).mono hs1).trans (hon2.below (by simp; omega) (fun j hj => (World.ownsRow.lt hown1 j hj).1))); have hs2 := hb2.size)
            | (at_builtin; refine wpList_append_i rfl (.tmp 43) (.tmp 46) rfl wr.heap.size v2 (l ++ [x]) (by rfl) hown2 _ _ _ _ [] (by rfl) (by simp) (Sees.nil _ w2.heap.size _) (by have := HN.out; simp only [List.length_append, List.length_singleton, List.length_nil]; omega) hs2 ?_; intro v3 w3 hown3 hon3; rw [List.append_nil] at hown3; have hb3 : Below wr.heap.size wr w3 := hb2.trans (hon3.below hs2 (fun j hj => (World.ownsRow.lt hown2 j hj).1))))
          go_ret
          rw [HF.out]
          exact own_rowI hown3 hb3
        · go_wp2_with (first
            | (at_builtin; refine wpList_append_i rfl (.tmp 34) (.tmp 37) rfl wr.heap.size (.slice none 0 0) [] (by rfl) hown0 wr.heap.size (some ad) _ _ l (by rfl) HN.out hS (by have := HN.out; simp; omega) (Nat.le_refl _) ?_; intro v1 w1 hown1 hon1; rw [List.nil_append] at hown1; have hb1' := hon1.below_nil; have hs1 := hb1'.size; have hsee1 : Sees (w1.alloc (.cells #[.int .i64 x] 3)) (w1.heap.size + 1) (some ⟨w1.heap.size, 0, none⟩) (iv [x]) := ⟨.inr ⟨_, rfl, by simp, fun j u hu => by match j, hu with | 0, hu => (simp [iv] at hu; subst hu; rw [Addr.add_lit, World.cell?_alloc_at _ _ _ _ rfl]; rfl)⟩⟩; have hown1' := hown1.alloc (.cells #[.int .i64 x] 3))
            | (at_builtin; refine wpList_append_i rfl (.tmp 39) (.tmp 41) rfl wr.heap.size v1 l (by rfl) hown1' _ (some ⟨w1.heap.size, 0, none⟩) 1 1 [x] (by rfl) rfl hsee1 (by have := HN.out; simp; omega) (by simp; omega) ?_; intro v2 w2 hown2 hon2; have hb2 : Below wr.heap.size wr w2 := hb1'.trans ((((Below.refl _ w1).alloc (Nat.le_refl _) (.cells #[.int .i64 x] 3)).mono hs1).trans (hon2.below (by simp; omega) (fun j hj => (World.ownsRow.lt hown1 j hj).1))); have hs2 := hb2.size)
            | (at_builtin; refine wpList_append_i rfl (.tmp 43) (.tmp 46) rfl wr.heap.size v2 (l ++ [x]) (by rfl) hown2 _ _ _ _ [] (by rfl) (by simp) (Sees.nil _ w2.heap.size _) (by have := HN.out; simp only [List.length_append, List.length_singleton, List.length_nil]; omega) hs2 ?_; intro v3 w3 hown3 hon3; rw [List.append_nil] at hown3; have hb3 : Below wr.heap.size wr w3 := hb2.trans (hon3.below hs2 (fun j hj => (World.ownsRow.lt hown2 j hj).1))))
          go_ret
          rw [HF.out]
          exact own_rowI hown3 hb3
end Go.Proofs.Ytcfbblgoligagaa.KI

/-
  The document's Ints of rows of numbers, walked.
-/
namespace Go.Proofs.Ytcfbblgoligagaa.KI
open Go.RowKit

theorem RowsIn.iat {m : Nat → Prop} {w : World} {A : Option Addr} {ll : List (List El)} (h : RowsIn m w A ll) {k : Nat} (hk : k < ll.length) : ∃ ad Ak ck, A = some ad ∧ m ad.block ∧ w.cell? (ad.add k) = some (.slice Ak (ll[k]).length ck) ∧ (ll[k]).length ≤ ck ∧ SeesM m w Ak (iv ll[k]) := by
  obtain ⟨ad, Ak, ck, h1, h2, h3, h4, h5, -⟩ := h.out k hk
  exact ⟨ad, Ak, ck, h1, h2, h3, h4, h5⟩
theorem take_flat {ll : List (List Int)} {k : Nat} (h : k < ll.length) : (ll.take (k + 1)).flatten = (ll.take k).flatten ++ ll[k] := by
  rw [List.take_succ_eq_append_getElem h, List.flatten_append]; simp
theorem flat_le (ll : List (List Int)) (k j : Nat) (h : k < ll.length) : ((ll.take k).flatten ++ (ll[k]).take j).length ≤ ll.flatten.length := by
  have e : ll.flatten = (ll.take k).flatten ++ (ll[k] ++ (ll.drop (k + 1)).flatten) := by
    rw [← List.flatten_cons, ← List.drop_eq_getElem_cons h, ← List.flatten_append, List.take_append_drop]
  rw [e]
  simp only [List.length_append, List.length_take]
  omega

set_option maxRecDepth 100000 in
set_option maxHeartbeats 1600000 in
theorem RefInts_any (A : Option Addr) (n c : Nat) (ll : List (List El)) (w : World) (hR : RowsIn (fun k => k < w.heap.size) w A ll) (hn : ll.length = n) (hn6 : n ≤ 100000) (hK : ll.flatten.length ≤ 1000000000) :
    Calls Try.prog 17 #[.slice A n c] w (RowI w (uniqL lt ll.flatten)) := by
  have hU := putG_all ordr ll.flatten
  obtain ⟨U, hUU⟩ : ∃ U, uniqL lt ll.flatten = U := ⟨_, rfl⟩
  rw [hUU] at hU ⊢
  have HU := Lib.hid hU
  have HN := Lib.hid hn
  have HKL := Lib.hid hK
  clear hU hUU hn hK
  go_enter Try.func17, Try.ntmps17
  go_wp2
  go_loopg [3, 4] n (fun g o i wr => ∃ (k : Nat) (Ao : Option Addr) (lo co : Nat) (out : List Int), k + g = n ∧ i = .int .i64 k ∧ o = .slice Ao lo co ∧ Hid (out.length = lo) ∧ lo ≤ co ∧ Hid (out = (ll.take k).flatten.foldl (putG lt) []) ∧ Sees wr wr.heap.size Ao (iv out) ∧ Below w.heap.size w wr)
  case atStart => exact ⟨0, none, 0, 0, [], by omega, rfl, rfl, rfl, Nat.le_refl _, rfl, ⟨.inl rfl⟩, Below.refl _ _⟩
  case round =>
    obtain ⟨k, Ao, lo, co, out, hk, rfl, rfl, hlo, hloc, hout, hsee, hb⟩ := hrel
    by_cases hlt : k < n
    · obtain ⟨ad, Ak, ck, rfl, hadm, hcell0, hck, hrow⟩ := hR.iat (k := k) (by have := HN.out; omega)
      have htf := take_flat (ll := ll) (k := k) (by have := HN.out; omega)
      have hfl := fun j => flat_le ll k j (by have := HN.out; omega)
      obtain ⟨r, hr⟩ : ∃ r, ll[k]'(by have := HN.out; omega) = r := ⟨_, rfl⟩
      rw [hr] at hcell0 hck hrow htf
      simp only [hr] at hfl
      obtain ⟨lk, hlk⟩ : ∃ lk, r.length = lk := ⟨_, rfl⟩
      rw [hlk] at hcell0 hck
      have hlk9 : lk ≤ 1000000000 := by
        have := hfl lk
        rw [← hlk, List.take_length, List.length_append] at this
        have := HKL.out; omega
      have HTF := Lib.hid htf
      have HFL := Lib.hid hfl
      have HLK := Lib.hid hlk
      obtain ⟨wo, rfl⟩ : ∃ wo : World, wo = wr := ⟨_, rfl⟩
      clear htf hfl hlk hr
      go_wp2
      go_loopg [3, 5] lk (fun g o i wr => ∃ (j : Nat) (Ao : Option Addr) (lo co : Nat) (out : List Int), j + g = lk ∧ i = .int .i64 j ∧ o = .slice Ao lo co ∧ Hid (out.length = lo) ∧ lo ≤ co ∧ Hid (out = ((ll.take k).flatten ++ r.take j).foldl (putG lt) []) ∧ Sees wr wr.heap.size Ao (iv out) ∧ Below w.heap.size w wr)
      case atStart => exact ⟨0, Ao, lo, co, out, by omega, rfl, rfl, hlo.out, hloc, by unfold Hid; rw [hout.out]; simp, hsee, hb⟩
      case round =>
        obtain ⟨j, Ap, lp, cp, op, hj, rfl, rfl, hlp, hlpc, hop, hseep, hbp⟩ := hrel
        clear hlo hloc hout hsee hb
        have hcell : wr.cell? (ad.add k) = some (.slice Ak lk ck) := (hbp.cell (by rw [add_block]; exact hadm)).trans hcell0
        by_cases hjl : j < lk
        · have hrowp := hrow.keep (Kept.of_below hbp fun k e => e)
          obtain ⟨adk, rfl, -, hx⟩ := Sees.iat (hrowp.sees (B := wr.heap.size) fun k e => Nat.lt_of_lt_of_le e hbp.size) (k := j) (by rw [HLK.out]; exact hjl)
          have htk := List.take_succ_eq_append_getElem (l := r) (i := j) (by rw [HLK.out]; exact hjl)
          obtain ⟨x, hxe⟩ : ∃ x, r[j]'(by rw [HLK.out]; exact hjl) = x := ⟨_, rfl⟩
          rw [hxe] at hx htk
          have hlp9 : lp ≤ 1000000000 := by
            have h1 := fold_len (lt := lt) ((ll.take k).flatten ++ r.take j) []
            rw [← hop.out, hlp.out] at h1
            have h2 := HFL.out j
            have h3 := HKL.out
            simp only [List.length_nil] at h1
            omega
          have hput := Lib.hid (Put_any Ap lp cp op x hlp.out hlpc wr hseep hlp9)
          have HTK := Lib.hid htk
          clear htk hxe hrowp
          go_wp2_with fail
          refine hput.out.mono ?_
          rintro e w2 ⟨A2, c2, rfl, hc2, hs2, hb2⟩
          have hb02 := hbp.trans (hb2.mono hbp.size)
          obtain ⟨l2, hl2⟩ : ∃ l2, (putG lt op x).length = l2 := ⟨_, rfl⟩
          rw [hl2] at hc2 ⊢
          have HL2 := Lib.hid hl2
          clear hput hb2 hl2
          go_wp2_with fail
          go_roundg (lk - (j + 1))
          case measure => omega
          case rel => exact ⟨j + 1, A2, l2, c2, _, by omega, by go_num, rfl, HL2.out, hc2, by unfold Hid; rw [hop.out, HTK.out]; simp only [List.foldl_append, List.foldl_cons, List.foldl_nil], hs2, hb02⟩
        · have hje : j = lk := by omega
          have hoe : Hid (op = (ll.take (k + 1)).flatten.foldl (putG lt) []) := by
            unfold Hid
            rw [hop.out, HTF.out, hje, ← HLK.out, List.take_length]
          go_wp2_with fail
          go_roundg (n - (k + 1))
          case measure => omega
          case rel => exact ⟨k + 1, Ap, lp, cp, op, by omega, by go_num, rfl, hlp.out, hlpc, hoe, hseep, hbp⟩
    · have hoe : Hid (out = U) := by
        have := hout.out
        rw [List.take_of_length_le (by have := HN.out; omega), HU.out] at this
        exact this
      clear hout
      go_wp2
      go_ret
      rw [← hoe.out]
      exact ⟨Ao, co, by rw [hlo.out]; rfl, by rw [hlo.out]; exact hloc, hsee, hb⟩
end Go.Proofs.Ytcfbblgoligagaa.KI

/-
  The document's Less and Meet of rows of numbers, walked.
-/
namespace Go.Proofs.Ytcfbblgoligagaa.KI
open Go.RowKit

/-- The numbers of one row that another one hasn't. -/
def lessL (a b : List Int) : List Int := uniqL lt (a.filter fun x => !decide (x ∈ b))
/-- The numbers that all rows have. -/
def meetL (ll : List (List Int)) : List Int := (uniqL lt ll.flatten).filter fun x => ll.all fun r => decide (x ∈ r)
theorem filter_take_step {a : List Int} {p : Int → Bool} {k : Nat} (h : k < a.length) : (a.take (k + 1)).filter p = (a.take k).filter p ++ if p a[k] = true then [a[k]] else [] := by
  rw [List.take_succ_eq_append_getElem h, List.filter_append]
  congr 1
  by_cases hp : p a[k] = true
  · rw [if_pos hp, List.filter_cons_of_pos hp]; rfl
  · rw [if_neg hp, List.filter_cons_of_neg hp]; rfl

set_option maxRecDepth 100000 in
set_option maxHeartbeats 1600000 in
theorem RefLess_any (A B : Option Addr) (n c m d : Nat) (a b : List Int) (hn : a.length = n) (hm : b.length = m) (w : World) (hS : Sees w w.heap.size A (iv a)) (hS2 : Sees w w.heap.size B (iv b)) (hn9 : n ≤ 1000000000) (hm9 : m ≤ 1000000000) :
    Calls Try.prog 21 #[.slice A n c, .slice B m d] w (RowI w (lessL a b)) := by
  have hU := putG_all ordr (a.filter fun x => !decide (x ∈ b))
  obtain ⟨U, hUU⟩ : ∃ U, lessL a b = U := ⟨_, rfl⟩
  rw [show uniqL lt (a.filter fun x => !decide (x ∈ b)) = U from hUU] at hU
  rw [hUU]
  have HU := Lib.hid hU
  have HN := Lib.hid hn
  have HM := Lib.hid hm
  clear hU hUU hn hm
  go_enter Try.func21, Try.ntmps21
  go_wp2
  go_loopg [5, 6] n (fun g o i wr => ∃ (k : Nat) (Ao : Option Addr) (lo co : Nat) (out : List Int), k + g = n ∧ i = .int .i64 k ∧ o = .slice Ao lo co ∧ Hid (out.length = lo) ∧ lo ≤ co ∧ Hid (out = ((a.take k).filter fun x => !decide (x ∈ b)).foldl (putG lt) []) ∧ Sees wr wr.heap.size Ao (iv out) ∧ Below w.heap.size w wr)
  case atStart => exact ⟨0, none, 0, 0, [], by omega, rfl, rfl, rfl, Nat.le_refl _, rfl, ⟨.inl rfl⟩, Below.refl _ _⟩
  case round =>
    obtain ⟨k, Ao, lo, co, out, hk, rfl, rfl, hlo, hloc, hout, hsee, hb⟩ := hrel
    by_cases hlt : k < n
    · have hS' := (hS.below hb).more hb.size
      have hS2' := (hS2.below hb).more hb.size
      obtain ⟨ad, rfl, hadb, hx⟩ := Sees.iat hS' (k := k) (by have := HN.out; omega)
      have hft := filter_take_step (a := a) (p := fun x => !decide (x ∈ b)) (k := k) (by have := HN.out; omega)
      obtain ⟨x, hxe⟩ : ∃ x, a[k]'(by have := HN.out; omega) = x := ⟨_, rfl⟩
      rw [hxe] at hx hft
      obtain ⟨t, ht⟩ : ∃ t, decide (x ∈ b) = t := ⟨_, rfl⟩
      have hin := In_any B m d b x HM.out wr hS2' (by omega)
      simp only [ht] at hft
      rw [ht] at hin
      have HIN := Lib.hid hin
      have HFT := Lib.hid hft
      have hlo9 : lo ≤ 1000000000 := by
        have h1 := fold_len (lt := lt) ((a.take k).filter fun x => !decide (x ∈ b)) []
        rw [← hout.out, hlo.out] at h1
        have h2 := List.length_filter_le (fun x => !decide (x ∈ b)) (a.take k)
        have h3 : (a.take k).length ≤ k := List.length_take_le _ _
        simp only [List.length_nil] at h1
        omega
      clear hft hin ht hxe
      go_wp2_with fail
      refine HIN.out.mono ?_
      rintro e w2 ⟨rfl, rfl⟩
      cases t with
      | true =>
        have hoe : Hid (out = ((a.take (k + 1)).filter fun x => !decide (x ∈ b)).foldl (putG lt) []) := by
          unfold Hid
          rw [hout.out, HFT.out]; simp
        clear hout HFT
        go_wp2_with fail
        go_roundg (n - (k + 1))
        case measure => omega
        case rel => exact ⟨k + 1, Ao, lo, co, out, by omega, by go_num, rfl, hlo.out, hloc, hoe, hsee, hb⟩
      | false =>
        have hput := Lib.hid (Put_any Ao lo co out x hlo.out hloc wr hsee hlo9)
        go_wp2_with fail
        refine hput.out.mono ?_
        rintro e w2 ⟨A2, c2, rfl, hc2, hs2, hb2⟩
        have hb02 := hb.trans (hb2.mono hb.size)
        obtain ⟨l2, hl2⟩ : ∃ l2, (putG lt out x).length = l2 := ⟨_, rfl⟩
        rw [hl2] at hc2 ⊢
        have HL2 := Lib.hid hl2
        have hoe : Hid (putG lt out x = ((a.take (k + 1)).filter fun x => !decide (x ∈ b)).foldl (putG lt) []) := by
          unfold Hid
          rw [hout.out, HFT.out]; simp [List.foldl_append]
        clear hput hb2 hl2 hout HFT
        go_wp2_with fail
        go_roundg (n - (k + 1))
        case measure => omega
        case rel => exact ⟨k + 1, A2, l2, c2, _, by omega, by go_num, rfl, HL2.out, hc2, hoe, hs2, hb02⟩
    · have hoe : Hid (out = U) := by
        have := hout.out
        rw [List.take_of_length_le (by have := HN.out; omega), HU.out] at this
        exact this
      clear hout
      go_wp2
      go_ret
      rw [← hoe.out]
      exact ⟨Ao, co, by rw [hlo.out]; rfl, by rw [hlo.out]; exact hloc, hsee, hb⟩

set_option maxRecDepth 100000 in
set_option maxHeartbeats 1600000 in
theorem RefMeet_any (A : Option Addr) (n c : Nat) (ll : List (List El)) (w : World) (hR : RowsIn (fun k => k < w.heap.size) w A ll) (hn : ll.length = n) (hn6 : n ≤ 100000) (hK : ll.flatten.length ≤ 1000000000) :
    Calls Try.prog 19 #[.slice A n c] w (RowI w (meetL ll)) := by
  have hints := Lib.hid (RefInts_any A n c ll w hR hn hn6 hK)
  have hUl := uniqL_len ordr ll.flatten
  obtain ⟨X, hX⟩ : ∃ X, meetL ll = X := ⟨_, rfl⟩
  rw [hX]
  unfold meetL at hX
  obtain ⟨U, hUU⟩ : ∃ U, uniqL lt ll.flatten = U := ⟨_, rfl⟩
  rw [hUU] at hints hUl hX
  obtain ⟨nu, hnu⟩ : ∃ nu, U.length = nu := ⟨_, rfl⟩
  rw [hnu] at hUl
  have hnu9 : nu ≤ 1000000000 := by omega
  have HX := Lib.hid hX
  have HN := Lib.hid hn
  have HNU := Lib.hid hnu
  have hll : ∀ k (h : k < ll.length), (ll[k]).length ≤ 1000000000 := fun k h => by
    have h1 := flat_le ll k (ll[k]).length h
    rw [List.take_length, List.length_append] at h1
    omega
  have HLL := Lib.hid hll
  clear hX hUU hn hK hUl hnu hll
  go_enter Try.func19, Try.ntmps19
  go_wp2_with fail
  refine hints.out.mono ?_
  rintro e w1 ⟨Au, cu, rfl, hcu, hsu, hb1⟩
  rw [HNU.out] at hcu ⊢
  clear hints
  have hR1 := (hR.keep (Kept.of_below hb1 fun k e => e)).mono (m' := fun k => k < w1.heap.size) (fun k e => Nat.lt_of_lt_of_le e hb1.size)
  obtain ⟨ti, hi, hy0, hy1, hy2⟩ := info_parts iinfo
  go_wp2
  go_loopg [4, 5] nu (fun g o i wr => ∃ (k lo : Nat) (out : List Int), k + g = nu ∧ i = .int .i64 k ∧ wr.ownsRow w1.heap.size 3 1 o lo (iv out) ∧ Hid (out.length = lo) ∧ Hid (out = (U.take k).filter fun x => ll.all fun r => decide (x ∈ r)) ∧ Below w1.heap.size w1 wr)
  case atStart => exact ⟨0, 0, [], by omega, rfl, World.ownsRow_nil _ _ _ _, rfl, rfl, Below.refl _ _⟩
  case round =>
    obtain ⟨k, lo, out, hk, rfl, hrow, hlo, hout, hb⟩ := hrel
    obtain ⟨Ao, co, rfl, hloc⟩ := own_slice hrow
    by_cases hlt : k < nu
    · obtain ⟨adu, rfl, hadu, hx0⟩ := Sees.iat hsu (k := k) (by have := HNU.out; omega)
      have hft := filter_take_step (a := U) (p := fun x => ll.all fun r => decide (x ∈ r)) (k := k) (by have := HNU.out; omega)
      obtain ⟨x, hxe⟩ : ∃ x, U[k]'(by have := HNU.out; omega) = x := ⟨_, rfl⟩
      rw [hxe] at hx0 hft
      have HFT := Lib.hid hft
      have hlo9 : lo ≤ 1000000000 := by
        have h2 := List.length_filter_le (fun x => ll.all fun r => decide (x ∈ r)) (U.take k)
        rw [← hout.out, hlo.out] at h2
        have h3 : (U.take k).length ≤ k := List.length_take_le _ _
        omega
      obtain ⟨wo, rfl⟩ : ∃ wo : World, wo = wr := ⟨_, rfl⟩
      have hxo : wo.cell? (adu.add k) = some (.int .i64 x) := (hb.cell (by rw [add_block]; exact hadu)).trans hx0
      clear hft hxe hx0
      go_wp2
      go_loopg [6, 7] n (fun g t i wr => ∃ (j : Nat) (b : Bool), j + g = n ∧ i = .int .i64 j ∧ t = .bool b ∧ Hid (b = (ll.take j).all fun r => decide (x ∈ r)) ∧ ∃ q, wr = wo.drewN q)
      case atStart => exact ⟨0, true, by omega, rfl, rfl, rfl, 0, rfl⟩
      case round =>
        obtain ⟨j, b, hj, rfl, rfl, hbb, q, rfl⟩ := hrel
        by_cases hjl : j < n
        · obtain ⟨ad, Ak, ck, rfl, hadm, hcell0, hck, hrw⟩ := hR1.iat (k := j) (by have := HN.out; omega)
          have hta := List.take_succ_eq_append_getElem (l := ll) (i := j) (by have := HN.out; omega)
          have hlen := HLL.out j (by have := HN.out; omega)
          obtain ⟨r, hr⟩ : ∃ r, ll[j]'(by have := HN.out; omega) = r := ⟨_, rfl⟩
          rw [hr] at hcell0 hck hrw hta hlen
          have hcell : wo.cell? (ad.add j) = some (.slice Ak r.length ck) := (hb.cell (by rw [add_block]; exact hadm)).trans hcell0
          have hrwo := (hrw.keep (Kept.of_below hb fun k e => e)).sees (B := wo.heap.size) fun k e => Nat.lt_of_lt_of_le e hb.size
          have hin := fun p => Lib.hid (In_any Ak r.length ck r x rfl (wo.drewN p) (hrwo.drewN p) (by omega))
          obtain ⟨t, ht⟩ : ∃ t, decide (x ∈ r) = t := ⟨_, rfl⟩
          rw [ht] at hin
          have hT : Hid ((b && t) = (ll.take (j + 1)).all fun r => decide (x ∈ r)) := by
            unfold Hid
            rw [hta, List.all_append, ← hbb.out, ← ht]; simp
          obtain ⟨lr, hlr⟩ : ∃ lr, r.length = lr := ⟨_, rfl⟩
          rw [hlr] at hcell hlen
          simp only [hlr] at hin
          clear hbb ht hta hr hlr hck hrw hrwo hcell0
          go_wp2
          go_quiet ((refine (hin _).out.mono ?_; rintro e w' ⟨rfl, rfl⟩; exact ⟨rfl, _, rfl⟩))
          cases b <;> cases t
          all_goals
            go_wp2
            go_roundg (n - (j + 1))
            case measure => omega
            case rel => exact ⟨j + 1, _, by omega, by go_num, rfl, hT, _, rfl⟩
        · have hbe : Hid (b = ll.all fun r => decide (x ∈ r)) := by
            have := hbb.out
            rw [List.take_of_length_le (by have := HN.out; omega)] at this
            exact this
          clear hbb
          have hbq : Below w1.heap.size w1 (wo.drewN q) := below_d hb q
          have hrowq : (wo.drewN q).ownsRow w1.heap.size 3 1 (.slice Ao lo co) lo (iv out) := hrow
          have hxq : (wo.drewN q).cell? (adu.add k) = some (.int .i64 x) := hxo
          obtain ⟨wq, hwq⟩ : ∃ wq, wo.drewN q = wq := ⟨_, rfl⟩
          rw [hwq] at hbq hrowq hxq ⊢
          clear hwq hb hrow hxo
          cases b with
          | false =>
            have hoe : Hid (out = (U.take (k + 1)).filter fun x => ll.all fun r => decide (x ∈ r)) := by
              unfold Hid
              rw [hout.out, HFT.out, ← hbe.out]; simp
            clear hout HFT hbe
            go_wp2
            go_roundg (nu - (k + 1))
            case measure => omega
            case rel => exact ⟨k + 1, lo, out, by omega, by go_num, hrowq, hlo.out, hoe, hbq⟩
          | true =>
            have hoe : Hid (out ++ [x] = (U.take (k + 1)).filter fun x => ll.all fun r => decide (x ∈ r)) := by
              unfold Hid
              rw [hout.out, HFT.out, ← hbe.out]; simp
            have hrow2 : (wq.alloc (.cells #[.int .i64 x] 3)).ownsRow w1.heap.size 3 1 (.slice Ao lo co) out.length (iv out) := by rw [hlo.out]; exact hrowq.alloc _
            have hsee1 : Sees (wq.alloc (.cells #[.int .i64 x] 3)) (wq.heap.size + 1) (some ⟨wq.heap.size, 0, none⟩) (iv [x]) := ⟨.inr ⟨_, rfl, by simp, fun j u hu => by match j, hu with | 0, hu => (simp [iv] at hu; subst hu; rw [Addr.add_lit, World.cell?_alloc_at _ _ _ _ rfl]; rfl)⟩⟩
            have hs1 := hbq.size
            clear hout HFT hbe
            go_wp2_with (at_builtin; refine wpList_append_i rfl (.tmp 37) (.tmp 42) rfl w1.heap.size (.slice Ao lo co) out (by rfl) hrow2 _ (some ⟨wq.heap.size, 0, none⟩) 1 1 [x] (by rfl) rfl hsee1 (by have := hlo.out; simp; omega) (by simp; omega) ?_; intro v2 w2 hown2 hon2)
            have hb2 : Below w1.heap.size w1 w2 := (hbq.alloc hs1 _).trans (hon2.below (by simp; omega) (fun j hj => (World.ownsRow.lt hrow2 j hj).1))
            go_roundg (nu - (k + 1))
            case measure => omega
            case rel => exact ⟨k + 1, lo + 1, out ++ [x], by omega, by go_num, by rw [List.length_append, hlo.out] at hown2; exact hown2, by unfold Hid; rw [List.length_append, hlo.out]; rfl, hoe, hb2⟩
    · have hoe : Hid (out = X) := by
        have := hout.out
        rw [List.take_of_length_le (by have := HNU.out; omega), HX.out] at this
        exact this
      clear hout
      go_wp2
      go_ret
      rw [← hoe.out]
      have hrow' := hrow
      rw [← hlo.out] at hrow'
      obtain ⟨A', c', h1, h2, h3, h4⟩ := own_rowI hrow' hb
      exact ⟨A', c', by rw [← h1, ← hlo.out]; rfl, h2, h3, hb1.trans (hb.mono hb1.size)⟩
end Go.Proofs.Ytcfbblgoligagaa.KI

/-
  kmerge.Less, walked: the numbers of a row that another one hasn't.
-/
namespace Go.Proofs.Ytcfbblgoligagaa.KI
open Go.RowKit Go.Shelf Go.Sort

theorem ownsRow_le' {w : World} {base base' size n : Nat} {e : TypeId} {v : Value} {xs : List Value} (h : w.ownsRow base e size v n xs) (hb : base' ≤ base) : w.ownsRow base' e size v n xs :=
  ⟨h.1, h.2.elim Or.inl fun ⟨g, cap, cur, hv, hg, r⟩ => Or.inr ⟨g, cap, cur, hv, Nat.le_trans hb hg, r⟩⟩
theorem addr_lit {w : World} {ad : Addr} {v : Value} (h : w.cell? ad = some v) : ∃ b o, ad = ⟨b, o, none⟩ := by
  obtain ⟨b, o, sp⟩ := ad
  cases sp with
  | none => exact ⟨b, o, rfl⟩
  | some s =>
    unfold World.cell? at h
    simp only [Option.isSome_some, if_true] at h
    split at h <;> cases h

/-- slices.BinarySearch in rising numbers: whether one is among them. -/
theorem Search_any (B : Option Addr) (n c : Nat) (b : List Int) (hb : Ri lt b) (hn : b.length = n) (x : Int) (w : World) (hS : Sees w w.heap.size B (iv b)) (hn9 : n ≤ 1000000000) :
    Calls Try.prog 33 #[.slice B n c, .int .i64 x] w fun e w' => ∃ k : Nat, e = .returned (.tuple #[.int .i64 (k : Nat), .bool (decide (x ∈ b))]) ∧ ∃ q, w' = w.drewN q := by
  by_cases h0 : n = 0
  · subst h0
    have hb0 : b = [] := List.eq_nil_of_length_eq_zero hn
    subst hb0
    refine (Any.slices_BinarySearch_int_empty Try.searchI B c x w).mono fun e w' ⟨he, hw⟩ => ⟨0, by rw [he]; simp, 0, hw⟩
  · obtain ⟨ad, rfl, -, hx⟩ := Sees.iat hS (k := 0) (by omega)
    have hx' : w.cell? ad = some (.int .i64 (b[0]'(by omega))) := by simpa [Addr.add] using hx
    obtain ⟨blk, off, rfl⟩ := addr_lit hx'
    have hc : ∀ j, j < b.length → w.cell? ⟨blk, off + j, none⟩ = some (.int .i64 (b.getD j 0)) := fun j hj => by
      obtain ⟨ad, e, -, h⟩ := Sees.iat hS hj
      obtain rfl := Option.some.inj e
      rw [Addr.add_lit] at h
      rw [h, List.getD_eq_getElem?_getD, List.getElem?_eq_getElem hj]
      rfl
    refine (Any.slices_BinarySearch_int Try.searchI blk off n c b x w (by omega) (by omega) hc ?_).mono fun e w' ⟨he, hw⟩ => ⟨(b.take n).countP (· < x), ?_, hw⟩
    · rw [List.take_of_length_le (by omega)]
      exact List.Pairwise.imp (fun h => by simp only [lt, decide_eq_true_eq] at h; omega) hb
    · rw [he, List.take_of_length_le (by omega : b.length ≤ n)]
      congr 5
      rw [← Bool.decide_coe (b.contains x)]
      simp

set_option maxRecDepth 100000 in
set_option maxHeartbeats 400000 in
theorem less1_any (Pb : Nat) (B : Option Addr) (n c : Nat) (b : List Int) (hb : Ri lt b) (hn : b.length = n) (x : Int) (w : World) (hcell : w.cell? ⟨Pb, 0, none⟩ = some (.slice B n c)) (hS : Sees w w.heap.size B (iv b)) (hn9 : n ≤ 1000000000) :
    Calls Try.prog 32 #[.int .i64 x, .pointer (some ⟨Pb, 0, none⟩)] w (BoolIs w (decide (x ∈ b))) := by
  have hs := Lib.hid (Search_any B n c b hb hn x w hS hn9)
  obtain ⟨t, ht⟩ : ∃ t, decide (x ∈ b) = t := ⟨_, rfl⟩
  rw [ht] at hs ⊢
  clear ht hn hb hS
  go_enter Try.func32, Try.ntmps32
  go_wp2_with fail
  refine hs.out.mono ?_
  rintro e w' ⟨k, rfl, q, rfl⟩
  go_wp2
  go_ret
  exact ⟨rfl, q, rfl⟩

set_option maxRecDepth 100000 in
set_option maxHeartbeats 400000 in
theorem IndexFunc_empty (A : Option Addr) (c : Nat) (f : Value) (hf : ∃ g lb, f = .func (.func g) #[] lb) (w : World) : Calls Try.prog 40 #[.slice A 0 c, f] w fun e w' => e = .returned (.int .i64 (-1)) ∧ w = w' := by
  obtain ⟨g, lb, rfl⟩ := hf
  go_enter Try.func40, Try.ntmps40
  go_wp2
  go_loop [8] (fun i => i = .int .i64 0) (fun _ => 0)
  case atStart => rfl
  case round =>
    subst hrel
    go_wp2
    go_ret
    exact ⟨rfl, rfl⟩
set_option maxRecDepth 100000 in
set_option maxHeartbeats 400000 in
theorem DeleteFunc_empty (A : Option Addr) (c : Nat) (g : FuncId) (lb : Array Value) (w : World) : Calls Try.prog 31 #[.slice A 0 c, .func (.func g) #[] lb] w fun e w' => e = .returned (.slice A 0 c) ∧ w = w' := by
  have hi := fun w => Lib.hid (IndexFunc_empty A c (.func (.func g) #[] lb) ⟨g, lb, rfl⟩ w)
  go_enter Try.func31, Try.ntmps31
  go_wp2_with fail
  refine (hi _).out.mono ?_
  rintro e w' ⟨rfl, rfl⟩
  go_wp2
  go_ret
  exact ⟨rfl, rfl⟩

/-- What is left of a row of the call's own. -/
theorem Delete_any (Pb : Nat) (B : Option Addr) (nb cb : Nat) (b : List Int) (hb : Ri lt b) (hnb : b.length = nb) (hnb9 : nb ≤ 1000000000) (base : Nat) (v : Value) (a : List Int) (w : World) (hown : w.ownsRow base 3 1 v a.length (a.map val)) (hna : a.length ≤ 1000000000)
    (hcell : w.cell? ⟨Pb, 0, none⟩ = some (.slice B nb cb)) (hS : SeesM (fun k => k < base) w B (iv b)) (hPb : Pb < base) (_hbase : base ≤ w.heap.size) :
    Calls Try.prog 31 #[v, .func (.func 32) #[] #[.pointer (some ⟨Pb, 0, none⟩)]] w fun e w' => ∃ v', e = .returned v' ∧ w'.ownsRow base 3 1 v' (a.filter fun x => !decide (x ∈ b)).length (iv (a.filter fun x => !decide (x ∈ b))) ∧ Below base w w' := by
  have hP := World.block_lt_of_cell? w _ hcell
  simp only at hP
  have hgive : ∀ (W : World) (x : Int), W.cell? ⟨Pb, 0, none⟩ = some (.slice B nb cb) → Sees W W.heap.size B (iv b) → FnGives Try.prog 32 #[.pointer (some ⟨Pb, 0, none⟩)] #[val x] (.bool (decide (x ∈ b))) W := fun W x h1 h2 =>
    less1_any Pb B nb cb b hb hnb x W h1 h2 hnb9
  by_cases h0 : a.length = 0
  · have ha : a = [] := List.eq_nil_of_length_eq_zero h0
    subst ha
    obtain ⟨A, c, rfl, -⟩ := own_slice hown
    refine (DeleteFunc_empty A c _ _ w).mono fun e w' ⟨he, hw⟩ => ⟨_, he, ?_, ?_⟩
    · rw [← hw]; exact hown
    · rw [← hw]; exact Below.refl _ _
  · obtain ⟨g, cap, rfl, hg1, hg2, hn, hm, hl, hH⟩ := Lib.holds_of_ownsRow hown (fun e => by rw [e] at hown; rcases hown.2 with ⟨-, h⟩ | ⟨_, _, _, h, -⟩; exact h0 h; cases h)
    have hsw : ∀ (n : Nat) (os : Array Obj) (dk : Array Int), Kept (fun k => k < base) w (sortWorld val w g 0 n dk os) := fun n os dk k hk => by rw [sw_heap val w g n dk os k (by omega), if_neg (by omega)]
    have hp : PredAt Try.prog 32 #[.pointer (some ⟨Pb, 0, none⟩)] val (fun x => decide (x ∈ b)) w := fun W x hbW => hgive W x ((hbW.cell (p := ⟨Pb, 0, none⟩) hP).trans hcell) ((hS.keep (Kept.of_below hbW fun k e => by omega)).sees fun k e => by have := hbW.size; omega)
    have hpo : PredOver Try.prog 32 #[.pointer (some ⟨Pb, 0, none⟩)] val (fun x => decide (x ∈ b)) g 0 a.toArray.size w := fun n os dk x _ => hgive _ x (((hsw n os dk).cell (p := ⟨Pb, 0, none⟩) hPb).trans hcell) ((hS.keep (hsw n os dk)).sees fun k e => by have := sw_size val w g n dk os; omega)
    have hcon := AnyE.slices_DeleteFunc Try.delI val (fun x => val_one x) (fun x => decide (x ∈ b)) 32 #[.pointer (some ⟨Pb, 0, none⟩)] (enters_of Try.func32 (by kernel_rfl) rfl) 0 (by intro w; kernel_rfl) g 0 cap a.toArray w hp hpo hH (by rw [List.size_toArray]; omega) (by rw [List.size_toArray]; exact hn)
    change Calls Try.prog 31 _ _ _ at hcon
    rw [List.size_toArray] at hcon
    refine hcon.mono fun e w' ⟨he, q, hw⟩ => ⟨_, he, ?_, ?_⟩
    · have hfl := List.length_filter_le (fun x => !decide (x ∈ b)) a
      have := Lib.ownsRow_putRow (q := q) (k := (a.filter fun x => !decide (x ∈ b)).length) (ys := (a.filter fun x => !decide (x ∈ b)) ++ List.replicate (a.length - (a.filter fun x => !decide (x ∈ b)).length) 0) hown (by simp; omega) hfl
      rw [List.take_left] at this
      rw [hw]
      exact this
    · rw [hw]
      exact Lib.below_putRow (Below.refl _ _) hg1

theorem rowsIn_one (w : World) (B : Option Addr) (n c : Nat) (b : List El) (hn : b.length = n) (hnc : n ≤ c) (hS : Sees w w.heap.size B (b.map val)) : RowsIn (fun k => k < (w.alloc (.cells #[.slice B n c] 30)).heap.size) (w.alloc (.cells #[.slice B n c] 30)) (some ⟨w.heap.size, 0, none⟩) [b] :=
  ⟨fun i hi => by
    have hi0 : i = 0 := by simpa using hi
    subst hi0
    refine ⟨_, B, c, rfl, by simp, ?_, by simpa [hn] using hnc, ?_, fun x _ => ⟨trivial⟩⟩
    · rw [Addr.add_lit, World.cell?_alloc_at _ _ _ _ rfl]; simp [hn]
    · exact (hS.alloc (Nat.le_refl _) _).toM.mono fun k e => by simp; omega⟩

set_option maxRecDepth 100000 in
set_option maxHeartbeats 800000 in
theorem Less_any (A B : Option Addr) (n c m d : Nat) (a b : List Int) (hn : a.length = n) (hnc : n ≤ c) (hm : b.length = m) (hmd : m ≤ d) (w : World) (hS : Sees w w.heap.size A (iv a)) (hS2 : Sees w w.heap.size B (iv b)) (hn9 : n ≤ 1000000) (hm9 : m ≤ 1000000) :
    Calls Try.prog 20 #[.slice A n c, .slice B m d] w (RowI w ((uniqL lt a).filter fun x => !decide (x ∈ uniqL lt b))) := by
  obtain ⟨wb, hwb⟩ : ∃ wb, w.alloc (.cells #[.slice B m d] 30) = wb := ⟨_, rfl⟩
  have hbb : Below w.heap.size w wb := by rw [← hwb]; exact (Below.refl _ w).alloc (Nat.le_refl _) _
  have hzb : wb.heap.size = w.heap.size + 1 := by rw [← hwb]; simp
  have bb : Box1 wb w.heap.size 30 (.slice B m d) := by rw [← hwb]; exact Box1.new w _ _
  have hSb := (hS2.below hbb).more hbb.size
  have hi1 := Lib.hid (Ints_any (some ⟨wb.heap.size, 0, none⟩) 1 1 [b] _ (rowsIn_one wb B m d b hm hmd hSb) rfl (by omega) (by simp; omega) (by simp; omega))
  simp only [List.flatten_cons, List.flatten_nil, List.append_nil] at hi1
  have hub := uniqL_ri ordr b
  have hubl := uniqL_len ordr b
  obtain ⟨ub, hube⟩ : ∃ ub, uniqL lt b = ub := ⟨_, rfl⟩
  rw [hube] at hi1 hub hubl ⊢
  have HB := Lib.hid hub
  have cb := bb.cell
  have fb := bb.frozen
  have hual := uniqL_len ordr a
  have HN := Lib.hid hn
  have HM := Lib.hid hm
  clear hube hub hn hm
  go_enter Try.func20, Try.ntmps20
  go_wp2_with fail
  rw [hzb] at hi1
  refine hi1.out.mono ?_
  rintro e w2 ⟨v2, rfl, hown2, hb2'⟩
  have hb2 : Below wb.heap.size wb w2 := ((Below.refl _ wb).alloc (Nat.le_refl _) _).trans (hb2'.mono (by simp))
  have bb2 := bb.below hb2 bb.lt
  obtain ⟨A2, c2, rfl, hc2⟩ := own_slice hown2
  have cb2 := bb2.cell
  have fb2 := bb2.frozen
  clear hi1
  obtain ⟨w3, hw3⟩ : ∃ w3, w2.setCell ⟨w.heap.size, 0, none⟩ (.slice A2 ub.length c2) = w3 := ⟨_, rfl⟩
  have bb3 : Box1 w3 w.heap.size 30 (.slice A2 ub.length c2) := by rw [← hw3]; exact bb2.set _
  have h03 : Below w.heap.size w w3 := by rw [← hw3]; exact (hbb.trans (hb2.mono (by omega))).setCell (Nat.le_refl _) _
  have hown3 : w3.ownsRow wb.heap.size 3 1 (.slice A2 ub.length c2) ub.length (iv ub) := by
    rw [← hw3]; exact ownsRow_setCell_below (ownsRow_le' hown2 (by simp)) (by simp only; omega) _
  have hz3 : w3.heap.size = w2.heap.size := by rw [← hw3]; simp
  have hS3 := (hS.below h03).more h03.size
  have hi2 := Lib.hid (Ints_any (some ⟨w3.heap.size, 0, none⟩) 1 1 [a] _ (rowsIn_one w3 A n c a HN.out hnc hS3) rfl (by omega) (by simp; have := HN.out; omega) (by simp; have := HN.out; omega))
  simp only [List.flatten_cons, List.flatten_nil, List.append_nil] at hi2
  go_wp2_with fail
  rw [hz3] at hi2
  refine hi2.out.mono ?_
  rintro e w4 ⟨v4, rfl, hown4, hb4'⟩
  clear hi2
  have hb4 : Below w3.heap.size w3 w4 := ((Below.refl _ w3).alloc (Nat.le_refl _) _).trans (hb4'.mono (by simp))
  have bb4 := bb3.below hb4 bb3.lt
  have hsz4 := hb4'.size
  have hSu : Sees w4 w3.heap.size A2 (iv ub) := (Sees.of_own hown3).below hb4
  have hz3' := h03.size
  have hlt := bb3.lt
  have hdel := Lib.hid (Delete_any w.heap.size A2 ub.length c2 ub HB.out rfl (by have := HM.out; omega) _ v4 (uniqL lt a) w4 hown4 (by have := HN.out; omega) bb4.cell (hSu.toM.mono fun k e => by simp; omega) (by simp; omega) hsz4)
  go_wp2_with fail
  refine hdel.out.mono ?_
  rintro e w5 ⟨v5, rfl, hown5, hb5⟩
  go_wp2
  go_ret
  obtain ⟨A5, c5, rfl, hc5⟩ := own_slice hown5
  exact ⟨A5, c5, rfl, hc5, Sees.of_own hown5, (h03.trans (hb4.mono hz3')).trans (hb5.mono (by simp; omega))⟩

/-- That is the document's. -/
theorem less_plain (a b : List Int) : ((uniqL lt a).filter fun x => !decide (x ∈ uniqL lt b)) = lessL a b := by
  unfold lessL
  refine ri_unique ordr ?_ (uniqL_ri ordr _) fun x => ?_
  · exact List.Pairwise.filter _ (uniqL_ri ordr a)
  · rw [uniqL_mem ordr, List.mem_filter, List.mem_filter, uniqL_mem ordr]
    have := uniqL_mem ordr b x
    simp [this]
end Go.Proofs.Ytcfbblgoligagaa.KI

/-
  Rows that are put into a row of the call's own, one after another.
-/
namespace Go.Proofs.Ytcfbblgoligagaa.KI
open Go.RowKit

/-- Rows in a row of the call's own, v; their cells in blocks of m or new ones. -/
structure Pile (m : Nat → Prop) (n1 : Nat) (w : World) (v : Value) (L : List (List El)) : Prop where
  out : ∃ vs : List Value, w.ownsRow n1 30 1 v L.length vs ∧
    ∀ i (hi : i < L.length), ∃ Ai ci, vs[i]? = some (.slice Ai (L[i]).length ci) ∧ (L[i]).length ≤ ci ∧ SeesM (fun k => m k ∨ (n1 ≤ k ∧ k < w.heap.size ∧ v.ownBlock ≠ some k)) w Ai ((L[i]).map val)
  ok : ∀ r ∈ L, ∀ x ∈ r, EOk m w x
  apart : ∀ k, m k → k < n1
  low : n1 ≤ w.heap.size
section
variable {m : Nat → Prop} {n1 : Nat} {w w' w2 w3 : World} {v v' : Value} {L : List (List El)} {x : List El}
theorem Pile.nil (w : World) (m : Nat → Prop) (n1 : Nat) (ha : ∀ k, m k → k < n1) (hl : n1 ≤ w.heap.size) : Pile m n1 w (.slice none 0 0) [] :=
  ⟨⟨[], World.ownsRow_nil _ _ _ _, fun i hi => absurd hi (by simp)⟩, by simp, ha, hl⟩
theorem Pile.below (h : Pile m n1 w v L) (hb : Below w.heap.size w w') : Pile m n1 w' v L := by
  obtain ⟨vs, h1, h2⟩ := h.out
  have hs := hb.size
  have hlow := h.low
  have hk : Kept (fun k => m k ∨ (n1 ≤ k ∧ k < w.heap.size ∧ v.ownBlock ≠ some k)) w w' := Kept.of_below hb fun k e => by
    rcases e with e | e
    · have := h.apart k e; omega
    · exact e.2.1
  refine ⟨⟨vs, own_below h1 hb, fun i hi => ?_⟩, fun r hr x hx => (h.ok r hr x hx).keep (hk.mono fun k e => .inl e), h.apart, by omega⟩
  obtain ⟨Ai, ci, g1, g2, g3⟩ := h2 i hi
  exact ⟨Ai, ci, g1, g2, (g3.keep hk).mono fun k e => by rcases e with e | e; exact .inl e; exact .inr ⟨e.1, by omega, e.2.2⟩⟩
theorem Pile.own (h : Pile m n1 w v L) : ∃ vs : List Value, w.ownsRow n1 30 1 v L.length vs := let ⟨vs, h1, _⟩ := h.out; ⟨vs, h1⟩
/-- One more. -/
theorem Pile.push {A1 : Option Addr} {c1 : Nat} (h : Pile m n1 w v L) (hb : Below w.heap.size w w2)
    (hx : SeesM (fun k => m k ∨ (w.heap.size ≤ k ∧ k < w2.heap.size)) w2 A1 (x.map val)) (hxc : x.length ≤ c1) (hxo : ∀ y ∈ x, EOk m w y)
    (vs : List Value) (hvs : w.ownsRow n1 30 1 v L.length vs)
    (hvs2 : ∀ i (hi : i < L.length), ∃ Ai ci, vs[i]? = some (.slice Ai (L[i]).length ci) ∧ (L[i]).length ≤ ci ∧ SeesM (fun k => m k ∨ (n1 ≤ k ∧ k < w.heap.size ∧ v.ownBlock ≠ some k)) w Ai ((L[i]).map val))
    (hown : w3.ownsRow n1 30 1 v' (L.length + 1) (vs ++ [.slice A1 x.length c1])) (hon : Onto w2 w3 v v') : Pile m n1 w3 v' (L ++ [x]) := by
  have hs := hb.size
  have hs3 := hon.size
  have hlow := h.low
  have hlen : vs.length = L.length := by have := hvs.1; omega
  have hvl := World.ownsRow.lt hvs
  have hv' : ∀ k, k < w2.heap.size → v.ownBlock ≠ some k → v'.ownBlock ≠ some k := fun k hk hne e => by
    rcases hon.at_ with e2 | ⟨g, e2, hg⟩
    · exact hne (e2 ▸ e)
    · rw [e2] at e; injection e with e; omega
  have hmv : ∀ k, m k → v.ownBlock ≠ some k := fun k e e2 => by have := h.apart k e; have := (hvl k e2).1; omega
  have hk23 : ∀ k, k < w2.heap.size → v.ownBlock ≠ some k → w3.heap[k]? = w2.heap[k]? := fun k a b => hon.grown.block k a (fun e => b e.symm)
  have hkr : Kept (fun k => m k ∨ (n1 ≤ k ∧ k < w.heap.size ∧ v.ownBlock ≠ some k)) w w3 := fun k hk => by
    have hk1 : k < w.heap.size ∧ v.ownBlock ≠ some k := by
      rcases hk with e | e
      · exact ⟨by have := h.apart k e; omega, hmv k e⟩
      · exact e.2
    exact (hk23 k (by omega) hk1.2).trans (hb.block k hk1.1)
  refine ⟨⟨vs ++ [.slice A1 x.length c1], by rw [List.length_append]; exact hown, fun i hi => ?_⟩, fun r hr y hy => ?_, h.apart, by omega⟩
  · by_cases hlt : i < L.length
    · obtain ⟨Ai, ci, g1, g2, g3⟩ := hvs2 i hlt
      rw [List.getElem_append_left hlt, List.getElem?_append_left (by omega)]
      exact ⟨Ai, ci, g1, g2, (g3.keep hkr).mono fun k e => by
        rcases e with e | e
        · exact .inl e
        · exact .inr ⟨e.1, by omega, hv' k (by omega) e.2.2⟩⟩
    · have he : i = L.length := by simp at hi; omega
      subst he
      rw [List.getElem_append_right (Nat.le_refl _), List.getElem?_append_right (by omega)]
      refine ⟨A1, c1, by simp [hlen], by simpa using hxc, ?_⟩
      simp only [Nat.sub_self, List.getElem_cons_zero]
      have hne : ∀ k, w.heap.size ≤ k → v.ownBlock ≠ some k := fun k hk e => by have := (hvl k e).2; omega
      refine (hx.keep fun k e => ?_).mono fun k e => ?_
      · rcases e with e | e
        · exact hk23 k (by have := h.apart k e; omega) (hmv k e)
        · exact hk23 k e.2 (hne k e.1)
      · rcases e with e | e
        · exact .inl e
        · exact .inr ⟨by omega, by omega, hv' k e.2 (hne k e.1)⟩
  · rcases List.mem_append.1 hr with hr | hr
    · exact (h.ok r hr y hy).keep (hkr.mono fun k e => .inl e)
    · simp only [List.mem_singleton] at hr; subst hr
      exact (hxo y hy).keep (hkr.mono fun k e => .inl e)
theorem Pile.slice (h : Pile m n1 w v L) : ∃ A c, v = .slice A L.length c ∧ L.length ≤ c := by
  obtain ⟨vs, h1, h2⟩ := h.out
  rcases h1.2 with ⟨rfl, hn⟩ | ⟨g, cap, cur, rfl, -, -, hc, -⟩
  · exact ⟨none, 0, by rw [hn], by omega⟩
  · exact ⟨_, cap, rfl, hc⟩
/-- They can be handed in. -/
theorem Pile.rowsIn {A : Option Addr} {c : Nat} (h : Pile m n1 w (.slice A L.length c) L) : RowsIn (fun k => k < w.heap.size) w A L := ⟨fun i hi => by
  obtain ⟨vs, h1, h2⟩ := h.out
  have hlow := h.low
  obtain ⟨Ai, ci, g1, g2, g3⟩ := h2 i hi
  rcases h1.2 with ⟨e, hn⟩ | ⟨g, cap, cur, e, hg, hcur, hc, -⟩
  · omega
  · have hlt := World.ownsRow.lt h1 g (by rw [e]; rfl)
    have hcl := World.ownsRow.cells h1 (g := g) (by rw [e]; rfl) i _ g1
    injection e with e1 e2 e3
    refine ⟨⟨g, 0, none⟩, Ai, ci, e1, hlt.2, hcl, g2, g3.mono fun k e => ?_, fun x hx => (h.ok _ (List.getElem_mem hi) x hx).mono fun k e => ?_⟩
    · rcases e with e | e
      · have := h.apart k e; omega
      · exact e.2.1
    · have := h.apart k e; omega⟩
end
end Go.Proofs.Ytcfbblgoligagaa.KI

/-
  kmerge.Meet, walked: the numbers that all rows have.
-/
namespace Go.Proofs.Ytcfbblgoligagaa.KI
open Go.RowKit Go.Shelf

attribute [local go_sem] Oper.semAt_some

theorem ri_nodup {l : List Int} (h : Ri lt l) : l.Nodup := h.imp fun {a b} e => by
  intro h; subst h; rw [ordr.irrefl] at e; cases e
theorem count_rows (x : Int) : ∀ ll : List (List Int), ((ll.map (uniqL lt)).flatten).count x ≤ ll.length ∧ (((ll.map (uniqL lt)).flatten).count x = ll.length ↔ ∀ r ∈ ll, x ∈ r)
  | [] => by simp
  | r :: t => by
    obtain ⟨h1, h2⟩ := count_rows x t
    rw [List.map_cons, List.flatten_cons, List.count_append]
    have hr : (uniqL lt r).count x = if x ∈ r then 1 else 0 := by
      by_cases e : x ∈ r
      · rw [if_pos e]
        exact (ri_nodup (uniqL_ri ordr r)).count.trans (by rw [if_pos ((uniqL_mem ordr r x).2 e)])
      · rw [if_neg e]
        exact List.count_eq_zero.2 fun e2 => e ((uniqL_mem ordr r x).1 e2)
    rw [hr]
    by_cases e : x ∈ r
    · rw [if_pos e]
      simp only [List.length_cons, List.mem_cons, forall_eq_or_imp]
      exact ⟨by omega, by rw [← h2]; constructor; (intro g; exact ⟨e, by omega⟩); (rintro ⟨_, g⟩; omega)⟩
    · rw [if_neg e]
      simp only [List.length_cons, List.mem_cons, forall_eq_or_imp]
      exact ⟨by omega, by constructor; (intro g; omega); (rintro ⟨g, _⟩; exact absurd g e)⟩
theorem meet_plain (ll : List (List Int)) : ((runs (sortK lt ((ll.map (uniqL lt)).flatten.map key))).filter fun p => decide (p.2 = ll.length)).map (·.1) = meetL ll := by
  rw [show (ll.map (uniqL lt)).flatten.map key = (ll.map (uniqL lt)).flatten from List.map_id _]
  have hw := sortK_wk ordr (ll.map (uniqL lt)).flatten
  refine ri_unique ordr ?_ (List.Pairwise.filter _ (uniqL_ri ordr _)) fun x => ?_
  · exact List.Pairwise.sublist (List.Sublist.map _ (List.filter_sublist)) (runs_ri ordr hw)
  · have hc : (sortK lt (ll.map (uniqL lt)).flatten).count x = (ll.map (uniqL lt)).flatten.count x := (sortK_perm _).count_eq x
    have hm : x ∈ sortK lt (ll.map (uniqL lt)).flatten ↔ x ∈ ll.flatten := by
      rw [(sortK_perm _).mem_iff, List.mem_flatten, List.mem_flatten]
      constructor
      · rintro ⟨r, hr, hx⟩
        obtain ⟨r', hr', rfl⟩ := List.mem_map.1 hr
        exact ⟨r', hr', (uniqL_mem ordr _ _).1 hx⟩
      · rintro ⟨r, hr, hx⟩
        exact ⟨_, List.mem_map_of_mem hr, (uniqL_mem ordr _ _).2 hx⟩
    unfold meetL
    rw [List.mem_map, List.mem_filter, uniqL_mem ordr]
    constructor
    · rintro ⟨⟨y, k⟩, h1, rfl⟩
      rw [List.mem_filter] at h1
      obtain ⟨h1, h2⟩ := h1
      have h3 := (runs_mem ordr hw _ _).1 h1
      refine ⟨hm.1 h3.1, ?_⟩
      rw [List.all_eq_true]
      intro r hr
      have h4 : k = ll.length := by simpa using h2
      have := (count_rows y ll).2.1 (by rw [← hc, ← h3.2]; exact h4) r hr
      simpa using this
    · rintro ⟨h1, h2⟩
      rw [List.all_eq_true] at h2
      refine ⟨(x, _), List.mem_filter.2 ⟨(runs_mem ordr hw x _).2 ⟨hm.2 h1, rfl⟩, ?_⟩, rfl⟩
      have := (count_rows x ll).2.2 fun r hr => by simpa using h2 r hr
      simpa [hc] using this
theorem meet_len (ll : List (List Int)) : (meetL ll).length ≤ ll.flatten.length := by
  unfold meetL
  exact Nat.le_trans (List.length_filter_le _ _) (uniqL_len ordr _)
theorem own_seesM {w : World} {base n c : Nat} {e : TypeId} {A : Option Addr} {xs : List Value} (h : w.ownsRow base e 1 (.slice A n c) n xs) : SeesM (fun k => base ≤ k ∧ k < w.heap.size) w A xs := by
  rcases h.2 with ⟨e, hn⟩ | ⟨g, cap, cur, e, -⟩
  · exact ⟨.inl (List.eq_nil_of_length_eq_zero (by have := h.1; omega))⟩
  · have hlt := World.ownsRow.lt h g (by rw [e]; rfl)
    have hc := World.ownsRow.cells h (g := g) (by rw [e]; rfl)
    injection e with e1
    exact ⟨.inr ⟨_, e1, hlt, hc⟩⟩
theorem uniq_flat_len (ll : List (List Int)) : (ll.map (uniqL lt)).flatten.length ≤ ll.flatten.length := by
  induction ll with
  | nil => simp
  | cons r t ih => simp only [List.map_cons, List.flatten_cons, List.length_append]; have := uniqL_len ordr r; omega

set_option maxRecDepth 100000 in
set_option maxHeartbeats 3200000 in
theorem Meet_any (A : Option Addr) (n c : Nat) (ll : List (List El)) (w : World) (hR : RowsIn (fun k => k < w.heap.size) w A ll) (hn : ll.length = n) (hn6 : n ≤ 10000) (hl : ∀ r ∈ ll, r.length ≤ 1000000) (hK12 : ll.flatten.length ≤ 1000000000) :
    Calls Try.prog 18 #[.slice A n c] w (RowVal w (meetL ll)) := by
  have hU := meet_plain ll
  have hUl : (meetL ll).length ≤ 1000000000 := Nat.le_trans (meet_len ll) hK12
  rw [hn] at hU
  obtain ⟨U, hUU⟩ : ∃ U, meetL ll = U := ⟨_, rfl⟩
  rw [hUU] at hU hUl ⊢
  have HU := Lib.hid hU
  have hufl := uniq_flat_len ll
  have HN := Lib.hid hn
  have HL := Lib.hid hl
  clear hU hUU hn hl
  refine (callsIn_wide (n := 12)).1 ?_
  have hF := fun (A : Option Addr) (n c : Nat) W => counted_any A n c W
  unfold cmpF at hF
  have HF := fun (A : Option Addr) (n c : Nat) W => Lib.hid (hF A n c W)
  clear hF
  obtain ⟨wb, hwb⟩ : ∃ wb, w.alloc (.cells #[.slice A n c] 29) = wb := ⟨_, rfl⟩
  have hbb : Below w.heap.size w wb := by rw [← hwb]; exact (Below.refl _ w).alloc (Nat.le_refl _) _
  have hzb : wb.heap.size = w.heap.size + 1 := by rw [← hwb]; simp
  have bb : Box1 wb w.heap.size 29 (.slice A n c) := by rw [← hwb]; exact Box1.new w _ _
  have hRb := hR.keep (Kept.of_below hbb fun k e => e)
  have cb := bb.cell
  have fb := bb.frozen
  obtain ⟨ti, hi, hy0, hy1, hy2⟩ := info_parts rowinfo
  have HI := Lib.hid hi
  have HY0 := Lib.hid hy0
  have HY1 := Lib.hid hy1
  have HY2 := Lib.hid hy2
  clear hi hy0 hy1 hy2 hR
  refine callsIn_of_wp_marks Try.func18 rfl trivial ?_ rfl
  simp only [Try.ntmps18, List.size_toArray, List.length_cons, List.length_nil, Nat.reduceAdd, Nat.reduceSub, Array.replicate_succ, Array.replicate_zero, List.push_toArray, List.append_toArray, List.nil_append, List.cons_append]
  gi_wp2_with fail
  gi_loopg [3, 11] n (fun g o i wr => ∃ (k : Nat) (L : List (List El)) (Ao : Option Addr) (co : Nat), k + g = n ∧ i = .int .i64 k ∧ o = .slice Ao k co ∧ Pile (fun _ => False) wb.heap.size wr (.slice Ao k co) L ∧ Hid (L = (ll.take k).map (uniqL lt)) ∧ Hid (L.length = k) ∧ Below wb.heap.size wb wr)
  case atStart => exact ⟨0, [], none, 0, by omega, rfl, rfl, Pile.nil _ _ _ (fun _ e => e.elim) (Nat.le_refl _), rfl, rfl, Below.refl _ _⟩
  case round =>
    obtain ⟨k, L, Ao, co, hk, rfl, rfl, hP, hL, hLk, hbr⟩ := hrel
    have hsr := hbr.size
    by_cases hlt : k < n
    · have hRr := hRb.keep (Kept.of_below hbr fun k e => by omega)
      obtain ⟨ad, Ak, ck, rfl, hadm, hcell, hck, hsee, -⟩ := hRr.out k (by have := HN.out; omega)
      have hlen := HL.out _ (List.getElem_mem (by have := HN.out; omega : k < ll.length))
      have htk := List.take_succ_eq_append_getElem (by have := HN.out; omega : k < ll.length)
      obtain ⟨xs, hxs2⟩ : ∃ xs, ll[k]'(by have := HN.out; omega) = xs := ⟨_, rfl⟩
      rw [hxs2] at hcell hck hsee hlen htk
      obtain ⟨lk, hlk⟩ : ∃ lk, xs.length = lk := ⟨_, rfl⟩
      rw [hlk] at hcell hck hlen
      have hi1 := Lib.hid (Ints_any (some ⟨wr.heap.size, 0, none⟩) 1 1 [xs] _ (rowsIn_one wr Ak lk ck xs hlk hck (hsee.sees fun k e => by omega)) rfl (by omega) (by simp; omega) (by simp; omega))
      simp only [List.flatten_cons, List.flatten_nil, List.append_nil] at hi1
      have hul := uniqL_len ordr xs
      have hul2 : (uniqL lt xs).length ≤ 1000000 := by omega
      obtain ⟨u, hu⟩ : ∃ u, uniqL lt xs = u := ⟨_, rfl⟩
      obtain ⟨lu, hlu⟩ : ∃ lu, u.length = lu := ⟨_, rfl⟩
      rw [hu] at hi1 hul2
      rw [hlu] at hul2
      have HTK := Lib.hid htk
      have HU1 := Lib.hid hu
      have HLU := Lib.hid hlu
      clear hRr htk hlk hxs2 hul hu hlu hsee hlen
      gi_wp2_with fail
      refine ⟨trivial, (callsIn_wide.2 hi1.out).mono ?_⟩
      rintro e w2 ⟨v2, rfl, hown2, hb2'⟩
      have hb2 : Below wr.heap.size wr w2 := ((Below.refl _ wr).alloc (Nat.le_refl _) _).trans (hb2'.mono (by simp))
      rw [HLU.out] at hown2
      obtain ⟨A2, c2, rfl, hc2⟩ := own_slice hown2
      have hs2 := hb2.size
      obtain ⟨vs, hvs, hvs2⟩ := hP.out
      rw [hLk.out] at hvs
      have hvsx := own_below hvs hb2
      have hvsy : (w2.alloc (.cells #[.slice A2 lu c2] 30)).ownsRow wb.heap.size 30 1 (.slice Ao k co) k vs := hvsx.alloc _
      have hnew : ∀ (j : Nat) (u : Value), [Value.slice A2 lu c2][j]? = some u → (w2.alloc (.cells #[.slice A2 lu c2] 30)).cell? ((⟨w2.heap.size, 0, none⟩ : Addr).add j) = some u := fun j u hu => by
        match j, hu with
        | 0, hu => (simp at hu; subst hu; rw [Addr.add_lit, World.cell?_alloc_at _ _ _ _ rfl]; rfl)
      have HNEW := Lib.hid hnew
      have HVS := Lib.hid hvs
      have HVS2 := Lib.hid hvs2
      have hpb : Below wr.heap.size wr (w2.alloc (.cells #[.slice A2 lu c2] 30)) := hb2.alloc hs2 _
      have hsx : SeesM (fun k => False ∨ (wr.heap.size ≤ k ∧ k < (w2.alloc (.cells #[.slice A2 lu c2] 30)).heap.size)) (w2.alloc (.cells #[.slice A2 lu c2] 30)) A2 (u.map val) := (own_seesM (hown2.alloc _)).mono fun k e => .inr ⟨by have := e.1; simp at this; omega, e.2⟩
      clear hi1 hnew hvs hvs2 hvsx
      gi_wp2_with ((with_reducible refine wpListIn_append_own_at _ (o := { dst := some 20, op := Op.call { callee := Callee.builtin Builtin.append, args := #[Operand.tmp 15, Operand.tmp 19], argTypes := #[29, 29] }, type := 29, pos := "kmerge.go:101", after := #[{ on := 0, ground := Ground.data }, { on := 4, ground := Ground.data }, { on := 3, ground := Ground.chain }], guard := none }) ?_ (.tmp 15) (.tmp 19) 29 ?_ wb.heap.size 30 ti (.slice none 0 0) 1 24 ?_ HI.out HY0.out HY1.out HY2.out ?_ ?_ (.slice Ao k co) k vs ?_ hvsy ⟨w2.heap.size, 0, none⟩ 1 1 [.slice A2 lu c2] ?_ ?_ HNEW.out ?_ ?_ ?_ ?_ ?_); exact rfl; exact rfl; exact Try.underlying29; exact rfl; omega; exact rfl; exact rfl; exact rfl; (exact fun u hu => by simp at hu; subst hu; rfl); (simp only [maxLen]; omega); omega; (simp; omega); intro v' w3 hown3 hg3 _ hat3)
      have hon3 : Onto (w2.alloc (.cells #[.slice A2 lu c2] 30)) w3 (.slice Ao k co) v' := ⟨hg3, by rcases hat3 with e | e; exact .inl e; exact .inr ⟨_, e, Nat.le_refl _⟩⟩
      have hP3 := hP.push hpb hsx (by rw [HLU.out]; exact hc2) (fun y _ => ⟨trivial⟩) vs (by rw [hLk.out]; exact HVS.out) HVS2.out (by rw [hLk.out, HLU.out]; exact hown3) hon3
      have hL3 : (L ++ [u]).length = k + 1 := by rw [List.length_append, hLk.out]; rfl
      obtain ⟨A3, c3, hv3, hc3⟩ := hP3.slice
      rw [hL3] at hv3
      subst hv3
      have hb3 : Below wb.heap.size wb w3 := (hbr.trans (hpb.mono hsr)).trans ((Turn.onto (T := fun k => wb.heap.size ≤ k) hon3 fun k e => (World.ownsRow.lt HVS.out k e).1).below (fun j e => e) (by simp; omega))
      gi_roundg (n - (k + 1))
      case measure => omega
      case rel => exact ⟨k + 1, L ++ [u], A3, c3, by omega, by go_num, rfl, hP3, by rw [HTK.out, List.map_append, ← hL.out, List.map_cons, List.map_nil, HU1.out]; exact rfl, hL3, hb3⟩
    · have HKN : Hid (k = n) := (by omega : k = n)
      have hL2 : L = ll.map (uniqL lt) := by rw [hL.out, List.take_of_length_le (by have := HN.out; have := HKN.out; omega)]
      have hfl : L.flatten.length ≤ 1000000000 := by rw [hL2]; omega
      have hfr : ∀ r ∈ L, r.length ≤ 1000000 := fun r hr => by
        rw [hL2] at hr
        obtain ⟨r', hr', rfl⟩ := List.mem_map.1 hr
        have := uniqL_len ordr r'
        have := HL.out r' hr'
        omega
      have hU := HU.out
      rw [← hL2] at hU
      have HU2 := Lib.hid hU
      have hPR := (by have := hP; rw [← hLk.out] at this; exact this.rowsIn : RowsIn (fun k => k < wr.heap.size) wr Ao L)
      have hb0w : Below w.heap.size w wr := hbb.trans (hbr.mono hbb.size)
      have bbr := bb.below hbr bb.lt
      clear HU hU hL2 hRb hP cb fb bb
      gi_wp2_with fail
      refine ⟨trivial, (callsIn_wide.2 (HF _ _ _ _).out).mono ?_⟩
      rintro e w1 ⟨rfl, hw1⟩
      have b0 := Box1.new wr 30 (.slice none 0 0)
      have hb0 : Below wr.heap.size wr (wr.alloc (.cells #[.slice none 0 0] 30)) := (Below.refl _ wr).alloc (Nat.le_refl _) _
      have hz0 : (wr.alloc (.cells #[.slice none 0 0] 30)).heap.size = wr.heap.size + 1 := by simp
      generalize wr.alloc (.cells #[.slice none 0 0] 30) = Wa at b0 hb0 hz0 hw1 ⊢
      have b2 := (Box1.new Wa 29 (.slice Ao k co)).alloc (.cells #[.func (.func 29) #[] #[]] 53)
      have b3 := Box1.new (Wa.alloc (.cells #[.slice Ao k co] 29)) 53 (.func (.func 29) #[] #[])
      rw [World.size_alloc] at b3
      rw [← hw1, hz0] at b2 b3
      have hb1 : Below Wa.heap.size Wa w1 := by rw [hw1]; exact ((Below.refl _ Wa).alloc (Nat.le_refl _) _).alloc (by simp) _
      have hz1 : w1.heap.size = wr.heap.size + 1 + 1 + 1 := by rw [hw1]; simp [hz0]
      have c0 := b0.turn (Turn.of_new (T := fun _ => False) hb1) id
      have hbw : Below wr.heap.size wr w1 := hb0.trans (hb1.mono (by omega))
      have hD := counted1_seq (w := w1) (c := co) wr.heap.size (hPR.keep (Kept.of_below hbw fun k e => e)) hLk.out (by omega) hfr (wr.heap.size + 1) (wr.heap.size + 1 + 1) b2.cell b3.cell (by omega) (by omega) (by omega) (by omega) 11
      have hKl : (sortK lt (L.flatten.map key)).length ≤ 1000000000 := by rw [(sortK_perm _).length_eq, List.length_map]; exact hfl
      have hU := HU2.out
      obtain ⟨K, hK⟩ : ∃ K, sortK lt (L.flatten.map key) = K := ⟨_, rfl⟩
      rw [hK] at hD hKl hU
      clear HU2
      have HU := Lib.hid hU
      have HKL := Lib.hid hKl
      have hltb := bbr.lt
      obtain ⟨ti, hi, hy0, hy1, hy2⟩ := info_parts iinfo
      clear HF hw1 b0 hb0 hb1 b2 b3 hPR hfr hfl hK hKl hU HI HY0 HY1 HY2 hlt hk
      rw [hz0]
      gi_wp2_with fail
      refine wpIn_rangeFunc_T (F := Fence.wide) (n := 12) rfl (by omega) (gf := 37) (lb := #[.pointer (some ⟨wr.heap.size + 1, 0, none⟩), .pointer (some ⟨wr.heap.size + 1 + 1, 0, none⟩)]) rfl trivial (enters_of Try.func37 (by kernel_rfl) rfl)
        hD (Below.refl _ _) (fun _ => rfl) (fun k hk => by rcases hk with (hk | rfl | rfl) | hk <;> first | omega | exact hk.elim)
        (fun s pre x A B h hR ht => cntOk_keep h (by omega) ht)
        (fun s pre W => IntsSt wr wr.heap.size (wr.heap.size + 1 + 1 + 1) (wr.heap.size + 1 + 1 + 1) s ((pre.filter fun p => decide (p.2 = n)).map (·.1)) W)
        (fun c s pre wr => False)
        ?hI ?hIx ?hI2 ?hIx2 ?h0 (fun y => { tmps := #[.slice A n c, .pointer (some ⟨w.heap.size, 0, none⟩), .slice none 0 0, .slice Ao k co, undef, u5, .pointer (some ⟨wr.heap.size, 0, none⟩), .int .i64 y.1, .int .i64 (y.2 : Nat), .slice A n c, .int .i64 (n : Nat), .int .i64 (k : Nat), .bool false, u13, u14, u15, u16, u17, u18, u19, u20, u21, .slice Ao k co, .func (.func 37) #[] #[.pointer (some ⟨wr.heap.size + 1, 0, none⟩), .pointer (some ⟨wr.heap.size + 1 + 1, 0, none⟩)], .int .i64 y.1, .int .i64 (y.2 : Nat), undef, undef, undef, undef, undef, undef, undef, undef, undef], defers := [] }) ?assign ?body ?done ?stop
      case hI => exact fun s pre A B h ht => h.step (by omega) (Nat.le_refl _) (by omega) ht (fun k e => .inl e) (fun k e => e)
      case hIx => exact fun c s pre A B h ht => h
      case hI2 => exact fun s pre A B h ht => h.step (by omega) (Nat.le_refl _) (by omega) ht (fun k e => .inr (by omega)) (fun k e => .inl e)
      case hIx2 => exact fun c s pre A B h ht => h
      case h0 => exact ⟨fun k e => e.elim, hbw, by omega, _, c0, World.ownsRow_nil _ _ _ _, fun k e => by simp [Value.ownBlock] at e⟩
      case assign =>
        intro l y W K hK
        dsimp only [val]
        gi_wp2
        exact hK
      case body =>
        rintro l s pre ⟨y, m⟩ W hSt hlt ⟨k1, k2, k3, k4⟩ hdW
        have bbW := bbr.below hSt.below hltb
        have cbW := bbW.cell
        by_cases hm : n = m
        · subst hm
          obtain ⟨v, hbox, hrow, hblk⟩ := hSt.out
          have hpl : ((pre.filter fun p => decide (p.2 = n)).map (·.1)).length ≤ 1000000000 := by
            have h1 := runs_len K
            have h2 := HKL.out
            have h3 := List.length_filter_le (fun p : El × Nat => decide (p.2 = n)) pre
            rw [List.length_map]; omega
          obtain ⟨ln, hln⟩ : ∃ ln, ((pre.filter fun p => decide (p.2 = n)).map (·.1)).length = ln := ⟨_, rfl⟩
          rw [hln] at hpl hrow
          obtain ⟨Av, cv, rfl⟩ : ∃ Av cv, v = .slice Av ln cv := by
            rcases hrow.2 with ⟨rfl, hn⟩ | ⟨g, cap, cur, rfl, -⟩
            · exact ⟨none, 0, by rw [hn]⟩
            · exact ⟨_, cap, rfl⟩
          have c7 := hbox.cell
          have hobv : (Value.slice Av ln cv).ownBlock ≠ some wr.heap.size := fun e => by have := (hblk _ e).1; omega
          have hdl : wr.heap.size + 1 + 1 + 1 + 2 ≤ W.heap.size := by omega
          have hnb : Below W.heap.size W (W.alloc (.cells #[.int .i64 y] 3)) := (Below.refl _ _).alloc (Nat.le_refl _) _
          have hsee : Sees (W.alloc (.cells #[.int .i64 y] 3)) (W.heap.size + 1) (some ⟨W.heap.size, 0, none⟩) [.int .i64 y] := ⟨.inr ⟨_, rfl, by simp, fun j u hu => by match j, hu with | 0, hu => (simp at hu; subst hu; rw [Addr.add_lit, World.cell?_alloc_at _ _ _ _ rfl]; rfl)⟩⟩
          have hrow2 := hrow.alloc (.cells #[.int .i64 y] 3)
          have HLN := Lib.hid hln
          have HZ1 := Lib.hid hz1
          clear hln hz1 hD c0 hbw
          gi_wp2_with ((with_reducible refine wpListIn_append_v (o := { dst := some 33, op := Op.call { callee := Callee.builtin Builtin.append, args := #[Operand.tmp 30, Operand.tmp 32], argTypes := #[30, 30] }, type := 30, pos := "kmerge.go:106", after := #[{ on := 0, ground := Ground.data }, { on := 2, ground := Ground.data }], guard := none }) ?_ (.tmp 30) (.tmp 32) 30 ?_ 3 ti _ 1 8 ?_ hi hy0 hy1 hy2 ?_ ?_ (wr.heap.size + 1 + 1 + 1 + 2) (.slice Av ln cv) ln _ ?_ hrow2 _ (some ⟨W.heap.size, 0, none⟩) 1 1 [.int .i64 y] ?_ ?_ hsee ?_ ?_ ?_ ?_ ?_); exact rfl; exact rfl; exact Try.underlying30; exact rfl; omega; exact rfl; exact rfl; exact rfl; (exact fun u hu => by simp at hu; subst hu; rfl); (simp only [maxLen]; omega); omega; (simp; omega); intro v' wn hown hon; obtain ⟨gv, cv', rfl⟩ := ownsRow_succ hown; have b3 := (hbox.below hnb hbox.lt).turn (Turn.onto (T := fun k => (Value.slice Av ln cv).ownBlock = some k) hon fun k e => e) hobv; have c3 := b3.cell; have f3 := b3.frozen)
          have hput := ints_put hSt (by omega) (Nat.le_refl _) (Nat.le_refl _) hdl hbox (by rw [HLN.out]; exact hrow) hblk hnb (by rw [HLN.out]; exact hown) hon
          refine ⟨hput.2.mono fun j _ e => ?_, by show IntsSt _ _ _ _ s (((pre ++ [(y, n)]).filter fun p => decide (p.2 = n)).map (·.1)) _; rw [List.filter_append, List.map_append, List.filter_cons_of_pos (by simp)]; exact hput.1⟩
          rcases e with rfl | e
          · exact ⟨fun e => by have := (hSt.sep _ e).1; omega, by omega, by have := HZ1.out; omega, by have := HZ1.out; omega⟩
          · have h1 := hblk j e
            exact ⟨h1.2, by omega, by have := HZ1.out; omega, by have := HZ1.out; omega⟩
        · have hm2 : ¬ ((m : Int) = (n : Int)) := by omega
          have hSt2 : IntsSt wr wr.heap.size (wr.heap.size + 1 + 1 + 1) (wr.heap.size + 1 + 1 + 1) s (((pre ++ [(y, m)]).filter fun p => decide (p.2 = n)).map (·.1)) W := by
            rw [List.filter_append, List.filter_cons_of_neg (by simp; omega), List.filter_nil, List.append_nil]; exact hSt
          clear hD c0 hbw
          gi_wp2_with fail
          exact ⟨Turn.refl _ _, hSt2⟩
      case done =>
        rintro s xs W hS hSt hK
        obtain ⟨v, hbox, hrow, hblk⟩ := hSt.out
        have hxs : (xs.filter fun p => decide (p.2 = n)).map (·.1) = U := by rw [← HU.out, ← show xs.map (tk key) = runs K from hS, show tk key = id from rfl, List.map_id]
        rw [hxs] at hrow
        obtain ⟨ln, hln⟩ : ∃ ln, U.length = ln := ⟨_, rfl⟩
        rw [hln] at hrow
        obtain ⟨Av, cv, rfl⟩ : ∃ Av cv, v = .slice Av ln cv := by
          rcases hrow.2 with ⟨rfl, hn⟩ | ⟨g, cap, cur, rfl, -⟩
          · exact ⟨none, 0, by rw [hn]⟩
          · exact ⟨_, cap, rfl⟩
        have c7 := hbox.cell
        have hpt := Turn.putObj W w1.heap.size (.deferred none) (T := fun k => k = w1.heap.size) rfl
        have hrow2 := ownsRow_kept (w' := W.putObj w1.heap.size (.deferred none)) hrow fun k e => hpt.block k (World.ownsRow.lt hrow k e).2 (by have := (hblk k e).1; omega)
        have hbel := hSt.below.trans (hpt.below (b := wr.heap.size) (fun j hj => by omega) hSt.below.size)
        have hrow3 := owns_le hrow2 (b := w.heap.size) (by omega)
        have hbel' := Lib.hid (hb0w.trans (hbel.mono (by omega)))
        have HLN := Lib.hid hln
        clear hln hz1 hD c0 hbw hxs
        gi_wp2_with fail
        refine ⟨by simp, .inl ⟨_, _, rfl, run_takeDeferred hK, ?_⟩⟩
        refine ⟨_, results_tmp rfl _ _ _, .slice Av ln cv, rfl, ?_, hbel'.out⟩
        rw [HLN.out]
        exact hrow3
      case stop => exact fun c s pre W h1 h2 h3 => h2.elim
end Go.Proofs.Ytcfbblgoligagaa.KI

/-
  Rows of numbers put together for a call: the calls of the laws.
-/
namespace Go.Proofs.Ytcfbblgoligagaa.KI
open Go.RowKit

theorem rowsIn_new (w : World) (vs : List Value) (t : TypeId) (ll : List (List El)) (h : ∀ i (hi : i < ll.length), ∃ Ai ci, vs[i]? = some (.slice Ai (ll[i]).length ci) ∧ (ll[i]).length ≤ ci ∧ Sees w w.heap.size Ai (iv ll[i])) :
    RowsIn (fun k => k < (w.alloc (.cells vs.toArray t)).heap.size) (w.alloc (.cells vs.toArray t)) (some ⟨w.heap.size, 0, none⟩) ll := ⟨fun i hi => by
  obtain ⟨Ai, ci, h1, h2, h3⟩ := h i hi
  refine ⟨_, Ai, ci, rfl, by simp, ?_, h2, (h3.alloc (Nat.le_refl _) _).toM.mono fun k e => by simp; omega, fun x _ => ⟨trivial⟩⟩
  rw [Addr.add_lit, World.cell?_alloc_at _ _ _ _ rfl]
  simpa using h1⟩
theorem rowI_back {w w1 w' : World} {l : List Int} {e : Ending} (hb : Below w.heap.size w w1) (h : RowI w1 l e w') : RowI w l e w' := by
  obtain ⟨A, c, h1, h2, h3, h4⟩ := h
  exact ⟨A, c, h1, h2, h3, hb.trans (h4.mono hb.size)⟩
theorem below_new (w : World) (o : Obj) : Below w.heap.size w (w.alloc o) := (Below.refl _ w).alloc (Nat.le_refl _) _

/-- A row that is seen: how it is handed on. -/
structure Row (w : World) (A : Option Addr) (n c : Nat) (l : List Int) : Prop where
  len : l.length = n
  cap : n ≤ c
  few : n ≤ 1000000
  sees : Sees w w.heap.size A (iv l)
section
variable {w w' : World} {A B C : Option Addr} {n m k c d e : Nat} {a b x : List Int}
theorem Row.below (h : Row w A n c a) (hb : Below w.heap.size w w') : Row w' A n c a := ⟨h.len, h.cap, h.few, (h.sees.below hb).more hb.size⟩
theorem Row.drew (h : Row w A n c a) : Row w.drew A n c a := h.below (below_drew (Below.refl _ _))
theorem Row.new (w : World) (bb : Nat) (hbb : w.heap.size = bb) (l : List Int) (hl : l.length = n) (hn : n ≤ 1000000) : Row (w.alloc (.cells (iv l).toArray 3)) (some ⟨bb, 0, none⟩) n n l := by
  subst hbb
  exact ⟨hl, Nat.le_refl _, hn, ⟨.inr ⟨_, rfl, by simp, fun j u hu => by rw [Addr.add_lit, World.cell?_alloc_at _ _ _ _ rfl]; simpa using hu⟩⟩⟩
theorem ints_1 (h : Row w A n c a) (bb : Nat) (hbb : w.heap.size = bb) : Calls Try.prog 16 #[.slice (some ⟨bb, 0, none⟩) 1 1] (w.alloc (.cells #[.slice A n c] 30)) (RowI w (uniqL lt a)) := by
  subst hbb
  have h0 := h.few
  have h1 := h.len
  have := Ints_any (some ⟨w.heap.size, 0, none⟩) 1 1 [a] _ (rowsIn_new w [.slice A n c] 30 [a] (fun i hi => by
    match i, hi with
    | 0, _ => exact ⟨A, c, by rw [← h1]; rfl, by show a.length ≤ c; rw [h1]; exact h.cap, h.sees⟩)) rfl (by omega) (by simp; omega) (by simp; omega)
  rw [show [a].flatten = a from by simp] at this
  exact this.mono fun e w' hr => rowI_back (below_new w _) hr.rowI
theorem two_rows (h : Row w A n c a) (g : Row w B m d b) (t : TypeId) : RowsIn (fun k => k < (w.alloc (.cells #[.slice A n c, .slice B m d] t)).heap.size) (w.alloc (.cells #[.slice A n c, .slice B m d] t)) (some ⟨w.heap.size, 0, none⟩) [a, b] :=
  rowsIn_new w [.slice A n c, .slice B m d] t [a, b] (fun i hi => by
    match i, hi with
    | 0, _ => exact ⟨A, c, by rw [← h.len]; rfl, by show a.length ≤ c; rw [h.len]; exact h.cap, h.sees⟩
    | 1, _ => exact ⟨B, d, by rw [← g.len]; rfl, by show b.length ≤ d; rw [g.len]; exact g.cap, g.sees⟩)
theorem ints_2 (h : Row w A n c a) (g : Row w B m d b) (bb : Nat) (hbb : w.heap.size = bb) : Calls Try.prog 16 #[.slice (some ⟨bb, 0, none⟩) 2 2] (w.alloc (.cells #[.slice A n c, .slice B m d] 30)) (RowI w (uniqL lt (a ++ b))) := by
  subst hbb
  have h0 := h.few
  have h1 := h.len
  have g0 := g.few
  have g1 := g.len
  have := Ints_any (some ⟨w.heap.size, 0, none⟩) 2 2 [a, b] _ (two_rows h g 30) rfl (by omega) (by simp; omega) (by simp; omega)
  rw [show [a, b].flatten = a ++ b from by simp] at this
  exact this.mono fun e w' hr => rowI_back (below_new w _) hr.rowI
theorem meet_2 (h : Row w A n c a) (g : Row w B m d b) (bb : Nat) (hbb : w.heap.size = bb) : Calls Try.prog 18 #[.slice (some ⟨bb, 0, none⟩) 2 2] (w.alloc (.cells #[.slice A n c, .slice B m d] 30)) (RowI w (meetL [a, b])) := by
  subst hbb
  have h0 := h.few
  have h1 := h.len
  have g0 := g.few
  have g1 := g.len
  exact (Meet_any (some ⟨w.heap.size, 0, none⟩) 2 2 [a, b] _ (two_rows h g 30) rfl (by omega) (by simp; omega) (by simp; omega)).mono fun e w' hr => rowI_back (below_new w _) hr.rowI
theorem meet_3 (h : Row w A n c a) (g : Row w B m d b) (f : Row w C k e x) (bb : Nat) (hbb : w.heap.size = bb) : Calls Try.prog 18 #[.slice (some ⟨bb, 0, none⟩) 3 3] (w.alloc (.cells #[.slice A n c, .slice B m d, .slice C k e] 30)) (RowI w (meetL [a, b, x])) := by
  subst hbb
  have h0 := h.few
  have h1 := h.len
  have g0 := g.few
  have g1 := g.len
  have f0 := f.few
  have f1 := f.len
  exact (Meet_any (some ⟨w.heap.size, 0, none⟩) 3 3 [a, b, x] _ (rowsIn_new w [.slice A n c, .slice B m d, .slice C k e] 30 [a, b, x] (fun i hi => by
    match i, hi with
    | 0, _ => exact ⟨A, c, by rw [← h.len]; rfl, by show a.length ≤ c; rw [h.len]; exact h.cap, h.sees⟩
    | 1, _ => exact ⟨B, d, by rw [← g.len]; rfl, by show b.length ≤ d; rw [g.len]; exact g.cap, g.sees⟩
    | 2, _ => exact ⟨C, e, by rw [← f.len]; rfl, by show x.length ≤ e; rw [f.len]; exact f.cap, f.sees⟩)) rfl (by omega) (by simp; omega) (by simp; omega)).mono fun e w' hr => rowI_back (below_new w _) hr.rowI
theorem meet_0 (w : World) : Calls Try.prog 18 #[.slice none 0 0] w (RowI w []) :=
  (Meet_any none 0 0 [] w ⟨fun i hi => absurd hi (by simp)⟩ rfl (by omega) (by simp) (by simp)).mono fun e w' hr => hr.rowI
theorem less_2 (h : Row w A n c a) (g : Row w B m d b) : Calls Try.prog 20 #[.slice A n c, .slice B m d] w (RowI w (lessL a b)) := by
  rw [← less_plain]
  exact Less_any A B n c m d a b h.len h.cap g.len g.cap w h.sees g.sees h.few g.few
theorem same_2 (h : Row w A n c a) (g : Row w B m d b) (he : a = b) : Calls Try.prog 15 #[.slice A n c, .slice B m d] w (Gives w (.bool true)) :=
  (SameI_any A B n c m d a b h.len g.len w h.sees g.sees (by have := h.few; omega)).mono fun _ _ h => by
    obtain ⟨h1, q, h2⟩ := h
    exact ⟨by rw [h1, he]; simp, by rw [h2]; exact below_d (Below.refl _ _) q⟩
end
/-- What a call gave, as a row. -/
theorem RowI.row {w w' : World} {l : List Int} {e : Ending} (h : RowI w l e w') (hl : l.length ≤ 1000000) : ∃ A c, e = .returned (.slice A l.length c) ∧ Row w' A l.length c l ∧ Below w.heap.size w w' := by
  obtain ⟨A, c, h1, h2, h3, h4⟩ := h
  exact ⟨A, c, h1, ⟨rfl, h2, hl, h3⟩, h4⟩
end Go.Proofs.Ytcfbblgoligagaa.KI
