/-
  The document's Check, From and Prefix of rising items.
-/
import Derived.Test.YtmdphaagbmipcaaDoorIpTurn
namespace Go.Proofs.YtmdphaagbmipcaaDoor
open Go.RowKit

/-- May items be a file's? -/
def checkR (ls : List Item) : Nat := if 2000 < ls.length then 2 else if ls.length = 0 ∨ okB ls = false then 1 else 0

set_option maxRecDepth 100000 in
set_option maxHeartbeats 800000 in
theorem RefCheck_any (A : Option Addr) (n c : Nat) (ls : List Item) (hn : ls.length = n) (w : World) (hS : Sees2 w w.heap.size A ls) (hlen : n ≤ 1099511627776) :
    Calls Tryd.prog 17 #[.slice A n c] w (NumIs w (checkR ls)) := by
  have hnot : ∀ (x : Bool) (w : World), (Op.unary .not (.bool x)).run Tryd.prog w = .ok (.bool (!x)) w := fun _ _ => rfl
  obtain ⟨X, hX⟩ : ∃ X, checkR ls = X := ⟨_, rfl⟩
  rw [hX]
  unfold checkR at hX
  rw [hn] at hX
  by_cases h2000 : 2000 < n
  · rw [if_pos h2000] at hX
    have HX := Lib.hid hX
    clear hX hn
    go_enter Tryd.func17, Tryd.ntmps17
    go_wp2
    go_ret
    unfold NumIs
    rw [← HX.out]
    exact ⟨rfl, 0, rfl⟩
  rw [if_neg h2000] at hX
  obtain ⟨r, hr⟩ : ∃ r, risesB ls = r := ⟨_, rfl⟩
  have hRi := RefRises_any A n c ls hn w hS hlen
  rw [hr] at hRi
  have hX2 : Hid (X = if n = 0 ∨ r = false ∨ ls.any badL = true then 1 else 0) := by
    unfold Hid
    rw [← hX]
    unfold okB
    rw [hr]
    cases r <;> cases ls.any badL <;> simp
  have HN := Lib.hid hn
  obtain ⟨an, han⟩ : ∃ an, ls.any badL = an := ⟨_, rfl⟩
  rw [han] at hX2
  have HAN := Lib.hid han
  have HRi := Lib.hid hRi
  clear hX hn hr han hRi
  go_enter Tryd.func17, Tryd.ntmps17
  go_wp2_with fail
  refine HRi.out.mono ?_
  rintro e w1 ⟨rfl, q, rfl⟩
  go_wp2
  go_loopg [4] n (fun g i wr => ∃ k : Nat, k + g = n ∧ i = .int .i64 k ∧ Hid (an = (ls.drop k).any badL) ∧ wr = w.drewN q)
  case atStart => exact ⟨0, by omega, rfl, HAN.out.symm, rfl⟩
  case round =>
    obtain ⟨k, hk, rfl, heq, rfl⟩ := hrel
    by_cases hlt : k < n
    · obtain ⟨ad, Ai, ci, rfl, hadB, hcell, hci, hsee⟩ := hS.out k (by have := HN.out; omega)
      have hstep := Lib.hid (heq.out.trans (any_at (ls := ls) (k := k) (by have := HN.out; omega)))
      obtain ⟨L, hL⟩ : ∃ L, ls[k]'(by have := HN.out; omega) = L := ⟨_, rfl⟩
      rw [hL] at hcell hci hsee hstep
      have hcellq : (w.drewN q).cell? (ad.add k) = some (.slice Ai L.length ci) := hcell
      clear hL heq
      by_cases hb0 : L.length < 1
      · have HF : Hid (X = 1) := by
          have h1 := hX2.out
          have h2 := hstep.out
          unfold badL at h2
          rw [decide_eq_true hb0, Bool.true_or, Bool.true_or] at h2
          unfold Hid
          rw [h1, h2]; simp
        clear hstep
        go_wp2
        go_ret
        unfold NumIs
        rw [HF.out]
        exact ⟨rfl, q, rfl⟩
      · by_cases hb : 400 < L.length
        · have HF : Hid (X = 1) := by
            have h1 := hX2.out
            have h2 := hstep.out
            unfold badL at h2
            rw [decide_eq_true hb, Bool.or_true, Bool.true_or] at h2
            unfold Hid
            rw [h1, h2]; simp
          clear hstep
          go_wp2
          go_ret
          unfold NumIs
          rw [HF.out]
          exact ⟨rfl, q, rfl⟩
        · have hT : Hid (an = (ls.drop (k + 1)).any badL) := by
            have h2 := hstep.out
            unfold badL at h2
            rw [decide_eq_false hb, decide_eq_false hb0, Bool.or_self, Bool.false_or] at h2
            exact h2
          clear hstep
          go_wp2
          go_roundg (n - (k + 1))
          case measure => omega
          case rel => exact ⟨k + 1, by omega, by go_num, hT, rfl⟩
    · have HF : Hid (an = false) := by have := heq.out; rw [List.drop_eq_nil_of_le (by have := HN.out; omega)] at this; exact this
      have h2 := hX2.out
      rw [HF.out] at h2
      clear heq
      cases r with
      | false =>
        have h3 : Hid (X = 1) := by unfold Hid; rw [h2]; simp
        clear h2
        go_wp2
        go_ret
        unfold NumIs
        rw [h3.out]
        exact ⟨rfl, q, rfl⟩
      | true =>
        by_cases hn0 : n = 0
        · have h3 : Hid (X = 1) := by unfold Hid; rw [h2, hn0]; simp
          clear h2
          go_wp2
          go_ret
          unfold NumIs
          rw [h3.out]
          exact ⟨rfl, q, rfl⟩
        · have h3 : Hid (X = 0) := by unfold Hid; rw [h2]; simp [hn0]
          clear h2
          go_wp2
          go_ret
          unfold NumIs
          rw [h3.out]
          exact ⟨rfl, q, rfl⟩

/-- A row of the call's own whose rows of bytes lie below its blocks. -/
structure RowR (w : World) (base : Nat) (v : Value) (ls : List (List UInt8)) : Prop where
  out : ∃ vs : List Value, w.ownsRow base 23 1 v ls.length vs ∧ ∀ i (hi : i < ls.length), ∃ Ai ci, vs[i]? = some (.slice Ai (ls[i]).length ci) ∧ (ls[i]).length ≤ ci ∧ Sees w base Ai (bv ls[i])
section
variable {w w' : World} {base : Nat} {v : Value} {ls : List (List UInt8)}
theorem RowR.nil (w : World) (base : Nat) : RowR w base (.slice none 0 0) [] := ⟨[], World.ownsRow_nil w base _ 1, fun i hi => absurd hi (by simp)⟩
theorem RowR.below (h : RowR w base v ls) (hb : Below w.heap.size w w') (hB : base ≤ w.heap.size) : RowR w' base v ls := by
  obtain ⟨vs, h1, h2⟩ := h.out
  refine ⟨vs, own_below h1 hb, fun i hi => ?_⟩
  obtain ⟨Ai, ci, h3, h4, h5⟩ := h2 i hi
  exact ⟨Ai, ci, h3, h4, h5.below (hb.mono hB)⟩
theorem RowR.open_ (h : RowR w base v ls) (hB : base ≤ w.heap.size) : ∃ A c, v = .slice A ls.length c ∧ ls.length ≤ c ∧ Sees2 w w.heap.size A ls := by
  obtain ⟨vs, h1, h2⟩ := h.out
  rcases h1.2 with ⟨rfl, hn⟩ | ⟨g, cap, cur, rfl, hb, hh, hc, hm, _⟩
  · have : ls = [] := List.eq_nil_of_length_eq_zero hn
    subst this
    exact ⟨none, 0, rfl, by simp, ⟨fun i hi => absurd hi (by simp)⟩⟩
  · refine ⟨_, cap, rfl, hc, ⟨fun i hi => ?_⟩⟩
    obtain ⟨Ai, ci, h3, h4, h5⟩ := h2 i hi
    exact ⟨_, Ai, ci, rfl, (Array.getElem?_eq_some_iff.1 hh).1, h1.cells (g := g) rfl i _ h3, h4, h5.more hB⟩
end
/-- append of one row onto such a row. -/
theorem wpList_append_r {w : World} {ops : Array Oper} {rest : List Oper} {o : Oper} {a : Act} {Q : Exit → Act → World → Prop} (hgd : o.guard = none) (s x : Operand)
    (ho : o.op = .call { callee := .builtin .append, args := #[s, x], argTypes := #[22, 22] })
    (base : Nat) (v : Value) (ls : List (List UInt8)) (hs : a.eval s = v) (hown : RowR w base v ls) (A : Option Addr) (c : Nat) (y : List UInt8) (Ay : Option Addr) (cy : Nat)
    (hx : a.eval x = .slice A 1 c) (hy : Sees w w.heap.size A [.slice Ay y.length cy]) (hyc : y.length ≤ cy) (hsee : Sees w base Ay (bv y))
    (hlen : ls.length ≤ 1000000) (hbase : base ≤ w.heap.size)
    (h : ∀ v' w', RowR w' base v' (ls ++ [y]) → Onto w w' v v' → (∀ k, v.ownBlock = some k → base ≤ k) → wpList Tryd.prog ops Q rest (a.put o.dst v') w') : wpList Tryd.prog ops Q (o :: rest) a w := by
  obtain ⟨i, hi, hz0, hz1, hz2⟩ := info_parts Tryd.sinfo
  obtain ⟨vs, h1, h2⟩ := hown.out
  have hvs : vs.length = ls.length := by have := h1.1; omega
  have hob : ∀ k, v.ownBlock = some k → base ≤ k := own_block h1
  refine wpList_append_v hgd s x 22 ho 23 i _ 1 24 Tryd.underlying22 hi hz0 hz1 hz2 rfl (by omega) base v ls.length vs hs h1 w.heap.size A 1 c [Value.slice Ay y.length cy] hx rfl hy
    (fun u hu => by simp at hu; subst hu; rfl) (by simp only [maxLen]; omega) (by omega) hbase
    (fun v' w' g1 g2 => h v' w' ?_ g2 hob)
  refine ⟨vs ++ [.slice Ay y.length cy], by rw [List.length_append]; exact g1, fun i hi => ?_⟩
  by_cases hlt : i < ls.length
  · obtain ⟨Ai, ci, h3, h4, h5⟩ := h2 i hlt
    rw [List.getElem_append_left hlt, List.getElem?_append_left (by omega)]
    exact ⟨Ai, ci, h3, h4, h5.onto g2 hbase hob⟩
  · have he : i = ls.length := by simp at hi; omega
    subst he
    rw [List.getElem_append_right (Nat.le_refl _), List.getElem?_append_right (by omega)]
    refine ⟨Ay, cy, ?_, ?_, ?_⟩
    · simp [hvs]
    · simpa using hyc
    · simpa using hsee.onto g2 hbase hob

theorem sees_cell1 (w : World) (u : Value) (e : TypeId) : Sees (w.alloc (.cells #[u] e)) (w.alloc (.cells #[u] e)).heap.size (some ⟨w.heap.size, 0, none⟩) [u] :=
  ⟨.inr ⟨_, rfl, by simp, fun j z hz => by match j, hz with | 0, hz => (simp at hz; subst hz; rw [Addr.add_lit, World.cell?_alloc_at _ _ _ _ rfl]; rfl)⟩⟩

def fromK (ls : List Item) (x : Item) (k : Nat) : List Item := (ls.take k).filter fun y => !ahead y x
theorem fromK_step {ls : List Item} {x : Item} {k : Nat} (h : k < ls.length) : fromK ls x (k + 1) = if ahead ls[k] x then fromK ls x k else fromK ls x k ++ [ls[k]] := by
  unfold fromK
  rw [take_snoc h, List.filter_append]
  cases hh : ahead ls[k] x <;> simp [hh]
theorem fromK_len (ls : List Item) (x : Item) (k : Nat) : (fromK ls x k).length ≤ k := Nat.le_trans (List.length_filter_le _ _) (by rw [List.length_take]; omega)
theorem fromK_end {ls : List Item} (x : Item) {k : Nat} (h : ls.length ≤ k) : fromK ls x k = fromL ls x := by unfold fromK fromL; rw [List.take_of_length_le h]
theorem fromK_cut {ls : List Item} {x : Item} {k m : Nat} (h : (fromK ls x k).length = m) : (fromL ls x).take m = fromK ls x k := by
  have : fromL ls x = fromK ls x k ++ (ls.drop k).filter fun y => !ahead y x := by
    unfold fromL fromK
    rw [← List.filter_append, List.take_append_drop]
  rw [this, List.take_append_of_le_length (by omega), ← h, List.take_length]

def RowRIs (w : World) (ls : List Item) (e : Ending) (w' : World) : Prop := ∃ v, e = .returned v ∧ RowR w' w.heap.size v ls ∧ Below w.heap.size w w'

set_option maxRecDepth 100000 in
set_option maxHeartbeats 1600000 in
theorem RefFrom_any (A : Option Addr) (n c : Nat) (ls : List Item) (hn : ls.length = n) (w : World) (hS : Sees2 w w.heap.size A ls) (Bx : Option Addr) (lx dx : Nat) (x : Item) (hx : Sees w w.heap.size Bx (bv x)) (hxl : x.length = lx) (most : Int) (hlen : n ≤ 2000) :
    Calls Tryd.prog 23 #[.slice A n c, .slice Bx lx dx, .int .i64 most] w (RowRIs w ((fromL ls x).take most.toNat)) := by
  obtain ⟨X, hX⟩ : ∃ X, (fromL ls x).take most.toNat = X := ⟨_, rfl⟩
  rw [hX]
  have HX := Lib.hid hX
  have HN := Lib.hid hn
  have HXL := Lib.hid hxl
  clear hn hX hxl
  go_enter Tryd.func23, Tryd.ntmps23
  go_wp2
  go_loopg [7, 8] n (fun g u i wr => ∃ k : Nat, k + g = n ∧ i = .int .i64 k ∧ RowR wr w.heap.size u (fromK ls x k) ∧ Hid ((fromK ls x k).length ≤ most.toNat) ∧ Below w.heap.size w wr)
  case atStart => exact ⟨0, by omega, rfl, RowR.nil _ _, Nat.zero_le _, Below.refl _ _⟩
  case round =>
    obtain ⟨k, hk, rfl, hrow, hle, hb⟩ := hrel
    have hbs := hb.size
    obtain ⟨Av, cv, rfl, hcv, -⟩ := hrow.open_ hbs
    obtain ⟨m, hm⟩ : ∃ m, (fromK ls x k).length = m := ⟨_, rfl⟩
    have hmk : m ≤ k := by rw [← hm]; exact fromK_len _ _ _
    rw [hm] at hcv hle hrow ⊢
    have HM := Lib.hid hm
    clear hm
    by_cases hlt : k < n
    · by_cases hmm : (m : Int) < most
      · obtain ⟨ad, Ai, ci, rfl, hadB, hcell0, hci, hsee⟩ := hS.out k (by have := HN.out; omega)
        have hstep := Lib.hid (fromK_step (ls := ls) (x := x) (k := k) (by have := HN.out; omega))
        obtain ⟨L, hL⟩ : ∃ L, ls[k]'(by have := HN.out; omega) = L := ⟨_, rfl⟩
        rw [hL] at hcell0 hci hsee hstep
        clear hL
        have hcell : wr.cell? (ad.add k) = some (.slice Ai L.length ci) := (hb.cell (by rw [add_block]; exact hadB)).trans hcell0
        have hseer := hsee.below hb
        have hxr := hx.below hb
        have cv1 := fun p => run_str (wr.drewN p) _ Ai L.length ci L (hseer.drewN p) rfl
        have cv2 := fun p => run_str (wr.drewN p) _ Bx lx dx x (hxr.drewN p) HXL.out
        have hble : Op.bytesLess (strOf L).toList (strOf x).toList = ahead L x := by rw [strOf_toList, strOf_toList]; rfl
        obtain ⟨b, hbb⟩ : ∃ b, ahead L x = b := ⟨_, rfl⟩
        rw [hbb] at hble hstep
        clear hbb
        cases b with
        | true =>
          have hT : Hid (fromK ls x (k + 1) = fromK ls x k) := hstep.out
          clear hstep
          go_wp2
          go_quiet (fail)
          go_wp2
          go_roundg (n - (k + 1))
          case measure => omega
          case rel => exact ⟨k + 1, by omega, by go_num, by rw [hT.out]; exact (hrow.below (below_d (Below.refl _ _) _) hbs), by unfold Hid; rw [hT.out, HM.out]; exact hle.out, below_d hb _⟩
        | false =>
          have hT : Hid (fromK ls x (k + 1) = fromK ls x k ++ [L]) := hstep.out
          have hml : Hid (m + 1 ≤ most.toNat) := by unfold Hid; omega
          clear hstep
          go_wp2
          go_quiet (fail)
          go_wp2_with (at_builtin; (refine wpList_append_r rfl (.tmp 29) (.tmp 34) rfl w.heap.size _ (fromK ls x k) (by rfl) (hrow.below ((below_d (Below.refl _ _) _).alloc (Nat.le_refl _) _) hbs) (some ⟨_, 0, none⟩) 1 L Ai ci (by rfl) (sees_cell1 _ _ _) hci ((hseer.drewN _).alloc (by simpa using hbs) _) (by have := HM.out; omega) (by simp; omega) ?_; intro v2 w2 hrow2 hon2 hob2))
          go_roundg (n - (k + 1))
          case measure => omega
          case rel => exact ⟨k + 1, by omega, by go_num, by rw [hT.out]; exact hrow2, by unfold Hid; rw [hT.out, List.length_append, HM.out]; exact hml.out, (below_d hb _).trans (((Onto.of_alloc _ _ _).trans hon2).below (by simpa using hbs) hob2)⟩
      · have HE : Hid (X = fromK ls x k) := by
          unfold Hid
          rw [← HX.out]
          exact fromK_cut (by have := HM.out; have := hle.out; omega)
        go_wp2
        go_ret
        refine ⟨_, rfl, ?_, hb⟩
        rw [HE.out]; exact hrow
    · have HE : Hid (X = fromK ls x k) := by
        unfold Hid
        rw [← HX.out, ← fromK_end x (by have := HN.out; omega : ls.length ≤ k), List.take_of_length_le]
        have := HM.out
        have := hle.out
        omega
      go_wp2
      go_ret
      refine ⟨_, rfl, ?_, hb⟩
      rw [HE.out]; exact hrow

theorem preB_cut {x L : Item} {lx : Nat} (h : x.length = lx) : preB x L = (decide (lx ≤ L.length) && (L.take lx == x)) := by
  subst h
  unfold preB
  by_cases hp : x <+: L
  · rw [decide_eq_true hp, decide_eq_true hp.length_le, ← List.prefix_iff_eq_take.1 hp]; simp
  · rw [decide_eq_false hp]
    symm
    rw [Bool.and_eq_false_iff]
    by_cases hl : x.length ≤ L.length
    · refine .inr ?_
      rw [beq_eq_false_iff_ne]
      exact fun e => hp (by rw [← e]; exact List.take_prefix _ _)
    · exact .inl (decide_eq_false hl)

def preK (ls : List Item) (x : Item) (k : Nat) : List Item := (ls.take k).filter (preB x)
theorem preK_step {ls : List Item} {x : Item} {k : Nat} (h : k < ls.length) : preK ls x (k + 1) = if preB x ls[k] then preK ls x k ++ [ls[k]] else preK ls x k := by
  unfold preK
  rw [take_snoc h, List.filter_append]
  cases hh : preB x ls[k] <;> simp [hh]
theorem preK_len (ls : List Item) (x : Item) (k : Nat) : (preK ls x k).length ≤ k := Nat.le_trans (List.length_filter_le _ _) (by rw [List.length_take]; omega)

set_option maxRecDepth 100000 in
set_option maxHeartbeats 1600000 in
theorem RefPrefix_any (A : Option Addr) (n c : Nat) (ls : List Item) (hn : ls.length = n) (w : World) (hS : Sees2 w w.heap.size A ls) (Bx : Option Addr) (lx dx : Nat) (x : Item) (hx : Sees w w.heap.size Bx (bv x)) (hxl : x.length = lx) (hlen : n ≤ 2000) (hl6 : lx ≤ 1000000) :
    Calls Tryd.prog 25 #[.slice A n c, .slice Bx lx dx] w (RowRIs w (ls.filter (preB x))) := by
  obtain ⟨X, hX⟩ : ∃ X, ls.filter (preB x) = X := ⟨_, rfl⟩
  rw [hX]
  have HX := Lib.hid hX
  have HN := Lib.hid hn
  have HXL := Lib.hid hxl
  clear hn hX hxl
  go_enter Tryd.func25, Tryd.ntmps25
  go_wp2
  go_loopg [5, 6] n (fun g u i wr => ∃ k : Nat, k + g = n ∧ i = .int .i64 k ∧ RowR wr w.heap.size u (preK ls x k) ∧ Below w.heap.size w wr)
  case atStart => exact ⟨0, by omega, rfl, RowR.nil _ _, Below.refl _ _⟩
  case round =>
    obtain ⟨k, hk, rfl, hrow, hb⟩ := hrel
    have hbs := hb.size
    obtain ⟨Av, cv, rfl, hcv, -⟩ := hrow.open_ hbs
    obtain ⟨m, hm⟩ : ∃ m, (preK ls x k).length = m := ⟨_, rfl⟩
    have hmk : m ≤ k := by rw [← hm]; exact preK_len _ _ _
    rw [hm] at hcv hrow ⊢
    have HM := Lib.hid hm
    clear hm
    by_cases hlt : k < n
    · obtain ⟨ad, Ai, ci, rfl, hadB, hcell0, hci, hsee⟩ := hS.out k (by have := HN.out; omega)
      have hstep := Lib.hid (preK_step (ls := ls) (x := x) (k := k) (by have := HN.out; omega))
      obtain ⟨L, hL⟩ : ∃ L, ls[k]'(by have := HN.out; omega) = L := ⟨_, rfl⟩
      rw [hL] at hcell0 hci hsee hstep
      clear hL
      have hcell : wr.cell? (ad.add k) = some (.slice Ai L.length ci) := (hb.cell (by rw [add_block]; exact hadB)).trans hcell0
      have hseer := hsee.below hb
      have hxr := hx.below hb
      have hpe := preB_cut (L := L) HXL.out
      obtain ⟨b, hbb⟩ : ∃ b, preB x L = b := ⟨_, rfl⟩
      rw [hbb] at hpe hstep
      clear hbb
      by_cases hll : lx ≤ L.length
      · have hT0 : Hid (b = (L.take lx == x)) := by unfold Hid; rw [hpe, decide_eq_true hll, Bool.true_and]
        have htl : (L.take lx).length = lx := by rw [List.length_take]; omega
        have cv1 := fun p => run_str (wr.drewN p) _ Ai lx ci (L.take lx) (by rw [bv_take]; exact (hseer.drewN p).take lx) htl
        have cv2 := fun p => run_str (wr.drewN p) _ Bx lx dx x (hxr.drewN p) HXL.out
        have hble : ((strOf (L.take lx)).toList == (strOf x).toList) = b := by rw [strOf_toList, strOf_toList, hT0.out]
        have hlc : lx ≤ ci := by omega
        clear hpe hT0 htl
        cases b with
        | true =>
          have hT : Hid (preK ls x (k + 1) = preK ls x k ++ [L]) := hstep.out
          clear hstep
          go_wp2
          go_quiet (fail)
          go_wp2_with (at_builtin; (refine wpList_append_r rfl (.tmp 34) (.tmp 39) rfl w.heap.size _ (preK ls x k) (by rfl) (hrow.below ((below_d (Below.refl _ _) _).alloc (Nat.le_refl _) _) hbs) (some ⟨_, 0, none⟩) 1 L Ai ci (by rfl) (sees_cell1 _ _ _) hci ((hseer.drewN _).alloc (by simpa using hbs) _) (by have := HM.out; omega) (by simp; omega) ?_; intro v2 w2 hrow2 hon2 hob2))
          go_roundg (n - (k + 1))
          case measure => omega
          case rel => exact ⟨k + 1, by omega, by go_num, by rw [hT.out]; exact hrow2, (below_d hb _).trans (((Onto.of_alloc _ _ _).trans hon2).below (by simpa using hbs) hob2)⟩
        | false =>
          have hT : Hid (preK ls x (k + 1) = preK ls x k) := hstep.out
          clear hstep
          go_wp2
          go_quiet (fail)
          go_wp2
          go_roundg (n - (k + 1))
          case measure => omega
          case rel => exact ⟨k + 1, by omega, by go_num, by rw [hT.out]; exact (hrow.below (below_d (Below.refl _ _) _) hbs), below_d hb _⟩
      · have hT : Hid (preK ls x (k + 1) = preK ls x k) := by
          unfold Hid
          rw [decide_eq_false hll, Bool.false_and] at hpe
          rw [hstep.out, hpe]; simp
        clear hstep hpe
        go_wp2
        go_quiet (fail)
        go_wp2
        go_roundg (n - (k + 1))
        case measure => omega
        case rel => exact ⟨k + 1, by omega, by go_num, by rw [hT.out]; exact (hrow.below (below_d (Below.refl _ _) _) hbs), below_d hb _⟩
    · have HE : Hid (X = preK ls x k) := by
        unfold Hid
        rw [← HX.out]
        unfold preK
        rw [List.take_of_length_le (by have := HN.out; omega)]
      go_wp2
      go_ret
      refine ⟨_, rfl, ?_, hb⟩
      rw [HE.out]; exact hrow
end Go.Proofs.YtmdphaagbmipcaaDoor
