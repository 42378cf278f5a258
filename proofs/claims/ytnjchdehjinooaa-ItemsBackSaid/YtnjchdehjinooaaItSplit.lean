/-
  items.Split: rising items as blocks of eight.
-/
import Derived.Test.YtnjchdehjinooaaItUnpack
namespace Go.Proofs.Ytnjchdehjinooaa
open Go.RowKit

/-- Items as blocks of eight, the last one of what is left. -/
def blk (ls : List (List UInt8)) : List (List (List UInt8)) := if ls.length = 0 then [] else ls.take 8 :: blk (ls.drop 8)
termination_by ls.length
decreasing_by rw [List.length_drop]; omega
theorem blk_nil {ls : List (List UInt8)} (h : ls.length = 0) : blk ls = [] := by rw [blk, if_pos h]
theorem blk_cons {ls : List (List UInt8)} (h : 0 < ls.length) : blk ls = ls.take 8 :: blk (ls.drop 8) := by rw [blk, if_neg (by omega)]

theorem Sees2.drew {w : World} {B : Nat} {A : Option Addr} {ls : List (List UInt8)} (h : Sees2 w B A ls) (q : Nat) : Sees2 (w.drewN q) B A ls :=
  ⟨fun i hi => by
    obtain ⟨ad, Ai, ci, h1, h2, h3, h4, h5⟩ := h.out i hi
    exact ⟨ad, Ai, ci, h1, h2, h3, h4, h5.drewN q⟩⟩
theorem Sees2.more {w : World} {B B' : Nat} {A : Option Addr} {ls : List (List UInt8)} (h : Sees2 w B A ls) (hB : B ≤ B') : Sees2 w B' A ls :=
  ⟨fun i hi => by
    obtain ⟨ad, Ai, ci, h1, h2, h3, h4, h5⟩ := h.out i hi
    exact ⟨ad, Ai, ci, h1, by omega, h3, h4, h5.more hB⟩⟩
theorem Sees2.nil (w : World) (B : Nat) (A : Option Addr) : Sees2 w B A [] := ⟨fun i hi => absurd hi (by simp)⟩
theorem Sees2.take {w : World} {B : Nat} {A : Option Addr} {ls : List (List UInt8)} (h : Sees2 w B A ls) (k : Nat) : Sees2 w B A (ls.take k) :=
  ⟨fun i hi => by
    have hi2 : i < ls.length := by rw [List.length_take] at hi; omega
    obtain ⟨ad, Ai, ci, h1, h2, h3, h4, h5⟩ := h.out i hi2
    rw [List.getElem_take]
    exact ⟨ad, Ai, ci, h1, h2, h3, h4, h5⟩⟩
theorem Sees2.cut {w : World} {B : Nat} {A : Option Addr} {ls : List (List UInt8)} (h : Sees2 w B A ls) {k cap : Nat} (hc : ls.length ≤ cap) : Sees2 w B (if cap = k then A else A.map (fun x => x.add k)) (ls.drop k) :=
  ⟨fun i hi => by
    rw [List.length_drop] at hi
    have hi2 : k + i < ls.length := by omega
    obtain ⟨ad, Ai, ci, rfl, h2, h3, h4, h5⟩ := h.out (k + i) hi2
    rw [List.getElem_drop, if_neg (by omega)]
    exact ⟨ad.add k, Ai, ci, rfl, by rw [add_block]; exact h2, by rw [add_add']; exact h3, h4, h5⟩⟩

/-- A row of the call's own, of slices of items that lay there before. -/
structure OwnT (w : World) (base : Nat) (v : Value) (lls : List (List (List UInt8))) : Prop where
  out : ∃ vs : List Value, w.ownsRow base 22 1 v lls.length vs ∧ ∀ i (hi : i < lls.length), ∃ Ai ci, vs[i]? = some (.slice Ai (lls[i]).length ci) ∧ (lls[i]).length ≤ ci ∧ Sees2 w base Ai lls[i]

theorem OwnT.nil (w : World) (base : Nat) : OwnT w base (.slice none 0 0) [] := ⟨[], World.ownsRow_nil w base _ 1, fun i hi => absurd hi (by simp)⟩
theorem OwnT.open_ {w : World} {base : Nat} {v : Value} {lls : List (List (List UInt8))} (h : OwnT w base v lls) : ∃ A c, v = .slice A lls.length c ∧ lls.length ≤ c ∧
    ∀ i (hi : i < lls.length), ∃ ad Ai ci, A = some ad ∧ ad.block < w.heap.size ∧ w.cell? (ad.add i) = some (.slice Ai (lls[i]).length ci) ∧ (lls[i]).length ≤ ci ∧ Sees2 w base Ai lls[i] := by
  obtain ⟨vs, h1, h2⟩ := h.out
  rcases h1.2 with ⟨rfl, hn⟩ | ⟨g, cap, cur, rfl, hb, hh, hc, hm, _⟩
  · have : lls = [] := List.eq_nil_of_length_eq_zero hn
    subst this
    exact ⟨none, 0, rfl, by simp, fun i hi => absurd hi (by simp)⟩
  · refine ⟨_, cap, rfl, hc, fun i hi => ?_⟩
    obtain ⟨Ai, ci, h3, h4, h5⟩ := h2 i hi
    exact ⟨_, Ai, ci, rfl, (Array.getElem?_eq_some_iff.1 hh).1, h1.cells (g := g) rfl i _ h3, h4, h5⟩
theorem OwnT.below {w w' : World} {base : Nat} {v : Value} {lls : List (List (List UInt8))} (h : OwnT w base v lls) (hb : Below w.heap.size w w') (hbase : base ≤ w.heap.size) : OwnT w' base v lls := by
  obtain ⟨vs, h1, h2⟩ := h.out
  refine ⟨vs, World.ownsRow.kept (row := none) h1 ⟨hb.os, hb.tape, hb.output, hb.size, fun k hk _ => hb.block k hk⟩ (by cases v.ownBlock <;> simp), fun i hi => ?_⟩
  obtain ⟨Ai, ci, h3, h4, h5⟩ := h2 i hi
  exact ⟨Ai, ci, h3, h4, h5.below (hb.mono hbase)⟩

theorem Try.tinfo : (Try.prog.info? 22).map (fun i => (i.zero, i.size, i.bytes)) = some (some (.slice none 0 0), 1, 24) := by kernel_rfl

/-- append of one block. -/
theorem wpList_append_t {w : World} {ops : Array Oper} {rest : List Oper} {o : Oper} {a : Act} {Q : Exit → Act → World → Prop} (hgd : o.guard = none) (s x : Operand)
    (ho : o.op = .call { callee := .builtin .append, args := #[s, x], argTypes := #[37, 37] })
    (base : Nat) (v : Value) (lls : List (List (List UInt8))) (hs : a.eval s = v) (hown : OwnT w base v lls) (ad : Addr) (c : Nat) (y : List (List UInt8)) (Ay : Option Addr) (cy : Nat)
    (hx : a.eval x = .slice (some ad) 1 c) (hy : w.cell? ad = some (.slice Ay y.length cy)) (hyc : y.length ≤ cy) (hsee : Sees2 w base Ay y)
    (hlen : lls.length ≤ 1000000) (hbase : base ≤ w.heap.size)
    (h : ∀ v' w', OwnT w' base v' (lls ++ [y]) → Onto w w' v v' → Below base w w' → wpList Try.prog ops Q rest (a.put o.dst v') w') : wpList Try.prog ops Q (o :: rest) a w := by
  obtain ⟨i, hi, hz0, hz1, hz2⟩ := info_parts Try.tinfo
  obtain ⟨vs, h1, h2⟩ := hown.out
  have hvs : vs.length = lls.length := by have := h1.1; omega
  refine wpList_append_own_at w hgd s x 37 ho base 22 i _ 1 24 Try.underlying37 hi hz0 hz1 hz2 rfl (by omega) v lls.length vs hs h1 ad 1 c [Value.slice Ay y.length cy] hx rfl
    (fun j u hu => by
      match j, hu with
      | 0, hu =>
        simp at hu
        subst hu
        simpa [Addr.add] using hy)
    (fun u hu => by simp at hu; subst hu; rfl) (by simp only [maxLen]; omega) (by omega) hbase
    (fun v' w' g1 g2 _ g4 => ?_)
  have hb : Below base w w' := (Below.refl _ w).grown g2 hbase (fun k hk => ((World.ownsRow.lt h1) k hk).1)
  refine h v' w' ⟨vs ++ [.slice Ay y.length cy], by rw [List.length_append]; exact g1, fun i hi => ?_⟩ ⟨g2, ?_⟩ hb
  · by_cases hlt : i < lls.length
    · obtain ⟨Ai, ci, h3, h4, h5⟩ := h2 i hlt
      rw [List.getElem_append_left hlt, List.getElem?_append_left (by omega)]
      exact ⟨Ai, ci, h3, h4, h5.below hb⟩
    · have he : i = lls.length := by simp at hi; omega
      subst he
      rw [List.getElem_append_right (Nat.le_refl _), List.getElem?_append_right (by omega)]
      refine ⟨Ay, cy, ?_, ?_, ?_⟩
      · simp [hvs]
      · simpa using hyc
      · simpa using hsee.below hb
  · rcases g4 with g4 | g4
    · exact .inl g4
    · exact .inr ⟨_, g4, Nat.le_refl _⟩

def SplitIs (w : World) (ls : List (List UInt8)) (e : Ending) (w' : World) : Prop := ∃ v, e = .returned v ∧ OwnT w' w.heap.size v (blk ls) ∧ Below w.heap.size w w'

theorem OwnT.alloc {w : World} {base : Nat} {v : Value} {lls : List (List (List UInt8))} (h : OwnT w base v lls) (hb : base ≤ w.heap.size) (o : Obj) : OwnT (w.alloc o) base v lls := h.below ((Below.refl _ w).alloc (Nat.le_refl _) o) hb

set_option maxRecDepth 100000 in
set_option maxHeartbeats 800000 in
theorem Split_any (A : Option Addr) (n c : Nat) (ls : List (List UInt8)) (hn : ls.length = n) (hnc : n ≤ c) (w : World) (hS : Sees2 w w.heap.size A ls) (hlen : n ≤ 1000000) :
    Calls Try.prog 18 #[.slice A n c] w (SplitIs w ls) := by
  obtain ⟨X, hX⟩ : ∃ X, blk ls = X := ⟨_, rfl⟩
  have HX := Lib.hid hX
  have HN := Lib.hid hn
  clear hn hX
  go_enter Try.func18, Try.ntmps18
  go_wp2
  go_loopg [0, 3] n (fun g l o wr => ∃ (ms : List (List UInt8)) (Am : Option Addr) (cm : Nat) (done : List (List (List UInt8))), ms.length = g ∧ g ≤ n ∧ g ≤ cm ∧ l = .slice Am g cm ∧ Sees2 wr w.heap.size Am ms ∧ OwnT wr w.heap.size o done ∧ done.length + g ≤ n ∧ Hid (X = done ++ blk ms) ∧ Below w.heap.size w wr)
  case atStart => exact ⟨ls, A, c, [], HN.out, Nat.le_refl _, hnc, rfl, hS, OwnT.nil _ _, by simp, HX.out.symm, Below.refl _ _⟩
  case round =>
    obtain ⟨ms, Am, cm, done, hg, hgn, hgc, rfl, hSm, hown, hdl, heq, hbr⟩ := hrel
    have hsr := hbr.size
    by_cases h0 : 0 < gk
    · obtain ⟨j, hj⟩ : ∃ j : Nat, min gk 8 = j := ⟨_, rfl⟩
      have hj1 : 1 ≤ j := by omega
      have hjg : j ≤ gk := by omega
      have hmin : min (gk : Int) 8 = (j : Int) := by omega
      have hstep : Hid (X = (done ++ [ms.take j]) ++ blk (ms.drop j)) := by
        unfold Hid
        rw [heq.out, blk_cons (by omega), List.append_assoc]
        congr 1
        by_cases h8 : 8 ≤ gk
        · rw [show j = 8 from by omega]; rfl
        · rw [show j = gk from by omega, List.take_of_length_le (by omega), List.take_of_length_le (by omega), List.drop_of_length_le (i := 8) (by omega), List.drop_of_length_le (i := gk) (by omega)]; rfl
      have hcut := hSm.cut (k := j) (cap := cm) (by omega)
      have htl : (ms.take j).length = j := by rw [List.length_take]; omega
      have hdl2 : (ms.drop j).length = gk - j := by rw [List.length_drop]; omega
      have hjc : (j : Int) ≤ (cm : Int) := by omega
      have hj0 : (0 : Int) ≤ (j : Int) := by omega
      have HG := Lib.hid hg
      have HT := Lib.hid htl
      have HD := Lib.hid hdl2
      have HC := Lib.hid hcut
      clear heq hj hg htl hdl2 hcut
      go_wp2_with (at_builtin; refine wpList_append_t rfl (.tmp 11) (.tmp 16) rfl w.heap.size u3 done (by rfl) (hown.alloc hsr _) ⟨wr.heap.size, 0, none⟩ 1 (ms.take j) Am j (by rfl) (by rw [World.cell?_alloc_at _ _ _ _ rfl, HT.out]; rfl) (by rw [HT.out]; exact Nat.le_refl _) ((hSm.take j).below ((Below.refl _ wr).alloc hsr _)) (by omega) (by simp; omega) ?_; intro v3 w3 hown3 hon3 hb3)
      all_goals
        have hbw3 : Below w.heap.size wr w3 := ((Below.refl _ wr).alloc hsr _).trans hb3
      · have hcu : cm = j := by assumption
        have hc := HC.out
        rw [if_pos hcu] at hc
        go_roundg (gk - j)
        case measure => omega
        case rel => exact ⟨ms.drop j, Am, 0, done ++ [ms.take j], HD.out, by omega, by omega, rfl, hc.below hbw3, hown3, by rw [List.length_append, List.length_singleton]; omega, hstep, hbr.trans hbw3⟩
      · have hcu : ¬ cm = j := by assumption
        have hc := HC.out
        rw [if_neg hcu] at hc
        go_roundg (gk - j)
        case measure => omega
        case rel => exact ⟨ms.drop j, _, _, done ++ [ms.take j], HD.out, by omega, by omega, rfl, hc.below hbw3, hown3, by rw [List.length_append, List.length_singleton]; omega, hstep, hbr.trans hbw3⟩
    · obtain rfl : gk = 0 := by omega
      have HE : Hid (X = done) := by unfold Hid; rw [heq.out, blk_nil hg, List.append_nil]
      clear heq hg h0
      go_wp2
      go_ret
      unfold SplitIs
      rw [HX.out, HE.out]
      exact ⟨_, rfl, hown, hbr⟩
end Go.Proofs.Ytnjchdehjinooaa
