/-
  Scripts over a set: acts, what they leave, rows of them; are they few?
-/
import Derived.Test.YtadakaenbemedaaGreatDoorTgRef4
import Derived.Test.YtadakaenbemedaaGreatDoorTgMerge
namespace Go.Proofs.YtadakaenbemedaaGreatDoor
open Go.RowKit Go.Maps

theorem and7 (x : Int) : bits .and .i64 x 7 = x % 8 := by
  have e1 : (BitVec.ofInt 64 x).toNat % 8 = (x % 8).toNat := by
    rw [BitVec.toNat_ofInt]
    omega
  have hn : (BitVec.ofInt 64 x &&& BitVec.ofInt 64 7).toNat = (x % 8).toNat := by
    rw [BitVec.toNat_and, show (BitVec.ofInt 64 7).toNat = 7 from by decide, show (7 : Nat) = 2 ^ 3 - 1 from by omega, Nat.and_two_pow_sub_one_eq_mod]
    exact e1
  show IntKind.i64.wrap ((BitVec.ofInt 64 x &&& BitVec.ofInt 64 7).toNat : Int) = _
  rw [hn, IntKind.wrap_i64]
  omega

/-- Something that is done to a set. -/
structure Act where
  kind : Int
  item : Item
  a : Int
  b : Int
/-- What an act leaves. -/
def SetM.play (s : SetM) (x : Act) : SetM := if x.kind % 8 < 5 then (s.add x.item).1 else if x.kind % 8 < 7 then s.flush.1 else (s.merge x.a x.b).1
def SetM.plays (s : SetM) (l : List Act) : SetM := l.foldl SetM.play s
theorem plays_succ (s : SetM) (l : List Act) (i : Nat) (hi : i < l.length) : s.plays (l.take (i + 1)) = (s.plays (l.take i)).play l[i] := by
  unfold SetM.plays
  rw [List.take_add_one, List.getElem?_eq_getElem hi, Option.toList_some, List.foldl_append]
  rfl
theorem play_ok {s : SetM} {n : Nat} (h : SetOk s) (ht : s.total ≤ n) (hn : n ≤ 1200) (x : Act) : SetOk (s.play x) ∧ (s.play x).total ≤ n + 1 := by
  unfold SetM.play
  split
  · exact ⟨h.add _, by have := add_total s x.item; omega⟩
  · split
    · exact ⟨h.flush, by rw [flush_total]; omega⟩
    · exact ⟨h.merge (by omega) _ _, by have := merge_total s x.a x.b; omega⟩
theorem plays_ok (l : List Act) (hl : l.length ≤ 80) (i : Nat) (hi : i ≤ l.length) : SetOk (SetM.new.plays (l.take i)) ∧ (SetM.new.plays (l.take i)).total ≤ i := by
  induction i with
  | zero => exact ⟨SetOk.new, Nat.le_refl _⟩
  | succ i ih =>
    obtain ⟨h1, h2⟩ := ih (by omega)
    rw [plays_succ _ l i (by omega)]
    exact play_ok h1 h2 (by omega) _
theorem plays_fit (l : List Act) (hl : l.length ≤ 80) (i : Nat) (hi : i ≤ l.length) : SetFit (SetM.new.plays (l.take i)) :=
  ⟨(plays_ok l hl i hi).1, by have := (plays_ok l hl i hi).2; omega⟩

/-- A row of acts, in blocks of m. -/
structure ActsAt (m : Nat → Prop) (w : World) (A : Option Addr) (ls : List Act) : Prop where
  out : ∀ i (hi : i < ls.length), ∃ ad Ai ci, A = some ad ∧ m ad.block ∧ w.cell? (ad.add (i * 4)) = some (.int .i64 ls[i].kind) ∧ w.cell? ⟨(ad.add (i * 4)).block, (ad.add (i * 4)).off + 1, none⟩ = some (.slice Ai ls[i].item.length ci) ∧
    w.cell? ⟨(ad.add (i * 4)).block, (ad.add (i * 4)).off + 2, none⟩ = some (.int .i64 ls[i].a) ∧ w.cell? ⟨(ad.add (i * 4)).block, (ad.add (i * 4)).off + 3, none⟩ = some (.int .i64 ls[i].b) ∧ ls[i].item.length ≤ ci ∧ SeesM m w Ai (bv ls[i].item)
theorem ActsAt.keep {m : Nat → Prop} {w w' : World} {A : Option Addr} {ls : List Act} (h : ActsAt m w A ls) (hk : Kept m w w') : ActsAt m w' A ls := ⟨fun i hi => by
  obtain ⟨ad, Ai, ci, h1, h2, h3, h4, h5, h6, h7, h8⟩ := h.out i hi
  have hb : (ad.add (i * 4)).block = ad.block := add_block _ _
  have h2' : m (ad.add (i * 4)).block := hb ▸ h2
  exact ⟨ad, Ai, ci, h1, h2, (hk.cell h2').trans h3, (hk.cell (p := ⟨(ad.add (i * 4)).block, (ad.add (i * 4)).off + 1, none⟩) h2').trans h4, (hk.cell (p := ⟨(ad.add (i * 4)).block, (ad.add (i * 4)).off + 2, none⟩) h2').trans h5, (hk.cell (p := ⟨(ad.add (i * 4)).block, (ad.add (i * 4)).off + 3, none⟩) h2').trans h6, h7, h8.keep hk⟩⟩
theorem ActsAt.below {b : Nat} {w w' : World} {A : Option Addr} {ls : List Act} (h : ActsAt (fun k => k < b) w A ls) (hb : Below b w w') : ActsAt (fun k => k < b) w' A ls := h.keep fun k e => hb.block k e

def fewA (ls : List Act) : Bool := decide (ls.length ≤ 80) && ls.all fun x => decide (x.item.length ≤ 450)
theorem fewA_at {ls : List Act} {k : Nat} (h : k < ls.length) : (ls.drop k).all (fun x => decide (x.item.length ≤ 450)) = (decide (ls[k].item.length ≤ 450) && (ls.drop (k + 1)).all fun x => decide (x.item.length ≤ 450)) := by
  rw [List.drop_eq_getElem_cons h]
  rfl
theorem fewA_yes {ls : List Act} (h : fewA ls = true) : ls.length ≤ 80 ∧ ∀ i (hi : i < ls.length), ls[i].item.length ≤ 450 := by
  unfold fewA at h
  rw [Bool.and_eq_true, decide_eq_true_eq, List.all_eq_true] at h
  exact ⟨h.1, fun i hi => by simpa using h.2 _ (List.getElem_mem hi)⟩

set_option maxRecDepth 100000 in
set_option maxHeartbeats 400000 in
theorem fewA_any (m : Nat → Prop) (A : Option Addr) (n c : Nat) (ls : List Act) (hn : ls.length = n) (w : World) (hS : ActsAt m w A ls) :
    Calls Tryz.prog 15 #[.slice A n c] w fun e w' => e = .returned (.bool (fewA ls)) ∧ w = w' := by
  obtain ⟨X, hX⟩ : ∃ X, fewA ls = X := ⟨_, rfl⟩
  rw [hX]
  unfold fewA at hX
  rw [hn] at hX
  by_cases h100 : 80 < n
  · have HF : Hid (X = false) := by unfold Hid; rw [← hX, decide_eq_false (by omega)]; rfl
    clear hX hn
    go_enter Tryz.func15, Tryz.ntmps15
    go_wp2
    go_ret
    rw [HF.out]
    exact ⟨rfl, rfl⟩
  rw [decide_eq_true (by omega), Bool.true_and] at hX
  have HX := Lib.hid hX
  have HN := Lib.hid hn
  clear hn hX
  go_enter Tryz.func15, Tryz.ntmps15
  go_wp2
  go_loopg [3] n (fun g i wr => ∃ k : Nat, k + g = n ∧ i = .int .i64 k ∧ Hid (X = (ls.drop k).all fun x => decide (x.item.length ≤ 450)) ∧ wr = w)
  case atStart => exact ⟨0, by omega, rfl, HX.out.symm, rfl⟩
  case round =>
    obtain ⟨k, hk, rfl, heq, rfl⟩ := hrel
    by_cases hlt : k < n
    · obtain ⟨ad, Ai, ci, rfl, hadB, hcell, hc1, -⟩ := hS.out k (by have := HN.out; omega)
      have hstep := Lib.hid (heq.out.trans (fewA_at (ls := ls) (k := k) (by have := HN.out; omega)))
      obtain ⟨L, hL⟩ : ∃ L, (ls[k]'(by have := HN.out; omega)).item = L := ⟨_, rfl⟩
      rw [hL] at hc1 hstep
      clear hL heq hcell
      by_cases hb : L.length ≤ 450
      · have hT : Hid (X = (ls.drop (k + 1)).all fun x => decide (x.item.length ≤ 450)) := by have := hstep.out; rw [decide_eq_true hb, Bool.true_and] at this; exact this
        clear hstep
        go_wp2
        go_roundg (n - (k + 1))
        case measure => omega
        case rel => exact ⟨k + 1, by omega, by go_num, hT, rfl⟩
      · have HF : Hid (X = false) := by have := hstep.out; rw [decide_eq_false hb, Bool.false_and] at this; exact this
        clear hstep
        go_wp2
        go_ret
        rw [HF.out]
        exact ⟨rfl, rfl⟩
    · have HF : Hid (X = true) := by have := heq.out; rw [List.drop_eq_nil_of_le (by have := HN.out; omega)] at this; exact this
      clear heq
      go_wp2
      go_ret
      rw [HF.out]
      exact ⟨rfl, rfl⟩

/-- Two rows of the same items, compared. -/
theorem same_lists {w : World} {A B : Option Addr} {n c m d : Nat} (ls : List Item) (hn : ls.length = n) (hm : ls.length = m) (hA : Sees2 w w.heap.size A ls) (hB : Sees2 w w.heap.size B ls) (hl : n ≤ 2000) :
    Calls Tryz.prog 21 #[.slice A n c, .slice B m d] w (Gives w (.bool true)) :=
  (Same_any A B n c m d ls ls hn hm w hA hB (by omega)).mono fun _ _ h => by
    obtain ⟨h1, q, h2⟩ := h
    exact ⟨by rw [h1]; simp, by rw [h2]; exact below_d (Below.refl _ _) q⟩

/-- Both sides of a set: the one under test in blocks of m, the document's in blocks of q. -/
structure Pair (n0 : Nat) (m q : Nat → Prop) (w : World) (S : Nat) (v : Value) (s : SetM) : Prop where
  set : SetAt m w S s
  ref : RSet q w v s
  sep : ∀ k, q k → k < w.heap.size ∧ ¬ m k
  old : ∀ k, m k → n0 ≤ k
  inn : ∀ k, k < n0 → q k
  low : n0 ≤ w.heap.size
theorem Pair.below {n0 : Nat} {m q : Nat → Prop} {w w' : World} {S : Nat} {v : Value} {s : SetM} (h : Pair n0 m q w S v s) (hb : Below w.heap.size w w') : Pair n0 m q w' S v s :=
  ⟨h.set.below hb, h.ref.keep (Kept.of_below hb fun k e => (h.sep k e).1), fun k e => ⟨by have := hb.size; have := (h.sep k e).1; omega, (h.sep k e).2⟩, h.old, h.inn, by have := h.low; have := hb.size; omega⟩
/-- Where both sides lie behind an act. -/
structure Moved (n0 : Nat) (m m' q q' : Nat → Prop) (w w' : World) (S : Nat) (v' : Value) (s' : SetM) : Prop where
  pair : Pair n0 m' q' w' S v' s'
  turn : Turn m w w'
  newm : ∀ k, m' k → m k ∨ w.heap.size ≤ k
  newq : ∀ k, q' k → q k ∨ w.heap.size ≤ k
/-- What an act over both leaves. -/
def Done (n0 : Nat) (m q : Nat → Prop) (w : World) (S : Nat) (s' : SetM) (e : Ending) (w' : World) : Prop := ∃ v' m' q', e = .returned (.tuple #[v', .bool true]) ∧ Moved n0 m m' q q' w w' S v' s'
theorem Pair.step {n0 : Nat} {m m' q : Nat → Prop} {w wc w1 w2 wf : World} {S : Nat} {v v' : Value} {s s' : SetM} (hp : Pair n0 m q w S v s) (hb1 : Below w.heap.size w wc) (st : SetStep m m' wc w1 S s')
    (r : RStep q w1 w2 v' s') (B6 : Nat) (h6 : w.heap.size ≤ B6) (h6' : B6 < wc.heap.size) (ht : Turn (fun k => k = B6) w2 wf) : Moved n0 m m' q (fun k => q k ∨ (w1.heap.size ≤ k ∧ k < w2.heap.size)) w wf S v' s' := by
  have z1 := hb1.size
  have z2 := st.turn.size
  have z3 := r.below.size
  have z4 := ht.size
  have z0 := hp.low
  have hm : ∀ k, m' k → m k ∨ wc.heap.size ≤ k := fun k e => (st.new k e).elim .inl fun e => .inr e.1
  have hm6 : ∀ k, m' k → k ≠ B6 := fun k e => by
    rcases hm k e with e | e
    · have := hp.set.lt k e; omega
    · omega
  refine ⟨⟨(st.set.below r.below).turn ht fun k e => hm6 k e, r.set.keep (Kept.of_turn ht fun k e => ?_), fun k e => ?_, fun k e => ?_, fun k e => .inl (hp.inn k e), by omega⟩, ?_, fun k e => ?_, fun k e => ?_⟩
  · rcases e with e | e
    · have := (hp.sep k e).1; exact ⟨by omega, by omega⟩
    · exact ⟨by omega, by omega⟩
  · rcases e with e | e
    · have := hp.sep k e
      refine ⟨by omega, fun e' => ?_⟩
      rcases hm k e' with e' | e'
      · exact this.2 e'
      · omega
    · exact ⟨by omega, fun e' => by have := st.set.lt k e'; omega⟩
  · rcases hm k e with e | e
    · exact hp.old k e
    · omega
  · exact ((((Turn.of_new hb1).trans' st.turn fun k _ e => e).trans (Turn.of_new r.below)).trans' ht fun k hk e => absurd hk (by omega))
  · rcases hm k e with e | e
    · exact .inl e
    · exact .inr (by omega)
  · rcases e with e | e
    · exact .inl e
    · exact .inr (by omega)
end Go.Proofs.YtadakaenbemedaaGreatDoor
