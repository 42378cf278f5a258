/-
  An index and the row of its files, beside each other: acts over both.
-/
import Derived.Test.YtalmnodgjjcefaaGreatDoorJIxTwo
import Derived.Test.YtalmnodgjjcefaaGreatDoorJTgFilesI
namespace Go.Proofs.YtalmnodgjjcefaaGreatDoor
open Go.RowKit Go.Maps

theorem adds_fs (l : List Item) : ∀ s : SetM, (s.adds l).fs = s.fs := by
  induction l with
  | nil => intro s; rfl
  | cons x l ih =>
    intro s
    rw [adds_cons, ih]
    unfold SetM.add
    split
    · rfl
    · split
      · rfl
      · split <;> rfl
section
variable {m : Nat → Prop} {w : World} {P : Nat} {s : SetM}
theorem Ix_parts (h : IxAt m w P s) : Calls Tryz.prog 23 #[.pointer (some ⟨P, 0, none⟩)] w fun e w' => e = .returned (.int .i64 s.fs.length) ∧ w = w' := by
  obtain ⟨S, h1, h2, h3⟩ := h.out
  have hF := Lib.hid (parts_any h3)
  have hc := h1.cell
  clear h h1 h3
  go_enter Tryz.func23, Tryz.ntmps23
  go_wp2_with fail
  refine hF.out.mono ?_
  rintro e w1 ⟨rfl, rfl⟩
  go_wp2
  go_ret
  exact ⟨rfl, rfl⟩
end
/-- An index that lives, and the row of its files. -/
structure LdSt (n0 N : Nat) (m q : Nat → Prop) (w : World) (P : Nat) (v : Value) (s : SetM) (X : List Ser) : Prop where
  live : Live N m w P s X
  row : FilesAt q w v (s.fs.map fileB)
  sep : ∀ k, q k → k < w.heap.size ∧ ¬ m k
  old : ∀ k, m k → n0 ≤ k
  oldq : ∀ k, q k → n0 ≤ k
  low : n0 ≤ w.heap.size
section
variable {n0 N M : Nat} {m m' q : Nat → Prop} {w w' : World} {P : Nat} {v : Value} {s s' : SetM} {X X' : List Ser}
theorem LdSt.below (h : LdSt n0 N m q w P v s X) (hb : Below w.heap.size w w') : LdSt n0 N m q w' P v s X :=
  ⟨h.live.below hb, h.row.keep (Kept.of_below hb fun k e => (h.sep k e).1), fun k e => ⟨by have := hb.size; have := (h.sep k e).1; omega, (h.sep k e).2⟩, h.old, h.oldq, by have := h.low; have := hb.size; omega⟩
theorem LdSt.more (h : LdSt n0 N m q w P v s X) (hM : N ≤ M) : LdSt n0 M m q w P v s X := ⟨h.live.more hM, h.row, h.sep, h.old, h.oldq, h.low⟩
theorem LdSt.bel (h : LdSt n0 N m q w P v s X) (ht : Turn m w w') : Below n0 w w' := ht.below h.old h.low
/-- An act that leaves the files. -/
theorem LdSt.step (h : LdSt n0 N m q w P v s X) (hL : Live M m' w' P s' X') (ht : Turn m w w') (hnew : ∀ k, m' k → m k ∨ (w.heap.size ≤ k ∧ k < w'.heap.size)) (hf : s'.fs = s.fs) : LdSt n0 M m' q w' P v s' X' := by
  have hs := ht.size
  refine ⟨hL, by rw [hf]; exact h.row.keep (Kept.of_turn ht h.sep), fun k e => ⟨by have := (h.sep k e).1; omega, fun e' => ?_⟩, fun k e => ?_, h.oldq, by have := h.low; omega⟩
  · rcases hnew k e' with g | g
    · exact (h.sep k e).2 g
    · have := (h.sep k e).1; omega
  · rcases hnew k e with g | g
    · exact h.old k g
    · have := h.low; omega
/-- A file is made and put to the row. w1: behind the making; w2: ahead of the append. -/
theorem LdSt.put {w1 w2 w3 : World} {v' : Value} {vs : List Value} {x : List Item} {A : Option Addr} {c : Nat} (h : LdSt n0 N m q w P v s X) (hL : Live M m' w1 P s' X') (ht : Turn m w w1) (hnew : ∀ k, m' k → m k ∨ (w.heap.size ≤ k ∧ k < w1.heap.size)) (hf : s'.fs = s.fs ++ [x])
    (hx : SeesM (fun k => w.heap.size ≤ k ∧ k < w1.heap.size ∧ ¬ m' k) w1 A (bv (fileB x))) (hc : (fileB x).length ≤ c) (h1 : RowsM (fun k => q k ∧ v.ownBlock ≠ some k) w vs (s.fs.map fileB)) (h2 : ∀ k, v.ownBlock = some k → q k) (hb : Below w1.heap.size w1 w2)
    (hown : w3.ownsRow 0 48 1 v' (s.fs.length + 1) (vs ++ [.slice A (fileB x).length c])) (hon : Onto w2 w3 v v') :
    LdSt n0 M m' (fun k => q k ∨ (w.heap.size ≤ k ∧ k < w1.heap.size ∧ ¬ m' k) ∨ (w2.heap.size ≤ k ∧ k < w3.heap.size)) w3 P v' s' X' ∧ Below n0 w w3 := by
  have s1 := ht.size
  have s2 := hb.size
  have s3 := hon.size
  have hlow := h.low
  have hm' : ∀ k, m' k → m k ∨ w.heap.size ≤ k := fun k e => (hnew k e).elim .inl fun e => .inr e.1
  have hqm : ∀ k, q k → ¬ m' k := fun k e e' => by
    rcases hm' k e' with g | g
    · exact (h.sep k e).2 g
    · have := (h.sep k e).1; omega
  have hkq : Kept q w w2 := (Kept.of_turn ht h.sep).trans (Kept.of_below hb fun k e => by have := (h.sep k e).1; omega)
  have hkm : Kept m' w1 w3 := fun k e => (hon.grown.block k (by have := hL.ix.lt k e; omega) fun e' => hqm k (h2 k e'.symm) e).trans (hb.block k (hL.ix.lt k e))
  refine ⟨⟨⟨hL.ix.keep hkm (by omega), hL.ok, hL.tot, hL.inv, hL.few⟩, ?_, fun k e => ?_, fun k e => ?_, fun k e => ?_, by omega⟩, ?_⟩
  · rw [hf, List.map_append]
    refine FilesAt.put (w := w2) (vs := vs) (x := fileB x) (A := A) (c := c) (fun k e => by have := (h.sep k e).1; omega) (h1.keep (hkq.mono fun k e => e.1)) hc (hx.keep (Kept.of_below hb fun k e => e.2.1)) (fun k e => ⟨by omega, fun e' => by have := (h.sep k (h2 k e')).1; omega⟩) (by rw [List.length_map]; exact hown) hon h2
  · rcases e with e | e | e
    · exact ⟨by have := (h.sep k e).1; omega, hqm k e⟩
    · exact ⟨by omega, e.2.2⟩
    · exact ⟨e.2, fun e' => by have := hL.ix.lt k e'; omega⟩
  · rcases hm' k e with g | g
    · exact h.old k g
    · omega
  · rcases e with e | e | e
    · exact h.oldq k e
    · omega
    · omega
  · exact ((ht.below h.old hlow).trans (hb.mono (by omega))).trans (hon.below (by omega) fun k e => h.oldq k (h2 k e))
/-- What an act leaves. -/
def ActL (n0 M : Nat) (q : Nat → Prop) (_ : Nat → Prop) (w : World) (P : Nat) (v : Value) (s : SetM) (w' : World) : Prop :=
  ∃ m' s' X', LdSt n0 M m' q w' P v s' X' ∧ s'.fs = s.fs ∧ Below n0 w w'
theorem LdSt.add (h : LdSt n0 N m q w P v s X) (hN : N + 14 ≤ 500) (A : Option Addr) (n c : Nat) (ls : List Lb) (hn : ls.length = n) (hS : Sees w w.heap.size A (lv ls)) (hlen : n ≤ 1000) (hsz : ∀ x ∈ ls, x.1.size ≤ 9223372036854775807) (day : Int) :
    Calls Tryz.prog 12 #[.pointer (some ⟨P, 0, none⟩), .slice A n c, .int .i64 day] w fun e w' => (∃ v, e = .returned v) ∧ ActL n0 (N + 14) q m w P v s w' := by
  by_cases hok : MayL ls ∧ 0 ≤ day ∧ day ≤ 2147483647
  · exact (add_live h.live hN A n c ls hn hS hlen hsz day hok.1 hok.2.1 hok.2.2).mono fun e w' ⟨g1, g2, g3⟩ => ⟨⟨_, g1⟩, m, _, _, h.step g2 g3 (fun k e => .inl e) (adds_fs _ _), adds_fs _ _, h.bel g3⟩
  · have hbad : ¬ MayL ls ∨ day < 0 ∨ 2147483647 < day := by
      by_cases hm : MayL ls
      · right; by_cases hd : 0 ≤ day
        · right; exact Int.not_le.1 fun e => hok ⟨hm, hd, e⟩
        · left; omega
      · exact .inl hm
    exact (add_bad h.live.ix A n c ls hn hS hlen hsz day hbad).mono fun e w' ⟨g1, g2⟩ => ⟨⟨_, g1⟩, m, _, _, h.step ((⟨g2.ix, h.live.ok, h.live.tot, h.live.inv, h.live.few⟩ : Live N m w' P s X).more (by omega)) g2.turn (fun k e => .inl e) rfl, rfl, h.bel g2.turn⟩
theorem LdSt.drop (h : LdSt n0 N m q w P v s X) (hN : N + 1 ≤ 500) (id : Int) :
    Calls Tryz.prog 18 #[.pointer (some ⟨P, 0, none⟩), .int .i64 id] w fun e w' => (∃ v, e = .returned v) ∧ ActL n0 (N + 1) q m w P v s w' := by
  cases ht : atX X id with
  | none => exact (drop_none h.live hN id ht).mono fun e w' ⟨g1, g2, g3⟩ => ⟨⟨_, g1⟩, m, _, _, h.step (g2.more (by omega)) g3 (fun k e => .inl e) rfl, rfl, h.bel g3⟩
  | some t => exact (drop_live h.live hN id ht).mono fun e w' ⟨g1, g2, g3⟩ => ⟨⟨_, g1⟩, m, _, _, h.step g2 g3 (fun k e => .inl e) (adds_fs _ _), adds_fs _ _, h.bel g3⟩
end
end Go.Proofs.YtalmnodgjjcefaaGreatDoor
