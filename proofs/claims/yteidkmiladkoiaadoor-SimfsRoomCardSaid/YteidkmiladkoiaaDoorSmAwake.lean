/-
  The law's example, walked.
-/
import Derived.Test.YteidkmiladkoiaaDoorSmClone
import Derived.Lib.BytesEntry
import Derived.Lib.SlBytesConst
namespace Go.Proofs.YteidkmiladkoiaaDoor
open Go.RowKit

/-- Files in blocks laid since w0. -/
structure Own (w0 : World) (c F : Nat → Nat) (w : World) (f : Nat) (S : FsM) : Prop where
  at_ : FsAt c F w f S
  low : ∀ k, k < w0.heap.size → c k = 0
  below : Below w0.heap.size w0 w
/-- The same; all the blocks are of m. -/
structure OwnE (w0 w : World) (f : Nat) (S : FsM) (m : Nat → Prop) : Prop where
  out : ∃ c F, Own w0 c F w f S ∧ ∀ k, c k ≠ 0 → m k
  lt : ∀ k, m k → w0.heap.size ≤ k ∧ k < w.heap.size
/-- A step over blocks of m, which are then of m'. -/
structure Stp (m : Nat → Prop) (w : World) (m' : Nat → Prop) (w' : World) : Prop where
  turn : Turn m w w'
  new : ∀ k, m' k → m k ∨ (w.heap.size ≤ k ∧ k < w'.heap.size)
/-- Cells that are seen, not of m. -/
structure Hold (m : Nat → Prop) (w : World) (A : Option Addr) (xs : List Value) : Prop where
  out : SeesM (fun k => k < w.heap.size ∧ ¬ m k) w A xs
section
variable {w0 w w' : World} {c F c2 G : Nat → Nat} {f g : Nat} {S S' T : FsM} {m m' : Nat → Prop} {A : Option Addr} {xs : List Value}
theorem Hold.step (h : Hold m w A xs) (hs : Stp m w m' w') : Hold m' w' A xs :=
  ⟨(h.out.keep (Kept.of_turn hs.turn fun k e => e)).mono fun k e => ⟨Nat.lt_of_lt_of_le e.1 hs.turn.size, fun e2 => by rcases hs.new k e2 with e3 | e3; exact e.2 e3; omega⟩⟩
theorem Hold.newB (h : Hold m w A xs) (hb : Below w.heap.size w w') : Hold m w' A xs :=
  ⟨(h.out.keep (Kept.of_below hb fun k e => e.1)).mono fun k e => ⟨Nat.lt_of_lt_of_le e.1 hb.size, e.2⟩⟩
theorem Hold.sees (h : Hold m w A xs) : Sees w w.heap.size A xs := h.out.sees fun k e => e.1
theorem Hold.of_old (h : Sees w w0.heap.size A xs) (hb : w0.heap.size ≤ w.heap.size) (hm : ∀ k, m k → w0.heap.size ≤ k ∧ k < w.heap.size) : Hold m w A xs :=
  ⟨h.toM.mono fun k e => ⟨by omega, fun e2 => by have := hm k e2; omega⟩⟩
/-- What was laid behind the files. -/
theorem Hold.of_new {base n cp : Nat} {l : List UInt8} (h : OwnB w' base (.slice A n cp) l) (hm : ∀ k, m k → k < base) : Hold m w' A (bv l) :=
  ⟨(ownB_seesU h).toM.mono fun k e => ⟨e.2, fun e2 => by have := hm k e2; omega⟩⟩
theorem OwnE.of (h : Own w0 c F w f S) : OwnE w0 w f S (fun k => c k ≠ 0) := ⟨⟨c, F, h, fun _ e => e⟩, fun k e => ⟨by
  by_cases hk : k < w0.heap.size
  · exact absurd (h.low k hk) e
  · omega, h.at_.lt k e⟩⟩
theorem OwnE.newB (h : OwnE w0 w f S m) (hb : Below w.heap.size w w') : OwnE w0 w' f S m := by
  obtain ⟨c, F, h1, h2⟩ := h.out
  exact ⟨⟨c, F, ⟨h1.at_.below hb, h1.low, h1.below.trans (hb.mono h1.below.size)⟩, h2⟩, fun k e => ⟨(h.lt k e).1, Nat.lt_of_lt_of_le (h.lt k e).2 hb.size⟩⟩
theorem OwnE.below (h : OwnE w0 w f S m) : Below w0.heap.size w0 w := by
  obtain ⟨c, F, h1, h2⟩ := h.out
  exact h1.below
theorem turn_low {R : Nat → Prop} (hb : Below w0.heap.size w0 w) (ht : Turn R w w') (hR : ∀ k, R k → w0.heap.size ≤ k) : Below w0.heap.size w0 w' := hb.trans (ht.below hR hb.size)
/-- Files in the place of the old ones. -/
def Steps (w0 w : World) (f : Nat) (S' : FsM) (m : Nat → Prop) (w' : World) : Prop := ∃ m', OwnE w0 w' f S' m' ∧ Stp m w m' w'
theorem Own.step (h : Own w0 c F w f S) (hm : ∀ k, c k ≠ 0 → m k) (hl : ∀ k, m k → w0.heap.size ≤ k ∧ k < w.heap.size) (hn : FsNew c w f S' w') : Steps w0 w f S' m w' := by
  obtain ⟨c', F', h1, h2⟩ := hn.out
  have hs := h.below.size
  have hs' := hn.turn.size
  have hlow : ∀ k, k < w0.heap.size → c' k = 0 := fun k hk => h2 k (by omega) (h.low k hk)
  have ht : Turn m w w' := hn.turn.mono fun k _ e => hm k e
  refine ⟨fun k => (c' k ≠ 0 ∨ m k) ∧ w0.heap.size ≤ k, ⟨⟨c', F', ⟨h1, hlow, turn_low h.below ht fun k e => (hl k e).1⟩, fun k e => ⟨.inl e, ?_⟩⟩, fun k e => ⟨e.2, ?_⟩⟩, ⟨ht, fun k e => ?_⟩⟩
  · by_cases hk : k < w0.heap.size
    · exact absurd (hlow k hk) e
    · omega
  · rcases e.1 with e | e
    · exact h1.lt k e
    · have := (hl k e).2; omega
  · rcases e.1 with e1 | e1
    · by_cases hk : k < w.heap.size
      · by_cases e2 : c k = 0
        · exact absurd (h2 k hk e2) e1
        · exact .inl (hm k e2)
      · exact .inr ⟨by omega, h1.lt k e1⟩
    · exact .inl e1
/-- Two of them, apart. -/
structure Pair2 (w0 w : World) (f g : Nat) (S T : FsM) (m : Nat → Prop) : Prop where
  out : ∃ c F c2 G, Own w0 c F w f S ∧ Own w0 c2 G w g T ∧ (∀ k, c k = 0 ∨ c2 k = 0) ∧ ∀ k, c k ≠ 0 ∨ c2 k ≠ 0 → m k
  lt : ∀ k, m k → w0.heap.size ≤ k ∧ k < w.heap.size
def Steps2 (w0 w : World) (f g : Nat) (S' T : FsM) (m : Nat → Prop) (w' : World) : Prop := ∃ m', Pair2 w0 w' f g S' T m' ∧ Stp m w m' w'
theorem pair_left (h : Own w0 c F w f S) (k : Own w0 c2 G w g T) (hd : ∀ k, c k = 0 ∨ c2 k = 0) (hm : ∀ k, c k ≠ 0 ∨ c2 k ≠ 0 → m k) (hl : ∀ k, m k → w0.heap.size ≤ k ∧ k < w.heap.size) (hn : FsNew c w f S' w') : Steps2 w0 w f g S' T m w' := by
  obtain ⟨c', F', h1, h2⟩ := hn.out
  have hs := h.below.size
  have hs' := hn.turn.size
  have hlow : ∀ k, k < w0.heap.size → c' k = 0 := fun k hk => h2 k (by omega) (h.low k hk)
  have ht : Turn m w w' := hn.turn.mono fun k _ e => hm k (.inl e)
  refine ⟨fun k => (c' k ≠ 0 ∨ m k) ∧ w0.heap.size ≤ k, ⟨⟨c', F', c2, G, ⟨h1, hlow, turn_low h.below ht fun k e => (hl k e).1⟩, ⟨k.at_.turn hn.turn (fun j e => (hd j).resolve_left e), k.low, turn_low k.below ht fun k e => (hl k e).1⟩, fun j => ?_, fun j e => ⟨?_, ?_⟩⟩, fun k e => ⟨e.2, ?_⟩⟩, ⟨ht, fun k e => ?_⟩⟩
  · by_cases e : c2 j = 0
    · exact .inr e
    · exact .inl (h2 j (k.at_.lt j e) ((hd j).resolve_right e))
  · rcases e with e | e
    · exact .inl e
    · exact .inr (hm j (.inr e))
  · by_cases hk : j < w0.heap.size
    · rcases e with e | e
      · exact absurd (hlow j hk) e
      · exact absurd (k.low j hk) e
    · omega
  · rcases e.1 with e | e
    · exact h1.lt k e
    · have := (hl k e).2; omega
  · rcases e.1 with e1 | e1
    · by_cases hk : k < w.heap.size
      · by_cases e2 : c k = 0
        · exact absurd (h2 k hk e2) e1
        · exact .inl (hm k (.inl e2))
      · exact .inr ⟨by omega, h1.lt k e1⟩
    · exact .inl e1
theorem Pair2.swap (h : Pair2 w0 w f g S T m) : Pair2 w0 w g f T S m := by
  obtain ⟨c, F, c2, G, h1, h2, h3, h4⟩ := h.out
  exact ⟨⟨c2, G, c, F, h2, h1, fun k => (h3 k).symm, fun k e => h4 k e.symm⟩, h.lt⟩
theorem Pair2.left (h : Pair2 w0 w f g S T m) : OwnE w0 w f S m := by
  obtain ⟨c, F, c2, G, h1, h2, h3, h4⟩ := h.out
  exact ⟨⟨c, F, h1, fun k e => h4 k (.inl e)⟩, h.lt⟩
theorem Pair2.right (h : Pair2 w0 w f g S T m) : OwnE w0 w g T m := h.swap.left
theorem Pair2.newB (h : Pair2 w0 w f g S T m) (hb : Below w.heap.size w w') : Pair2 w0 w' f g S T m := by
  obtain ⟨c, F, c2, G, h1, h2, h3, h4⟩ := h.out
  have hh : ∀ {c F : Nat → Nat} {f : Nat} {S : FsM}, Own w0 c F w f S → Own w0 c F w' f S := fun h => ⟨h.at_.below hb, h.low, h.below.trans (hb.mono h.below.size)⟩
  exact ⟨⟨c, F, c2, G, hh h1, hh h2, h3, h4⟩, fun k e => ⟨(h.lt k e).1, Nat.lt_of_lt_of_le (h.lt k e).2 hb.size⟩⟩
theorem Stp.newB (h : Stp m w m' w') {w2 : World} (hb : Below w'.heap.size w' w2) : Stp m w m' w2 := ⟨h.turn.trans (Turn.of_new hb), fun k e => by
  rcases h.new k e with e | e
  · exact .inl e
  · have := hb.size; exact .inr (by omega)⟩
theorem Stp.trans (h : Stp m w m' w') {m2 : Nat → Prop} {w2 : World} (k : Stp m' w' m2 w2) : Stp m w m2 w2 := by
  have h1 := h.turn.size
  have h2 := k.turn.size
  refine ⟨h.turn.trans' k.turn fun j hj e => ?_, fun j e => ?_⟩
  · rcases h.new j e with e | e
    · exact e
    · omega
  · rcases k.new j e with e | e
    · rcases h.new j e with e | e
      · exact .inl e
      · exact .inr (by omega)
    · exact .inr (by omega)
theorem Stp.before (h : Stp m w m' w') {w2 : World} (hb : Below w2.heap.size w2 w) (hm : ∀ k, m k → k < w2.heap.size) : Stp m w2 m' w' := ⟨(Turn.of_new hb).trans h.turn, fun k e => by
  rcases h.new k e with e | e
  · exact .inl e
  · have := hb.size; exact .inr (by omega)⟩

theorem new_own (n : Int) (w : World) : Calls Tryd.prog 6 #[.int .i64 n] w fun e w' => ∃ f m, e = .returned (.pointer (some ⟨f, 0, none⟩)) ∧ OwnE w w' f (FsM.new (min (max n 0) 16777216).toNat) m := by
  refine (new_any n w).mono ?_
  rintro e w' ⟨f, c, F, rfl, h1, h2, h3⟩
  exact ⟨f, _, rfl, OwnE.of ⟨h1, h2, h3⟩⟩
theorem create_own {N : Nat} (h0 : OwnE w0 w f S m) (hO : FsOk N S) (hN : N ≤ 9000) (p : Txt) (hp : p.length ≤ 1000000) :
    Calls Tryd.prog 7 #[.pointer (some ⟨f, 0, none⟩), .string (strOf p)] w fun e w' => e = .returned (.int .i64 ((S.go (·.create p)).2 : Int)) ∧ Steps w0 w f (S.go (·.create p)).1 m w' := by
  obtain ⟨c, F, h, hm⟩ := h0.out
  refine (create_any h.at_ hO hN p hp).mono ?_
  rintro e w' ⟨rfl, h1⟩
  exact ⟨rfl, h.step hm h0.lt h1⟩
theorem sync_own {N : Nat} (h0 : OwnE w0 w f S m) (hO : FsOk N S) (p : Txt) :
    Calls Tryd.prog 12 #[.pointer (some ⟨f, 0, none⟩), .string (strOf p)] w fun e w' => e = .returned (.int .i64 ((S.go (·.sync p)).2 : Int)) ∧ Steps w0 w f (S.go (·.sync p)).1 m w' := by
  obtain ⟨c, F, h, hm⟩ := h0.out
  refine (sync_any h.at_ hO p).mono ?_
  rintro e w' ⟨rfl, h1⟩
  exact ⟨rfl, h.step hm h0.lt h1⟩
/-- Bytes that are not the files'. -/
theorem append_own {N : Nat} (h0 : OwnE w0 w f S m) (hO : FsOk N S) (hN : N ≤ 9000) (p : Txt) (Ab : Option Addr) (lb cb : Nat) (b : Txt) (hb : b.length = lb) (hbc : lb ≤ cb) (hlb : lb ≤ 1000000000) (hs : Hold m w Ab (bv b)) :
    Calls Tryd.prog 8 #[.pointer (some ⟨f, 0, none⟩), .string (strOf p), .slice Ab lb cb] w fun e w' => e = .returned (.int .i64 ((S.go (·.append p b)).2 : Int)) ∧ Steps w0 w f (S.go (·.append p b)).1 m w' := by
  obtain ⟨c, F, h, hm⟩ := h0.out
  refine (append_any h.at_ hO hN p Ab lb cb b hb hbc hlb _ hs.out fun k hk => ⟨hk.1, ?_⟩).mono ?_
  · by_cases e : c k = 0
    · exact e
    · exact absurd (hm k e) hk.2
  · rintro e w' ⟨rfl, h1⟩
    exact ⟨rfl, h.step hm h0.lt h1⟩
/-- .. that were just laid. -/
theorem sees_mark (w : World) (l : List UInt8) (t : TypeId) (m : Nat × Nat) (cs : Array Value) (h : cs = (bv l).toArray) : Sees (w.alloc (.cells cs t m)) (w.heap.size + 1) (some ⟨w.heap.size, 0, none⟩) (bv l) := by
  subst h
  refine ⟨.inr ⟨_, rfl, by simp, fun j u hu => ?_⟩⟩
  rw [Addr.add_lit, World.cell?_alloc_mark]
  simpa using hu
theorem run_const (w : World) (b : Nat) (hb : w.heap.size = b) (C : Array Value) (n c : Nat) :
    (convert 28 28 (.slice (some ⟨b, 0, none⟩) n c)).run Tryd.prog (w.alloc (.cells C 5)) = .ok (.slice (some ⟨b, 0, none⟩) n c) (w.alloc (.cells C 5 (C.size, C.size + 1))) := by
  subst hb
  exact Lib.run_convert_bytes_const (P := Tryd.prog) w 28 5 C n c Tryd.underlying28 Tryd.underlying5
theorem append_lit {N : Nat} (h0 : OwnE w0 w f S m) (hO : FsOk N S) (hN : N ≤ 9000) (p : Txt) (n : Nat) (b : Txt) (hb : b.length = n) (hlb : n ≤ 1000000000) (cs : Array Value) (t : TypeId) (mk : Nat × Nat) (hcs : cs = (bv b).toArray) :
    Calls Tryd.prog 8 #[.pointer (some ⟨f, 0, none⟩), .string (strOf p), .slice (some ⟨w.heap.size, 0, none⟩) n n] (w.alloc (.cells cs t mk)) fun e w' => e = .returned (.int .i64 ((S.go (·.append p b)).2 : Int)) ∧ Steps w0 w f (S.go (·.append p b)).1 m w' := by
  have hb1 : Below w.heap.size w (w.alloc (.cells cs t mk)) := (Below.refl _ w).alloc (Nat.le_refl _) _
  have hs := sees_mark w b t mk cs hcs
  have hsm : Hold m (w.alloc (.cells cs t mk)) (some ⟨w.heap.size, 0, none⟩) (bv b) := by
    rcases hs.out with e | ⟨ad, e1, -, e3⟩
    · exact ⟨⟨.inl e⟩⟩
    · injection e1 with e1
      subst e1
      exact ⟨⟨.inr ⟨_, rfl, ⟨by simp, fun e => by have := (h0.lt _ e).2; simp at this⟩, e3⟩⟩⟩
  refine (append_own (h0.newB hb1) hO hN p (some ⟨w.heap.size, 0, none⟩) n n b hb (Nat.le_refl _) hlb hsm).mono ?_
  rintro e w' ⟨rfl, m', h1, h2⟩
  exact ⟨rfl, m', h1, h2.before hb1 fun k e => (h0.lt k e).2⟩
theorem pending_own (h0 : OwnE w0 w f S m) : Calls Tryd.prog 16 #[.pointer (some ⟨f, 0, none⟩)] w fun e w' => e = .returned (.int .i64 (S.chg.length : Int)) ∧ w = w' := by
  obtain ⟨c, F, h, hm⟩ := h0.out
  exact pending_any h.at_
theorem clone_own {N : Nat} (h0 : OwnE w0 w f S m) (hO : FsOk N S) (hN : N ≤ 10000) : Calls Tryd.prog 17 #[.pointer (some ⟨f, 0, none⟩)] w fun e w' => ∃ g, e = .returned (.pointer (some ⟨g, 0, none⟩)) ∧ Steps2 w0 w f g S S m w' := by
  obtain ⟨c, F, h, hm⟩ := h0.out
  refine (clone_any h.at_ hO hN).mono ?_
  rintro e w' ⟨g, c2, G, rfl, h1, h2, h3⟩
  have hs := h.below.size
  have hs3 := h3.size
  refine ⟨g, rfl, fun k => m k ∨ c2 k ≠ 0, ⟨⟨c, F, c2, G, ⟨h.at_.below h3, h.low, h.below.trans (h3.mono hs)⟩, ⟨h1, fun k hk => h2 k (by omega), h.below.trans (h3.mono hs)⟩, fun k => ?_, fun k e => ?_⟩, fun k e => ?_⟩, ⟨Turn.of_new h3, fun k e => ?_⟩⟩
  · by_cases e : c k = 0
    · exact .inl e
    · exact .inr (h2 k (h.at_.lt k e))
  · rcases e with e | e
    · exact .inl (hm k e)
    · exact .inr e
  · rcases e with e | e
    · have := h0.lt k e; omega
    · refine ⟨?_, h1.lt k e⟩
      by_cases hk : k < w.heap.size
      · exact absurd (h2 k hk) e
      · omega
  · rcases e with e | e
    · exact .inl e
    · by_cases hk : k < w.heap.size
      · exact absurd (h2 k hk) e
      · exact .inr ⟨by omega, h1.lt k e⟩
theorem crash_left {N : Nat} (h : Pair2 w0 w f g S T m) (hO : FsOk N S) (hN : N ≤ 10000) (a b : Int) : Calls Tryd.prog 15 #[.pointer (some ⟨f, 0, none⟩), .int .i64 a, .int .i64 b] w fun e w' => (∃ v, e = .returned v) ∧ Steps2 w0 w f g (S.crash a.toNat b.toNat) T m w' := by
  obtain ⟨c, F, c2, G, h1, h2, h3, h5⟩ := h.out
  refine (crash_any h1.at_ hO hN a b).mono ?_
  rintro e w' ⟨hv, h4⟩
  exact ⟨hv, pair_left h1 h2 h3 h5 h.lt h4⟩
theorem crash_own {N : Nat} (h0 : OwnE w0 w f S m) (hO : FsOk N S) (hN : N ≤ 10000) (a b : Int) : Calls Tryd.prog 15 #[.pointer (some ⟨f, 0, none⟩), .int .i64 a, .int .i64 b] w fun e w' => (∃ v, e = .returned v) ∧ Steps w0 w f (S.crash a.toNat b.toNat) m w' := by
  obtain ⟨c, F, h, hm⟩ := h0.out
  refine (crash_any h.at_ hO hN a b).mono ?_
  rintro e w' ⟨hv, h4⟩
  exact ⟨hv, h.step hm h0.lt h4⟩
theorem read_own {N : Nat} (h0 : OwnE w0 w f S m) (hO : FsOk N S) (p : Txt) : Calls Tryd.prog 11 #[.pointer (some ⟨f, 0, none⟩), .string (strOf p)] w (ReadIs w (S.read p)) := by
  obtain ⟨c, F, h, hm⟩ := h0.out
  exact read_any h.at_ hO p
theorem list_own {N : Nat} (h0 : OwnE w0 w f S m) (hO : FsOk N S) (hN : N ≤ 10000) (p : Txt) : Calls Tryd.prog 18 #[.pointer (some ⟨f, 0, none⟩), .string (strOf p)] w (TextsIs w (S.list p)) := by
  obtain ⟨c, F, h, hm⟩ := h0.out
  exact list_any h.at_ hO hN p
theorem used_own {N : Nat} (h0 : OwnE w0 w f S m) (hO : FsOk N S) (hN : N ≤ 100000) : Calls Tryd.prog 9 #[.pointer (some ⟨f, 0, none⟩)] w fun e w' => e = .returned (.int .i64 (S.used : Int)) ∧ Below w.heap.size w w' := by
  obtain ⟨c, F, h, hm⟩ := h0.out
  exact used_any h.at_ hO hN
end

def aw1 : FsM := ⟨100, [⟨[], 0⟩], [([97], 0)], [], [[([97], some 0)]], 0⟩
def aw2 : FsM := ⟨100, [⟨[120, 121, 122], 0⟩], [([97], 0)], [], [[([97], some 0)]], 0⟩
def aw3 : FsM := ⟨100, [⟨[120, 121, 122], 3⟩], [([97], 0)], [], [[([97], some 0)]], 0⟩
def aw4 : FsM := ⟨100, [⟨[120, 121, 122, 117, 118], 3⟩], [([97], 0)], [], [[([97], some 0)]], 0⟩
def aw5 : FsM := ⟨100, [⟨[120, 121, 122, 117], 4⟩], [([97], 0)], [([97], 0)], [], 0⟩
theorem aw_1 : (FsM.new 100).go (·.create [97]) = (aw1, 0) := by kernel_rfl
theorem aw_2 : aw1.go (·.append [97] [120, 121, 122]) = (aw2, 0) := by kernel_rfl
theorem aw_3 : aw2.go (·.sync [97]) = (aw3, 0) := by kernel_rfl
theorem aw_4 : aw3.go (·.append [97] [117, 118]) = (aw4, 0) := by kernel_rfl
theorem aw_5 : aw4.crash 1 1 = aw5 := by kernel_rfl
theorem aw_6 : aw5.read [97] = ([120, 121, 122, 117], 0) := by kernel_rfl
theorem aw_7 : (aw4.crash 0 9).list [] = [] := by kernel_rfl
theorem aw_8 : aw5.used = 4 := by kernel_rfl
theorem aw_ok0 : FsOk 0 (FsM.new 100) := FsOk.new (by omega)
theorem aw_ok1 : FsOk 4 aw1 := by have := aw_ok0.create [97]; exact this
theorem go_ok {N M : Nat} {S : FsM} (h : FsOk N S) {act : FsM → FsM × Nat} (ha : ∀ T, FsOk N T → FsOk M (act T).1) (hNM : N ≤ M) : FsOk M (S.go act).1 := by
  unfold FsM.go
  split
  · exact h.spent.mono hNM
  · exact ha _ h.spent
theorem aw_ok2 : FsOk 4 aw2 := by have := go_ok aw_ok1 (act := (·.append [97] [120, 121, 122])) (fun T h => h.append _ _) (Nat.le_refl _); rwa [aw_2] at this
theorem aw_ok3 : FsOk 4 aw3 := by have := go_ok aw_ok2 (act := (·.sync [97])) (fun T h => h.sync _) (Nat.le_refl _); rwa [aw_3] at this
theorem aw_ok4 : FsOk 4 aw4 := by have := go_ok aw_ok3 (act := (·.append [97] [117, 118])) (fun T h => h.append _ _) (Nat.le_refl _); rwa [aw_4] at this
theorem aw_ok5 : FsOk 4 aw5 := by have := aw_ok4.crash 1 1; rwa [aw_5] at this
theorem aw_ok6 : FsOk 4 (aw4.crash 0 9) := aw_ok4.crash 0 9

set_option maxRecDepth 100000 in
set_option maxHeartbeats 1600000 in
theorem awake_any (w : World) : Calls Tryd.prog 5 #[] w (IsTrue w) := by
  have kc := run_const
  have h0 := Lib.hid (new_own 100 w)
  go_enter Tryd.func5, Tryd.ntmps5
  go_wp2_with fail
  refine h0.out.mono ?_
  rintro e w1 ⟨f, m1, rfl, o1⟩
  have o1' : OwnE w w1 f (FsM.new 100) m1 := o1
  have k1 := create_own o1' aw_ok0 (by omega) [97] (by simp)
  rw [aw_1] at k1
  have K1 := Lib.hid k1
  clear h0 o1 o1' k1
  go_wp2_with fail
  refine K1.out.mono ?_
  rintro e w2 ⟨rfl, m2, o2, -⟩
  have k2 := append_lit o2 aw_ok1 (by omega) [97] 3 [120, 121, 122] rfl (by omega) #[.int .u8 120, .int .u8 121, .int .u8 122] 5 (3, 4) (by simp [bv])
  rw [aw_2] at k2
  have K2 := Lib.hid k2
  clear K1 o2 k2
  go_wp2_with fail
  refine K2.out.mono ?_
  rintro e w3 ⟨rfl, m3, o3, -⟩
  have k3 := sync_own o3 aw_ok2 [97]
  rw [aw_3] at k3
  have K3 := Lib.hid k3
  clear K2 o3 k3
  go_wp2_with fail
  refine K3.out.mono ?_
  rintro e w4 ⟨rfl, m4, o4, -⟩
  have k4 := append_lit o4 aw_ok3 (by omega) [97] 2 [117, 118] rfl (by omega) #[.int .u8 117, .int .u8 118] 5 (2, 3) (by simp [bv])
  rw [aw_4] at k4
  have K4 := Lib.hid k4
  clear K3 o4 k4
  go_wp2_with fail
  refine K4.out.mono ?_
  rintro e w5 ⟨rfl, m5, o5, -⟩
  have k5 := pending_own o5
  rw [show aw4.chg.length = 1 from rfl] at k5
  have K5 := Lib.hid k5
  clear k5
  have O5 := Lib.hid o5
  clear K4 o5
  go_wp2_with fail
  refine K5.out.mono ?_
  rintro e w6 ⟨rfl, rfl⟩
  have K6 := Lib.hid (clone_own O5.out aw_ok4 (by omega))
  clear K5 O5
  go_wp2_with fail
  refine K6.out.mono ?_
  rintro e w7 ⟨g, rfl, m7, o7, -⟩
  have k7 := crash_left o7 aw_ok4 (by omega) 1 1
  have e7 : aw4.crash (1 : Int).toNat (1 : Int).toNat = aw5 := aw_5
  rw [e7] at k7
  have K7 := Lib.hid k7
  clear K6 o7 k7 e7
  go_wp2_with fail
  refine K7.out.mono ?_
  rintro e w8 ⟨⟨v8, rfl⟩, m8, o8, -⟩
  have k8 := read_own o8.left aw_ok5 [97]
  rw [aw_6] at k8
  have K8 := Lib.hid k8
  have O8 := Lib.hid o8
  clear K7 o8 k8
  go_wp2_with fail
  refine K8.out.mono ?_
  rintro e w9 ⟨v9, rfl, hown9, hb9⟩
  obtain ⟨A9, c9, rfl, hc9, -, -, -⟩ := hown9.open_
  have hh9 := Hold.of_new (m := m8) hown9 fun k e => (O8.out.lt k e).2
  have k9 := crash_left (O8.out.newB hb9).swap aw_ok4 (by omega) 0 9
  have K9 := Lib.hid k9
  have HS9 := Lib.hid hh9
  clear K8 O8 hown9 hb9 k9 hh9 hc9
  go_wp2_with fail
  refine K9.out.mono ?_
  rintro e w10 ⟨⟨v10, rfl⟩, m10, o10, st10⟩
  have k10 := list_own o10.left aw_ok6 (by omega) []
  have e10 : (aw4.crash (0 : Int).toNat (9 : Int).toNat).list [] = [] := aw_7
  have k10' : Calls Tryd.prog 18 #[.pointer (some ⟨g, 0, none⟩), .string (strOf [])] w10 (TextsIs w10 []) := by rw [← e10]; exact k10
  have K10 := Lib.hid k10'
  have O10 := Lib.hid o10
  have HS10 := Lib.hid (HS9.out.step st10)
  clear K9 o10 k10 k10' e10 st10
  go_wp2_with fail
  refine K10.out.mono ?_
  rintro e w11 ⟨v11, rfl, hown11, hb11⟩
  obtain ⟨A11, c11, rfl, -, -⟩ := row_open hown11
  have hcv := run_str w11 _ A9 4 c9 [120, 121, 122, 117] (HS10.out.newB hb11).sees rfl
  have hst := strOf_toList [120, 121, 122, 117]
  have O11 := Lib.hid (O10.out.newB hb11).right
  have K11 := Lib.hid (used_own O11.out aw_ok5 (by omega))
  rw [aw_8] at K11
  have HB11 := Lib.hid (O10.out.left.below.trans (hb11.mono O10.out.left.below.size))
  clear K10 O10 hown11 hb11 HS9 HS10
  go_wp2_with fail
  refine K11.out.mono ?_
  rintro e w12 ⟨rfl, hb12⟩
  have k12 := pending_own (O11.out.newB hb12)
  rw [show aw5.chg.length = 0 from rfl] at k12
  have K12 := Lib.hid k12
  clear k12
  have HB12 := Lib.hid (HB11.out.trans (hb12.mono HB11.out.size))
  clear K11 O11 hb12 hcv hst
  go_wp2_with fail
  refine K12.out.mono ?_
  rintro e w13 ⟨rfl, rfl⟩
  clear K12
  go_wp2
  go_ret
  exact ⟨rfl, HB12.out⟩
end Go.Proofs.YteidkmiladkoiaaDoor
