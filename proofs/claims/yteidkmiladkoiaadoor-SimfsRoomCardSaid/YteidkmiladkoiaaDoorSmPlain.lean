/-
  Files by path: plain. No program in sight.
-/
import Derived.Test.YteidkmiladkoiaaDoorRows
namespace Go.Proofs.YteidkmiladkoiaaDoor

/-- Paths, and the numbers of their files; the paths rise. -/
abbrev Txt := List UInt8
abbrev Dir := List (Txt × Nat)
def RiD (l : Dir) : Prop := l.Pairwise fun x y => x.1 < y.1
/-- A path, and its file; none: it is gone. -/
abbrev Giv := Txt × Option Nat
def insD (p : Txt) (n : Nat) : Dir → Dir
  | [] => [(p, n)]
  | x :: r => if x.1 < p then x :: insD p n r else (p, n) :: (x :: r).filter fun y => decide (y.1 ≠ p)
def delD (p : Txt) (l : Dir) : Dir := l.filter fun y => decide (y.1 ≠ p)
def putD (l : Dir) (g : Giv) : Dir := match g.2 with
  | none => delD g.1 l
  | some n => insD g.1 n l
def againD (l : Dir) (c : List Giv) : Dir := c.foldl putD l
def lookD (l : Dir) (p : Txt) : Option Nat := (l.find? fun y => decide (y.1 = p)).map (·.2)

theorem lt_irr (a : Txt) : ¬ a < a := List.lt_irrefl a
theorem lt_ne {a b : Txt} (h : a < b) : a ≠ b := fun e => by subst e; exact lt_irr _ h
theorem lt_of_not {a b : Txt} (h : ¬ a < b) (hne : a ≠ b) : b < a := by
  by_cases h2 : b < a
  · exact h2
  · exact absurd (List.le_antisymm (α := UInt8) (show a ≤ b from h2) (show b ≤ a from h)) hne

theorem mem_ins {p : Txt} {n : Nat} : ∀ {l : Dir}, RiD l → ∀ x, x ∈ insD p n l ↔ x = (p, n) ∨ (x ∈ l ∧ x.1 ≠ p)
  | [], _, x => by simp [insD]
  | y :: r, h, x => by
    obtain ⟨h1, h2⟩ := List.pairwise_cons.1 h
    unfold insD
    split
    · rename_i hy
      rw [List.mem_cons, mem_ins h2 x, List.mem_cons]
      constructor
      · rintro (rfl | rfl | ⟨hx, hne⟩)
        · exact .inr ⟨.inl rfl, lt_ne hy⟩
        · exact .inl rfl
        · exact .inr ⟨.inr hx, hne⟩
      · rintro (rfl | ⟨rfl | hx, hne⟩)
        · exact .inr (.inl rfl)
        · exact .inl rfl
        · exact .inr (.inr ⟨hx, hne⟩)
    · rw [List.mem_cons, List.mem_filter, decide_eq_true_eq]
theorem mem_del {p : Txt} {l : Dir} (x : Txt × Nat) : x ∈ delD p l ↔ x ∈ l ∧ x.1 ≠ p := by simp [delD, List.mem_filter]
theorem mem_put {l : Dir} (h : RiD l) (g : Giv) (x : Txt × Nat) : x ∈ putD l g ↔ (g.2 = some x.2 ∧ x.1 = g.1) ∨ (x ∈ l ∧ x.1 ≠ g.1) := by
  unfold putD
  split
  · rename_i e
    rw [mem_del, e]; simp
  · rename_i n e
    rw [mem_ins h, e]
    constructor
    · rintro (rfl | hx)
      · exact .inl ⟨rfl, rfl⟩
      · exact .inr hx
    · rintro (⟨h1, h2⟩ | hx)
      · obtain ⟨x1, x2⟩ := x
        simp only [Option.some.injEq] at h1
        simp only at h2
        exact .inl (by rw [h2, h1])
      · exact .inr hx
theorem ri_ins {p : Txt} {n : Nat} : ∀ {l : Dir}, RiD l → RiD (insD p n l)
  | [], _ => by simp [insD, RiD]
  | y :: r, h => by
    obtain ⟨h1, h2⟩ := List.pairwise_cons.1 h
    unfold insD
    split
    · rename_i hy
      refine List.pairwise_cons.2 ⟨fun x hx => ?_, ri_ins h2⟩
      rcases (mem_ins h2 x).1 hx with rfl | ⟨hx, -⟩
      · exact hy
      · exact h1 x hx
    · rename_i hy
      refine List.pairwise_cons.2 ⟨fun x hx => ?_, h.filter _⟩
      obtain ⟨hx, hne⟩ := List.mem_filter.1 hx
      rw [decide_eq_true_eq] at hne
      have hyp : ¬ x.1 < p := fun e => by
        rcases List.mem_cons.1 hx with rfl | hx
        · exact hy e
        · exact hy (List.lt_trans (h1 x hx) e)
      exact lt_of_not hyp hne
theorem ri_put {l : Dir} (h : RiD l) (g : Giv) : RiD (putD l g) := by
  unfold putD
  split
  · exact h.filter _
  · exact ri_ins h
theorem ri_again : ∀ (c : List Giv) {l : Dir}, RiD l → RiD (againD l c)
  | [], _, h => h
  | g :: c, _, h => ri_again c (ri_put h g)
theorem len_ins (p : Txt) (n : Nat) : ∀ l : Dir, (insD p n l).length ≤ l.length + 1
  | [] => by simp [insD]
  | y :: r => by
    unfold insD
    split
    · have := len_ins p n r; simp; omega
    · have := List.length_filter_le (fun y : Txt × Nat => decide (y.1 ≠ p)) (y :: r); simp only [List.length_cons] at this ⊢; omega
theorem len_put (l : Dir) (g : Giv) : (putD l g).length ≤ l.length + 1 := by
  unfold putD
  split
  · have := List.length_filter_le (fun y : Txt × Nat => decide (y.1 ≠ g.1)) l; unfold delD; omega
  · exact len_ins _ _ _
theorem len_again : ∀ (c : List Giv) (l : Dir), (againD l c).length ≤ l.length + c.length
  | [], l => by simp [againD]
  | g :: c, l => by
    have h1 := len_again c (putD l g)
    have h2 := len_put l g
    simp only [againD, List.foldl_cons, List.length_cons] at h1 ⊢
    omega

theorem key_uniq {l : Dir} (h : RiD l) {p : Txt} {m n : Nat} (h1 : (p, m) ∈ l) (h2 : (p, n) ∈ l) : m = n := by
  induction l with
  | nil => cases h1
  | cons a r ih =>
    obtain ⟨g1, g2⟩ := List.pairwise_cons.1 h
    rcases List.mem_cons.1 h1 with e1 | h1
    · rcases List.mem_cons.1 h2 with e2 | h2
      · have := e1.trans e2.symm; exact congrArg Prod.snd this
      · exact absurd (g1 _ h2) (by rw [← e1]; exact lt_irr _)
    · rcases List.mem_cons.1 h2 with e2 | h2
      · exact absurd (g1 _ h1) (by rw [← e2]; exact lt_irr _)
      · exact ih g2 h1 h2
theorem look_none {l : Dir} {p : Txt} : lookD l p = none ↔ ∀ x ∈ l, x.1 ≠ p := by
  unfold lookD
  rw [Option.map_eq_none_iff, List.find?_eq_none]
  simp
theorem look_mem {l : Dir} {p : Txt} {n : Nat} (h : lookD l p = some n) : (p, n) ∈ l := by
  unfold lookD at h
  obtain ⟨x, h1, h2⟩ := Option.map_eq_some_iff.1 h
  have h3 := List.mem_of_find?_eq_some h1
  have h4 := List.find?_some h1
  rw [decide_eq_true_eq] at h4
  obtain ⟨x1, x2⟩ := x
  simp only at h4 h2
  rw [← h4, ← h2]
  exact h3
theorem look_iff {l : Dir} (h : RiD l) {p : Txt} {n : Nat} : lookD l p = some n ↔ (p, n) ∈ l := by
  refine ⟨look_mem, fun hm => ?_⟩
  cases e : lookD l p with
  | none => exact absurd rfl (look_none.1 e _ hm)
  | some m => rw [key_uniq h (look_mem e) hm]
theorem look_put {l : Dir} (h : RiD l) (g : Giv) (q : Txt) : lookD (putD l g) q = if q = g.1 then g.2 else lookD l q := by
  have hr := ri_put h g
  by_cases hq : q = g.1
  · rw [if_pos hq]
    cases e : g.2 with
    | none =>
      refine look_none.2 fun x hx => ?_
      rcases (mem_put h g x).1 hx with ⟨h1, -⟩ | ⟨-, h2⟩
      · rw [e] at h1; cases h1
      · rw [hq]; exact h2
    | some n => exact (look_iff hr).2 ((mem_put h g _).2 (.inl ⟨e, hq⟩))
  · rw [if_neg hq]
    cases e : lookD l q with
    | none =>
      refine look_none.2 fun x hx => ?_
      rcases (mem_put h g x).1 hx with ⟨-, h2⟩ | ⟨h1, -⟩
      · rw [h2]; exact fun e2 => hq e2.symm
      · exact look_none.1 e x h1
    | some n => exact (look_iff hr).2 ((mem_put h g _).2 (.inr ⟨look_mem e, hq⟩))

/-- Bytes, how many of them stay. -/
structure FileM where
  b : Txt
  stays : Nat
/-- Files by path, as they are and as they stay; what was done with paths; fuse: how many calls more do something, and one; 0: all. -/
structure FsM where
  room : Nat
  files : List FileM
  now : Dir
  kept : Dir
  chg : List (List Giv)
  fuse : Nat

namespace FsM
def new (r : Nat) : FsM := ⟨r, [], [], [], [], 0⟩
def file (S : FsM) (i : Nat) : FileM := S.files.getD i ⟨[], 0⟩
def look (S : FsM) (p : Txt) : Option Nat := lookD S.now p
def change (S : FsM) (l : List Giv) : FsM := { S with now := againD S.now l, chg := S.chg ++ [l] }
def setFile (S : FsM) (i : Nat) (x : FileM) : FsM := { S with files := S.files.set i x }
def more (S : FsM) : FsM := { S with files := S.files ++ [⟨[], 0⟩] }
def spent (S : FsM) : FsM × Bool := if S.fuse = 0 then (S, false) else if S.fuse = 1 then (S, true) else ({ S with fuse := S.fuse - 1 }, false)
def used (S : FsM) : Nat := (((List.range S.files.length).filter fun i => S.now.any fun p => decide (p.2 = i)).map fun i => (S.file i).b.length).sum
def rightC (c : UInt8) : Bool := (97 ≤ c.toNat && c.toNat ≤ 122) || (48 ≤ c.toNat && c.toNat ≤ 57) || c.toNat = 46 || c.toNat = 47
def right (p : Txt) : Bool := decide (1 ≤ p.length) && decide (p.length ≤ 24) && p.all rightC
def create (S : FsM) (p : Txt) : FsM × Nat :=
  if right p = false then (S, 63) else if (S.look p).isSome then (S, 61) else ((S.more).change [(p, some S.files.length)], 0)
def append (S : FsM) (p : Txt) (b : Txt) : FsM × Nat := match S.look p with
  | none => (S, 60)
  | some n => if 1048576 < (S.file n).b.length + b.length then (S, 2) else if 0 < b.length ∧ S.room < S.used + b.length then (S, 62) else (S.setFile n { S.file n with b := (S.file n).b ++ b }, 0)
def sync (S : FsM) (p : Txt) : FsM × Nat := match S.look p with
  | none => (S, 60)
  | some n => (S.setFile n { S.file n with stays := (S.file n).b.length }, 0)
def rename (S : FsM) (p q : Txt) : FsM × Nat := match S.look p with
  | none => (S, 60)
  | some n => if right q = false then (S, 63) else (S.change [(p, none), (q, some n)], 0)
def link (S : FsM) (p q : Txt) : FsM × Nat := match S.look p with
  | none => (S, 60)
  | some n => if right q = false then (S, 63) else if (S.look q).isSome then (S, 61) else (S.change [(q, some n)], 0)
def remove (S : FsM) (p : Txt) : FsM × Nat := match S.look p with
  | none => (S, 60)
  | some _ => (S.change [(p, none)], 0)
def settle (S : FsM) : FsM := { S with kept := S.now, chg := [] }
def cut (x : FileM) (by_ : Nat) : FileM := ⟨x.b.take (x.stays + min by_ (x.b.length - x.stays)), x.stays + min by_ (x.b.length - x.stays)⟩
def crash (S : FsM) (ch by_ : Nat) : FsM :=
  { S with fuse := 0, now := (S.chg.take ch).foldl againD S.kept, kept := (S.chg.take ch).foldl againD S.kept, chg := [], files := S.files.map fun x => cut x by_ }
def read (S : FsM) (p : Txt) : Txt × Nat := match S.look p with
  | none => ([], 60)
  | some n => ((S.file n).b, 0)
def list (S : FsM) (first : Txt) : List Txt := (S.now.map (·.1)).filter fun p => decide (first <+: p)
def setFuse (S : FsM) (n : Nat) : FsM := { S with fuse := n }
/-- Is a file's number named? -/
def reach (S : FsM) (i : Nat) : Prop := (∃ p, (p, i) ∈ S.now) ∨ (∃ p, (p, i) ∈ S.kept) ∨ ∃ l ∈ S.chg, ∃ p, (p, some i) ∈ l
end FsM

theorem ri_fold : ∀ (c : List (List Giv)) {l : Dir}, RiD l → RiD (c.foldl againD l)
  | [], _, h => h
  | g :: c, _, h => ri_fold c (ri_again g h)
theorem len_fold {c : List (List Giv)} (hc : ∀ l ∈ c, l.length ≤ 2) : ∀ l : Dir, (c.foldl againD l).length ≤ l.length + 2 * c.length := by
  induction c with
  | nil => intro l; simp
  | cons g c ih =>
    intro l
    have h1 := ih (fun l hl => hc l (by simp [hl])) (againD l g)
    have h2 := len_again g l
    have h3 := hc g (by simp)
    simp only [List.foldl_cons, List.length_cons] at h1 ⊢
    omega
theorem mem_again {c : List Giv} : ∀ {l : Dir}, RiD l → ∀ x, x ∈ againD l c → x ∈ l ∨ (x.1, some x.2) ∈ c := by
  induction c with
  | nil => intro l _ x hx; exact .inl hx
  | cons g c ih =>
    intro l h x hx
    rcases ih (ri_put h g) x hx with h1 | h1
    · rcases (mem_put h g x).1 h1 with ⟨h2, h3⟩ | ⟨h2, -⟩
      · refine .inr (List.mem_cons.2 (.inl ?_))
        obtain ⟨g1, g2⟩ := g
        simp only at h2 h3
        rw [h2, h3]
      · exact .inl h2
    · exact .inr (List.mem_cons.2 (.inr h1))
theorem mem_fold {c : List (List Giv)} : ∀ {l : Dir}, RiD l → ∀ x, x ∈ c.foldl againD l → x ∈ l ∨ ∃ g ∈ c, (x.1, some x.2) ∈ g := by
  induction c with
  | nil => intro l _ x hx; exact .inl hx
  | cons g c ih =>
    intro l h x hx
    rcases ih (ri_again g h) x hx with h1 | ⟨g', h1, h2⟩
    · rcases mem_again h x h1 with h2 | h2
      · exact .inl h2
      · exact .inr ⟨g, by simp, h2⟩
    · exact .inr ⟨g', by simp [h1], h2⟩

/-- What holds of all files that a script has made in N / 2 steps. -/
structure FsOk (N : Nat) (S : FsM) : Prop where
  nowR : RiD S.now
  keptR : RiD S.kept
  num : ∀ i, S.reach i → i < S.files.length
  nowP : ∀ x ∈ S.now, x.1.length ≤ 24
  keptP : ∀ x ∈ S.kept, x.1.length ≤ 24
  chgP : ∀ l ∈ S.chg, ∀ g ∈ l, g.1.length ≤ 24
  chg2 : ∀ l ∈ S.chg, l.length ≤ 2
  again : S.now = S.chg.foldl againD S.kept
  many : S.kept.length + 2 * S.chg.length ≤ N
  filesN : S.files.length ≤ N
  filesOk : ∀ x ∈ S.files, x.stays ≤ x.b.length ∧ x.b.length ≤ 1048576
  roomOk : S.room ≤ 16777216
  fuseOk : S.fuse ≤ 1099511627777

section
variable {N : Nat} {S : FsM}
theorem FsOk.mono (h : FsOk N S) {M : Nat} (hM : N ≤ M) : FsOk M S :=
  ⟨h.nowR, h.keptR, h.num, h.nowP, h.keptP, h.chgP, h.chg2, h.again, Nat.le_trans h.many hM, Nat.le_trans h.filesN hM, h.filesOk, h.roomOk, h.fuseOk⟩
theorem FsOk.nowN (h : FsOk N S) : S.now.length ≤ N := by
  rw [h.again]
  exact Nat.le_trans (len_fold h.chg2 _) h.many
theorem FsOk.new {r : Nat} (hr : r ≤ 16777216) : FsOk 0 (FsM.new r) := by
  refine ⟨by simp [FsM.new, RiD], by simp [FsM.new, RiD], fun i hi => ?_, by simp [FsM.new], by simp [FsM.new], by simp [FsM.new], by simp [FsM.new], by simp [FsM.new], by simp [FsM.new], by simp [FsM.new], by simp [FsM.new], hr, by simp [FsM.new]⟩
  rcases hi with ⟨p, h⟩ | ⟨p, h⟩ | ⟨l, h, -⟩ <;> simp [FsM.new] at h
theorem FsOk.fileOk (h : FsOk N S) (i : Nat) : (S.file i).stays ≤ (S.file i).b.length ∧ (S.file i).b.length ≤ 1048576 := by
  unfold FsM.file
  rw [List.getD_eq_getElem?_getD]
  cases e : S.files[i]? with
  | none => simp
  | some x => exact h.filesOk x (List.mem_of_getElem? e)
theorem reach_now {i : Nat} {p : Txt} (h : S.look p = some i) : S.reach i := .inl ⟨p, look_mem h⟩
theorem reach_change {l : List Giv} (hR : RiD S.now) {i : Nat} (h : (S.change l).reach i) : S.reach i ∨ ∃ p, (p, some i) ∈ l := by
  rcases h with ⟨p, h⟩ | ⟨p, h⟩ | ⟨c, h, p, hp⟩
  · rcases mem_again hR _ h with h | h
    · exact .inl (.inl ⟨p, h⟩)
    · exact .inr ⟨p, h⟩
  · exact .inl (.inr (.inl ⟨p, h⟩))
  · rcases List.mem_append.1 h with h | h
    · exact .inl (.inr (.inr ⟨c, h, p, hp⟩))
    · rw [List.mem_singleton.1 h] at hp
      exact .inr ⟨p, hp⟩
theorem FsOk.change (h : FsOk N S) {l : List Giv} (hl : l.length ≤ 2) (hp : ∀ g ∈ l, g.1.length ≤ 24) (hn : ∀ p n, (p, some n) ∈ l → n < S.files.length) : FsOk (N + 2) (S.change l) := by
  refine ⟨ri_again _ h.nowR, h.keptR, fun i hi => ?_, fun x hx => ?_, h.keptP, fun c hc => ?_, fun c hc => ?_, ?_, ?_, Nat.le_trans h.filesN (by omega), h.filesOk, h.roomOk, h.fuseOk⟩
  · rcases reach_change h.nowR hi with h1 | ⟨p, h1⟩
    · exact h.num i h1
    · exact hn p i h1
  · rcases mem_again h.nowR _ hx with h1 | h1
    · exact h.nowP x h1
    · exact hp _ h1
  · rcases List.mem_append.1 hc with hc | hc
    · exact h.chgP c hc
    · rw [List.mem_singleton.1 hc]; exact hp
  · rcases List.mem_append.1 hc with hc | hc
    · exact h.chg2 c hc
    · rw [List.mem_singleton.1 hc]; exact hl
  · simp only [FsM.change, List.foldl_append, List.foldl_cons, List.foldl_nil]
    rw [h.again]
  · have := h.many
    simp only [FsM.change, List.length_append, List.length_cons, List.length_nil]
    omega
theorem FsOk.more (h : FsOk N S) : FsOk (N + 2) S.more := by
  refine ⟨h.nowR, h.keptR, fun i hi => ?_, h.nowP, h.keptP, h.chgP, h.chg2, h.again, Nat.le_trans h.many (by omega), ?_, fun x hx => ?_, h.roomOk, h.fuseOk⟩
  · have := h.num i hi
    simp only [FsM.more, List.length_append]
    omega
  · have := h.filesN
    simp only [FsM.more, List.length_append, List.length_cons, List.length_nil]
    omega
  · rcases List.mem_append.1 hx with hx | hx
    · exact h.filesOk x hx
    · rw [List.mem_singleton.1 hx]; simp
theorem FsOk.setFile (h : FsOk N S) (i : Nat) {x : FileM} (h1 : x.stays ≤ x.b.length) (h2 : x.b.length ≤ 1048576) : FsOk N (S.setFile i x) := by
  refine ⟨h.nowR, h.keptR, fun j hj => ?_, h.nowP, h.keptP, h.chgP, h.chg2, h.again, h.many, ?_, fun y hy => ?_, h.roomOk, h.fuseOk⟩
  · have := h.num j hj
    simpa [FsM.setFile] using this
  · simpa [FsM.setFile] using h.filesN
  · rcases List.mem_or_eq_of_mem_set hy with hy | rfl
    · exact h.filesOk y hy
    · exact ⟨h1, h2⟩
theorem FsOk.settle (h : FsOk N S) : FsOk N S.settle := by
  refine ⟨h.nowR, h.nowR, fun i hi => ?_, h.nowP, h.nowP, by simp [FsM.settle], by simp [FsM.settle], by simp [FsM.settle], ?_, h.filesN, h.filesOk, h.roomOk, h.fuseOk⟩
  · rcases hi with h1 | h1 | ⟨l, h1, -⟩
    · exact h.num i (.inl h1)
    · exact h.num i (.inl h1)
    · simp [FsM.settle] at h1
  · have := h.nowN
    simp only [FsM.settle, List.length_nil]
    omega
theorem FsOk.setFuse (h : FsOk N S) {n : Nat} (hn : n ≤ 1099511627777) : FsOk N (S.setFuse n) := ⟨h.nowR, h.keptR, h.num, h.nowP, h.keptP, h.chgP, h.chg2, h.again, h.many, h.filesN, h.filesOk, h.roomOk, hn⟩
theorem FsM.spent_eq (S : FsM) : (S.spent).1 = S.setFuse (S.spent).1.fuse ∧ (S.spent).1.fuse ≤ S.fuse := by
  unfold FsM.spent
  split
  · exact ⟨rfl, Nat.le_refl _⟩
  · split
    · exact ⟨rfl, Nat.le_refl _⟩
    · exact ⟨rfl, Nat.sub_le _ _⟩
theorem FsOk.spent (h : FsOk N S) : FsOk N S.spent.1 := by
  obtain ⟨h1, h2⟩ := S.spent_eq
  rw [h1]
  exact h.setFuse (Nat.le_trans h2 h.fuseOk)
theorem cut_ok {x : FileM} (h : x.stays ≤ x.b.length) (n : Nat) : (FsM.cut x n).b.length = (FsM.cut x n).stays ∧ (FsM.cut x n).b.length ≤ x.b.length := by
  simp only [FsM.cut, List.length_take]
  omega
theorem FsOk.crash (h : FsOk N S) (ch n : Nat) : FsOk N (S.crash ch n) := by
  have hR : RiD ((S.chg.take ch).foldl againD S.kept) := ri_fold _ h.keptR
  have hm := fun x hx => mem_fold (c := S.chg.take ch) h.keptR x hx
  have hnum : ∀ i p, (p, i) ∈ (S.chg.take ch).foldl againD S.kept → i < S.files.length := fun i p hp => by
    rcases hm _ hp with h1 | ⟨g, h1, h2⟩
    · exact h.num i (.inr (.inl ⟨p, h1⟩))
    · exact h.num i (.inr (.inr ⟨g, List.mem_of_mem_take h1, p, h2⟩))
  have hpath : ∀ x ∈ (S.chg.take ch).foldl againD S.kept, x.1.length ≤ 24 := fun x hx => by
    rcases hm _ hx with h1 | ⟨g, h1, h2⟩
    · exact h.keptP x h1
    · exact h.chgP g (List.mem_of_mem_take h1) _ h2
  refine ⟨hR, hR, fun i hi => ?_, hpath, hpath, by simp [FsM.crash], by simp [FsM.crash], by simp [FsM.crash], ?_, by simpa [FsM.crash] using h.filesN, fun x hx => ?_, h.roomOk, by simp [FsM.crash]⟩
  · simp only [FsM.crash, List.length_map]
    rcases hi with ⟨p, h1⟩ | ⟨p, h1⟩ | ⟨l, h1, -⟩
    · exact hnum i p h1
    · exact hnum i p h1
    · simp [FsM.crash] at h1
  · have h1 := len_fold (c := S.chg.take ch) (fun l hl => h.chg2 l (List.mem_of_mem_take hl)) S.kept
    have h2 := h.many
    have h3 : (S.chg.take ch).length ≤ S.chg.length := List.length_take_le' _ _
    simp only [FsM.crash, List.length_nil]
    omega
  · simp only [FsM.crash] at hx
    obtain ⟨y, hy, rfl⟩ := List.mem_map.1 hx
    obtain ⟨g1, g2⟩ := h.filesOk y hy
    have := cut_ok g1 n
    omega
theorem right_len {p : Txt} (h : FsM.right p = true) : p.length ≤ 24 := by
  unfold FsM.right at h
  simp only [Bool.and_eq_true, decide_eq_true_eq] at h
  exact h.1.2
theorem FsOk.create (h : FsOk N S) (p : Txt) : FsOk (N + 4) (S.create p).1 := by
  unfold FsM.create
  split
  · exact h.mono (by omega)
  · split
    · exact h.mono (by omega)
    · rename_i hr _
      refine (h.more).change (by simp) (fun g hg => ?_) (fun q n hq => ?_)
      · rw [List.mem_singleton.1 hg]
        exact right_len (by simpa using hr)
      · simp only [List.mem_singleton, Prod.mk.injEq, Option.some.injEq] at hq
        simp [FsM.more, hq.2]
theorem FsOk.append (h : FsOk N S) (p b : Txt) : FsOk N (S.append p b).1 := by
  unfold FsM.append
  split
  · exact h
  · split
    · exact h
    · split
      · exact h
      · rename_i n _ hl _
        have := h.fileOk n
        exact h.setFile n (by simp; omega) (by simp; omega)
theorem FsOk.sync (h : FsOk N S) (p : Txt) : FsOk N (S.sync p).1 := by
  unfold FsM.sync
  split
  · exact h
  · rename_i n _
    exact h.setFile n (Nat.le_refl _) (h.fileOk n).2
theorem FsOk.lookP (h : FsOk N S) {p : Txt} {n : Nat} (hp : S.look p = some n) : p.length ≤ 24 ∧ n < S.files.length := ⟨h.nowP _ (look_mem hp), h.num n (reach_now hp)⟩
theorem FsOk.rename (h : FsOk N S) (p q : Txt) : FsOk (N + 2) (S.rename p q).1 := by
  unfold FsM.rename
  split
  · exact h.mono (by omega)
  · rename_i n hn
    split
    · exact h.mono (by omega)
    · rename_i hr
      refine h.change (by simp) (fun g hg => ?_) (fun r m hm => ?_)
      · simp only [List.mem_cons, List.not_mem_nil, or_false] at hg
        rcases hg with rfl | rfl
        · exact (h.lookP hn).1
        · exact right_len (by simpa using hr)
      · simp only [List.mem_cons, List.not_mem_nil, or_false, Prod.mk.injEq, Option.some.injEq, reduceCtorEq, and_false, false_or] at hm
        rw [hm.2]
        exact (h.lookP hn).2
theorem FsOk.link (h : FsOk N S) (p q : Txt) : FsOk (N + 2) (S.link p q).1 := by
  unfold FsM.link
  split
  · exact h.mono (by omega)
  · rename_i n hn
    split
    · exact h.mono (by omega)
    · split
      · exact h.mono (by omega)
      · rename_i hr _
        refine h.change (by simp) (fun g hg => ?_) (fun r m hm => ?_)
        · rw [List.mem_singleton.1 hg]
          exact right_len (by simpa using hr)
        · simp only [List.mem_singleton, Prod.mk.injEq, Option.some.injEq] at hm
          rw [hm.2]
          exact (h.lookP hn).2
theorem FsOk.remove (h : FsOk N S) (p : Txt) : FsOk (N + 2) (S.remove p).1 := by
  unfold FsM.remove
  split
  · exact h.mono (by omega)
  · rename_i n hn
    refine h.change (by simp) (fun g hg => ?_) (fun r m hm => ?_)
    · rw [List.mem_singleton.1 hg]
      exact (h.lookP hn).1
    · simp at hm
end
end Go.Proofs.YteidkmiladkoiaaDoor
