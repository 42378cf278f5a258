/-
  Files by path, in memory. Each block has a colour: 0: none of these files; 1: the struct; 2: the paths; 3: the paths as they stay; 4: the row of changes; 5: a change; 2i+6: the i-th file; 2i+7: its bytes.
-/
import Derived.Test.YteidkmiladkoiaaDoorSmPlain
import Derived.Test.YteidkmiladkoiaaDoorSmMap
import Derived.Test.YteidkmiladkoiaaDoorSmMem
namespace Go.Proofs.YteidkmiladkoiaaDoor
open Go.RowKit

/-- A whole block of cells, none of them frozen. -/
structure Blk (w : World) (b : Nat) (cs : Array Value) (t : TypeId) : Prop where
  out : w.heap[b]? = some (.cells cs t (0, 0))
section
variable {w w' : World} {b : Nat} {cs : Array Value} {t : TypeId}
theorem Blk.cell (h : Blk w b cs t) (i : Nat) {v : Value} (hi : cs[i]? = some v) : w.cell? ⟨b, i, none⟩ = some v := by
  simp [World.cell?, h.out, hi]
theorem Blk.frozen (h : Blk w b cs t) (i : Nat) : w.frozen? ⟨b, i, none⟩ = false := frozen_of_row w b i cs t h.out
theorem Blk.set (h : Blk w b cs t) (i : Nat) (v : Value) : Blk (w.setCell ⟨b, i, none⟩ v) b (cs.setIfInBounds i v) t := ⟨heap_setCell_same w b i cs t v h.out⟩
theorem Blk.lt (h : Blk w b cs t) : b < w.heap.size := (Array.getElem?_eq_some_iff.1 h.out).1
theorem Blk.keep (h : Blk w b cs t) (hk : w'.heap[b]? = w.heap[b]?) : Blk w' b cs t := ⟨hk.trans h.out⟩
theorem Blk.new (w : World) (cs : Array Value) (t : TypeId) : Blk (w.alloc (.cells cs t)) w.heap.size cs t := ⟨World.alloc_heap_new w _⟩
theorem Blk.okPtr (h : Blk w b cs t) : okPtr w (.pointer (some ⟨b, 0, none⟩)) := .inr ⟨b, cs, t, rfl, h.out⟩
end

theorem strOf_inj {a b : Txt} (h : strOf a = strOf b) : a = b := by
  have := congrArg ByteArray.toList h
  rwa [strOf_toList, strOf_toList] at this

/-- A pointer to a block. -/
def ptr (b : Nat) : Value := .pointer (some ⟨b, 0, none⟩)
theorem ptr_inj {a b : Nat} (h : ptr a = ptr b) : a = b := by simpa [ptr] using h
/-- An entry of a map of paths. -/
def pv (F : Nat → Nat) (p : Txt × Nat) : Value × Value := (.string (strOf p.1), ptr (F p.2))
def optV (F : Nat → Nat) : Option Nat → Value
  | none => .pointer none
  | some n => ptr (F n)
/-- The cells of a change. -/
def givV (F : Nat → Nat) (l : List Giv) : List Value := l.flatMap fun g => [.string (strOf g.1), optV F g.2]

theorem pv_keys {F : Nat → Nat} {d : Dir} (h : RiD d) : (d.map (pv F)).Pairwise fun p q => p.1 ≠ q.1 := by
  rw [List.pairwise_map]
  refine h.imp fun {x y} hlt => fun e => lt_ne hlt (strOf_inj ?_)
  simpa [pv] using e
theorem pv_ok {F : Nat → Nat} {d : Dir} : ∀ p ∈ d.map (pv F), okStr p.1 := fun p hp => by
  obtain ⟨x, -, rfl⟩ := List.mem_map.1 hp
  exact ⟨_, rfl⟩
theorem pv_put {F : Nat → Nat} {d : Dir} (h : RiD d) (q : Txt) (n : Nat) (p : Value × Value) : p ∈ (putD d (q, some n)).map (pv F) ↔ p = (.string (strOf q), ptr (F n)) ∨ (p ∈ d.map (pv F) ∧ p.1 ≠ .string (strOf q)) := by
  constructor
  · intro hp
    obtain ⟨x, hx, rfl⟩ := List.mem_map.1 hp
    rcases (mem_put h _ x).1 hx with ⟨h1, h2⟩ | ⟨h1, h2⟩
    · simp only [Option.some.injEq] at h1
      exact .inl (by simp [pv, h2, h1])
    · refine .inr ⟨List.mem_map_of_mem (f := pv F) h1, fun e => h2 (strOf_inj ?_)⟩
      simpa [pv] using e
  · rintro (rfl | ⟨hp, hne⟩)
    · exact List.mem_map.2 ⟨(q, n), (mem_put h _ _).2 (.inl ⟨rfl, rfl⟩), rfl⟩
    · obtain ⟨x, hx, rfl⟩ := List.mem_map.1 hp
      exact List.mem_map_of_mem (f := pv F) ((mem_put h _ x).2 (.inr ⟨hx, fun e => hne (by simp only [pv]; rw [e])⟩))
theorem pv_del {F : Nat → Nat} {d : Dir} (h : RiD d) (q : Txt) (p : Value × Value) : p ∈ (putD d (q, none)).map (pv F) ↔ p ∈ d.map (pv F) ∧ p.1 ≠ .string (strOf q) := by
  constructor
  · intro hp
    obtain ⟨x, hx, rfl⟩ := List.mem_map.1 hp
    rcases (mem_put h _ x).1 hx with ⟨h1, -⟩ | ⟨h1, h2⟩
    · cases h1
    · refine ⟨List.mem_map_of_mem (f := pv F) h1, fun e => h2 (strOf_inj ?_)⟩
      simpa [pv] using e
  · rintro ⟨hp, hne⟩
    obtain ⟨x, hx, rfl⟩ := List.mem_map.1 hp
    exact List.mem_map_of_mem (f := pv F) ((mem_put h _ x).2 (.inr ⟨hx, fun e => hne (by simp only [pv]; rw [e])⟩))
theorem givV_cons (F : Nat → Nat) (g : Giv) (l : List Giv) : givV F (g :: l) = .string (strOf g.1) :: optV F g.2 :: givV F l := rfl
theorem givV_length (F : Nat → Nat) (l : List Giv) : (givV F l).length = l.length * 2 := by
  induction l with
  | nil => rfl
  | cons g l ih => rw [givV_cons]; simp only [List.length_cons, ih]; omega
theorem givV_at (F : Nat → Nat) : ∀ (l : List Giv) (k : Nat) (h : k < l.length), (givV F l)[2 * k]? = some (.string (strOf l[k].1)) ∧ (givV F l)[2 * k + 1]? = some (optV F l[k].2)
  | g :: l, 0, _ => by rw [givV_cons]; simp
  | g :: l, k + 1, h => by
    rw [givV_cons, show 2 * (k + 1) = 2 * k + 1 + 1 by omega]
    simpa using givV_at F l k (by simpa using h)
theorem add_field (a : Addr) (m j : Nat) (hj : 0 < j) : a.add (m + j) = ⟨(a.add m).block, (a.add m).off + j, none⟩ := by
  unfold Addr.add
  by_cases hm : m = 0
  · subst hm
    rw [if_neg (by omega), if_pos rfl]
    simp
  · rw [if_neg (by omega), if_neg hm]
    simp [Nat.add_assoc]
/-- The k-th path of a change that is seen, and its file. -/
theorem SeesM.giv {q : Nat → Prop} {w : World} {A : Option Addr} {F : Nat → Nat} {l : List Giv} (h : SeesM q w A (givV F l)) {k : Nat} (hk : k < l.length) : ∃ ad, A = some ad ∧ q ad.block ∧ w.cell? (ad.add (k * 2)) = some (.string (strOf l[k].1)) ∧ w.cell? ⟨(ad.add (k * 2)).block, (ad.add (k * 2)).off + 1, none⟩ = some (optV F l[k].2) := by
  rcases h.out with h | ⟨ad, e, hb, hc⟩
  · have := givV_length F l
    rw [h] at this
    simp at this
    omega
  · obtain ⟨h1, h2⟩ := givV_at F l k hk
    exact ⟨ad, e, hb, by rw [Nat.mul_comm]; exact hc _ _ h1, by rw [← add_field ad _ 1 (by omega), Nat.mul_comm]; exact hc _ _ h2⟩
theorem givV_congr {F F' : Nat → Nat} {l : List Giv} (h : ∀ p n, (p, some n) ∈ l → F' n = F n) : givV F' l = givV F l := by
  induction l with
  | nil => rfl
  | cons g l ih =>
    rw [givV_cons, givV_cons, ih fun p n hp => h p n (List.mem_cons_of_mem _ hp)]
    obtain ⟨p, o⟩ := g
    cases o with
    | none => rfl
    | some n => simp only [optV]; rw [h p n (by simp)]
theorem givV_append (F : Nat → Nat) (l m : List Giv) : givV F (l ++ m) = givV F l ++ givV F m := by simp [givV]
theorem givV_one (F : Nat → Nat) (l : List Giv) : ∀ u ∈ givV F l, u.oneCell' = true := fun u hu => by
  obtain ⟨g, -, hg⟩ := List.mem_flatMap.1 hu
  simp only [List.mem_cons, List.not_mem_nil, or_false] at hg
  rcases hg with rfl | rfl
  · rfl
  · obtain ⟨p, o⟩ := g
    cases o <;> rfl

/-- One more colour. -/
def upd (c : Nat → Nat) (b x : Nat) : Nat → Nat := fun k => if k = b then x else c k
theorem upd_same (c : Nat → Nat) (b x : Nat) : upd c b x b = x := by simp [upd]
theorem upd_ne (c : Nat → Nat) {b : Nat} (x : Nat) {k : Nat} (h : k ≠ b) : upd c b x k = c k := by simp [upd, h]
/-- The i-th file lies in block p. -/
structure FileAt (c : Nat → Nat) (w : World) (i p : Nat) (x : FileM) : Prop where
  out : ∃ v, Blk w p #[v, .int .i64 (x.stays : Int)] 54 ∧ OwnB w 0 v x.b ∧ ∀ k, v.ownBlock = some k → c k = 2 * i + 7
  col : c p = 2 * i + 6
/-- The row of changes. -/
structure ChgAt (c F : Nat → Nat) (w : World) (v : Value) (L : List (List Giv)) : Prop where
  out : ∃ vs : List Value, w.ownsRow 0 60 1 v L.length vs ∧ (∀ k, v.ownBlock = some k → c k = 4) ∧ ∀ i (hi : i < L.length), ∃ A n, vs[i]? = some (.slice A (L[i]).length n) ∧ (L[i]).length ≤ n ∧ SeesM (fun k => c k = 5) w A (givV F L[i])
/-- The cells of the struct. -/
def fsV (S : FsM) (bn bk : Nat) (v : Value) : Array Value := #[.int .i64 (S.room : Int), .map (some bn), .map (some bk), v, .int .i64 (S.fuse : Int)]
/-- The files S lie in block f. -/
structure FsAt (c F : Nat → Nat) (w : World) (f : Nat) (S : FsM) : Prop where
  out : ∃ (bn bk : Nat) (v : Value), Blk w f (fsV S bn bk v) 47 ∧ c bn = 2 ∧ c bk = 3 ∧ MapIs w bn (S.now.map (pv F)) ∧ MapIs w bk (S.kept.map (pv F)) ∧ ChgAt c F w v S.chg
  col : c f = 1
  files : ∀ i, S.reach i → FileAt c w i (F i) (S.file i)
  lt : ∀ k, c k ≠ 0 → k < w.heap.size
/-- What a step over files leaves: the files S'; blocks of theirs alone have turned; none is theirs that was another's. -/
structure FsNew (c : Nat → Nat) (w : World) (f : Nat) (S' : FsM) (w' : World) : Prop where
  out : ∃ c' F', FsAt c' F' w' f S' ∧ ∀ k, k < w.heap.size → c k = 0 → c' k = 0
  turn : Turn (fun k => c k ≠ 0) w w'

section
variable {c c' F F' : Nat → Nat} {w w' w'' : World} {f i p : Nat} {S S' : FsM} {x : FileM} {v : Value} {L : List (List Giv)}
theorem FileAt.keep (h : FileAt c w i p x) (hk : Kept (fun k => c k = 2 * i + 6 ∨ c k = 2 * i + 7) w w') : FileAt c w' i p x := by
  obtain ⟨v, h1, h2, h3⟩ := h.out
  exact ⟨⟨v, h1.keep (hk p (.inl h.col)), ownsRow_kept h2 fun k e => hk k (.inr (h3 k e)), h3⟩, h.col⟩
theorem FileAt.recol (h : FileAt c w i p x) (hc : ∀ k, c k = 2 * i + 6 ∨ c k = 2 * i + 7 → c' k = c k) : FileAt c' w i p x := by
  obtain ⟨v, h1, h2, h3⟩ := h.out
  exact ⟨⟨v, h1, h2, fun k e => (hc k (.inr (h3 k e))).trans (h3 k e)⟩, (hc p (.inl h.col)).trans h.col⟩
theorem FileAt.lt (h : FileAt c w i p x) : p < w.heap.size := by obtain ⟨v, h1, -⟩ := h.out; exact h1.lt
theorem FileAt.okPtr (h : FileAt c w i p x) : okPtr w (ptr p) := by obtain ⟨v, h1, -⟩ := h.out; exact h1.okPtr
/-- The file's cells. -/
theorem FileAt.open_ (h : FileAt c w i p x) : ∃ A n, w.cell? ⟨p, 0, none⟩ = some (.slice A x.b.length n) ∧ w.cell? ⟨p, 1, none⟩ = some (.int .i64 (x.stays : Int)) ∧ (∀ j, w.frozen? ⟨p, j, none⟩ = false) ∧ x.b.length ≤ n ∧ n ≤ maxLen ∧ Sees w w.heap.size A (bv x.b) ∧
    OwnB w 0 (.slice A x.b.length n) x.b ∧ Blk w p #[.slice A x.b.length n, .int .i64 (x.stays : Int)] 54 ∧ (∀ k, (Value.slice A x.b.length n).ownBlock = some k → c k = 2 * i + 7) := by
  obtain ⟨v, h1, h2, h3⟩ := h.out
  obtain ⟨A, n, rfl, g1, g2, g3, g4⟩ := OwnB.open_ h2
  exact ⟨A, n, h1.cell 0 rfl, h1.cell 1 rfl, h1.frozen, g1, g2, g4, g3, h1, h3⟩
theorem ChgAt.keep (h : ChgAt c F w v L) (hk : Kept (fun k => c k = 4 ∨ c k = 5) w w') : ChgAt c F w' v L := by
  obtain ⟨vs, h1, h2, h3⟩ := h.out
  refine ⟨vs, ownsRow_kept h1 fun k e => hk k (.inl (h2 k e)), h2, fun i hi => ?_⟩
  obtain ⟨A, n, g1, g2, g3⟩ := h3 i hi
  exact ⟨A, n, g1, g2, g3.keep (hk.mono fun k e => .inr e)⟩
theorem ChgAt.recol (h : ChgAt c F w v L) (hc : ∀ k, c k = 4 ∨ c k = 5 → c' k = c k) : ChgAt c' F w v L := by
  obtain ⟨vs, h1, h2, h3⟩ := h.out
  refine ⟨vs, h1, fun k e => (hc k (.inl (h2 k e))).trans (h2 k e), fun i hi => ?_⟩
  obtain ⟨A, n, g1, g2, g3⟩ := h3 i hi
  exact ⟨A, n, g1, g2, g3.mono fun k e => (hc k (.inr e)).trans e⟩
theorem ChgAt.refile (h : ChgAt c F w v L) (hF : ∀ l ∈ L, ∀ p n, (p, some n) ∈ l → F' n = F n) : ChgAt c F' w v L := by
  obtain ⟨vs, h1, h2, h3⟩ := h.out
  refine ⟨vs, h1, h2, fun i hi => ?_⟩
  obtain ⟨A, n, g1, g2, g3⟩ := h3 i hi
  exact ⟨A, n, g1, g2, by rw [givV_congr (hF _ (List.getElem_mem hi))]; exact g3⟩
theorem ChgAt.nil (c F : Nat → Nat) (w : World) : ChgAt c F w (.slice none 0 0) [] := ⟨[], World.ownsRow_nil w 0 _ 1, fun k hk => by simp [Value.ownBlock] at hk, fun i hi => absurd hi (by simp)⟩
theorem pv_congr {d : Dir} (h : ∀ p n, (p, n) ∈ d → F' n = F n) : d.map (pv F') = d.map (pv F) := List.map_congr_left fun x hx => by simp only [pv]; rw [h x.1 x.2 hx]
theorem FsAt.keep (h : FsAt c F w f S) (hk : Kept (fun k => c k ≠ 0) w w') (hs : w.heap.size ≤ w'.heap.size) : FsAt c F w' f S := by
  obtain ⟨bn, bk, v, h1, h2, h3, h4, h5, h6⟩ := h.out
  exact ⟨⟨bn, bk, v, h1.keep (hk f (by have := h.col; simp only; omega)), h2, h3, h4.keep (hk bn (by omega)), h5.keep (hk bk (by omega)), h6.keep (hk.mono fun k e => by omega)⟩, h.col, fun i hi => (h.files i hi).keep (hk.mono fun k e => by omega), fun k hc => Nat.lt_of_lt_of_le (h.lt k hc) hs⟩
theorem FsAt.below (h : FsAt c F w f S) (hb : Below w.heap.size w w') : FsAt c F w' f S := h.keep (Kept.of_below hb h.lt) hb.size
theorem FsAt.turn {T : Nat → Prop} (h : FsAt c F w f S) (ht : Turn T w w') (hT : ∀ k, T k → c k = 0) : FsAt c F w' f S := h.keep (Kept.of_turn ht fun k e => ⟨h.lt k e, fun e2 => e (hT k e2)⟩) ht.size
theorem FsAt.drewN (h : FsAt c F w f S) (q : Nat) : FsAt c F (w.drewN q) f S := h.keep (Kept.drewN _ w q) (Nat.le_refl _)
theorem FsAt.refile (h : FsAt c F w f S) (hF : ∀ i, S.reach i → F' i = F i) : FsAt c F' w f S := by
  obtain ⟨bn, bk, v, h1, h2, h3, h4, h5, h6⟩ := h.out
  refine ⟨⟨bn, bk, v, h1, h2, h3, ?_, ?_, h6.refile fun l hl p n hp => hF n (.inr (.inr ⟨l, hl, p, hp⟩))⟩, h.col, fun i hi => by rw [hF i hi]; exact h.files i hi, h.lt⟩
  · rw [pv_congr fun p n hp => hF n (.inl ⟨p, hp⟩)]; exact h4
  · rw [pv_congr fun p n hp => hF n (.inr (.inl ⟨p, hp⟩))]; exact h5
/-- Only new blocks have another colour. -/
theorem FsAt.recol (h : FsAt c F w f S) (hc : ∀ k, c k ≠ 0 → c' k = c k) (hl : ∀ k, c' k ≠ 0 → k < w.heap.size) : FsAt c' F w f S := by
  obtain ⟨bn, bk, v, h1, h2, h3, h4, h5, h6⟩ := h.out
  have hcf := h.col
  exact ⟨⟨bn, bk, v, h1, (hc bn (by omega)).trans h2, (hc bk (by omega)).trans h3, h4, h5, h6.recol fun k e => hc k (by omega)⟩, (hc f (by omega)).trans hcf, fun i hi => (h.files i hi).recol fun k e => hc k (by omega), hl⟩
theorem FsAt.inj (h : FsAt c F w f S) {i j : Nat} (hi : S.reach i) (hj : S.reach j) (e : F i = F j) : i = j := by
  have h1 := (h.files i hi).col
  have h2 := (h.files j hj).col
  rw [e] at h1
  omega
theorem FsNew.of_below (h : FsAt c F w f S) (hb : Below w.heap.size w w') : FsNew c w f S w' := ⟨⟨c, F, h.below hb, fun _ _ e => e⟩, .of_new hb⟩
theorem FsNew.trans {S1 : FsM} (h : FsNew c w f S1 w') (k : ∀ c' F', FsAt c' F' w' f S1 → FsNew c' w' f S' w'') : FsNew c w f S' w'' := by
  obtain ⟨c1, F1, h1, h2⟩ := h.out
  have hk := k c1 F1 h1
  obtain ⟨c2, F2, h3, h4⟩ := hk.out
  have hs := h.turn.size
  exact ⟨⟨c2, F2, h3, fun j hj e => h4 j (by omega) (h2 j hj e)⟩, h.turn.trans' hk.turn fun j hj e e2 => e (h2 j hj e2)⟩
/-- The struct's cells. -/
theorem FsAt.open_ (h : FsAt c F w f S) : ∃ bn bk A n, w.cell? ⟨f, 0, none⟩ = some (.int .i64 (S.room : Int)) ∧ w.cell? ⟨f, 1, none⟩ = some (.map (some bn)) ∧ w.cell? ⟨f, 2, none⟩ = some (.map (some bk)) ∧ w.cell? ⟨f, 3, none⟩ = some (.slice A S.chg.length n) ∧ w.cell? ⟨f, 4, none⟩ = some (.int .i64 (S.fuse : Int)) ∧
    (∀ j, w.frozen? ⟨f, j, none⟩ = false) ∧ c bn = 2 ∧ c bk = 3 ∧ MapIs w bn (S.now.map (pv F)) ∧ MapIs w bk (S.kept.map (pv F)) ∧ ChgAt c F w (.slice A S.chg.length n) S.chg ∧ S.chg.length ≤ n ∧ Blk w f (fsV S bn bk (.slice A S.chg.length n)) 47 := by
  obtain ⟨bn, bk, v, h1, h2, h3, h4, h5, h6⟩ := h.out
  obtain ⟨A, n, rfl, hn⟩ : ∃ A n, v = .slice A S.chg.length n ∧ S.chg.length ≤ n := by
    obtain ⟨vs, g1, -⟩ := h6.out
    rcases g1.2 with ⟨rfl, hn⟩ | ⟨g, cap, cur, rfl, -, -, hc, -⟩
    · exact ⟨none, 0, by rw [hn], by omega⟩
    · exact ⟨_, cap, rfl, hc⟩
  exact ⟨bn, bk, A, n, h1.cell 0 rfl, h1.cell 1 rfl, h1.cell 2 rfl, h1.cell 3 rfl, h1.cell 4 rfl, h1.frozen, h2, h3, h4, h5, h6, hn, h1⟩
end
end Go.Proofs.YteidkmiladkoiaaDoor
