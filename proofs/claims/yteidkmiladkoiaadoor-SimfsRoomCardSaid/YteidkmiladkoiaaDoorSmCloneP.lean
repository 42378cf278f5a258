/-
  Clone's state: the files that are made, and the twins.
-/
import Derived.Test.YteidkmiladkoiaaDoorSmTwin
namespace Go.Proofs.YteidkmiladkoiaaDoor
open Go.RowKit

/-- A clone on its way: T: what it is so far. -/
structure ClI (c F : Nat → Nat) (S : FsM) (w : World) (g B3 bt : Nat) (c2 G : Nat → Nat) (D : List Nat) (T : FsM) (W : World) : Prop where
  fs : FsAt c2 G W g T
  tw : TwAt c F S c2 G D W B3 bt
  below : Below w.heap.size w W
  new : ∀ k, c2 k ≠ 0 → w.heap.size ≤ k
  at_ : w.heap.size ≤ bt ∧ w.heap.size ≤ B3
  sub : ∀ n, T.reach n → n ∈ D
  files : T.files = S.files

section
variable {c F c2 G c2' G' : Nat → Nat} {S T : FsM} {D D' : List Nat} {w W W' : World} {g B3 bt : Nat} {o : Option Nat}
theorem ClI.turn {R : Nat → Prop} (h : ClI c F S w g B3 bt c2 G D T W) (ht : Turn R W W') (hR : ∀ k, R k → c2 k = 0 ∧ k ≠ B3 ∧ k ≠ bt ∧ w.heap.size ≤ k) : ClI c F S w g B3 bt c2 G D T W' := by
  refine ⟨h.fs.turn ht fun k e => (hR k e).1, h.tw.keep (Kept.of_turn ht fun k e => ⟨?_, fun e2 => ?_⟩) ht.size, h.below.trans (ht.below (fun j e => (hR j e).2.2.2) h.below.size), h.new, h.at_, h.sub, h.files⟩
  · rcases e with e | rfl | rfl
    · exact h.tw.lt k (by omega)
    · exact h.tw.box.lt
    · exact h.tw.map.lt
  · have := hR k e2
    rcases e with e | e | e
    · have := this.1; omega
    · exact this.2.1 e
    · exact this.2.2.1 e
theorem ClI.newB (h : ClI c F S w g B3 bt c2 G D T W) (hb : Below W.heap.size W W') : ClI c F S w g B3 bt c2 G D T W' := h.turn (R := fun _ => False) (Turn.of_new hb) fun k e => e.elim
theorem ClI.twin (h : ClI c F S w g B3 bt c2 G D T W) (ht : TwStep c F S c2 G D W B3 bt o c2' G' D' W') : ClI c F S w g B3 bt c2' G' D' T W' := by
  have hs := ht.turn.size
  have h1 : FsAt c2 G W' g T := h.fs.turn ht.turn fun k e => by rw [e]; exact h.tw.off.2.2.2
  refine ⟨(h1.refile fun i hi => (ht.old i (h.sub i hi)).2).recol ht.col ht.at_.lt, ht.at_, h.below.trans (ht.turn.below (fun j e => by rw [e]; exact h.at_.1) h.below.size), fun k hk => ?_, h.at_, fun n hn => (ht.old n (h.sub n hn)).1, h.files⟩
  rcases ht.new k hk with e | e
  · exact h.new k e
  · have := h.below.size; omega
theorem ClI.fileAt (h : ClI c F S w g B3 bt c2 G D T W) {n : Nat} (hn : n ∈ D) : FileAt c2 W n (G n) (T.file n) := by
  have := (h.tw.file n hn).2
  unfold FsM.file at this ⊢
  rw [h.files]
  exact this
/-- One more path that stays. -/
theorem ClI.kept {bk : Nat} {K : Dir} (h : ClI c F S w g B3 bt c2 G D T W) (hT : T.kept = K) (hbk : W.cell? ⟨g, 2, none⟩ = some (.map (some bk))) {x : Txt × Nat} (hx : x.2 ∈ D) (hK : (K ++ [x]).Pairwise fun p q => p.1 ≠ q.1) :
    ∃ W', (Instr.mapUpdate 44 (.map (some bk)) (.string (strOf x.1)) (.pointer (some ⟨G x.2, 0, none⟩))).run Tryd.prog W = .ok () W' ∧ ClI c F S w g B3 bt c2 G D { T with kept := K ++ [x] } W' ∧ Turn (fun k => k = bk) W W' ∧ c2 bk = 3 := by
  obtain ⟨bn, bk', v, h1, h2, h3, h4, h5, h6⟩ := h.fs.out
  have e : bk = bk' := by
    have : W.cell? ⟨g, 2, none⟩ = some (.map (some bk')) := h1.cell 2 rfl
    rw [hbk] at this
    simpa using this
  subst e
  rw [hT] at h5
  have hne : ∀ y ∈ K, y.1 ≠ x.1 := fun y hy => (List.pairwise_append.1 hK).2.2 y hy x (by simp)
  obtain ⟨W', g1, g2, g3, -⟩ := h5.store (law_pstr W) Tryd.underlying44 pv_ok (x := .string (strOf x.1)) (v := ptr (G x.2)) ⟨_, rfl⟩ (l' := (K ++ [x]).map (pv G))
    (by
      rw [List.pairwise_map]
      exact hK.imp fun {a b} e1 => fun e2 => e1 (strOf_inj (by simpa [pv] using e2)))
    (fun p => by
      rw [List.map_append, List.mem_append]
      constructor
      · rintro (hp | hp)
        · obtain ⟨y, hy, rfl⟩ := List.mem_map.1 hp
          exact .inr ⟨hp, fun e2 => hne y hy (strOf_inj (by simpa [pv] using e2))⟩
        · simp at hp
          exact .inl hp
      · rintro (rfl | ⟨hp, -⟩)
        · exact .inr (by simp [pv])
        · exact .inl hp)
  have ht : Turn (fun k => k = bk) W W' := .of_grown g3 fun k e => (Option.some.inj e).symm
  have hcg := h.fs.col
  have hkk : Kept (fun k => c2 k ≠ 0 ∧ k ≠ bk) W W' := Kept.of_turn ht fun k e => ⟨h.fs.lt k e.1, e.2⟩
  refine ⟨W', g1, ⟨⟨⟨bn, bk, v, h1.keep (hkk g ⟨by omega, fun e2 => by rw [e2] at hcg; omega⟩), h2, h3, h4.keep (hkk bn ⟨by omega, fun e2 => by rw [e2] at h2; omega⟩), g2, h6.keep (hkk.mono fun k e => ⟨by omega, fun e2 => by rw [e2] at e; omega⟩)⟩, hcg, fun i hi => ?_, fun k hk => Nat.lt_of_lt_of_le (h.fs.lt k hk) ht.size⟩,
    h.tw.keep (Kept.of_turn ht fun k e => ?_) ht.size, h.below.trans (ht.below (fun j e => by rw [e]; exact h.new bk (by omega)) h.below.size), h.new, h.at_, fun n hn => ?_, h.files⟩, ht, h3⟩
  · have hi2 : i ∈ D := by
      rcases hi with ⟨p, e⟩ | ⟨p, e⟩ | ⟨l, e, p, ep⟩
      · exact h.sub i (.inl ⟨p, e⟩)
      · rcases List.mem_append.1 e with e | e
        · exact h.sub i (.inr (.inl ⟨p, by rw [hT]; exact e⟩))
        · rw [← List.mem_singleton.1 e] at hx
          exact hx
      · exact h.sub i (.inr (.inr ⟨l, e, p, ep⟩))
    have := h.fileAt hi2
    exact this.keep (hkk.mono fun k e => ⟨by omega, fun e2 => by rw [e2] at e; omega⟩)
  · rcases e with e | rfl | rfl
    · exact ⟨h.fs.lt k (by omega), fun e2 => by rw [e2] at e; omega⟩
    · exact ⟨h.tw.box.lt, fun e2 => by have := h.tw.off.2.2.1; rw [e2] at this; omega⟩
    · exact ⟨h.tw.map.lt, fun e2 => by have := h.tw.off.2.2.2; rw [e2] at this; omega⟩
  · rcases hn with ⟨p, e⟩ | ⟨p, e⟩ | ⟨l, e, p, ep⟩
    · exact h.sub n (.inl ⟨p, e⟩)
    · rcases List.mem_append.1 e with e | e
      · exact h.sub n (.inr (.inl ⟨p, by rw [hT]; exact e⟩))
      · rw [← List.mem_singleton.1 e] at hx
        exact hx
    · exact h.sub n (.inr (.inr ⟨l, e, p, ep⟩))
theorem TwAt.recol (ht : TwAt c F S c2 G D w B3 bt) (hc : ∀ k, 6 ≤ c2 k → c2' k = c2 k) (h0 : c2' B3 = 0 ∧ c2' bt = 0) (hl : ∀ k, c2' k ≠ 0 → k < w.heap.size) : TwAt c F S c2' G D w B3 bt :=
  ⟨ht.box, ht.map, ht.nd, fun n hn => ⟨(ht.file n hn).1, (ht.file n hn).2.recol fun k e => hc k (by omega)⟩, ht.ne, ⟨ht.off.1, ht.off.2.1, h0.1, h0.2⟩, hl⟩
/-- The paths that stay are those of now, too. -/
theorem ClI.now {bk : Nat} {K K' : Dir} {es : Array MapEntry} {clock : Nat} {W1 W2 : World} (h : ClI c F S w g B3 bt c2 G D T W) (hT : T.kept = K) (hbk : W.cell? ⟨g, 2, none⟩ = some (.map (some bk))) (hb : W.heap[bk]? = some (.map es clock)) (hK : K.Perm K')
    (h1 : W1 = W.alloc (.map es clock)) (h2 : W2 = W1.setCell ⟨g, 1, none⟩ (.map (some W.heap.size))) (hTn : T.now = []) (hTc : T.chg = []) : ClI c F S w g B3 bt (upd c2 W.heap.size 2) G D { T with kept := K', now := K' } W2 := by
  obtain ⟨bn, bk', v, e1, e2, e3, e4, e5, e6⟩ := h.fs.out
  have e : bk = bk' := by
    have : W.cell? ⟨g, 2, none⟩ = some (.map (some bk')) := e1.cell 2 rfl
    rw [hbk] at this
    simpa using this
  subst e
  rw [hT] at e5
  have hcl := MapIs.clone W hb e5
  rw [← h1] at hcl
  have hcg := h.fs.col
  have hgl : g < W.heap.size := e1.lt
  have hz1 : W1.heap.size = W.heap.size + 1 := by rw [h1]; simp
  have hb1 : Below W.heap.size W W1 := by rw [h1]; exact (Below.refl _ W).alloc (Nat.le_refl _) _
  have ht : Turn (fun k => k = g) W W2 := by
    rw [h2]
    exact (Turn.of_new hb1).trans (Turn.setCell _ _ _ rfl)
  have hk2 : ∀ k, k ≠ g → W2.heap[k]? = W1.heap[k]? := fun k hk => by rw [h2]; exact Below.heap_setCell _ _ _ _ hk
  have hz2 : W2.heap.size = W.heap.size + 1 := by rw [h2, World.size_setCell, hz1]
  have hcol : ∀ k, k < W.heap.size → upd c2 W.heap.size 2 k = c2 k := fun k hk => upd_ne c2 2 (by omega)
  have hkk : Kept (fun k => c2 k ≠ 0 ∧ k ≠ g) W W2 := Kept.of_turn ht fun k e => ⟨h.fs.lt k e.1, e.2⟩
  have hp := hK.map (pv G)
  have hlt2 : ∀ k, upd c2 W.heap.size 2 k ≠ 0 → k < W2.heap.size := fun k hk => by
    by_cases e : k = W.heap.size
    · omega
    · rw [upd_ne c2 2 e] at hk
      have := h.fs.lt k hk; omega
  have hbt := h.tw.map.lt
  have hB3 := h.tw.box.lt
  refine ⟨⟨⟨W.heap.size, bk, v, ?_, upd_same c2 _ 2, (hcol bk (h.fs.lt bk (by omega))).trans e3, (hcl.perm hp).keep (hk2 _ (by omega)), (e5.perm hp).keep (hkk bk ⟨by omega, fun e7 => by rw [e7] at e3; omega⟩), ?_⟩, (hcol g hgl).trans hcg, fun i hi => ?_, hlt2⟩,
    (h.tw.keep (Kept.of_turn ht fun k e => ?_) ht.size).recol (fun k e => hcol k (h.tw.lt k (by omega))) ⟨(hcol B3 hB3).trans h.tw.off.2.2.1, (hcol bt hbt).trans h.tw.off.2.2.2⟩ hlt2, h.below.trans (ht.below (fun j e => by rw [e]; exact h.new g (by omega)) h.below.size), fun k hk => ?_, h.at_, fun n hn => ?_, h.files⟩
  · have := (e1.keep (hb1.block g hgl)).set 1 (.map (some W.heap.size))
    rw [← h2] at this
    exact this
  · show ChgAt _ G W2 v T.chg
    exact (e6.keep (hkk.mono fun k e => ⟨by omega, fun e7 => by rw [e7] at e; omega⟩)).recol fun k e => hcol k (h.fs.lt k (by omega))
  · have hi2 : i ∈ D := by
      rcases hi with ⟨p, e⟩ | ⟨p, e⟩ | ⟨l, e, p, ep⟩
      · exact h.sub i (.inr (.inl ⟨p, by rw [hT]; exact hK.mem_iff.2 e⟩))
      · exact h.sub i (.inr (.inl ⟨p, by rw [hT]; exact hK.mem_iff.2 e⟩))
      · exact h.sub i (.inr (.inr ⟨l, e, p, ep⟩))
    exact ((h.fileAt hi2).keep (hkk.mono fun k e => ⟨by omega, fun e7 => by rw [e7] at e; omega⟩)).recol fun k e => hcol k (h.fs.lt k (by omega))
  · rcases e with e | rfl | rfl
    · exact ⟨h.fs.lt k (by omega), fun e7 => by rw [e7] at e; omega⟩
    · exact ⟨hB3, fun e7 => by have := h.tw.off.2.2.1; rw [e7] at this; omega⟩
    · exact ⟨hbt, fun e7 => by have := h.tw.off.2.2.2; rw [e7] at this; omega⟩
  · by_cases e : k = W.heap.size
    · have := h.below.size; omega
    · rw [upd_ne c2 2 e] at hk
      exact h.new k hk
  · rcases hn with ⟨p, e⟩ | ⟨p, e⟩ | ⟨l, e, p, ep⟩
    · exact h.sub n (.inr (.inl ⟨p, by rw [hT]; exact hK.mem_iff.2 e⟩))
    · exact h.sub n (.inr (.inl ⟨p, by rw [hT]; exact hK.mem_iff.2 e⟩))
    · exact h.sub n (.inr (.inr ⟨l, e, p, ep⟩))
/-- One more change, in a row of the call's own. -/
theorem clI_change {v : Value} {n cap base : Nat} {A : Option Addr} {l : List Giv} (h : ClI c F S w g B3 bt c2 G D T W) (hv : v = .slice A n cap) (hnc : n ≤ cap) (hl : l.length = n) (hn : n ≤ 1000) (hown : W.ownsRow base 56 2 v n (givV G l)) (hbase : w.heap.size ≤ base)
    (hfree : ∀ b, v.ownBlock = some b → c2 b = 0 ∧ b ≠ B3 ∧ b ≠ bt) (hD : ∀ p i, (p, some i) ∈ l → i ∈ D) (hR : RiD T.now) (hN : T.chg.length ≤ 100000) :
    Calls Tryd.prog 22 #[.pointer (some ⟨g, 0, none⟩), .slice A n cap] W fun e W' => e = .returned (.int .i64 0) ∧ ∃ c2', ClI c F S w g B3 bt c2' G D (T.change l) W' := by
  have hvl := World.ownsRow.lt hown
  have hcol : ∀ k, c2 k ≠ 0 → updO c2 v.ownBlock 5 k = c2 k := fun k hk => updO_ne fun e => hk (hfree k e).1
  have hlt : ∀ k, updO c2 v.ownBlock 5 k ≠ 0 → k < W.heap.size := fun k hk => by
    by_cases e : v.ownBlock = some k
    · exact (hvl k e).2
    · rw [updO_ne e] at hk
      exact h.fs.lt k hk
  have hfs := h.fs.recol hcol hlt
  have h0 : updO c2 v.ownBlock 5 B3 = 0 ∧ updO c2 v.ownBlock 5 bt = 0 := ⟨(updO_ne fun e => (hfree _ e).2.1 rfl).trans h.tw.off.2.2.1, (updO_ne fun e => (hfree _ e).2.2 rfl).trans h.tw.off.2.2.2⟩
  have htw := h.tw.recol (fun k e => hcol k (by omega)) h0 hlt
  have hsee : SeesM (fun k => updO c2 v.ownBlock 5 k = 5) W A (givV G l) := by
    rw [hv] at hown
    rcases (Sees.of_own hown).out with e | ⟨ad, e1, e2, e3⟩
    · exact ⟨.inl e⟩
    · exact ⟨.inr ⟨ad, e1, updO_same (by rw [hv, e1]; rfl), e3⟩⟩
  refine (change_any hfs hR A n cap l hl hnc hn hsee (fun p i hp => ((h.fileAt (hD p i hp)).recol fun k e => hcol k (by omega))) hN).mono ?_
  rintro e W' ⟨rfl, c', g1, g2, g3⟩
  have hs := g3.size
  have hbt := h.tw.map.lt
  have hB3 := h.tw.box.lt
  have hcg := hfs.col
  refine ⟨rfl, c', g1, (htw.keep (Kept.of_turn g3 fun k e => ?_) hs).recol (fun k e => g2 k (htw.lt k (by omega))) ⟨(g2 B3 hB3).trans h0.1, (g2 bt hbt).trans h0.2⟩ g1.lt, h.below.trans (g3.below (fun j e => ?_) h.below.size), fun k hk => ?_, h.at_, fun i hi => ?_, h.files⟩
  · rcases e with e | rfl | rfl
    · exact ⟨htw.lt k (by omega), fun e2 => by rcases e2 with e2 | e2 | e2 <;> first | omega | (rw [e2] at e; omega)⟩
    · exact ⟨hB3, fun e2 => by rcases e2 with e2 | e2 | e2 <;> first | omega | (rw [← e2] at hcg; omega)⟩
    · exact ⟨hbt, fun e2 => by rcases e2 with e2 | e2 | e2 <;> first | omega | (rw [← e2] at hcg; omega)⟩
  · have h5 : updO c2 v.ownBlock 5 j ≠ 0 := by rcases e with e | e | e <;> first | omega | (rw [e]; omega)
    by_cases e2 : v.ownBlock = some j
    · have := (hvl j e2).1; omega
    · rw [updO_ne e2] at h5
      exact h.new j h5
  · by_cases hk2 : k < W.heap.size
    · rw [g2 k hk2] at hk
      by_cases e2 : v.ownBlock = some k
      · have := (hvl k e2).1; omega
      · rw [updO_ne e2] at hk
        exact h.new k hk
    · have := h.below.size; omega
  · rcases reach_change hR hi with e | ⟨p, e⟩
    · exact h.sub i e
    · exact hD p i e
end
end Go.Proofs.YteidkmiladkoiaaDoor
