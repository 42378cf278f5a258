/-
  New; the calls that change files' paths, walked: Create, Rename, Link, Remove, SyncDir.
-/
import Derived.Test.YteidkmiladkoiaaDoorSmRight
namespace Go.Proofs.YteidkmiladkoiaaDoor
open Go.RowKit

/-- A changing call: counted first. -/
def FsM.go (S : FsM) (act : FsM → FsM × Nat) : FsM × Nat := if S.spent.2 = true then (S.spent.1, 62) else act S.spent.1
theorem FsM.go_full {S : FsM} {act : FsM → FsM × Nat} (h : S.spent.2 = true) : S.go act = (S.spent.1, 62) := by unfold FsM.go; rw [if_pos h]
theorem FsM.go_on {S : FsM} {act : FsM → FsM × Nat} (h : S.spent.2 = false) : S.go act = act S.spent.1 := by unfold FsM.go; rw [h]; rfl
theorem FsM.spent_look (S : FsM) (p : Txt) : S.spent.1.look p = S.look p := by rw [S.spent_eq.1]; rfl
theorem FsM.more_file (S : FsM) {i : Nat} (h : i < S.files.length) : S.more.file i = S.file i := by
  unfold FsM.file FsM.more
  rw [List.getD_eq_getElem?_getD, List.getD_eq_getElem?_getD, List.getElem?_append_left h]
theorem FsM.more_new (S : FsM) : S.more.file S.files.length = ⟨[], 0⟩ := by
  unfold FsM.file FsM.more
  rw [List.getD_eq_getElem?_getD, List.getElem?_append_right (Nat.le_refl _)]
  simp

section
variable {c F : Nat → Nat} {w w' : World} {f : Nat} {S : FsM}
/-- A new block that is none of the files'. -/
theorem FsAt.giv (h : FsAt c F w f S) (o : Obj) : FsAt (upd c w.heap.size 5) F (w.alloc o) f S := by
  refine (h.below ((Below.refl _ w).alloc (Nat.le_refl _) o)).recol (fun k hk => upd_ne c 5 (by have := h.lt k hk; omega)) fun k hk => ?_
  rw [World.size_alloc]
  by_cases e : k = w.heap.size
  · omega
  · rw [upd_ne c 5 e] at hk
    have := h.lt k hk; omega
/-- A new file. -/
theorem FsAt.more (h : FsAt c F w f S) (hn : ∀ i, S.reach i → i < S.files.length) : FsAt (upd c w.heap.size (2 * S.files.length + 6)) (upd F S.files.length w.heap.size) (w.alloc (.cells #[.slice none 0 0, .int .i64 0] 54)) f S.more ∧
    FileAt (upd c w.heap.size (2 * S.files.length + 6)) (w.alloc (.cells #[.slice none 0 0, .int .i64 0] 54)) S.files.length w.heap.size (S.more.file S.files.length) := by
  have hF : ∀ i, S.reach i → upd F S.files.length w.heap.size i = F i := fun i hi => upd_ne F _ (by have := hn i hi; omega)
  have h2 : FsAt (upd c w.heap.size (2 * S.files.length + 6)) (upd F S.files.length w.heap.size) (w.alloc (.cells #[.slice none 0 0, .int .i64 0] 54)) f S := by
    refine ((h.below ((Below.refl _ w).alloc (Nat.le_refl _) _)).refile hF).recol (fun k hk => upd_ne c _ (by have := h.lt k hk; omega)) fun k hk => ?_
    rw [World.size_alloc]
    by_cases e : k = w.heap.size
    · omega
    · rw [upd_ne c _ e] at hk
      have := h.lt k hk; omega
  refine ⟨⟨h2.out, h2.col, fun i hi => ?_, h2.lt⟩, ?_⟩
  · rw [S.more_file (hn i hi)]
    exact h2.files i hi
  · rw [S.more_new]
    exact ⟨⟨.slice none 0 0, Blk.new w _ _, OwnB.nil _ _, fun k hk => by simp [Value.ownBlock] at hk⟩, upd_same c _ _⟩
theorem FsNew.of_turn {c' F' : Nat → Nat} {S' : FsM} (h : FsAt c' F' w' f S') (hc : ∀ k, k < w.heap.size → c k = 0 → c' k = 0) (ht : Turn (fun k => c k ≠ 0) w w') : FsNew c w f S' w' := ⟨⟨c', F', h, hc⟩, ht⟩
theorem FsNew.below {S' : FsM} {w0 : World} (h : FsNew c w f S' w') (hb : Below w0.heap.size w0 w) (hc : ∀ k, c k ≠ 0 → k < w0.heap.size) : FsNew c w0 f S' w' := by
  obtain ⟨c', F', h1, h2⟩ := h.out
  have := hb.size
  exact ⟨⟨c', F', h1, fun k hk e => h2 k (by omega) e⟩, (Turn.of_new hb).trans h.turn⟩
end

set_option maxRecDepth 100000 in
theorem new_any (n : Int) (w : World) : Calls Tryd.prog 6 #[.int .i64 n] w fun e w' => ∃ f c F, e = .returned (.pointer (some ⟨f, 0, none⟩)) ∧ FsAt c F w' f (FsM.new (min (max n 0) 16777216).toNat) ∧ (∀ k, k < w.heap.size → c k = 0) ∧ Below w.heap.size w w' := by
  obtain ⟨r, hr⟩ : ∃ r, (min (max n 0) 16777216).toNat = r := ⟨_, rfl⟩
  have hx : min (max n 0) 16777216 = (r : Int) := by omega
  rw [hr]
  have hmm := @run_makeMap Tryd.prog
  clear hr
  go_enter Tryd.func6, Tryd.ntmps6
  go_wp2
  go_ret
  refine ⟨w.heap.size + 1 + 1, upd (upd (upd (fun _ => 0) w.heap.size 2) (w.heap.size + 1) 3) (w.heap.size + 1 + 1) 1, fun _ => 0, rfl, ⟨⟨w.heap.size, w.heap.size + 1, .slice none 0 0, ?_, ?_, ?_, ?_, ?_, ChgAt.nil _ _ _⟩, upd_same _ _ _, fun i hi => ?_, fun k hk => ?_⟩, fun k hk => ?_, ((((Below.refl _ w).alloc (Nat.le_refl _) _).alloc (by simp) _).alloc (by simp; omega) _)⟩
  · refine ⟨?_⟩
    have := World.alloc_heap_new ((w.alloc (.map #[] 0)).alloc (.map #[] 0)) (.cells #[.int .i64 (r : Int), .map (some w.heap.size), .map (some (w.heap.size + 1)), .slice none 0 0, .int .i64 0] 47)
    simpa [fsV, FsM.new] using this
  · rw [upd_ne _ _ (by omega), upd_ne _ _ (by omega), upd_same]
  · rw [upd_ne _ _ (by omega), upd_same]
  · exact ((MapIs.new w).keep (Below.heap_alloc _ _ _ (by simp))).keep (Below.heap_alloc _ _ _ (by simp; omega))
  · have := MapIs.new (w.alloc (.map #[] 0))
    rw [World.size_alloc] at this
    exact this.keep (Below.heap_alloc _ _ _ (by simp))
  · rcases hi with ⟨p, e⟩ | ⟨p, e⟩ | ⟨l, e, -⟩ <;> simp [FsM.new] at e
  · simp only [World.size_alloc]
    simp only [upd] at hk
    split at hk
    · omega
    · split at hk
      · omega
      · split at hk
        · omega
        · exact absurd rfl hk
  · rw [upd_ne _ _ (by omega), upd_ne _ _ (by omega), upd_ne _ _ (by omega)]

/-- change, at a change that was just laid. -/
theorem change_lit {N : Nat} {c F : Nat → Nat} {w : World} {f : Nat} {S : FsM} (h : FsAt c F w f S) (hO : FsOk N S) (hN : N ≤ 10000) (l : List Giv) (n : Nat) (hn : l.length = n) (hn2 : n ≤ 2) (cs : Array Value) (hcs : cs = (givV F l).toArray) (hnew : ∀ p i, (p, some i) ∈ l → FileAt c w i (F i) (S.file i)) :
    Calls Tryd.prog 22 #[.pointer (some ⟨f, 0, none⟩), .slice (some ⟨w.heap.size, 0, none⟩) n n] (w.alloc (.cells cs 56)) fun e w' => e = .returned (.int .i64 0) ∧ FsNew c w f (S.change l) w' := by
  subst hcs
  have hkc : ∀ k, c k ≠ 0 → upd c w.heap.size 5 k = c k := fun k hk => upd_ne c 5 (by have := h.lt k hk; omega)
  have hb : Below w.heap.size w (w.alloc (.cells (givV F l).toArray 56)) := (Below.refl _ w).alloc (Nat.le_refl _) _
  refine (change_any (h.giv (.cells (givV F l).toArray 56)) hO.nowR (some ⟨w.heap.size, 0, none⟩) n n l hn (Nat.le_refl _) (by omega) ?_ (fun p i hp => ((hnew p i hp).keep (Kept.of_below hb fun k e => h.lt k (by omega))).recol fun k e => hkc k (by omega)) (by have := hO.many; omega)).mono ?_
  · have := sees_cells w _ rfl (givV F l) 56 _ rfl
    rcases this.out with e | ⟨ad, e1, e2, e3⟩
    · exact ⟨.inl e⟩
    · injection e1 with e1
      subst e1
      exact ⟨.inr ⟨_, rfl, upd_same c _ 5, e3⟩⟩
  · rintro e w' ⟨rfl, c', h1, h2, h3⟩
    refine ⟨rfl, ⟨c', F, h1, fun k hk e => ?_⟩, (Turn.of_new hb).trans' h3 fun k hk e => ?_⟩
    · rw [h2 k (by simp; omega), upd_ne c 5 (by omega)]; exact e
    · rw [upd_ne c 5 (by omega)] at e
      rcases e with e | e | e
      · rw [e, h.col]; omega
      · omega
      · omega

section
variable {c F : Nat → Nat} {w w' : World} {f : Nat} {S S' : FsM}
/-- Behind a counted call. -/
theorem spent_new (h : FsAt c F w f S) (h1 : FsAt c F w' f S.spent.1) (ht : Turn (fun k => k = f) w w') : FsNew c w f S.spent.1 w' := ⟨⟨c, F, h1, fun _ _ e => e⟩, ht.mono fun k _ e => by rw [e, h.col]; omega⟩
theorem FsNew.after {w1 : World} (ht : Turn (fun k => k = f) w w1) (hf : c f = 1) (h : FsNew c w1 f S' w') : FsNew c w f S' w' := by
  obtain ⟨c', F', h1, h2⟩ := h.out
  have := ht.size
  exact ⟨⟨c', F', h1, fun k hk e => h2 k (by omega) e⟩, (ht.mono fun k _ e => by rw [e, hf]; omega).trans h.turn⟩
end

set_option maxRecDepth 100000 in
set_option maxHeartbeats 800000 in
theorem create_any {N : Nat} {c F : Nat → Nat} {w : World} {f : Nat} {S : FsM} (h : FsAt c F w f S) (hO : FsOk N S) (hN : N ≤ 9000) (p : Txt) (hp : p.length ≤ 1000000) :
    Calls Tryd.prog 7 #[.pointer (some ⟨f, 0, none⟩), .string (strOf p)] w fun e w' => e = .returned (.int .i64 (S.go (·.create p)).2) ∧ FsNew c w f (S.go (·.create p)).1 w' := by
  have hfd := Lib.hid (find_any h p)
  have hsp := Lib.hid (spent_any h hO.fuseOk)
  have hO1 := Lib.hid hO.spent
  have hcf := h.col
  unfold findV at hfd
  have hlk := S.spent_look p
  have H := Lib.hid h
  cases hs : S.spent.2 with
  | true =>
    rw [FsM.go_full hs]
    rw [hs] at hsp
    cases hl : S.look p
    all_goals
      rw [hl] at hfd
      clear hs hl hlk h hO
      go_enter Tryd.func7, Tryd.ntmps7
      go_wp2_with fail
      refine hfd.out.mono ?_
      rintro e w1 ⟨rfl, rfl⟩
      go_wp2_with fail
      refine hsp.out.mono ?_
      rintro e w2 ⟨rfl, h2, ht2⟩
      go_wp2
      go_ret
      exact ⟨rfl, spent_new H.out h2 ht2⟩
  | false =>
    rw [FsM.go_on hs]
    rw [hs] at hsp
    obtain ⟨S1, hS1⟩ : ∃ S1, S.spent.1 = S1 := ⟨_, rfl⟩
    rw [hS1] at hlk hsp hO1 ⊢
    have hri := fun w => Lib.hid (right_any p w hp)
    cases hr : FsM.right p with
    | false =>
      have e : S1.create p = (S1, 63) := by unfold FsM.create; rw [if_pos hr]
      rw [e]
      rw [hr] at hri
      cases hl : S.look p
      all_goals
        rw [hl] at hfd
        clear hs hl hlk h hO hr e hS1
        go_enter Tryd.func7, Tryd.ntmps7
        go_wp2_with fail
        refine hfd.out.mono ?_
        rintro e w1 ⟨rfl, rfl⟩
        go_wp2_with fail
        refine hsp.out.mono ?_
        rintro e w2 ⟨rfl, h2, ht2⟩
        go_wp2_with fail
        refine (hri w2).out.mono ?_
        rintro e w3 ⟨rfl, hb3⟩
        go_wp2
        go_ret
        exact ⟨rfl, (FsNew.of_below h2 hb3).after ht2 hcf⟩
    | true =>
      rw [hr] at hri
      cases hl : S.look p with
      | some n =>
        have e : S1.create p = (S1, 61) := by unfold FsM.create; rw [if_neg (by simp [hr]), hlk, hl]; rfl
        rw [e]
        rw [hl] at hfd
        clear hs hl hlk h hO hr e hS1
        go_enter Tryd.func7, Tryd.ntmps7
        go_wp2_with fail
        refine hfd.out.mono ?_
        rintro e w1 ⟨rfl, rfl⟩
        go_wp2_with fail
        refine hsp.out.mono ?_
        rintro e w2 ⟨rfl, h2, ht2⟩
        go_wp2_with fail
        refine (hri w2).out.mono ?_
        rintro e w3 ⟨rfl, hb3⟩
        go_wp2
        go_ret
        exact ⟨rfl, (FsNew.of_below h2 hb3).after ht2 hcf⟩
      | none =>
        have e : S1.create p = (S1.more.change [(p, some S1.files.length)], 0) := by unfold FsM.create; rw [if_neg (by simp [hr]), hlk, hl]; rfl
        rw [e]
        rw [hl] at hfd
        clear hs hl hlk h hO hr e hS1
        go_enter Tryd.func7, Tryd.ntmps7
        go_wp2_with fail
        refine hfd.out.mono ?_
        rintro e w1 ⟨rfl, rfl⟩
        go_wp2_with fail
        refine hsp.out.mono ?_
        rintro e w2 ⟨rfl, h2, ht2⟩
        go_wp2_with fail
        refine (hri w2).out.mono ?_
        rintro e w3 ⟨rfl, hb3⟩
        have h3 := h2.below hb3
        have hmore := h3.more hO1.out.num
        have hch := Lib.hid (change_lit hmore.1 hO1.out.more (by omega) [(p, some S1.files.length)] 1 rfl (by omega) #[.string (strOf p), .pointer (some ⟨w3.heap.size, 0, none⟩)] (by simp [givV, optV, ptr, upd_same]) (fun q i hq => by
          simp only [List.mem_singleton, Prod.mk.injEq, Option.some.injEq] at hq
          rw [hq.2, upd_same]
          exact hmore.2))
        rw [World.size_alloc] at hch
        clear hri hfd hsp
        go_wp2_with fail
        refine hch.out.mono ?_
        rintro e w4 ⟨rfl, h4⟩
        clear hch
        go_wp2
        go_ret
        obtain ⟨c', F', g1, g2⟩ := h4.out
        have hs3 := hb3.size
        have hlt := h2.lt
        refine ⟨rfl, ((FsNew.mk ⟨c', F', g1, fun k hk e => g2 k (by simp; omega) ?_⟩ ((Turn.of_new (hb3.trans (((Below.refl _ w3).alloc (Nat.le_refl _) _).mono hs3))).trans' h4.turn fun k hk e => ?_) : FsNew c w2 f _ w4)).after ht2 hcf⟩
        · rw [upd_ne c _ (by omega)]; exact e
        · rw [upd_ne c _ (by omega)] at e; exact e
end Go.Proofs.YteidkmiladkoiaaDoor
