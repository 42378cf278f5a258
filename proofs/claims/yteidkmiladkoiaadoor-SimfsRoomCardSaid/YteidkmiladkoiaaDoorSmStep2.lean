/-
  Rename, Link, Remove, SyncDir, walked; the calls on files that are none.
-/
import Derived.Test.YteidkmiladkoiaaDoorSmStep
namespace Go.Proofs.YteidkmiladkoiaaDoor
open Go.RowKit

set_option maxRecDepth 100000 in
set_option maxHeartbeats 1600000 in
theorem rename_any {N : Nat} {c F : Nat → Nat} {w : World} {f : Nat} {S : FsM} (h : FsAt c F w f S) (hO : FsOk N S) (hN : N ≤ 9000) (p q : Txt) (hq : q.length ≤ 1000000) :
    Calls Tryd.prog 14 #[.pointer (some ⟨f, 0, none⟩), .string (strOf p), .string (strOf q)] w fun e w' => e = .returned (.int .i64 (S.go (·.rename p q)).2) ∧ FsNew c w f (S.go (·.rename p q)).1 w' := by
  have hfd := Lib.hid (find_any h p)
  unfold findV at hfd
  have hsp := Lib.hid (spent_any h hO.fuseOk)
  have hO1 := Lib.hid hO.spent
  have hcf := h.col
  have hlk := S.spent_look p
  have H := Lib.hid h
  cases hs : S.spent.2 with
  | true =>
    rw [FsM.go_full hs]
    rw [hs] at hsp
    cases hl : S.look p
    all_goals
      rw [hl] at hfd
      simp only [optV, ptr] at hfd
      clear hs hl hlk h hO
      go_enter Tryd.func14, Tryd.ntmps14
      go_wp2_with fail
      refine hfd.out.mono ?_
      rintro e w1 ⟨rfl, rfl⟩
      go_wp2_with fail
      refine hsp.out.mono ?_
      rintro e w2 ⟨rfl, h2, ht2⟩
      go_wp2
      go_ret
      exact ⟨rfl, spent_new H.out h2 ht2⟩
  | false =>
    rw [FsM.go_on hs]
    rw [hs] at hsp
    obtain ⟨S1, hS1⟩ : ∃ S1, S.spent.1 = S1 := ⟨_, rfl⟩
    rw [hS1] at hlk hsp hO1 ⊢
    cases hl : S.look p with
    | none =>
      have e : S1.rename p q = (S1, 60) := by unfold FsM.rename; rw [hlk, hl]
      rw [e]
      rw [hl] at hfd
      simp only [optV, ptr] at hfd
      clear e hs hl hlk h hO hS1
      go_enter Tryd.func14, Tryd.ntmps14
      go_wp2_with fail
      refine hfd.out.mono ?_
      rintro e w1 ⟨rfl, rfl⟩
      go_wp2_with fail
      refine hsp.out.mono ?_
      rintro e w2 ⟨rfl, h2, ht2⟩
      go_wp2
      go_ret
      exact ⟨rfl, ⟨⟨c, F, h2, fun _ _ e => e⟩, ht2.mono fun k _ e => by rw [e, hcf]; omega⟩⟩
    | some n =>
      have hri := fun w => Lib.hid (right_any q w hq)
      rw [hl] at hfd
      simp only [optV, ptr] at hfd
      cases hr : FsM.right q with
      | false =>
        have e : S1.rename p q = (S1, 63) := by unfold FsM.rename; rw [hlk, hl]; simp only [hr]; rfl
        rw [e]
        rw [hr] at hri
        clear e hs hl hlk h hO hr hS1
        go_enter Tryd.func14, Tryd.ntmps14
        go_wp2_with fail
        refine hfd.out.mono ?_
        rintro e w1 ⟨rfl, rfl⟩
        go_wp2_with fail
        refine hsp.out.mono ?_
        rintro e w2 ⟨rfl, h2, ht2⟩
        go_wp2_with fail
        refine (hri w2).out.mono ?_
        rintro e w3 ⟨rfl, hb3⟩
        go_wp2
        go_ret
        exact ⟨rfl, (FsNew.of_below h2 hb3).after ht2 hcf⟩
      | true =>
        have e : S1.rename p q = (S1.change [(p, none), (q, some n)], 0) := by unfold FsM.rename; rw [hlk, hl]; simp only [hr]; rfl
        rw [e]
        rw [hr] at hri
        have hln := Lib.hid (hlk.trans hl)
        clear e hs hl hlk h hO hr hS1
        go_enter Tryd.func14, Tryd.ntmps14
        go_wp2_with fail
        refine hfd.out.mono ?_
        rintro e w1 ⟨rfl, rfl⟩
        go_wp2_with fail
        refine hsp.out.mono ?_
        rintro e w2 ⟨rfl, h2, ht2⟩
        go_wp2_with fail
        refine (hri w2).out.mono ?_
        rintro e w3 ⟨rfl, hb3⟩
        have h3 := h2.below hb3
        have hch := Lib.hid (change_lit h3 hO1.out (by omega) [(p, none), (q, some n)] 2 rfl (by omega) #[.string (strOf p), .pointer none, .string (strOf q), .pointer (some ⟨F n, 0, none⟩)] (by simp [givV, optV, ptr]) (fun r i hr => by
          simp only [List.mem_cons, List.not_mem_nil, or_false, Prod.mk.injEq, Option.some.injEq, reduceCtorEq, and_false, false_or] at hr
          rw [hr.2]
          exact h3.files n (reach_now hln.out)))
        clear hri hfd hsp
        go_wp2_with fail
        refine hch.out.mono ?_
        rintro e w4 ⟨rfl, h4⟩
        clear hch
        go_wp2
        go_ret
        exact ⟨rfl, (h4.below hb3 h2.lt).after ht2 hcf⟩

set_option maxRecDepth 100000 in
set_option maxHeartbeats 1600000 in
theorem remove_any {N : Nat} {c F : Nat → Nat} {w : World} {f : Nat} {S : FsM} (h : FsAt c F w f S) (hO : FsOk N S) (hN : N ≤ 9000) (p : Txt) :
    Calls Tryd.prog 10 #[.pointer (some ⟨f, 0, none⟩), .string (strOf p)] w fun e w' => e = .returned (.int .i64 (S.go (·.remove p)).2) ∧ FsNew c w f (S.go (·.remove p)).1 w' := by
  have hsp := Lib.hid (spent_any h hO.fuseOk)
  have hO1 := Lib.hid hO.spent
  have hcf := h.col
  have hlk := S.spent_look p
  have H := Lib.hid h
  cases hs : S.spent.2 with
  | true =>
    rw [FsM.go_full hs]
    rw [hs] at hsp
    clear hs hlk h hO
    go_enter Tryd.func10, Tryd.ntmps10
    go_wp2_with fail
    refine hsp.out.mono ?_
    rintro e w2 ⟨rfl, h2, ht2⟩
    go_wp2
    go_ret
    exact ⟨rfl, spent_new H.out h2 ht2⟩
  | false =>
    rw [FsM.go_on hs]
    rw [hs] at hsp
    obtain ⟨S1, hS1⟩ : ∃ S1, S.spent.1 = S1 := ⟨_, rfl⟩
    rw [hS1] at hlk hsp hO1 ⊢
    have hfd := fun w (h : FsAt c F w f S1) => Lib.hid (find_any h p)
    unfold findV at hfd
    rw [hlk] at hfd
    cases hl : S.look p with
    | none =>
      have e : S1.remove p = (S1, 60) := by unfold FsM.remove; rw [hlk, hl]
      rw [e]
      rw [hl] at hfd
      simp only [optV, ptr] at hfd
      clear e hs hl hlk h hO hS1
      go_enter Tryd.func10, Tryd.ntmps10
      go_wp2_with fail
      refine hsp.out.mono ?_
      rintro e w2 ⟨rfl, h2, ht2⟩
      have hf2 := hfd w2 h2
      clear hfd
      go_wp2_with fail
      refine hf2.out.mono ?_
      rintro e w3 ⟨rfl, rfl⟩
      go_wp2
      go_ret
      exact ⟨rfl, ⟨⟨c, F, h2, fun _ _ e => e⟩, ht2.mono fun k _ e => by rw [e, hcf]; omega⟩⟩
    | some n =>
      have e : S1.remove p = (S1.change [(p, none)], 0) := by unfold FsM.remove; rw [hlk, hl]
      rw [e]
      rw [hl] at hfd
      simp only [optV, ptr] at hfd
      clear e hs hl hlk h hO hS1
      go_enter Tryd.func10, Tryd.ntmps10
      go_wp2_with fail
      refine hsp.out.mono ?_
      rintro e w2 ⟨rfl, h2, ht2⟩
      have hf2 := hfd w2 h2
      have hch := Lib.hid (change_lit h2 hO1.out (by omega) [(p, none)] 1 rfl (by omega) #[.string (strOf p), .pointer none] (by simp [givV, optV]) (fun r i hr => by simp at hr))
      clear hfd hsp
      go_wp2_with fail
      refine hf2.out.mono ?_
      rintro e w3 ⟨rfl, rfl⟩
      go_wp2_with fail
      refine hch.out.mono ?_
      rintro e w4 ⟨rfl, h4⟩
      clear hch
      go_wp2
      go_ret
      exact ⟨rfl, h4.after ht2 hcf⟩

/-- SyncDir. -/
theorem settle_new {c F : Nat → Nat} {w w' : World} {f : Nat} {S : FsM} (hcf : c f = 1) (h : ∃ c', FsAt c' F w' f S ∧ (∀ k, k < w.heap.size → c' k = c k) ∧ Turn (fun k => k = f) w w') : FsNew c w f S w' := by
  obtain ⟨c', h1, h2, h3⟩ := h
  exact ⟨⟨c', F, h1, fun k hk e => (h2 k hk).trans e⟩, h3.mono fun k _ e => by rw [e, hcf]; omega⟩
set_option maxRecDepth 100000 in
theorem syncDir_any {N : Nat} {c F : Nat → Nat} {w : World} {f : Nat} {S : FsM} (h : FsAt c F w f S) (hO : FsOk N S) :
    Calls Tryd.prog 13 #[.pointer (some ⟨f, 0, none⟩)] w fun e w' => e = .returned (.int .i64 (S.go fun S => (S.settle, 0)).2) ∧ FsNew c w f (S.go fun S => (S.settle, 0)).1 w' := by
  have hsp := Lib.hid (spent_any h hO.fuseOk)
  have hcf := h.col
  have H := Lib.hid h
  cases hs : S.spent.2 with
  | true =>
    rw [FsM.go_full hs]
    rw [hs] at hsp
    clear hs h hO
    go_enter Tryd.func13, Tryd.ntmps13
    go_wp2_with fail
    refine hsp.out.mono ?_
    rintro e w2 ⟨rfl, h2, ht2⟩
    go_wp2
    go_ret
    exact ⟨rfl, spent_new H.out h2 ht2⟩
  | false =>
    rw [FsM.go_on hs]
    rw [hs] at hsp
    obtain ⟨S1, hS1⟩ : ∃ S1, S.spent.1 = S1 := ⟨_, rfl⟩
    rw [hS1] at hsp ⊢
    clear hs h hO
    go_enter Tryd.func13, Tryd.ntmps13
    go_wp2_with fail
    refine hsp.out.mono ?_
    rintro e w2 ⟨rfl, h2, ht2⟩
    have hst := Lib.hid (settle_half h2.half)
    go_wp2_with fail
    refine hst.out.mono ?_
    rintro e w3 ⟨⟨v, rfl⟩, h3⟩
    have h4 := Lib.hid (settle_new hcf h3)
    clear h3
    go_wp2
    go_ret
    exact ⟨rfl, h4.out.after ht2 hcf⟩

theorem create_nil (p : Txt) (w : World) : Calls Tryd.prog 7 #[.pointer none, .string (strOf p)] w fun e w' => e = .returned (.int .i64 1) ∧ w = w' := by
  have hfd := Lib.hid (find_nil p w)
  have hsp := Lib.hid (spent_nil w)
  go_enter Tryd.func7, Tryd.ntmps7
  go_wp2_with fail
  refine hfd.out.mono ?_
  rintro e w1 ⟨rfl, rfl⟩
  go_wp2
  go_ret
  exact ⟨rfl, rfl⟩
theorem sync_nil (p : Txt) (w : World) : Calls Tryd.prog 12 #[.pointer none, .string (strOf p)] w fun e w' => e = .returned (.int .i64 1) ∧ w = w' := by
  have hfd := Lib.hid (find_nil p w)
  have hsp := Lib.hid (spent_nil w)
  go_enter Tryd.func12, Tryd.ntmps12
  go_wp2_with fail
  refine hfd.out.mono ?_
  rintro e w1 ⟨rfl, rfl⟩
  go_wp2_with fail
  refine hsp.out.mono ?_
  rintro e w1 ⟨rfl, rfl⟩
  go_wp2
  go_ret
  exact ⟨rfl, rfl⟩
theorem rename_nil (p q : Txt) (w : World) : Calls Tryd.prog 14 #[.pointer none, .string (strOf p), .string (strOf q)] w fun e w' => e = .returned (.int .i64 1) ∧ w = w' := by
  have hfd := Lib.hid (find_nil p w)
  have hsp := Lib.hid (spent_nil w)
  go_enter Tryd.func14, Tryd.ntmps14
  go_wp2_with fail
  refine hfd.out.mono ?_
  rintro e w1 ⟨rfl, rfl⟩
  go_wp2_with fail
  refine hsp.out.mono ?_
  rintro e w1 ⟨rfl, rfl⟩
  go_wp2
  go_ret
  exact ⟨rfl, rfl⟩
theorem remove_nil (p : Txt) (w : World) : Calls Tryd.prog 10 #[.pointer none, .string (strOf p)] w fun e w' => e = .returned (.int .i64 1) ∧ w = w' := by
  have hfd := Lib.hid (find_nil p w)
  have hsp := Lib.hid (spent_nil w)
  go_enter Tryd.func10, Tryd.ntmps10
  go_wp2_with fail
  refine hsp.out.mono ?_
  rintro e w1 ⟨rfl, rfl⟩
  go_wp2_with fail
  refine hfd.out.mono ?_
  rintro e w1 ⟨rfl, rfl⟩
  go_wp2
  go_ret
  exact ⟨rfl, rfl⟩
theorem syncDir_nil (w : World) : Calls Tryd.prog 13 #[.pointer none] w fun e w' => e = .returned (.int .i64 1) ∧ w = w' := by
  go_enter Tryd.func13, Tryd.ntmps13
  go_wp2
  go_ret
  exact ⟨rfl, rfl⟩
end Go.Proofs.YteidkmiladkoiaaDoor
