/-
  Read, Sync, walked.
-/
import Derived.Test.YteidkmiladkoiaaDoorSmStep2
import Derived.Laws.CopyOwn
import Derived.Laws.OwnMore
namespace Go.Proofs.YteidkmiladkoiaaDoor
open Go.RowKit

/-- 'make([]byte, n)', then 'copy' of n bytes that are seen. -/
theorem make_copy (w : World) (A : Option Addr) (n c : Nat) (l : List UInt8) (hl : l.length = n) (hn : n ≤ 1048576) (hS : Sees w w.heap.size A (bv l)) :
    ∃ W1 W2, (Instr.makeSlice 28 (.int .i64 (n : Int)) (.int .i64 (n : Int))).run Tryd.prog w = .ok (.slice (some ⟨w.heap.size, 0, none⟩) n n) W1 ∧
      (∀ ty, (Builtin.copy_ #[28, 28] ty #[.slice (some ⟨w.heap.size, 0, none⟩) n n, .slice A n c]).run Tryd.prog W1 = .ok (.int .i64 (n : Int)) W2) ∧ Hid (OwnB W2 w.heap.size (.slice (some ⟨w.heap.size, 0, none⟩) n n) l ∧ Below w.heap.size w W1 ∧ Below w.heap.size w W2) := by
  obtain ⟨i, hi, hz0, hz1, hz2⟩ := info_parts Tryd.binfo
  have hr := run_make (P := Tryd.prog) w 28 5 i _ Tryd.underlying28 hi hz0 .i64 .i64 (n : Int) (n : Int) (by omega) (Int.le_refl _) (by rw [hz2]; omega) (by omega)
  simp only [Int.toNat_natCast, hz1, Nat.mul_one] at hr
  obtain ⟨cur, hcur⟩ : ∃ cur, madeCells (Value.int .u8 0).cells n = cur := ⟨_, rfl⟩
  have hcs : cur.size = n := by rw [← hcur]; exact size_madeCells _ _
  rw [hcur] at hr
  have hg : (w.alloc (.cells cur 5)).heap[w.heap.size]? = some (.cells cur 5 (0, 0)) := World.alloc_heap_new w _
  have hb1 : Below w.heap.size w (w.alloc (.cells cur 5)) := (Below.refl _ w).alloc (Nat.le_refl _) _
  have hbl := bv_length l
  by_cases h0 : n = 0
  · subst h0
    have hlnil : l = [] := List.eq_nil_of_length_eq_zero hl
    subst hlnil
    have hc0 : cur = #[] := Array.eq_empty_of_size_eq_zero hcs
    subst hc0
    refine ⟨_, _, hr, fun ty => ?_, OwnB.new w _ (Nat.le_refl _) [] 0 rfl #[] rfl (by simp [maxLen]), hb1, hb1⟩
    exact run_copy_none _ _ _ ty 5 _ _ _ _ _ _ Tryd.underlying28 (by kernel_rfl) (by simp)
  · obtain ⟨ad, rfl, hab, hac⟩ : ∃ ad, A = some ad ∧ ad.block < w.heap.size ∧ ∀ j u, (bv l)[j]? = some u → w.cell? (ad.add j) = some u := by
      rcases hS.out with h | h
      · rw [h] at hbl; simp at hbl; omega
      · exact h
    have hsrc : ∀ j v, (bv l)[j]? = some v → (w.alloc (.cells cur 5)).cell? (ad.add j) = some v := fun j v hv => by
      rw [World.cell?_alloc_lt _ _ _ (by rw [add_block]; exact hab)]
      exact hac j v hv
    have hcells : (cur.toList.take 0 ++ bv l ++ cur.toList.drop (0 + (bv l).length)).toArray = (bv l).toArray := by
      rw [List.take_zero, List.nil_append, List.drop_eq_nil_of_le (by simp [hbl, hcs, hl]), List.append_nil]
    refine ⟨_, (w.alloc (.cells cur 5)).setRow w.heap.size (bv l).toArray, hr, fun ty => ?_, ?_⟩
    · have := run_copy_row (P := Tryd.prog) (w.alloc (.cells cur 5)) 28 28 ty 5 w.heap.size 0 n n ad n c cur 5 (bv l) Tryd.underlying28 (by kernel_rfl) hg (by rw [hbl, hl]; simp) hsrc (by rw [hbl, hcs]; omega) bv_one
      rw [this, hcells, hbl, hl]
      rfl
    · show _ ∧ _
      refine ⟨⟨by rw [hbl]; omega, .inr ⟨w.heap.size, n, (bv l).toArray, by rw [hl], Nat.le_refl _, setRow_heap _ _ cur _ _ _ hg, by omega, by simp only [maxLen]; omega, by simp [hbl, hl], ?_⟩⟩, hb1, hb1.trans ⟨rfl, rfl, rfl, by simp [World.setRow], fun k hk => setRow_other _ _ _ _ (by omega)⟩⟩
      rw [List.take_of_length_le (by simp [hbl])]

theorem read_nil (p : Txt) (w : World) : Calls Tryd.prog 11 #[.pointer none, .string (strOf p)] w fun e w' => e = .returned (.tuple #[.slice none 0 0, .int .i64 1]) ∧ w = w' := by
  have hfd := Lib.hid (find_nil p w)
  go_enter Tryd.func11, Tryd.ntmps11
  go_wp2_with fail
  refine hfd.out.mono ?_
  rintro e w1 ⟨rfl, rfl⟩
  go_wp2
  go_ret2
  exact ⟨rfl, rfl⟩

/-- Bytes, and an error's number. -/
def ReadIs (w : World) (r : Txt × Nat) (e : Ending) (w' : World) : Prop := ∃ v, e = .returned (.tuple #[v, .int .i64 (r.2 : Int)]) ∧ OwnB w' w.heap.size v r.1 ∧ Below w.heap.size w w'

set_option maxRecDepth 100000 in
set_option maxHeartbeats 800000 in
theorem read_any {N : Nat} {c F : Nat → Nat} {w : World} {f : Nat} {S : FsM} (h : FsAt c F w f S) (hO : FsOk N S) (p : Txt) :
    Calls Tryd.prog 11 #[.pointer (some ⟨f, 0, none⟩), .string (strOf p)] w (ReadIs w (S.read p)) := by
  have hfd := Lib.hid (find_any h p)
  unfold findV at hfd
  cases hl : S.look p with
  | none =>
    have e : S.read p = ([], 60) := by unfold FsM.read; rw [hl]
    rw [e]
    rw [hl] at hfd
    simp only [optV] at hfd
    clear e hl h hO
    go_enter Tryd.func11, Tryd.ntmps11
    go_wp2_with fail
    refine hfd.out.mono ?_
    rintro e w1 ⟨rfl, rfl⟩
    go_wp2
    go_ret2
    exact ⟨_, rfl, OwnB.nil _ _, Below.refl _ _⟩
  | some n =>
    have e : S.read p = ((S.file n).b, 0) := by unfold FsM.read; rw [hl]
    rw [e]
    rw [hl] at hfd
    simp only [optV, ptr] at hfd
    obtain ⟨A, m, c0, c1, -, hm, -, hS, -, -, -⟩ := (h.files n (reach_now hl)).open_
    have hlen := (hO.fileOk n).2
    have hlt : F n < w.heap.size := (h.files n (reach_now hl)).lt
    obtain ⟨x, hx⟩ : ∃ x, S.file n = x := ⟨_, rfl⟩
    rw [hx] at c0 c1 hm hS hlen ⊢
    obtain ⟨L, hL⟩ : ∃ L, x.b.length = L := ⟨_, rfl⟩
    obtain ⟨W1, W2, hmk, hcp, HX⟩ := make_copy w A L m x.b hL (by omega) hS
    rw [hL] at c0 hm hlen
    have d0 := HX.out.2.1.cell (p := ⟨F n, 0, none⟩) hlt
    rw [c0] at d0
    clear e hl h hO hx hL hS c1
    go_enter Tryd.func11, Tryd.ntmps11
    go_wp2_with fail
    refine hfd.out.mono ?_
    rintro e w1 ⟨rfl, rfl⟩
    go_wp2
    go_ret2
    exact ⟨_, rfl, HX.out.1, HX.out.2.2⟩

section
variable {c c' F : Nat → Nat} {w w' : World} {f n : Nat} {S : FsM} {x : FileM}
theorem FsM.setFile_file (S : FsM) {n : Nat} (hn : n < S.files.length) (x : FileM) (i : Nat) : (S.setFile n x).file i = if i = n then x else S.file i := by
  unfold FsM.file FsM.setFile
  simp only [List.getD_eq_getElem?_getD, List.getElem?_set]
  by_cases e : i = n
  · subst e
    simp [hn]
  · rw [if_neg (fun e2 => e e2.symm), if_neg e]
/-- A file is another. -/
theorem FsAt.file (h : FsAt c F w f S) (hnum : n < S.files.length) (hc : ∀ k, c k ≠ 0 → c' k = c k) (hl : ∀ k, c' k ≠ 0 → k < w'.heap.size) (ht : Turn (fun k => c k = 2 * n + 6 ∨ c k = 2 * n + 7) w w') (hx : FileAt c' w' n (F n) x) : FsAt c' F w' f (S.setFile n x) := by
  have hk : Kept (fun k => c k ≠ 0 ∧ c k ≠ 2 * n + 6 ∧ c k ≠ 2 * n + 7) w w' := Kept.of_turn ht fun k e => ⟨h.lt k e.1, fun e2 => by omega⟩
  obtain ⟨bn, bk, v, h1, h2, h3, h4, h5, h6⟩ := h.out
  have hcf := h.col
  refine ⟨⟨bn, bk, v, h1.keep (hk f (by omega)), (hc bn (by omega)).trans h2, (hc bk (by omega)).trans h3, h4.keep (hk bn (by omega)), h5.keep (hk bk (by omega)), (h6.keep (hk.mono fun k e => by omega)).recol fun k e => hc k (by omega)⟩, (hc f (by omega)).trans hcf, fun i hi => ?_, hl⟩
  rw [S.setFile_file hnum]
  split
  · rename_i e
    subst e
    exact hx
  · exact ((h.files i hi).keep (hk.mono fun k e => by omega)).recol fun k e => hc k (by omega)
theorem FsNew.of_file (h : FsAt c F w f S) (hnum : n < S.files.length) (hc : ∀ k, k < w.heap.size → c' k = c k) (hl : ∀ k, c' k ≠ 0 → k < w'.heap.size) (ht : Turn (fun k => c k = 2 * n + 6 ∨ c k = 2 * n + 7) w w') (hx : FileAt c' w' n (F n) x) : FsNew c w f (S.setFile n x) w' :=
  ⟨⟨c', F, h.file hnum (fun k hk => hc k (h.lt k hk)) hl ht hx, fun k hk e => (hc k hk).trans e⟩, ht.mono fun k _ e => by omega⟩
end

set_option maxRecDepth 100000 in
set_option maxHeartbeats 800000 in
theorem sync_any {N : Nat} {c F : Nat → Nat} {w : World} {f : Nat} {S : FsM} (h : FsAt c F w f S) (hO : FsOk N S) (p : Txt) :
    Calls Tryd.prog 12 #[.pointer (some ⟨f, 0, none⟩), .string (strOf p)] w fun e w' => e = .returned (.int .i64 (S.go (·.sync p)).2) ∧ FsNew c w f (S.go (·.sync p)).1 w' := by
  have hfd := Lib.hid (find_any h p)
  have hsp := Lib.hid (spent_any h hO.fuseOk)
  have hO1 := Lib.hid hO.spent
  have hcf := h.col
  unfold findV at hfd
  have hlk := S.spent_look p
  have H := Lib.hid h
  cases hs : S.spent.2 with
  | true =>
    rw [FsM.go_full hs]
    rw [hs] at hsp
    cases hl : S.look p
    all_goals
      rw [hl] at hfd
      simp only [optV, ptr] at hfd
      clear hs hl hlk h hO
      go_enter Tryd.func12, Tryd.ntmps12
      go_wp2_with fail
      refine hfd.out.mono ?_
      rintro e w1 ⟨rfl, rfl⟩
      go_wp2_with fail
      refine hsp.out.mono ?_
      rintro e w2 ⟨rfl, h2, ht2⟩
      go_wp2
      go_ret
      exact ⟨rfl, spent_new H.out h2 ht2⟩
  | false =>
    rw [FsM.go_on hs]
    rw [hs] at hsp
    obtain ⟨S1, hS1⟩ : ∃ S1, S.spent.1 = S1 := ⟨_, rfl⟩
    rw [hS1] at hlk hsp hO1 ⊢
    cases hl : S.look p with
    | none =>
      have e : S1.sync p = (S1, 60) := by unfold FsM.sync; rw [hlk, hl]
      rw [e]
      rw [hl] at hfd
      simp only [optV, ptr] at hfd
      clear e hs hl hlk h hO hS1
      go_enter Tryd.func12, Tryd.ntmps12
      go_wp2_with fail
      refine hfd.out.mono ?_
      rintro e w1 ⟨rfl, rfl⟩
      go_wp2_with fail
      refine hsp.out.mono ?_
      rintro e w2 ⟨rfl, h2, ht2⟩
      go_wp2
      go_ret
      exact ⟨rfl, ⟨⟨c, F, h2, fun _ _ e => e⟩, ht2.mono fun k _ e => by rw [e, hcf]; omega⟩⟩
    | some n =>
      have e : S1.sync p = (S1.setFile n { S1.file n with stays := (S1.file n).b.length }, 0) := by unfold FsM.sync; rw [hlk, hl]
      rw [e]
      rw [hl] at hfd
      simp only [optV, ptr] at hfd
      have hln := Lib.hid (hlk.trans hl)
      obtain ⟨L, hL⟩ : ∃ L, (S1.file n).b.length = L := ⟨_, rfl⟩
      have HL := Lib.hid hL
      rw [hL]
      clear e hs hl hlk h hO hS1 hL
      go_enter Tryd.func12, Tryd.ntmps12
      go_wp2_with fail
      refine hfd.out.mono ?_
      rintro e w1 ⟨rfl, rfl⟩
      go_wp2_with fail
      refine hsp.out.mono ?_
      rintro e w2 ⟨rfl, h2, ht2⟩
      have hfile := Lib.hid (h2.files n (reach_now hln.out))
      obtain ⟨A, m, c0, c1, fr, hm, -, -, hown, hblk, hrow⟩ := hfile.out.open_
      have fr1 := fr 1
      have hP := Lib.hid (show FsNew c w2 f (S1.setFile n { S1.file n with stays := L }) (w2.setCell ⟨F n, 1, none⟩ (.int .i64 (L : Int))) from
        FsNew.of_file h2 (hO1.out.num n (reach_now hln.out)) (c' := c) (fun _ _ => rfl) (fun k e => by rw [World.size_setCell]; exact h2.lt k e) (Turn.setCell _ _ _ (.inl hfile.out.col))
          ⟨⟨_, hblk.set 1 _, ownsRow_kept hown fun k e => Below.heap_setCell _ _ _ _ (fun e2 => by have := hrow k e; have := hfile.out.col; simp only at e2; rw [e2] at *; omega), hrow⟩, hfile.out.col⟩)
      rw [HL.out] at c0 hm
      clear fr hown hblk hrow hfd hsp
      go_wp2
      go_ret
      exact ⟨rfl, hP.out.after ht2 hcf⟩
end Go.Proofs.YteidkmiladkoiaaDoor
