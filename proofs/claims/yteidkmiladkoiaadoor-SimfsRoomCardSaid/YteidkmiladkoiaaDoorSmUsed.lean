/-
  Used, walked.
-/
import Derived.Test.YteidkmiladkoiaaDoorSmAll
namespace Go.Proofs.YteidkmiladkoiaaDoor
open Go.RowKit

theorem sum_le {l : List Nat} {m : Nat} (h : ∀ x ∈ l, x ≤ m) : l.sum ≤ l.length * m := by
  induction l with
  | nil => simp
  | cons a r ih =>
    have h1 := h a (by simp)
    have h2 := ih fun x hx => h x (by simp [hx])
    simp only [List.sum_cons, List.length_cons, Nat.succ_mul]
    omega
theorem used_le {N : Nat} {S : FsM} (h : FsOk N S) : S.used ≤ N * 1048576 := by
  unfold FsM.used
  have h1 := sum_le (l := ((List.range S.files.length).filter fun i => S.now.any fun p => decide (p.2 = i)).map fun i => (S.file i).b.length) (m := 1048576) fun x hx => by
    obtain ⟨i, -, rfl⟩ := List.mem_map.1 hx
    exact (h.fileOk i).2
  have h2 := List.length_filter_le (fun i => S.now.any fun p => decide (p.2 = i)) (List.range S.files.length)
  rw [List.length_map] at h1
  rw [List.length_range] at h2
  have h3 := h.filesN
  exact Nat.le_trans h1 (Nat.mul_le_mul_right _ (by omega))
theorem perm_sum {l m : List Nat} (h : l.Perm m) : l.sum = m.sum := by
  induction h with
  | nil => rfl
  | cons a _ ih => simp [ih]
  | swap a b l => simp only [List.sum_cons]; omega
  | trans _ _ i1 i2 => rw [i1, i2]
/-- The bytes of all files that have a path, by whatever list of them. -/
theorem used_eq {S : FsM} (hn : ∀ i, S.reach i → i < S.files.length) {L : List Nat} (hL : L.Nodup) (hm : ∀ n, n ∈ L ↔ ∃ p, (p, n) ∈ S.now) : (L.map fun i => (S.file i).b.length).sum = S.used := by
  unfold FsM.used
  refine perm_sum (List.Perm.map _ ((List.perm_ext_iff_of_nodup hL (List.nodup_range.filter _)).2 fun n => ?_))
  rw [hm n, List.mem_filter, List.mem_range, List.any_eq_true]
  constructor
  · rintro ⟨p, hp⟩
    exact ⟨hn n (.inl ⟨p, hp⟩), (p, n), hp, by simp⟩
  · rintro ⟨-, x, hx, e⟩
    rw [decide_eq_true_eq] at e
    exact ⟨x.1, by rw [← e]; exact hx⟩

theorem used_nil (w : World) : Calls Tryd.prog 9 #[.pointer none] w fun e w' => e = .returned (.int .i64 0) ∧ w = w' := by
  go_enter Tryd.func9, Tryd.ntmps9
  go_wp2
  go_ret
  exact ⟨rfl, rfl⟩

/-- The step of a range over a set of files. -/
theorem kb_next {w : World} {F : Nat → Nat} {b r : Nat} {L ls : List Nat} (h : MapRng w b r (L.map (kb F)) (ls.map (kb F))) :
    (ls = [] ∧ (Instr.next (.pointer (some ⟨r, 0, none⟩)) false 0).run Tryd.prog w = .ok (.tuple #[.bool false]) w) ∨
    ∃ n ls' w', ls.Perm (n :: ls') ∧ (Instr.next (.pointer (some ⟨r, 0, none⟩)) false 0).run Tryd.prog w = .ok (.tuple #[.bool true, .pointer (some ⟨F n, 0, none⟩), .bool true]) w' ∧
      MapRng w' b r (L.map (kb F)) (ls'.map (kb F)) ∧ Turn (fun k => k = r) w w' ∧ w'.heap.size = w.heap.size ∧ (Instr.entry (.pointer (some ⟨r, 0, none⟩))).run Tryd.prog w' = .ok (.tuple #[.pointer (some ⟨F n, 0, none⟩), .bool true]) w' := by
  rcases h.next (P := Tryd.prog) 0 with ⟨h0, hnx⟩ | ⟨key, v, left', w2, hperm, hnx, hrng2, hgr, hz2, hen⟩
  · exact .inl ⟨by simpa using h0, hnx⟩
  · obtain ⟨n, hn, hne⟩ := List.mem_map.1 (hperm.mem_iff.2 (List.mem_cons_self (a := (key, v)) (l := left')))
    obtain ⟨rfl, rfl⟩ : key = ptr (F n) ∧ v = .bool true := ⟨(congrArg Prod.fst hne).symm, (congrArg Prod.snd hne).symm⟩
    have hp := List.perm_cons_erase hn
    refine .inr ⟨n, ls.erase n, w2, hp, hnx, hrng2.perm ?_, .of_grown hgr fun k e => (Option.some.inj e).symm, hz2, hen⟩
    have h1 := hp.map (kb F)
    rw [List.map_cons] at h1
    exact (hperm.symm.trans h1).cons_inv

set_option maxRecDepth 100000 in
set_option maxHeartbeats 800000 in
theorem used_any {N : Nat} {c F : Nat → Nat} {w : World} {f : Nat} {S : FsM} (h : FsAt c F w f S) (hO : FsOk N S) (hN : N ≤ 100000) :
    Calls Tryd.prog 9 #[.pointer (some ⟨f, 0, none⟩)] w fun e w' => e = .returned (.int .i64 (S.used : Int)) ∧ Below w.heap.size w w' := by
  have hall := Lib.hid (all_any h)
  have hT := used_le hO
  have hEq := fun L => used_eq (S := S) hO.num (L := L)
  have hfo := fun n => (hO.fileOk n).2
  obtain ⟨T, hT0⟩ : ∃ T, S.used = T := ⟨_, rfl⟩
  rw [hT0] at hT hEq ⊢
  have hT2 : T ≤ 104857600000 := Nat.le_trans hT (Nat.mul_le_mul_right _ hN)
  have HEQ := Lib.hid hEq
  have HFO := Lib.hid hfo
  have H := Lib.hid h
  clear hT hT0 h hO hN hEq hfo
  go_enter Tryd.func9, Tryd.ntmps9
  go_wp2_with fail
  refine hall.out.mono ?_
  rintro e w1 ⟨b, L, rfl, hm, hnd, hmem, hbw, hb1⟩
  have hs1 := hb1.size
  obtain ⟨w2, hrg, hR2, hb2, hz2⟩ := hm.range (P := Tryd.prog) Tryd.underlying57
  have HS := Lib.hid (HEQ.out L hnd hmem)
  have HME := Lib.hid hmem
  have HR2 := Lib.hid hR2
  have HB2 := Lib.hid hb2
  have HB1 := Lib.hid hb1
  clear hR2 hb2 hb1 hmem hnd hz2 hall
  go_wp2
  go_loopg [3] L.length (fun g u wr => ∃ (ls : List Nat) (s : Nat), ls.length = g ∧ u = .int .i64 (s : Int) ∧ s + (ls.map fun i => (S.file i).b.length).sum = T ∧ MapRng wr b w1.heap.size (L.map (kb F)) (ls.map (kb F)) ∧ (∀ n ∈ ls, n ∈ L) ∧ Below w.heap.size w wr)
  case atStart => exact ⟨L, 0, rfl, rfl, by rw [Nat.zero_add]; exact HS.out, HR2.out, fun _ e => e, HB1.out.trans (HB2.out.mono hs1)⟩
  case round =>
    obtain ⟨ls, s, hg, rfl, hsum, hrng, hin, hb⟩ := hrel
    have hbs := hb.size
    rcases kb_next hrng with ⟨h0, hnx⟩ | ⟨n, ls', w3, hperm, hnx, hrng3, ht3, hz3, hen⟩
    · subst h0
      have hsT : Hid (s = T) := by unfold Hid; simpa using hsum
      clear hsum hrng hin hg
      go_wp2
      go_ret
      exact ⟨by rw [hsT.out]; rfl, hb⟩
    · have hb3 : Below w.heap.size w w3 := hb.trans (ht3.below (fun j e => by omega) hbs)
      have hnl : n ∈ ls := hperm.mem_iff.2 (by simp)
      obtain ⟨p, hp⟩ := (HME.out n).1 (hin n hnl)
      obtain ⟨A, m, c0, -, -, hm3, -, -, -, -, -⟩ := ((H.out.below hb3).files n (.inl ⟨p, hp⟩)).open_
      have hfl := HFO.out n
      have hsum2 := perm_sum (hperm.map fun i => (S.file i).b.length)
      obtain ⟨len, hlen⟩ : ∃ len, (S.file n).b.length = len := ⟨_, rfl⟩
      rw [List.map_cons, List.sum_cons, hlen] at hsum2
      rw [hlen] at c0 hm3 hfl
      obtain ⟨R, hR⟩ : ∃ R, (ls'.map fun i => (S.file i).b.length).sum = R := ⟨_, rfl⟩
      rw [hR] at hsum2
      rw [hsum2] at hsum
      have hl2 := Lib.hid hperm.length_eq
      have hwr : IntKind.i64.wrap ((s : Int) + (len : Int)) = ((s + len : Nat) : Int) := by simp [IntKind.wrap, IntKind.signed, IntKind.bits]; omega
      have HX := Lib.hid (show ∀ g', ls'.length = g' → ∃ (ls : List Nat) (s' : Nat), ls.length = g' ∧ Value.int .i64 ((s + len : Nat) : Int) = .int .i64 (s' : Int) ∧ s' + (ls.map fun i => (S.file i).b.length).sum = T ∧ MapRng w3 b w1.heap.size (L.map (kb F)) (ls.map (kb F)) ∧ (∀ n ∈ ls, n ∈ L) ∧ Below w.heap.size w w3 from fun g' hg' =>
        ⟨ls', s + len, hg', rfl, by rw [hR]; omega, hrng3, fun k hk => hin k (hperm.mem_iff.2 (by simp [hk])), hb3⟩)
      obtain ⟨q, hq⟩ : ∃ q, s + len = q := ⟨_, rfl⟩
      rw [hq] at hwr HX
      have hg2 := Lib.hid hg
      clear hperm hrng hin hb hb3 hnl hp hlen hR hsum2 hsum hrng3 ht3 hz3 hm3 hfl hg hq
      go_wp2
      go_roundg ls'.length
      case measure => have := hl2.out; have := hg2.out; simp only [List.length_cons] at *; omega
      case rel => exact HX.out _ rfl
end Go.Proofs.YteidkmiladkoiaaDoor
