/-
  all, Used, walked.
-/
import Derived.Test.YteidkmiladkoiaaDoorSmRead
namespace Go.Proofs.YteidkmiladkoiaaDoor
open Go.RowKit

theorem fileinfo : ∃ j, Tryd.prog.info? 54 = some j ∧ j.size ≠ 0 := by
  obtain ⟨i, hi, hz0, hz1, hz2⟩ := info_parts (show (Tryd.prog.info? 54).map (fun i => (i.zero, i.size, i.bytes)) = some (some (.agg #[.slice none 0 0, .int .i64 0]), 2, 32) by kernel_rfl)
  exact ⟨i, hi, by omega⟩
theorem law_ptr (w : World) : KeyOk Tryd.prog 48 w (okPtr w) := by
  obtain ⟨j, h1, h2⟩ := fileinfo
  exact keyOk_ptr Tryd.underlying48 h1 h2 w
/-- An entry of a set of files. -/
def kb (F : Nat → Nat) (n : Nat) : Value × Value := (ptr (F n), .bool true)

section
variable {c F : Nat → Nat} {w w' : World} {f : Nat} {S : FsM}
theorem kb_keys (h : FsAt c F w f S) {L : List Nat} (hL : L.Nodup) (hr : ∀ n ∈ L, S.reach n) : (L.map (kb F)).Pairwise fun p q => p.1 ≠ q.1 := by
  rw [List.pairwise_map]
  refine List.Pairwise.imp_of_mem (fun {a b} ha hb hne => fun e => hne ?_) hL
  exact h.inj (hr a ha) (hr b hb) (ptr_inj e)
theorem kb_ok (h : FsAt c F w f S) {L : List Nat} (hr : ∀ n ∈ L, S.reach n) : ∀ p ∈ L.map (kb F), okPtr w p.1 := fun p hp => by
  obtain ⟨n, hn, rfl⟩ := List.mem_map.1 hp
  exact (h.files n (hr n hn)).okPtr
theorem kb_store (h : FsAt c F w f S) {b : Nat} {L : List Nat} (hM : MapIs w b (L.map (kb F))) (hL : L.Nodup) (hr : ∀ n ∈ L, S.reach n) {n : Nat} (hn : S.reach n) :
    ∃ (w' : World) (L' : List Nat), (Instr.mapUpdate 57 (.map (some b)) (ptr (F n)) (.bool true)).run Tryd.prog w = .ok () w' ∧ MapIs w' b (L'.map (kb F)) ∧ L'.Nodup ∧ (∀ m, m ∈ L' ↔ m = n ∨ m ∈ L) ∧ Turn (fun k => k = b) w w' := by
  obtain ⟨L', h1, h2⟩ : ∃ L' : List Nat, L'.Nodup ∧ ∀ m, m ∈ L' ↔ m = n ∨ m ∈ L := by
    by_cases e : n ∈ L
    · exact ⟨L, hL, fun m => ⟨fun hm => .inr hm, fun hm => by rcases hm with rfl | hm; exact e; exact hm⟩⟩
    · exact ⟨n :: L, List.nodup_cons.2 ⟨e, hL⟩, fun m => List.mem_cons⟩
  have hr' : ∀ m ∈ L', S.reach m := fun m hm => by
    rcases (h2 m).1 hm with rfl | hm
    · exact hn
    · exact hr m hm
  obtain ⟨w', g1, g2, g3, -⟩ := hM.store (law_ptr w) Tryd.underlying57 (kb_ok h hr) (x := ptr (F n)) (v := .bool true) (h.files n hn).okPtr (kb_keys h h1 hr') (fun p => by
    constructor
    · intro hp
      obtain ⟨m, hm, rfl⟩ := List.mem_map.1 hp
      rcases (h2 m).1 hm with rfl | hm'
      · exact .inl rfl
      · by_cases e : m = n
        · subst e; exact .inl rfl
        · exact .inr ⟨List.mem_map_of_mem (f := kb F) hm', fun e2 => e (h.inj (hr m hm') hn (ptr_inj e2))⟩
    · rintro (rfl | ⟨hp, -⟩)
      · exact List.mem_map.2 ⟨n, (h2 n).2 (.inl rfl), rfl⟩
      · obtain ⟨m, hm, rfl⟩ := List.mem_map.1 hp
        exact List.mem_map.2 ⟨m, (h2 m).2 (.inr hm), rfl⟩)
  exact ⟨w', L', g1, g2, h1, h2, .of_grown g3 fun k e => (Option.some.inj e).symm⟩
end

/-- The files that have a path, each once. -/
def AllIs (F : Nat → Nat) (w : World) (S : FsM) (e : Ending) (w' : World) : Prop := ∃ (b : Nat) (L : List Nat), e = .returned (.map (some b)) ∧ MapIs w' b (L.map (kb F)) ∧ L.Nodup ∧ (∀ n, n ∈ L ↔ ∃ p, (p, n) ∈ S.now) ∧ w.heap.size ≤ b ∧ Below w.heap.size w w'

set_option maxRecDepth 100000 in
set_option maxHeartbeats 800000 in
theorem all_any {c F : Nat → Nat} {w : World} {f : Nat} {S : FsM} (h : FsAt c F w f S) :
    Calls Tryd.prog 23 #[.pointer (some ⟨f, 0, none⟩)] w (AllIs F w S) := by
  obtain ⟨bn, bk, A, n, -, h1, -, -, -, -, h6, -, h8, -⟩ := h.open_
  obtain ⟨wb, hwb⟩ : ∃ wb, w.alloc (.map #[] 0) = wb := ⟨_, rfl⟩
  have hbb : Below w.heap.size w wb := by rw [← hwb]; exact (Below.refl _ w).alloc (Nat.le_refl _) _
  have hm0 : MapIs wb w.heap.size (([] : List Nat).map (kb F)) := by rw [← hwb]; exact MapIs.new w
  have hzb : wb.heap.size = w.heap.size + 1 := by rw [← hwb]; simp
  have hlf : f < w.heap.size := by have := h.lt f; have := h.col; omega
  have d1 : wb.cell? ⟨f, 1, none⟩ = some (.map (some bn)) := (hbb.cell hlf).trans h1
  obtain ⟨w1, hrg, hR1, hb1, hz1⟩ := (h8.keep (hbb.block bn h8.lt)).range (P := Tryd.prog) Tryd.underlying44
  have hmk := @run_makeMap Tryd.prog
  have HB := Lib.hid hbb
  have HM0 := Lib.hid hm0
  rw [hzb] at hR1
  have HR1 := Lib.hid hR1
  have HB1 := Lib.hid hb1
  have H := Lib.hid h
  have HZ := Lib.hid hzb
  have HBN := Lib.hid h8.lt
  rw [hzb] at hrg
  clear hbb hm0 hR1 hb1 h h8 h6 hz1 hzb
  go_enter Tryd.func23, Tryd.ntmps23
  go_wp2
  go_loopg [5] (S.now.map (pv F)).length (fun g u wr => ∃ (left : List (Value × Value)) (L : List Nat), left.length = g ∧ MapRng wr bn (w.heap.size + 1) (S.now.map (pv F)) left ∧ MapIs wr w.heap.size (L.map (kb F)) ∧ L.Nodup ∧ (∀ n ∈ L, ∃ p, (p, n) ∈ S.now) ∧ (∀ x ∈ S.now, x.2 ∈ L ∨ pv F x ∈ left) ∧ Below w.heap.size w wr)
  case atStart => exact ⟨_, [], rfl, HR1.out, HM0.out.keep (HB1.out.block _ (by have := HZ.out; omega)), List.nodup_nil, by simp, fun x hx => .inr (List.mem_map_of_mem (f := pv F) hx), HB.out.trans (HB1.out.mono (by have := HZ.out; omega))⟩
  case round =>
    obtain ⟨left, L, hg, hrng, hm, hnd, hin, hall, hb⟩ := hrel
    have hAt := H.out.below hb
    rcases hrng.next (P := Tryd.prog) 0 with ⟨h0, hnx⟩ | ⟨key, v, left', w2, hperm, hnx, hrng2, hgr, hz2, hen⟩
    · have HX := Lib.hid (And.intro hm (And.intro hnd (And.intro hin (And.intro hall (And.intro hb h0)))))
      clear hm hnd hin hall h0 hrng hAt
      go_wp2
      go_ret
      obtain ⟨hm, hnd, hin, hall, hb, h0⟩ := HX.out
      refine ⟨_, L, rfl, hm, hnd, fun n => ⟨hin n, fun ⟨p, hp⟩ => ?_⟩, Nat.le_refl _, hb⟩
      rcases hall _ hp with e | e
      · exact e
      · rw [h0] at e; cases e
    · have hkv : (key, v) ∈ S.now.map (pv F) := hrng.left_of _ (hperm.mem_iff.2 (by simp))
      obtain ⟨x, hx, hxe⟩ := List.mem_map.1 hkv
      obtain ⟨rfl, rfl⟩ : key = .string (strOf x.1) ∧ v = ptr (F x.2) := ⟨(congrArg Prod.fst hxe).symm, (congrArg Prod.snd hxe).symm⟩
      have hb2 : Below w.heap.size w w2 := hb.trans ((Below.refl _ _).grown hgr hb.size (fun g e => by injection e with e; have := HZ.out; omega))
      have hAt2 := H.out.below hb2
      have hm2 := hm.keep (w' := w2) (hgr.block _ hm.lt (fun e => by injection e with e; have := HZ.out; omega))
      obtain ⟨w3, L', hst, hm3, hnd3, hmem3, ht3⟩ := kb_store hAt2 hm2 hnd (fun n hn => .inl (hin n hn)) (n := x.2) (.inl ⟨x.1, hx⟩)
      have hst' : (Instr.mapUpdate 57 (.map (some w.heap.size)) (.pointer (some ⟨F x.2, 0, none⟩)) (.bool true)).run Tryd.prog w2 = .ok () w3 := hst
      have hen' : (Instr.entry (.pointer (some ⟨(w.heap.size + 1), 0, none⟩))).run Tryd.prog w2 = .ok (.tuple #[.string (strOf x.1), .pointer (some ⟨F x.2, 0, none⟩)]) w2 := hen
      have hlen := Lib.hid hperm.length_eq
      have HX := Lib.hid (show ∀ g', left'.length = g' → ∃ (left : List (Value × Value)) (L : List Nat), left.length = g' ∧ MapRng w3 bn (w.heap.size + 1) (S.now.map (pv F)) left ∧ MapIs w3 w.heap.size (L.map (kb F)) ∧ L.Nodup ∧ (∀ n ∈ L, ∃ p, (p, n) ∈ S.now) ∧ (∀ x ∈ S.now, x.2 ∈ L ∨ pv F x ∈ left) ∧ Below w.heap.size w w3 from fun g' hg' => by
        refine ⟨left', L', hg', hrng2.keep (ht3.block bn hrng2.is.lt (fun e => by have := HBN.out; omega)) (ht3.block _ hrng2.lt (fun e => by have := HZ.out; omega)), hm3, hnd3, fun n hn => ?_, fun y hy => ?_, hb2.trans (ht3.below (fun j e => by omega) hb2.size)⟩
        · rcases (hmem3 n).1 hn with rfl | hn
          · exact ⟨x.1, hx⟩
          · exact hin n hn
        · rcases hall y hy with e | e
          · exact .inl ((hmem3 _).2 (.inr e))
          · rcases List.mem_cons.1 (hperm.mem_iff.1 e) with e | e
            · refine .inl ((hmem3 _).2 (.inl ?_))
              have e2 : ptr (F y.2) = ptr (F x.2) := congrArg Prod.snd e
              exact hAt.inj (.inl ⟨y.1, hy⟩) (.inl ⟨x.1, hx⟩) (ptr_inj e2)
            · exact .inr e)
      clear hm hnd hin hall hrng hAt hperm hkv hxe hb2 hAt2 hm2 hst hm3 hnd3 hmem3 ht3 hrng2 hen hgr hz2 hb
      have hg2 := Lib.hid hg
      clear hg
      go_wp2
      go_roundg left'.length
      case measure => have := hlen.out; have := hg2.out; simp only [List.length_cons] at *; omega
      case rel => exact HX.out _ rfl
end Go.Proofs.YteidkmiladkoiaaDoor
