/-
  change.do, walked: a change is done with paths.
-/
import Derived.Test.YteidkmiladkoiaaDoorSmAt
namespace Go.Proofs.YteidkmiladkoiaaDoor
open Go.RowKit

theorem law_pstr (w : World) : KeyOk Tryd.prog 9 w okStr := keyOk_str Tryd.underlying9 w
/-- 'm[p] = x', 'delete(m, p)' at paths. -/
theorem dir_store {w : World} {b : Nat} {F : Nat → Nat} {d : Dir} (h : MapIs w b (d.map (pv F))) (hd : RiD d) (q : Txt) (n : Nat) :
    ∃ w', (Instr.mapUpdate 44 (.map (some b)) (.string (strOf q)) (ptr (F n))).run Tryd.prog w = .ok () w' ∧ MapIs w' b ((putD d (q, some n)).map (pv F)) ∧ Turn (fun k => k = b) w w' := by
  obtain ⟨w', h1, h2, h3, -⟩ := h.store (law_pstr w) Tryd.underlying44 pv_ok (x := .string (strOf q)) (v := ptr (F n)) ⟨_, rfl⟩ (pv_keys (ri_put hd _)) (pv_put hd q n)
  exact ⟨w', h1, h2, .of_grown h3 fun k e => (Option.some.inj e).symm⟩
theorem dir_drop {w : World} {b : Nat} {F : Nat → Nat} {d : Dir} (h : MapIs w b (d.map (pv F))) (hd : RiD d) (q : Txt) :
    ∃ w', (∀ ty, (Builtin.delete_ #[44, 9] ty #[.map (some b), .string (strOf q)]).run Tryd.prog w = .ok (.tuple #[]) w') ∧ MapIs w' b ((putD d (q, none)).map (pv F)) ∧ Turn (fun k => k = b) w w' := by
  obtain ⟨w', h1, h2, h3, -⟩ := h.drop (law_pstr w) Tryd.underlying44 pv_ok (x := .string (strOf q)) ⟨_, rfl⟩ (pv_keys (ri_put hd _)) (pv_del hd q) 0
  exact ⟨w', fun ty => h1, h2, .of_grown h3 fun k e => (Option.some.inj e).symm⟩
theorem dir_look {w : World} {b : Nat} {F : Nat → Nat} {d : Dir} (h : MapIs w b (d.map (pv F))) {q : Txt} {n : Nat} (hl : lookD d q = some n) :
    (Instr.lookup 44 (.map (some b)) (.string (strOf q)) true).run Tryd.prog w = .ok (.tuple #[ptr (F n), .bool true]) w :=
  h.look (law_pstr w) Tryd.underlying44 pv_ok (x := .string (strOf q)) (v := ptr (F n)) (List.mem_map.2 ⟨(q, n), look_mem hl, rfl⟩) true
theorem zero_ptr (w : World) : (zeroValue 48).run Tryd.prog w = .ok (.pointer none) w := by kernel_rfl
theorem dir_none {w : World} {b : Nat} {F : Nat → Nat} {d : Dir} (h : MapIs w b (d.map (pv F))) {q : Txt} (hl : lookD d q = none) :
    (Instr.lookup 44 (.map (some b)) (.string (strOf q)) true).run Tryd.prog w = .ok (.tuple #[.pointer none, .bool false]) w :=
  h.look_out (law_pstr w) Tryd.underlying44 pv_ok (x := .string (strOf q)) (zero_ptr w) ⟨_, rfl⟩ (fun p hp => by
    obtain ⟨x, hx, rfl⟩ := List.mem_map.1 hp
    exact fun e => look_none.1 hl x hx (strOf_inj (by simpa [pv] using e))) true

def DoIs (w : World) (b : Nat) (F : Nat → Nat) (d : Dir) (e : Ending) (w' : World) : Prop := (∃ v, e = .returned v) ∧ MapIs w' b (d.map (pv F)) ∧ Turn (fun k => k = b) w w'

set_option maxRecDepth 100000 in
set_option maxHeartbeats 800000 in
theorem do_any (q : Nat → Prop) (A : Option Addr) (n cap b : Nat) (F : Nat → Nat) (l : List Giv) (d : Dir) (w : World) (hl : l.length = n) (hn : n ≤ 1000) (hs : SeesM q w A (givV F l)) (hq : ∀ k, q k → k < w.heap.size ∧ k ≠ b) (hM : MapIs w b (d.map (pv F))) (hd : RiD d) :
    Calls Tryd.prog 25 #[.slice A n cap, .map (some b)] w (DoIs w b F (againD d l)) := by
  have hbl := hM.lt
  have HL := Lib.hid hl
  have HD := Lib.hid hd
  have HS := Lib.hid hs
  have HQ := Lib.hid hq
  have HM := Lib.hid hM
  clear hl hd hs hq hM
  go_enter Tryd.func25, Tryd.ntmps25
  go_wp2
  go_loopg [8] n (fun g i wr => ∃ k : Nat, k + g = n ∧ i = .int .i64 k ∧ MapIs wr b ((againD d (l.take k)).map (pv F)) ∧ Turn (fun k => k = b) w wr)
  case atStart => exact ⟨0, by omega, rfl, HM.out, Turn.refl _ _⟩
  case round =>
    obtain ⟨k, hk, rfl, hmap, ht⟩ := hrel
    by_cases hlt : k < n
    · have hlk : k < l.length := by rw [HL.out]; exact hlt
      obtain ⟨ad, hA, hadq, hc1, hc2⟩ := (HS.out.keep (Kept.of_turn ht HQ.out)).giv hlk
      have hT := Lib.hid (show againD d (l.take (k + 1)) = putD (againD d (l.take k)) l[k] by rw [List.take_succ_eq_append_getElem hlk]; unfold againD; rw [List.foldl_append]; rfl)
      have hR := ri_again (l.take k) HD.out
      obtain ⟨D, hD⟩ : ∃ D, againD d (l.take k) = D := ⟨_, rfl⟩
      rw [hD] at hmap hT hR
      have HR := Lib.hid hR
      have HMP := Lib.hid hmap
      subst hA
      clear hD hR
      obtain ⟨g, hg⟩ : ∃ g, l[k] = g := ⟨_, rfl⟩
      rw [hg] at hc1 hc2 hT
      obtain ⟨p, o⟩ := g
      clear hg hmap
      have hrel2 : ∀ W2 W3 : World, Below wr.heap.size wr W2 → Turn (fun k => k = b) W2 W3 → Turn (fun k => k = b) w W3 := fun W2 W3 h2 h3 => (ht.trans (.of_new h2)).trans h3
      cases o with
      | none =>
        have hc2' : wr.cell? ⟨(ad.add (k * 2)).block, (ad.add (k * 2)).off + 1, none⟩ = some (.pointer none) := hc2
        have m2 := HMP.out.keep (((Below.refl _ wr).alloc (Nat.le_refl _) (.cells #[.string (strOf p), .pointer none] 56)).block b HMP.out.lt)
        obtain ⟨W3, hrun, hm3, ht3⟩ := dir_drop m2 HR.out p
        have HM3 := Lib.hid hm3
        have HT3 := Lib.hid ht3
        clear hc2 hm3 ht3 m2
        go_wp2
        go_roundg (n - (k + 1))
        case measure => omega
        case rel => exact ⟨k + 1, by omega, by go_num, by rw [hT.out]; exact HM3.out, hrel2 _ _ ((Below.refl _ wr).alloc (Nat.le_refl _) _) HT3.out⟩
      | some m =>
        have hc2' : wr.cell? ⟨(ad.add (k * 2)).block, (ad.add (k * 2)).off + 1, none⟩ = some (.pointer (some ⟨F m, 0, none⟩)) := hc2
        have m2 := HMP.out.keep (((Below.refl _ wr).alloc (Nat.le_refl _) (.cells #[.string (strOf p), .pointer (some ⟨F m, 0, none⟩)] 56)).block b HMP.out.lt)
        obtain ⟨W3, hrun, hm3, ht3⟩ := dir_store m2 HR.out p m
        have hrun' : (Instr.mapUpdate 44 (.map (some b)) (.string (strOf p)) (.pointer (some ⟨F m, 0, none⟩))).run Tryd.prog _ = _ := hrun
        have HM3 := Lib.hid hm3
        have HT3 := Lib.hid ht3
        clear hc2 hm3 ht3 m2 hrun
        go_wp2
        go_roundg (n - (k + 1))
        case measure => omega
        case rel => exact ⟨k + 1, by omega, by go_num, by rw [hT.out]; exact HM3.out, hrel2 _ _ ((Below.refl _ wr).alloc (Nat.le_refl _) _) HT3.out⟩
    · obtain rfl : k = n := by omega
      have hE : Hid (l.take k = l) := by unfold Hid; rw [← HL.out]; exact List.take_length
      go_wp2
      go_end0
      exact ⟨⟨_, rfl⟩, by rw [hE.out] at hmap; exact hmap, ht⟩
end Go.Proofs.YteidkmiladkoiaaDoor
