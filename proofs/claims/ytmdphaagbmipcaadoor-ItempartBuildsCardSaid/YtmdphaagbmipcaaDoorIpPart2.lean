/-
  A part's first item, its last one; the block in which an item would stand.
-/
import Derived.Test.YtmdphaagbmipcaaDoorIpPart
import Derived.Test.YtmdphaagbmipcaaDoorBytesClone
import Derived.Test.YtmdphaagbmipcaaDoorFrm
namespace Go.Proofs.YtmdphaagbmipcaaDoor
open Go.RowKit

section
variable {m : Nat → Prop} {w : World} {P : Nat} {ls : List Item}
theorem PartAt.pos (h : PartAt m w P ls) : 0 < (blk ls).length := by rw [blk_length]; have := h.many; omega
theorem NewB.of_ret {w : World} {l : List UInt8} {e : Ending} {w' : World} (h : RetB w w.heap.size (.slice none 0 0) l e w') : NewB w l e w' := by
  obtain ⟨v, he, h1, h2⟩ := h
  exact ⟨v, he, h1, h2.below_nil⟩
theorem head_first (ls : List Item) (h : 0 < (blk ls).length) : (blk ls)[0].headD [] = ls.headD [] := by
  rw [blk_get]
  cases ls with
  | nil => rfl
  | cons x t => rfl

set_option maxHeartbeats 800000 in
theorem First_any (h : PartAt m w P ls) (hm : ∀ k, m k → k < w.heap.size) : Calls Tryd.prog 20 #[.pointer (some ⟨P, 0, none⟩)] w (NewB w (ls.headD [])) := by
  have hL := Lib.hid (Len_any h)
  obtain ⟨X, AB, AF, cB, cF, h1, h2, h3, h4, h5, h6, h7, h8, h9, h10⟩ := h.out
  have hpos := h.pos
  obtain ⟨ad, Ai, ci, e1, e2, e3, e4, e5⟩ := h10.out 0 (by rw [List.length_map]; exact hpos)
  rw [List.getElem_map, head_first ls hpos] at e3 e4 e5
  have hn0 : ((ls.length : Int) == 0) = false := by rw [beq_eq_false_iff_ne]; have := h.many; omega
  obtain ⟨N, hN⟩ : ∃ N, (blk ls).length = N := ⟨_, rfl⟩
  rw [hN] at h6 hpos
  obtain ⟨x, hx⟩ : ∃ x, ls.headD [] = x := ⟨_, rfl⟩
  rw [hx] at e3 e4 e5 ⊢
  have hxl : x.length ≤ 400 := by
    have hh := (ok_parts h.well).2
    cases ls with
    | nil => exact absurd h.many (by simp)
    | cons y t =>
      have := hh y (by simp)
      rw [List.headD_cons] at hx
      rw [← hx]
      unfold badL at this
      rw [Bool.or_eq_false_iff, decide_eq_false_iff_not, decide_eq_false_iff_not] at this
      omega
  obtain ⟨n, hn⟩ : ∃ n, ls.length = n := ⟨_, rfl⟩
  rw [hn] at hL hn0
  have e3' : w.cell? ad = some (.slice Ai x.length ci) := by simpa [Addr.add] using e3
  have hC := Lib.hid (bytesClone_any Ai x.length ci x rfl w (e5.sees hm) (by omega))
  subst e1
  clear h h9 h10 h7 h8 hN hx h4 h5 e3 hn
  go_enter Tryd.func20, Tryd.ntmps20
  go_wp2_with fail
  refine hL.out.mono ?_
  rintro e w1 ⟨rfl, rfl⟩
  go_wp2_with fail
  refine hC.out.mono ?_
  rintro e w1 ⟨v, rfl, hown, hon⟩
  go_wp2
  go_ret
  exact NewB.of_ret ⟨v, rfl, hown, hon⟩
theorem First_nil (w : World) : Calls Tryd.prog 20 #[.pointer none] w fun e w' => e = .returned (.slice none 0 0) ∧ w = w' := by
  have hL := Lib.hid (Len_nil w)
  go_enter Tryd.func20, Tryd.ntmps20
  go_wp2_with fail
  refine hL.out.mono ?_
  rintro e w1 ⟨rfl, rfl⟩
  go_wp2
  go_ret
  exact ⟨rfl, rfl⟩
theorem Last_nil (w : World) : Calls Tryd.prog 21 #[.pointer none] w fun e w' => e = .returned (.slice none 0 0) ∧ w = w' := by
  have hL := Lib.hid (Len_nil w)
  go_enter Tryd.func21, Tryd.ntmps21
  go_wp2_with fail
  refine hL.out.mono ?_
  rintro e w1 ⟨rfl, rfl⟩
  go_wp2
  go_ret
  exact ⟨rfl, rfl⟩

set_option maxHeartbeats 1600000 in
theorem Last_any (h : PartAt m w P ls) (hm : ∀ k, m k → k < w.heap.size) : Calls Tryd.prog 21 #[.pointer (some ⟨P, 0, none⟩)] w (NewB w (ls.getLastD [])) := by
  have hL := Lib.hid (Len_any h)
  obtain ⟨X, AB, AF, cB, cF, h1, h2, h3, h4, h5, h6, h7, h8, h9, h10⟩ := h.out
  have hpos := h.pos
  have hbl := blk_length ls
  have hmany := h.many
  obtain ⟨ad, Ai, ci, e1, e2, e3, e4, e5⟩ := h9.out ((blk ls).length - 1) (by omega)
  obtain ⟨N1, hN1⟩ : ∃ N1, (blk ls).length - 1 = N1 := ⟨_, rfl⟩
  simp only [hN1] at e3 e4 e5
  have hg : (blk ls)[N1]'(by omega) = (ls.drop (8 * N1)).take 8 := blk_get (by omega)
  obtain ⟨o, ho⟩ : ∃ o, (blk ls)[N1]'(by omega) = o := ⟨_, rfl⟩
  rw [ho] at e3 e4 e5 hg
  have hol : o.length = ls.length - 8 * N1 := by rw [hg, List.length_take, List.length_drop]; omega
  obtain ⟨ad2, Ay, cy, f1, f2, f3, f4, f5⟩ := e5.out (o.length - 1) (by omega)
  have hlast : o[o.length - 1]'(by omega) = ls.getLastD [] := by
    have hb := block_get (ls := ls) (k := 8 * N1) (i := o.length - 1) (by rw [← hg]; omega)
    simp only [← hg] at hb
    rw [hb, List.getLastD_eq_getLast?, List.getLast?_eq_getElem?, List.getElem?_eq_getElem (by omega)]
    simp only [Option.getD_some]
    congr 1
    omega
  rw [hlast] at f3 f4 f5
  have hn0 : ((ls.length : Int) == 0) = false := by rw [beq_eq_false_iff_ne]; omega
  obtain ⟨x, hx⟩ : ∃ x, ls.getLastD [] = x := ⟨_, rfl⟩
  rw [hx] at f3 f4 f5 ⊢
  have hxl : x.length ≤ 400 := by
    have hmem : x ∈ ls := by
      rw [← hx, List.getLastD_eq_getLast?, List.getLast?_eq_getElem?, List.getElem?_eq_getElem (by omega)]
      simp
    have := (ok_parts h.well).2 x hmem
    unfold badL at this
    rw [Bool.or_eq_false_iff, decide_eq_false_iff_not, decide_eq_false_iff_not] at this
    omega
  obtain ⟨j, hj⟩ : ∃ j, o.length - 1 = j := ⟨_, rfl⟩
  rw [hj] at f3
  have hoj : o.length = j + 1 := by omega
  rw [hoj] at e3
  have hbj : (blk ls).length = N1 + 1 := by omega
  rw [hbj] at h4
  obtain ⟨n, hn⟩ : ∃ n, ls.length = n := ⟨_, rfl⟩
  rw [hn] at hL hn0
  have hfew := h.few
  have hj8 : j ≤ 8 := by have := congrArg List.length hg; rw [List.length_take] at this; omega
  have hN2 : N1 ≤ 2000 := by omega
  have hw1 : IntKind.i64.wrap (N1 : Int) = (N1 : Int) := by rw [IntKind.wrap_i64]; omega
  have hC := Lib.hid (bytesClone_any Ay x.length cy x rfl w (f5.sees hm) (by omega))
  subst e1
  subst f1
  clear h h9 h10 h7 h8 hN1 hx h5 hn hol hg ho hlast hoj hbj hj hbl hpos hmany hfew h6 e4
  go_enter Tryd.func21, Tryd.ntmps21
  go_wp2_with fail
  refine hL.out.mono ?_
  rintro e w1 ⟨rfl, rfl⟩
  go_wp2_with fail
  go_quiet (fail)
  have hC2 := Lib.hid (bytesClone_any Ay x.length cy x rfl (w.drewN nq) ((f5.sees hm).drewN nq) (by omega))
  go_wp2_with fail
  refine hC2.out.mono ?_
  rintro e w1 ⟨v, rfl, hown, hon⟩
  go_wp2
  go_ret
  obtain ⟨v', he, g1, g2⟩ := NewB.of_ret (w := w.drewN nq) ⟨v, rfl, hown, hon⟩
  exact ⟨v', he, g1, ⟨g2.os, g2.tape, g2.output, g2.size, g2.block⟩⟩
end
end Go.Proofs.YtmdphaagbmipcaaDoor
