/-
  The document's Ints of rows of numbers, walked.
-/
import Derived.Test.YtcfbblgoligagaaKmPutI
namespace Go.Proofs.Ytcfbblgoligagaa.KI
open Go.RowKit

theorem RowsIn.iat {m : Nat → Prop} {w : World} {A : Option Addr} {ll : List (List El)} (h : RowsIn m w A ll) {k : Nat} (hk : k < ll.length) : ∃ ad Ak ck, A = some ad ∧ m ad.block ∧ w.cell? (ad.add k) = some (.slice Ak (ll[k]).length ck) ∧ (ll[k]).length ≤ ck ∧ SeesM m w Ak (iv ll[k]) := by
  obtain ⟨ad, Ak, ck, h1, h2, h3, h4, h5, -⟩ := h.out k hk
  exact ⟨ad, Ak, ck, h1, h2, h3, h4, h5⟩
theorem take_flat {ll : List (List Int)} {k : Nat} (h : k < ll.length) : (ll.take (k + 1)).flatten = (ll.take k).flatten ++ ll[k] := by
  rw [List.take_succ_eq_append_getElem h, List.flatten_append]; simp
theorem flat_le (ll : List (List Int)) (k j : Nat) (h : k < ll.length) : ((ll.take k).flatten ++ (ll[k]).take j).length ≤ ll.flatten.length := by
  have e : ll.flatten = (ll.take k).flatten ++ (ll[k] ++ (ll.drop (k + 1)).flatten) := by
    rw [← List.flatten_cons, ← List.drop_eq_getElem_cons h, ← List.flatten_append, List.take_append_drop]
  rw [e]
  simp only [List.length_append, List.length_take]
  omega

set_option maxRecDepth 100000 in
set_option maxHeartbeats 1600000 in
theorem RefInts_any (A : Option Addr) (n c : Nat) (ll : List (List El)) (w : World) (hR : RowsIn (fun k => k < w.heap.size) w A ll) (hn : ll.length = n) (hn6 : n ≤ 100000) (hK : ll.flatten.length ≤ 1000000000) :
    Calls Try.prog 17 #[.slice A n c] w (RowI w (uniqL lt ll.flatten)) := by
  have hU := putG_all ordr ll.flatten
  obtain ⟨U, hUU⟩ : ∃ U, uniqL lt ll.flatten = U := ⟨_, rfl⟩
  rw [hUU] at hU ⊢
  have HU := Lib.hid hU
  have HN := Lib.hid hn
  have HKL := Lib.hid hK
  clear hU hUU hn hK
  go_enter Try.func17, Try.ntmps17
  go_wp2
  go_loopg [3, 4] n (fun g o i wr => ∃ (k : Nat) (Ao : Option Addr) (lo co : Nat) (out : List Int), k + g = n ∧ i = .int .i64 k ∧ o = .slice Ao lo co ∧ Hid (out.length = lo) ∧ lo ≤ co ∧ Hid (out = (ll.take k).flatten.foldl (putG lt) []) ∧ Sees wr wr.heap.size Ao (iv out) ∧ Below w.heap.size w wr)
  case atStart => exact ⟨0, none, 0, 0, [], by omega, rfl, rfl, rfl, Nat.le_refl _, rfl, ⟨.inl rfl⟩, Below.refl _ _⟩
  case round =>
    obtain ⟨k, Ao, lo, co, out, hk, rfl, rfl, hlo, hloc, hout, hsee, hb⟩ := hrel
    by_cases hlt : k < n
    · obtain ⟨ad, Ak, ck, rfl, hadm, hcell0, hck, hrow⟩ := hR.iat (k := k) (by have := HN.out; omega)
      have htf := take_flat (ll := ll) (k := k) (by have := HN.out; omega)
      have hfl := fun j => flat_le ll k j (by have := HN.out; omega)
      obtain ⟨r, hr⟩ : ∃ r, ll[k]'(by have := HN.out; omega) = r := ⟨_, rfl⟩
      rw [hr] at hcell0 hck hrow htf
      simp only [hr] at hfl
      obtain ⟨lk, hlk⟩ : ∃ lk, r.length = lk := ⟨_, rfl⟩
      rw [hlk] at hcell0 hck
      have hlk9 : lk ≤ 1000000000 := by
        have := hfl lk
        rw [← hlk, List.take_length, List.length_append] at this
        have := HKL.out; omega
      have HTF := Lib.hid htf
      have HFL := Lib.hid hfl
      have HLK := Lib.hid hlk
      obtain ⟨wo, rfl⟩ : ∃ wo : World, wo = wr := ⟨_, rfl⟩
      clear htf hfl hlk hr
      go_wp2
      go_loopg [3, 5] lk (fun g o i wr => ∃ (j : Nat) (Ao : Option Addr) (lo co : Nat) (out : List Int), j + g = lk ∧ i = .int .i64 j ∧ o = .slice Ao lo co ∧ Hid (out.length = lo) ∧ lo ≤ co ∧ Hid (out = ((ll.take k).flatten ++ r.take j).foldl (putG lt) []) ∧ Sees wr wr.heap.size Ao (iv out) ∧ Below w.heap.size w wr)
      case atStart => exact ⟨0, Ao, lo, co, out, by omega, rfl, rfl, hlo.out, hloc, by unfold Hid; rw [hout.out]; simp, hsee, hb⟩
      case round =>
        obtain ⟨j, Ap, lp, cp, op, hj, rfl, rfl, hlp, hlpc, hop, hseep, hbp⟩ := hrel
        clear hlo hloc hout hsee hb
        have hcell : wr.cell? (ad.add k) = some (.slice Ak lk ck) := (hbp.cell (by rw [add_block]; exact hadm)).trans hcell0
        by_cases hjl : j < lk
        · have hrowp := hrow.keep (Kept.of_below hbp fun k e => e)
          obtain ⟨adk, rfl, -, hx⟩ := Sees.iat (hrowp.sees (B := wr.heap.size) fun k e => Nat.lt_of_lt_of_le e hbp.size) (k := j) (by rw [HLK.out]; exact hjl)
          have htk := List.take_succ_eq_append_getElem (l := r) (i := j) (by rw [HLK.out]; exact hjl)
          obtain ⟨x, hxe⟩ : ∃ x, r[j]'(by rw [HLK.out]; exact hjl) = x := ⟨_, rfl⟩
          rw [hxe] at hx htk
          have hlp9 : lp ≤ 1000000000 := by
            have h1 := fold_len (lt := lt) ((ll.take k).flatten ++ r.take j) []
            rw [← hop.out, hlp.out] at h1
            have h2 := HFL.out j
            have h3 := HKL.out
            simp only [List.length_nil] at h1
            omega
          have hput := Lib.hid (Put_any Ap lp cp op x hlp.out hlpc wr hseep hlp9)
          have HTK := Lib.hid htk
          clear htk hxe hrowp
          go_wp2_with fail
          refine hput.out.mono ?_
          rintro e w2 ⟨A2, c2, rfl, hc2, hs2, hb2⟩
          have hb02 := hbp.trans (hb2.mono hbp.size)
          obtain ⟨l2, hl2⟩ : ∃ l2, (putG lt op x).length = l2 := ⟨_, rfl⟩
          rw [hl2] at hc2 ⊢
          have HL2 := Lib.hid hl2
          clear hput hb2 hl2
          go_wp2_with fail
          go_roundg (lk - (j + 1))
          case measure => omega
          case rel => exact ⟨j + 1, A2, l2, c2, _, by omega, by go_num, rfl, HL2.out, hc2, by unfold Hid; rw [hop.out, HTK.out]; simp only [List.foldl_append, List.foldl_cons, List.foldl_nil], hs2, hb02⟩
        · have hje : j = lk := by omega
          have hoe : Hid (op = (ll.take (k + 1)).flatten.foldl (putG lt) []) := by
            unfold Hid
            rw [hop.out, HTF.out, hje, ← HLK.out, List.take_length]
          go_wp2_with fail
          go_roundg (n - (k + 1))
          case measure => omega
          case rel => exact ⟨k + 1, Ap, lp, cp, op, by omega, by go_num, rfl, hlp.out, hlpc, hoe, hseep, hbp⟩
    · have hoe : Hid (out = U) := by
        have := hout.out
        rw [List.take_of_length_le (by have := HN.out; omega), HU.out] at this
        exact this
      clear hout
      go_wp2
      go_ret
      rw [← hoe.out]
      exact ⟨Ao, co, by rw [hlo.out]; rfl, by rw [hlo.out]; exact hloc, hsee, hb⟩
end Go.Proofs.Ytcfbblgoligagaa.KI
