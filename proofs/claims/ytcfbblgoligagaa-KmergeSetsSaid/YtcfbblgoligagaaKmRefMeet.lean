/-
  The document's Less and Meet of rows of numbers, walked.
-/
import Derived.Test.YtcfbblgoligagaaKmRefInts
namespace Go.Proofs.Ytcfbblgoligagaa.KI
open Go.RowKit

/-- The numbers of one row that another one hasn't. -/
def lessL (a b : List Int) : List Int := uniqL lt (a.filter fun x => !decide (x ∈ b))
/-- The numbers that all rows have. -/
def meetL (ll : List (List Int)) : List Int := (uniqL lt ll.flatten).filter fun x => ll.all fun r => decide (x ∈ r)
theorem filter_take_step {a : List Int} {p : Int → Bool} {k : Nat} (h : k < a.length) : (a.take (k + 1)).filter p = (a.take k).filter p ++ if p a[k] = true then [a[k]] else [] := by
  rw [List.take_succ_eq_append_getElem h, List.filter_append]
  congr 1
  by_cases hp : p a[k] = true
  · rw [if_pos hp, List.filter_cons_of_pos hp]; rfl
  · rw [if_neg hp, List.filter_cons_of_neg hp]; rfl

set_option maxRecDepth 100000 in
set_option maxHeartbeats 1600000 in
theorem RefLess_any (A B : Option Addr) (n c m d : Nat) (a b : List Int) (hn : a.length = n) (hm : b.length = m) (w : World) (hS : Sees w w.heap.size A (iv a)) (hS2 : Sees w w.heap.size B (iv b)) (hn9 : n ≤ 1000000000) (hm9 : m ≤ 1000000000) :
    Calls Try.prog 21 #[.slice A n c, .slice B m d] w (RowI w (lessL a b)) := by
  have hU := putG_all ordr (a.filter fun x => !decide (x ∈ b))
  obtain ⟨U, hUU⟩ : ∃ U, lessL a b = U := ⟨_, rfl⟩
  rw [show uniqL lt (a.filter fun x => !decide (x ∈ b)) = U from hUU] at hU
  rw [hUU]
  have HU := Lib.hid hU
  have HN := Lib.hid hn
  have HM := Lib.hid hm
  clear hU hUU hn hm
  go_enter Try.func21, Try.ntmps21
  go_wp2
  go_loopg [5, 6] n (fun g o i wr => ∃ (k : Nat) (Ao : Option Addr) (lo co : Nat) (out : List Int), k + g = n ∧ i = .int .i64 k ∧ o = .slice Ao lo co ∧ Hid (out.length = lo) ∧ lo ≤ co ∧ Hid (out = ((a.take k).filter fun x => !decide (x ∈ b)).foldl (putG lt) []) ∧ Sees wr wr.heap.size Ao (iv out) ∧ Below w.heap.size w wr)
  case atStart => exact ⟨0, none, 0, 0, [], by omega, rfl, rfl, rfl, Nat.le_refl _, rfl, ⟨.inl rfl⟩, Below.refl _ _⟩
  case round =>
    obtain ⟨k, Ao, lo, co, out, hk, rfl, rfl, hlo, hloc, hout, hsee, hb⟩ := hrel
    by_cases hlt : k < n
    · have hS' := (hS.below hb).more hb.size
      have hS2' := (hS2.below hb).more hb.size
      obtain ⟨ad, rfl, hadb, hx⟩ := Sees.iat hS' (k := k) (by have := HN.out; omega)
      have hft := filter_take_step (a := a) (p := fun x => !decide (x ∈ b)) (k := k) (by have := HN.out; omega)
      obtain ⟨x, hxe⟩ : ∃ x, a[k]'(by have := HN.out; omega) = x := ⟨_, rfl⟩
      rw [hxe] at hx hft
      obtain ⟨t, ht⟩ : ∃ t, decide (x ∈ b) = t := ⟨_, rfl⟩
      have hin := In_any B m d b x HM.out wr hS2' (by omega)
      simp only [ht] at hft
      rw [ht] at hin
      have HIN := Lib.hid hin
      have HFT := Lib.hid hft
      have hlo9 : lo ≤ 1000000000 := by
        have h1 := fold_len (lt := lt) ((a.take k).filter fun x => !decide (x ∈ b)) []
        rw [← hout.out, hlo.out] at h1
        have h2 := List.length_filter_le (fun x => !decide (x ∈ b)) (a.take k)
        have h3 : (a.take k).length ≤ k := List.length_take_le _ _
        simp only [List.length_nil] at h1
        omega
      clear hft hin ht hxe
      go_wp2_with fail
      refine HIN.out.mono ?_
      rintro e w2 ⟨rfl, rfl⟩
      cases t with
      | true =>
        have hoe : Hid (out = ((a.take (k + 1)).filter fun x => !decide (x ∈ b)).foldl (putG lt) []) := by
          unfold Hid
          rw [hout.out, HFT.out]; simp
        clear hout HFT
        go_wp2_with fail
        go_roundg (n - (k + 1))
        case measure => omega
        case rel => exact ⟨k + 1, Ao, lo, co, out, by omega, by go_num, rfl, hlo.out, hloc, hoe, hsee, hb⟩
      | false =>
        have hput := Lib.hid (Put_any Ao lo co out x hlo.out hloc wr hsee hlo9)
        go_wp2_with fail
        refine hput.out.mono ?_
        rintro e w2 ⟨A2, c2, rfl, hc2, hs2, hb2⟩
        have hb02 := hb.trans (hb2.mono hb.size)
        obtain ⟨l2, hl2⟩ : ∃ l2, (putG lt out x).length = l2 := ⟨_, rfl⟩
        rw [hl2] at hc2 ⊢
        have HL2 := Lib.hid hl2
        have hoe : Hid (putG lt out x = ((a.take (k + 1)).filter fun x => !decide (x ∈ b)).foldl (putG lt) []) := by
          unfold Hid
          rw [hout.out, HFT.out]; simp [List.foldl_append]
        clear hput hb2 hl2 hout HFT
        go_wp2_with fail
        go_roundg (n - (k + 1))
        case measure => omega
        case rel => exact ⟨k + 1, A2, l2, c2, _, by omega, by go_num, rfl, HL2.out, hc2, hoe, hs2, hb02⟩
    · have hoe : Hid (out = U) := by
        have := hout.out
        rw [List.take_of_length_le (by have := HN.out; omega), HU.out] at this
        exact this
      clear hout
      go_wp2
      go_ret
      rw [← hoe.out]
      exact ⟨Ao, co, by rw [hlo.out]; rfl, by rw [hlo.out]; exact hloc, hsee, hb⟩

set_option maxRecDepth 100000 in
set_option maxHeartbeats 1600000 in
theorem RefMeet_any (A : Option Addr) (n c : Nat) (ll : List (List El)) (w : World) (hR : RowsIn (fun k => k < w.heap.size) w A ll) (hn : ll.length = n) (hn6 : n ≤ 100000) (hK : ll.flatten.length ≤ 1000000000) :
    Calls Try.prog 19 #[.slice A n c] w (RowI w (meetL ll)) := by
  have hints := Lib.hid (RefInts_any A n c ll w hR hn hn6 hK)
  have hUl := uniqL_len ordr ll.flatten
  obtain ⟨X, hX⟩ : ∃ X, meetL ll = X := ⟨_, rfl⟩
  rw [hX]
  unfold meetL at hX
  obtain ⟨U, hUU⟩ : ∃ U, uniqL lt ll.flatten = U := ⟨_, rfl⟩
  rw [hUU] at hints hUl hX
  obtain ⟨nu, hnu⟩ : ∃ nu, U.length = nu := ⟨_, rfl⟩
  rw [hnu] at hUl
  have hnu9 : nu ≤ 1000000000 := by omega
  have HX := Lib.hid hX
  have HN := Lib.hid hn
  have HNU := Lib.hid hnu
  have hll : ∀ k (h : k < ll.length), (ll[k]).length ≤ 1000000000 := fun k h => by
    have h1 := flat_le ll k (ll[k]).length h
    rw [List.take_length, List.length_append] at h1
    omega
  have HLL := Lib.hid hll
  clear hX hUU hn hK hUl hnu hll
  go_enter Try.func19, Try.ntmps19
  go_wp2_with fail
  refine hints.out.mono ?_
  rintro e w1 ⟨Au, cu, rfl, hcu, hsu, hb1⟩
  rw [HNU.out] at hcu ⊢
  clear hints
  have hR1 := (hR.keep (Kept.of_below hb1 fun k e => e)).mono (m' := fun k => k < w1.heap.size) (fun k e => Nat.lt_of_lt_of_le e hb1.size)
  obtain ⟨ti, hi, hy0, hy1, hy2⟩ := info_parts iinfo
  go_wp2
  go_loopg [4, 5] nu (fun g o i wr => ∃ (k lo : Nat) (out : List Int), k + g = nu ∧ i = .int .i64 k ∧ wr.ownsRow w1.heap.size 3 1 o lo (iv out) ∧ Hid (out.length = lo) ∧ Hid (out = (U.take k).filter fun x => ll.all fun r => decide (x ∈ r)) ∧ Below w1.heap.size w1 wr)
  case atStart => exact ⟨0, 0, [], by omega, rfl, World.ownsRow_nil _ _ _ _, rfl, rfl, Below.refl _ _⟩
  case round =>
    obtain ⟨k, lo, out, hk, rfl, hrow, hlo, hout, hb⟩ := hrel
    obtain ⟨Ao, co, rfl, hloc⟩ := own_slice hrow
    by_cases hlt : k < nu
    · obtain ⟨adu, rfl, hadu, hx0⟩ := Sees.iat hsu (k := k) (by have := HNU.out; omega)
      have hft := filter_take_step (a := U) (p := fun x => ll.all fun r => decide (x ∈ r)) (k := k) (by have := HNU.out; omega)
      obtain ⟨x, hxe⟩ : ∃ x, U[k]'(by have := HNU.out; omega) = x := ⟨_, rfl⟩
      rw [hxe] at hx0 hft
      have HFT := Lib.hid hft
      have hlo9 : lo ≤ 1000000000 := by
        have h2 := List.length_filter_le (fun x => ll.all fun r => decide (x ∈ r)) (U.take k)
        rw [← hout.out, hlo.out] at h2
        have h3 : (U.take k).length ≤ k := List.length_take_le _ _
        omega
      obtain ⟨wo, rfl⟩ : ∃ wo : World, wo = wr := ⟨_, rfl⟩
      have hxo : wo.cell? (adu.add k) = some (.int .i64 x) := (hb.cell (by rw [add_block]; exact hadu)).trans hx0
      clear hft hxe hx0
      go_wp2
      go_loopg [6, 7] n (fun g t i wr => ∃ (j : Nat) (b : Bool), j + g = n ∧ i = .int .i64 j ∧ t = .bool b ∧ Hid (b = (ll.take j).all fun r => decide (x ∈ r)) ∧ ∃ q, wr = wo.drewN q)
      case atStart => exact ⟨0, true, by omega, rfl, rfl, rfl, 0, rfl⟩
      case round =>
        obtain ⟨j, b, hj, rfl, rfl, hbb, q, rfl⟩ := hrel
        by_cases hjl : j < n
        · obtain ⟨ad, Ak, ck, rfl, hadm, hcell0, hck, hrw⟩ := hR1.iat (k := j) (by have := HN.out; omega)
          have hta := List.take_succ_eq_append_getElem (l := ll) (i := j) (by have := HN.out; omega)
          have hlen := HLL.out j (by have := HN.out; omega)
          obtain ⟨r, hr⟩ : ∃ r, ll[j]'(by have := HN.out; omega) = r := ⟨_, rfl⟩
          rw [hr] at hcell0 hck hrw hta hlen
          have hcell : wo.cell? (ad.add j) = some (.slice Ak r.length ck) := (hb.cell (by rw [add_block]; exact hadm)).trans hcell0
          have hrwo := (hrw.keep (Kept.of_below hb fun k e => e)).sees (B := wo.heap.size) fun k e => Nat.lt_of_lt_of_le e hb.size
          have hin := fun p => Lib.hid (In_any Ak r.length ck r x rfl (wo.drewN p) (hrwo.drewN p) (by omega))
          obtain ⟨t, ht⟩ : ∃ t, decide (x ∈ r) = t := ⟨_, rfl⟩
          rw [ht] at hin
          have hT : Hid ((b && t) = (ll.take (j + 1)).all fun r => decide (x ∈ r)) := by
            unfold Hid
            rw [hta, List.all_append, ← hbb.out, ← ht]; simp
          obtain ⟨lr, hlr⟩ : ∃ lr, r.length = lr := ⟨_, rfl⟩
          rw [hlr] at hcell hlen
          simp only [hlr] at hin
          clear hbb ht hta hr hlr hck hrw hrwo hcell0
          go_wp2
          go_quiet ((refine (hin _).out.mono ?_; rintro e w' ⟨rfl, rfl⟩; exact ⟨rfl, _, rfl⟩))
          cases b <;> cases t
          all_goals
            go_wp2
            go_roundg (n - (j + 1))
            case measure => omega
            case rel => exact ⟨j + 1, _, by omega, by go_num, rfl, hT, _, rfl⟩
        · have hbe : Hid (b = ll.all fun r => decide (x ∈ r)) := by
            have := hbb.out
            rw [List.take_of_length_le (by have := HN.out; omega)] at this
            exact this
          clear hbb
          have hbq : Below w1.heap.size w1 (wo.drewN q) := below_d hb q
          have hrowq : (wo.drewN q).ownsRow w1.heap.size 3 1 (.slice Ao lo co) lo (iv out) := hrow
          have hxq : (wo.drewN q).cell? (adu.add k) = some (.int .i64 x) := hxo
          obtain ⟨wq, hwq⟩ : ∃ wq, wo.drewN q = wq := ⟨_, rfl⟩
          rw [hwq] at hbq hrowq hxq ⊢
          clear hwq hb hrow hxo
          cases b with
          | false =>
            have hoe : Hid (out = (U.take (k + 1)).filter fun x => ll.all fun r => decide (x ∈ r)) := by
              unfold Hid
              rw [hout.out, HFT.out, ← hbe.out]; simp
            clear hout HFT hbe
            go_wp2
            go_roundg (nu - (k + 1))
            case measure => omega
            case rel => exact ⟨k + 1, lo, out, by omega, by go_num, hrowq, hlo.out, hoe, hbq⟩
          | true =>
            have hoe : Hid (out ++ [x] = (U.take (k + 1)).filter fun x => ll.all fun r => decide (x ∈ r)) := by
              unfold Hid
              rw [hout.out, HFT.out, ← hbe.out]; simp
            have hrow2 : (wq.alloc (.cells #[.int .i64 x] 3)).ownsRow w1.heap.size 3 1 (.slice Ao lo co) out.length (iv out) := by rw [hlo.out]; exact hrowq.alloc _
            have hsee1 : Sees (wq.alloc (.cells #[.int .i64 x] 3)) (wq.heap.size + 1) (some ⟨wq.heap.size, 0, none⟩) (iv [x]) := ⟨.inr ⟨_, rfl, by simp, fun j u hu => by match j, hu with | 0, hu => (simp [iv] at hu; subst hu; rw [Addr.add_lit, World.cell?_alloc_at _ _ _ _ rfl]; rfl)⟩⟩
            have hs1 := hbq.size
            clear hout HFT hbe
            go_wp2_with (at_builtin; refine wpList_append_i rfl (.tmp 37) (.tmp 42) rfl w1.heap.size (.slice Ao lo co) out (by rfl) hrow2 _ (some ⟨wq.heap.size, 0, none⟩) 1 1 [x] (by rfl) rfl hsee1 (by have := hlo.out; simp; omega) (by simp; omega) ?_; intro v2 w2 hown2 hon2)
            have hb2 : Below w1.heap.size w1 w2 := (hbq.alloc hs1 _).trans (hon2.below (by simp; omega) (fun j hj => (World.ownsRow.lt hrow2 j hj).1))
            go_roundg (nu - (k + 1))
            case measure => omega
            case rel => exact ⟨k + 1, lo + 1, out ++ [x], by omega, by go_num, by rw [List.length_append, hlo.out] at hown2; exact hown2, by unfold Hid; rw [List.length_append, hlo.out]; rfl, hoe, hb2⟩
    · have hoe : Hid (out = X) := by
        have := hout.out
        rw [List.take_of_length_le (by have := HNU.out; omega), HX.out] at this
        exact this
      clear hout
      go_wp2
      go_ret
      rw [← hoe.out]
      have hrow' := hrow
      rw [← hlo.out] at hrow'
      obtain ⟨A', c', h1, h2, h3, h4⟩ := own_rowI hrow' hb
      exact ⟨A', c', by rw [← h1, ← hlo.out]; rfl, h2, h3, hb1.trans (hb.mono hb1.size)⟩
end Go.Proofs.Ytcfbblgoligagaa.KI
