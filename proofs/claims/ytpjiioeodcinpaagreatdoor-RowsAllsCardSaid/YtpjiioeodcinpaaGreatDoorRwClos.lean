/-
  rows.Parse's own functions: take, text, all.
-/
import Derived.Test.YtpjiioeodcinpaaGreatDoorRwBox
import Derived.Test.YtpjiioeodcinpaaGreatDoorLbD
namespace Go.Proofs.YtpjiioeodcinpaaGreatDoor
open Go.RowKit

/-- take: four bytes off what is left, or that it isn't right. -/
def TakeOut (W : World) (po pr : Nat) (A : Option Addr) (n c : Nat) (l : List UInt8) (e : Ending) (W' : World) : Prop :=
  (4 ≤ n ∧ e = .returned (.int .i64 (num l : Nat)) ∧ ∃ q A', W' = (W.drewN q).setCell ⟨pr, 0, none⟩ (.slice A' (n - 4) (c - 4)) ∧ A' = (if c = 4 then A else A.map fun x => x.add 4)) ∨
  (n < 4 ∧ e = .returned (.int .i64 0) ∧ W' = W.setCell ⟨po, 0, none⟩ (.bool false))

theorem or_i64 (a b : Nat) (ha : a < 4611686018427387904) (hb : b < 4611686018427387904) : bits .or .i64 (a : Int) (b : Int) = ((a ||| b : Nat) : Int) := by
  have hx : a ||| b < 2 ^ 62 := Nat.or_lt_two_pow (by omega) (by omega)
  have h1 : (BitVec.ofInt 64 (a : Int)).toNat = a := by
    rw [BitVec.ofInt_natCast, BitVec.toNat_ofNat]; exact Nat.mod_eq_of_lt (by omega)
  have h2 : (BitVec.ofInt 64 (b : Int)).toNat = b := by
    rw [BitVec.ofInt_natCast, BitVec.toNat_ofNat]; exact Nat.mod_eq_of_lt (by omega)
  show IntKind.i64.wrap ((BitVec.ofInt 64 (a : Int) ||| BitVec.ofInt 64 (b : Int)).toNat : Int) = _
  rw [BitVec.toNat_or, h1, h2, IntKind.wrap_i64]
  omega
theorem or_join (x i b : Nat) (h : b < 2 ^ i) : x * 2 ^ i ||| b = x * 2 ^ i + b := by
  rw [← Nat.shiftLeft_eq, Nat.shiftLeft_add_eq_or_of_lt h]
theorem or_four (z0 z1 z2 z3 : Nat) (h0 : z0 < 256) (h1 : z1 < 256) (h2 : z2 < 256) (h3 : z3 < 256) :
    bits .or .i64 (bits .or .i64 (bits .or .i64 ((z0 : Int) * 16777216) ((z1 : Int) * 65536)) ((z2 : Int) * 256)) (z3 : Int) = ((z0 * 16777216 + z1 * 65536 + z2 * 256 + z3 : Nat) : Int) := by
  have e0 : ((z0 : Int) * 16777216) = ((z0 * 16777216 : Nat) : Int) := by omega
  have e1 : ((z1 : Int) * 65536) = ((z1 * 65536 : Nat) : Int) := by omega
  have e2 : ((z2 : Int) * 256) = ((z2 * 256 : Nat) : Int) := by omega
  have j1 := or_join z0 24 (z1 * 65536) (by omega)
  have j2 := or_join (z0 * 256 + z1) 16 (z2 * 256) (by omega)
  have j3 := or_join (z0 * 65536 + z1 * 256 + z2) 8 z3 (by omega)
  rw [e0, e1, e2, or_i64 _ _ (by omega) (by omega)]
  rw [show z0 * 16777216 ||| z1 * 65536 = (z0 * 256 + z1) * 2 ^ 16 from by rw [show z0 * 16777216 = z0 * 2 ^ 24 from rfl, j1]; omega]
  rw [or_i64 _ _ (by omega) (by omega), j2]
  rw [show (z0 * 256 + z1) * 2 ^ 16 + z2 * 256 = (z0 * 65536 + z1 * 256 + z2) * 2 ^ 8 from by omega]
  rw [or_i64 _ _ (by omega) (by omega), j3]
  omega
theorem num_four' {l : List UInt8} (h0 : 0 < l.length) (h1 : 1 < l.length) (h2 : 2 < l.length) (h3 : 3 < l.length) : num l = l[0].toNat * 16777216 + l[1].toNat * 65536 + l[2].toNat * 256 + l[3].toNat := by
  unfold num
  rw [List.getElem?_eq_getElem h0, List.getElem?_eq_getElem h1, List.getElem?_eq_getElem h2, List.getElem?_eq_getElem h3]
  rfl

set_option maxRecDepth 100000 in
set_option maxHeartbeats 800000 in
theorem take_any (po pr : Nat) (ok : Bool) (A : Option Addr) (n c : Nat) (l : List UInt8) (hn : l.length = n) (hnc : n ≤ c) (W : World) (hO : OneAt W po (.bool ok)) (hR : OneAt W pr (.slice A n c)) (hS : Sees W W.heap.size A (bv l)) (hlen : n ≤ 1000000) :
    Calls Tryz.prog 31 #[.pointer (some ⟨pr, 0, none⟩), .pointer (some ⟨po, 0, none⟩)] W (TakeOut W po pr A n c l) := by
  obtain ⟨oc, of⟩ := hO
  obtain ⟨rc, rf⟩ := hR
  by_cases h4 : n < 4
  · have HN := Lib.hid hn
    clear hn
    go_enter Tryz.func31, Tryz.ntmps31
    go_wp2
    go_ret
    exact .inr ⟨h4, rfl, rfl⟩
  · have b0 : 0 < l.length := by omega
    have b1 : 1 < l.length := by omega
    have b2 : 2 < l.length := by omega
    have b3 : 3 < l.length := by omega
    obtain ⟨ad, rfl, hadB, hcell⟩ : ∃ ad : Addr, A = some ad ∧ ad.block < W.heap.size ∧ ∀ j u, (bv l)[j]? = some u → W.cell? (ad.add j) = some u := by
      rcases hS.out with h | h
      · have := congrArg List.length h; rw [bv_length, List.length_nil] at this; omega
      · exact h
    have q0 := hcell 0 _ (bv_at l 0 b0)
    have q1 := hcell 1 _ (bv_at l 1 b1)
    have q2 := hcell 2 _ (bv_at l 2 b2)
    have q3 := hcell 3 _ (bv_at l 3 b3)
    have hE := num_four' b0 b1 b2 b3
    have y0 := l[0].toNat_lt
    have y1 := l[1].toNat_lt
    have y2 := l[2].toNat_lt
    have y3 := l[3].toNat_lt
    generalize l[0].toNat = z0 at q0 hE y0
    generalize l[1].toNat = z1 at q1 hE y1
    generalize l[2].toNat = z2 at q2 hE y2
    generalize l[3].toNat = z3 at q3 hE y3
    have HE := Lib.hid hE
    have h4' : (4 : Int) ≤ (n : Int) := by omega
    have i0 : 0 < n := by omega
    have i1 : (1 : Int) < (n : Int) := by omega
    have i2 : (2 : Int) < (n : Int) := by omega
    have i3 : (3 : Int) < (n : Int) := by omega
    have q0' : W.cell? ad = some (.int .u8 (z0 : Int)) := q0
    have q1' : W.cell? ⟨ad.block, ad.off + 1, none⟩ = some (.int .u8 (z1 : Int)) := by have h := q1; unfold Addr.add at h; rw [if_neg (by omega)] at h; exact h
    have q2' : W.cell? ⟨ad.block, ad.off + 2, none⟩ = some (.int .u8 (z2 : Int)) := by have h := q2; unfold Addr.add at h; rw [if_neg (by omega)] at h; exact h
    have q3' : W.cell? ⟨ad.block, ad.off + 3, none⟩ = some (.int .u8 (z3 : Int)) := by have h := q3; unfold Addr.add at h; rw [if_neg (by omega)] at h; exact h
    have hsub : n - 4 + 4 = n := by omega
    have HSUB := Lib.hid hsub
    clear hE hn hcell b0 b1 b2 b3 hsub
    go_enter Tryz.func31, Tryz.ntmps31
    go_wp2_with fail
    go_quiet (fail)
    rw [or_four z0 z1 z2 z3 y0 y1 y2 y3, ← HE.out]
    have hc4 : 4 ≤ c := by omega
    go_wp2_with fail
    all_goals go_ret
    all_goals refine .inl ⟨by omega, rfl, nq, _, rfl, ?_⟩
    · rw [if_pos rfl]
    · by_cases e : c = 4
      · rw [if_pos e]; first | rfl | (exfalso; omega)
      · rw [if_neg e]; first | (simp [Addr.add]; done) | (exfalso; omega)

/-- text: a text off what is left. -/
def TextOut (W : World) (po pr : Nat) (ok : Bool) (l : List UInt8) (e : Ending) (W' : World) : Prop :=
  ∃ W2 A m c, e = .returned (.string (strOf (cutR l).1)) ∧ Below W.heap.size W W2 ∧ OwnB W2 W.heap.size (.slice A m c) (if (cutR l).2.2 = 0 then l.drop (cutR l).2.1 else []) ∧ m = (if (cutR l).2.2 = 0 then l.drop (cutR l).2.1 else []).length ∧ m ≤ c ∧
    W' = (W2.setCell ⟨po, 0, none⟩ (.bool (ok && decide ((cutR l).2.2 = 0)))).setCell ⟨pr, 0, none⟩ (.slice A m c)

set_option maxRecDepth 100000 in
set_option maxHeartbeats 800000 in
theorem text_any (po pr : Nat) (hne : po ≠ pr) (ok : Bool) (A : Option Addr) (n c : Nat) (l : List UInt8) (hn : l.length = n) (hnc : n ≤ c) (W : World) (hO : OneAt W po (.bool ok)) (hR : OneAt W pr (.slice A n c)) (hS : Sees W W.heap.size A (bv l)) (hlen : n ≤ 1000000) (hpo : po < W.heap.size) (hpr : pr < W.heap.size) :
    Calls Tryz.prog 32 #[.pointer (some ⟨pr, 0, none⟩), .pointer (some ⟨po, 0, none⟩)] W (TextOut W po pr ok l) := by
  have hC := Lib.hid (Cut_any A n c l hn hnc W hS (by omega))
  obtain ⟨t, k, er, hcr⟩ : ∃ t k er, cutR l = (t, k, er) := ⟨_, _, _, rfl⟩
  rw [hcr] at hC
  have HCR := Lib.hid hcr
  have hO' := fun W2 (hb : Below W.heap.size W W2) => hO.below hb hpo
  have hR' := fun W2 (hb : Below W.heap.size W W2) => hR.below hb hpr
  have HO' := Lib.hid hO'
  have HR' := Lib.hid hR'
  obtain ⟨oc, of⟩ := hO
  obtain ⟨rc, rf⟩ := hR
  clear hcr hO' hR' hn
  go_enter Tryz.func32, Tryz.ntmps32
  go_wp2_with fail
  refine hC.out.mono ?_
  rintro en W2 ⟨v, rfl, hown, hb⟩
  simp only at hown
  obtain ⟨L2, hL2⟩ : ∃ L2, (if er = 0 then l.drop k else []) = L2 := ⟨_, rfl⟩
  rw [hL2] at hown
  obtain ⟨A2, c2, rfl, hc2, -, hown', -⟩ := hown.open_
  obtain ⟨m, hm⟩ : ∃ m, L2.length = m := ⟨_, rfl⟩
  rw [hm] at hown' hc2
  simp only [hm]
  have HF : Hid (∀ b W', b = (ok && decide (er = 0)) → W' = (W2.setCell ⟨po, 0, none⟩ (.bool b)).setCell ⟨pr, 0, none⟩ (.slice A2 m c2) → TextOut W po pr ok l (.returned (.string (strOf t))) W') := fun b W' hb1 hb2 =>
    ⟨W2, A2, m, c2, by rw [HCR.out], hb, by rw [HCR.out]; show OwnB _ _ _ (if er = 0 then l.drop k else []); rw [hL2]; exact hown', by rw [HCR.out]; show m = (if er = 0 then l.drop k else []).length; rw [hL2]; exact hm.symm, hc2, by rw [HCR.out, hb2, hb1]⟩
  have HR2 := fun b => Lib.hid ((HR'.out W2 hb).set_ne (p := ⟨po, 0, none⟩) hne (.bool b))
  clear hC hown hm hL2 hown' hc2
  obtain ⟨oc2, of2⟩ := HO'.out W2 hb
  clear oc of rc rf
  cases ok with
  | false =>
    obtain ⟨rc2, rf2⟩ := (HR2 false).out
    go_wp2
    go_ret
    exact HF.out _ _ rfl rfl
  | true =>
    by_cases he : er = 0
    · obtain ⟨rc2, rf2⟩ := (HR2 true).out
      have HE := Lib.hid he
      have he' : ((er : Int) == 0) = true := by rw [he]; rfl
      clear he
      go_wp2
      go_ret
      exact HF.out _ _ (by rw [HE.out]; rfl) rfl
    · obtain ⟨rc2, rf2⟩ := (HR2 false).out
      have he' : ((er : Int) == 0) = false := by rw [beq_eq_false_iff_ne]; omega
      have HE := Lib.hid he
      clear he
      go_wp2
      go_ret
      exact HF.out _ _ (by rw [decide_eq_false HE.out]; rfl) rfl

/-- all: the labels of bytes. -/
def AllOut (W : World) (po : Nat) (ok : Bool) (b : List UInt8) (e : Ending) (W' : World) : Prop :=
  ∃ W2 v, e = .returned v ∧ Below W.heap.size W W2 ∧
    (((parse b).2 = 0 ∧ MayL (parse b).1 ∧ sortN (parse b).1 = (parse b).1 ∧ OwnL W2 W.heap.size v (parse b).1 ∧ W' = W2.setCell ⟨po, 0, none⟩ (.bool ok)) ∨
     (¬ ((parse b).2 = 0 ∧ MayL (parse b).1 ∧ sortN (parse b).1 = (parse b).1) ∧ v = .slice none 0 0 ∧ W' = W2.setCell ⟨po, 0, none⟩ (.bool false)))
theorem parse_err {b : List UInt8} {k : Nat} (h : (parse b).2 ≠ 0) (e : k = (parse b).2) : (0 : Int) < (k : Int) := by omega

set_option maxRecDepth 100000 in
set_option maxHeartbeats 800000 in
theorem all_any (po : Nat) (ok : Bool) (A : Option Addr) (n c : Nat) (l : List UInt8) (hn : l.length = n) (hnc : n ≤ c) (W : World) (hO : OneAt W po (.bool ok)) (hS : Sees W W.heap.size A (bv l)) (hlen : n ≤ 1000000) (hpo : po < W.heap.size) :
    Calls Tryz.prog 34 #[.slice A n c, .pointer (some ⟨po, 0, none⟩)] W (AllOut W po ok l) := by
  have hC := Lib.hid (Unmarshal_any A n c l hn hnc W hS (by omega))
  have HO' := Lib.hid (fun W2 (hb : Below W.heap.size W W2) => hO.below hb hpo)
  obtain ⟨oc, of⟩ := hO
  clear hn
  go_enter Tryz.func34, Tryz.ntmps34
  go_wp2_with fail
  refine hC.out.mono ?_
  rintro en W2 ⟨v, k, rfl, hb, hres⟩
  obtain ⟨oc2, of2⟩ := HO'.out W2 hb
  clear hC oc of
  rcases hres with ⟨r1, r2, r3, rfl, hown⟩ | ⟨r1, r2, rfl, rfl⟩ | ⟨r1, r2, rfl⟩
  · have R := Lib.hid (And.intro r1 (And.intro r2 (And.intro r3 hown)))
    clear r1 r2 r3 hown
    cases ok <;> (go_wp2; go_ret; exact ⟨W2, v, rfl, hb, .inl ⟨R.out.1, R.out.2.1, R.out.2.2.1, R.out.2.2.2, rfl⟩⟩)
  · have R : Hid (¬ ((parse l).2 = 0 ∧ MayL (parse l).1 ∧ sortN (parse l).1 = (parse l).1)) := fun h => r2 h.2
    clear r1 r2
    cases ok <;> (go_wp2; go_ret; exact ⟨W2, _, rfl, hb, .inr ⟨R.out, rfl, rfl⟩⟩)
  · have R : Hid (¬ ((parse l).2 = 0 ∧ MayL (parse l).1 ∧ sortN (parse l).1 = (parse l).1)) := fun h => r1 h.1
    have hk : ((k : Int) == 0) = false := by rw [beq_eq_false_iff_ne]; have := parse_err r1 r2; omega
    clear r1 r2
    cases ok <;> (go_wp2; go_ret; exact ⟨W2, _, rfl, hb, .inr ⟨R.out, rfl, rfl⟩⟩)
end Go.Proofs.YtpjiioeodcinpaaGreatDoor
