/-
  frame.Next where the lengths fit: the sum decides.
-/
import Derived.Test.YtbnjcdjgambnhaaDoorFrNext
import Derived.Deep.RegionWith
namespace Go.Proofs.YtbnjcdjgambnhaaDoor
open Go.RowKit

theorem own_at {w : World} {base : Nat} {A : Option Addr} {n c : Nat} {l : List UInt8} (h : OwnB w base (.slice A n c) l) (hl : 0 < l.length) : ∃ g, A = some ⟨g, 0, none⟩ ∧ base ≤ g ∧ g < w.heap.size := by
  rcases h.2 with ⟨_, hn⟩ | ⟨g, cap, cur, hv, hb, hh, _⟩
  · omega
  · injection hv with hv
    exact ⟨g, hv, hb, (Array.getElem?_eq_some_iff.1 hh).1⟩

/-- Bytes in new memory that may be written. -/
structure Mine (w : World) (base : Nat) (A : Option Addr) (l : List UInt8) : Prop where
  out : l = [] ∨ ∃ g o, A = some ⟨g, o, none⟩ ∧ base ≤ g ∧ ∀ (j : Nat) (hj : j < l.length), w.cell? ⟨g, o + j, none⟩ = some (.int .u8 ((l[j]).toNat : Int)) ∧ w.frozen? ⟨g, o + j, none⟩ = false
/-- What Next gives: the kind, the body, what lies behind it, the error. -/
def NextIs (w : World) (r : Nat × List UInt8 × List UInt8 × Nat) (en : Ending) (w' : World) : Prop :=
  ∃ A n c v, en = .returned (.tuple #[.int .i64 (r.1 : Int), .slice A n c, v, .int .i64 (r.2.2.2 : Int)]) ∧ r.2.1.length = n ∧ n ≤ c ∧ Mine w' w.heap.size A r.2.1 ∧ OwnB w' w.heap.size v r.2.2.1 ∧ Below w.heap.size w w'

def nextR (q : Bool) (k0 : UInt8) (x : Nat) (left : List UInt8) : Nat × List UInt8 × List UInt8 × Nat := if q then (k0.toNat, left.take x, left.drop (x + 4), 0) else (0, [], [], 50)

/-- But for the four results' cells nothing has turned. -/
structure But4 (a w : World) (H : Nat) : Prop where
  os : w.os = a.os
  tape : w.tape = a.tape
  output : w.output = a.output
  size : a.heap.size ≤ w.heap.size
  block : ∀ k, k < a.heap.size → (k < H ∨ H + 1 + 1 + 1 < k) → w.heap[k]? = a.heap[k]?
theorem below_drewN {B : Nat} {a w : World} (h : Below B a w) (n : Nat) : Below B a (w.drewN n) := ⟨h.os, h.tape, h.output, h.size, h.block⟩
section
variable {a w w' : World} {H : Nat}
theorem But4.refl (a : World) (H : Nat) : But4 a a H := ⟨rfl, rfl, rfl, Nat.le_refl _, fun _ _ _ => rfl⟩
theorem But4.drew (h : But4 a w H) : But4 a w.drew H := ⟨h.os, h.tape, h.output, h.size, h.block⟩
theorem But4.setCell (h : But4 a w H) {p : Addr} (v : Value) (h1 : H ≤ p.block) (h2 : p.block ≤ H + 1 + 1 + 1) : But4 a (w.setCell p v) H :=
  ⟨h.os, h.tape, h.output, by simpa [World.setCell] using h.size, fun k hk hne => (Below.heap_setCell w p v k (by omega)).trans (h.block k hk hne)⟩
theorem But4.below (h : But4 a w H) (hb : Below w.heap.size w w') : But4 a w' H :=
  ⟨hb.os.trans h.os, hb.tape.trans h.tape, hb.output.trans h.output, Nat.le_trans h.size hb.size, fun k hk hne => (hb.block k (Nat.lt_of_lt_of_le hk h.size)).trans (h.block k hk hne)⟩
theorem But4.to_below (h : But4 a w H) (hH : H ≤ a.heap.size) : Below H a w := ⟨h.os, h.tape, h.output, h.size, fun k hk => h.block k (by omega) (.inl hk)⟩
theorem But4.sees (h : But4 a w H) {A : Option Addr} {xs : List Value} (hs : Sees a a.heap.size A xs) (hA : ∀ ad, A = some ad → ad.block < H ∨ H + 1 + 1 + 1 < ad.block) : Sees w w.heap.size A xs := by
  rcases hs.out with hs | ⟨ad, e, hb, hc⟩
  · exact ⟨.inl hs⟩
  · exact ⟨.inr ⟨ad, e, Nat.lt_of_lt_of_le hb h.size, fun j u hu => (World.cell?_of_block (h.block _ (by rw [add_block]; exact hb) (by rw [add_block]; exact hA ad e))).trans (hc j u hu)⟩⟩
end

theorem mine_of {w1 W : World} {base H g n c b : Nat} {l : List UInt8} (hown : OwnB w1 base (.slice (some ⟨g, 0, none⟩) n c) l) (k : Nat) (hbut : But4 w1 W H) (hg : H + 1 + 1 + 1 < g) (hb : b ≤ g) :
    Mine W b (some ⟨g, 0, none⟩) (l.take k) := by
  rcases hown.2 with ⟨hv, _⟩ | ⟨g', cap, cur, hv, _, hh, _, _, _, _⟩
  · cases hv
  · refine ⟨.inr ?_⟩
    injection hv with h1 h2 h3
    injection h1 with h1
    injection h1 with h1
    subst h1
    subst h2
    refine ⟨g, 0, rfl, hb, fun j hj => ?_⟩
    have hlt : g < w1.heap.size := (Array.getElem?_eq_some_iff.1 hh).1
    have hblk := hbut.block g hlt (.inr hg)
    have hj' : j < l.length := by rw [List.length_take] at hj; omega
    have hc := World.ownsRow.cellAt hown j (by omega)
    have hf := World.ownsRow.frozenAt hown j
    rw [Nat.zero_add]
    refine ⟨(World.cell?_of_block (a := ⟨g, j, none⟩) hblk).trans (hc.trans ?_), (World.frozen?_of_block (a := ⟨g, j, none⟩) hblk).trans hf⟩
    rw [bv_at l j hj', List.getElem_take]

/-- The end of Next where all is well. -/
theorem door_ok (H : Nat) (v0 v1 v2 : Value) (W : World) (hF : FourAt W H v0 v1 v2 (.int .i64 0)) (a : Act) (R : Ending → World → Prop)
    (hd : a.defers = [{ target := Target.fn (Fn.func 19) #[.pointer (some ⟨H + 1 + 1 + 1, 0, none⟩), .pointer (some ⟨H, 0, none⟩), .pointer (some ⟨H + 1, 0, none⟩), .pointer (some ⟨H + 1 + 1, 0, none⟩)], args := #[] }])
    (t2 : a.tmps.getD 2 undef = .pointer (some ⟨H, 0, none⟩)) (t3 : a.tmps.getD 3 undef = .pointer (some ⟨H + 1, 0, none⟩)) (t4 : a.tmps.getD 4 undef = .pointer (some ⟨H + 1 + 1, 0, none⟩)) (t5 : a.tmps.getD 5 undef = .pointer (some ⟨H + 1 + 1 + 1, 0, none⟩))
    (hR : R (.returned (.tuple #[v0, v1, v2, .int .i64 0])) W) :
    bodyPostD Tryd.prog Tryd.f14 R Exit.ret a W := by
  obtain ⟨tmps, ds⟩ := a
  simp only at hd t2 t3 t4 t5
  subst hd
  obtain ⟨c0, c1, c2, c3, f0, f1, f2, _⟩ := hF
  refine leaves_cons (f := 19) (args := #[.pointer (some ⟨H + 1 + 1 + 1, 0, none⟩), .pointer (some ⟨H, 0, none⟩), .pointer (some ⟨H + 1, 0, none⟩), .pointer (some ⟨H + 1 + 1, 0, none⟩)]) (by simp) (by simp [go_sem]) ?_
  refine (next1_ok _ _ _ _ .returning W c3).mono ?_
  rintro e u' w'' ⟨rfl, rfl, rfl⟩
  have t2' : tmps[2]?.getD undef = _ := (by simp : tmps[2]?.getD undef = tmps.getD 2 undef).trans t2
  have t3' : tmps[3]?.getD undef = _ := (by simp : tmps[3]?.getD undef = tmps.getD 3 undef).trans t3
  have t4' : tmps[4]?.getD undef = _ := (by simp : tmps[4]?.getD undef = tmps.getD 4 undef).trans t4
  have t5' : tmps[5]?.getD undef = _ := (by simp : tmps[5]?.getD undef = tmps.getD 5 undef).trans t5
  simp [Leaves, settle, results, Tryd.results14, t2', t3', t4', t5', go_sem, c0, c1, c2, c3]
  exact hR

set_option maxRecDepth 100000 in
set_option maxHeartbeats 800000 in
theorem Next_sum (q : Bool) (N : Nat) (ad : Addr) (n c : Nat) (w : World) (hn5 : 5 ≤ n) (hcn : n ≤ c) (hlen : n ≤ 1099511627776) (x : Nat) (hx : x ≤ 65535) (left : List UInt8) (hll : x + 4 ≤ left.length) (hln : left.length < n) (b : List UInt8) (hbn : b.length = n) (hSb : Sees w w.heap.size (some ad) (bv b)) (hH : Halves w) (k0 : UInt8) (hcell : w.cell? ad = some (.int .u8 (k0.toNat : Int)))
    (hN : N + left.length = n + (x + 4)) (HQ : Hid ((sealB (b.take (N - 4)) == b.take N) = q))
    (HT : ∀ A' c', Tail1 (some ad) c A' c' → Calls Tryd.prog 20 #[.slice A' (n - 1) c'] (W4 w) (Ret1B (W4 w) (x : Int) .u64 left 0)) :
    Calls Tryd.prog 14 #[.slice (some ad) n c] w (NextIs w (nextR q k0 x left)) := by
  have HN := Lib.hid hN
  have hc1 : ¬ c = 1 := by omega
  have hN5 : 5 ≤ N := by omega
  have hNn : N ≤ n := by omega
  clear hN
  have hnot : ∀ (x : Bool) (w : World), (Op.unary .not (.bool x)).run Tryd.prog w = .ok (.bool (!x)) w := fun _ _ => rfl
  have hmf : ∀ (fn : Fn) (first cap : Array Value) (w : World), (Instr.makeFunc fn first cap).run Tryd.prog w = .ok (.func fn first cap) w := fun _ _ _ _ => rfl
  have HT' := Lib.hid HT
  clear HT
  go_enter_defers Tryd.func14, Tryd.ntmps14
  go_wp2_with fail
  all_goals
    refine (HT'.out _ _ (by first | exact .inl ⟨by assumption, rfl, rfl⟩ | exact .inr ⟨rfl, rfl⟩)).mono ?_
    rintro e w1 ⟨v1, rfl, hown, hb⟩
    obtain ⟨A1, c1, rfl, hcl, hcm, -, hsee1⟩ := hown.open_
    obtain ⟨g, hA1, hg1, hg2⟩ := own_at hown (by omega)
    subst hA1
    have hF := (FourAt.new w _ rfl _ _ _ _ _ _ _ _).below hb (by simp)
    have hb0 := (W4.below w).trans (hb.mono (W4.below w).size)
    have hF' := hF
    obtain ⟨c0, c1', c2, c3, f0, f1, f2, f3⟩ := hF
    have hz : w.heap.size + 1 + 1 + 1 < w1.heap.size := by have := hb.size; simp at this; omega
    have hadb : ad.block < w.heap.size := World.block_lt_of_cell? w ad hcell
    have hcell1 : w1.cell? ad = some (.int .u8 (k0.toNat : Int)) := (hb0.cell hadb).trans hcell
    have hk256 : (k0.toNat : Int) < 256 := by have := k0.toNat_lt; omega
    have hne0 : (⟨w.heap.size, 0, none⟩ : Addr) ≠ ad := by rintro rfl; simp at hadb
    have hne1 : (⟨w.heap.size + 1, 0, none⟩ : Addr) ≠ ad := by rintro rfl; simp at hadb; omega
    have hne2 : (⟨w.heap.size + 1 + 1, 0, none⟩ : Addr) ≠ ad := by rintro rfl; simp at hadb; omega
    have hne3 : (⟨w.heap.size + 1 + 1 + 1, 0, none⟩ : Addr) ≠ ad := by rintro rfl; simp at hadb; omega
    have hB0 : But4 w1 (w1.setCell ⟨w.heap.size + 1 + 1 + 1, 0, none⟩ (.int .i64 0)) w.heap.size := (But4.refl _ _).setCell _ (by simp; omega) (by simp)
    go_upto_region 11 with fail
    go_cut [34] from 10 to 39 (fun _ wx => ∃ AR cR, FourAt wx w.heap.size (.int .i64 0) (.slice (some ⟨g, 0, none⟩) x x) (.slice AR (left.length - (x + 4)) cR) (.int .i64 0) ∧ But4 w1 wx w.heap.size ∧ Sees w1 w1.heap.size AR (bv (left.drop (x + 4))) ∧ ∀ a' : Addr, AR = some a' → w.heap.size + 1 + 1 + 1 < a'.block)
    case first =>
      have hS1 : Sees w1 w1.heap.size (some ⟨g, x + 4, none⟩) (bv (left.drop (x + 4))) := by
        have := hsee1.cut' (x + 4)
        rw [← bv_drop] at this
        simpa [Addr.add_lit] using this
      by_cases hcx : c1 = x + 4
      · have hnil : left.drop (x + 4) = [] := List.drop_eq_nil_of_le (by omega)
        have hN := Lib.hid hnil
        clear hnil
        go_region
        go_wp2_with fail
        go_meet
        exact ⟨_, _, (by repeat (first | with_reducible exact hF' | with_reducible apply FourAt.drew | with_reducible apply FourAt.set0 | with_reducible apply FourAt.set1 | with_reducible apply FourAt.set2 | with_reducible apply FourAt.set3)), (by repeat (first | with_reducible exact But4.refl _ _ | with_reducible apply But4.drew | (with_reducible refine But4.setCell ?_ _ ?_ ?_; rotate_left; (simp only []; omega); (simp only []; omega)))), ⟨.inl (by rw [hN.out]; rfl)⟩, by intro a' e'; cases e'; have := hg1; simp only [W4.size] at this; simp only []; omega⟩
      · go_region
        go_wp2_with fail
        go_meet
        exact ⟨_, _, (by repeat (first | with_reducible exact hF' | with_reducible apply FourAt.drew | with_reducible apply FourAt.set0 | with_reducible apply FourAt.set1 | with_reducible apply FourAt.set2 | with_reducible apply FourAt.set3)), (by repeat (first | with_reducible exact But4.refl _ _ | with_reducible apply But4.drew | (with_reducible refine But4.setCell ?_ _ ?_ ?_; rotate_left; (simp only []; omega); (simp only []; omega)))), hS1, by intro a' e'; cases e'; have := hg1; simp only [W4.size] at this; simp only []; omega⟩
    case rest =>
      obtain ⟨AR, cR, hF4, hB4, hSR, hAR⟩ := hcut
      have hbc : Below w.heap.size w wc := hb0.trans (hB4.to_below (by omega))
      have hcellc : wc.cell? ad = some (.int .u8 (k0.toNat : Int)) := (hbc.cell hadb).trans hcell
      have hF4' := hF4
      obtain ⟨d0, d1, d2, d3, g0, g1, g2, g3⟩ := hF4
      clear c0 c1' c2 c3 f0 f1 f2 f3
      have eN : (n : Int) - ((left.length - (x + 4) : Nat) : Int) = (N : Int) := by have := HN.out; omega
      have hBb := Lib.hid hbn
      clear hbn
      go_upto_region 14 with fail
      have hF5 := hF4'.set0 (.int .i64 (k0.toNat : Int))
      have hB5 : But4 w1 (wc.setCell ⟨w.heap.size, 0, none⟩ (.int .i64 (k0.toNat : Int))) w.heap.size := hB4.setCell _ (by simp) (by simp; omega)
      generalize wc.setCell ⟨w.heap.size, 0, none⟩ (.int .i64 (k0.toNat : Int)) = W5 at hF5 hB5
      have hb5 : Below w.heap.size w W5 := hb0.trans (hB5.to_below (by omega))
      have hsb5 := (hSb.below hb5).more hb5.size
      have hH5 := hH.below hb5 hH.1
      go_cut [59] from 40 to 59 (fun t wx => t = .bool (!q) ∧ But4 w1 wx w.heap.size ∧ Below W5.heap.size W5 wx)
      case first =>
        have hl1 := Lib.hid (show (b.take (N - 4)).length = N - 4 by have := hBb.out; simp; omega)
        have hl2 := Lib.hid (show (b.take N).length = N by have := hBb.out; simp; omega)
        have k0' : (0 : Int) ≤ (N : Int) - 4 := by omega
        have k1 : (N : Int) - 4 ≤ (c : Int) := by omega
        have k2 : (N : Int) ≤ (c : Int) := by omega
        have k3 : IntKind.i64.wrap ((N : Int) - 4) = (N : Int) - 4 := by rw [IntKind.wrap_i64]; omega
        have k4 : ((N : Int) - 4).toNat = N - 4 := by omega
        have k5 : (4 : Int) ≤ (N : Int) := by omega
        have k6 : (N : Int) ≤ (c : Int) + 4 := by omega
        clear eN
        go_region_held3 (fun _ => True) (trivial)
          (first
            | (go_at_call 22; refine (clone_any _ _ _ (b.take (N - 4)) hl1.out _ (by rw [bv_take]; exact hsb5.drew.take _) (by rw [hl1.out]; omega)).mono ?_; rintro e w2 ⟨v2, rfl, hown2, hon2⟩; have hb2 : Below W5.heap.size W5 w2 := ((Below.refl W5.heap.size W5).drew).trans hon2.below_nil)
            | (go_at_call 16; refine (seal_any W5.heap.size v2 (b.take (N - 4)) w2 hown2 hb2.size (hH5.below hb2 hH5.1) (by rw [hl1.out]; omega)).mono ?_; rintro e w3 ⟨v3, rfl, hown3, hon3⟩; have hb3 : Below W5.heap.size W5 w3 := hb2.trans (hon3.below hb2.size hown2.block); obtain ⟨A3, c3, rfl, -, -, -, hsee3⟩ := hown3.open_)
            | (go_at_call 21; refine (equal_any A3 (some ad) _ N c3 c (sealB (b.take (N - 4))) (b.take N) rfl hl2.out w3 hsee3 (by rw [bv_take]; exact (hsb5.below hb3).more hb3.size |>.take _) (by rw [sealB_len, hl1.out]; omega)).mono ?_; rintro e w4 ⟨he4, k4', rfl⟩; rw [HQ.out] at he4; subst he4))
        all_goals
          go_wp2_with fail
          go_meet
          exact ⟨(by first | rfl | simp [*]), hB5.below (hb3.trans (below_drewN (Below.refl W5.heap.size w3) k4')), (hb3.trans (below_drewN (Below.refl W5.heap.size w3) k4'))⟩
      case rest =>
        obtain ⟨rfl, hB6, hb6⟩ := hcut
        have hF6 := hF5.below hb6 (by have := hB5.size; omega)
        have hb06 : Below w.heap.size w wc := hb0.trans (hB6.to_below (by omega))
        have hsR := hB6.sees hSR (fun a' e' => .inr (hAR a' e'))
        have hll2 := Lib.hid (show (left.drop (x + 4)).length = left.length - (x + 4) by simp)
        clear d0 d1 d2 d3 g0 g1 g2 g3 hcellc hbc hB4 hF4' hF5 hb6 eN
        have hF6' := hF6
        obtain ⟨d0, d1, d2, d3, g0, g1, g2, g3⟩ := hF6
        cases q
        · go_upto_region 16 with fail
          have hF7 := hF6'.set3 (.int .i64 50)
          have hB7 : But4 w1 (wc.setCell ⟨w.heap.size + 1 + 1 + 1, 0, none⟩ (.int .i64 50)) w.heap.size := hB6.setCell _ (by simp; omega) (by simp)
          generalize wc.setCell ⟨w.heap.size + 1 + 1 + 1, 0, none⟩ (.int .i64 50) = W7 at hF7 hB7
          have hsR7 := hB7.sees hSR (fun a' e' => .inr (hAR a' e'))
          have hb07 : Below w.heap.size w W7 := hb0.trans (hB7.to_below (by omega))
          refine wp_region_noPanic ?_
          refine wp_region_held_drew (S := fun w' => w'.cell? ⟨w.heap.size, 0, none⟩ = some (.int .i64 (k0.toNat : Int)) ∧ w'.cell? ⟨w.heap.size + 1, 0, none⟩ = some (.slice (some ⟨g, 0, none⟩) x x) ∧ w'.cell? ⟨w.heap.size + 1 + 1 + 1, 0, none⟩ = some (.int .i64 50) ∧ w'.frozen? ⟨w.heap.size, 0, none⟩ = false ∧ w'.frozen? ⟨w.heap.size + 1, 0, none⟩ = false ∧ w'.frozen? ⟨w.heap.size + 1 + 1, 0, none⟩ = false ∧ w'.frozen? ⟨w.heap.size + 1 + 1 + 1, 0, none⟩ = false) (by kernel_rfl) ⟨hF7.c0, hF7.c1, hF7.c3, hF7.f0, hF7.f1, hF7.f2, hF7.f3⟩ (fun hHeld => ?_)
          refine wpAnyH_take (i := 0) (v := .int .i64 (k0.toNat : Int)) rfl (by kernel_rfl) (by kernel_rfl) (by kernel_rfl) (fun _ _ _ h => h) (Or.inl ⟨by rfl, ?_⟩) hHeld ?_
          · intro w' hSw
            obtain ⟨s0, s1, s3, s4, s5, s6, s7⟩ := hSw
            go_simp
          simp only [Act.put, List.setIfInBounds_toArray]
          refine wpAnyH_take (i := 1) (v := .slice (some ⟨g, 0, none⟩) x x) rfl (by kernel_rfl) (by kernel_rfl) (by kernel_rfl) (fun _ _ _ h => h) (Or.inl ⟨by rfl, ?_⟩) hHeld ?_
          · intro w' hSw
            obtain ⟨s0, s1, s3, s4, s5, s6, s7⟩ := hSw
            go_simp
          simp only [Act.put]
          refine wpAnyH_take (i := 4) (v := .int .i64 50) rfl (by kernel_rfl) (by kernel_rfl) (by kernel_rfl) (fun _ _ _ h => h) (Or.inl ⟨by rfl, ?_⟩) hHeld ?_
          · intro w' hSw
            obtain ⟨s0, s1, s3, s4, s5, s6, s7⟩ := hSw
            go_simp
          simp only [Act.put]
          refine wpAnyH_ready (rs := [2]) (by kernel_rfl) (by simp) ?_
          refine AllReadyH.cons rfl (fun K hK => ?_) AllReadyH.nil
          have e2 := hF7.c2
          go_simp
          refine hK.out _ _ ⟨hF7.drew.c0, hF7.drew.c1, hF7.drew.c3, hF7.drew.f0, hF7.drew.f1, hF7.drew.f2, hF7.drew.f3⟩ (fun hHeld => ?_)
          clear hK K
          try simp only [Act.put, List.setIfInBounds_toArray, List.set_cons_zero, List.set_cons_succ]
          refine wpAnyH_ready (rs := [3]) (by kernel_rfl) (by simp) ?_
          refine AllReadyH.cons rfl (fun K hK => ?_) AllReadyH.nil
          go_simp
          refine (clone_any AR _ cR (left.drop (x + 4)) hll2.out _ hsR7.drew (by rw [hll2.out]; omega)).mono ?_
          rintro e w8 ⟨v8, rfl, hown8, hon8⟩
          have hb8 : Below W7.heap.size W7 w8 := ((Below.refl W7.heap.size W7).drew).trans hon8.below_nil
          have hF8 := hF7.below hb8 (by have := hB7.size; omega)
          obtain ⟨A8, c8, rfl, -, -, hown8', -⟩ := hown8.open_
          rw [hll2.out] at hown8'
          clear hown8
          have hB8 := hB7.below hb8
          have hF8' := hF8
          obtain ⟨p0, p1, p2, p3, q0, q1, q2, q3⟩ := hF8'
          go_simp
          refine hK.out _ _ ⟨hF8.c0, hF8.c1, hF8.c3, hF8.f0, hF8.f1, hF8.f2, hF8.f3⟩ (fun hHeld => ?_)
          clear hK K
          try simp only [Act.put, List.setIfInBounds_toArray, List.set_cons_zero, List.set_cons_succ]
          refine wpAnyH_ready (rs := [5]) (by kernel_rfl) (by simp) ?_
          refine AllReadyH.cons rfl (fun K hK => ?_) AllReadyH.nil
          go_simp
          have hF9 := hF8.set0 (.int .i64 (k0.toNat : Int))
          refine hK.out _ _ ⟨hF9.c0, hF9.c1, hF9.c3, hF9.f0, hF9.f1, hF9.f2, hF9.f3⟩ (fun hHeld => ?_)
          clear hK K
          try simp only [Act.put, List.setIfInBounds_toArray, List.set_cons_zero, List.set_cons_succ]
          refine wpAnyH_ready (rs := [6]) (by kernel_rfl) (by simp) ?_
          refine AllReadyH.cons rfl (fun K hK => ?_) AllReadyH.nil
          go_simp
          have hF10 := hF9.set1 (.slice (some ⟨g, 0, none⟩) x x)
          refine hK.out _ _ ⟨hF10.c0, hF10.c1, hF10.c3, hF10.f0, hF10.f1, hF10.f2, hF10.f3⟩ (fun hHeld => ?_)
          clear hK K
          try simp only [Act.put, List.setIfInBounds_toArray, List.set_cons_zero, List.set_cons_succ]
          refine wpAnyH_ready (rs := [7]) (by kernel_rfl) (by simp) ?_
          refine AllReadyH.cons rfl (fun K hK => ?_) AllReadyH.nil
          go_simp
          have hF11 := hF10.set2 (.slice A8 (left.length - (x + 4)) c8)
          refine hK.out _ _ ⟨hF11.c0, hF11.c1, hF11.c3, hF11.f0, hF11.f1, hF11.f2, hF11.f3⟩ (fun hHeld => ?_)
          clear hK K
          try simp only [Act.put, List.setIfInBounds_toArray, List.set_cons_zero, List.set_cons_succ]
          refine wpAnyH_ready (rs := [8]) (by kernel_rfl) (by simp) ?_
          refine AllReadyH.cons rfl (fun K hK => ?_) AllReadyH.nil
          go_simp
          have hF12 := hF11.set3 (.int .i64 50)
          refine hK.out _ _ ⟨hF12.c0, hF12.c1, hF12.c3, hF12.f0, hF12.f1, hF12.f2, hF12.f3⟩ (fun hHeld => ?_)
          clear hK K
          try simp only [Act.put, List.setIfInBounds_toArray, List.set_cons_zero, List.set_cons_succ]
          refine wpAnyH_done (by kernel_rfl) ?_ _
          have hB12 := (((hB8.setCell (p := ⟨w.heap.size, 0, none⟩) (.int .i64 (k0.toNat : Int)) (by simp only []; omega) (by simp only []; omega)).setCell (p := ⟨w.heap.size + 1, 0, none⟩) (.slice (some ⟨g, 0, none⟩) x x) (by simp only []; omega) (by simp only []; omega)).setCell (p := ⟨w.heap.size + 1 + 1, 0, none⟩) (.slice A8 (left.length - (x + 4)) c8) (by simp only []; omega) (by simp only []; omega)).setCell (p := ⟨w.heap.size + 1 + 1 + 1, 0, none⟩) (.int .i64 50) (by simp only []; omega) (by simp only []; omega)
          have hO12 : OwnB _ w.heap.size _ _ := OwnB.base_le (ownsRow_setCell_below (ownsRow_setCell_below (ownsRow_setCell_below (ownsRow_setCell_below hown8' (a := ⟨w.heap.size, 0, none⟩) (by have := hB7.size; show _ < W7.heap.size; simp only []; omega) (.int .i64 (k0.toNat : Int))) (a := ⟨w.heap.size + 1, 0, none⟩) (by have := hB7.size; show _ < W7.heap.size; simp only []; omega) (.slice (some ⟨g, 0, none⟩) x x)) (a := ⟨w.heap.size + 1 + 1, 0, none⟩) (by have := hB7.size; show _ < W7.heap.size; simp only []; omega) (.slice A8 (left.length - (x + 4)) c8)) (a := ⟨w.heap.size + 1 + 1 + 1, 0, none⟩) (by have := hB7.size; show _ < W7.heap.size; simp only []; omega) (.int .i64 50)) (show w.heap.size ≤ W7.heap.size by have := hB7.size; omega)
          generalize (((w8.setCell ⟨w.heap.size, 0, none⟩ (.int .i64 (k0.toNat : Int))).setCell ⟨w.heap.size + 1, 0, none⟩ (.slice (some ⟨g, 0, none⟩) x x)).setCell ⟨w.heap.size + 1 + 1, 0, none⟩ (.slice A8 (left.length - (x + 4)) c8)).setCell ⟨w.heap.size + 1 + 1 + 1, 0, none⟩ (.int .i64 50) = W12 at hF12 hB12 hO12
          refine NoPanic.normal ?_
          have hb12 : Below w.heap.size w W12 := hb0.trans (hB12.to_below (by omega))
          go_wp2
          refine door_err w.heap.size 50 rfl _ _ _ _ hF12 _ _ rfl rfl rfl rfl rfl ?_
          exact fun W' hb' => ⟨_, _, _, _, rfl, rfl, Nat.le_refl _, ⟨.inl rfl⟩, OwnB.nil _ _, hb12.trans hb'⟩
        · go_upto_region 16 with fail
          have hF7 := hF6'
          have hB7 := hB6
          clear hF6' hB6
          generalize wc = W7 at hF7 hB7
          have hsR7 := hB7.sees hSR (fun a' e' => .inr (hAR a' e'))
          have hb07 : Below w.heap.size w W7 := hb0.trans (hB7.to_below (by omega))
          refine wp_region_noPanic ?_
          refine wp_region_held_drew (S := fun w' => w'.cell? ⟨w.heap.size, 0, none⟩ = some (.int .i64 (k0.toNat : Int)) ∧ w'.cell? ⟨w.heap.size + 1, 0, none⟩ = some (.slice (some ⟨g, 0, none⟩) x x) ∧ w'.cell? ⟨w.heap.size + 1 + 1 + 1, 0, none⟩ = some (.int .i64 0) ∧ w'.frozen? ⟨w.heap.size, 0, none⟩ = false ∧ w'.frozen? ⟨w.heap.size + 1, 0, none⟩ = false ∧ w'.frozen? ⟨w.heap.size + 1 + 1, 0, none⟩ = false ∧ w'.frozen? ⟨w.heap.size + 1 + 1 + 1, 0, none⟩ = false) (by kernel_rfl) ⟨hF7.c0, hF7.c1, hF7.c3, hF7.f0, hF7.f1, hF7.f2, hF7.f3⟩ (fun hHeld => ?_)
          refine wpAnyH_take (i := 0) (v := .int .i64 (k0.toNat : Int)) rfl (by kernel_rfl) (by kernel_rfl) (by kernel_rfl) (fun _ _ _ h => h) (Or.inl ⟨by rfl, ?_⟩) hHeld ?_
          · intro w' hSw
            obtain ⟨s0, s1, s3, s4, s5, s6, s7⟩ := hSw
            go_simp
          simp only [Act.put, List.setIfInBounds_toArray]
          refine wpAnyH_take (i := 1) (v := .slice (some ⟨g, 0, none⟩) x x) rfl (by kernel_rfl) (by kernel_rfl) (by kernel_rfl) (fun _ _ _ h => h) (Or.inl ⟨by rfl, ?_⟩) hHeld ?_
          · intro w' hSw
            obtain ⟨s0, s1, s3, s4, s5, s6, s7⟩ := hSw
            go_simp
          simp only [Act.put]
          refine wpAnyH_take (i := 4) (v := .int .i64 0) rfl (by kernel_rfl) (by kernel_rfl) (by kernel_rfl) (fun _ _ _ h => h) (Or.inl ⟨by rfl, ?_⟩) hHeld ?_
          · intro w' hSw
            obtain ⟨s0, s1, s3, s4, s5, s6, s7⟩ := hSw
            go_simp
          simp only [Act.put]
          refine wpAnyH_ready (rs := [2]) (by kernel_rfl) (by simp) ?_
          refine AllReadyH.cons rfl (fun K hK => ?_) AllReadyH.nil
          have e2 := hF7.c2
          go_simp
          refine hK.out _ _ ⟨hF7.drew.c0, hF7.drew.c1, hF7.drew.c3, hF7.drew.f0, hF7.drew.f1, hF7.drew.f2, hF7.drew.f3⟩ (fun hHeld => ?_)
          clear hK K
          try simp only [Act.put, List.setIfInBounds_toArray, List.set_cons_zero, List.set_cons_succ]
          refine wpAnyH_ready (rs := [3]) (by kernel_rfl) (by simp) ?_
          refine AllReadyH.cons rfl (fun K hK => ?_) AllReadyH.nil
          go_simp
          refine (clone_any AR _ cR (left.drop (x + 4)) hll2.out _ hsR7.drew (by rw [hll2.out]; omega)).mono ?_
          rintro e w8 ⟨v8, rfl, hown8, hon8⟩
          have hb8 : Below W7.heap.size W7 w8 := ((Below.refl W7.heap.size W7).drew).trans hon8.below_nil
          have hF8 := hF7.below hb8 (by have := hB7.size; omega)
          obtain ⟨A8, c8, rfl, -, -, hown8', -⟩ := hown8.open_
          rw [hll2.out] at hown8'
          clear hown8
          have hB8 := hB7.below hb8
          have hF8' := hF8
          obtain ⟨p0, p1, p2, p3, q0, q1, q2, q3⟩ := hF8'
          go_simp
          refine hK.out _ _ ⟨hF8.c0, hF8.c1, hF8.c3, hF8.f0, hF8.f1, hF8.f2, hF8.f3⟩ (fun hHeld => ?_)
          clear hK K
          try simp only [Act.put, List.setIfInBounds_toArray, List.set_cons_zero, List.set_cons_succ]
          refine wpAnyH_ready (rs := [5]) (by kernel_rfl) (by simp) ?_
          refine AllReadyH.cons rfl (fun K hK => ?_) AllReadyH.nil
          go_simp
          have hF9 := hF8.set0 (.int .i64 (k0.toNat : Int))
          refine hK.out _ _ ⟨hF9.c0, hF9.c1, hF9.c3, hF9.f0, hF9.f1, hF9.f2, hF9.f3⟩ (fun hHeld => ?_)
          clear hK K
          try simp only [Act.put, List.setIfInBounds_toArray, List.set_cons_zero, List.set_cons_succ]
          refine wpAnyH_ready (rs := [6]) (by kernel_rfl) (by simp) ?_
          refine AllReadyH.cons rfl (fun K hK => ?_) AllReadyH.nil
          go_simp
          have hF10 := hF9.set1 (.slice (some ⟨g, 0, none⟩) x x)
          refine hK.out _ _ ⟨hF10.c0, hF10.c1, hF10.c3, hF10.f0, hF10.f1, hF10.f2, hF10.f3⟩ (fun hHeld => ?_)
          clear hK K
          try simp only [Act.put, List.setIfInBounds_toArray, List.set_cons_zero, List.set_cons_succ]
          refine wpAnyH_ready (rs := [7]) (by kernel_rfl) (by simp) ?_
          refine AllReadyH.cons rfl (fun K hK => ?_) AllReadyH.nil
          go_simp
          have hF11 := hF10.set2 (.slice A8 (left.length - (x + 4)) c8)
          refine hK.out _ _ ⟨hF11.c0, hF11.c1, hF11.c3, hF11.f0, hF11.f1, hF11.f2, hF11.f3⟩ (fun hHeld => ?_)
          clear hK K
          try simp only [Act.put, List.setIfInBounds_toArray, List.set_cons_zero, List.set_cons_succ]
          refine wpAnyH_ready (rs := [8]) (by kernel_rfl) (by simp) ?_
          refine AllReadyH.cons rfl (fun K hK => ?_) AllReadyH.nil
          go_simp
          have hF12 := hF11.set3 (.int .i64 0)
          refine hK.out _ _ ⟨hF12.c0, hF12.c1, hF12.c3, hF12.f0, hF12.f1, hF12.f2, hF12.f3⟩ (fun hHeld => ?_)
          clear hK K
          try simp only [Act.put, List.setIfInBounds_toArray, List.set_cons_zero, List.set_cons_succ]
          refine wpAnyH_done (by kernel_rfl) ?_ _
          have hB12 := (((hB8.setCell (p := ⟨w.heap.size, 0, none⟩) (.int .i64 (k0.toNat : Int)) (by simp only []; omega) (by simp only []; omega)).setCell (p := ⟨w.heap.size + 1, 0, none⟩) (.slice (some ⟨g, 0, none⟩) x x) (by simp only []; omega) (by simp only []; omega)).setCell (p := ⟨w.heap.size + 1 + 1, 0, none⟩) (.slice A8 (left.length - (x + 4)) c8) (by simp only []; omega) (by simp only []; omega)).setCell (p := ⟨w.heap.size + 1 + 1 + 1, 0, none⟩) (.int .i64 0) (by simp only []; omega) (by simp only []; omega)
          have hO12 : OwnB _ w.heap.size _ _ := OwnB.base_le (ownsRow_setCell_below (ownsRow_setCell_below (ownsRow_setCell_below (ownsRow_setCell_below hown8' (a := ⟨w.heap.size, 0, none⟩) (by have := hB7.size; show _ < W7.heap.size; simp only []; omega) (.int .i64 (k0.toNat : Int))) (a := ⟨w.heap.size + 1, 0, none⟩) (by have := hB7.size; show _ < W7.heap.size; simp only []; omega) (.slice (some ⟨g, 0, none⟩) x x)) (a := ⟨w.heap.size + 1 + 1, 0, none⟩) (by have := hB7.size; show _ < W7.heap.size; simp only []; omega) (.slice A8 (left.length - (x + 4)) c8)) (a := ⟨w.heap.size + 1 + 1 + 1, 0, none⟩) (by have := hB7.size; show _ < W7.heap.size; simp only []; omega) (.int .i64 0)) (show w.heap.size ≤ W7.heap.size by have := hB7.size; omega)
          generalize (((w8.setCell ⟨w.heap.size, 0, none⟩ (.int .i64 (k0.toNat : Int))).setCell ⟨w.heap.size + 1, 0, none⟩ (.slice (some ⟨g, 0, none⟩) x x)).setCell ⟨w.heap.size + 1 + 1, 0, none⟩ (.slice A8 (left.length - (x + 4)) c8)).setCell ⟨w.heap.size + 1 + 1 + 1, 0, none⟩ (.int .i64 0) = W12 at hF12 hB12 hO12
          refine NoPanic.normal ?_
          have hb12 : Below w.heap.size w W12 := hb0.trans (hB12.to_below (by omega))
          go_wp2
          refine door_ok w.heap.size _ _ _ _ hF12 _ _ rfl rfl rfl rfl rfl ?_
          exact ⟨_, _, _, _, rfl, (show (left.take x).length = x by rw [List.length_take]; omega), Nat.le_refl _, mine_of hown x hB12 (by have := hg1; simp only [W4.size] at this; omega) (by have := hg1; simp only [W4.size] at this; omega), hO12, hb12⟩
end Go.Proofs.YtbnjcdjgambnhaaDoor
