/-
  An act over both sides, walked: both answer the same.
-/
import Derived.Test.YtadakaenbemedaaGreatDoorTgPlay
namespace Go.Proofs.YtadakaenbemedaaGreatDoor
open Go.RowKit Go.Maps

/-- Block B is a box of four cells. -/
structure Box4 (W : World) (B : Nat) (t : TypeId) (v0 v1 v2 v3 : Value) : Prop where
  out : W.heap[B]? = some (.cells #[v0, v1, v2, v3] t (0, 0))
section
variable {W W' : World} {B : Nat} {t : TypeId} {v0 v1 v2 v3 : Value}
theorem Box4.lt (h : Box4 W B t v0 v1 v2 v3) : B < W.heap.size := (Array.getElem?_eq_some_iff.1 h.out).1
theorem Box4.cell0 (h : Box4 W B t v0 v1 v2 v3) : W.cell? ⟨B, 0, none⟩ = some v0 := by simp [World.cell?, h.out]
theorem Box4.cell1 (h : Box4 W B t v0 v1 v2 v3) : W.cell? ⟨B, 1, none⟩ = some v1 := by simp [World.cell?, h.out]
theorem Box4.cell2 (h : Box4 W B t v0 v1 v2 v3) : W.cell? ⟨B, 2, none⟩ = some v2 := by simp [World.cell?, h.out]
theorem Box4.cell3 (h : Box4 W B t v0 v1 v2 v3) : W.cell? ⟨B, 3, none⟩ = some v3 := by simp [World.cell?, h.out]
theorem Box4.new (W : World) (b : Nat) (hb : W.heap.size = b) (t : TypeId) (v0 v1 v2 v3 : Value) : Box4 (W.alloc (.cells #[v0, v1, v2, v3] t)) b t v0 v1 v2 v3 := ⟨by subst hb; exact heap_alloc_new _ _⟩
theorem Box4.keep (h : Box4 W B t v0 v1 v2 v3) (hk : W'.heap[B]? = W.heap[B]?) : Box4 W' B t v0 v1 v2 v3 := ⟨hk.trans h.out⟩
theorem Box4.alloc (h : Box4 W B t v0 v1 v2 v3) (o : Obj) : Box4 (W.alloc o) B t v0 v1 v2 v3 := h.keep (Below.heap_alloc _ _ _ h.lt)
end

/-- The boxes of a call of 'done': the document's set, the act, what is handed back. -/
structure DoneBox (w wc : World) (v0 v1 a0 a1 a2 a3 : Value) : Prop where
  below : Below w.heap.size w wc
  size : wc.heap.size = w.heap.size + 3
  set : Box2 wc w.heap.size 38 v0 v1
  act : Box4 wc (w.heap.size + 1) 42 a0 a1 a2 a3
  res : Box2 wc (w.heap.size + 1 + 1) 38 (.slice none 0 0) (.slice none 0 0)
theorem DoneBox.new {w wa wb wc : World} {v0 v1 a0 a1 a2 a3 : Value} (hwa : w.alloc (.cells #[v0, v1] 38) = wa) (hwb : wa.alloc (.cells #[a0, a1, a2, a3] 42) = wb) (hwc : wb.alloc (.cells #[.slice none 0 0, .slice none 0 0] 38) = wc) :
    DoneBox w wc v0 v1 a0 a1 a2 a3 := by
  have hza : wa.heap.size = w.heap.size + 1 := by rw [← hwa]; simp
  have hzb : wb.heap.size = w.heap.size + 1 + 1 := by rw [← hwb]; simp [hza]
  have hzc : wc.heap.size = w.heap.size + 1 + 1 + 1 := by rw [← hwc]; simp [hzb]
  have hba : Below w.heap.size w wa := by rw [← hwa]; exact (Below.refl _ w).alloc (Nat.le_refl _) _
  have hbb : Below w.heap.size w wb := by rw [← hwb]; exact hba.alloc (by omega) _
  have hbc : Below w.heap.size w wc := by rw [← hwc]; exact hbb.alloc (by omega) _
  refine ⟨hbc, hzc, ?_, ?_, ?_⟩
  · rw [← hwc]; refine Box2.alloc ?_ _; rw [← hwb]; refine Box2.alloc ?_ _; rw [← hwa]; exact Box2.new w _ rfl _ _ _
  · rw [← hwc]; refine Box4.alloc ?_ _; rw [← hwb]; exact Box4.new wa _ hza _ _ _ _ _
  · rw [← hwc]; exact Box2.new wb _ hzb _ _ _
/-- The boxes lie as they lay where a set has turned. -/
theorem DoneBox.keep {m : Nat → Prop} {w wc w1 : World} {v0 v1 a0 a1 a2 a3 : Value} (h : DoneBox w wc v0 v1 a0 a1 a2 a3) (hm : ∀ k, m k → k < w.heap.size) (ht : Turn m wc w1) :
    Box2 w1 w.heap.size 38 v0 v1 ∧ Box4 w1 (w.heap.size + 1) 42 a0 a1 a2 a3 ∧ Box2 w1 (w.heap.size + 1 + 1) 38 (.slice none 0 0) (.slice none 0 0) := by
  have hz := h.size
  have hk : ∀ k, w.heap.size ≤ k → k < wc.heap.size → w1.heap[k]? = wc.heap[k]? := fun k h1 h2 => ht.block k h2 fun e => by have := hm k e; omega
  exact ⟨h.set.keep (hk _ (by omega) (by omega)), h.act.keep (hk _ (by omega) (by omega)), h.res.keep (hk _ (by omega) (by omega))⟩
/-- What is handed back is laid in its box. -/
theorem turn_two (W : World) (B : Nat) (v0 v1 : Value) : Turn (fun k => k = B) W ((W.setCell ⟨B, 0, none⟩ v0).setCell ⟨B, 1, none⟩ v1) := (Turn.setCell (T := fun k => k = B) W ⟨B, 0, none⟩ v0 rfl).trans (Turn.setCell (T := fun k => k = B) _ ⟨B, 1, none⟩ v1 rfl)

set_option maxRecDepth 100000 in
set_option maxHeartbeats 3200000 in
theorem done_add (n0 : Nat) (m q : Nat → Prop) (w : World) (S : Nat) (v : Value) (s : SetM) (hp : Pair n0 m q w S v s) (hF : SetFit s) (Bx : Option Addr) (lx dx : Nat) (x : Item) (hxl : x.length = lx) (hlx : lx ≤ 450) (hlc : lx ≤ dx) (hx : SeesM (fun k => k < n0) w Bx (bv x)) (kd a b : Int) (hk : kd % 8 < 5) :
    Calls Tryz.prog 16 #[.pointer (some ⟨S, 0, none⟩), v, .agg #[.int .i64 kd, .slice Bx lx dx, .int .i64 a, .int .i64 b]] w (Done n0 m q w S (s.add x).1) := by
  have hlow := hp.low
  have hz := and7 kd
  have hk0 : 0 ≤ kd % 8 := by omega
  have hxq : SeesM q w Bx (bv x) := hx.mono fun k e => hp.inn k e
  have hxs : Sees w w.heap.size Bx (bv x) := hxq.sees fun k e => (hp.sep k e).1
  obtain ⟨A, c, F, d, hv, -⟩ := hp.ref.out
  obtain ⟨n, hn⟩ : ∃ n, s.mem.length = n := ⟨_, rfl⟩
  obtain ⟨k, hkk⟩ : ∃ k, s.fs.length = k := ⟨_, rfl⟩
  rw [hn, hkk] at hv
  subst hv
  obtain ⟨wa, hwa⟩ : ∃ wa, w.alloc (.cells #[.slice A n c, .slice F k d] 38) = wa := ⟨_, rfl⟩
  obtain ⟨wb, hwb⟩ : ∃ wb, wa.alloc (.cells #[.int .i64 kd, .slice Bx lx dx, .int .i64 a, .int .i64 b] 42) = wb := ⟨_, rfl⟩
  obtain ⟨wc, hwc⟩ : ∃ wc, wb.alloc (.cells #[.slice none 0 0, .slice none 0 0] 38) = wc := ⟨_, rfl⟩
  have hB := DoneBox.new hwa hwb hwc
  have hza : wa.heap.size = w.heap.size + 1 := by rw [← hwa]; simp
  have hzb : wb.heap.size = w.heap.size + 1 + 1 := by rw [← hwb]; simp [hza]
  have c0 := hB.act.cell0
  have c1 := hB.act.cell1
  have HB := Lib.hid hB
  have hA := Lib.hid (add_any m wc S s (hp.set.below hB.below) hF Bx lx dx x hxl (by omega) ((hxs.below hB.below).more hB.below.size))
  have HP := Lib.hid hp
  have HFS := Lib.hid hF
  have HXL := Lib.hid hxl
  have HXQ := Lib.hid hxq
  have HR := fun w1 => fun (hk : Kept q w w1) (hs : w.heap.size ≤ w1.heap.size) => Lib.hid (refAdd_any q w1 _ s (hp.ref.keep hk) (fun k e => by have := (hp.sep k e).1; omega) hF Bx lx dx x hxl hlc (hxq.keep hk))
  obtain ⟨n', hn'⟩ : ∃ n', (s.add x).1.mem.length = n' := ⟨_, rfl⟩
  obtain ⟨k', hk'⟩ : ∃ k', (s.add x).1.fs.length = k' := ⟨_, rfl⟩
  have HN' := Lib.hid hn'
  have HK' := Lib.hid hk'
  obtain ⟨E, hE⟩ : ∃ E, (s.add x).2 = E := ⟨_, rfl⟩
  rw [hE] at hA HR
  clear hB hF hxl hxq hxs hx hn hkk hn' hk' hE hlow hp
  rcases (by omega : kd % 8 = 0 ∨ kd % 8 = 1 ∨ kd % 8 = 2 ∨ kd % 8 = 3 ∨ kd % 8 = 4) with e | e | e | e | e
  all_goals
    rw [e] at hz
    clear e hk hk0
    go_enter Tryz.func16, Tryz.ntmps16
    go_wp2_with fail
    refine hA.out.mono ?_
    rintro e w1 ⟨rfl, st⟩
    obtain ⟨d1, d2, d3⟩ := HB.out.keep HP.out.set.lt st.turn
    have hzc := HB.out.size
    have hs1 := st.turn.size
    have hKq : Kept q w w1 := (Kept.of_below HB.out.below fun k e => (HP.out.sep k e).1).trans (Kept.of_turn st.turn fun k e => ⟨by have := (HP.out.sep k e).1; omega, (HP.out.sep k e).2⟩)
    have hR := HR w1 hKq (by omega)
    have ST := Lib.hid st
    have D3 := Lib.hid d3
    have c0 := d1.cell0
    have c1 := d1.cell1
    have e1 := d2.cell1
    clear st d1 d2 d3 hKq HR hA
    go_wp2_with fail
    refine hR.out.mono ?_
    rintro e w2 ⟨v', rfl, r⟩
    have hs2 := r.below.size
    have R := Lib.hid r
    obtain ⟨A', c', F', d', hv', -⟩ := r.set.out
    rw [HN'.out, HK'.out] at hv'
    subst hv'
    have d3 := D3.out.below r.below D3.out.lt
    obtain ⟨w3, hw3⟩ : ∃ w3, w2.alloc (.cells #[.slice A' n' c', .slice F' k' d'] 38) = w3 := ⟨_, rfl⟩
    have b9 : Box2 w3 w2.heap.size 38 (.slice A' n' c') (.slice F' k' d') := by rw [← hw3]; exact Box2.new w2 _ rfl _ _ _
    have b3 : Box2 w3 (w.heap.size + 1 + 1) 38 (.slice none 0 0) (.slice none 0 0) := by rw [← hw3]; exact d3.alloc _
    have hb3 : Below w2.heap.size w2 w3 := by rw [← hw3]; exact (Below.refl _ w2).alloc (Nat.le_refl _) _
    have g0 := b9.cell0
    have g1 := b9.cell1
    have f0 := b3.frozen 0
    have f1 := b3.frozen 1
    have r0 := b3.cell0
    have r1 := b3.cell1
    have B3 := Lib.hid b3
    have HB3 := Lib.hid hb3
    clear r hR d3 b9 b3 hb3
    go_wp2
    have z := (B3.out.set0 (.slice A' n' c')).set1 (.slice F' k' d')
    have z0 := z.cell0
    have z1 := z.cell1
    refine bodyPost_ret (v := .tuple #[.agg #[.slice A' n' c', .slice F' k' d'], .bool true]) (by simp [results, Tryz.results16, go_sem, z0, z1]) rfl ?_
    exact ⟨_, m, _, rfl, HP.out.step HB.out.below ST.out R.out (w.heap.size + 1 + 1) (by omega) (by omega) ((Turn.of_new HB3.out).trans (turn_two w3 _ (.slice A' n' c') (.slice F' k' d')))⟩
end Go.Proofs.YtadakaenbemedaaGreatDoor
