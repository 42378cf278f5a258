/-
  itempart.Open, walked.
-/
import Derived.Test.YtmdphaagbmipcaaDoorIpOpenC
import Derived.Test.YtmdphaagbmipcaaDoorIpOpenPlain
import Derived.Test.YtmdphaagbmipcaaDoorIpPrefix
import Derived.Test.YtmdphaagbmipcaaDoorIpBuild2
namespace Go.Proofs.YtmdphaagbmipcaaDoor
open Go.RowKit Go.Shelf

attribute [local go_sem] Oper.semAt_some

theorem box1_lay (W W' : World) (t : TypeId) (v : Value) (B : Nat) (hB : W.heap.size = B) (hb : Below (B + 1) (W.alloc (.cells #[v] t)) W') : Box1 W' B t v := by
  subst hB
  exact (Box1.new W t v).below hb (by omega)
theorem box3_lay (W W' : World) (t : TypeId) (v0 v1 v2 : Value) (B : Nat) (hB : W.heap.size = B) (hb : Below (B + 1) (W.alloc (.cells #[v0, v1, v2] t)) W') : Box3 W' B t v0 v1 v2 := by
  subst hB
  exact (Box3.new W t v0 v1 v2).kept (hb.block _ (by omega))

theorem wrap_add (a b : Nat) (ha : a ≤ 8000000) (hb : b ≤ 8) : IntKind.i64.wrap ((a : Int) + (b : Int)) = ((a + b : Nat) : Int) := by
  rw [IntKind.wrap_i64]; omega

def OpenIs (w : World) (b : List UInt8) (e : Ending) (w' : World) : Prop :=
  ∃ p, e = .returned (.tuple #[.pointer p, .int .i64 (if (openB b).isSome then 0 else 170)]) ∧ Below w.heap.size w w' ∧ (openB b = none → p = none) ∧ ∀ ls, openB b = some ls → p = some ⟨w.heap.size + 3, 0, none⟩ ∧ PartAt (fun k => w.heap.size ≤ k ∧ k < w'.heap.size) w' (w.heap.size + 3) ls

/-- Between the rounds. -/
structure OpenI (w w1 W : World) (s : Nat → Prop) (pre : List (Item × Nat)) : Prop where
  out : ∃ q vB vF vA bl, OpenR w.heap.size W W s q vB vF vA bl (bl.map (·.headD [])) bl.flatten bl.flatten.length ∧ unpackAll pre = some bl
  bel : Below w.heap.size w W
  size : w1.heap.size ≤ W.heap.size
/-- Left: nothing is opened. -/
structure OpenX (w w1 W : World) (s : Nat → Prop) (pre : List (Item × Nat)) : Prop where
  r2 : Box1 W w.heap.size 29 (.pointer none)
  r3 : Box1 W (w.heap.size + 1) 26 (.int .i64 170)
  sl : ∀ k, s k → w.heap.size + 6 ≤ k
  bad : unpackAll pre = none
  bel : Below w.heap.size w W
  size : w1.heap.size ≤ W.heap.size
section
variable {w w1 A B : World} {s : Nat → Prop} {pre : List (Item × Nat)}
theorem OpenI.turn_s (h : OpenI w w1 A s pre) (ht : Turn s A B) : OpenI w w1 B (grown s A B) pre := by
  obtain ⟨q, vB, vF, vA, bl, h1, h2⟩ := h.out
  exact ⟨⟨q, vB, vF, vA, bl, h1.turn_s ht, h2⟩, h.bel.trans (ht.below (fun j hj => by have := (h1.sl j hj).1; omega) h.bel.size), by have := ht.size; have := h.size; omega⟩
theorem OpenI.turn_d (h : OpenI w w1 A s pre) (ht : Turn (fun k => k = w1.heap.size ∨ k = w1.heap.size + 1) A B) (hz : w1.heap.size = w.heap.size + 7) : OpenI w w1 B s pre := by
  obtain ⟨q, vB, vF, vA, bl, h1, h2⟩ := h.out
  exact ⟨⟨q, vB, vF, vA, bl, h1.turn_d (ht.mono fun j _ e => by omega), h2⟩, h.bel.trans (ht.below (fun j hj => by omega) h.bel.size), by have := ht.size; have := h.size; omega⟩
theorem OpenX.turn_s (h : OpenX w w1 A s pre) (ht : Turn s A B) (hA : w.heap.size + 6 ≤ A.heap.size) : OpenX w w1 B (grown s A B) pre :=
  ⟨h.r2.turn ht (fun e => by have := h.sl _ e; omega), h.r3.turn ht (fun e => by have := h.sl _ e; omega), fun k hk => by rcases hk with hk | hk; exact h.sl k hk; omega, h.bad, h.bel.trans (ht.below (fun j hj => by have := h.sl j hj; omega) h.bel.size), by have := ht.size; have := h.size; omega⟩
theorem OpenX.turn_d (h : OpenX w w1 A s pre) (ht : Turn (fun k => k = w1.heap.size ∨ k = w1.heap.size + 1) A B) (hz : w1.heap.size = w.heap.size + 7) : OpenX w w1 B s pre :=
  ⟨h.r2.turn ht (by omega), h.r3.turn ht (by omega), h.sl, h.bad, h.bel.trans (ht.below (fun j hj => by omega) h.bel.size), by have := ht.size; have := h.size; omega⟩
end
theorem frameOk_keep {n0 : Nat} {L : List (Item × Nat)} {s : Nat → Prop} {pre : List Framed} {y : Framed} {A B : World} {D : Nat} (h : FrameOk n0 L s pre y A) (hs : ∀ k, s k → k ≠ D ∧ k ≠ D + 1) (ht : Turn (fun k => k = D ∨ k = D + 1) A B) : FrameOk n0 L s pre y B := by
  have hz := ht.size
  exact ⟨(h.1.keep (Kept.of_turn ht fun k hk => ⟨hk.2, by have := hs k hk.1; omega⟩)).mono fun k hk => ⟨hk.1, by omega⟩, h.2.1, h.2.2.1, by have := h.2.2.2; omega⟩
theorem unpackAll_e {a : List (Item × Nat)} {y : Item × Nat} (h : y.2 ≠ 0) : unpackAll (a ++ [y]) = none := by
  rw [unpackAll_snoc]
  cases unpackAll a with
  | none => rfl
  | some bl => simp only; rw [if_pos h]
theorem unpackAll_u {a : List (Item × Nat)} {y : Item × Nat} (h : (unpackR y.1).2 ≠ 0) : unpackAll (a ++ [y]) = none := by
  rw [unpackAll_snoc]
  cases unpackAll a with
  | none => rfl
  | some bl => simp only; rw [if_pos h]; split <;> rfl
theorem unpackAll_ok {a : List (Item × Nat)} {y : Item × Nat} {bl : List (List Item)} (h0 : unpackAll a = some bl) (h1 : y.2 = 0) (h2 : (unpackR y.1).2 = 0) : unpackAll (a ++ [y]) = some (bl ++ [(unpackR y.1).1]) := by
  rw [unpackAll_snoc, h0]; simp only; rw [if_neg (by omega), if_neg (by omega)]
theorem openB_none {b : List UInt8} {pre : List (Item × Nat)} (hp : pre <+: framesL (b.length + 1) b) (h : unpackAll pre = none) : openB b = none := by
  obtain ⟨t, ht⟩ := hp
  unfold openB
  rw [← ht, unpackAll_bad pre t h]

theorem OpenR.leave {w w1 W Wc : World} {s q : Nat → Prop} {vB vF vA : Value} {bl : List (List Item)} {fs al : List Item} {many : Nat} {pre : List (Item × Nat)} (h : OpenR w.heap.size W Wc s q vB vF vA bl fs al many) (hbel : Below w.heap.size w Wc) (hsz : w1.heap.size ≤ Wc.heap.size) (hbad : unpackAll pre = none) :
    Turn (fun k => ¬ s k ∧ ¬ k < w.heap.size ∧ k ≠ w.heap.size + 7 ∧ k ≠ w.heap.size + 7 + 1) W ((Wc.setCell ⟨w.heap.size, 0, none⟩ (.pointer none)).setCell ⟨w.heap.size + 1, 0, none⟩ (.int .i64 170)) ∧ OpenX w w1 ((Wc.setCell ⟨w.heap.size, 0, none⟩ (.pointer none)).setCell ⟨w.heap.size + 1, 0, none⟩ (.int .i64 170)) s pre := by
  have ht := (h.t.mine (fun k e => (h.sl k e).1) ⟨w.heap.size, 0, none⟩ (.pointer none) (by simp) (by simp)).mine (fun k e => (h.sl k e).1) ⟨w.heap.size + 1, 0, none⟩ (.int .i64 170) (by simp) (by simp)
  refine ⟨ht.mono fun j _ e => ⟨e.1, by omega, e.2.2.1, e.2.2.2⟩, ⟨(h.c.r2.set _).kept (other (by simp)), (h.c.r3.kept (other (by simp))).set _, fun k e => (h.sl k e).1, hbad, (hbel.setCell (p := ⟨w.heap.size, 0, none⟩) (by simp) _).setCell (p := ⟨w.heap.size + 1, 0, none⟩) (by simp) _, by rw [World.size_setCell, World.size_setCell]; exact hsz⟩⟩

theorem OpenR.done {w w1 W Wc : World} {s q : Nat → Prop} {vB vF vA : Value} {bl : List (List Item)} {fs al : List Item} {many : Nat} {pre : List (Item × Nat)} (h : OpenR w.heap.size W Wc s q vB vF vA bl fs al many) (e1 : bl.map (·.headD []) = fs) (e2 : bl.flatten = al) (e3 : al.length = many) (hu : unpackAll pre = some bl) (hbel : Below w.heap.size w W) (hsz : w1.heap.size ≤ W.heap.size) : OpenI w w1 Wc s pre := by
  subst e3
  subst e2
  subst e1
  exact ⟨⟨_, _, _, _, _, h.over, hu⟩, hbel.trans (h.t.below (fun j e => e.2.1) hbel.size), Nat.le_trans hsz h.size⟩

set_option maxRecDepth 100000 in
set_option maxHeartbeats 3200000 in
theorem Open_any (A : Option Addr) (n c : Nat) (b : List UInt8) (hbn : b.length = n) (hnc : n ≤ c) (hn6 : n ≤ 1000000) (w : World) (hS : Sees w w.heap.size A (bv b)) (hH : Halves w) (hg0 : 1 + 1 ≤ w.heap.size) :
    Calls Tryd.prog 13 #[.slice A n c] w (OpenIs w b) := by
  refine (callsIn_wide (n := 5)).1 ?_
  have HS := Lib.hid hS
  have HBN := Lib.hid hbn
  clear hS hbn
  have hF := fun W => Lib.hid (frames_any A n c W)
  refine callsIn_of_wp_marks Tryd.func13 rfl trivial ?_ rfl
  simp only [Tryd.ntmps13, List.size_toArray, List.length_cons, List.length_nil, Nat.reduceAdd, Nat.reduceSub, Array.replicate_succ, Array.replicate_zero, List.push_toArray, List.append_toArray, List.nil_append, List.cons_append]
  gi_wp2_with fail
  refine ⟨trivial, (callsIn_wide.2 (hF _).out).mono ?_⟩
  rintro e w1 ⟨rfl, hw1⟩
  have a0 := Below.refl w.heap.size w
  obtain ⟨wa, hwa⟩ : ∃ wa, w.alloc (Obj.cells #[Value.pointer none] 29) = wa := ⟨_, rfl⟩
  rw [hwa] at hw1 ⊢
  obtain ⟨wb, hwb⟩ : ∃ wb, wa.alloc (Obj.cells #[Value.int IntKind.i64 0] 26) = wb := ⟨_, rfl⟩
  rw [hwb] at hw1 ⊢
  obtain ⟨wc, hwc⟩ : ∃ wc, wb.alloc (Obj.cells #[Value.slice none 0 0] 58) = wc := ⟨_, rfl⟩
  rw [hwc] at hw1 ⊢
  obtain ⟨wd, hwd⟩ : ∃ wd, wc.alloc (Obj.cells #[Value.pointer (some ⟨w.heap.size + 1 + 1, 0, none⟩), Value.slice none 0 0, Value.int IntKind.i64 0] 60) = wd := ⟨_, rfl⟩
  rw [hwd] at hw1 ⊢
  obtain ⟨we, hwe⟩ : ∃ we, wd.alloc (Obj.cells #[Value.pointer (some ⟨w.heap.size + 1 + 1 + 1, 0, none⟩)] 29) = we := ⟨_, rfl⟩
  rw [hwe] at hw1 ⊢
  obtain ⟨wf, hwf⟩ : ∃ wf, we.alloc (Obj.cells #[Value.slice none 0 0] 22) = wf := ⟨_, rfl⟩
  rw [hwf] at hw1 ⊢
  have za : wa.heap.size = w.heap.size + 1 := by rw [← hwa]; simp
  have zb : wb.heap.size = w.heap.size + 2 := by rw [← hwb]; simp [za]
  have zc : wc.heap.size = w.heap.size + 3 := by rw [← hwc]; simp [zb]
  have zd : wd.heap.size = w.heap.size + 4 := by rw [← hwd]; simp [zc]
  have ze : we.heap.size = w.heap.size + 5 := by rw [← hwe]; simp [zd]
  have zf : wf.heap.size = w.heap.size + 6 := by rw [← hwf]; simp [ze]
  have n0 : Below w.heap.size w wa := hwa ▸ (Below.refl _ w).alloc (Nat.le_refl _) _
  have n1 : Below wa.heap.size wa wb := hwb ▸ (Below.refl _ wa).alloc (Nat.le_refl _) _
  have n2 : Below wb.heap.size wb wc := hwc ▸ (Below.refl _ wb).alloc (Nat.le_refl _) _
  have n3 : Below wc.heap.size wc wd := hwd ▸ (Below.refl _ wc).alloc (Nat.le_refl _) _
  have n4 : Below wd.heap.size wd we := hwe ▸ (Below.refl _ wd).alloc (Nat.le_refl _) _
  have n5 : Below we.heap.size we wf := hwf ▸ (Below.refl _ we).alloc (Nat.le_refl _) _
  have m4 : Below wd.heap.size wd wf := n4.trans (n5.mono (by omega))
  have m3 : Below wc.heap.size wc wf := n3.trans (m4.mono (by omega))
  have m2 : Below wb.heap.size wb wf := n2.trans (m3.mono (by omega))
  have m1 : Below wa.heap.size wa wf := n1.trans (m2.mono (by omega))
  have m0 : Below w.heap.size w wf := n0.trans (m1.mono (by omega))
  have hR0 := OpenR.start (Wa := wf) (w1 := w1) (n0 := w.heap.size) (box1_lay w wf _ _ _ rfl (by rw [hwa]; exact m1.mono (by omega))) (box1_lay wa wf _ _ _ za (by rw [hwb]; exact m2.mono (by omega)))
    (box1_lay wb wf _ _ _ zb (by rw [hwc]; exact m3.mono (by omega))) (box3_lay wc wf _ _ _ _ _ zc (by rw [hwd]; exact m4.mono (by omega))) (box1_lay wd wf _ _ _ zd (by rw [hwe]; exact n5.mono (by omega)))
    (box1_lay we wf _ _ _ ze (by rw [hwf]; exact Below.refl _ _)) zf _ hw1
  have hb1 : Below w.heap.size w w1 := m0.trans (by rw [hw1]; exact ((Below.refl _ wf).alloc (Nat.le_refl _) _).mono (by omega))
  have hz1 : w1.heap.size = w.heap.size + 7 := by rw [hw1]; simp [zf]
  have hB0 : Box1 w1 (w.heap.size + 6) 23 (.slice A n c) := box1_lay wf w1 _ _ _ zf (by rw [hw1]; exact Below.refl _ _)
  rw [zf]
  clear hw1 hwa hwb hwc hwd hwe hwf n0 n1 n2 n3 n4 n5 m4 m3 m2 m1 m0 za zb zc zd ze zf hF wa wb wc wd we wf
  simp only [Nat.add_assoc, Nat.reduceAdd]
  have hD := frames1_seq (w := w1) w.heap.size (HS.out.below hb1) HBN.out hnc hn6 (hH.below hb1 hg0) hg0 (w.heap.size + 6) hB0 (by omega) 4
  gi_wp2_with fail
  obtain ⟨L, hL⟩ : ∃ L, framesL (n + 1) b = L := ⟨_, rfl⟩
  have hLn : L.length ≤ n + 1 := by rw [← hL]; exact framesL_le _ _
  have hLb : ∀ z ∈ L, z.1.length ≤ n := fun z hz => by rw [← HBN.out]; rw [← hL] at hz; exact framesL_body _ _ z hz
  rw [hL] at hD
  have HL := Lib.hid hL
  clear hL
  refine wpIn_rangeFunc_T (F := Fence.wide) (n := 5) rfl (by omega) (gf := 56) (lb := #[.pointer (some ⟨w.heap.size + 6, 0, none⟩)]) rfl trivial (enters_of Tryd.func56 (by kernel_rfl) rfl)
    hD (Below.refl _ _) (fun _ => rfl) (fun k hk => by rcases hk with hk | rfl <;> omega)
    (fun s pre y A B h hR ht => frameOk_keep h (fun k hk => hR k (.inl hk)) ht)
    (fun (s : Nat → Prop) (pre : List Framed) (W : World) => OpenI w w1 W s (pre.map fun z : Framed => z.1))
    (fun (c : Code) (s : Nat → Prop) (pre : List Framed) (W : World) => c = .ret ∧ OpenX w w1 W s (pre.map fun z : Framed => z.1))
    (fun s pre A B h ht => h.turn_s ht) (fun c s pre A B h ht => ⟨h.1, h.2.turn_s ht (by have := h.2.size; omega)⟩) (fun s pre A B h ht => h.turn_d ht hz1) (fun c s pre A B h ht => ⟨h.1, h.2.turn_d ht hz1⟩) ⟨⟨_, _, _, _, [], hR0, rfl⟩, hb1, Nat.le_refl _⟩
    (fun (y : Framed) => { tmps := #[.slice A n c, undef, .pointer (some ⟨w.heap.size, 0, none⟩), .pointer (some ⟨w.heap.size + 1, 0, none⟩), .pointer (some ⟨w.heap.size + 4, 0, none⟩), .pointer (some ⟨w.heap.size + 5, 0, none⟩), .slice y.2.1 y.1.1.length y.2.2, .int .i64 (y.1.2 : Nat), undef, undef, undef, undef, .agg #[.slice none 0 0], .pointer (some ⟨w.heap.size + 2, 0, none⟩), .agg #[.pointer (some ⟨w.heap.size + 2, 0, none⟩), .slice none 0 0, .int .i64 0], .pointer (some ⟨w.heap.size + 3, 0, none⟩), .slice A n c, .func (.func 56) #[] #[.pointer (some ⟨w.heap.size + 6, 0, none⟩)], .slice y.2.1 y.1.1.length y.2.2, .int .i64 (y.1.2 : Nat), undef, undef, undef, undef, undef, undef, undef, undef, undef, undef, undef, undef, undef, undef, undef, undef, undef, undef, undef, undef, undef, undef, undef, undef, undef, undef, undef, undef, undef, undef, undef, undef, undef, undef, undef, undef, undef, undef, undef, undef, undef, undef, undef, undef, undef, undef, undef, undef, undef, undef, undef, undef, undef, undef, undef, undef, undef, undef, undef, undef, undef, undef, undef], defers := [] }) ?assign ?body ?done ?stop
  case assign =>
    intro l y W K hK
    dsimp only [Framed.vals]
    gi_wp2
    exact hK
  case body =>
    rintro l s pre y W ⟨⟨q, vB, vF, vA, bl, hR, hub⟩, hbel, hsz⟩ hlt ⟨g1, g2, g3, g4⟩ hdW
    obtain ⟨⟨AB, cB, rfl, -⟩, ⟨AF, cF, rfl, -⟩, ⟨AA, cA, rfl, -⟩⟩ := hR.rows
    obtain ⟨hbl, hck⟩ := unpackAll_some _ hub
    rw [List.length_map] at hbl
    have hfl := flatten_le8 bl hck
    have hbn : bl.length ≤ 1000000 := by omega
    have hpm : List.map (·.1) (pre ++ [y]) = pre.map (·.1) ++ [y.1] := by simp
    have hyl : y.1.1.length ≤ n := hLb _ (g3.subset (by simp))
    by_cases he : y.1.2 = 0
    · rw [he]
      have HE := Lib.hid he
      have hU := Lib.hid (Unpack_any y.2.1 y.1.1.length y.2.2 y.1.1 rfl g2 (by omega) W (g1.sees (fun k hk => hk.2)))
      clear he
      gi_wp2_with fail
      refine ⟨trivial, (CallsIn.inRound l (callsIn_wide.2 hU.out)).mono ?_⟩
      rintro en w2 ⟨v, rfl, hown, hb2⟩
      obtain ⟨l0, e2, hlu⟩ : ∃ l0 e2, unpackR y.1.1 = (l0, e2) := ⟨_, _, rfl⟩
      have hlu1 := hlu
      rw [hlu1] at hown
      simp only [hlu1] at hown ⊢
      have hRb := hR.below hb2
      have hbel2 := hbel.trans (hb2.mono hbel.size)
      have hs2 := hb2.size
      by_cases he2 : e2 = 0
      · subst he2
        have huo := unpack_ok (b := y.1.1) (by rw [hlu1])
        simp only [hlu1] at huo
        have hcl := check_lens huo.1
        cases l0 with
        | nil => simp at hcl
        | cons x t =>
        have HU := Lib.hid (unpackAll_ok hub HE.out (by rw [hlu1]))
        simp only [hlu1] at HU
        obtain ⟨g, cl, A0, c0, vt, rfl, hlc, -, -, hY0⟩ := RowIn.of hown
        have hY := hY0.mono (q' := fun k => q k ∨ (W.heap.size ≤ k ∧ k < w2.heap.size)) fun k e => .inr ⟨by omega, e.2⟩
        have hR2 := hR.more hb2 (by omega)
        obtain ⟨fs, hfs⟩ : ∃ fs, bl.map (·.headD []) = fs := ⟨_, rfl⟩
        obtain ⟨al, hal⟩ : ∃ al, bl.flatten = al := ⟨_, rfl⟩
        have hfsn : fs.length ≤ 1000000 := by rw [← hfs, List.length_map]; exact hbn
        have haln : al.length ≤ 8000000 := by rw [← hal]; omega
        obtain ⟨many, hmany⟩ : ∃ many, al.length = many := ⟨_, rfl⟩
        rw [hfs, hal, hmany] at hR2
        have HFS := Lib.hid hfs
        have HAL := Lib.hid hal
        have HMY := Lib.hid hmany
        obtain ⟨nl, hnl⟩ : ∃ nl, (x :: t).length = nl := ⟨_, rfl⟩
        obtain ⟨n0x, hn0x⟩ : ∃ n0x, x.length = n0x := ⟨_, rfl⟩
        rw [hnl] at hlc hcl ⊢
        rw [hn0x] at hY
        have HNL := Lib.hid hnl
        have hnl0 : 0 < nl := hcl.1
        have hnl8 : nl ≤ 8 := hcl.2
        have hbase9 : w.heap.size + 9 ≤ W.heap.size := by omega
        have hmn : many ≤ 8000000 := by omega
        have hwr := wrap_add many nl (by omega) (by omega)
        have HBL := Lib.hid hbl
        clear hbl
        obtain ⟨i1, hi1, hz1', hy1, hx1⟩ := info_parts Tryd.sinfo
        obtain ⟨i2, hi2, hz2, hy2, hx2⟩ := info_parts Tryd.sinfo2
        have HZ1 := Lib.hid hz1
        rw [hfs, hal, hmany] at hR
        clear hz1 hnl hn0x hfs hal hmany hcl hown hY0 hRb huo hlu hlu1 hub hU hR hH hg0 hB0 hb1
        have hz1 := hz1'
        gi_wp2_with fail
        refine wpIn_round_held (S := fun W' => W'.cell? ⟨w.heap.size + 4, 0, none⟩ = some (.pointer (some ⟨w.heap.size + 3, 0, none⟩))) (by kernel_rfl) (by kernel_rfl) ?_ (fun hHeld => ?_)
        · (exact hR2.drew.c.t4.cell)
        have hZ0 := hR2.drew
        have hY0 := hY.keep (hR2.qbelow (below_drew (Below.refl _ _)))
        generalize w2.drew = wz0 at hZ0 hY0 hHeld ⊢
        have p0 := hZ0.c.p.cell1; have f0 := hZ0.c.p.frozen1
        refine wpAnyH_take (i := 0) (oi := { dst := some 29, op := Op.load 29 (Operand.tmp 4), type := 29, pos := "itempart.go:115", after := #[], guard := none }) (v := ?_) rfl (by kernel_rfl) (by kernel_rfl) (by kernel_rfl) (fun _ _ _ h => h) (Or.inl ⟨by rfl, ?_⟩) hHeld ?_
        rotate_left
        · (intro w' hSw; (try dsimp only at hSw); go_split_ands; go_simp; first | done | with_reducible rfl)
        try simp only [Act.put, List.setIfInBounds_toArray, List.set_cons_zero, List.set_cons_succ]
        refine wpAnyH_take (i := 1) (oi := { dst := some 30, op := Op.load 29 (Operand.tmp 4), type := 29, pos := "itempart.go:115", after := #[], guard := none }) (v := ?_) rfl (by kernel_rfl) (by kernel_rfl) (by kernel_rfl) (fun _ _ _ h => h) (Or.inl ⟨by rfl, ?_⟩) hHeld ?_
        rotate_left
        · (intro w' hSw; (try dsimp only at hSw); go_split_ands; go_simp; first | done | with_reducible rfl)
        try simp only [Act.put, List.setIfInBounds_toArray, List.set_cons_zero, List.set_cons_succ]
        refine wpAnyH_take (i := 2) (oi := { dst := some 31, op := Op.nilCheck (Operand.tmp 30), type := 0, pos := "itempart.go:115", after := #[{ on := 1, ground := Ground.data }], guard := none }) (v := ?_) rfl (by kernel_rfl) (by kernel_rfl) (by kernel_rfl) (fun _ _ _ h => h) (Or.inl ⟨by rfl, ?_⟩) hHeld ?_
        rotate_left
        · (intro w' hSw; (try dsimp only at hSw); go_split_ands; go_simp; first | done | with_reducible rfl)
        try simp only [Act.put, List.setIfInBounds_toArray, List.set_cons_zero, List.set_cons_succ]
        refine wpAnyH_take (i := 3) (oi := { dst := some 32, op := Op.fieldAddr 60 (Operand.tmp 31) 1, type := 0, pos := "itempart.go:115", after := #[{ on := 2, ground := Ground.data }], guard := none }) (v := ?_) rfl (by kernel_rfl) (by kernel_rfl) (by kernel_rfl) (fun _ _ _ h => h) (Or.inl ⟨by rfl, ?_⟩) hHeld ?_
        rotate_left
        · (intro w' hSw; (try dsimp only at hSw); go_split_ands; go_simp; first | done | with_reducible rfl)
        try simp only [Act.put, List.setIfInBounds_toArray, List.set_cons_zero, List.set_cons_succ]
        refine wpAnyH_take (i := 5) (oi := { dst := some 34, op := Op.move (Operand.tmp 8), type := 22, pos := "itempart.go:115", after := #[], guard := none }) (v := ?_) rfl (by kernel_rfl) (by kernel_rfl) (by kernel_rfl) (fun _ _ _ h => h) (Or.inl ⟨by rfl, ?_⟩) hHeld ?_
        rotate_left
        · (intro w' hSw; (try dsimp only at hSw); go_split_ands; go_simp; first | done | with_reducible rfl)
        try simp only [Act.put, List.setIfInBounds_toArray, List.set_cons_zero, List.set_cons_succ]
        refine wpAnyH_ready (rs := [4, 6]) (by kernel_rfl) (by simp) ?_
        refine AllReadyH.cons (o := { dst := some 33, op := Op.load 47 (Operand.tmp 32), type := 47, pos := "itempart.go:115", after := #[{ on := 3, ground := Ground.data }], guard := none }) rfl (fun K hK => ?_) ?_
        · go_simp
          refine hK.out _ _ ?_ ?_
          · (exact hZ0.c.t4.cell)
          clear hK K hHeld; intro hHeld
          try simp only [Act.put, List.setIfInBounds_toArray, List.set_cons_zero, List.set_cons_succ]
          refine wpAnyH_ready (rs := [6]) (by kernel_rfl) (by simp) ?_
          refine AllReadyH.cons (o := { dst := some 35, op := Op.buildSlice 47 1 #[(0, Operand.tmp 34)], type := 47, pos := "itempart.go:115", after := #[{ on := 5, ground := Ground.data }], guard := none }) rfl (fun K hK => ?_) AllReadyH.nil
          go_simp
          refine hK.out _ _ ?_ ?_
          · (exact (hZ0.alloc _).c.t4.cell)
          clear hK K hHeld; intro hHeld
          try simp only [Act.put, List.setIfInBounds_toArray, List.set_cons_zero, List.set_cons_succ]
          have hY1 := hY0.keep (hZ0.qbelow ((Below.refl _ wz0).alloc (Nat.le_refl _) (.cells #[.slice (some ⟨g, 0, none⟩) nl cl] 22)))
          have hZ1 := hZ0.alloc (.cells #[.slice (some ⟨g, 0, none⟩) nl cl] 22)
          have hd2 : Sees (wz0.alloc (.cells #[.slice (some ⟨g, 0, none⟩) nl cl] 22)) (wz0.alloc (.cells #[.slice (some ⟨g, 0, none⟩) nl cl] 22)).heap.size (some ⟨wz0.heap.size, 0, none⟩) [.slice (some ⟨g, 0, none⟩) nl cl] := ⟨.inr ⟨_, rfl, by simp, fun j u hu => by match j, hu with | 0, hu => (simp at hu; subst hu; rw [Addr.add_lit, World.cell?_alloc_at _ _ _ _ rfl]; rfl)⟩⟩
          obtain ⟨wz1, hwz1⟩ : ∃ wz1, (wz0.alloc (.cells #[.slice (some ⟨g, 0, none⟩) nl cl] 22)) = wz1 := ⟨_, rfl⟩
          rw [hwz1] at hZ1 hY1 hd2 hHeld ⊢
          clear hwz1
          have p1 := hZ1.c.p.cell1; have f1 := hZ1.c.p.frozen1
          refine wpAnyH_ready (rs := [7]) (by kernel_rfl) (by simp) ?_
          refine AllReadyH.cons (o := { dst := some 36, op := Op.call { callee := Callee.builtin Builtin.append, args := #[Operand.tmp 33, Operand.tmp 35], argTypes := #[47, 47] }, type := 47, pos := "itempart.go:115", after := #[{ on := 4, ground := Ground.data }, { on := 6, ground := Ground.data }], guard := none }) rfl (fun K hK => ?_) AllReadyH.nil
          obtain ⟨vs, g1, g2⟩ := hZ1.pushB
          have hsz1 := hZ1.size
          refine step_append_v (by rfl) (.tmp 33) (.tmp 35) 47 (by rfl) 22 i2 _ 1 24 Tryd.underlying47 hi2 hz2 hy2 hx2 rfl (by omega) (w.heap.size + 9) _ _ _ (by rfl) g1 _ (some ⟨wz0.heap.size, 0, none⟩) 1 1 [.slice (some ⟨g, 0, none⟩) nl cl] (by rfl) rfl hd2 (fun u hu => by simp at hu; subst hu; rfl) (by simp only [maxLen]; omega) (by omega) (by omega) ?_
          intro v' wz3 hown3 hon3
          obtain ⟨hc3, hq3, hqs3, hZ3⟩ := g2 wz3 v' (x :: t) (some ⟨g, 0, none⟩) cl (by rw [HNL.out]; exact hlc) hY1.sees2 (by rw [HNL.out]; exact hown3) hon3
          obtain ⟨gv, cv', rfl⟩ := ownsRow_succ hown3
          have hY3 := hY1.keep hq3
          have p3 := hc3.p.cell1; have f3 := hc3.p.frozen1
          refine hK.out _ _ ?_ ?_
          · (exact hc3.t4.cell)
          clear hK K hHeld; intro hHeld
          try simp only [Act.put, List.setIfInBounds_toArray, List.set_cons_zero, List.set_cons_succ]
          refine wpAnyH_take (i := 8) (oi := { dst := some 37, op := Op.nilCheck (Operand.tmp 29), type := 0, pos := "itempart.go:115", after := #[{ on := 0, ground := Ground.data }, { on := 0, ground := Ground.phase }, { on := 1, ground := Ground.phase }, { on := 2, ground := Ground.phase }, { on := 3, ground := Ground.phase }, { on := 4, ground := Ground.phase }, { on := 5, ground := Ground.phase }, { on := 6, ground := Ground.phase }, { on := 7, ground := Ground.phase }], guard := none }) (v := ?_) rfl (by kernel_rfl) (by kernel_rfl) (by kernel_rfl) (fun _ _ _ h => h) (Or.inl ⟨by rfl, ?_⟩) hHeld ?_
          rotate_left
          · (intro w' hSw; (try dsimp only at hSw); go_split_ands; go_simp; first | done | with_reducible rfl)
          try simp only [Act.put, List.setIfInBounds_toArray, List.set_cons_zero, List.set_cons_succ]
          refine wpAnyH_take (i := 9) (oi := { dst := some 38, op := Op.fieldAddr 60 (Operand.tmp 37) 1, type := 0, pos := "itempart.go:115", after := #[{ on := 8, ground := Ground.data }, { on := 0, ground := Ground.phase }, { on := 1, ground := Ground.phase }, { on := 2, ground := Ground.phase }, { on := 3, ground := Ground.phase }, { on := 4, ground := Ground.phase }, { on := 5, ground := Ground.phase }, { on := 6, ground := Ground.phase }, { on := 7, ground := Ground.phase }], guard := none }) (v := ?_) rfl (by kernel_rfl) (by kernel_rfl) (by kernel_rfl) (fun _ _ _ h => h) (Or.inl ⟨by rfl, ?_⟩) hHeld ?_
          rotate_left
          · (intro w' hSw; (try dsimp only at hSw); go_split_ands; go_simp; first | done | with_reducible rfl)
          try simp only [Act.put, List.setIfInBounds_toArray, List.set_cons_zero, List.set_cons_succ]
          refine wpAnyH_ready (rs := [10]) (by kernel_rfl) (by simp) ?_
          refine AllReadyH.cons (o := { dst := none, op := Op.store 47 (Operand.tmp 38) (Operand.tmp 36), type := 0, pos := "itempart.go:115", after := #[{ on := 9, ground := Ground.data }, { on := 7, ground := Ground.data }, { on := 7, ground := Ground.chain }, { on := 0, ground := Ground.phase }, { on := 1, ground := Ground.phase }, { on := 2, ground := Ground.phase }, { on := 3, ground := Ground.phase }, { on := 4, ground := Ground.phase }, { on := 5, ground := Ground.phase }, { on := 6, ground := Ground.phase }, { on := 7, ground := Ground.phase }], guard := none }) rfl (fun K hK => ?_) AllReadyH.nil
          go_simp
          refine hK.out _ _ ?_ ?_
          · (exact hZ3.c.t4.cell)
          clear hK K hHeld; intro hHeld
          try simp only [Act.put, List.setIfInBounds_toArray, List.set_cons_zero, List.set_cons_succ]
          refine wpAnyH_done (by kernel_rfl) ?_ _
          refine Only.normal ?_
          have hY2 := hY3.keep (hqs3 ⟨w.heap.size + 3, 1, none⟩ (.slice (some ⟨gv, 0, none⟩) (bl.length + 1) cv') (by simp))
          have hR3 := hZ3
          generalize wz3.setCell ⟨w.heap.size + 3, 1, none⟩ (.slice (some ⟨gv, 0, none⟩) (bl.length + 1) cv') = w3 at hR3 hY2 ⊢
          clear hZ0 hZ1 hY0 hY1 hY3 hd2 hon3 hown3 g1 g2 hc3 hq3 hqs3 p0 f0 p1 f1 p3 f3 hHeld hsz1 hZ3
          gi_wp2_with fail
          refine wpIn_round_held (S := fun W' => W'.cell? ⟨w.heap.size + 4, 0, none⟩ = some (.pointer (some ⟨w.heap.size + 3, 0, none⟩)) ∧ W'.cell? ⟨w.heap.size + 3, 0, none⟩ = some (.pointer (some ⟨w.heap.size + 2, 0, none⟩)) ∧ W'.cell? ⟨g, 0, none⟩ = some (.slice A0 n0x c0)) (by kernel_rfl) (by kernel_rfl) ?_ (fun hHeld => ?_)
          · (exact ⟨hR3.drew.c.t4.cell, hR3.drew.c.p.cell0, (hY2.keep (hR3.qbelow (below_drew (Below.refl _ _)))).first⟩)
          have hZ0 := hR3.drew
          have hY0 := hY2.keep (hR3.qbelow (below_drew (Below.refl _ _)))
          generalize w3.drew = wz0 at hZ0 hY0 hHeld ⊢
          have p0 := hZ0.c.x.cell; have f0 := hZ0.c.x.frozen
          refine wpAnyH_take (i := 0) (oi := { dst := some 39, op := Op.load 29 (Operand.tmp 4), type := 29, pos := "itempart.go:116", after := #[], guard := none }) (v := ?_) rfl (by kernel_rfl) (by kernel_rfl) (by kernel_rfl) (fun _ _ _ h => h) (Or.inl ⟨by rfl, ?_⟩) hHeld ?_
          rotate_left
          · (intro w' hSw; (try dsimp only at hSw); go_split_ands; go_simp; first | done | with_reducible rfl)
          try simp only [Act.put, List.setIfInBounds_toArray, List.set_cons_zero, List.set_cons_succ]
          refine wpAnyH_take (i := 1) (oi := { dst := some 40, op := Op.nilCheck (Operand.tmp 39), type := 0, pos := "itempart.go:116", after := #[{ on := 0, ground := Ground.data }], guard := none }) (v := ?_) rfl (by kernel_rfl) (by kernel_rfl) (by kernel_rfl) (fun _ _ _ h => h) (Or.inl ⟨by rfl, ?_⟩) hHeld ?_
          rotate_left
          · (intro w' hSw; (try dsimp only at hSw); go_split_ands; go_simp; first | done | with_reducible rfl)
          try simp only [Act.put, List.setIfInBounds_toArray, List.set_cons_zero, List.set_cons_succ]
          refine wpAnyH_take (i := 2) (oi := { dst := some 41, op := Op.fieldAddr 60 (Operand.tmp 40) 0, type := 0, pos := "itempart.go:116", after := #[{ on := 1, ground := Ground.data }], guard := none }) (v := ?_) rfl (by kernel_rfl) (by kernel_rfl) (by kernel_rfl) (fun _ _ _ h => h) (Or.inl ⟨by rfl, ?_⟩) hHeld ?_
          rotate_left
          · (intro w' hSw; (try dsimp only at hSw); go_split_ands; go_simp; first | done | with_reducible rfl)
          try simp only [Act.put, List.setIfInBounds_toArray, List.set_cons_zero, List.set_cons_succ]
          refine wpAnyH_take (i := 3) (oi := { dst := some 42, op := Op.load 56 (Operand.tmp 41), type := 56, pos := "itempart.go:116", after := #[{ on := 2, ground := Ground.data }], guard := none }) (v := ?_) rfl (by kernel_rfl) (by kernel_rfl) (by kernel_rfl) (fun _ _ _ h => h) (Or.inl ⟨by rfl, ?_⟩) hHeld ?_
          rotate_left
          · (intro w' hSw; (try dsimp only at hSw); go_split_ands; go_simp; first | done | with_reducible rfl)
          try simp only [Act.put, List.setIfInBounds_toArray, List.set_cons_zero, List.set_cons_succ]
          refine wpAnyH_take (i := 4) (oi := { dst := some 43, op := Op.load 29 (Operand.tmp 4), type := 29, pos := "itempart.go:116", after := #[], guard := none }) (v := ?_) rfl (by kernel_rfl) (by kernel_rfl) (by kernel_rfl) (fun _ _ _ h => h) (Or.inl ⟨by rfl, ?_⟩) hHeld ?_
          rotate_left
          · (intro w' hSw; (try dsimp only at hSw); go_split_ands; go_simp; first | done | with_reducible rfl)
          try simp only [Act.put, List.setIfInBounds_toArray, List.set_cons_zero, List.set_cons_succ]
          refine wpAnyH_take (i := 5) (oi := { dst := some 44, op := Op.nilCheck (Operand.tmp 43), type := 0, pos := "itempart.go:116", after := #[{ on := 4, ground := Ground.data }], guard := none }) (v := ?_) rfl (by kernel_rfl) (by kernel_rfl) (by kernel_rfl) (fun _ _ _ h => h) (Or.inl ⟨by rfl, ?_⟩) hHeld ?_
          rotate_left
          · (intro w' hSw; (try dsimp only at hSw); go_split_ands; go_simp; first | done | with_reducible rfl)
          try simp only [Act.put, List.setIfInBounds_toArray, List.set_cons_zero, List.set_cons_succ]
          refine wpAnyH_take (i := 6) (oi := { dst := some 45, op := Op.fieldAddr 60 (Operand.tmp 44) 0, type := 0, pos := "itempart.go:116", after := #[{ on := 5, ground := Ground.data }], guard := none }) (v := ?_) rfl (by kernel_rfl) (by kernel_rfl) (by kernel_rfl) (fun _ _ _ h => h) (Or.inl ⟨by rfl, ?_⟩) hHeld ?_
          rotate_left
          · (intro w' hSw; (try dsimp only at hSw); go_split_ands; go_simp; first | done | with_reducible rfl)
          try simp only [Act.put, List.setIfInBounds_toArray, List.set_cons_zero, List.set_cons_succ]
          refine wpAnyH_take (i := 7) (oi := { dst := some 46, op := Op.load 56 (Operand.tmp 45), type := 56, pos := "itempart.go:116", after := #[{ on := 6, ground := Ground.data }], guard := none }) (v := ?_) rfl (by kernel_rfl) (by kernel_rfl) (by kernel_rfl) (fun _ _ _ h => h) (Or.inl ⟨by rfl, ?_⟩) hHeld ?_
          rotate_left
          · (intro w' hSw; (try dsimp only at hSw); go_split_ands; go_simp; first | done | with_reducible rfl)
          try simp only [Act.put, List.setIfInBounds_toArray, List.set_cons_zero, List.set_cons_succ]
          refine wpAnyH_take (i := 8) (oi := { dst := some 47, op := Op.nilCheck (Operand.tmp 46), type := 0, pos := "itempart.go:116", after := #[{ on := 7, ground := Ground.data }], guard := none }) (v := ?_) rfl (by kernel_rfl) (by kernel_rfl) (by kernel_rfl) (fun _ _ _ h => h) (Or.inl ⟨by rfl, ?_⟩) hHeld ?_
          rotate_left
          · (intro w' hSw; (try dsimp only at hSw); go_split_ands; go_simp; first | done | with_reducible rfl)
          try simp only [Act.put, List.setIfInBounds_toArray, List.set_cons_zero, List.set_cons_succ]
          refine wpAnyH_take (i := 9) (oi := { dst := some 48, op := Op.fieldAddr 58 (Operand.tmp 47) 0, type := 0, pos := "itempart.go:116", after := #[{ on := 8, ground := Ground.data }], guard := none }) (v := ?_) rfl (by kernel_rfl) (by kernel_rfl) (by kernel_rfl) (fun _ _ _ h => h) (Or.inl ⟨by rfl, ?_⟩) hHeld ?_
          rotate_left
          · (intro w' hSw; (try dsimp only at hSw); go_split_ands; go_simp; first | done | with_reducible rfl)
          try simp only [Act.put, List.setIfInBounds_toArray, List.set_cons_zero, List.set_cons_succ]
          refine wpAnyH_take (i := 11) (oi := { dst := some 50, op := Op.move (Operand.tmp 8), type := 22, pos := "itempart.go:116", after := #[], guard := none }) (v := ?_) rfl (by kernel_rfl) (by kernel_rfl) (by kernel_rfl) (fun _ _ _ h => h) (Or.inl ⟨by rfl, ?_⟩) hHeld ?_
          rotate_left
          · (intro w' hSw; (try dsimp only at hSw); go_split_ands; go_simp; first | done | with_reducible rfl)
          try simp only [Act.put, List.setIfInBounds_toArray, List.set_cons_zero, List.set_cons_succ]
          refine wpAnyH_take (i := 12) (oi := { dst := some 51, op := Op.indexAddr 22 (Operand.tmp 50) (Operand.const (Value.int IntKind.i64 0)), type := 0, pos := "itempart.go:116", after := #[{ on := 11, ground := Ground.data }], guard := none }) (v := ?_) rfl (by kernel_rfl) (by kernel_rfl) (by kernel_rfl) (fun _ _ _ h => h) (Or.inl ⟨by rfl, ?_⟩) hHeld ?_
          rotate_left
          · (intro w' hSw; (try dsimp only at hSw); go_split_ands; go_simp; first | done | with_reducible rfl)
          try simp only [Act.put, List.setIfInBounds_toArray, List.set_cons_zero, List.set_cons_succ]
          refine wpAnyH_take (i := 13) (oi := { dst := some 52, op := Op.load 23 (Operand.tmp 51), type := 23, pos := "itempart.go:116", after := #[{ on := 12, ground := Ground.data }], guard := none }) (v := ?_) rfl (by kernel_rfl) (by kernel_rfl) (by kernel_rfl) (fun _ _ _ h => h) (Or.inl ⟨by rfl, ?_⟩) hHeld ?_
          rotate_left
          · (intro w' hSw; (try dsimp only at hSw); go_split_ands; go_simp; first | done | with_reducible rfl)
          try simp only [Act.put, List.setIfInBounds_toArray, List.set_cons_zero, List.set_cons_succ]
          refine wpAnyH_ready (rs := [10, 14]) (by kernel_rfl) (by simp) ?_
          refine AllReadyH.cons (o := { dst := some 49, op := Op.load 22 (Operand.tmp 48), type := 22, pos := "itempart.go:116", after := #[{ on := 9, ground := Ground.data }], guard := none }) rfl (fun K hK => ?_) ?_
          · go_simp
            refine hK.out _ _ ?_ ?_
            · (exact ⟨hZ0.c.t4.cell, hZ0.c.p.cell0, hY0.first⟩)
            clear hK K hHeld; intro hHeld
            try simp only [Act.put, List.setIfInBounds_toArray, List.set_cons_zero, List.set_cons_succ]
            refine wpAnyH_ready (rs := [14]) (by kernel_rfl) (by simp) ?_
            refine AllReadyH.cons (o := { dst := some 53, op := Op.buildSlice 22 1 #[(0, Operand.tmp 52)], type := 22, pos := "itempart.go:116", after := #[{ on := 13, ground := Ground.data }], guard := none }) rfl (fun K hK => ?_) AllReadyH.nil
            go_simp
            refine hK.out _ _ ?_ ?_
            · (exact ⟨(hZ0.alloc _).c.t4.cell, (hZ0.alloc _).c.p.cell0, (hY0.keep (hZ0.qbelow ((Below.refl _ _).alloc (Nat.le_refl _) _))).first⟩)
            clear hK K hHeld; intro hHeld
            try simp only [Act.put, List.setIfInBounds_toArray, List.set_cons_zero, List.set_cons_succ]
            have hY1 := hY0.keep (hZ0.qbelow ((Below.refl _ wz0).alloc (Nat.le_refl _) (.cells #[.slice A0 n0x c0] 23)))
            have hZ1 := hZ0.alloc (.cells #[.slice A0 n0x c0] 23)
            have hd2 : Sees (wz0.alloc (.cells #[.slice A0 n0x c0] 23)) (wz0.alloc (.cells #[.slice A0 n0x c0] 23)).heap.size (some ⟨wz0.heap.size, 0, none⟩) [.slice A0 n0x c0] := ⟨.inr ⟨_, rfl, by simp, fun j u hu => by match j, hu with | 0, hu => (simp at hu; subst hu; rw [Addr.add_lit, World.cell?_alloc_at _ _ _ _ rfl]; rfl)⟩⟩
            obtain ⟨wz1, hwz1⟩ : ∃ wz1, (wz0.alloc (.cells #[.slice A0 n0x c0] 23)) = wz1 := ⟨_, rfl⟩
            rw [hwz1] at hZ1 hY1 hd2 hHeld ⊢
            clear hwz1
            have p1 := hZ1.c.x.cell; have f1 := hZ1.c.x.frozen
            refine wpAnyH_ready (rs := [15]) (by kernel_rfl) (by simp) ?_
            refine AllReadyH.cons (o := { dst := some 54, op := Op.call { callee := Callee.builtin Builtin.append, args := #[Operand.tmp 49, Operand.tmp 53], argTypes := #[22, 22] }, type := 22, pos := "itempart.go:116", after := #[{ on := 10, ground := Ground.data }, { on := 14, ground := Ground.data }], guard := none }) rfl (fun K hK => ?_) AllReadyH.nil
            obtain ⟨vs, g1, g2⟩ := hZ1.pushF
            have hsz1 := hZ1.size
            obtain ⟨hxa, hxb, hxc⟩ := hY1.x
            refine step_append_v (by rfl) (.tmp 49) (.tmp 53) 22 (by rfl) 23 i1 _ 1 24 Tryd.underlying22 hi1 hz1 hy1 hx1 rfl (by omega) (w.heap.size + 9) _ _ _ (by rfl) g1 _ (some ⟨wz0.heap.size, 0, none⟩) 1 1 [.slice A0 n0x c0] (by rfl) rfl hd2 (fun u hu => by simp at hu; subst hu; rfl) (by simp only [maxLen]; omega) (by omega) (by omega) ?_
            intro v' wz3 hown3 hon3
            obtain ⟨hc3, hq3, hqs3, hZ3⟩ := g2 wz3 v' x A0 c0 hxb hxc (by rw [hxa]; exact hown3) hon3
            obtain ⟨gv, cv', rfl⟩ := ownsRow_succ hown3
            have hY3 := hY1.keep hq3
            have p3 := hc3.x.cell; have f3 := hc3.x.frozen
            refine hK.out _ _ ?_ ?_
            · (exact ⟨hc3.t4.cell, hc3.p.cell0, hY3.first⟩)
            clear hK K hHeld; intro hHeld
            try simp only [Act.put, List.setIfInBounds_toArray, List.set_cons_zero, List.set_cons_succ]
            refine wpAnyH_take (i := 16) (oi := { dst := some 55, op := Op.nilCheck (Operand.tmp 42), type := 0, pos := "itempart.go:116", after := #[{ on := 3, ground := Ground.data }, { on := 0, ground := Ground.phase }, { on := 1, ground := Ground.phase }, { on := 2, ground := Ground.phase }, { on := 3, ground := Ground.phase }, { on := 4, ground := Ground.phase }, { on := 5, ground := Ground.phase }, { on := 6, ground := Ground.phase }, { on := 7, ground := Ground.phase }, { on := 8, ground := Ground.phase }, { on := 9, ground := Ground.phase }, { on := 10, ground := Ground.phase }, { on := 11, ground := Ground.phase }, { on := 12, ground := Ground.phase }, { on := 13, ground := Ground.phase }, { on := 14, ground := Ground.phase }, { on := 15, ground := Ground.phase }], guard := none }) (v := ?_) rfl (by kernel_rfl) (by kernel_rfl) (by kernel_rfl) (fun _ _ _ h => h) (Or.inl ⟨by rfl, ?_⟩) hHeld ?_
            rotate_left
            · (intro w' hSw; (try dsimp only at hSw); go_split_ands; go_simp; first | done | with_reducible rfl)
            try simp only [Act.put, List.setIfInBounds_toArray, List.set_cons_zero, List.set_cons_succ]
            refine wpAnyH_take (i := 17) (oi := { dst := some 56, op := Op.fieldAddr 58 (Operand.tmp 55) 0, type := 0, pos := "itempart.go:116", after := #[{ on := 16, ground := Ground.data }, { on := 0, ground := Ground.phase }, { on := 1, ground := Ground.phase }, { on := 2, ground := Ground.phase }, { on := 3, ground := Ground.phase }, { on := 4, ground := Ground.phase }, { on := 5, ground := Ground.phase }, { on := 6, ground := Ground.phase }, { on := 7, ground := Ground.phase }, { on := 8, ground := Ground.phase }, { on := 9, ground := Ground.phase }, { on := 10, ground := Ground.phase }, { on := 11, ground := Ground.phase }, { on := 12, ground := Ground.phase }, { on := 13, ground := Ground.phase }, { on := 14, ground := Ground.phase }, { on := 15, ground := Ground.phase }], guard := none }) (v := ?_) rfl (by kernel_rfl) (by kernel_rfl) (by kernel_rfl) (fun _ _ _ h => h) (Or.inl ⟨by rfl, ?_⟩) hHeld ?_
            rotate_left
            · (intro w' hSw; (try dsimp only at hSw); go_split_ands; go_simp; first | done | with_reducible rfl)
            try simp only [Act.put, List.setIfInBounds_toArray, List.set_cons_zero, List.set_cons_succ]
            refine wpAnyH_ready (rs := [18]) (by kernel_rfl) (by simp) ?_
            refine AllReadyH.cons (o := { dst := none, op := Op.store 22 (Operand.tmp 56) (Operand.tmp 54), type := 0, pos := "itempart.go:116", after := #[{ on := 17, ground := Ground.data }, { on := 15, ground := Ground.data }, { on := 15, ground := Ground.chain }, { on := 0, ground := Ground.phase }, { on := 1, ground := Ground.phase }, { on := 2, ground := Ground.phase }, { on := 3, ground := Ground.phase }, { on := 4, ground := Ground.phase }, { on := 5, ground := Ground.phase }, { on := 6, ground := Ground.phase }, { on := 7, ground := Ground.phase }, { on := 8, ground := Ground.phase }, { on := 9, ground := Ground.phase }, { on := 10, ground := Ground.phase }, { on := 11, ground := Ground.phase }, { on := 12, ground := Ground.phase }, { on := 13, ground := Ground.phase }, { on := 14, ground := Ground.phase }, { on := 15, ground := Ground.phase }], guard := none }) rfl (fun K hK => ?_) AllReadyH.nil
            go_simp
            refine hK.out _ _ ?_ ?_
            · (exact ⟨hZ3.c.t4.cell, hZ3.c.p.cell0, (hY3.keep (hqs3 _ _ (by simp))).first⟩)
            clear hK K hHeld; intro hHeld
            try simp only [Act.put, List.setIfInBounds_toArray, List.set_cons_zero, List.set_cons_succ]
            refine wpAnyH_done (by kernel_rfl) ?_ _
            refine Only.normal ?_
            have hY3' := hY3.keep (hqs3 ⟨w.heap.size + 2, 0, none⟩ (.slice (some ⟨gv, 0, none⟩) (fs.length + 1) cv') (by simp))
            generalize wz3.setCell ⟨w.heap.size + 2, 0, none⟩ (.slice (some ⟨gv, 0, none⟩) (fs.length + 1) cv') = w4 at hZ3 hY3' ⊢
            clear hZ0 hZ1 hY0 hY1 hY3 hd2 hon3 hown3 g1 g2 hc3 hq3 hqs3 p0 f0 p1 f1 p3 f3 hHeld hsz1 hxa hxb hxc
            have hY5 := hY3'.keep (hZ3.qmine ⟨w.heap.size + 3, 2, none⟩ (.int .i64 (many + nl : Nat)) (by simp))
            have hZ5 := hZ3.setN (many + nl)
            rw [Int.natCast_add] at hY5 hZ5
            have p2 := hZ3.c.p.cell2
            have f2 := hZ3.c.p.frozen2
            have t4c := hZ3.c.t4.cell
            have t5c := hZ3.c.t5.cell
            obtain ⟨vsA, g1, g2⟩ := hZ5.pushA
            have hseeA := hY5.sees.sees (B := _) (fun k hk => (hZ5.o.qlt k hk).2)
            have hsz5 := hZ5.size
            have hln5 : (Value.slice A0 n0x c0 :: vt).length = nl * 1 := by rw [hY5.len, HNL.out, Nat.mul_one]
            gi_wp2_with ((with_reducible refine wpListIn_append_v (o := { dst := some 68, op := Op.call { callee := Callee.builtin Builtin.append, args := #[Operand.tmp 66, Operand.tmp 67], argTypes := #[22, 22] }, type := 22, pos := "itempart.go:118", after := #[{ on := 0, ground := Ground.data }, { on := 1, ground := Ground.data }], guard := none }) ?_ (.tmp 66) (.tmp 67) 22 ?_ 23 i1 _ 1 24 ?_ hi1 hz1 hy1 hx1 ?_ ?_ (w.heap.size + 9) _ _ _ ?_ g1 _ (some ⟨g, 0, none⟩) nl cl _ ?_ hln5 hseeA ?_ ?_ ?_ ?_ ?_); exact rfl; exact rfl; exact Tryd.underlying22; exact rfl; omega; exact rfl; exact rfl; exact hY5.one; (simp only [maxLen]; omega); omega; omega; intro v' wn hown hon; obtain ⟨gv, cv', ev, -, -⟩ := World.ownsRow.form hown (by omega); subst ev; obtain ⟨hc6, -, -, hZ6⟩ := g2 wn _ (x :: t) _ hY5.cells (by rw [HNL.out]; exact hown) hon; have t5c := hc6.t5.cell; have t5f := hc6.t5.frozen)
            have ht6 := hZ6.t
            have HZ1 := HZ1.out
            refine And.intro (ht6.mono fun j _ e => ?_) (hZ6.done (pre := List.map (fun z : Framed => z.1) (pre ++ [y])) (by rw [List.map_append, HFS.out]; rfl) (by rw [List.flatten_append, HAL.out]; simp) (by rw [List.length_append, HMY.out, HNL.out]) (by rw [hpm]; exact HU.out) hbel hsz)
            exact ⟨e.1, by have := e.2.1; show ¬ j < w.heap.size; omega, by have := e.2.2.1; omega, by have := e.2.2.2; omega⟩
          refine AllReadyH.cons (o := { dst := some 53, op := Op.buildSlice 22 1 #[(0, Operand.tmp 52)], type := 22, pos := "itempart.go:116", after := #[{ on := 13, ground := Ground.data }], guard := none }) rfl (fun K hK => ?_) AllReadyH.nil
          go_simp
          refine hK.out _ _ ?_ ?_
          · (exact ⟨(hZ0.alloc _).c.t4.cell, (hZ0.alloc _).c.p.cell0, (hY0.keep (hZ0.qbelow ((Below.refl _ _).alloc (Nat.le_refl _) _))).first⟩)
          clear hK K hHeld; intro hHeld
          try simp only [Act.put, List.setIfInBounds_toArray, List.set_cons_zero, List.set_cons_succ]
          have hY1 := hY0.keep (hZ0.qbelow ((Below.refl _ wz0).alloc (Nat.le_refl _) (.cells #[.slice A0 n0x c0] 23)))
          have hZ1 := hZ0.alloc (.cells #[.slice A0 n0x c0] 23)
          have hd2 : Sees (wz0.alloc (.cells #[.slice A0 n0x c0] 23)) (wz0.alloc (.cells #[.slice A0 n0x c0] 23)).heap.size (some ⟨wz0.heap.size, 0, none⟩) [.slice A0 n0x c0] := ⟨.inr ⟨_, rfl, by simp, fun j u hu => by match j, hu with | 0, hu => (simp at hu; subst hu; rw [Addr.add_lit, World.cell?_alloc_at _ _ _ _ rfl]; rfl)⟩⟩
          obtain ⟨wz1, hwz1⟩ : ∃ wz1, (wz0.alloc (.cells #[.slice A0 n0x c0] 23)) = wz1 := ⟨_, rfl⟩
          rw [hwz1] at hZ1 hY1 hd2 hHeld ⊢
          clear hwz1
          have p1 := hZ1.c.x.cell; have f1 := hZ1.c.x.frozen
          refine wpAnyH_ready (rs := [10]) (by kernel_rfl) (by simp) ?_
          refine AllReadyH.cons (o := { dst := some 49, op := Op.load 22 (Operand.tmp 48), type := 22, pos := "itempart.go:116", after := #[{ on := 9, ground := Ground.data }], guard := none }) rfl (fun K hK => ?_) AllReadyH.nil
          go_simp
          refine hK.out _ _ ?_ ?_
          · (exact ⟨hZ1.c.t4.cell, hZ1.c.p.cell0, hY1.first⟩)
          clear hK K hHeld; intro hHeld
          try simp only [Act.put, List.setIfInBounds_toArray, List.set_cons_zero, List.set_cons_succ]
          refine wpAnyH_ready (rs := [15]) (by kernel_rfl) (by simp) ?_
          refine AllReadyH.cons (o := { dst := some 54, op := Op.call { callee := Callee.builtin Builtin.append, args := #[Operand.tmp 49, Operand.tmp 53], argTypes := #[22, 22] }, type := 22, pos := "itempart.go:116", after := #[{ on := 10, ground := Ground.data }, { on := 14, ground := Ground.data }], guard := none }) rfl (fun K hK => ?_) AllReadyH.nil
          obtain ⟨vs, g1, g2⟩ := hZ1.pushF
          have hsz1 := hZ1.size
          obtain ⟨hxa, hxb, hxc⟩ := hY1.x
          refine step_append_v (by rfl) (.tmp 49) (.tmp 53) 22 (by rfl) 23 i1 _ 1 24 Tryd.underlying22 hi1 hz1 hy1 hx1 rfl (by omega) (w.heap.size + 9) _ _ _ (by rfl) g1 _ (some ⟨wz0.heap.size, 0, none⟩) 1 1 [.slice A0 n0x c0] (by rfl) rfl hd2 (fun u hu => by simp at hu; subst hu; rfl) (by simp only [maxLen]; omega) (by omega) (by omega) ?_
          intro v' wz3 hown3 hon3
          obtain ⟨hc3, hq3, hqs3, hZ3⟩ := g2 wz3 v' x A0 c0 hxb hxc (by rw [hxa]; exact hown3) hon3
          obtain ⟨gv, cv', rfl⟩ := ownsRow_succ hown3
          have hY3 := hY1.keep hq3
          have p3 := hc3.x.cell; have f3 := hc3.x.frozen
          refine hK.out _ _ ?_ ?_
          · (exact ⟨hc3.t4.cell, hc3.p.cell0, hY3.first⟩)
          clear hK K hHeld; intro hHeld
          try simp only [Act.put, List.setIfInBounds_toArray, List.set_cons_zero, List.set_cons_succ]
          refine wpAnyH_take (i := 16) (oi := { dst := some 55, op := Op.nilCheck (Operand.tmp 42), type := 0, pos := "itempart.go:116", after := #[{ on := 3, ground := Ground.data }, { on := 0, ground := Ground.phase }, { on := 1, ground := Ground.phase }, { on := 2, ground := Ground.phase }, { on := 3, ground := Ground.phase }, { on := 4, ground := Ground.phase }, { on := 5, ground := Ground.phase }, { on := 6, ground := Ground.phase }, { on := 7, ground := Ground.phase }, { on := 8, ground := Ground.phase }, { on := 9, ground := Ground.phase }, { on := 10, ground := Ground.phase }, { on := 11, ground := Ground.phase }, { on := 12, ground := Ground.phase }, { on := 13, ground := Ground.phase }, { on := 14, ground := Ground.phase }, { on := 15, ground := Ground.phase }], guard := none }) (v := ?_) rfl (by kernel_rfl) (by kernel_rfl) (by kernel_rfl) (fun _ _ _ h => h) (Or.inl ⟨by rfl, ?_⟩) hHeld ?_
          rotate_left
          · (intro w' hSw; (try dsimp only at hSw); go_split_ands; go_simp; first | done | with_reducible rfl)
          try simp only [Act.put, List.setIfInBounds_toArray, List.set_cons_zero, List.set_cons_succ]
          refine wpAnyH_take (i := 17) (oi := { dst := some 56, op := Op.fieldAddr 58 (Operand.tmp 55) 0, type := 0, pos := "itempart.go:116", after := #[{ on := 16, ground := Ground.data }, { on := 0, ground := Ground.phase }, { on := 1, ground := Ground.phase }, { on := 2, ground := Ground.phase }, { on := 3, ground := Ground.phase }, { on := 4, ground := Ground.phase }, { on := 5, ground := Ground.phase }, { on := 6, ground := Ground.phase }, { on := 7, ground := Ground.phase }, { on := 8, ground := Ground.phase }, { on := 9, ground := Ground.phase }, { on := 10, ground := Ground.phase }, { on := 11, ground := Ground.phase }, { on := 12, ground := Ground.phase }, { on := 13, ground := Ground.phase }, { on := 14, ground := Ground.phase }, { on := 15, ground := Ground.phase }], guard := none }) (v := ?_) rfl (by kernel_rfl) (by kernel_rfl) (by kernel_rfl) (fun _ _ _ h => h) (Or.inl ⟨by rfl, ?_⟩) hHeld ?_
          rotate_left
          · (intro w' hSw; (try dsimp only at hSw); go_split_ands; go_simp; first | done | with_reducible rfl)
          try simp only [Act.put, List.setIfInBounds_toArray, List.set_cons_zero, List.set_cons_succ]
          refine wpAnyH_ready (rs := [18]) (by kernel_rfl) (by simp) ?_
          refine AllReadyH.cons (o := { dst := none, op := Op.store 22 (Operand.tmp 56) (Operand.tmp 54), type := 0, pos := "itempart.go:116", after := #[{ on := 17, ground := Ground.data }, { on := 15, ground := Ground.data }, { on := 15, ground := Ground.chain }, { on := 0, ground := Ground.phase }, { on := 1, ground := Ground.phase }, { on := 2, ground := Ground.phase }, { on := 3, ground := Ground.phase }, { on := 4, ground := Ground.phase }, { on := 5, ground := Ground.phase }, { on := 6, ground := Ground.phase }, { on := 7, ground := Ground.phase }, { on := 8, ground := Ground.phase }, { on := 9, ground := Ground.phase }, { on := 10, ground := Ground.phase }, { on := 11, ground := Ground.phase }, { on := 12, ground := Ground.phase }, { on := 13, ground := Ground.phase }, { on := 14, ground := Ground.phase }, { on := 15, ground := Ground.phase }], guard := none }) rfl (fun K hK => ?_) AllReadyH.nil
          go_simp
          refine hK.out _ _ ?_ ?_
          · (exact ⟨hZ3.c.t4.cell, hZ3.c.p.cell0, (hY3.keep (hqs3 _ _ (by simp))).first⟩)
          clear hK K hHeld; intro hHeld
          try simp only [Act.put, List.setIfInBounds_toArray, List.set_cons_zero, List.set_cons_succ]
          refine wpAnyH_done (by kernel_rfl) ?_ _
          refine Only.normal ?_
          have hY3' := hY3.keep (hqs3 ⟨w.heap.size + 2, 0, none⟩ (.slice (some ⟨gv, 0, none⟩) (fs.length + 1) cv') (by simp))
          generalize wz3.setCell ⟨w.heap.size + 2, 0, none⟩ (.slice (some ⟨gv, 0, none⟩) (fs.length + 1) cv') = w4 at hZ3 hY3' ⊢
          clear hZ0 hZ1 hY0 hY1 hY3 hd2 hon3 hown3 g1 g2 hc3 hq3 hqs3 p0 f0 p1 f1 p3 f3 hHeld hsz1 hxa hxb hxc
          have hY5 := hY3'.keep (hZ3.qmine ⟨w.heap.size + 3, 2, none⟩ (.int .i64 (many + nl : Nat)) (by simp))
          have hZ5 := hZ3.setN (many + nl)
          rw [Int.natCast_add] at hY5 hZ5
          have p2 := hZ3.c.p.cell2
          have f2 := hZ3.c.p.frozen2
          have t4c := hZ3.c.t4.cell
          have t5c := hZ3.c.t5.cell
          obtain ⟨vsA, g1, g2⟩ := hZ5.pushA
          have hseeA := hY5.sees.sees (B := _) (fun k hk => (hZ5.o.qlt k hk).2)
          have hsz5 := hZ5.size
          have hln5 : (Value.slice A0 n0x c0 :: vt).length = nl * 1 := by rw [hY5.len, HNL.out, Nat.mul_one]
          gi_wp2_with ((with_reducible refine wpListIn_append_v (o := { dst := some 68, op := Op.call { callee := Callee.builtin Builtin.append, args := #[Operand.tmp 66, Operand.tmp 67], argTypes := #[22, 22] }, type := 22, pos := "itempart.go:118", after := #[{ on := 0, ground := Ground.data }, { on := 1, ground := Ground.data }], guard := none }) ?_ (.tmp 66) (.tmp 67) 22 ?_ 23 i1 _ 1 24 ?_ hi1 hz1 hy1 hx1 ?_ ?_ (w.heap.size + 9) _ _ _ ?_ g1 _ (some ⟨g, 0, none⟩) nl cl _ ?_ hln5 hseeA ?_ ?_ ?_ ?_ ?_); exact rfl; exact rfl; exact Tryd.underlying22; exact rfl; omega; exact rfl; exact rfl; exact hY5.one; (simp only [maxLen]; omega); omega; omega; intro v' wn hown hon; obtain ⟨gv, cv', ev, -, -⟩ := World.ownsRow.form hown (by omega); subst ev; obtain ⟨hc6, -, -, hZ6⟩ := g2 wn _ (x :: t) _ hY5.cells (by rw [HNL.out]; exact hown) hon; have t5c := hc6.t5.cell; have t5f := hc6.t5.frozen)
          have ht6 := hZ6.t
          have HZ1 := HZ1.out
          refine And.intro (ht6.mono fun j _ e => ?_) (hZ6.done (pre := List.map (fun z : Framed => z.1) (pre ++ [y])) (by rw [List.map_append, HFS.out]; rfl) (by rw [List.flatten_append, HAL.out]; simp) (by rw [List.length_append, HMY.out, HNL.out]) (by rw [hpm]; exact HU.out) hbel hsz)
          exact ⟨e.1, by have := e.2.1; show ¬ j < w.heap.size; omega, by have := e.2.2.1; omega, by have := e.2.2.2; omega⟩
        refine AllReadyH.cons (o := { dst := some 35, op := Op.buildSlice 47 1 #[(0, Operand.tmp 34)], type := 47, pos := "itempart.go:115", after := #[{ on := 5, ground := Ground.data }], guard := none }) rfl (fun K hK => ?_) AllReadyH.nil
        go_simp
        refine hK.out _ _ ?_ ?_
        · (exact (hZ0.alloc _).c.t4.cell)
        clear hK K hHeld; intro hHeld
        try simp only [Act.put, List.setIfInBounds_toArray, List.set_cons_zero, List.set_cons_succ]
        have hY1 := hY0.keep (hZ0.qbelow ((Below.refl _ wz0).alloc (Nat.le_refl _) (.cells #[.slice (some ⟨g, 0, none⟩) nl cl] 22)))
        have hZ1 := hZ0.alloc (.cells #[.slice (some ⟨g, 0, none⟩) nl cl] 22)
        have hd2 : Sees (wz0.alloc (.cells #[.slice (some ⟨g, 0, none⟩) nl cl] 22)) (wz0.alloc (.cells #[.slice (some ⟨g, 0, none⟩) nl cl] 22)).heap.size (some ⟨wz0.heap.size, 0, none⟩) [.slice (some ⟨g, 0, none⟩) nl cl] := ⟨.inr ⟨_, rfl, by simp, fun j u hu => by match j, hu with | 0, hu => (simp at hu; subst hu; rw [Addr.add_lit, World.cell?_alloc_at _ _ _ _ rfl]; rfl)⟩⟩
        obtain ⟨wz1, hwz1⟩ : ∃ wz1, (wz0.alloc (.cells #[.slice (some ⟨g, 0, none⟩) nl cl] 22)) = wz1 := ⟨_, rfl⟩
        rw [hwz1] at hZ1 hY1 hd2 hHeld ⊢
        clear hwz1
        have p1 := hZ1.c.p.cell1; have f1 := hZ1.c.p.frozen1
        refine wpAnyH_ready (rs := [4]) (by kernel_rfl) (by simp) ?_
        refine AllReadyH.cons (o := { dst := some 33, op := Op.load 47 (Operand.tmp 32), type := 47, pos := "itempart.go:115", after := #[{ on := 3, ground := Ground.data }], guard := none }) rfl (fun K hK => ?_) AllReadyH.nil
        go_simp
        refine hK.out _ _ ?_ ?_
        · (exact hZ1.c.t4.cell)
        clear hK K hHeld; intro hHeld
        try simp only [Act.put, List.setIfInBounds_toArray, List.set_cons_zero, List.set_cons_succ]
        refine wpAnyH_ready (rs := [7]) (by kernel_rfl) (by simp) ?_
        refine AllReadyH.cons (o := { dst := some 36, op := Op.call { callee := Callee.builtin Builtin.append, args := #[Operand.tmp 33, Operand.tmp 35], argTypes := #[47, 47] }, type := 47, pos := "itempart.go:115", after := #[{ on := 4, ground := Ground.data }, { on := 6, ground := Ground.data }], guard := none }) rfl (fun K hK => ?_) AllReadyH.nil
        obtain ⟨vs, g1, g2⟩ := hZ1.pushB
        have hsz1 := hZ1.size
        refine step_append_v (by rfl) (.tmp 33) (.tmp 35) 47 (by rfl) 22 i2 _ 1 24 Tryd.underlying47 hi2 hz2 hy2 hx2 rfl (by omega) (w.heap.size + 9) _ _ _ (by rfl) g1 _ (some ⟨wz0.heap.size, 0, none⟩) 1 1 [.slice (some ⟨g, 0, none⟩) nl cl] (by rfl) rfl hd2 (fun u hu => by simp at hu; subst hu; rfl) (by simp only [maxLen]; omega) (by omega) (by omega) ?_
        intro v' wz3 hown3 hon3
        obtain ⟨hc3, hq3, hqs3, hZ3⟩ := g2 wz3 v' (x :: t) (some ⟨g, 0, none⟩) cl (by rw [HNL.out]; exact hlc) hY1.sees2 (by rw [HNL.out]; exact hown3) hon3
        obtain ⟨gv, cv', rfl⟩ := ownsRow_succ hown3
        have hY3 := hY1.keep hq3
        have p3 := hc3.p.cell1; have f3 := hc3.p.frozen1
        refine hK.out _ _ ?_ ?_
        · (exact hc3.t4.cell)
        clear hK K hHeld; intro hHeld
        try simp only [Act.put, List.setIfInBounds_toArray, List.set_cons_zero, List.set_cons_succ]
        refine wpAnyH_take (i := 8) (oi := { dst := some 37, op := Op.nilCheck (Operand.tmp 29), type := 0, pos := "itempart.go:115", after := #[{ on := 0, ground := Ground.data }, { on := 0, ground := Ground.phase }, { on := 1, ground := Ground.phase }, { on := 2, ground := Ground.phase }, { on := 3, ground := Ground.phase }, { on := 4, ground := Ground.phase }, { on := 5, ground := Ground.phase }, { on := 6, ground := Ground.phase }, { on := 7, ground := Ground.phase }], guard := none }) (v := ?_) rfl (by kernel_rfl) (by kernel_rfl) (by kernel_rfl) (fun _ _ _ h => h) (Or.inl ⟨by rfl, ?_⟩) hHeld ?_
        rotate_left
        · (intro w' hSw; (try dsimp only at hSw); go_split_ands; go_simp; first | done | with_reducible rfl)
        try simp only [Act.put, List.setIfInBounds_toArray, List.set_cons_zero, List.set_cons_succ]
        refine wpAnyH_take (i := 9) (oi := { dst := some 38, op := Op.fieldAddr 60 (Operand.tmp 37) 1, type := 0, pos := "itempart.go:115", after := #[{ on := 8, ground := Ground.data }, { on := 0, ground := Ground.phase }, { on := 1, ground := Ground.phase }, { on := 2, ground := Ground.phase }, { on := 3, ground := Ground.phase }, { on := 4, ground := Ground.phase }, { on := 5, ground := Ground.phase }, { on := 6, ground := Ground.phase }, { on := 7, ground := Ground.phase }], guard := none }) (v := ?_) rfl (by kernel_rfl) (by kernel_rfl) (by kernel_rfl) (fun _ _ _ h => h) (Or.inl ⟨by rfl, ?_⟩) hHeld ?_
        rotate_left
        · (intro w' hSw; (try dsimp only at hSw); go_split_ands; go_simp; first | done | with_reducible rfl)
        try simp only [Act.put, List.setIfInBounds_toArray, List.set_cons_zero, List.set_cons_succ]
        refine wpAnyH_ready (rs := [10]) (by kernel_rfl) (by simp) ?_
        refine AllReadyH.cons (o := { dst := none, op := Op.store 47 (Operand.tmp 38) (Operand.tmp 36), type := 0, pos := "itempart.go:115", after := #[{ on := 9, ground := Ground.data }, { on := 7, ground := Ground.data }, { on := 7, ground := Ground.chain }, { on := 0, ground := Ground.phase }, { on := 1, ground := Ground.phase }, { on := 2, ground := Ground.phase }, { on := 3, ground := Ground.phase }, { on := 4, ground := Ground.phase }, { on := 5, ground := Ground.phase }, { on := 6, ground := Ground.phase }, { on := 7, ground := Ground.phase }], guard := none }) rfl (fun K hK => ?_) AllReadyH.nil
        go_simp
        refine hK.out _ _ ?_ ?_
        · (exact hZ3.c.t4.cell)
        clear hK K hHeld; intro hHeld
        try simp only [Act.put, List.setIfInBounds_toArray, List.set_cons_zero, List.set_cons_succ]
        refine wpAnyH_done (by kernel_rfl) ?_ _
        refine Only.normal ?_
        have hY2 := hY3.keep (hqs3 ⟨w.heap.size + 3, 1, none⟩ (.slice (some ⟨gv, 0, none⟩) (bl.length + 1) cv') (by simp))
        have hR3 := hZ3
        generalize wz3.setCell ⟨w.heap.size + 3, 1, none⟩ (.slice (some ⟨gv, 0, none⟩) (bl.length + 1) cv') = w3 at hR3 hY2 ⊢
        clear hZ0 hZ1 hY0 hY1 hY3 hd2 hon3 hown3 g1 g2 hc3 hq3 hqs3 p0 f0 p1 f1 p3 f3 hHeld hsz1 hZ3
        gi_wp2_with fail
        refine wpIn_round_held (S := fun W' => W'.cell? ⟨w.heap.size + 4, 0, none⟩ = some (.pointer (some ⟨w.heap.size + 3, 0, none⟩)) ∧ W'.cell? ⟨w.heap.size + 3, 0, none⟩ = some (.pointer (some ⟨w.heap.size + 2, 0, none⟩)) ∧ W'.cell? ⟨g, 0, none⟩ = some (.slice A0 n0x c0)) (by kernel_rfl) (by kernel_rfl) ?_ (fun hHeld => ?_)
        · (exact ⟨hR3.drew.c.t4.cell, hR3.drew.c.p.cell0, (hY2.keep (hR3.qbelow (below_drew (Below.refl _ _)))).first⟩)
        have hZ0 := hR3.drew
        have hY0 := hY2.keep (hR3.qbelow (below_drew (Below.refl _ _)))
        generalize w3.drew = wz0 at hZ0 hY0 hHeld ⊢
        have p0 := hZ0.c.x.cell; have f0 := hZ0.c.x.frozen
        refine wpAnyH_take (i := 0) (oi := { dst := some 39, op := Op.load 29 (Operand.tmp 4), type := 29, pos := "itempart.go:116", after := #[], guard := none }) (v := ?_) rfl (by kernel_rfl) (by kernel_rfl) (by kernel_rfl) (fun _ _ _ h => h) (Or.inl ⟨by rfl, ?_⟩) hHeld ?_
        rotate_left
        · (intro w' hSw; (try dsimp only at hSw); go_split_ands; go_simp; first | done | with_reducible rfl)
        try simp only [Act.put, List.setIfInBounds_toArray, List.set_cons_zero, List.set_cons_succ]
        refine wpAnyH_take (i := 1) (oi := { dst := some 40, op := Op.nilCheck (Operand.tmp 39), type := 0, pos := "itempart.go:116", after := #[{ on := 0, ground := Ground.data }], guard := none }) (v := ?_) rfl (by kernel_rfl) (by kernel_rfl) (by kernel_rfl) (fun _ _ _ h => h) (Or.inl ⟨by rfl, ?_⟩) hHeld ?_
        rotate_left
        · (intro w' hSw; (try dsimp only at hSw); go_split_ands; go_simp; first | done | with_reducible rfl)
        try simp only [Act.put, List.setIfInBounds_toArray, List.set_cons_zero, List.set_cons_succ]
        refine wpAnyH_take (i := 2) (oi := { dst := some 41, op := Op.fieldAddr 60 (Operand.tmp 40) 0, type := 0, pos := "itempart.go:116", after := #[{ on := 1, ground := Ground.data }], guard := none }) (v := ?_) rfl (by kernel_rfl) (by kernel_rfl) (by kernel_rfl) (fun _ _ _ h => h) (Or.inl ⟨by rfl, ?_⟩) hHeld ?_
        rotate_left
        · (intro w' hSw; (try dsimp only at hSw); go_split_ands; go_simp; first | done | with_reducible rfl)
        try simp only [Act.put, List.setIfInBounds_toArray, List.set_cons_zero, List.set_cons_succ]
        refine wpAnyH_take (i := 3) (oi := { dst := some 42, op := Op.load 56 (Operand.tmp 41), type := 56, pos := "itempart.go:116", after := #[{ on := 2, ground := Ground.data }], guard := none }) (v := ?_) rfl (by kernel_rfl) (by kernel_rfl) (by kernel_rfl) (fun _ _ _ h => h) (Or.inl ⟨by rfl, ?_⟩) hHeld ?_
        rotate_left
        · (intro w' hSw; (try dsimp only at hSw); go_split_ands; go_simp; first | done | with_reducible rfl)
        try simp only [Act.put, List.setIfInBounds_toArray, List.set_cons_zero, List.set_cons_succ]
        refine wpAnyH_take (i := 4) (oi := { dst := some 43, op := Op.load 29 (Operand.tmp 4), type := 29, pos := "itempart.go:116", after := #[], guard := none }) (v := ?_) rfl (by kernel_rfl) (by kernel_rfl) (by kernel_rfl) (fun _ _ _ h => h) (Or.inl ⟨by rfl, ?_⟩) hHeld ?_
        rotate_left
        · (intro w' hSw; (try dsimp only at hSw); go_split_ands; go_simp; first | done | with_reducible rfl)
        try simp only [Act.put, List.setIfInBounds_toArray, List.set_cons_zero, List.set_cons_succ]
        refine wpAnyH_take (i := 5) (oi := { dst := some 44, op := Op.nilCheck (Operand.tmp 43), type := 0, pos := "itempart.go:116", after := #[{ on := 4, ground := Ground.data }], guard := none }) (v := ?_) rfl (by kernel_rfl) (by kernel_rfl) (by kernel_rfl) (fun _ _ _ h => h) (Or.inl ⟨by rfl, ?_⟩) hHeld ?_
        rotate_left
        · (intro w' hSw; (try dsimp only at hSw); go_split_ands; go_simp; first | done | with_reducible rfl)
        try simp only [Act.put, List.setIfInBounds_toArray, List.set_cons_zero, List.set_cons_succ]
        refine wpAnyH_take (i := 6) (oi := { dst := some 45, op := Op.fieldAddr 60 (Operand.tmp 44) 0, type := 0, pos := "itempart.go:116", after := #[{ on := 5, ground := Ground.data }], guard := none }) (v := ?_) rfl (by kernel_rfl) (by kernel_rfl) (by kernel_rfl) (fun _ _ _ h => h) (Or.inl ⟨by rfl, ?_⟩) hHeld ?_
        rotate_left
        · (intro w' hSw; (try dsimp only at hSw); go_split_ands; go_simp; first | done | with_reducible rfl)
        try simp only [Act.put, List.setIfInBounds_toArray, List.set_cons_zero, List.set_cons_succ]
        refine wpAnyH_take (i := 7) (oi := { dst := some 46, op := Op.load 56 (Operand.tmp 45), type := 56, pos := "itempart.go:116", after := #[{ on := 6, ground := Ground.data }], guard := none }) (v := ?_) rfl (by kernel_rfl) (by kernel_rfl) (by kernel_rfl) (fun _ _ _ h => h) (Or.inl ⟨by rfl, ?_⟩) hHeld ?_
        rotate_left
        · (intro w' hSw; (try dsimp only at hSw); go_split_ands; go_simp; first | done | with_reducible rfl)
        try simp only [Act.put, List.setIfInBounds_toArray, List.set_cons_zero, List.set_cons_succ]
        refine wpAnyH_take (i := 8) (oi := { dst := some 47, op := Op.nilCheck (Operand.tmp 46), type := 0, pos := "itempart.go:116", after := #[{ on := 7, ground := Ground.data }], guard := none }) (v := ?_) rfl (by kernel_rfl) (by kernel_rfl) (by kernel_rfl) (fun _ _ _ h => h) (Or.inl ⟨by rfl, ?_⟩) hHeld ?_
        rotate_left
        · (intro w' hSw; (try dsimp only at hSw); go_split_ands; go_simp; first | done | with_reducible rfl)
        try simp only [Act.put, List.setIfInBounds_toArray, List.set_cons_zero, List.set_cons_succ]
        refine wpAnyH_take (i := 9) (oi := { dst := some 48, op := Op.fieldAddr 58 (Operand.tmp 47) 0, type := 0, pos := "itempart.go:116", after := #[{ on := 8, ground := Ground.data }], guard := none }) (v := ?_) rfl (by kernel_rfl) (by kernel_rfl) (by kernel_rfl) (fun _ _ _ h => h) (Or.inl ⟨by rfl, ?_⟩) hHeld ?_
        rotate_left
        · (intro w' hSw; (try dsimp only at hSw); go_split_ands; go_simp; first | done | with_reducible rfl)
        try simp only [Act.put, List.setIfInBounds_toArray, List.set_cons_zero, List.set_cons_succ]
        refine wpAnyH_take (i := 11) (oi := { dst := some 50, op := Op.move (Operand.tmp 8), type := 22, pos := "itempart.go:116", after := #[], guard := none }) (v := ?_) rfl (by kernel_rfl) (by kernel_rfl) (by kernel_rfl) (fun _ _ _ h => h) (Or.inl ⟨by rfl, ?_⟩) hHeld ?_
        rotate_left
        · (intro w' hSw; (try dsimp only at hSw); go_split_ands; go_simp; first | done | with_reducible rfl)
        try simp only [Act.put, List.setIfInBounds_toArray, List.set_cons_zero, List.set_cons_succ]
        refine wpAnyH_take (i := 12) (oi := { dst := some 51, op := Op.indexAddr 22 (Operand.tmp 50) (Operand.const (Value.int IntKind.i64 0)), type := 0, pos := "itempart.go:116", after := #[{ on := 11, ground := Ground.data }], guard := none }) (v := ?_) rfl (by kernel_rfl) (by kernel_rfl) (by kernel_rfl) (fun _ _ _ h => h) (Or.inl ⟨by rfl, ?_⟩) hHeld ?_
        rotate_left
        · (intro w' hSw; (try dsimp only at hSw); go_split_ands; go_simp; first | done | with_reducible rfl)
        try simp only [Act.put, List.setIfInBounds_toArray, List.set_cons_zero, List.set_cons_succ]
        refine wpAnyH_take (i := 13) (oi := { dst := some 52, op := Op.load 23 (Operand.tmp 51), type := 23, pos := "itempart.go:116", after := #[{ on := 12, ground := Ground.data }], guard := none }) (v := ?_) rfl (by kernel_rfl) (by kernel_rfl) (by kernel_rfl) (fun _ _ _ h => h) (Or.inl ⟨by rfl, ?_⟩) hHeld ?_
        rotate_left
        · (intro w' hSw; (try dsimp only at hSw); go_split_ands; go_simp; first | done | with_reducible rfl)
        try simp only [Act.put, List.setIfInBounds_toArray, List.set_cons_zero, List.set_cons_succ]
        refine wpAnyH_ready (rs := [10, 14]) (by kernel_rfl) (by simp) ?_
        refine AllReadyH.cons (o := { dst := some 49, op := Op.load 22 (Operand.tmp 48), type := 22, pos := "itempart.go:116", after := #[{ on := 9, ground := Ground.data }], guard := none }) rfl (fun K hK => ?_) ?_
        · go_simp
          refine hK.out _ _ ?_ ?_
          · (exact ⟨hZ0.c.t4.cell, hZ0.c.p.cell0, hY0.first⟩)
          clear hK K hHeld; intro hHeld
          try simp only [Act.put, List.setIfInBounds_toArray, List.set_cons_zero, List.set_cons_succ]
          refine wpAnyH_ready (rs := [14]) (by kernel_rfl) (by simp) ?_
          refine AllReadyH.cons (o := { dst := some 53, op := Op.buildSlice 22 1 #[(0, Operand.tmp 52)], type := 22, pos := "itempart.go:116", after := #[{ on := 13, ground := Ground.data }], guard := none }) rfl (fun K hK => ?_) AllReadyH.nil
          go_simp
          refine hK.out _ _ ?_ ?_
          · (exact ⟨(hZ0.alloc _).c.t4.cell, (hZ0.alloc _).c.p.cell0, (hY0.keep (hZ0.qbelow ((Below.refl _ _).alloc (Nat.le_refl _) _))).first⟩)
          clear hK K hHeld; intro hHeld
          try simp only [Act.put, List.setIfInBounds_toArray, List.set_cons_zero, List.set_cons_succ]
          have hY1 := hY0.keep (hZ0.qbelow ((Below.refl _ wz0).alloc (Nat.le_refl _) (.cells #[.slice A0 n0x c0] 23)))
          have hZ1 := hZ0.alloc (.cells #[.slice A0 n0x c0] 23)
          have hd2 : Sees (wz0.alloc (.cells #[.slice A0 n0x c0] 23)) (wz0.alloc (.cells #[.slice A0 n0x c0] 23)).heap.size (some ⟨wz0.heap.size, 0, none⟩) [.slice A0 n0x c0] := ⟨.inr ⟨_, rfl, by simp, fun j u hu => by match j, hu with | 0, hu => (simp at hu; subst hu; rw [Addr.add_lit, World.cell?_alloc_at _ _ _ _ rfl]; rfl)⟩⟩
          obtain ⟨wz1, hwz1⟩ : ∃ wz1, (wz0.alloc (.cells #[.slice A0 n0x c0] 23)) = wz1 := ⟨_, rfl⟩
          rw [hwz1] at hZ1 hY1 hd2 hHeld ⊢
          clear hwz1
          have p1 := hZ1.c.x.cell; have f1 := hZ1.c.x.frozen
          refine wpAnyH_ready (rs := [15]) (by kernel_rfl) (by simp) ?_
          refine AllReadyH.cons (o := { dst := some 54, op := Op.call { callee := Callee.builtin Builtin.append, args := #[Operand.tmp 49, Operand.tmp 53], argTypes := #[22, 22] }, type := 22, pos := "itempart.go:116", after := #[{ on := 10, ground := Ground.data }, { on := 14, ground := Ground.data }], guard := none }) rfl (fun K hK => ?_) AllReadyH.nil
          obtain ⟨vs, g1, g2⟩ := hZ1.pushF
          have hsz1 := hZ1.size
          obtain ⟨hxa, hxb, hxc⟩ := hY1.x
          refine step_append_v (by rfl) (.tmp 49) (.tmp 53) 22 (by rfl) 23 i1 _ 1 24 Tryd.underlying22 hi1 hz1 hy1 hx1 rfl (by omega) (w.heap.size + 9) _ _ _ (by rfl) g1 _ (some ⟨wz0.heap.size, 0, none⟩) 1 1 [.slice A0 n0x c0] (by rfl) rfl hd2 (fun u hu => by simp at hu; subst hu; rfl) (by simp only [maxLen]; omega) (by omega) (by omega) ?_
          intro v' wz3 hown3 hon3
          obtain ⟨hc3, hq3, hqs3, hZ3⟩ := g2 wz3 v' x A0 c0 hxb hxc (by rw [hxa]; exact hown3) hon3
          obtain ⟨gv, cv', rfl⟩ := ownsRow_succ hown3
          have hY3 := hY1.keep hq3
          have p3 := hc3.x.cell; have f3 := hc3.x.frozen
          refine hK.out _ _ ?_ ?_
          · (exact ⟨hc3.t4.cell, hc3.p.cell0, hY3.first⟩)
          clear hK K hHeld; intro hHeld
          try simp only [Act.put, List.setIfInBounds_toArray, List.set_cons_zero, List.set_cons_succ]
          refine wpAnyH_take (i := 16) (oi := { dst := some 55, op := Op.nilCheck (Operand.tmp 42), type := 0, pos := "itempart.go:116", after := #[{ on := 3, ground := Ground.data }, { on := 0, ground := Ground.phase }, { on := 1, ground := Ground.phase }, { on := 2, ground := Ground.phase }, { on := 3, ground := Ground.phase }, { on := 4, ground := Ground.phase }, { on := 5, ground := Ground.phase }, { on := 6, ground := Ground.phase }, { on := 7, ground := Ground.phase }, { on := 8, ground := Ground.phase }, { on := 9, ground := Ground.phase }, { on := 10, ground := Ground.phase }, { on := 11, ground := Ground.phase }, { on := 12, ground := Ground.phase }, { on := 13, ground := Ground.phase }, { on := 14, ground := Ground.phase }, { on := 15, ground := Ground.phase }], guard := none }) (v := ?_) rfl (by kernel_rfl) (by kernel_rfl) (by kernel_rfl) (fun _ _ _ h => h) (Or.inl ⟨by rfl, ?_⟩) hHeld ?_
          rotate_left
          · (intro w' hSw; (try dsimp only at hSw); go_split_ands; go_simp; first | done | with_reducible rfl)
          try simp only [Act.put, List.setIfInBounds_toArray, List.set_cons_zero, List.set_cons_succ]
          refine wpAnyH_take (i := 17) (oi := { dst := some 56, op := Op.fieldAddr 58 (Operand.tmp 55) 0, type := 0, pos := "itempart.go:116", after := #[{ on := 16, ground := Ground.data }, { on := 0, ground := Ground.phase }, { on := 1, ground := Ground.phase }, { on := 2, ground := Ground.phase }, { on := 3, ground := Ground.phase }, { on := 4, ground := Ground.phase }, { on := 5, ground := Ground.phase }, { on := 6, ground := Ground.phase }, { on := 7, ground := Ground.phase }, { on := 8, ground := Ground.phase }, { on := 9, ground := Ground.phase }, { on := 10, ground := Ground.phase }, { on := 11, ground := Ground.phase }, { on := 12, ground := Ground.phase }, { on := 13, ground := Ground.phase }, { on := 14, ground := Ground.phase }, { on := 15, ground := Ground.phase }], guard := none }) (v := ?_) rfl (by kernel_rfl) (by kernel_rfl) (by kernel_rfl) (fun _ _ _ h => h) (Or.inl ⟨by rfl, ?_⟩) hHeld ?_
          rotate_left
          · (intro w' hSw; (try dsimp only at hSw); go_split_ands; go_simp; first | done | with_reducible rfl)
          try simp only [Act.put, List.setIfInBounds_toArray, List.set_cons_zero, List.set_cons_succ]
          refine wpAnyH_ready (rs := [18]) (by kernel_rfl) (by simp) ?_
          refine AllReadyH.cons (o := { dst := none, op := Op.store 22 (Operand.tmp 56) (Operand.tmp 54), type := 0, pos := "itempart.go:116", after := #[{ on := 17, ground := Ground.data }, { on := 15, ground := Ground.data }, { on := 15, ground := Ground.chain }, { on := 0, ground := Ground.phase }, { on := 1, ground := Ground.phase }, { on := 2, ground := Ground.phase }, { on := 3, ground := Ground.phase }, { on := 4, ground := Ground.phase }, { on := 5, ground := Ground.phase }, { on := 6, ground := Ground.phase }, { on := 7, ground := Ground.phase }, { on := 8, ground := Ground.phase }, { on := 9, ground := Ground.phase }, { on := 10, ground := Ground.phase }, { on := 11, ground := Ground.phase }, { on := 12, ground := Ground.phase }, { on := 13, ground := Ground.phase }, { on := 14, ground := Ground.phase }, { on := 15, ground := Ground.phase }], guard := none }) rfl (fun K hK => ?_) AllReadyH.nil
          go_simp
          refine hK.out _ _ ?_ ?_
          · (exact ⟨hZ3.c.t4.cell, hZ3.c.p.cell0, (hY3.keep (hqs3 _ _ (by simp))).first⟩)
          clear hK K hHeld; intro hHeld
          try simp only [Act.put, List.setIfInBounds_toArray, List.set_cons_zero, List.set_cons_succ]
          refine wpAnyH_done (by kernel_rfl) ?_ _
          refine Only.normal ?_
          have hY3' := hY3.keep (hqs3 ⟨w.heap.size + 2, 0, none⟩ (.slice (some ⟨gv, 0, none⟩) (fs.length + 1) cv') (by simp))
          generalize wz3.setCell ⟨w.heap.size + 2, 0, none⟩ (.slice (some ⟨gv, 0, none⟩) (fs.length + 1) cv') = w4 at hZ3 hY3' ⊢
          clear hZ0 hZ1 hY0 hY1 hY3 hd2 hon3 hown3 g1 g2 hc3 hq3 hqs3 p0 f0 p1 f1 p3 f3 hHeld hsz1 hxa hxb hxc
          have hY5 := hY3'.keep (hZ3.qmine ⟨w.heap.size + 3, 2, none⟩ (.int .i64 (many + nl : Nat)) (by simp))
          have hZ5 := hZ3.setN (many + nl)
          rw [Int.natCast_add] at hY5 hZ5
          have p2 := hZ3.c.p.cell2
          have f2 := hZ3.c.p.frozen2
          have t4c := hZ3.c.t4.cell
          have t5c := hZ3.c.t5.cell
          obtain ⟨vsA, g1, g2⟩ := hZ5.pushA
          have hseeA := hY5.sees.sees (B := _) (fun k hk => (hZ5.o.qlt k hk).2)
          have hsz5 := hZ5.size
          have hln5 : (Value.slice A0 n0x c0 :: vt).length = nl * 1 := by rw [hY5.len, HNL.out, Nat.mul_one]
          gi_wp2_with ((with_reducible refine wpListIn_append_v (o := { dst := some 68, op := Op.call { callee := Callee.builtin Builtin.append, args := #[Operand.tmp 66, Operand.tmp 67], argTypes := #[22, 22] }, type := 22, pos := "itempart.go:118", after := #[{ on := 0, ground := Ground.data }, { on := 1, ground := Ground.data }], guard := none }) ?_ (.tmp 66) (.tmp 67) 22 ?_ 23 i1 _ 1 24 ?_ hi1 hz1 hy1 hx1 ?_ ?_ (w.heap.size + 9) _ _ _ ?_ g1 _ (some ⟨g, 0, none⟩) nl cl _ ?_ hln5 hseeA ?_ ?_ ?_ ?_ ?_); exact rfl; exact rfl; exact Tryd.underlying22; exact rfl; omega; exact rfl; exact rfl; exact hY5.one; (simp only [maxLen]; omega); omega; omega; intro v' wn hown hon; obtain ⟨gv, cv', ev, -, -⟩ := World.ownsRow.form hown (by omega); subst ev; obtain ⟨hc6, -, -, hZ6⟩ := g2 wn _ (x :: t) _ hY5.cells (by rw [HNL.out]; exact hown) hon; have t5c := hc6.t5.cell; have t5f := hc6.t5.frozen)
          have ht6 := hZ6.t
          have HZ1 := HZ1.out
          refine And.intro (ht6.mono fun j _ e => ?_) (hZ6.done (pre := List.map (fun z : Framed => z.1) (pre ++ [y])) (by rw [List.map_append, HFS.out]; rfl) (by rw [List.flatten_append, HAL.out]; simp) (by rw [List.length_append, HMY.out, HNL.out]) (by rw [hpm]; exact HU.out) hbel hsz)
          exact ⟨e.1, by have := e.2.1; show ¬ j < w.heap.size; omega, by have := e.2.2.1; omega, by have := e.2.2.2; omega⟩
        refine AllReadyH.cons (o := { dst := some 53, op := Op.buildSlice 22 1 #[(0, Operand.tmp 52)], type := 22, pos := "itempart.go:116", after := #[{ on := 13, ground := Ground.data }], guard := none }) rfl (fun K hK => ?_) AllReadyH.nil
        go_simp
        refine hK.out _ _ ?_ ?_
        · (exact ⟨(hZ0.alloc _).c.t4.cell, (hZ0.alloc _).c.p.cell0, (hY0.keep (hZ0.qbelow ((Below.refl _ _).alloc (Nat.le_refl _) _))).first⟩)
        clear hK K hHeld; intro hHeld
        try simp only [Act.put, List.setIfInBounds_toArray, List.set_cons_zero, List.set_cons_succ]
        have hY1 := hY0.keep (hZ0.qbelow ((Below.refl _ wz0).alloc (Nat.le_refl _) (.cells #[.slice A0 n0x c0] 23)))
        have hZ1 := hZ0.alloc (.cells #[.slice A0 n0x c0] 23)
        have hd2 : Sees (wz0.alloc (.cells #[.slice A0 n0x c0] 23)) (wz0.alloc (.cells #[.slice A0 n0x c0] 23)).heap.size (some ⟨wz0.heap.size, 0, none⟩) [.slice A0 n0x c0] := ⟨.inr ⟨_, rfl, by simp, fun j u hu => by match j, hu with | 0, hu => (simp at hu; subst hu; rw [Addr.add_lit, World.cell?_alloc_at _ _ _ _ rfl]; rfl)⟩⟩
        obtain ⟨wz1, hwz1⟩ : ∃ wz1, (wz0.alloc (.cells #[.slice A0 n0x c0] 23)) = wz1 := ⟨_, rfl⟩
        rw [hwz1] at hZ1 hY1 hd2 hHeld ⊢
        clear hwz1
        have p1 := hZ1.c.x.cell; have f1 := hZ1.c.x.frozen
        refine wpAnyH_ready (rs := [10]) (by kernel_rfl) (by simp) ?_
        refine AllReadyH.cons (o := { dst := some 49, op := Op.load 22 (Operand.tmp 48), type := 22, pos := "itempart.go:116", after := #[{ on := 9, ground := Ground.data }], guard := none }) rfl (fun K hK => ?_) AllReadyH.nil
        go_simp
        refine hK.out _ _ ?_ ?_
        · (exact ⟨hZ1.c.t4.cell, hZ1.c.p.cell0, hY1.first⟩)
        clear hK K hHeld; intro hHeld
        try simp only [Act.put, List.setIfInBounds_toArray, List.set_cons_zero, List.set_cons_succ]
        refine wpAnyH_ready (rs := [15]) (by kernel_rfl) (by simp) ?_
        refine AllReadyH.cons (o := { dst := some 54, op := Op.call { callee := Callee.builtin Builtin.append, args := #[Operand.tmp 49, Operand.tmp 53], argTypes := #[22, 22] }, type := 22, pos := "itempart.go:116", after := #[{ on := 10, ground := Ground.data }, { on := 14, ground := Ground.data }], guard := none }) rfl (fun K hK => ?_) AllReadyH.nil
        obtain ⟨vs, g1, g2⟩ := hZ1.pushF
        have hsz1 := hZ1.size
        obtain ⟨hxa, hxb, hxc⟩ := hY1.x
        refine step_append_v (by rfl) (.tmp 49) (.tmp 53) 22 (by rfl) 23 i1 _ 1 24 Tryd.underlying22 hi1 hz1 hy1 hx1 rfl (by omega) (w.heap.size + 9) _ _ _ (by rfl) g1 _ (some ⟨wz0.heap.size, 0, none⟩) 1 1 [.slice A0 n0x c0] (by rfl) rfl hd2 (fun u hu => by simp at hu; subst hu; rfl) (by simp only [maxLen]; omega) (by omega) (by omega) ?_
        intro v' wz3 hown3 hon3
        obtain ⟨hc3, hq3, hqs3, hZ3⟩ := g2 wz3 v' x A0 c0 hxb hxc (by rw [hxa]; exact hown3) hon3
        obtain ⟨gv, cv', rfl⟩ := ownsRow_succ hown3
        have hY3 := hY1.keep hq3
        have p3 := hc3.x.cell; have f3 := hc3.x.frozen
        refine hK.out _ _ ?_ ?_
        · (exact ⟨hc3.t4.cell, hc3.p.cell0, hY3.first⟩)
        clear hK K hHeld; intro hHeld
        try simp only [Act.put, List.setIfInBounds_toArray, List.set_cons_zero, List.set_cons_succ]
        refine wpAnyH_take (i := 16) (oi := { dst := some 55, op := Op.nilCheck (Operand.tmp 42), type := 0, pos := "itempart.go:116", after := #[{ on := 3, ground := Ground.data }, { on := 0, ground := Ground.phase }, { on := 1, ground := Ground.phase }, { on := 2, ground := Ground.phase }, { on := 3, ground := Ground.phase }, { on := 4, ground := Ground.phase }, { on := 5, ground := Ground.phase }, { on := 6, ground := Ground.phase }, { on := 7, ground := Ground.phase }, { on := 8, ground := Ground.phase }, { on := 9, ground := Ground.phase }, { on := 10, ground := Ground.phase }, { on := 11, ground := Ground.phase }, { on := 12, ground := Ground.phase }, { on := 13, ground := Ground.phase }, { on := 14, ground := Ground.phase }, { on := 15, ground := Ground.phase }], guard := none }) (v := ?_) rfl (by kernel_rfl) (by kernel_rfl) (by kernel_rfl) (fun _ _ _ h => h) (Or.inl ⟨by rfl, ?_⟩) hHeld ?_
        rotate_left
        · (intro w' hSw; (try dsimp only at hSw); go_split_ands; go_simp; first | done | with_reducible rfl)
        try simp only [Act.put, List.setIfInBounds_toArray, List.set_cons_zero, List.set_cons_succ]
        refine wpAnyH_take (i := 17) (oi := { dst := some 56, op := Op.fieldAddr 58 (Operand.tmp 55) 0, type := 0, pos := "itempart.go:116", after := #[{ on := 16, ground := Ground.data }, { on := 0, ground := Ground.phase }, { on := 1, ground := Ground.phase }, { on := 2, ground := Ground.phase }, { on := 3, ground := Ground.phase }, { on := 4, ground := Ground.phase }, { on := 5, ground := Ground.phase }, { on := 6, ground := Ground.phase }, { on := 7, ground := Ground.phase }, { on := 8, ground := Ground.phase }, { on := 9, ground := Ground.phase }, { on := 10, ground := Ground.phase }, { on := 11, ground := Ground.phase }, { on := 12, ground := Ground.phase }, { on := 13, ground := Ground.phase }, { on := 14, ground := Ground.phase }, { on := 15, ground := Ground.phase }], guard := none }) (v := ?_) rfl (by kernel_rfl) (by kernel_rfl) (by kernel_rfl) (fun _ _ _ h => h) (Or.inl ⟨by rfl, ?_⟩) hHeld ?_
        rotate_left
        · (intro w' hSw; (try dsimp only at hSw); go_split_ands; go_simp; first | done | with_reducible rfl)
        try simp only [Act.put, List.setIfInBounds_toArray, List.set_cons_zero, List.set_cons_succ]
        refine wpAnyH_ready (rs := [18]) (by kernel_rfl) (by simp) ?_
        refine AllReadyH.cons (o := { dst := none, op := Op.store 22 (Operand.tmp 56) (Operand.tmp 54), type := 0, pos := "itempart.go:116", after := #[{ on := 17, ground := Ground.data }, { on := 15, ground := Ground.data }, { on := 15, ground := Ground.chain }, { on := 0, ground := Ground.phase }, { on := 1, ground := Ground.phase }, { on := 2, ground := Ground.phase }, { on := 3, ground := Ground.phase }, { on := 4, ground := Ground.phase }, { on := 5, ground := Ground.phase }, { on := 6, ground := Ground.phase }, { on := 7, ground := Ground.phase }, { on := 8, ground := Ground.phase }, { on := 9, ground := Ground.phase }, { on := 10, ground := Ground.phase }, { on := 11, ground := Ground.phase }, { on := 12, ground := Ground.phase }, { on := 13, ground := Ground.phase }, { on := 14, ground := Ground.phase }, { on := 15, ground := Ground.phase }], guard := none }) rfl (fun K hK => ?_) AllReadyH.nil
        go_simp
        refine hK.out _ _ ?_ ?_
        · (exact ⟨hZ3.c.t4.cell, hZ3.c.p.cell0, (hY3.keep (hqs3 _ _ (by simp))).first⟩)
        clear hK K hHeld; intro hHeld
        try simp only [Act.put, List.setIfInBounds_toArray, List.set_cons_zero, List.set_cons_succ]
        refine wpAnyH_done (by kernel_rfl) ?_ _
        refine Only.normal ?_
        have hY3' := hY3.keep (hqs3 ⟨w.heap.size + 2, 0, none⟩ (.slice (some ⟨gv, 0, none⟩) (fs.length + 1) cv') (by simp))
        generalize wz3.setCell ⟨w.heap.size + 2, 0, none⟩ (.slice (some ⟨gv, 0, none⟩) (fs.length + 1) cv') = w4 at hZ3 hY3' ⊢
        clear hZ0 hZ1 hY0 hY1 hY3 hd2 hon3 hown3 g1 g2 hc3 hq3 hqs3 p0 f0 p1 f1 p3 f3 hHeld hsz1 hxa hxb hxc
        have hY5 := hY3'.keep (hZ3.qmine ⟨w.heap.size + 3, 2, none⟩ (.int .i64 (many + nl : Nat)) (by simp))
        have hZ5 := hZ3.setN (many + nl)
        rw [Int.natCast_add] at hY5 hZ5
        have p2 := hZ3.c.p.cell2
        have f2 := hZ3.c.p.frozen2
        have t4c := hZ3.c.t4.cell
        have t5c := hZ3.c.t5.cell
        obtain ⟨vsA, g1, g2⟩ := hZ5.pushA
        have hseeA := hY5.sees.sees (B := _) (fun k hk => (hZ5.o.qlt k hk).2)
        have hsz5 := hZ5.size
        have hln5 : (Value.slice A0 n0x c0 :: vt).length = nl * 1 := by rw [hY5.len, HNL.out, Nat.mul_one]
        gi_wp2_with ((with_reducible refine wpListIn_append_v (o := { dst := some 68, op := Op.call { callee := Callee.builtin Builtin.append, args := #[Operand.tmp 66, Operand.tmp 67], argTypes := #[22, 22] }, type := 22, pos := "itempart.go:118", after := #[{ on := 0, ground := Ground.data }, { on := 1, ground := Ground.data }], guard := none }) ?_ (.tmp 66) (.tmp 67) 22 ?_ 23 i1 _ 1 24 ?_ hi1 hz1 hy1 hx1 ?_ ?_ (w.heap.size + 9) _ _ _ ?_ g1 _ (some ⟨g, 0, none⟩) nl cl _ ?_ hln5 hseeA ?_ ?_ ?_ ?_ ?_); exact rfl; exact rfl; exact Tryd.underlying22; exact rfl; omega; exact rfl; exact rfl; exact hY5.one; (simp only [maxLen]; omega); omega; omega; intro v' wn hown hon; obtain ⟨gv, cv', ev, -, -⟩ := World.ownsRow.form hown (by omega); subst ev; obtain ⟨hc6, -, -, hZ6⟩ := g2 wn _ (x :: t) _ hY5.cells (by rw [HNL.out]; exact hown) hon; have t5c := hc6.t5.cell; have t5f := hc6.t5.frozen)
        have ht6 := hZ6.t
        have HZ1 := HZ1.out
        refine And.intro (ht6.mono fun j _ e => ?_) (hZ6.done (pre := List.map (fun z : Framed => z.1) (pre ++ [y])) (by rw [List.map_append, HFS.out]; rfl) (by rw [List.flatten_append, HAL.out]; simp) (by rw [List.length_append, HMY.out, HNL.out]) (by rw [hpm]; exact HU.out) hbel hsz)
        exact ⟨e.1, by have := e.2.1; show ¬ j < w.heap.size; omega, by have := e.2.2.1; omega, by have := e.2.2.2; omega⟩
      · have hez : ((e2 : Int) != 0) = true := by rw [bne_iff_ne]; omega
        have hc2 := hRb.c.r2.cell
        have hf2 := hRb.c.r2.frozen
        have hc3 := hRb.c.r3.cell
        have hf3 := hRb.c.r3.frozen
        have HU := Lib.hid (unpackAll_u (a := pre.map (·.1)) (y := y.1) (by rw [hlu1]; exact he2))
        clear hlu hlu1 he2 hub hR
        gi_wp2_with fail
        have hL := hRb.leave (w1 := w1) hbel2 (by omega) HU.out
        refine ⟨?_, rfl, by rw [hpm]; exact hL.2⟩
        show Turn (fun k => ¬ s k ∧ ¬ k < w.heap.size ∧ k ≠ w1.heap.size ∧ k ≠ w1.heap.size + 1) _ _
        rw [hz1]
        exact hL.1
    · have hez : ((y.1.2 : Int) != 0) = true := by rw [bne_iff_ne]; omega
      have hc2 := hR.c.r2.cell
      have hf2 := hR.c.r2.frozen
      have hc3 := hR.c.r3.cell
      have hf3 := hR.c.r3.frozen
      have HE := Lib.hid he
      clear he
      gi_wp2_with fail
      have hL := hR.leave (w1 := w1) hbel hsz (unpackAll_e (a := pre.map (·.1)) (y := y.1) HE.out)
      exact ⟨hL.1, rfl, by rw [hpm]; exact hL.2⟩
  case done =>
    rintro s xs W hS ⟨⟨q, vB, vF, vA, bl, hR, hub⟩, hbel, hsz⟩ hK
    have HZ1 := Lib.hid hz1
    have hxs : xs.map (fun z : Framed => z.1) = L := hS
    rw [hxs] at hub
    obtain ⟨⟨AB, cB, rfl, hcB⟩, ⟨AF, cF, rfl, hcF⟩, ⟨AA, cA, rfl, hcA⟩⟩ := hR.rows
    obtain ⟨hbl, hck⟩ := unpackAll_some _ hub
    have hfl := flatten_le8 bl hck
    have hHW : Halves W := hH.below hbel hg0
    obtain ⟨vs3, k1, k2⟩ := hR.o.rA
    have hA := k2.sees2 (m := fun k => k < W.heap.size) k1 (fun k e => (hR.o.qlt k e).2) (fun k e => (World.ownsRow.lt k1 k e).2)
    obtain ⟨al, hal⟩ : ∃ al, bl.flatten = al := ⟨_, rfl⟩
    obtain ⟨na, hna⟩ : ∃ na, al.length = na := ⟨_, rfl⟩
    have haln : na ≤ 8000008 := by rw [← hna, ← hal]; omega
    have hcA' := hcA
    rw [hal] at hA hcA'
    rw [hna] at hcA'
    have hB := Lib.hid (Build_any AA na cA al hna hcA' W (hA.sees fun k e => e) hHW (by omega))
    have hOB : Hid (openB b = if buildE al = 0 ∧ fileB al = b then some al else none) := by
      unfold Hid openB
      rw [HBN.out, HL.out, hub]
      simp only [hal]
    have hopb := fun h1 h2 => open_blocks (b := b) (bl := bl) (by rw [HBN.out, HL.out]; exact hub) h1 h2
    have hlW := hR.c.lt
    have t5c := hR.c.t5.cell
    rw [hal, hna] at t5c
    have HR := Lib.hid hR
    have HAL := Lib.hid hal
    have HNA := Lib.hid hna
    have HOPB := Lib.hid hopb
    have HK := Lib.hid hK
    have hsz' := hsz
    clear hR hal hna hopb hub hck hfl hbl k1 k2 hA hS hxs hD hR0 hB0 hLb hK hcA hb1
    gi_wp2_with fail
    refine ⟨trivial, (callsIn_wide.2 hB.out).mono ?_⟩
    rintro en w2 ⟨v, rfl, hown, hb2⟩
    have hs2 := hb2.size
    have hR2 := Lib.hid (HR.out.below hb2)
    have hbel2 := hbel.trans (hb2.mono hbel.size)
    obtain ⟨be, hbe⟩ : ∃ be, buildE al = be := ⟨_, rfl⟩
    rw [hbe] at hown ⊢
    have HBE := Lib.hid hbe
    have c2 := hR2.out.c.r2.cell
    have f2 := hR2.out.c.r2.frozen
    have c3 := hR2.out.c.r3.cell
    have f3 := hR2.out.c.r3.frozen
    have c4 := hR2.out.c.t4.cell
    have hDb : w2.heap[w.heap.size + 7]? = some (.deferred (some [])) := by
      rw [← HZ1.out]
      exact (hb2.block _ (by have := HZ1.out; have := (Array.getElem?_eq_some_iff.1 HK.out).1; omega)).trans HK.out
    have hfin : ∀ (a b : Value), (((w2.setCell ⟨w.heap.size, 0, none⟩ a).setCell ⟨w.heap.size + 1, 0, none⟩ b).heap[w.heap.size + 7]? = some (.deferred (some []))) := fun a b => (other (by show w.heap.size + 1 ≠ _; omega)).trans ((other (by show w.heap.size ≠ _; omega)).trans hDb)
    have HDB := Lib.hid hfin
    clear hfin hDb hz1
    clear hbe
    by_cases hb0 : be = 0
    · subst hb0
      rw [if_pos rfl] at hown
      obtain ⟨A1, c1, rfl, hc1, -, -, hsee1⟩ := hown.open_
      have hE := Lib.hid (BytesEqual_any A1 A (fileB al).length n c1 c (fileB al) b rfl HBN.out w2 hsee1 ((HS.out.below hbel2).more hbel2.size))
      obtain ⟨nf, hnf⟩ : ∃ nf, (fileB al).length = nf := ⟨_, rfl⟩
      rw [hnf] at hE ⊢
      clear hnf hc1 hsee1 hown
      gi_wp2_with fail
      refine ⟨trivial, (callsIn_wide.2 hE.out).mono ?_⟩
      rintro en w3 ⟨rfl, rfl⟩
      by_cases hfb : fileB al = b
      · have hdt : decide (fileB al = b) = true := by rw [decide_eq_true_eq]; exact hfb
        have hsm : openB b = some al := by rw [hOB.out, if_pos ⟨HBE.out, hfb⟩]
        rw [hdt]
        have HFB := Lib.hid hfb
        clear hdt hfb
        gi_wp2_with fail
        rw [show w1.heap.size = w.heap.size + 7 from HZ1.out]
        refine ⟨by simp, .inl ⟨_, _, rfl, run_takeDeferred (HDB.out _ _), ?_⟩⟩
        have ht := kept_end w2 w.heap.size (.pointer (some ⟨w.heap.size + 3, 0, none⟩)) (.int .i64 0) (.deferred none)
        have hr2 := (((hR2.out.c.r2.set (.pointer (some ⟨w.heap.size + 3, 0, none⟩))).kept (other (p := ⟨w.heap.size + 1, 0, none⟩) (v := .int .i64 0) (by simp))).turn (Turn.putObj _ (w.heap.size + 7) (.deferred none) (T := fun k => k = w.heap.size + 7) rfl) (by omega)).cell
        have hr3 := (((hR2.out.c.r3.kept (other (p := ⟨w.heap.size, 0, none⟩) (v := .pointer (some ⟨w.heap.size + 3, 0, none⟩)) (by simp))).set (.int .i64 0)).turn (Turn.putObj _ (w.heap.size + 7) (.deferred none) (T := fun k => k = w.heap.size + 7) rfl) (by omega)).cell
        refine ⟨.tuple #[.pointer (some ⟨w.heap.size + 3, 0, none⟩), .int .i64 0], ?_, some ⟨w.heap.size + 3, 0, none⟩, ?_, ?_, ?_, ?_⟩
        · simp [results, Tryd.f13, go_sem, hr2, hr3]
        · rw [hsm]; rfl
        · exact hbel2.trans (ht.below (fun j hj => by omega) hbel2.size)
        · intro h; rw [hsm] at h; cases h
        · intro ls hls
          rw [hsm] at hls
          injection hls with hls
          subst hls
          refine ⟨rfl, ?_⟩
          obtain ⟨e1, e2, e3, e4⟩ := buildE_ok HBE.out
          have hfl := HAL.out
          have hO := HOPB.out (by rw [hfl]; exact HBE.out) (by rw [hfl]; exact HFB.out)
          have hP := hR2.out.part hO (by rw [hfl]; exact e2) (by rw [hfl]; exact e1) (by rw [hfl]; exact e3) (W' := ((w2.setCell ⟨w.heap.size, 0, none⟩ (.pointer (some ⟨w.heap.size + 3, 0, none⟩))).setCell ⟨w.heap.size + 1, 0, none⟩ (.int .i64 0)).putObj (w.heap.size + 7) (.deferred none)) (Kept.of_turn ht fun k hk => ⟨hk.2.1, by have := hk.1; have := hk.2.2; omega⟩) ht.size
          rw [hfl] at hP
          exact hP
      · have hdt : decide (fileB al = b) = false := by rw [decide_eq_false_iff_not]; exact hfb
        have hno : openB b = none := by rw [hOB.out, if_neg fun e => hfb e.2]
        rw [hdt]
        clear hdt hfb
        gi_wp2_with fail
        rw [show w1.heap.size = w.heap.size + 7 from HZ1.out]
        refine ⟨by simp, .inl ⟨_, _, rfl, run_takeDeferred (HDB.out _ _), ?_⟩⟩
        have ht := kept_end w2 w.heap.size (.pointer none) (.int .i64 170) (.deferred none)
        have hr2 := (((hR2.out.c.r2.set (.pointer none)).kept (other (p := ⟨w.heap.size + 1, 0, none⟩) (v := .int .i64 170) (by simp))).turn (Turn.putObj _ (w.heap.size + 7) (.deferred none) (T := fun k => k = w.heap.size + 7) rfl) (by omega)).cell
        have hr3 := (((hR2.out.c.r3.kept (other (p := ⟨w.heap.size, 0, none⟩) (v := .pointer none) (by simp))).set (.int .i64 170)).turn (Turn.putObj _ (w.heap.size + 7) (.deferred none) (T := fun k => k = w.heap.size + 7) rfl) (by omega)).cell
        refine ⟨.tuple #[.pointer none, .int .i64 170], ?_, none, ?_, ?_, ?_, ?_⟩
        · simp [results, Tryd.f13, go_sem, hr2, hr3]
        · rw [hno]; rfl
        · exact hbel2.trans (ht.below (fun j hj => by omega) hbel2.size)
        · exact fun _ => rfl
        · rw [hno]; intro ls h; cases h
    · have hez : ((be : Int) != 0) = true := by rw [bne_iff_ne]; omega
      have hno : openB b = none := by rw [hOB.out, if_neg (by rw [HBE.out]; exact fun e => hb0 e.1)]
      clear hb0 hown
      gi_wp2_with fail
      refine ⟨trivial, ?_⟩
      gi_wp2_with fail
      rw [show w1.heap.size = w.heap.size + 7 from HZ1.out]
      refine ⟨by simp, .inl ⟨_, _, rfl, run_takeDeferred (HDB.out _ _), ?_⟩⟩
      have ht := kept_end w2 w.heap.size (.pointer none) (.int .i64 170) (.deferred none)
      have hr2 := (((hR2.out.c.r2.set (.pointer none)).kept (other (p := ⟨w.heap.size + 1, 0, none⟩) (v := .int .i64 170) (by simp))).turn (Turn.putObj _ (w.heap.size + 7) (.deferred none) (T := fun k => k = w.heap.size + 7) rfl) (by omega)).cell
      have hr3 := (((hR2.out.c.r3.kept (other (p := ⟨w.heap.size, 0, none⟩) (v := .pointer none) (by simp))).set (.int .i64 170)).turn (Turn.putObj _ (w.heap.size + 7) (.deferred none) (T := fun k => k = w.heap.size + 7) rfl) (by omega)).cell
      refine ⟨.tuple #[.pointer none, .int .i64 170], ?_, none, ?_, ?_, ?_, ?_⟩
      · simp [results, Tryd.f13, go_sem, hr2, hr3]
      · rw [hno]; rfl
      · exact hbel2.trans (ht.below (fun j hj => by omega) hbel2.size)
      · exact fun _ => rfl
      · rw [hno]; intro ls h; cases h
  case stop =>
    rintro c s pre W hS ⟨rfl, hX⟩ hK
    have hon := openB_none (b := b) (pre := pre.map fun z : Framed => z.1) (by rw [HBN.out, HL.out]; exact hS) hX.bad
    gi_wp2_with fail
    refine ⟨by simp, .inl ⟨_, _, rfl, run_takeDeferred hK, ?_⟩⟩
    have hpt := Turn.putObj W w1.heap.size (.deferred none) (T := fun k => k = w1.heap.size) rfl
    have h2 := (hX.r2.turn hpt (by omega)).cell
    have h3 := (hX.r3.turn hpt (by omega)).cell
    refine ⟨.tuple #[.pointer none, .int .i64 170], ?_, none, ?_, ?_, ?_, ?_⟩
    · simp [results, Tryd.f13, go_sem, h2, h3]
    · rw [hon]; rfl
    · exact hX.bel.trans (hpt.below (fun j hj => by omega) hX.bel.size)
    · exact fun _ => rfl
    · rw [hon]; intro ls h; cases h
end Go.Proofs.YtmdphaagbmipcaaDoor
