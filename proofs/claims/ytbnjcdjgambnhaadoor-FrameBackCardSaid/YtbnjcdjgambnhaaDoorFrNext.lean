/-
  The walks of frame.Next (its error is told by a deferred call that leaves nothing else) and of frame.Only.
-/
import Derived.Test.YtbnjcdjgambnhaaDoorFrMake
import Derived.Defers
namespace Go.Proofs.YtbnjcdjgambnhaaDoor
open Go.RowKit

theorem next1_ok (pe pk pb pr : Addr) (u : FrameMode) (w : World) (hc : w.cell? pe = some (.int .i64 0)) :
    CallsD Tryd.prog 19 #[.pointer (some pe), .pointer (some pk), .pointer (some pb), .pointer (some pr)] u w fun e u' w' => u' = u ∧ (e = .returned (.tuple #[]) ∧ w = w') := by
  go_enter_d Tryd.func19, Tryd.ntmps19
  go_wp2
  go_end0
  exact ⟨rfl, rfl⟩

theorem next1_err (H : Nat) (x : Int) (v0 v1 v2 : Value) (u : FrameMode) (w : World) (hx : (x != 0) = true)
    (c3 : w.cell? ⟨H + 1 + 1 + 1, 0, none⟩ = some (.int .i64 x)) (c0 : w.cell? ⟨H, 0, none⟩ = some v0) (c1 : w.cell? ⟨H + 1, 0, none⟩ = some v1) (c2 : w.cell? ⟨H + 1 + 1, 0, none⟩ = some v2)
    (f0 : w.frozen? ⟨H, 0, none⟩ = false) (f1 : w.frozen? ⟨H + 1, 0, none⟩ = false) (f2 : w.frozen? ⟨H + 1 + 1, 0, none⟩ = false) :
    CallsD Tryd.prog 19 #[.pointer (some ⟨H + 1 + 1 + 1, 0, none⟩), .pointer (some ⟨H, 0, none⟩), .pointer (some ⟨H + 1, 0, none⟩), .pointer (some ⟨H + 1 + 1, 0, none⟩)] u w fun e u' w' => u' = u ∧ (e = .returned (.tuple #[]) ∧ w' = ((w.setCell ⟨H, 0, none⟩ (.int .i64 0)).setCell ⟨H + 1, 0, none⟩ (.slice none 0 0)).setCell ⟨H + 1 + 1, 0, none⟩ (.slice none 0 0)) := by
  go_enter_d Tryd.func19, Tryd.ntmps19
  go_wp2
  go_end0
  exact ⟨rfl, rfl⟩

/-- The four results' cells, laid by Next at its head. -/
structure FourAt (w : World) (H : Nat) (v0 v1 v2 v3 : Value) : Prop where
  c0 : w.cell? ⟨H, 0, none⟩ = some v0
  c1 : w.cell? ⟨H + 1, 0, none⟩ = some v1
  c2 : w.cell? ⟨H + 1 + 1, 0, none⟩ = some v2
  c3 : w.cell? ⟨H + 1 + 1 + 1, 0, none⟩ = some v3
  f0 : w.frozen? ⟨H, 0, none⟩ = false
  f1 : w.frozen? ⟨H + 1, 0, none⟩ = false
  f2 : w.frozen? ⟨H + 1 + 1, 0, none⟩ = false
  f3 : w.frozen? ⟨H + 1 + 1 + 1, 0, none⟩ = false

theorem FourAt.new (w : World) (H : Nat) (hH : H = w.heap.size) (v0 v1 v2 v3 : Value) (t0 t1 t2 t3 : TypeId) : FourAt ((((w.alloc (.cells #[v0] t0)).alloc (.cells #[v1] t1)).alloc (.cells #[v2] t2)).alloc (.cells #[v3] t3)) H v0 v1 v2 v3 := by
  subst hH
  constructor <;> simp [go_sem]
theorem FourAt.below {w w' : World} {H : Nat} {v0 v1 v2 v3 : Value} (h : FourAt w H v0 v1 v2 v3) {B : Nat} (hb : Below B w w') (hB : H + 1 + 1 + 1 < B) : FourAt w' H v0 v1 v2 v3 := by
  constructor
  · rw [hb.cell (p := ⟨H, 0, none⟩) (by simp; omega)]; exact h.c0
  · rw [hb.cell (p := ⟨H + 1, 0, none⟩) (by simp; omega)]; exact h.c1
  · rw [hb.cell (p := ⟨H + 1 + 1, 0, none⟩) (by simp; omega)]; exact h.c2
  · rw [hb.cell (p := ⟨H + 1 + 1 + 1, 0, none⟩) (by simp; omega)]; exact h.c3
  · rw [hb.frozen (p := ⟨H, 0, none⟩) (by simp; omega)]; exact h.f0
  · rw [hb.frozen (p := ⟨H + 1, 0, none⟩) (by simp; omega)]; exact h.f1
  · rw [hb.frozen (p := ⟨H + 1 + 1, 0, none⟩) (by simp; omega)]; exact h.f2
  · rw [hb.frozen (p := ⟨H + 1 + 1 + 1, 0, none⟩) (by simp; omega)]; exact h.f3

theorem FourAt.set0 {w : World} {H : Nat} {v0 v1 v2 v3 : Value} (h : FourAt w H v0 v1 v2 v3) (v : Value) : FourAt (w.setCell ⟨H, 0, none⟩ v) H v v1 v2 v3 := by
  obtain ⟨c0, c1, c2, c3, f0, f1, f2, f3⟩ := h
  constructor <;> simp [go_sem, c0, c1, c2, c3, f0, f1, f2, f3]
theorem FourAt.set1 {w : World} {H : Nat} {v0 v1 v2 v3 : Value} (h : FourAt w H v0 v1 v2 v3) (v : Value) : FourAt (w.setCell ⟨H + 1, 0, none⟩ v) H v0 v v2 v3 := by
  obtain ⟨c0, c1, c2, c3, f0, f1, f2, f3⟩ := h
  constructor <;> simp [go_sem, c0, c1, c2, c3, f0, f1, f2, f3]
theorem FourAt.set2 {w : World} {H : Nat} {v0 v1 v2 v3 : Value} (h : FourAt w H v0 v1 v2 v3) (v : Value) : FourAt (w.setCell ⟨H + 1 + 1, 0, none⟩ v) H v0 v1 v v3 := by
  obtain ⟨c0, c1, c2, c3, f0, f1, f2, f3⟩ := h
  constructor <;> simp [go_sem, c0, c1, c2, c3, f0, f1, f2, f3]
theorem FourAt.set3 {w : World} {H : Nat} {v0 v1 v2 v3 : Value} (h : FourAt w H v0 v1 v2 v3) (v : Value) : FourAt (w.setCell ⟨H + 1 + 1 + 1, 0, none⟩ v) H v0 v1 v2 v := by
  obtain ⟨c0, c1, c2, c3, f0, f1, f2, f3⟩ := h
  constructor <;> simp [go_sem, c0, c1, c2, c3, f0, f1, f2, f3]
theorem FourAt.drew {w : World} {H : Nat} {v0 v1 v2 v3 : Value} (h : FourAt w H v0 v1 v2 v3) : FourAt w.drew H v0 v1 v2 v3 := ⟨h.c0, h.c1, h.c2, h.c3, h.f0, h.f1, h.f2, h.f3⟩

theorem FourAt.conj {w : World} {H : Nat} {v0 v1 v2 v3 : Value} (h : FourAt w H v0 v1 v2 v3) : w.cell? ⟨H, 0, none⟩ = some v0 ∧ w.cell? ⟨H + 1, 0, none⟩ = some v1 ∧ w.cell? ⟨H + 1 + 1, 0, none⟩ = some v2 ∧ w.cell? ⟨H + 1 + 1 + 1, 0, none⟩ = some v3 ∧
    w.frozen? ⟨H, 0, none⟩ = false ∧ w.frozen? ⟨H + 1, 0, none⟩ = false ∧ w.frozen? ⟨H + 1 + 1, 0, none⟩ = false ∧ w.frozen? ⟨H + 1 + 1 + 1, 0, none⟩ = false := ⟨h.c0, h.c1, h.c2, h.c3, h.f0, h.f1, h.f2, h.f3⟩

/-- The end of Next beside an error. -/
theorem door_err (H : Nat) (x : Int) (hx : (x != 0) = true) (v0 v1 v2 : Value) (W : World) (hF : FourAt W H v0 v1 v2 (.int .i64 x)) (a : Act) (R : Ending → World → Prop)
    (hd : a.defers = [{ target := Target.fn (Fn.func 19) #[.pointer (some ⟨H + 1 + 1 + 1, 0, none⟩), .pointer (some ⟨H, 0, none⟩), .pointer (some ⟨H + 1, 0, none⟩), .pointer (some ⟨H + 1 + 1, 0, none⟩)], args := #[] }])
    (t2 : a.tmps.getD 2 undef = .pointer (some ⟨H, 0, none⟩)) (t3 : a.tmps.getD 3 undef = .pointer (some ⟨H + 1, 0, none⟩)) (t4 : a.tmps.getD 4 undef = .pointer (some ⟨H + 1 + 1, 0, none⟩)) (t5 : a.tmps.getD 5 undef = .pointer (some ⟨H + 1 + 1 + 1, 0, none⟩))
    (hR : ∀ W', Below H W W' → R (.returned (.tuple #[.int .i64 0, .slice none 0 0, .slice none 0 0, .int .i64 x])) W') :
    bodyPostD Tryd.prog Tryd.f14 R Exit.ret a W := by
  obtain ⟨tmps, ds⟩ := a
  simp only at hd t2 t3 t4 t5
  subst hd
  obtain ⟨c0, c1, c2, c3, f0, f1, f2, _⟩ := hF
  refine leaves_cons (f := 19) (args := #[.pointer (some ⟨H + 1 + 1 + 1, 0, none⟩), .pointer (some ⟨H, 0, none⟩), .pointer (some ⟨H + 1, 0, none⟩), .pointer (some ⟨H + 1 + 1, 0, none⟩)]) (by simp) (by simp [go_sem]) ?_
  refine (next1_err H x v0 v1 v2 .returning W hx c3 c0 c1 c2 f0 f1 f2).mono ?_
  rintro e u' w'' ⟨rfl, rfl, rfl⟩
  have hr := hR (((W.setCell ⟨H, 0, none⟩ (.int .i64 0)).setCell ⟨H + 1, 0, none⟩ (.slice none 0 0)).setCell ⟨H + 1 + 1, 0, none⟩ (.slice none 0 0)) ((((Below.refl _ _).setCell (by simp) _).setCell (by simp) _).setCell (by simp; omega) _)
  clear hR
  have t2' : tmps[2]?.getD undef = _ := (by simp : tmps[2]?.getD undef = tmps.getD 2 undef).trans t2
  have t3' : tmps[3]?.getD undef = _ := (by simp : tmps[3]?.getD undef = tmps.getD 3 undef).trans t3
  have t4' : tmps[4]?.getD undef = _ := (by simp : tmps[4]?.getD undef = tmps.getD 4 undef).trans t4
  have t5' : tmps[5]?.getD undef = _ := (by simp : tmps[5]?.getD undef = tmps.getD 5 undef).trans t5
  simp [Leaves, settle, results, Tryd.results14, t2', t3', t4', t5', go_sem, c0, c1, c2, c3]
  exact hr

set_option maxRecDepth 100000 in
set_option maxHeartbeats 400000 in
theorem Next_empty (A : Option Addr) (c : Nat) (w : World) :
    Calls Tryd.prog 14 #[.slice A 0 c] w fun e w' => e = .returned (.tuple #[.int .i64 0, .slice none 0 0, .slice none 0 0, .int .i64 10]) ∧ Below w.heap.size w w' := by
  have hmf : ∀ (fn : Fn) (first cap : Array Value) (w : World), (Instr.makeFunc fn first cap).run Tryd.prog w = .ok (.func fn first cap) w := fun _ _ _ _ => rfl
  go_enter_defers Tryd.func14, Tryd.ntmps14
  go_wp2
  exact door_err w.heap.size 10 rfl _ _ _ _ (FourAt.new w _ rfl _ _ _ _ _ _ _ _) _ _ rfl rfl rfl rfl rfl (fun W' hb => ⟨rfl, (((((Below.refl _ _).alloc (Nat.le_refl _) _).alloc (by simp) _).alloc (by simp; omega) _).alloc (by simp; omega) _).trans hb⟩)

/-- The world behind Next's head. -/
abbrev W4 (w : World) : World := (((w.alloc (.cells #[.int .i64 0] 3)).alloc (.cells #[.slice none 0 0] 22)).alloc (.cells #[.slice none 0 0] 22)).alloc (.cells #[.int .i64 0] 24)
theorem W4.size (w : World) : (W4 w).heap.size = w.heap.size + 1 + 1 + 1 + 1 := by simp [W4]
theorem W4.below (w : World) : Below w.heap.size w (W4 w) := ((((Below.refl _ _).alloc (Nat.le_refl _) _).alloc (by simp) _).alloc (by simp; omega) _).alloc (by simp; omega) _

/-- What 'b[1:]' is. -/
def Tail1 (A : Option Addr) (c : Nat) (A' : Option Addr) (c' : Nat) : Prop := (c = 1 ∧ A' = A ∧ c' = 0) ∨ (A' = A.map (fun x => ⟨x.block, x.off + 1, none⟩) ∧ c' = c - 1)

theorem Next_Take (A : Option Addr) (n c : Nat) (k : UInt8) (t : List UInt8) (hn : t.length + 1 = n) (w : World) (hS : Sees w w.heap.size A (bv (k :: t))) (hlen : n ≤ 1099511627776) (hc : n ≤ c) (A' : Option Addr) (c' : Nat) (hA : Tail1 A c A' c') :
    Calls Tryd.prog 20 #[.slice A' (n - 1) c'] (W4 w) (Ret1B (W4 w) ((vtake t).1 : Nat) .u64 (if (vtake t).2.2 = 0 then t.drop (vtake t).2.1 else []) ((vtake t).2.2 : Nat)) := by
  refine Take_any A' (n - 1) c' t (by omega) (W4 w) ?_ (by omega) (by rcases hA with ⟨_, _, h⟩ | ⟨_, h⟩ <;> omega)
  have h1 : Sees w w.heap.size A' (bv t) := by
    rcases hA with ⟨h1, rfl, _⟩ | ⟨rfl, _⟩
    · have ht : t = [] := List.eq_nil_of_length_eq_zero (by omega)
      subst ht
      exact ⟨.inl rfl⟩
    · have := hS.cut' 1
      have he : (fun x : Addr => (⟨x.block, x.off + 1, none⟩ : Addr)) = fun x => x.add 1 := by funext x; simp [Addr.add]
      rw [he]
      exact this
  exact (h1.below (W4.below w)).more (W4.below w).size

set_option maxRecDepth 100000 in
set_option maxHeartbeats 400000 in
theorem Next_take_err (A : Option Addr) (n c : Nat) (w : World) (hn1 : 1 ≤ n) (hlen : n ≤ 1099511627776) (x : Nat) (e : Nat) (he : ((e : Int) != 0) = true)
    (HT : ∀ A' c', Tail1 A c A' c' → Calls Tryd.prog 20 #[.slice A' (n - 1) c'] (W4 w) (Ret1B (W4 w) (x : Int) .u64 [] (e : Int))) :
    Calls Tryd.prog 14 #[.slice A n c] w fun en w' => en = .returned (.tuple #[.int .i64 0, .slice none 0 0, .slice none 0 0, .int .i64 e]) ∧ Below w.heap.size w w' := by
  have hmf : ∀ (fn : Fn) (first cap : Array Value) (w : World), (Instr.makeFunc fn first cap).run Tryd.prog w = .ok (.func fn first cap) w := fun _ _ _ _ => rfl
  have HT' := Lib.hid HT
  clear HT
  go_enter_defers Tryd.func14, Tryd.ntmps14
  go_wp2_with fail
  all_goals
    refine (HT'.out _ _ (by first | exact .inl ⟨by assumption, rfl, rfl⟩ | exact .inr ⟨rfl, rfl⟩)).mono ?_
    rintro e w1 ⟨v1, rfl, hown, hb⟩
    obtain ⟨A1, c1, rfl, -, -, -, hsee1⟩ := hown.open_
    have hF := (FourAt.new w _ rfl _ _ _ _ _ _ _ _).below hb (by simp)
    have hb0 := (W4.below w).trans (hb.mono (W4.below w).size)
    have hF' := hF
    obtain ⟨c0, c1, c2, c3, f0, f1, f2, f3⟩ := hF
    have hz : w.heap.size + 1 + 1 + 1 < w1.heap.size := by have := hb.size; simp at this; omega
    go_wp2
    go_region
    go_wp2
    refine door_err w.heap.size e he _ _ _ _ (by repeat (first | with_reducible exact hF' | with_reducible apply FourAt.drew | with_reducible apply FourAt.set0 | with_reducible apply FourAt.set1 | with_reducible apply FourAt.set2 | with_reducible apply FourAt.set3)) _ _ rfl rfl rfl rfl rfl (fun W' hb' => ⟨rfl, Below.trans ?_ hb'⟩)
    repeat (first | with_reducible exact hb0 | with_reducible apply Below.drew | (with_reducible refine Below.setCell ?_ ?_ _; rotate_left; (simp only []; omega)))

set_option maxRecDepth 100000 in
set_option maxHeartbeats 400000 in
theorem Next_big (A : Option Addr) (n c : Nat) (w : World) (hn1 : 1 ≤ n) (hlen : n ≤ 1099511627776) (x : Nat) (hx : 65535 < x) (left : List UInt8) (_hll : left.length ≤ 1099511627776)
    (HT : ∀ A' c', Tail1 A c A' c' → Calls Tryd.prog 20 #[.slice A' (n - 1) c'] (W4 w) (Ret1B (W4 w) (x : Int) .u64 left 0)) :
    Calls Tryd.prog 14 #[.slice A n c] w fun en w' => en = .returned (.tuple #[.int .i64 0, .slice none 0 0, .slice none 0 0, .int .i64 11]) ∧ Below w.heap.size w w' := by
  have hmf : ∀ (fn : Fn) (first cap : Array Value) (w : World), (Instr.makeFunc fn first cap).run Tryd.prog w = .ok (.func fn first cap) w := fun _ _ _ _ => rfl
  have HT' := Lib.hid HT
  clear HT
  go_enter_defers Tryd.func14, Tryd.ntmps14
  go_wp2_with fail
  all_goals
    refine (HT'.out _ _ (by first | exact .inl ⟨by assumption, rfl, rfl⟩ | exact .inr ⟨rfl, rfl⟩)).mono ?_
    rintro e w1 ⟨v1, rfl, hown, hb⟩
    obtain ⟨A1, c1, rfl, hcl, hcm, -, hsee1⟩ := hown.open_
    have hF := (FourAt.new w _ rfl _ _ _ _ _ _ _ _).below hb (by simp)
    have hb0 := (W4.below w).trans (hb.mono (W4.below w).size)
    have hF' := hF
    obtain ⟨c0, c1', c2, c3, f0, f1, f2, f3⟩ := hF
    have hz : w.heap.size + 1 + 1 + 1 < w1.heap.size := by have := hb.size; simp at this; omega
    go_wp2
    refine door_err w.heap.size 11 rfl _ _ _ _ (by repeat (first | with_reducible exact hF' | with_reducible apply FourAt.drew | with_reducible apply FourAt.set0 | with_reducible apply FourAt.set1 | with_reducible apply FourAt.set2 | with_reducible apply FourAt.set3)) _ _ rfl rfl rfl rfl rfl (fun W' hb' => ⟨rfl, Below.trans ?_ hb'⟩)
    repeat (first | with_reducible exact hb0 | with_reducible apply Below.drew | (with_reducible refine Below.setCell ?_ ?_ _; rotate_left; (simp only []; omega)))

set_option maxRecDepth 100000 in
set_option maxHeartbeats 400000 in
theorem Next_short (A : Option Addr) (n c : Nat) (w : World) (hn1 : 1 ≤ n) (hlen : n ≤ 1099511627776) (x : Nat) (hx : x ≤ 65535) (left : List UInt8) (hll : left.length < x + 4)
    (HT : ∀ A' c', Tail1 A c A' c' → Calls Tryd.prog 20 #[.slice A' (n - 1) c'] (W4 w) (Ret1B (W4 w) (x : Int) .u64 left 0)) :
    Calls Tryd.prog 14 #[.slice A n c] w fun en w' => en = .returned (.tuple #[.int .i64 0, .slice none 0 0, .slice none 0 0, .int .i64 10]) ∧ Below w.heap.size w w' := by
  have hmf : ∀ (fn : Fn) (first cap : Array Value) (w : World), (Instr.makeFunc fn first cap).run Tryd.prog w = .ok (.func fn first cap) w := fun _ _ _ _ => rfl
  have HT' := Lib.hid HT
  clear HT
  go_enter_defers Tryd.func14, Tryd.ntmps14
  go_wp2_with fail
  all_goals
    refine (HT'.out _ _ (by first | exact .inl ⟨by assumption, rfl, rfl⟩ | exact .inr ⟨rfl, rfl⟩)).mono ?_
    rintro e w1 ⟨v1, rfl, hown, hb⟩
    obtain ⟨A1, c1, rfl, hcl, hcm, -, hsee1⟩ := hown.open_
    have hF := (FourAt.new w _ rfl _ _ _ _ _ _ _ _).below hb (by simp)
    have hb0 := (W4.below w).trans (hb.mono (W4.below w).size)
    have hF' := hF
    obtain ⟨c0, c1', c2, c3, f0, f1, f2, f3⟩ := hF
    have hz : w.heap.size + 1 + 1 + 1 < w1.heap.size := by have := hb.size; simp at this; omega
    go_wp2
    refine door_err w.heap.size 10 rfl _ _ _ _ (by repeat (first | with_reducible exact hF' | with_reducible apply FourAt.drew | with_reducible apply FourAt.set0 | with_reducible apply FourAt.set1 | with_reducible apply FourAt.set2 | with_reducible apply FourAt.set3)) _ _ rfl rfl rfl rfl rfl (fun W' hb' => ⟨rfl, Below.trans ?_ hb'⟩)
    repeat (first | with_reducible exact hb0 | with_reducible apply Below.drew | (with_reducible refine Below.setCell ?_ ?_ _; rotate_left; (simp only []; omega)))

end Go.Proofs.YtbnjcdjgambnhaaDoor
