/-
  The document's example of items: the laws' own first call.
-/
import Derived.Test.YtnjchdehjinooaaItFew
namespace Go.Proofs.Ytnjchdehjinooaa
open Go.RowKit

def exL : List (List UInt8) := [[97, 98], [97, 98, 99], [98]]
def exB : List UInt8 := [3, 0, 2, 97, 98, 2, 1, 99, 0, 1, 98]
theorem ex_pack : packB exL = exB := by
  simp [packB, packFrom, exL, exB, common, venc_small]
theorem ex_check : checkN exL = 0 := by decide
theorem ex_unpack : unpackR exB = (exL, 0) := by
  have h1 : (numR exB).2.2 = 0 := by decide +kernel
  have h2 : itemsR (numR exB).1 [] [] (numR exB).2.1 = (exL, 0) := by decide +kernel
  unfold unpackR
  rw [h1, h2, if_neg (by simp), if_neg (by simp), if_pos ⟨ex_check, ex_pack⟩]
theorem ex_others : risesB exL = true ∧ firstNot [97, 98, 100] exL = 2 ∧ common [97, 98] [97, 98, 99] = 2 := by decide +kernel
theorem ex_blk : (blk exL).length = 1 := by
  rw [blk_cons (by decide), blk_nil (by decide)]; rfl

theorem sees_mark (w : World) (l : List UInt8) (t : TypeId) (m : Nat × Nat) (cs : Array Value) (h : cs = (bv l).toArray) : Sees (w.alloc (.cells cs t m)) (w.heap.size + 1) (some ⟨w.heap.size, 0, none⟩) (bv l) := by
  subst h
  refine ⟨.inr ⟨_, rfl, by simp, fun j u hu => ?_⟩⟩
  rw [Addr.add_lit, World.cell?_alloc_mark]
  simpa using hu

theorem run_const (w : World) (b : Nat) (hb : w.heap.size = b) (C : Array Value) (n c : Nat) :
    (convert 23 23 (.slice (some ⟨b, 0, none⟩) n c)).run Try.prog (w.alloc (.cells C 5)) = .ok (.slice (some ⟨b, 0, none⟩) n c) (w.alloc (.cells C 5 (C.size, C.size + 1))) := by
  subst hb
  exact Lib.run_convert_bytes_const (P := Try.prog) w 23 5 C n c Try.underlying23 Try.underlying5

/-- Rows of bytes in a block that was just made. -/
theorem Sees2.new (W : World) (b : Nat) (hb : W.heap.size = b) (cs : Array Value) (t : TypeId) (ls : List (List UInt8))
    (h : ∀ i (hi : i < ls.length), ∃ Ai ci, cs[i]? = some (.slice Ai (ls[i]).length ci) ∧ (ls[i]).length ≤ ci ∧ Sees W b Ai (bv ls[i])) : Sees2 (W.alloc (.cells cs t)) (b + 1) (some ⟨b, 0, none⟩) ls := by
  subst hb
  refine ⟨fun i hi => ?_⟩
  obtain ⟨Ai, ci, h1, h2, h3⟩ := h i hi
  exact ⟨_, Ai, ci, rfl, by simp, by rw [Addr.add_lit, World.cell?_alloc_at _ _ _ _ rfl]; simpa using h1, h2, (h3.alloc (Nat.le_refl _) _).more (by omega)⟩
theorem sees_mark' (w : World) (b : Nat) (hb : w.heap.size = b) (l : List UInt8) (t : TypeId) (m : Nat × Nat) (cs : Array Value) (h : cs = (bv l).toArray) : Sees (w.alloc (.cells cs t m)) (b + 1) (some ⟨b, 0, none⟩) (bv l) := by
  subst hb
  exact sees_mark w l t m cs h

theorem ex_sees (w : World) : Sees2 ((((w.alloc (.cells #[.int .u8 97, .int .u8 98] 5 (2, 3))).alloc (.cells #[.int .u8 97, .int .u8 98, .int .u8 99] 5 (3, 4))).alloc (.cells #[.int .u8 98] 5 (1, 2))).alloc
      (.cells #[.slice (some ⟨w.heap.size, 0, none⟩) 2 2, .slice (some ⟨w.heap.size + 1, 0, none⟩) 3 3, .slice (some ⟨w.heap.size + 1 + 1, 0, none⟩) 1 1] 23)) (w.heap.size + 1 + 1 + 1 + 1) (some ⟨w.heap.size + 1 + 1 + 1, 0, none⟩) exL := by
  refine Sees2.new _ _ (by simp) _ _ _ fun i hi => ?_
  match i, hi with
  | 0, _ => exact ⟨_, 2, rfl, by simp [exL], (((sees_mark' w _ rfl [97, 98] _ _ _ (by simp [bv])).alloc (by simp) _).alloc (by simp) _).more (by omega)⟩
  | 1, _ => exact ⟨_, 3, rfl, by simp [exL], ((sees_mark' _ (w.heap.size + 1) (by simp) [97, 98, 99] _ _ _ (by simp [bv])).alloc (by simp) _).more (by omega)⟩
  | 2, _ => exact ⟨_, 1, rfl, by simp [exL], (sees_mark' _ (w.heap.size + 1 + 1) (by simp) [98] _ _ _ (by simp [bv])).more (by omega)⟩

/-- A call that gives v and leaves what was there. -/
def Gives (w : World) (v : Value) (e : Ending) (w' : World) : Prop := e = .returned v ∧ Below w.heap.size w w'
theorem Sees2.alloc {w : World} {B : Nat} {A : Option Addr} {ls : List (List UInt8)} (h : Sees2 w B A ls) (hB : B ≤ w.heap.size) (o : Obj) : Sees2 (w.alloc o) B A ls :=
  h.below ((Below.refl B w).alloc hB o)

theorem same_ex (A B : Option Addr) (c d : Nat) (w : World) (hS : Sees2 w w.heap.size A exL) (hS2 : Sees2 w w.heap.size B exL) : Calls Try.prog 17 #[.slice A 3 c, .slice B 3 d] w (Gives w (.bool true)) :=
  (Same_any A B 3 c 3 d exL exL rfl rfl w hS hS2 (by omega)).mono fun _ _ ⟨h1, q, h2⟩ => ⟨by rw [h1]; rfl, by subst h2; exact below_d (Below.refl _ _) q⟩
theorem seek_ex (A B : Option Addr) (c d : Nat) (w : World) (hS : Sees2 w w.heap.size A exL) (hS2 : Sees w w.heap.size B (bv [97, 98, 100])) : Calls Try.prog 11 #[.slice A 3 c, .slice B 3 d] w (Gives w (.int .i64 2)) :=
  (Seek_any A B 3 c 3 d exL [97, 98, 100] rfl rfl w hS hS2 (by omega)).mono fun _ _ ⟨h1, k, _, h3, h4⟩ => ⟨by rw [h4, h3 ex_others.1, ex_others.2.1]; rfl, by subst h1; exact Below.refl _ _⟩
theorem common_ex (A B : Option Addr) (c d : Nat) (w : World) (hS : Sees w w.heap.size A (bv [97, 98])) (hS2 : Sees w w.heap.size B (bv [97, 98, 99])) : Calls Try.prog 9 #[.slice A 2 c, .slice B 3 d] w (Gives w (.int .i64 2)) :=
  (Common_any A B 2 3 c d [97, 98] [97, 98, 99] rfl rfl w hS hS2 (by simp) (by simp)).mono fun _ _ ⟨h1, q, h2⟩ => ⟨by rw [h1, ex_others.2.2]; rfl, by subst h2; exact below_d (Below.refl _ _) q⟩
theorem check_ex (A : Option Addr) (c : Nat) (w : World) (hS : Sees2 w w.heap.size A exL) : Calls Try.prog 16 #[.slice A 3 c] w (Gives w (.int .i64 0)) :=
  (Check_any A 3 c exL rfl w hS (by omega)).mono fun _ _ ⟨h1, q, h2⟩ => ⟨by rw [h1, ex_check]; rfl, by subst h2; exact below_d (Below.refl _ _) q⟩
theorem split_ex (A : Option Addr) (c : Nat) (hc : 3 ≤ c) (w : World) (hS : Sees2 w w.heap.size A exL) : Calls Try.prog 18 #[.slice A 3 c] w fun e w' => ∃ A' c', e = .returned (.slice A' 1 c') ∧ Below w.heap.size w w' :=
  (Split_any A 3 c exL rfl hc w hS (by omega)).mono fun _ _ ⟨v, h1, h2, h3⟩ => by
    obtain ⟨A', c', rfl, _, _⟩ := h2.open_
    rw [ex_blk] at h1
    exact ⟨A', c', h1, h3⟩

theorem keep2 {B : Nat} {w w' : World} {b : Nat} {u v : Value} (hb : Below B w w') (hlt : b < B) (h : w.cell? ⟨b, 0, none⟩ = some u ∧ w.cell? ⟨b, 1, none⟩ = some v) : w'.cell? ⟨b, 0, none⟩ = some u ∧ w'.cell? ⟨b, 1, none⟩ = some v :=
  ⟨(hb.cell (p := ⟨b, 0, none⟩) hlt).trans h.1, (hb.cell (p := ⟨b, 1, none⟩) hlt).trans h.2⟩
theorem below_undrew {B : Nat} {w w' : World} (h : Below B w.drew w') : Below B w w' := ⟨h.os, h.tape, h.output, h.size, h.block⟩

set_option maxRecDepth 100000 in
set_option maxHeartbeats 1600000 in
theorem awake_any (w : World) : Calls Try.prog 7 #[] w (IsTrue w) := by
  have kc := run_const
  go_enter Try.func7, Try.ntmps7
  go_wp2_with fail
  have hS0 := ex_sees w
  have hb0 : Below w.heap.size w ((((w.alloc (.cells #[.int .u8 97, .int .u8 98] 5 (2, 3))).alloc (.cells #[.int .u8 97, .int .u8 98, .int .u8 99] 5 (3, 4))).alloc (.cells #[.int .u8 98] 5 (1, 2))).alloc
      (.cells #[.slice (some ⟨w.heap.size, 0, none⟩) 2 2, .slice (some ⟨w.heap.size + 1, 0, none⟩) 3 3, .slice (some ⟨w.heap.size + 1 + 1, 0, none⟩) 1 1] 23)) :=
    ((((Below.refl _ w).alloc (Nat.le_refl _) _).alloc (by simp) _).alloc (by simp; omega) _).alloc (by simp; omega) _
  have hz0 : ((((w.alloc (.cells #[.int .u8 97, .int .u8 98] 5 (2, 3))).alloc (.cells #[.int .u8 97, .int .u8 98, .int .u8 99] 5 (3, 4))).alloc (.cells #[.int .u8 98] 5 (1, 2))).alloc
      (.cells #[.slice (some ⟨w.heap.size, 0, none⟩) 2 2, .slice (some ⟨w.heap.size + 1, 0, none⟩) 3 3, .slice (some ⟨w.heap.size + 1 + 1, 0, none⟩) 1 1] 23)).heap.size = w.heap.size + 1 + 1 + 1 + 1 := by simp
  generalize ((((w.alloc (.cells #[.int .u8 97, .int .u8 98] 5 (2, 3))).alloc (.cells #[.int .u8 97, .int .u8 98, .int .u8 99] 5 (3, 4))).alloc (.cells #[.int .u8 98] 5 (1, 2))).alloc
      (.cells #[.slice (some ⟨w.heap.size, 0, none⟩) 2 2, .slice (some ⟨w.heap.size + 1, 0, none⟩) 3 3, .slice (some ⟨w.heap.size + 1 + 1, 0, none⟩) 1 1] 23)) = W at hS0 hb0 hz0 ⊢
  rw [← hz0] at hS0
  clear hz0
  have hP := Pack_any _ 3 3 exL rfl W hS0 (by omega)
  unfold PackIs at hP
  rw [ex_check, if_pos rfl, ex_pack] at hP
  refine hP.mono ?_
  clear hP
  rintro en w2 ⟨v2, rfl, hown2, hb2⟩
  obtain ⟨A2, c2, hv2, hc2, hm2, hown2', hs2⟩ := hown2.open_
  rw [show exB.length = 11 from rfl] at hv2
  subst hv2
  have hU := Unpack_any A2 11 c2 exB rfl hc2 (by omega) w2 hs2
  unfold UnpackIs at hU
  rw [ex_unpack] at hU
  go_wp2_with fail
  refine hU.mono ?_
  clear hU
  rintro en w3 ⟨v3, rfl, hown3, hb3⟩
  go_wp2_with fail
  have hb23 : Below W.heap.size W w3 := hb2.trans (hb3.mono hb2.size)
  have hS3 := hS0.below hb23
  have hsW := hb23.size
  obtain ⟨ad, A0, c0, hA, hadb, hcell0, _, hs0⟩ := hS3.out 0 (by decide)
  obtain ⟨ad', A1, c1, hA', hadb', hcell1, _, hs1⟩ := hS3.out 1 (by decide)
  injection hA with hA
  injection hA' with hA'
  subst hA
  subst hA'
  rw [Addr.add_lit] at hcell0 hcell1
  have e0 : Hid (exL[0] = [97, 98]) := rfl
  have e1 : Hid (exL[1] = [97, 98, 99]) := rfl
  have hcell0' : w3.cell? ⟨w.heap.size + 1 + 1 + 1, 0, none⟩ = some (.slice A0 2 c0) := hcell0
  have hcell1' : w3.cell? ⟨w.heap.size + 1 + 1 + 1, 1, none⟩ = some (.slice A1 3 c1) := hcell1
  clear hcell0 hcell1
  have hs0' : Sees w3 W.heap.size A0 (bv [97, 98]) := hs0
  have hs1' : Sees w3 W.heap.size A1 (bv [97, 98, 99]) := hs1
  clear hs0 hs1
  obtain ⟨A3, c3, hv3, hc3, hS5⟩ := hown3.open_
  rw [show (exL, 0).1.length = 3 from rfl] at hv3
  subst hv3
  have hbl : w.heap.size + 1 + 1 + 1 < W.heap.size := hadb
  have hcv := run_str w3.drew _ A2 11 c2 exB (hs2.below hb3).drew rfl
  rw [show strOf exB = ⟨#[3, 0, 2, 97, 98, 2, 1, 99, 0, 1, 98]⟩ from rfl] at hcv
  refine wp_region_noPanic ?_
  refine wp_region_held_drew (S := fun w' => w'.cell? ⟨w.heap.size + 1 + 1 + 1, 0, none⟩ = some (.slice A0 2 c0) ∧ w'.cell? ⟨w.heap.size + 1 + 1 + 1, 1, none⟩ = some (.slice A1 3 c1)) (by kernel_rfl) ?_ (fun hHeld => ?_)
  · (exact ⟨hcell0', hcell1'⟩)
  refine wpAnyH_take (i := 0) (oi := { dst := some 23, op := Op.move (Operand.tmp 3), type := 29, pos := "law.go:15", after := #[], guard := none }) (v := ?_) rfl (by kernel_rfl) (by kernel_rfl) (by kernel_rfl) (fun _ _ _ h => h) (Or.inl ⟨by rfl, ?_⟩) hHeld ?_
  rotate_left
  · (intro w' hSw; (try dsimp only at hSw); go_split_ands; go_simp; first | done | with_reducible rfl)
  try simp only [Act.put, List.setIfInBounds_toArray, List.set_cons_zero, List.set_cons_succ]
  refine wpAnyH_take (i := 1) (oi := { dst := some 24, op := Op.binOp BinOp.eql 29 (Operand.tmp 23) (Operand.const (Value.int IntKind.i64 0)) 29, type := 4, pos := "law.go:15", after := #[{ on := 0, ground := Ground.data }], guard := none }) (v := ?_) rfl (by kernel_rfl) (by kernel_rfl) (by kernel_rfl) (fun _ _ _ h => h) (Or.inl ⟨by rfl, ?_⟩) hHeld ?_
  rotate_left
  · (intro w' hSw; (try dsimp only at hSw); go_split_ands; go_simp; first | done | with_reducible rfl)
  try simp only [Act.put, List.setIfInBounds_toArray, List.set_cons_zero, List.set_cons_succ]
  refine wpAnyH_take (i := 2) (oi := { dst := some 25, op := Op.move (Operand.tmp 24), type := 4, pos := "law.go:15", after := #[{ on := 1, ground := Ground.data }], guard := none }) (v := ?_) rfl (by kernel_rfl) (by kernel_rfl) (by kernel_rfl) (fun _ _ _ h => h) (Or.inl ⟨by rfl, ?_⟩) hHeld ?_
  rotate_left
  · (intro w' hSw; (try dsimp only at hSw); go_split_ands; go_simp; first | done | with_reducible rfl)
  try simp only [Act.put, List.setIfInBounds_toArray, List.set_cons_zero, List.set_cons_succ]
  refine wpAnyH_take (i := 3) (oi := { dst := some 26, op := Op.move (Operand.tmp 2), type := 23, pos := "law.go:15", after := #[{ on := 2, ground := Ground.guard }], guard := some (2, true) }) (v := ?_) rfl (by kernel_rfl) (by kernel_rfl) (by kernel_rfl) (fun _ _ _ h => h) (Or.inl ⟨by rfl, ?_⟩) hHeld ?_
  rotate_left
  · (intro w' hSw; (try dsimp only at hSw); go_split_ands; go_simp; first | done | with_reducible rfl)
  try simp only [Act.put, List.setIfInBounds_toArray, List.set_cons_zero, List.set_cons_succ]
  refine wpAnyH_ready (rs := [4]) (by kernel_rfl) (by simp) ?_
  refine AllReadyH.cons (o := { dst := some 27, op := Op.convert 23 9 (Operand.tmp 26), type := 9, pos := "law.go:15", after := #[{ on := 3, ground := Ground.data }, { on := 2, ground := Ground.guard }], guard := some (2, true) }) rfl (fun K hK => ?_) AllReadyH.nil
  go_simp
  refine hK.out _ _ ?_ ?_
  · (exact ⟨hcell0', hcell1'⟩)
  clear hK K hHeld; intro hHeld
  try simp only [Act.put, List.setIfInBounds_toArray, List.set_cons_zero, List.set_cons_succ]
  refine wpAnyH_take (i := 5) (oi := { dst := some 28, op := Op.binOp BinOp.eql 9 (Operand.tmp 27) (Operand.const (Value.string { data := #[3, 0, 2, 97, 98, 2, 1, 99, 0, 1, 98] })) 9, type := 4, pos := "law.go:15", after := #[{ on := 4, ground := Ground.data }, { on := 2, ground := Ground.guard }], guard := some (2, true) }) (v := ?_) rfl (by kernel_rfl) (by kernel_rfl) (by kernel_rfl) (fun _ _ _ h => h) (Or.inl ⟨by rfl, ?_⟩) hHeld ?_
  rotate_left
  · (intro w' hSw; (try dsimp only at hSw); go_split_ands; go_simp; first | done | with_reducible rfl)
  try simp only [Act.put, List.setIfInBounds_toArray, List.set_cons_zero, List.set_cons_succ]
  refine wpAnyH_take (i := 6) (oi := { dst := some 29, op := Op.pick (Operand.tmp 25) (Operand.tmp 28) (Operand.const (Value.bool false)), type := 4, pos := "law.go:15", after := #[{ on := 2, ground := Ground.data }, { on := 5, ground := Ground.data }], guard := none }) (v := ?_) rfl (by kernel_rfl) (by kernel_rfl) (by kernel_rfl) (fun _ _ _ h => h) (Or.inl ⟨by rfl, ?_⟩) hHeld ?_
  rotate_left
  · (intro w' hSw; (try dsimp only at hSw); go_split_ands; go_simp; first | done | with_reducible rfl)
  try simp only [Act.put, List.setIfInBounds_toArray, List.set_cons_zero, List.set_cons_succ]
  refine wpAnyH_take (i := 7) (oi := { dst := some 30, op := Op.move (Operand.tmp 29), type := 4, pos := "law.go:15", after := #[{ on := 6, ground := Ground.data }, { on := 2, ground := Ground.chain }], guard := none }) (v := ?_) rfl (by kernel_rfl) (by kernel_rfl) (by kernel_rfl) (fun _ _ _ h => h) (Or.inl ⟨by rfl, ?_⟩) hHeld ?_
  rotate_left
  · (intro w' hSw; (try dsimp only at hSw); go_split_ands; go_simp; first | done | with_reducible rfl)
  try simp only [Act.put, List.setIfInBounds_toArray, List.set_cons_zero, List.set_cons_succ]
  refine wpAnyH_take (i := 8) (oi := { dst := some 31, op := Op.move (Operand.tmp 5), type := 29, pos := "law.go:15", after := #[{ on := 7, ground := Ground.guard }], guard := some (7, true) }) (v := ?_) rfl (by kernel_rfl) (by kernel_rfl) (by kernel_rfl) (fun _ _ _ h => h) (Or.inl ⟨by rfl, ?_⟩) hHeld ?_
  rotate_left
  · (intro w' hSw; (try dsimp only at hSw); go_split_ands; go_simp; first | done | with_reducible rfl)
  try simp only [Act.put, List.setIfInBounds_toArray, List.set_cons_zero, List.set_cons_succ]
  refine wpAnyH_take (i := 9) (oi := { dst := some 32, op := Op.binOp BinOp.eql 29 (Operand.tmp 31) (Operand.const (Value.int IntKind.i64 0)) 29, type := 4, pos := "law.go:15", after := #[{ on := 8, ground := Ground.data }, { on := 7, ground := Ground.guard }], guard := some (7, true) }) (v := ?_) rfl (by kernel_rfl) (by kernel_rfl) (by kernel_rfl) (fun _ _ _ h => h) (Or.inl ⟨by rfl, ?_⟩) hHeld ?_
  rotate_left
  · (intro w' hSw; (try dsimp only at hSw); go_split_ands; go_simp; first | done | with_reducible rfl)
  try simp only [Act.put, List.setIfInBounds_toArray, List.set_cons_zero, List.set_cons_succ]
  refine wpAnyH_take (i := 10) (oi := { dst := some 33, op := Op.pick (Operand.tmp 30) (Operand.tmp 32) (Operand.const (Value.bool false)), type := 4, pos := "law.go:15", after := #[{ on := 7, ground := Ground.data }, { on := 9, ground := Ground.data }], guard := none }) (v := ?_) rfl (by kernel_rfl) (by kernel_rfl) (by kernel_rfl) (fun _ _ _ h => h) (Or.inl ⟨by rfl, ?_⟩) hHeld ?_
  rotate_left
  · (intro w' hSw; (try dsimp only at hSw); go_split_ands; go_simp; first | done | with_reducible rfl)
  try simp only [Act.put, List.setIfInBounds_toArray, List.set_cons_zero, List.set_cons_succ]
  refine wpAnyH_take (i := 11) (oi := { dst := some 34, op := Op.move (Operand.tmp 33), type := 4, pos := "law.go:15", after := #[{ on := 10, ground := Ground.data }, { on := 7, ground := Ground.chain }], guard := none }) (v := ?_) rfl (by kernel_rfl) (by kernel_rfl) (by kernel_rfl) (fun _ _ _ h => h) (Or.inl ⟨by rfl, ?_⟩) hHeld ?_
  rotate_left
  · (intro w' hSw; (try dsimp only at hSw); go_split_ands; go_simp; first | done | with_reducible rfl)
  try simp only [Act.put, List.setIfInBounds_toArray, List.set_cons_zero, List.set_cons_succ]
  refine wpAnyH_take (i := 12) (oi := { dst := some 35, op := Op.move (Operand.tmp 4), type := 22, pos := "law.go:15", after := #[{ on := 11, ground := Ground.guard }], guard := some (11, true) }) (v := ?_) rfl (by kernel_rfl) (by kernel_rfl) (by kernel_rfl) (fun _ _ _ h => h) (Or.inl ⟨by rfl, ?_⟩) hHeld ?_
  rotate_left
  · (intro w' hSw; (try dsimp only at hSw); go_split_ands; go_simp; first | done | with_reducible rfl)
  try simp only [Act.put, List.setIfInBounds_toArray, List.set_cons_zero, List.set_cons_succ]
  refine wpAnyH_take (i := 13) (oi := { dst := some 36, op := Op.move (Operand.tmp 1), type := 22, pos := "law.go:15", after := #[{ on := 11, ground := Ground.guard }], guard := some (11, true) }) (v := ?_) rfl (by kernel_rfl) (by kernel_rfl) (by kernel_rfl) (fun _ _ _ h => h) (Or.inl ⟨by rfl, ?_⟩) hHeld ?_
  rotate_left
  · (intro w' hSw; (try dsimp only at hSw); go_split_ands; go_simp; first | done | with_reducible rfl)
  try simp only [Act.put, List.setIfInBounds_toArray, List.set_cons_zero, List.set_cons_succ]
  refine wpAnyH_ready (rs := [14]) (by kernel_rfl) (by simp) ?_
  refine AllReadyH.cons (o := { dst := some 37, op := Op.call { callee := Callee.value (Operand.func 17), args := #[Operand.tmp 35, Operand.tmp 36], argTypes := #[22, 22] }, type := 4, pos := "law.go:15", after := #[{ on := 12, ground := Ground.data }, { on := 13, ground := Ground.data }, { on := 11, ground := Ground.chain }, { on := 11, ground := Ground.guard }], guard := some (11, true) }) rfl (fun K hK => ?_) AllReadyH.nil
  go_simp
  refine (same_ex A3 _ c3 3 _ (hS5.drew 1) ((hS3.more hsW).drew 1)).mono ?_
  rintro en w4 ⟨rfl, hb4⟩
  have hb34 : Below w3.heap.size w3 w4 := below_undrew hb4
  have hk4 := keep2 hb34 (by omega) ⟨hcell0', hcell1'⟩
  have hS4 := ((hS3.more hsW).below hb34).more hb34.size
  have hz4 := hb34.size
  clear hcell0' hcell1' hS3 hS5 hb4 hcv
  go_wp2_with fail
  refine hK.out _ _ ?_ ?_
  · (exact hk4)
  clear hK K hHeld; intro hHeld
  try simp only [Act.put, List.setIfInBounds_toArray, List.set_cons_zero, List.set_cons_succ]
  refine wpAnyH_take (i := 15) (oi := { dst := some 38, op := Op.pick (Operand.tmp 34) (Operand.tmp 37) (Operand.const (Value.bool false)), type := 4, pos := "law.go:15", after := #[{ on := 11, ground := Ground.data }, { on := 14, ground := Ground.data }], guard := none }) (v := ?_) rfl (by kernel_rfl) (by kernel_rfl) (by kernel_rfl) (fun _ _ _ h => h) (Or.inl ⟨by rfl, ?_⟩) hHeld ?_
  rotate_left
  · (intro w' hSw; (try dsimp only at hSw); go_split_ands; go_simp; first | done | with_reducible rfl)
  try simp only [Act.put, List.setIfInBounds_toArray, List.set_cons_zero, List.set_cons_succ]
  refine wpAnyH_take (i := 16) (oi := { dst := some 39, op := Op.move (Operand.tmp 38), type := 4, pos := "law.go:15", after := #[{ on := 15, ground := Ground.data }, { on := 14, ground := Ground.chain }], guard := none }) (v := ?_) rfl (by kernel_rfl) (by kernel_rfl) (by kernel_rfl) (fun _ _ _ h => h) (Or.inl ⟨by rfl, ?_⟩) hHeld ?_
  rotate_left
  · (intro w' hSw; (try dsimp only at hSw); go_split_ands; go_simp; first | done | with_reducible rfl)
  try simp only [Act.put, List.setIfInBounds_toArray, List.set_cons_zero, List.set_cons_succ]
  refine wpAnyH_take (i := 17) (oi := { dst := some 40, op := Op.move (Operand.tmp 1), type := 22, pos := "law.go:15", after := #[{ on := 16, ground := Ground.guard }], guard := some (16, true) }) (v := ?_) rfl (by kernel_rfl) (by kernel_rfl) (by kernel_rfl) (fun _ _ _ h => h) (Or.inl ⟨by rfl, ?_⟩) hHeld ?_
  rotate_left
  · (intro w' hSw; (try dsimp only at hSw); go_split_ands; go_simp; first | done | with_reducible rfl)
  try simp only [Act.put, List.setIfInBounds_toArray, List.set_cons_zero, List.set_cons_succ]
  refine wpAnyH_ready (rs := [18]) (by kernel_rfl) (by simp) ?_
  refine AllReadyH.cons (o := { dst := some 41, op := Op.buildSlice 23 3 #[(0, Operand.const (Value.int IntKind.u8 97)), (1, Operand.const (Value.int IntKind.u8 98)), (2, Operand.const (Value.int IntKind.u8 100))], type := 23, pos := "law.go:15", after := #[{ on := 16, ground := Ground.guard }], guard := some (16, true) }) rfl (fun K hK => ?_) AllReadyH.nil
  go_simp
  refine hK.out _ _ ?_ ?_
  · (exact keep2 ((Below.refl _ w4).alloc (Nat.le_refl _) _) (by omega) hk4)
  clear hK K hHeld; intro hHeld
  try simp only [Act.put, List.setIfInBounds_toArray, List.set_cons_zero, List.set_cons_succ]
  refine wpAnyH_ready (rs := [19]) (by kernel_rfl) (by simp) ?_
  refine AllReadyH.cons (o := { dst := some 42, op := Op.convert 23 23 (Operand.tmp 41), type := 23, pos := "law.go:15", after := #[{ on := 18, ground := Ground.data }, { on := 16, ground := Ground.guard }], guard := some (16, true) }) rfl (fun K hK => ?_) AllReadyH.nil
  go_simp
  refine hK.out _ _ ?_ ?_
  · (exact keep2 ((Below.refl _ w4).alloc (Nat.le_refl _) _) (by omega) hk4)
  clear hK K hHeld; intro hHeld
  try simp only [Act.put, List.setIfInBounds_toArray, List.set_cons_zero, List.set_cons_succ]
  refine wpAnyH_ready (rs := [20]) (by kernel_rfl) (by simp) ?_
  refine AllReadyH.cons (o := { dst := some 43, op := Op.call { callee := Callee.value (Operand.func 11), args := #[Operand.tmp 40, Operand.tmp 42], argTypes := #[22, 23] }, type := 3, pos := "law.go:15", after := #[{ on := 17, ground := Ground.data }, { on := 19, ground := Ground.data }, { on := 16, ground := Ground.chain }, { on := 16, ground := Ground.guard }], guard := some (16, true) }) rfl (fun K hK => ?_) AllReadyH.nil
  go_simp
  refine (seek_ex _ _ 3 3 _ ((hS4.alloc (Nat.le_refl _) _).more (by simp)) ((sees_mark' w4 _ rfl [97, 98, 100] _ _ _ (by simp [bv])).more (by simp))).mono ?_
  rintro en w5 ⟨rfl, hb5⟩
  have hb45 : Below w4.heap.size w4 w5 := ((Below.refl _ w4).alloc (Nat.le_refl _) _).trans (hb5.mono (by simp))
  have hk5 := keep2 hb45 (by omega) hk4
  have hS5 := (hS4.below hb45).more hb45.size
  have hb35 : Below w3.heap.size w3 w5 := hb34.trans (hb45.mono hz4)
  have hz5 := hb35.size
  clear hk4 hS4 hb5
  go_wp2_with fail
  refine hK.out _ _ ?_ ?_
  · (exact hk5)
  clear hK K hHeld; intro hHeld
  try simp only [Act.put, List.setIfInBounds_toArray, List.set_cons_zero, List.set_cons_succ]
  refine wpAnyH_take (i := 21) (oi := { dst := some 44, op := Op.binOp BinOp.eql 3 (Operand.tmp 43) (Operand.const (Value.int IntKind.i64 2)) 3, type := 4, pos := "law.go:15", after := #[{ on := 20, ground := Ground.data }, { on := 16, ground := Ground.guard }], guard := some (16, true) }) (v := ?_) rfl (by kernel_rfl) (by kernel_rfl) (by kernel_rfl) (fun _ _ _ h => h) (Or.inl ⟨by rfl, ?_⟩) hHeld ?_
  rotate_left
  · (intro w' hSw; (try dsimp only at hSw); go_split_ands; go_simp; first | done | with_reducible rfl)
  try simp only [Act.put, List.setIfInBounds_toArray, List.set_cons_zero, List.set_cons_succ]
  refine wpAnyH_take (i := 22) (oi := { dst := some 45, op := Op.pick (Operand.tmp 39) (Operand.tmp 44) (Operand.const (Value.bool false)), type := 4, pos := "law.go:15", after := #[{ on := 16, ground := Ground.data }, { on := 21, ground := Ground.data }], guard := none }) (v := ?_) rfl (by kernel_rfl) (by kernel_rfl) (by kernel_rfl) (fun _ _ _ h => h) (Or.inl ⟨by rfl, ?_⟩) hHeld ?_
  rotate_left
  · (intro w' hSw; (try dsimp only at hSw); go_split_ands; go_simp; first | done | with_reducible rfl)
  try simp only [Act.put, List.setIfInBounds_toArray, List.set_cons_zero, List.set_cons_succ]
  refine wpAnyH_take (i := 23) (oi := { dst := some 46, op := Op.move (Operand.tmp 45), type := 4, pos := "law.go:15", after := #[{ on := 22, ground := Ground.data }, { on := 20, ground := Ground.chain }], guard := none }) (v := ?_) rfl (by kernel_rfl) (by kernel_rfl) (by kernel_rfl) (fun _ _ _ h => h) (Or.inl ⟨by rfl, ?_⟩) hHeld ?_
  rotate_left
  · (intro w' hSw; (try dsimp only at hSw); go_split_ands; go_simp; first | done | with_reducible rfl)
  try simp only [Act.put, List.setIfInBounds_toArray, List.set_cons_zero, List.set_cons_succ]
  refine wpAnyH_take (i := 24) (oi := { dst := some 47, op := Op.move (Operand.tmp 1), type := 22, pos := "law.go:15", after := #[{ on := 23, ground := Ground.guard }], guard := some (23, true) }) (v := ?_) rfl (by kernel_rfl) (by kernel_rfl) (by kernel_rfl) (fun _ _ _ h => h) (Or.inl ⟨by rfl, ?_⟩) hHeld ?_
  rotate_left
  · (intro w' hSw; (try dsimp only at hSw); go_split_ands; go_simp; first | done | with_reducible rfl)
  try simp only [Act.put, List.setIfInBounds_toArray, List.set_cons_zero, List.set_cons_succ]
  refine wpAnyH_take (i := 25) (oi := { dst := some 48, op := Op.indexAddr 22 (Operand.tmp 47) (Operand.const (Value.int IntKind.i64 0)), type := 0, pos := "law.go:15", after := #[{ on := 24, ground := Ground.data }, { on := 23, ground := Ground.guard }], guard := some (23, true) }) (v := ?_) rfl (by kernel_rfl) (by kernel_rfl) (by kernel_rfl) (fun _ _ _ h => h) (Or.inl ⟨by rfl, ?_⟩) hHeld ?_
  rotate_left
  · (intro w' hSw; (try dsimp only at hSw); go_split_ands; go_simp; first | done | with_reducible rfl)
  try simp only [Act.put, List.setIfInBounds_toArray, List.set_cons_zero, List.set_cons_succ]
  refine wpAnyH_take (i := 26) (oi := { dst := some 49, op := Op.load 23 (Operand.tmp 48), type := 23, pos := "law.go:15", after := #[{ on := 25, ground := Ground.data }, { on := 23, ground := Ground.guard }], guard := some (23, true) }) (v := ?_) rfl (by kernel_rfl) (by kernel_rfl) (by kernel_rfl) (fun _ _ _ h => h) (Or.inl ⟨by rfl, ?_⟩) hHeld ?_
  rotate_left
  · (intro w' hSw; (try dsimp only at hSw); go_split_ands; go_simp; first | done | with_reducible rfl)
  try simp only [Act.put, List.setIfInBounds_toArray, List.set_cons_zero, List.set_cons_succ]
  refine wpAnyH_take (i := 27) (oi := { dst := some 50, op := Op.move (Operand.tmp 1), type := 22, pos := "law.go:15", after := #[{ on := 23, ground := Ground.guard }], guard := some (23, true) }) (v := ?_) rfl (by kernel_rfl) (by kernel_rfl) (by kernel_rfl) (fun _ _ _ h => h) (Or.inl ⟨by rfl, ?_⟩) hHeld ?_
  rotate_left
  · (intro w' hSw; (try dsimp only at hSw); go_split_ands; go_simp; first | done | with_reducible rfl)
  try simp only [Act.put, List.setIfInBounds_toArray, List.set_cons_zero, List.set_cons_succ]
  refine wpAnyH_take (i := 28) (oi := { dst := some 51, op := Op.indexAddr 22 (Operand.tmp 50) (Operand.const (Value.int IntKind.i64 1)), type := 0, pos := "law.go:15", after := #[{ on := 27, ground := Ground.data }, { on := 23, ground := Ground.guard }], guard := some (23, true) }) (v := ?_) rfl (by kernel_rfl) (by kernel_rfl) (by kernel_rfl) (fun _ _ _ h => h) (Or.inl ⟨by rfl, ?_⟩) hHeld ?_
  rotate_left
  · (intro w' hSw; (try dsimp only at hSw); go_split_ands; go_simp; first | done | with_reducible rfl)
  try simp only [Act.put, List.setIfInBounds_toArray, List.set_cons_zero, List.set_cons_succ]
  refine wpAnyH_take (i := 29) (oi := { dst := some 52, op := Op.load 23 (Operand.tmp 51), type := 23, pos := "law.go:15", after := #[{ on := 28, ground := Ground.data }, { on := 23, ground := Ground.guard }], guard := some (23, true) }) (v := ?_) rfl (by kernel_rfl) (by kernel_rfl) (by kernel_rfl) (fun _ _ _ h => h) (Or.inl ⟨by rfl, ?_⟩) hHeld ?_
  rotate_left
  · (intro w' hSw; (try dsimp only at hSw); go_split_ands; go_simp; first | done | with_reducible rfl)
  try simp only [Act.put, List.setIfInBounds_toArray, List.set_cons_zero, List.set_cons_succ]
  refine wpAnyH_ready (rs := [30]) (by kernel_rfl) (by simp) ?_
  refine AllReadyH.cons (o := { dst := some 53, op := Op.call { callee := Callee.value (Operand.func 9), args := #[Operand.tmp 49, Operand.tmp 52], argTypes := #[23, 23] }, type := 3, pos := "law.go:15", after := #[{ on := 26, ground := Ground.data }, { on := 29, ground := Ground.data }, { on := 23, ground := Ground.chain }, { on := 23, ground := Ground.guard }], guard := some (23, true) }) rfl (fun K hK => ?_) AllReadyH.nil
  go_simp
  refine (common_ex A0 A1 c0 c1 _ ((hs0'.below (hb35.mono hsW)).more (by omega)) ((hs1'.below (hb35.mono hsW)).more (by omega))).mono ?_
  rintro en w6 ⟨rfl, hb6⟩
  have hk6 := keep2 hb6 (by omega) hk5
  have hS6 := (hS5.below hb6).more hb6.size
  have hb36 : Below w3.heap.size w3 w6 := hb35.trans (hb6.mono hz5)
  have hz6 := hb36.size
  clear hk5 hS5
  go_wp2_with fail
  refine hK.out _ _ ?_ ?_
  · (exact hk6)
  clear hK K hHeld; intro hHeld
  try simp only [Act.put, List.setIfInBounds_toArray, List.set_cons_zero, List.set_cons_succ]
  refine wpAnyH_take (i := 31) (oi := { dst := some 54, op := Op.binOp BinOp.eql 3 (Operand.tmp 53) (Operand.const (Value.int IntKind.i64 2)) 3, type := 4, pos := "law.go:15", after := #[{ on := 30, ground := Ground.data }, { on := 23, ground := Ground.guard }], guard := some (23, true) }) (v := ?_) rfl (by kernel_rfl) (by kernel_rfl) (by kernel_rfl) (fun _ _ _ h => h) (Or.inl ⟨by rfl, ?_⟩) hHeld ?_
  rotate_left
  · (intro w' hSw; (try dsimp only at hSw); go_split_ands; go_simp; first | done | with_reducible rfl)
  try simp only [Act.put, List.setIfInBounds_toArray, List.set_cons_zero, List.set_cons_succ]
  refine wpAnyH_take (i := 32) (oi := { dst := some 55, op := Op.pick (Operand.tmp 46) (Operand.tmp 54) (Operand.const (Value.bool false)), type := 4, pos := "law.go:15", after := #[{ on := 23, ground := Ground.data }, { on := 31, ground := Ground.data }], guard := none }) (v := ?_) rfl (by kernel_rfl) (by kernel_rfl) (by kernel_rfl) (fun _ _ _ h => h) (Or.inl ⟨by rfl, ?_⟩) hHeld ?_
  rotate_left
  · (intro w' hSw; (try dsimp only at hSw); go_split_ands; go_simp; first | done | with_reducible rfl)
  try simp only [Act.put, List.setIfInBounds_toArray, List.set_cons_zero, List.set_cons_succ]
  refine wpAnyH_take (i := 33) (oi := { dst := some 56, op := Op.move (Operand.tmp 55), type := 4, pos := "law.go:15", after := #[{ on := 32, ground := Ground.data }, { on := 30, ground := Ground.chain }], guard := none }) (v := ?_) rfl (by kernel_rfl) (by kernel_rfl) (by kernel_rfl) (fun _ _ _ h => h) (Or.inl ⟨by rfl, ?_⟩) hHeld ?_
  rotate_left
  · (intro w' hSw; (try dsimp only at hSw); go_split_ands; go_simp; first | done | with_reducible rfl)
  try simp only [Act.put, List.setIfInBounds_toArray, List.set_cons_zero, List.set_cons_succ]
  refine wpAnyH_take (i := 34) (oi := { dst := some 57, op := Op.move (Operand.tmp 1), type := 22, pos := "law.go:15", after := #[{ on := 33, ground := Ground.guard }], guard := some (33, true) }) (v := ?_) rfl (by kernel_rfl) (by kernel_rfl) (by kernel_rfl) (fun _ _ _ h => h) (Or.inl ⟨by rfl, ?_⟩) hHeld ?_
  rotate_left
  · (intro w' hSw; (try dsimp only at hSw); go_split_ands; go_simp; first | done | with_reducible rfl)
  try simp only [Act.put, List.setIfInBounds_toArray, List.set_cons_zero, List.set_cons_succ]
  refine wpAnyH_ready (rs := [35]) (by kernel_rfl) (by simp) ?_
  refine AllReadyH.cons (o := { dst := some 58, op := Op.call { callee := Callee.value (Operand.func 18), args := #[Operand.tmp 57], argTypes := #[22] }, type := 37, pos := "law.go:15", after := #[{ on := 34, ground := Ground.data }, { on := 33, ground := Ground.chain }, { on := 33, ground := Ground.guard }], guard := some (33, true) }) rfl (fun K hK => ?_) AllReadyH.nil
  go_simp
  refine (split_ex _ 3 (by omega) _ hS6).mono ?_
  rintro en w7 ⟨A7, c7, rfl, hb7⟩
  have hk7 := keep2 hb7 (by omega) hk6
  have hS7 := (hS6.below hb7).more hb7.size
  have hb37 : Below w3.heap.size w3 w7 := hb36.trans (hb7.mono hz6)
  have hz7 := hb37.size
  clear hk6 hS6
  go_wp2_with fail
  refine hK.out _ _ ?_ ?_
  · (exact hk7)
  clear hK K hHeld; intro hHeld
  try simp only [Act.put, List.setIfInBounds_toArray, List.set_cons_zero, List.set_cons_succ]
  refine wpAnyH_take (i := 36) (oi := { dst := some 59, op := Op.call { callee := Callee.builtin Builtin.len, args := #[Operand.tmp 58], argTypes := #[37] }, type := 3, pos := "law.go:15", after := #[{ on := 35, ground := Ground.data }, { on := 33, ground := Ground.guard }], guard := some (33, true) }) (v := ?_) rfl (by kernel_rfl) (by kernel_rfl) (by kernel_rfl) (fun _ _ _ h => h) (Or.inl ⟨by rfl, ?_⟩) hHeld ?_
  rotate_left
  · (intro w' hSw; (try dsimp only at hSw); go_split_ands; go_simp; first | done | with_reducible rfl)
  try simp only [Act.put, List.setIfInBounds_toArray, List.set_cons_zero, List.set_cons_succ]
  refine wpAnyH_take (i := 37) (oi := { dst := some 60, op := Op.binOp BinOp.eql 3 (Operand.tmp 59) (Operand.const (Value.int IntKind.i64 1)) 3, type := 4, pos := "law.go:15", after := #[{ on := 36, ground := Ground.data }, { on := 33, ground := Ground.guard }], guard := some (33, true) }) (v := ?_) rfl (by kernel_rfl) (by kernel_rfl) (by kernel_rfl) (fun _ _ _ h => h) (Or.inl ⟨by rfl, ?_⟩) hHeld ?_
  rotate_left
  · (intro w' hSw; (try dsimp only at hSw); go_split_ands; go_simp; first | done | with_reducible rfl)
  try simp only [Act.put, List.setIfInBounds_toArray, List.set_cons_zero, List.set_cons_succ]
  refine wpAnyH_take (i := 38) (oi := { dst := some 61, op := Op.pick (Operand.tmp 56) (Operand.tmp 60) (Operand.const (Value.bool false)), type := 4, pos := "law.go:15", after := #[{ on := 33, ground := Ground.data }, { on := 37, ground := Ground.data }], guard := none }) (v := ?_) rfl (by kernel_rfl) (by kernel_rfl) (by kernel_rfl) (fun _ _ _ h => h) (Or.inl ⟨by rfl, ?_⟩) hHeld ?_
  rotate_left
  · (intro w' hSw; (try dsimp only at hSw); go_split_ands; go_simp; first | done | with_reducible rfl)
  try simp only [Act.put, List.setIfInBounds_toArray, List.set_cons_zero, List.set_cons_succ]
  refine wpAnyH_take (i := 39) (oi := { dst := some 62, op := Op.move (Operand.tmp 61), type := 4, pos := "law.go:15", after := #[{ on := 38, ground := Ground.data }, { on := 35, ground := Ground.chain }], guard := none }) (v := ?_) rfl (by kernel_rfl) (by kernel_rfl) (by kernel_rfl) (fun _ _ _ h => h) (Or.inl ⟨by rfl, ?_⟩) hHeld ?_
  rotate_left
  · (intro w' hSw; (try dsimp only at hSw); go_split_ands; go_simp; first | done | with_reducible rfl)
  try simp only [Act.put, List.setIfInBounds_toArray, List.set_cons_zero, List.set_cons_succ]
  refine wpAnyH_take (i := 40) (oi := { dst := some 63, op := Op.move (Operand.tmp 1), type := 22, pos := "law.go:15", after := #[{ on := 39, ground := Ground.guard }], guard := some (39, true) }) (v := ?_) rfl (by kernel_rfl) (by kernel_rfl) (by kernel_rfl) (fun _ _ _ h => h) (Or.inl ⟨by rfl, ?_⟩) hHeld ?_
  rotate_left
  · (intro w' hSw; (try dsimp only at hSw); go_split_ands; go_simp; first | done | with_reducible rfl)
  try simp only [Act.put, List.setIfInBounds_toArray, List.set_cons_zero, List.set_cons_succ]
  refine wpAnyH_ready (rs := [41]) (by kernel_rfl) (by simp) ?_
  refine AllReadyH.cons (o := { dst := some 64, op := Op.call { callee := Callee.value (Operand.func 16), args := #[Operand.tmp 63], argTypes := #[22] }, type := 29, pos := "law.go:15", after := #[{ on := 40, ground := Ground.data }, { on := 39, ground := Ground.chain }, { on := 39, ground := Ground.guard }], guard := some (39, true) }) rfl (fun K hK => ?_) AllReadyH.nil
  go_simp
  refine (check_ex _ 3 _ hS7).mono ?_
  rintro en w8 ⟨rfl, hb8⟩
  have hk8 := keep2 hb8 (by omega) hk7
  have hb38 : Below w3.heap.size w3 w8 := hb37.trans (hb8.mono hz7)
  clear hk7 hS7
  go_wp2_with fail
  refine hK.out _ _ ?_ ?_
  · (exact hk8)
  clear hK K hHeld; intro hHeld
  try simp only [Act.put, List.setIfInBounds_toArray, List.set_cons_zero, List.set_cons_succ]
  refine wpAnyH_take (i := 42) (oi := { dst := some 65, op := Op.binOp BinOp.eql 29 (Operand.tmp 64) (Operand.const (Value.int IntKind.i64 0)) 29, type := 4, pos := "law.go:15", after := #[{ on := 41, ground := Ground.data }, { on := 39, ground := Ground.guard }], guard := some (39, true) }) (v := ?_) rfl (by kernel_rfl) (by kernel_rfl) (by kernel_rfl) (fun _ _ _ h => h) (Or.inl ⟨by rfl, ?_⟩) hHeld ?_
  rotate_left
  · (intro w' hSw; (try dsimp only at hSw); go_split_ands; go_simp; first | done | with_reducible rfl)
  try simp only [Act.put, List.setIfInBounds_toArray, List.set_cons_zero, List.set_cons_succ]
  refine wpAnyH_take (i := 43) (oi := { dst := some 66, op := Op.pick (Operand.tmp 62) (Operand.tmp 65) (Operand.const (Value.bool false)), type := 4, pos := "law.go:15", after := #[{ on := 39, ground := Ground.data }, { on := 42, ground := Ground.data }], guard := none }) (v := ?_) rfl (by kernel_rfl) (by kernel_rfl) (by kernel_rfl) (fun _ _ _ h => h) (Or.inl ⟨by rfl, ?_⟩) hHeld ?_
  rotate_left
  · (intro w' hSw; (try dsimp only at hSw); go_split_ands; go_simp; first | done | with_reducible rfl)
  try simp only [Act.put, List.setIfInBounds_toArray, List.set_cons_zero, List.set_cons_succ]
  refine wpAnyH_take (i := 44) (oi := { dst := some 0, op := Op.assign (Operand.tmp 66), type := 4, pos := "law.go:15", after := #[{ on := 43, ground := Ground.data }, { on := 41, ground := Ground.chain }, { on := 0, ground := Ground.phase }, { on := 1, ground := Ground.phase }, { on := 2, ground := Ground.phase }, { on := 3, ground := Ground.phase }, { on := 4, ground := Ground.phase }, { on := 5, ground := Ground.phase }, { on := 6, ground := Ground.phase }, { on := 7, ground := Ground.phase }, { on := 8, ground := Ground.phase }, { on := 9, ground := Ground.phase }, { on := 10, ground := Ground.phase }, { on := 11, ground := Ground.phase }, { on := 12, ground := Ground.phase }, { on := 13, ground := Ground.phase }, { on := 14, ground := Ground.phase }, { on := 15, ground := Ground.phase }, { on := 16, ground := Ground.phase }, { on := 17, ground := Ground.phase }, { on := 18, ground := Ground.phase }, { on := 19, ground := Ground.phase }, { on := 20, ground := Ground.phase }, { on := 21, ground := Ground.phase }, { on := 22, ground := Ground.phase }, { on := 23, ground := Ground.phase }, { on := 24, ground := Ground.phase }, { on := 25, ground := Ground.phase }, { on := 26, ground := Ground.phase }, { on := 27, ground := Ground.phase }, { on := 28, ground := Ground.phase }, { on := 29, ground := Ground.phase }, { on := 30, ground := Ground.phase }, { on := 31, ground := Ground.phase }, { on := 32, ground := Ground.phase }, { on := 33, ground := Ground.phase }, { on := 34, ground := Ground.phase }, { on := 35, ground := Ground.phase }, { on := 36, ground := Ground.phase }, { on := 37, ground := Ground.phase }, { on := 38, ground := Ground.phase }, { on := 39, ground := Ground.phase }, { on := 40, ground := Ground.phase }, { on := 41, ground := Ground.phase }, { on := 42, ground := Ground.phase }, { on := 43, ground := Ground.phase }], guard := none }) (v := ?_) rfl (by kernel_rfl) (by kernel_rfl) (by kernel_rfl) (fun _ _ _ h => h) (Or.inl ⟨by rfl, ?_⟩) hHeld ?_
  rotate_left
  · (intro w' hSw; (try dsimp only at hSw); go_split_ands; go_simp; first | done | with_reducible rfl)
  try simp only [Act.put, List.setIfInBounds_toArray, List.set_cons_zero, List.set_cons_succ]
  refine wpAnyH_done (by kernel_rfl) ?_ _
  refine NoPanic.normal ?_
  go_wp2
  go_ret
  exact ⟨rfl, hb0.trans ((hb23.trans (hb38.mono hsW)).mono hb0.size)⟩
end Go.Proofs.Ytnjchdehjinooaa
