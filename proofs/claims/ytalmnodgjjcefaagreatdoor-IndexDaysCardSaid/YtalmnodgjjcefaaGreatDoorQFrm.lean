/- Several texts in one: FrPlain FrSum FrRef FrMake FrNext FrNext2 FrNext3. -/
import Derived.Test.YtalmnodgjjcefaaGreatDoorQLow
import Derived.Lib.LaidTab
import Derived.Defers
import Derived.Deep.RegionWith
namespace Go.Proofs.YtalmnodgjjcefaaGreatDoor
def ctab : List Nat := [0, 498536548, 997073096, 651767980, 1994146192, 1802195444, 1303535960, 1342533948, 3988292384, 4027552580, 3604390888, 3412177804, 2607071920, 2262029012, 2685067896, 3183342108]
def nib (r : Nat) : Nat := r / 16 ^^^ ctab.getD (r % 16) 0
def crcByte (r : Nat) (c : UInt8) : Nat := nib (nib (r ^^^ c.toNat))
def crcFrom (r : Nat) (l : List UInt8) : Nat := l.foldl crcByte r
def crc (l : List UInt8) : Nat := 4294967295 - crcFrom 4294967295 l
def Is32 (n : Nat) : Prop := n < 4294967296
theorem Is32.xor {a b : Nat} (ha : Is32 a) (hb : Is32 b) : Is32 (a ^^^ b) := Nat.xor_lt_two_pow (n := 32) ha hb
theorem Is32.byte (c : UInt8) : Is32 c.toNat := by have := c.toNat_lt; unfold Is32; omega
theorem Is32.div {a : Nat} (ha : Is32 a) (k : Nat) : Is32 (a / k) := Nat.lt_of_le_of_lt (Nat.div_le_self _ _) ha
theorem ctab_lt : ∀ i, i < 16 → Is32 (ctab.getD i 0) := by unfold Is32; decide
theorem Is32.nib {a : Nat} (ha : Is32 a) : Is32 (nib a) := (ha.div 16).xor (ctab_lt _ (by omega))
theorem Is32.crcByte {a : Nat} (ha : Is32 a) (c : UInt8) : Is32 (crcByte a c) := ((ha.xor (Is32.byte c)).nib).nib
theorem Is32.crcFrom {a : Nat} (ha : Is32 a) (l : List UInt8) : Is32 (crcFrom a l) := by
 induction l generalizing a with
 | nil => exact ha
 | cons c l ih => exact ih (ha.crcByte c)
theorem Is32.full : Is32 4294967295 := by unfold Is32; omega
theorem Is32.crc (l : List UInt8) : Is32 (crc l) := by unfold Is32 Proofs.YtalmnodgjjcefaaGreatDoor.crc; omega
def tail4 (s : Nat) : List UInt8 := [UInt8.ofNat (s / 16777216), UInt8.ofNat (s / 65536), UInt8.ofNat (s / 256), UInt8.ofNat s]
def sealB (l : List UInt8) : List UInt8 := l ++ tail4 (crc l)
def fnext : List UInt8 → Nat × List UInt8 × List UInt8 × Nat
 | [] => (0, [], [], 10)
 | k :: t =>
  if (vtake t).2.2 ≠ 0 then (0, [], [], (vtake t).2.2)
  else if 65535 < (vtake t).1 then (0, [], [], 11)
  else if (t.drop (vtake t).2.1).length < (vtake t).1 + 4 then (0, [], [], 10)
  else if sealB ((k :: t).take (1 + (vtake t).2.1 + (vtake t).1)) == (k :: t).take (1 + (vtake t).2.1 + (vtake t).1 + 4) then (k.toNat, (t.drop (vtake t).2.1).take (vtake t).1, (t.drop (vtake t).2.1).drop ((vtake t).1 + 4), 0)
  else (0, [], [], 50)
end Go.Proofs.YtalmnodgjjcefaaGreatDoor
namespace Go.Proofs.YtalmnodgjjcefaaGreatDoor
open Go.RowKit
def Halves (w : World) : Prop := 1 + 1 ≤ w.heap.size ∧ ∀ i, i < 16 → w.cell? ⟨1, i, none⟩ = some (.int .u32 ((ctab.getD i 0 : Nat) : Int))
theorem Halves.below {w w' : World} {B : Nat} (h : Halves w) (hb : Below B w w') (hB : 1 + 1 ≤ B) : Halves w' :=
 ⟨Nat.le_trans h.1 hb.size, fun i hi => (hb.cell (p := ⟨1, i, none⟩) (by simp; omega)).trans (h.2 i hi)⟩
theorem Halves.onto {w w' : World} {v v' : Value} (h : Halves w) (hb : Onto w w' v v') (hv : ∀ k, v.ownBlock = some k → 1 + 1 ≤ k) : Halves w' :=
 h.below (hb.below h.1 hv) (Nat.le_refl _)
theorem Halves.alloc {w : World} (h : Halves w) (o : Obj) : Halves (w.alloc o) := h.below ((Below.refl w.heap.size w).alloc (Nat.le_refl _) o) h.1
end Go.Proofs.YtalmnodgjjcefaaGreatDoor
namespace Go.Proofs.YtalmnodgjjcefaaGreatDoor
open Go.RowKit
theorem OwnB.onto {w w' : World} {base : Nat} {v u u' : Value} {l : List UInt8} (h : OwnB w base v l) (ho : Onto w w' u u') (hne : v.ownBlock = none ∨ v.ownBlock ≠ u.ownBlock) : OwnB w' base v l := World.ownsRow.kept h ho.grown hne
def frameOf (kind : Int) (l : List UInt8) : List UInt8 := sealB (UInt8.ofNat kind.toNat :: (venc l.length ++ l))
end Go.Proofs.YtalmnodgjjcefaaGreatDoor
namespace Go.Proofs.YtalmnodgjjcefaaGreatDoor
open Go.RowKit
structure FourAt (w : World) (H : Nat) (v0 v1 v2 v3 : Value) : Prop where
 c0 : w.cell? ⟨H, 0, none⟩ = some v0
 c1 : w.cell? ⟨H + 1, 0, none⟩ = some v1
 c2 : w.cell? ⟨H + 1 + 1, 0, none⟩ = some v2
 c3 : w.cell? ⟨H + 1 + 1 + 1, 0, none⟩ = some v3
 f0 : w.frozen? ⟨H, 0, none⟩ = false
 f1 : w.frozen? ⟨H + 1, 0, none⟩ = false
 f2 : w.frozen? ⟨H + 1 + 1, 0, none⟩ = false
 f3 : w.frozen? ⟨H + 1 + 1 + 1, 0, none⟩ = false
theorem FourAt.new (w : World) (H : Nat) (hH : H = w.heap.size) (v0 v1 v2 v3 : Value) (t0 t1 t2 t3 : TypeId) : FourAt ((((w.alloc (.cells #[v0] t0)).alloc (.cells #[v1] t1)).alloc (.cells #[v2] t2)).alloc (.cells #[v3] t3)) H v0 v1 v2 v3 := by
 subst hH
 constructor <;> simp [go_sem]
theorem FourAt.below {w w' : World} {H : Nat} {v0 v1 v2 v3 : Value} (h : FourAt w H v0 v1 v2 v3) {B : Nat} (hb : Below B w w') (hB : H + 1 + 1 + 1 < B) : FourAt w' H v0 v1 v2 v3 := by
 constructor
 ·rw [hb.cell (p := ⟨H, 0, none⟩) (by simp; omega)]; exact h.c0
 ·rw [hb.cell (p := ⟨H + 1, 0, none⟩) (by simp; omega)]; exact h.c1
 ·rw [hb.cell (p := ⟨H + 1 + 1, 0, none⟩) (by simp; omega)]; exact h.c2
 ·rw [hb.cell (p := ⟨H + 1 + 1 + 1, 0, none⟩) (by simp; omega)]; exact h.c3
 ·rw [hb.frozen (p := ⟨H, 0, none⟩) (by simp; omega)]; exact h.f0
 ·rw [hb.frozen (p := ⟨H + 1, 0, none⟩) (by simp; omega)]; exact h.f1
 ·rw [hb.frozen (p := ⟨H + 1 + 1, 0, none⟩) (by simp; omega)]; exact h.f2
 ·rw [hb.frozen (p := ⟨H + 1 + 1 + 1, 0, none⟩) (by simp; omega)]; exact h.f3
theorem FourAt.set0 {w : World} {H : Nat} {v0 v1 v2 v3 : Value} (h : FourAt w H v0 v1 v2 v3) (v : Value) : FourAt (w.setCell ⟨H, 0, none⟩ v) H v v1 v2 v3 := by
 obtain ⟨c0, c1, c2, c3, f0, f1, f2, f3⟩ := h
 constructor <;> simp [go_sem, c0, c1, c2, c3, f0, f1, f2, f3]
theorem FourAt.set1 {w : World} {H : Nat} {v0 v1 v2 v3 : Value} (h : FourAt w H v0 v1 v2 v3) (v : Value) : FourAt (w.setCell ⟨H + 1, 0, none⟩ v) H v0 v v2 v3 := by
 obtain ⟨c0, c1, c2, c3, f0, f1, f2, f3⟩ := h
 constructor <;> simp [go_sem, c0, c1, c2, c3, f0, f1, f2, f3]
theorem FourAt.set2 {w : World} {H : Nat} {v0 v1 v2 v3 : Value} (h : FourAt w H v0 v1 v2 v3) (v : Value) : FourAt (w.setCell ⟨H + 1 + 1, 0, none⟩ v) H v0 v1 v v3 := by
 obtain ⟨c0, c1, c2, c3, f0, f1, f2, f3⟩ := h
 constructor <;> simp [go_sem, c0, c1, c2, c3, f0, f1, f2, f3]
theorem FourAt.set3 {w : World} {H : Nat} {v0 v1 v2 v3 : Value} (h : FourAt w H v0 v1 v2 v3) (v : Value) : FourAt (w.setCell ⟨H + 1 + 1 + 1, 0, none⟩ v) H v0 v1 v2 v := by
 obtain ⟨c0, c1, c2, c3, f0, f1, f2, f3⟩ := h
 constructor <;> simp [go_sem, c0, c1, c2, c3, f0, f1, f2, f3]
theorem FourAt.drew {w : World} {H : Nat} {v0 v1 v2 v3 : Value} (h : FourAt w H v0 v1 v2 v3) : FourAt w.drew H v0 v1 v2 v3 := ⟨h.c0, h.c1, h.c2, h.c3, h.f0, h.f1, h.f2, h.f3⟩
abbrev W4 (w : World) : World := (((w.alloc (.cells #[.int .i64 0] 3)).alloc (.cells #[.slice none 0 0] 48)).alloc (.cells #[.slice none 0 0] 48)).alloc (.cells #[.int .i64 0] 31)
theorem W4.size (w : World) : (W4 w).heap.size = w.heap.size + 1 + 1 + 1 + 1 := by simp [W4]
theorem W4.below (w : World) : Below w.heap.size w (W4 w) := ((((Below.refl _ _).alloc (Nat.le_refl _) _).alloc (by simp) _).alloc (by simp; omega) _).alloc (by simp; omega) _
end Go.Proofs.YtalmnodgjjcefaaGreatDoor
namespace Go.Proofs.YtalmnodgjjcefaaGreatDoor
open Go.RowKit
structure But4 (a w : World) (H : Nat) : Prop where
 os : w.os = a.os
 tape : w.tape = a.tape
 output : w.output = a.output
 size : a.heap.size ≤ w.heap.size
 block : ∀ k, k < a.heap.size → (k < H ∨ H + 1 + 1 + 1 < k) → w.heap[k]? = a.heap[k]?
section
variable {a w w' : World} {H : Nat}
theorem But4.refl (a : World) (H : Nat) : But4 a a H := ⟨rfl, rfl, rfl, Nat.le_refl _, fun _ _ _ => rfl⟩
theorem But4.drew (h : But4 a w H) : But4 a w.drew H := ⟨h.os, h.tape, h.output, h.size, h.block⟩
theorem But4.setCell (h : But4 a w H) {p : Addr} (v : Value) (h1 : H ≤ p.block) (h2 : p.block ≤ H + 1 + 1 + 1) : But4 a (w.setCell p v) H :=
 ⟨h.os, h.tape, h.output, by simpa [World.setCell] using h.size, fun k hk hne => (Below.heap_setCell w p v k (by omega)).trans (h.block k hk hne)⟩
theorem But4.below (h : But4 a w H) (hb : Below w.heap.size w w') : But4 a w' H :=
 ⟨hb.os.trans h.os, hb.tape.trans h.tape, hb.output.trans h.output, Nat.le_trans h.size hb.size, fun k hk hne => (hb.block k (Nat.lt_of_lt_of_le hk h.size)).trans (h.block k hk hne)⟩
theorem But4.sees (h : But4 a w H) {A : Option Addr} {xs : List Value} (hs : Sees a a.heap.size A xs) (hA : ∀ ad, A = some ad → ad.block < H ∨ H + 1 + 1 + 1 < ad.block) : Sees w w.heap.size A xs := by
 rcases hs.out with hs | ⟨ad, e, hb, hc⟩
 ·exact ⟨.inl hs⟩
 ·exact ⟨.inr ⟨ad, e, Nat.lt_of_lt_of_le hb h.size, fun j u hu => (World.cell?_of_block (h.block _ (by rw [add_block]; exact hb) (by rw [add_block]; exact hA ad e))).trans (hc j u hu)⟩⟩
end
end Go.Proofs.YtalmnodgjjcefaaGreatDoor
