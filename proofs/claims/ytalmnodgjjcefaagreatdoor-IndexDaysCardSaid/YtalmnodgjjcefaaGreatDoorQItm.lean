/- Several texts in one: Str Words ItCmp ItCommon ItRefCommon Rises ItRises Ref9 ItSeek ItSeek2 ItCheck ItPack Concat ItNumber RowOwn ItSt ItUnpackPlain ItEq ItUnpack Rows2 ItSplit ItCommonPlain ItBackPlain FrPlain2. -/
import Derived.Test.YtalmnodgjjcefaaGreatDoorQLow
import Derived.Lib.SlBytesConst
import Derived.Lib.UnsafeStr
import Derived.Lib.BytesEntry
import Derived.Laws.Externs
import Derived.Sort.Walk0
import Derived.Lib.AppendZeros
import Derived.StillTailTactics
import Derived.Test.YtalmnodgjjcefaaGreatDoorQFrm
namespace Go.Proofs.YtalmnodgjjcefaaGreatDoor
open Go.RowKit
def strOf (l : List UInt8) : ByteArray := ⟨l.toArray⟩
theorem run_str (w : World) (B : Nat) (A : Option Addr) (n c : Nat) (l : List UInt8) (hs : Sees w B A (bv l)) (hn : l.length = n) :
  (convert 48 9 (.slice A n c)).run Tryz.prog w = .ok (.string (strOf l)) w := by
 subst hn
 cases A with
 | none =>
  rcases hs.out with h | ⟨ad, h, _⟩
  ·have : l = [] := by simpa [bv] using h
   subst this
   exact run_convert_bytes_nil w _ _ Tryz.underlying48 Tryz.underlying5 _ _ _ Tryz.underlying9
  ·cases h
 | some a =>
  have hc : ∀ j u, (bv l)[j]? = some u → w.cell? (a.add j) = some u := by
   intro j u hu
   rcases hs.out with h | ⟨ad, h, _, hc⟩
   ·rw [h] at hu; simp at hu
   ·injection h with h
    subst h
    exact hc j u hu
  have hl := run_loadCells_list (P := Tryz.prog) w a (bv l) hc
  rw [run_convert_bytes_string w 48 9 5 _ l.length c Tryz.underlying48 Tryz.underlying5 Tryz.underlying9]
  have hb : bv l = (l.map fun b => (b.toNat : Int)).map (Value.int .u8) := by simp [bv]
  rw [hb, List.length_map, List.length_map] at hl
  rw [run_bytesToString w _ l.length c _ hl, foldl_push_bytes]
  have hm : l.map ((fun n : Int => UInt8.ofNat n.toNat) ∘ fun b : UInt8 => (b.toNat : Int)) = l := by
   have : ((fun n : Int => UInt8.ofNat n.toNat) ∘ fun b : UInt8 => (b.toNat : Int)) = id := by funext b; simp
   rw [this, List.map_id]
  rw [List.map_map, hm]
  simp [strOf, ByteArray.empty, ByteArray.emptyWithCapacity]
  rfl
theorem strOf_toList (l : List UInt8) : (strOf l).toList = l := by rw [Lib.toList_data]; rfl
end Go.Proofs.YtalmnodgjjcefaaGreatDoor
namespace Go.Proofs.YtalmnodgjjcefaaGreatDoor
open Go.RowKit
abbrev Item := List UInt8
structure Sees2 (w : World) (B : Nat) (A : Option Addr) (ls : List (List UInt8)) : Prop where
 out : ∀ i (hi : i < ls.length), ∃ ad Ai ci, A = some ad ∧ ad.block < B ∧ w.cell? (ad.add i) = some (.slice Ai (ls[i]).length ci) ∧ (ls[i]).length ≤ ci ∧ Sees w B Ai (bv ls[i])
theorem Sees2.below {w w' : World} {B : Nat} {A : Option Addr} {ls : List (List UInt8)} (h : Sees2 w B A ls) (hb : Below B w w') : Sees2 w' B A ls :=
 ⟨fun i hi => by
  obtain ⟨ad, Ai, ci, h1, h2, h3, h4, h5⟩ := h.out i hi
  exact ⟨ad, Ai, ci, h1, h2, (hb.cell (by rw [add_block]; exact h2)).trans h3, h4, h5.below hb⟩⟩
theorem OwnB.drewN {w : World} {base : Nat} {v : Value} {l : List UInt8} (h : OwnB w base v l) (k : Nat) : OwnB (w.drewN k) base v l := h
end Go.Proofs.YtalmnodgjjcefaaGreatDoor
namespace Go.Proofs.YtalmnodgjjcefaaGreatDoor
open Go.RowKit
def ahead (l r : List UInt8) : Bool := Op.bytesLess l r
theorem ahead_eq (l r : List UInt8) : ahead l r = decide (l < r) := Go.Proofs.bytesLess_eq l r
theorem cmp_lt : ∀ (l r : List UInt8), Lib.compareBytes l r < 0 ↔ l < r
 | [], [] => by simp [Lib.compareBytes]
 | [], _ :: _ => by simp [Lib.compareBytes]
 | _ :: _, [] => by simp [Lib.compareBytes]
 | a :: s, b :: t => by
  have ih := cmp_lt s t
  unfold Lib.compareBytes
  rw [List.cons_lt_cons_iff]
  by_cases h : a < b
  ·simp [h]
  ·by_cases h2 : b < a
   ·have : ¬ a = b := by rintro rfl; exact h h2
    simp [h, h2, this]
   ·have : a = b := UInt8.le_antisymm (UInt8.not_lt.1 h2) (UInt8.not_lt.1 h)
    simp [this, ih]
theorem cmp_neg (l r : List UInt8) : decide (Lib.compareBytes l r < 0) = ahead l r := by rw [ahead_eq, decide_eq_decide]; exact cmp_lt l r
theorem cmp_self : ∀ l : List UInt8, Lib.compareBytes l l = 0
 | [] => rfl
 | a :: s => by unfold Lib.compareBytes; simp [UInt8.lt_irrefl, cmp_self s]
theorem cmp_zero : ∀ (l r : List UInt8), Lib.compareBytes l r = 0 → l = r
 | [], [], _ => rfl
 | [], _ :: _, h => by simp [Lib.compareBytes] at h
 | _ :: _, [], h => by simp [Lib.compareBytes] at h
 | a :: s, b :: t, h => by
  unfold Lib.compareBytes at h
  by_cases h1 : a < b
  ·simp [h1] at h
  ·by_cases h2 : b < a
   ·simp [h1, h2] at h
   ·have : a = b := UInt8.le_antisymm (UInt8.not_lt.1 h2) (UInt8.not_lt.1 h1)
    subst this
    simp only [h1, if_false] at h
    rw [cmp_zero s t h]
theorem ahead_irrefl (l : List UInt8) : ahead l l = false := by rw [ahead_eq, decide_eq_false_iff_not]; exact List.lt_irrefl l
theorem ahead_trans {a b c : List UInt8} (h : ahead a b = true) (k : ahead b c = true) : ahead a c = true := by
 rw [ahead_eq, decide_eq_true_eq] at *
 exact List.lt_trans h k
theorem ahead_tri {a b : List UInt8} (h : ahead a b = false) (k : ahead b a = false) : a = b := by
 rw [ahead_eq, decide_eq_false_iff_not] at *
 exact List.le_antisymm (List.not_lt.1 k) (List.not_lt.1 h)
theorem run_bytesOf (w : World) (B : Nat) (A : Option Addr) (n c : Nat) (l : List UInt8) (hs : Sees w B A (bv l)) (hn : l.length = n) :
  (Extern.Bytes.bytesOf (.slice A n c)).run Tryz.prog w = .ok (strOf l) w := by
 subst hn
 cases A with
 | none =>
  rcases hs.out with h | ⟨ad, h, _⟩
  ·have : l = [] := by simpa [bv] using h
   subst this
   rfl
  ·cases h
 | some a =>
  have hc : ∀ j u, (bv l)[j]? = some u → w.cell? (a.add j) = some u := by
   intro j u hu
   rcases hs.out with h | ⟨ad, h, _, hc⟩
   ·rw [h] at hu; simp at hu
   ·injection h with h
    subst h
    exact hc j u hu
  have hl := Lib.run_loadBytesX (P := Tryz.prog) w (l.map fun b => (b.toNat : Int)) a .empty (fun j x hj => hc j _ (by
   rw [List.getElem?_map] at hj
   simp only [bv, List.getElem?_map]
   cases hlj : l[j]? with
   | none => rw [hlj] at hj; cases hj
   | some y => rw [hlj] at hj; simp only [Option.map_some, Option.some.injEq] at hj ⊢; rw [hj]))
  rw [List.length_map] at hl
  show (Extern.Bytes.loadBytes a l.length .empty).run Tryz.prog w = _
  rw [hl]
  congr 1
  apply ByteArray.ext
  have hm : Lib.bytesOf (l.map fun b => (b.toNat : Int)) = l := by
   simp [Lib.bytesOf, List.map_map, Function.comp_def]
  rw [hm]
  simp [strOf, ByteArray.empty, ByteArray.emptyWithCapacity]
  rfl
theorem run_compareSlices (w : World) (B1 B2 : Nat) (A B : Option Addr) (n c m d : Nat) (l r : List UInt8) (hs : Sees w B1 A (bv l)) (hs2 : Sees w B2 B (bv r)) (hn : l.length = n) (hm : r.length = m) :
  (Extern.BytealgCompare.compare #[.slice A n c, .slice B m d]).run Tryz.prog w = .ok (.int .i64 (Lib.compareBytes l r)) w := by
 change Sem.run Tryz.prog (do pure (goInt (Extern.BytealgCompare.cmp (← Extern.Bytes.bytesOf (.slice A n c)) (← Extern.Bytes.bytesOf (.slice B m d))))) w = _
 simp only [Sem.run_bind, Sem.run_pure, run_bytesOf w B1 A n c l hs hn, run_bytesOf w B2 B m d r hs2 hm, Result.andThen]
 rw [Lib.cmp_eq]
 rfl
set_option maxRecDepth 100000 in
set_option maxHeartbeats 400000 in
theorem Compare_any (A B : Option Addr) (n m c d : Nat) (l r : List UInt8) (hn : l.length = n) (hm : r.length = m) (w : World) (hS : Sees w w.heap.size A (bv l)) (hS2 : Sees w w.heap.size B (bv r)) :
  Calls Tryz.prog 134 #[.slice A n c, .slice B m d] w fun e w' => e = .returned (.int .i64 (Lib.compareBytes l r)) ∧ w = w' := by
 go_enter Tryz.func134, Tryz.ntmps134
 go_wp2
 rw [run_callFunc_extern Tryz.func191 (by kernel_rfl) (by kernel_rfl) (by kernel_rfl) (e := Extern.BytealgCompare.compare) (by kernel_rfl), run_compareSlices w _ _ A B n c m d l r hS hS2 hn hm]
 simp only [Result.andThen]
 rw [Oper.upon_value]
 go_wp2
 go_ret
 exact ⟨rfl, rfl⟩
end Go.Proofs.YtalmnodgjjcefaaGreatDoor
namespace Go.Proofs.YtalmnodgjjcefaaGreatDoor
open Go.RowKit
def common : List UInt8 → List UInt8 → Nat
 | a :: s, b :: t => if a = b then common s t + 1 else 0
 | _, _ => 0
end Go.Proofs.YtalmnodgjjcefaaGreatDoor
namespace Go.Proofs.YtalmnodgjjcefaaGreatDoor
open Go.RowKit
def risesB : List (List UInt8) → Bool
 | a :: b :: t => ahead a b && risesB (b :: t)
 | _ => true
def BoolIs (w : World) (b : Bool) (e : Ending) (w' : World) : Prop := e = .returned (.bool b) ∧ ∃ q, w' = w.drewN q
def cmpFn : Value := .func (.func 134) #[] #[]
end Go.Proofs.YtalmnodgjjcefaaGreatDoor
namespace Go.Proofs.YtalmnodgjjcefaaGreatDoor
open Go.RowKit
def firstNot (x : List UInt8) : List (List UInt8) → Nat
 | a :: t => if ahead a x then firstNot x t + 1 else 0
 | [] => 0
theorem firstNot_eq {x : List UInt8} : ∀ {ls : List (List UInt8)} {k : Nat}, k ≤ ls.length → (∀ j (h : j < ls.length), j < k → ahead ls[j] x = true) → (∀ h : k < ls.length, ahead ls[k] x = false) → firstNot x ls = k
  | [], k, h, _, _ => by have : k = 0 := by simpa using h
                         subst this; rfl
  | a :: t, 0, _, _, h2 => by
    have := h2 (by simp)
    simp only [List.getElem_cons_zero] at this
    simp [firstNot, this]
  | a :: t, k + 1, h, h1, h2 => by
    have h0 := h1 0 (by simp) (by omega)
    simp only [List.getElem_cons_zero] at h0
    have ih := firstNot_eq (ls := t) (k := k) (by simpa using h) (fun j hj hjk => by have := h1 (j + 1) (by simpa using hj) (by omega); simpa using this) (fun hk => by have := h2 (by simpa using hk); simpa using this)
    simp [firstNot, h0, ih]
theorem firstNot_le (x : List UInt8) : ∀ ls : List (List UInt8), firstNot x ls ≤ ls.length
 | [] => by simp [firstNot]
 | a :: t => by have := firstNot_le x t; simp only [firstNot, List.length_cons]; split <;> omega
theorem firstNot_lt {x : List UInt8} : ∀ {ls : List (List UInt8)} {j : Nat} (h : j < ls.length), j < firstNot x ls → ahead ls[j] x = true
 | a :: t, 0, _, h => by
  simp only [firstNot] at h
  split at h
  ·assumption
  ·omega
 | a :: t, j + 1, hj, h => by
  simp only [firstNot] at h
  split at h
  ·simpa using firstNot_lt (ls := t) (j := j) (by simpa using hj) (by omega)
  ·omega
theorem rises_pair : ∀ {ls : List (List UInt8)} (_ : risesB ls = true) {i j : Nat} (hi : i < ls.length) (hj : j < ls.length), i < j → ahead ls[i] ls[j] = true
 | [a], _, i, j, hi, hj, hij => by simp at hi hj; omega
 | a :: b :: t, h, i, j, hi, hj, hij => by
  simp only [risesB, Bool.and_eq_true] at h
  have ih := @rises_pair (b :: t) h.2
  match i, j, hij with
  | 0, 1, _ => simpa using h.1
  | 0, j + 2, _ => exact ahead_trans h.1 (ih (i := 0) (j := j + 1) (by simp) (by simpa using hj) (by omega))
  | i + 1, j + 1, _ => simpa using ih (i := i) (j := j) (by simpa using hi) (by simpa using hj) (by omega)
end Go.Proofs.YtalmnodgjjcefaaGreatDoor
namespace Go.Proofs.YtalmnodgjjcefaaGreatDoor
open Go.RowKit
def SeekIs (w : World) (ls : List (List UInt8)) (x : List UInt8) (e : Ending) (w' : World) : Prop := w' = w ∧ ∃ k : Nat, k ≤ ls.length ∧ (risesB ls = true → k = firstNot x ls) ∧ e = .returned (.int .i64 (k : Nat))
def Halved (ls : List (List UInt8)) (x : List UInt8) (i j : Nat) : Prop :=
 risesB ls = true → (∀ a (h : a < ls.length), a < i → ahead ls[a] x = true) ∧ (∀ a (h : a < ls.length), j ≤ a → ahead ls[a] x = false)
theorem Halved.lo {ls : List (List UInt8)} {x : List UInt8} {i j k : Nat} (h : Halved ls x i j) (hk : k < ls.length) (e : ahead ls[k] x = true) : Halved ls x (k + 1) j := fun hr => by
 refine ⟨fun a ha hak => ?_, (h hr).2⟩
 by_cases hak2 : a = k
 ·subst hak2; exact e
 ·exact ahead_trans (rises_pair hr ha hk (by omega)) e
theorem Halved.hi {ls : List (List UInt8)} {x : List UInt8} {i j k : Nat} (h : Halved ls x i j) (hk : k < ls.length) (e : ahead ls[k] x = false) : Halved ls x i k := fun hr => by
 refine ⟨(h hr).1, fun a ha hak => ?_⟩
 by_cases hak2 : a = k
 ·subst hak2; exact e
 ·have h1 := rises_pair hr hk ha (by omega)
  rw [← Bool.not_eq_true]
  intro h2
  rw [ahead_trans h1 h2] at e
  cases e
theorem Halved.done {ls : List (List UInt8)} {x : List UInt8} {i : Nat} (h : Halved ls x i i) (hi : i ≤ ls.length) (hr : risesB ls = true) : i = firstNot x ls :=
 (firstNot_eq hi (h hr).1 (fun hk => (h hr).2 i hk (Nat.le_refl _))).symm
set_option maxRecDepth 100000 in
set_option maxHeartbeats 400000 in
theorem seek_any (A B : Option Addr) (n c m d : Nat) (ls : List (List UInt8)) (x : List UInt8) (hn : ls.length = n) (hm : x.length = m) (w : World) (hS : Sees2 w w.heap.size A ls) (hS2 : Sees w w.heap.size B (bv x)) (hlen : n ≤ 1099511627776) :
  Calls Tryz.prog 250 #[.slice A n c, .slice B m d, cmpFn] w (SeekIs w ls x) := by
 unfold cmpFn
 have HN := Lib.hid hn
 have HM := Lib.hid hm
 clear hn hm
 go_enter Tryz.func250, Tryz.ntmps250
 go_wp2
 go_loopg [7, 8] n (fun g f t wr => ∃ i j : Nat, i ≤ j ∧ j ≤ n ∧ j ≤ i + g ∧ f = .int .i64 i ∧ t = .int .i64 j ∧ Hid (Halved ls x i j) ∧ wr = w)
 case atStart => exact ⟨0, n, by omega, by omega, by omega, rfl, rfl, (fun _ => ⟨fun a _ ha => absurd ha (by omega), fun a ha h => absurd ha (by have := HN.out; omega)⟩), rfl⟩
 case round =>
  obtain ⟨i, j, hij, hjn, hg, rfl, rfl, heq, rfl⟩ := hrel
  by_cases hlt : i < j
  ·obtain ⟨k, hk⟩ : ∃ k, (i + j) / 2 = k := ⟨_, rfl⟩
   have hki : i ≤ k := by omega
   have hkj : k < j := by omega
   have hq : ((i : Int) + (j : Int)).tdiv 2 = (k : Int) := by rw [Int.tdiv_eq_ediv_of_nonneg (by omega)]; omega
   obtain ⟨ad, Ai, ci, rfl, hadB, hcell, hci, hsee⟩ := hS.out k (by have := HN.out; omega)
   obtain ⟨L, hL⟩ : ∃ L, ls[k]'(by have := HN.out; omega) = L := ⟨_, rfl⟩
   have hlo : ahead (ls[k]'(by have := HN.out; omega)) x = true → Hid (Halved ls x (k + 1) j) := fun e => heq.out.lo _ e
   have hhi : ahead (ls[k]'(by have := HN.out; omega)) x = false → Hid (Halved ls x i k) := fun e => heq.out.hi _ e
   rw [hL] at hcell hci hsee hlo hhi
   have hC := Lib.hid (Compare_any Ai B L.length m ci d L x rfl HM.out _ hsee hS2)
   clear hL heq
   obtain ⟨b, hb⟩ : ∃ b, ahead L x = b := ⟨_, rfl⟩
   rw [hb] at hlo hhi
   have h1 := cmp_neg L x
   rw [hb] at h1
   clear hb
   generalize Lib.compareBytes L x = z at hC h1
   have hkd : (↑((i + j) / 2) : Int) = (k : Int) := by omega
   have hkd2 : ((i : Int) + (j : Int)) / 2 = (k : Int) := by omega
   clear hk
   cases b with
   | true =>
    have hz : z < 0 := by simpa using h1
    have hT := hlo rfl
    clear hlo hhi h1
    go_wp2_with fail
    refine hC.out.mono ?_
    rintro e w1 ⟨rfl, rfl⟩
    go_wp2
    go_roundg (j - (k + 1))
    case measure => omega
    case rel => exact ⟨k + 1, j, by omega, by omega, by omega, by go_num, rfl, hT, rfl⟩
   | false =>
    have hz : 0 ≤ z := by simpa using h1
    have hT := hhi rfl
    clear hlo hhi h1
    go_wp2_with fail
    refine hC.out.mono ?_
    rintro e w1 ⟨rfl, rfl⟩
    go_wp2
    go_roundg (k - i)
    case measure => omega
    case rel => exact ⟨i, k, by omega, by omega, by omega, rfl, by go_num, hT, rfl⟩
  ·obtain rfl : i = j := by omega
   go_wp2
   go_ret
   exact ⟨rfl, i, by have := HN.out; omega, heq.out.done (by have := HN.out; omega), rfl⟩
set_option maxRecDepth 100000 in
set_option maxHeartbeats 400000 in
theorem Seek_any (A B : Option Addr) (n c m d : Nat) (ls : List (List UInt8)) (x : List UInt8) (hn : ls.length = n) (hm : x.length = m) (w : World) (hS : Sees2 w w.heap.size A ls) (hS2 : Sees w w.heap.size B (bv x)) (hlen : n ≤ 1099511627776) :
  Calls Tryz.prog 217 #[.slice A n c, .slice B m d] w (SeekIs w ls x) := by
 have hC := Lib.hid (seek_any A B n c m d ls x hn hm w hS hS2 hlen)
 clear hn hm hS hS2
 go_enter Tryz.func217, Tryz.ntmps217
 go_wp2_with fail
 refine hC.out.mono ?_
 rintro e w1 ⟨rfl, k, h1, h2, rfl⟩
 have H2 := Lib.hid h2
 clear h2
 go_wp2
 go_ret
 exact ⟨rfl, k, h1, H2.out, rfl⟩
end Go.Proofs.YtalmnodgjjcefaaGreatDoor
namespace Go.Proofs.YtalmnodgjjcefaaGreatDoor
open Go.RowKit
def badL (l : List UInt8) : Bool := decide (l.length < 1) || decide (400 < l.length)
def checkN (ls : List (List UInt8)) : Nat := if 8 < ls.length then 2 else if ls.length = 0 ∨ ls.any badL = true ∨ risesB ls = false then 1 else 0
end Go.Proofs.YtalmnodgjjcefaaGreatDoor
namespace Go.Proofs.YtalmnodgjjcefaaGreatDoor
open Go.RowKit
def packFrom : List UInt8 → List (List UInt8) → List UInt8
 | _, [] => []
 | p, x :: t => venc (common p x) ++ venc (x.length - common p x) ++ x.drop (common p x) ++ packFrom x t
def packB (ls : List (List UInt8)) : List UInt8 := venc ls.length ++ packFrom [] ls
theorem check_ok {ls : List (List UInt8)} (h : checkN ls = 0) : ls.length ≤ 8 ∧ 1 ≤ ls.length ∧ (∀ i (hi : i < ls.length), 1 ≤ ls[i].length ∧ ls[i].length ≤ 400) ∧ risesB ls = true := by
 unfold checkN at h
 split at h
 ·cases h
 ·split at h
  ·cases h
  ·rename_i h1 h2
   have hb : ls.any badL = false := by rw [← Bool.not_eq_true]; exact fun e => h2 (.inr (.inl e))
   have hr : risesB ls = true := by rw [← Bool.not_eq_false]; exact fun e => h2 (.inr (.inr e))
   refine ⟨by omega, by have := fun e => h2 (.inl e); omega, fun i hi => ?_, hr⟩
   have := List.any_eq_false.1 hb ls[i] (List.getElem_mem hi)
   unfold badL at this
   simp only [Bool.or_eq_true, decide_eq_true_eq, not_or] at this
   omega
theorem check_nz {ls : List (List UInt8)} (h : checkN ls ≠ 0) : checkN ls = 1 ∨ checkN ls = 2 := by
 unfold checkN at *
 split
 ·exact .inr rfl
 ·rename_i h1
  rw [if_neg h1] at h
  split
  ·exact .inl rfl
  ·rename_i h2; rw [if_neg h2] at h; exact absurd rfl h
end Go.Proofs.YtalmnodgjjcefaaGreatDoor
namespace Go.Proofs.YtalmnodgjjcefaaGreatDoor
open Go.RowKit
set_option maxRecDepth 100000 in
set_option maxHeartbeats 400000 in
theorem Grow_any (n : Nat) (w : World) (hn : n ≤ 1000000000) :
  Calls Tryz.prog 192 #[.slice none 0 0, .int .i64 n] w (RetB w w.heap.size (.slice none 0 0) []) := by
 obtain ⟨i, hi, hz0, hz1, hz2⟩ := info_parts Tryz.binfo
 by_cases h0 : 0 < n
 ·have hr := Lib.run_append_nil_zeros (P := Tryz.prog) w 48 3 48 5 i (.int .u8 0) .i64 .i64 Tryz.underlying48 Tryz.underlying3 hi hz0 n h0 (by omega) (by omega) (by rw [hz2]; omega)
  have hge := grownCap_ge w n 0 5
  have hmx := grownCap_le_maxLen w n 0 5 (by simp only [maxLen]; omega)
  generalize grownCap w n 0 5 = cap at hr hge hmx
  have HR := Lib.hid hr
  have hmade := Lib.hid (World.ownsRow_made (base := w.heap.size) (e := 5) (size := 1) w.drew (Builtin.zeroCells (Value.int .u8 0).cells n ++ Builtin.zeroCells (Value.int .u8 0).cells (cap - n)) cap (Nat.le_refl _) hmx (by simp [Builtin.zeroCells, Value.cells]; omega))
  clear hr hi hz0 hz1 hz2
  go_enter Tryz.func192, Tryz.ntmps192
  go_wp2_with (at_builtin; refine Lib.wpList_append_run _ rfl (.tmp 20) (.tmp 21) _ _ rfl _ _ rfl rfl _ _ HR.out ?_)
  go_ret
  exact ⟨_, rfl, hmade.out, ⟨⟨rfl, rfl, rfl, by simp, fun k hk _ => by show (w.heap.push _)[k]? = w.heap[k]?; rw [Array.getElem?_push, if_neg (Nat.ne_of_lt hk)]⟩, .inr ⟨_, rfl, Nat.le_refl _⟩⟩⟩
 ·obtain rfl : n = 0 := by omega
  clear h0 hi hz0 hz1 hz2
  go_enter Tryz.func192, Tryz.ntmps192
  go_wp2
  go_ret
  exact ⟨_, rfl, OwnB.nil _ _, Onto.refl _ _⟩
theorem flat_at {ls : List (List UInt8)} {k : Nat} (h : k < ls.length) : (ls.drop k).flatten = ls[k] ++ (ls.drop (k + 1)).flatten := by
 rw [List.drop_eq_getElem_cons h]
 rfl
set_option maxRecDepth 100000 in
set_option maxHeartbeats 400000 in
theorem Concat_any (A : Option Addr) (n c : Nat) (ls : List (List UInt8)) (hn : ls.length = n) (w : World) (hS : Sees2 w w.heap.size A ls) (h100 : n ≤ 100) (hall : ∀ i (hi : i < ls.length), (ls[i]).length ≤ 1000000) :
  Calls Tryz.prog 137 #[.slice A n c] w (RetB w w.heap.size (.slice none 0 0) ls.flatten) := by
 have HN := Lib.hid hn
 have HA := Lib.hid hall
 obtain ⟨F, hF⟩ : ∃ F, ls.flatten = F := ⟨_, rfl⟩
 rw [hF]
 have HF := Lib.hid hF
 clear hn hall hF
 go_enter Tryz.func137, Tryz.ntmps137
 go_wp2
 go_loopg [3, 11] n (fun g s i wr => ∃ k t : Nat, k + g = n ∧ i = .int .i64 k ∧ s = .int .i64 t ∧ t ≤ 1000000 * k ∧ wr = w)
 case atStart => exact ⟨0, 0, by omega, rfl, rfl, by omega, rfl⟩
 case round =>
  obtain ⟨k, t, hk, rfl, rfl, ht, rfl⟩ := hrel
  by_cases hlt : k < n
  ·obtain ⟨ad, Ai, ci, rfl, hadB, hcell, hci, hsee⟩ := hS.out k (by have := HN.out; omega)
   have hLl := HA.out k (by have := HN.out; omega)
   obtain ⟨L, hL⟩ : ∃ L, ls[k]'(by have := HN.out; omega) = L := ⟨_, rfl⟩
   rw [hL] at hcell hci hsee hLl
   clear hL
   go_wp2
   go_roundg (n - (k + 1))
   case measure => omega
   case rel => exact ⟨k + 1, t + L.length, by omega, by go_num, by go_num, by omega, rfl⟩
  ·go_wp2_with fail
   refine (Grow_any t wr (by omega)).mono ?_
   rintro e w1 ⟨v1, rfl, hown1, hon1⟩
   go_wp2_with fail
   go_loopg [6, 27] n (fun g b i wx => ∃ (k : Nat) (X : List UInt8), k + g = n ∧ i = .int .i64 k ∧ OwnB wx wr.heap.size b X ∧ X.length ≤ 1000000 * k ∧ Aside (X ++ (ls.drop k).flatten = F) ∧ Onto wr wx (.slice none 0 0) b)
   case atStart => exact ⟨0, [], by omega, rfl, hown1, by simp, HF.out, hon1⟩
   case round =>
    obtain ⟨k, X, hk, rfl, hX, hXl, hcat, hon⟩ := hrel
    have hbr := hon.below_nil
    have hsr := hbr.size
    by_cases hlt : k < n
    ·obtain ⟨ad, Ai, ci, rfl, hadB, hcell, hci, hsee⟩ := (hS.below hbr).out k (by have := HN.out; omega)
     have hLl := HA.out k (by have := HN.out; omega)
     have hfl := Lib.hid (flat_at (ls := ls) (k := k) (by have := HN.out; omega))
     obtain ⟨L, hL⟩ : ∃ L, ls[k]'(by have := HN.out; omega) = L := ⟨_, rfl⟩
     rw [hL] at hcell hci hsee hLl hfl
     clear hL
     obtain ⟨A0, c0, rfl, hXc, hXm, hX', hXs⟩ := hX.open_
     go_wp2_with (at_builtin; refine wpList_append_b rfl (.tmp 31) (.tmp 32) rfl _ (.slice A0 X.length c0) X (by rfl) hX _ Ai L.length ci L (by rfl) rfl hsee (by omega) hsr ?_; intro v2 w2 hown2 hon2)
     go_roundg (n - (k + 1))
     case measure => omega
     case rel => exact ⟨k + 1, X ++ L, by omega, by go_num, hown2, by rw [List.length_append]; omega, (by have h1 := hcat.out; have h2 := hfl.out; show _ = _; rw [← h1, h2, List.append_assoc]), hon.trans hon2⟩
    ·have HE : Hid (X = F) := by have := hcat.out; rw [List.drop_eq_nil_of_le (by have := HN.out; omega)] at this; unfold Hid; simpa using this
     clear hcat
     go_wp2_with fail
     go_ret
     rw [← HE.out]
     exact ⟨_, rfl, hX, hon⟩
end Go.Proofs.YtalmnodgjjcefaaGreatDoor
namespace Go.Proofs.YtalmnodgjjcefaaGreatDoor
open Go.RowKit
def OneErr (w : World) (b : Nat) (e : Int) : Prop := w.heap[b]? = some (.cells #[.int .i64 e] 31 (0, 0))
def OneRow (w : World) (b : Nat) (A : Option Addr) (n c : Nat) : Prop := w.heap[b]? = some (.cells #[.slice A n c] 48 (0, 0))
def numR (l : List UInt8) : Nat × List UInt8 × Nat :=
 if (vtake l).2.2 ≠ 0 then (0, l, (vtake l).2.2) else if 400 < (vtake l).1 then (0, l, 11) else ((vtake l).1, l.drop (vtake l).2.1, 0)
end Go.Proofs.YtalmnodgjjcefaaGreatDoor
namespace Go.Proofs.YtalmnodgjjcefaaGreatDoor
open Go.RowKit
structure SeesN (w : World) (base : Nat) (ob : Option Nat) (A : Option Addr) (xs : List Value) : Prop where
 out : xs = [] ∨ ∃ ad, A = some ad ∧ base ≤ ad.block ∧ ad.block < w.heap.size ∧ some ad.block ≠ ob ∧ ∀ j u, xs[j]? = some u → w.cell? (ad.add j) = some u
section
variable {w w' : World} {base : Nat} {ob : Option Nat} {A : Option Addr} {xs : List Value}
theorem SeesN.sees (h : SeesN w base ob A xs) : Sees w w.heap.size A xs := by
 rcases h.out with h | ⟨ad, e, _, h1, _, h2⟩
 ·exact ⟨.inl h⟩
 ·exact ⟨.inr ⟨ad, e, h1, h2⟩⟩
theorem SeesN.kept (h : SeesN w base ob A xs) (ob' : Option Nat) (hs : w.heap.size ≤ w'.heap.size) (hk : ∀ b, base ≤ b → b < w.heap.size → some b ≠ ob → w'.heap[b]? = w.heap[b]?) (ho : ∀ b, base ≤ b → b < w.heap.size → some b ≠ ob → some b ≠ ob') : SeesN w' base ob' A xs := by
 rcases h.out with h | ⟨ad, e, h0, h1, h3, h2⟩
 ·exact ⟨.inl h⟩
 ·exact ⟨.inr ⟨ad, e, h0, by omega, ho _ h0 h1 h3, fun j u hu => (World.cell?_of_block (a := ad.add j) (by rw [add_block]; exact hk _ h0 h1 h3)).trans (h2 j u hu)⟩⟩
theorem SeesN.below (h : SeesN w base ob A xs) (hb : Below w.heap.size w w') : SeesN w' base ob A xs := h.kept ob hb.size (fun b _ hb1 _ => hb.block b hb1) (fun _ _ _ h => h)
theorem SeesN.setCell (h : SeesN w base ob A xs) {a : Addr} (ha : a.block < base) (u : Value) : SeesN (w.setCell a u) base ob A xs :=
 h.kept ob (by rw [World.size_setCell]; exact Nat.le_refl _) (fun b h0 _ _ => Below.heap_setCell _ _ _ _ (by omega)) (fun _ _ _ h => h)
theorem SeesN.of_own {l : List UInt8} {v : Value} (h : OwnB w base v l) {n c : Nat} (hv : v = .slice A n c) (ob : Option Nat) (ho : ∀ b, v.ownBlock = some b → some b ≠ ob) : SeesN w base ob A (bv l) := by
 subst hv
 obtain ⟨A', c', e, _, _, _, hs⟩ := h.open_
 injection e with e1 e2 e3
 subst e1
 rcases h.2 with ⟨h0, h1⟩ | ⟨g, cap, cur, hv, hb, hh, _⟩
 ·refine ⟨.inl ?_⟩
  rw [List.eq_nil_of_length_eq_zero h1]; rfl
 ·injection hv with hv
  subst hv
  rcases hs.out with h | ⟨ad, e, h1, h2⟩
  ·exact ⟨.inl h⟩
  ·injection e with e
   subst e
   exact ⟨.inr ⟨_, rfl, hb, h1, ho _ rfl, h2⟩⟩
end
structure OwnS (w : World) (base : Nat) (v : Value) (ls : List (List UInt8)) : Prop where
 out : ∃ vs : List Value, w.ownsRow base 48 1 v ls.length vs ∧ ∀ i (hi : i < ls.length), ∃ Ai ci, vs[i]? = some (.slice Ai (ls[i]).length ci) ∧ (ls[i]).length ≤ ci ∧ SeesN w base v.ownBlock Ai (bv ls[i])
section
variable {w w' : World} {base : Nat} {v : Value} {ls : List (List UInt8)}
theorem OwnS.nil (w : World) (base : Nat) : OwnS w base (.slice none 0 0) [] := ⟨[], World.ownsRow_nil w base _ 1, fun i hi => absurd hi (by simp)⟩
theorem OwnS.below (h : OwnS w base v ls) (hb : Below w.heap.size w w') : OwnS w' base v ls := by
 obtain ⟨vs, h1, h2⟩ := h.out
 refine ⟨vs, World.ownsRow.kept (row := none) h1 ⟨hb.os, hb.tape, hb.output, hb.size, fun k hk _ => hb.block k hk⟩ (by cases v.ownBlock <;> simp), fun i hi => ?_⟩
 obtain ⟨Ai, ci, h3, h4, h5⟩ := h2 i hi
 exact ⟨Ai, ci, h3, h4, h5.below hb⟩
theorem OwnS.setCell (h : OwnS w base v ls) {a : Addr} (ha : a.block < base) (u : Value) : OwnS (w.setCell a u) base v ls := by
 obtain ⟨vs, h1, h2⟩ := h.out
 refine ⟨vs, Go.RowKit.ownsRow_setCell_below h1 ha u, fun i hi => ?_⟩
 obtain ⟨Ai, ci, h3, h4, h5⟩ := h2 i hi
 exact ⟨Ai, ci, h3, h4, h5.setCell ha u⟩
theorem OwnS.open_ (h : OwnS w base v ls) : ∃ A c, v = .slice A ls.length c ∧ ls.length ≤ c ∧ Sees2 w w.heap.size A ls := by
 obtain ⟨vs, h1, h2⟩ := h.out
 rcases h1.2 with ⟨rfl, hn⟩ | ⟨g, cap, cur, rfl, hb, hh, hc, hm, _⟩
 ·have : ls = [] := List.eq_nil_of_length_eq_zero hn
  subst this
  exact ⟨none, 0, rfl, by simp, ⟨fun i hi => absurd hi (by simp)⟩⟩
 ·refine ⟨_, cap, rfl, hc, ⟨fun i hi => ?_⟩⟩
  obtain ⟨Ai, ci, h3, h4, h5⟩ := h2 i hi
  exact ⟨_, Ai, ci, rfl, (Array.getElem?_eq_some_iff.1 hh).1, h1.cells (g := g) rfl i _ h3, h4, h5.sees⟩
end
theorem Tryz.sinfo : (Tryz.prog.info? 48).map (fun i => (i.zero, i.size, i.bytes)) = some (some (.slice none 0 0), 1, 24) := by kernel_rfl
theorem OwnS.put {w w' : World} {base : Nat} {v v' : Value} {ls : List (List UInt8)} {vs : List Value} (x : List UInt8) (Ax : Option Addr) (cx : Nat)
  (h : ∀ i (hi : i < ls.length), ∃ Ai ci, vs[i]? = some (.slice Ai (ls[i]).length ci) ∧ (ls[i]).length ≤ ci ∧ SeesN w base v.ownBlock Ai (bv ls[i])) (hvs : vs.length = ls.length)
  (hc : x.length ≤ cx) (hx : SeesN w base v.ownBlock Ax (bv x)) (hown : w'.ownsRow base 48 1 v' (ls.length + 1) (vs ++ [.slice Ax x.length cx])) (hg : w.grownBy w' v.ownBlock)
  (ho : v'.ownBlock = v.ownBlock ∨ v'.ownBlock = some w.heap.size) : OwnS w' base v' (ls ++ [x]) := by
 have kp : ∀ {A : Option Addr} {xs : List Value}, SeesN w base v.ownBlock A xs → SeesN w' base v'.ownBlock A xs := fun hs =>
  hs.kept _ hg.size (fun b _ h1 h2 => hg.block b h1 (fun e => h2 e)) (fun b _ h1 h2 => by
   rcases ho with e | e
   ·rw [e]; exact h2
   ·rw [e]; intro e2; injection e2 with e2; omega)
 refine ⟨vs ++ [.slice Ax x.length cx], by rw [List.length_append]; exact hown, fun i hi => ?_⟩
 by_cases hlt : i < ls.length
 ·obtain ⟨Ai, ci, h3, h4, h5⟩ := h i hlt
  rw [List.getElem_append_left hlt, List.getElem?_append_left (by omega)]
  exact ⟨Ai, ci, h3, h4, kp h5⟩
 ·have he : i = ls.length := by simp at hi; omega
  subst he
  rw [List.getElem_append_right (Nat.le_refl _), List.getElem?_append_right (by omega)]
  refine ⟨Ax, cx, ?_, ?_, ?_⟩
  ·simp [hvs]
  ·simpa using hc
  ·simpa using kp hx
theorem wpList_append_s {w : World} {ops : Array Oper} {rest : List Oper} {o : Oper} {a : Act} {Q : Exit → Act → World → Prop} (hgd : o.guard = none) (s x : Operand)
  (ho : o.op = .call { callee := .builtin .append, args := #[s, x], argTypes := #[47, 47] })
  (base : Nat) (v : Value) (ls : List (List UInt8)) (hs : a.eval s = v) (hown : OwnS w base v ls) (ad : Addr) (c : Nat) (y : List UInt8) (Ay : Option Addr) (cy : Nat)
  (hx : a.eval x = .slice (some ad) 1 c) (hy : w.cell? ad = some (.slice Ay y.length cy)) (hyc : y.length ≤ cy) (hsee : SeesN w base v.ownBlock Ay (bv y))
  (hlen : ls.length ≤ 1000000) (hbase : base ≤ w.heap.size)
  (h : ∀ v' w', OwnS w' base v' (ls ++ [y]) → w.grownBy w' v.ownBlock → (v'.ownBlock = v.ownBlock ∨ v'.ownBlock = some w.heap.size) → wpList Tryz.prog ops Q rest (a.put o.dst v') w') : wpList Tryz.prog ops Q (o :: rest) a w := by
 obtain ⟨i, hi, hz0, hz1, hz2⟩ := info_parts Tryz.sinfo
 obtain ⟨vs, h1, h2⟩ := hown.out
 have hvs : vs.length = ls.length := by have := h1.1; omega
 exact wpList_append_own_at w hgd s x 47 ho base 48 i _ 1 24 Tryz.underlying47 hi hz0 hz1 hz2 rfl (by omega) v ls.length vs hs h1 ad 1 c [Value.slice Ay y.length cy] hx rfl
  (fun j u hu => by
   match j, hu with
   | 0, hu =>
    simp at hu
    subst hu
    simpa [Addr.add] using hy)
  (fun u hu => by simp at hu; subst hu; rfl) (by simp only [maxLen]; omega) (by omega) hbase
  (fun v' w' g1 g2 _ g4 => h v' w' (OwnS.put y Ay cy h2 hvs hyc hsee g1 g2 g4) g2 g4)
end Go.Proofs.YtalmnodgjjcefaaGreatDoor
namespace Go.Proofs.YtalmnodgjjcefaaGreatDoor
open Go.RowKit
structure SeesX (w : World) (b : Nat) (A : Option Addr) (xs : List Value) : Prop where
 out : xs = [] ∨ ∃ ad, A = some ad ∧ ad.block < w.heap.size ∧ (ad.block < b ∨ b + 1 < ad.block) ∧ ∀ j u, xs[j]? = some u → w.cell? (ad.add j) = some u
theorem SeesX.sees {w : World} {b : Nat} {A : Option Addr} {xs : List Value} (h : SeesX w b A xs) : Sees w w.heap.size A xs := by
 rcases h.out with h | ⟨ad, e, h1, _, h2⟩
 ·exact ⟨.inl h⟩
 ·exact ⟨.inr ⟨ad, e, h1, h2⟩⟩
theorem SeesX.kept {w w' : World} {b : Nat} {A : Option Addr} {xs : List Value} (h : SeesX w b A xs) (hs : w.heap.size ≤ w'.heap.size) (hk : ∀ k, k < w.heap.size → (k < b ∨ b + 1 < k) → w'.heap[k]? = w.heap[k]?) : SeesX w' b A xs := by
 rcases h.out with h | ⟨ad, e, h1, h3, h2⟩
 ·exact ⟨.inl h⟩
 ·exact ⟨.inr ⟨ad, e, by omega, h3, fun j u hu => (World.cell?_of_block (a := ad.add j) (by rw [add_block]; exact hk _ h1 h3)).trans (h2 j u hu)⟩⟩
theorem SeesX.cut {w : World} {b : Nat} {A : Option Addr} {xs : List Value} (h : SeesX w b A xs) {k cap : Nat} (hc : xs.length ≤ cap) : SeesX w b (if cap = k then A else A.map (fun x => x.add k)) (xs.drop k) := by
 by_cases hk : k < xs.length
 ·rcases h.out with h | ⟨ad, rfl, h1, h3, hcell⟩
  ·subst h; simp at hk
  ·rw [if_neg (by omega)]
   refine ⟨.inr ⟨ad.add k, rfl, by rw [add_block]; exact h1, by rw [add_block]; exact h3, fun j u hu => ?_⟩⟩
   rw [add_add']
   exact hcell _ u (by rw [← hu, List.getElem?_drop])
 ·exact ⟨.inl (List.drop_eq_nil_of_le (by omega))⟩
theorem SeesX.of_own {w : World} {base b : Nat} {v : Value} {A : Option Addr} {n c : Nat} {l : List UInt8} (h : OwnB w base v l) (hv : v = .slice A n c) (hb : b + 1 < base) : SeesX w b A (bv l) := by
 rcases (SeesN.of_own h hv none (by simp)).out with h | ⟨ad, e, h0, h1, _, h2⟩
 ·exact ⟨.inl h⟩
 ·exact ⟨.inr ⟨ad, e, h1, .inr (by omega), h2⟩⟩
theorem SeesX.kept2 {w w' : World} {b : Nat} {A : Option Addr} {xs : List Value} {ob : Option Nat} (h : SeesX w b A xs) (hA : ∀ ad : Addr, A = some ad → some ad.block ≠ ob) (hs : w.heap.size ≤ w'.heap.size) (hk : ∀ k, k < w.heap.size → some k ≠ ob → w'.heap[k]? = w.heap[k]?) : SeesX w' b A xs := by
 rcases h.out with h | ⟨ad, e, h1, h3, h2⟩
 ·exact ⟨.inl h⟩
 ·exact ⟨.inr ⟨ad, e, by omega, h3, fun j u hu => (World.cell?_of_block (a := ad.add j) (by rw [add_block]; exact hk _ h1 (hA _ e))).trans (h2 j u hu)⟩⟩
structure Later (B : Nat) (w w' : World) : Prop where
 size : w.heap.size ≤ w'.heap.size
 block : ∀ k, B ≤ k → k < w.heap.size → w'.heap[k]? = w.heap[k]?
theorem Later.refl (B : Nat) (w : World) : Later B w w := ⟨Nat.le_refl _, fun _ _ _ => rfl⟩
theorem Later.trans {B : Nat} {w w' w'' : World} (h : Later B w w') (k : Later B w' w'') : Later B w w'' :=
 ⟨Nat.le_trans h.size k.size, fun i h1 h2 => (k.block i h1 (Nat.lt_of_lt_of_le h2 h.size)).trans (h.block i h1 h2)⟩
theorem Later.of_below {B : Nat} {w w' : World} (h : Below w.heap.size w w') : Later B w w' := ⟨h.size, fun k _ hk => h.block k hk⟩
theorem SeesN.later {w w' : World} {base : Nat} {ob : Option Nat} {A : Option Addr} {xs : List Value} (h : SeesN w base ob A xs) (hl : Later base w w') : SeesN w' base ob A xs :=
 h.kept ob hl.size (fun b h0 h1 _ => hl.block b h0 h1) (fun _ _ _ h => h)
theorem OwnS.later {w w' : World} {base : Nat} {v : Value} {ls : List (List UInt8)} (h : OwnS w base v ls) (hl : Later base w w') : OwnS w' base v ls := by
 obtain ⟨vs, h1, h2⟩ := h.out
 refine ⟨vs, ⟨h1.1, ?_⟩, fun i hi => ?_⟩
 ·rcases h1.2 with h3 | ⟨g, cap, cur, hv, hg, hh, r⟩
  ·exact .inl h3
  ·exact .inr ⟨g, cap, cur, hv, hg, (hl.block g hg (Array.getElem?_eq_some_iff.1 hh).1).trans hh, r⟩
 ·obtain ⟨Ai, ci, h3, h4, h5⟩ := h2 i hi
  exact ⟨Ai, ci, h3, h4, h5.later hl⟩
structure St (w0 w : World) (A : Option Addr) (n c : Nat) (r : List UInt8) (e : Nat) : Prop where
 err : OneErr w (w0.heap.size + 1) e
 row : OneRow w w0.heap.size A n c
 len : r.length = n
 nc : n ≤ c
 small : n ≤ 1000000
 sees : SeesX w w0.heap.size A (bv r)
 below : Below w0.heap.size w0 w
section
variable {w0 w : World} {A : Option Addr} {n c : Nat} {r : List UInt8} {e : Nat}
theorem St.size (h : St w0 w A n c r e) : w0.heap.size + 2 ≤ w.heap.size := lt_of_block h.err
theorem St.keep (h : St w0 w A n c r e) {w1 : World} (hb : Below w.heap.size w w1) : St w0 w1 A n c r e := by
 have hs := h.size
 exact ⟨(hb.block _ (by omega)).trans h.err, (hb.block _ (by omega)).trans h.row, h.len, h.nc, h.small, h.sees.kept hb.size (fun k hk _ => hb.block k hk), h.below.trans (hb.mono (by omega))⟩
theorem St.grown (h : St w0 w A n c r e) {w' : World} {ob : Option Nat} (hg : w.grownBy w' ob) (hob : ∀ k, ob = some k → w0.heap.size + 2 ≤ k) (hA : ∀ ad : Addr, A = some ad → some ad.block ≠ ob) : St w0 w' A n c r e := by
 have hs := h.size
 have hne : ∀ k, k < w0.heap.size + 2 → some k ≠ ob := fun k hk e => by have := hob k e.symm; omega
 exact ⟨(hg.block _ (by omega) (hne _ (by omega))).trans h.err, (hg.block _ (by omega) (hne _ (by omega))).trans h.row, h.len, h.nc, h.small, h.sees.kept2 hA hg.size (fun k hk h2 => hg.block k hk h2), h.below.trans ((Below.refl _ w).grown hg (by omega) (fun k hk => by have := hob k hk; omega))⟩
end
end Go.Proofs.YtalmnodgjjcefaaGreatDoor
namespace Go.Proofs.YtalmnodgjjcefaaGreatDoor
open Go.RowKit
def itemsR : Nat → List (List UInt8) → List UInt8 → List UInt8 → List (List UInt8) × Nat
 | 0, acc, _, _ => (acc, 0)
 | j + 1, acc, p, r =>
  if (numR r).2.2 ≠ 0 then ([], (numR r).2.2) else if p.length < (numR r).1 then ([], 11)
  else if (numR (numR r).2.1).2.2 ≠ 0 then ([], (numR (numR r).2.1).2.2) else if (numR (numR r).2.1).2.1.length < (numR (numR r).2.1).1 then ([], 10)
  else itemsR j (acc ++ [p.take (numR r).1 ++ (numR (numR r).2.1).2.1.take (numR (numR r).2.1).1]) (p.take (numR r).1 ++ (numR (numR r).2.1).2.1.take (numR (numR r).2.1).1) ((numR (numR r).2.1).2.1.drop (numR (numR r).2.1).1)
def unpackR (b : List UInt8) : List (List UInt8) × Nat :=
 if (numR b).2.2 ≠ 0 then ([], (numR b).2.2)
 else if (itemsR (numR b).1 [] [] (numR b).2.1).2 ≠ 0 then ([], (itemsR (numR b).1 [] [] (numR b).2.1).2)
 else if checkN (itemsR (numR b).1 [] [] (numR b).2.1).1 = 0 ∧ packB (itemsR (numR b).1 [] [] (numR b).2.1).1 = b then ((itemsR (numR b).1 [] [] (numR b).2.1).1, 0) else ([], 11)
end Go.Proofs.YtalmnodgjjcefaaGreatDoor
namespace Go.Proofs.YtalmnodgjjcefaaGreatDoor
open Go.RowKit
theorem strOf_eq (l r : List UInt8) : ((strOf l).toList == (strOf r).toList) = decide (l = r) := by
 rw [strOf_toList, strOf_toList, Bool.eq_iff_iff, beq_iff_eq, decide_eq_true_eq]
set_option maxRecDepth 100000 in
set_option maxHeartbeats 400000 in
theorem BytesEqual_any (A B : Option Addr) (n m c d : Nat) (l r : List UInt8) (hn : l.length = n) (hm : r.length = m) (w : World) (hS : Sees w w.heap.size A (bv l)) (hS2 : Sees w w.heap.size B (bv r)) :
  Calls Tryz.prog 114 #[.slice A n c, .slice B m d] w fun e w' => e = .returned (.bool (decide (l = r))) ∧ w = w' := by
 have h1 := run_str w _ A n c l hS hn
 have h2 := run_str w _ B m d r hS2 hm
 have h3 := strOf_eq l r
 generalize decide (l = r) = X at h3 ⊢
 generalize strOf l = s at h1 h3
 generalize strOf r = t at h2 h3
 clear hn hm hS hS2
 go_enter Tryz.func114, Tryz.ntmps114
 go_wp2
 go_ret
 exact ⟨rfl, rfl⟩
end Go.Proofs.YtalmnodgjjcefaaGreatDoor
namespace Go.Proofs.YtalmnodgjjcefaaGreatDoor
open Go.RowKit
theorem Sees2.drew {w : World} {B : Nat} {A : Option Addr} {ls : List (List UInt8)} (h : Sees2 w B A ls) (q : Nat) : Sees2 (w.drewN q) B A ls :=
 ⟨fun i hi => by
  obtain ⟨ad, Ai, ci, h1, h2, h3, h4, h5⟩ := h.out i hi
  exact ⟨ad, Ai, ci, h1, h2, h3, h4, h5.drewN q⟩⟩
theorem Sees2.more {w : World} {B B' : Nat} {A : Option Addr} {ls : List (List UInt8)} (h : Sees2 w B A ls) (hB : B ≤ B') : Sees2 w B' A ls :=
 ⟨fun i hi => by
  obtain ⟨ad, Ai, ci, h1, h2, h3, h4, h5⟩ := h.out i hi
  exact ⟨ad, Ai, ci, h1, by omega, h3, h4, h5.more hB⟩⟩
theorem Sees2.nil (w : World) (B : Nat) (A : Option Addr) : Sees2 w B A [] := ⟨fun i hi => absurd hi (by simp)⟩
theorem Sees2.take {w : World} {B : Nat} {A : Option Addr} {ls : List (List UInt8)} (h : Sees2 w B A ls) (k : Nat) : Sees2 w B A (ls.take k) :=
 ⟨fun i hi => by
  have hi2 : i < ls.length := by rw [List.length_take] at hi; omega
  obtain ⟨ad, Ai, ci, h1, h2, h3, h4, h5⟩ := h.out i hi2
  rw [List.getElem_take]
  exact ⟨ad, Ai, ci, h1, h2, h3, h4, h5⟩⟩
theorem Sees2.cut {w : World} {B : Nat} {A : Option Addr} {ls : List (List UInt8)} (h : Sees2 w B A ls) {k cap : Nat} (hc : ls.length ≤ cap) : Sees2 w B (if cap = k then A else A.map (fun x => x.add k)) (ls.drop k) :=
 ⟨fun i hi => by
  rw [List.length_drop] at hi
  have hi2 : k + i < ls.length := by omega
  obtain ⟨ad, Ai, ci, rfl, h2, h3, h4, h5⟩ := h.out (k + i) hi2
  rw [List.getElem_drop, if_neg (by omega)]
  exact ⟨ad.add k, Ai, ci, rfl, by rw [add_block]; exact h2, by rw [add_add']; exact h3, h4, h5⟩⟩
structure OwnT (w : World) (base : Nat) (v : Value) (lls : List (List (List UInt8))) : Prop where
 out : ∃ vs : List Value, w.ownsRow base 47 1 v lls.length vs ∧ ∀ i (hi : i < lls.length), ∃ Ai ci, vs[i]? = some (.slice Ai (lls[i]).length ci) ∧ (lls[i]).length ≤ ci ∧ Sees2 w base Ai lls[i]
theorem OwnT.nil (w : World) (base : Nat) : OwnT w base (.slice none 0 0) [] := ⟨[], World.ownsRow_nil w base _ 1, fun i hi => absurd hi (by simp)⟩
theorem OwnT.open_ {w : World} {base : Nat} {v : Value} {lls : List (List (List UInt8))} (h : OwnT w base v lls) : ∃ A c, v = .slice A lls.length c ∧ lls.length ≤ c ∧
  ∀ i (hi : i < lls.length), ∃ ad Ai ci, A = some ad ∧ ad.block < w.heap.size ∧ w.cell? (ad.add i) = some (.slice Ai (lls[i]).length ci) ∧ (lls[i]).length ≤ ci ∧ Sees2 w base Ai lls[i] := by
 obtain ⟨vs, h1, h2⟩ := h.out
 rcases h1.2 with ⟨rfl, hn⟩ | ⟨g, cap, cur, rfl, hb, hh, hc, hm, _⟩
 ·have : lls = [] := List.eq_nil_of_length_eq_zero hn
  subst this
  exact ⟨none, 0, rfl, by simp, fun i hi => absurd hi (by simp)⟩
 ·refine ⟨_, cap, rfl, hc, fun i hi => ?_⟩
  obtain ⟨Ai, ci, h3, h4, h5⟩ := h2 i hi
  exact ⟨_, Ai, ci, rfl, (Array.getElem?_eq_some_iff.1 hh).1, h1.cells (g := g) rfl i _ h3, h4, h5⟩
theorem OwnT.below {w w' : World} {base : Nat} {v : Value} {lls : List (List (List UInt8))} (h : OwnT w base v lls) (hb : Below w.heap.size w w') (hbase : base ≤ w.heap.size) : OwnT w' base v lls := by
 obtain ⟨vs, h1, h2⟩ := h.out
 refine ⟨vs, World.ownsRow.kept (row := none) h1 ⟨hb.os, hb.tape, hb.output, hb.size, fun k hk _ => hb.block k hk⟩ (by cases v.ownBlock <;> simp), fun i hi => ?_⟩
 obtain ⟨Ai, ci, h3, h4, h5⟩ := h2 i hi
 exact ⟨Ai, ci, h3, h4, h5.below (hb.mono hbase)⟩
theorem OwnT.alloc {w : World} {base : Nat} {v : Value} {lls : List (List (List UInt8))} (h : OwnT w base v lls) (hb : base ≤ w.heap.size) (o : Obj) : OwnT (w.alloc o) base v lls := h.below ((Below.refl _ w).alloc (Nat.le_refl _) o) hb
end Go.Proofs.YtalmnodgjjcefaaGreatDoor
namespace Go.Proofs.YtalmnodgjjcefaaGreatDoor
open Go.RowKit
def blk (ls : List (List UInt8)) : List (List (List UInt8)) := if ls.length = 0 then [] else ls.take 8 :: blk (ls.drop 8)
termination_by ls.length
decreasing_by rw [List.length_drop]; omega
theorem blk_nil {ls : List (List UInt8)} (h : ls.length = 0) : blk ls = [] := by rw [blk, if_pos h]
theorem blk_cons {ls : List (List UInt8)} (h : 0 < ls.length) : blk ls = ls.take 8 :: blk (ls.drop 8) := by rw [blk, if_neg (by omega)]
end Go.Proofs.YtalmnodgjjcefaaGreatDoor
namespace Go.Proofs.YtalmnodgjjcefaaGreatDoor
open Go.RowKit
theorem ahead_cons (a b : UInt8) (s t : List UInt8) : ahead (a :: s) (b :: t) = (decide (a < b) || (a == b && ahead s t)) := by simp [ahead, Op.bytesLess]
end Go.Proofs.YtalmnodgjjcefaaGreatDoor
