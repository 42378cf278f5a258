/-
  The document's Parse of rows, walked.
-/
import Derived.Test.YtpjiioeodcinpaaGreatDoorRwRefNum
import Derived.Test.YtpjiioeodcinpaaGreatDoorRwPre
import Derived.Test.YtpjiioeodcinpaaGreatDoorRwRefMake
import Derived.Test.YtpjiioeodcinpaaGreatDoorRwParse
import Derived.Test.YtpjiioeodcinpaaGreatDoorRwMkO
import Derived.Deep.CutBlock
namespace Go.Proofs.YtpjiioeodcinpaaGreatDoor
open Go.RowKit

theorem num_take (l : List UInt8) : num (l.take 4) = num l := by
  unfold num
  simp
/-- What lies between the kind and the number. -/
theorem midE {b P : List UInt8} {k : UInt8} {id n : Nat} (e : [k] ++ P ++ four id = b) (hn : b.length = n) (hid : id < 4294967296) : (b.drop 1).take (n - 5) = P ∧ num (b.drop (n - 4)) = id := by
  subst e
  have hl : n = P.length + 5 := by rw [← hn]; simp [four_len]
  have h1 : n - 5 = P.length := by omega
  have h2 : n - 4 = ([k] ++ P).length := by simp; omega
  constructor
  · rw [h1]; simp
  · rw [h2, List.drop_left]
    have := num_four id [] hid
    rwa [List.append_nil] at this
theorem mid_id {r : RowP} (h : MayR r) : r.id.toNat < 4294967296 ∧ r.day.toNat < 4294967296 ∧ r.id = ((r.id.toNat : Nat) : Int) ∧ r.day = ((r.day.toNat : Nat) : Int) := by
  have h1 := h.id1
  have h2 := h.id2
  have h3 := h.day1
  have h4 := h.day2
  omega
/-- The row that bytes without labels are. -/
structure Mid1 (r : RowP) (b : List UInt8) (n : Nat) : Prop where
  mid : (b.drop 1).take (n - 5) = marsh (sortN r.labels) ++ [0]
  id : r.id = (num (b.drop (n - 4)) : Nat)
  lab : r.label = lb0
  day : r.day = 0
  may : MayL r.labels
theorem mid1 {r : RowP} (h : MayR r) {b : List UInt8} (e : makeR r = b) (hk : r.kind = 1) {n : Nat} (hn : b.length = n) : Mid1 r b n := by
  obtain ⟨i1, i2, i3, i4⟩ := mid_id h
  rcases h.kinds with ⟨-, hl, hx, hd⟩ | ⟨a, _⟩ | ⟨a, _⟩ | ⟨a, _⟩
  · rw [make1 hk, List.append_assoc [1]] at e
    obtain ⟨g1, g2⟩ := midE e hn i1
    exact ⟨g1, by rw [g2]; exact i3, hx, hd, hl⟩
  · omega
  · omega
  · omega
structure Mid3 (r : RowP) (b : List UInt8) (n : Nat) : Prop where
  mid : (b.drop 1).take (n - 5) = escL r.label
  id : r.id = (num (b.drop (n - 4)) : Nat)
  lab : r.labels = []
  day : r.day = 0
theorem mid3 {r : RowP} (h : MayR r) {b : List UInt8} (e : makeR r = b) (hk : r.kind = 3) {n : Nat} (hn : b.length = n) : Mid3 r b n := by
  obtain ⟨i1, i2, i3, i4⟩ := mid_id h
  rcases h.kinds with ⟨a, _⟩ | ⟨-, hl, hx, hd⟩ | ⟨a, _⟩ | ⟨a, _⟩
  · omega
  · rw [make3 hk] at e
    obtain ⟨g1, g2⟩ := midE e hn i1
    exact ⟨g1, by rw [g2]; exact i3, hl, hd⟩
  · omega
  · omega
structure Mid4 (r : RowP) (b : List UInt8) (n : Nat) : Prop where
  mid : (b.drop 1).take (n - 5) = four r.day.toNat ++ escL r.label
  id : r.id = (num (b.drop (n - 4)) : Nat)
  lab : r.labels = []
  day : r.day = (num ((b.drop 1).take (n - 5)) : Nat)
theorem mid4 {r : RowP} (h : MayR r) {b : List UInt8} (e : makeR r = b) (hk : r.kind = 4) {n : Nat} (hn : b.length = n) : Mid4 r b n := by
  obtain ⟨i1, i2, i3, i4⟩ := mid_id h
  rcases h.kinds with ⟨a, _⟩ | ⟨a, _⟩ | ⟨-, hl, hx⟩ | ⟨a, _⟩
  · omega
  · omega
  · rw [make4 hk, List.append_assoc [4]] at e
    obtain ⟨g1, g2⟩ := midE e hn i1
    exact ⟨g1, by rw [g2]; exact i3, hl, by rw [g1, num_four _ _ i2]; exact i4⟩
  · omega
structure Mid5 (r : RowP) (b : List UInt8) (n : Nat) : Prop where
  id : r.id = (num (b.drop (n - 4)) : Nat)
  lab : r.labels = []
  lb : r.label = lb0
  day : r.day = 0
theorem mid5 {r : RowP} (h : MayR r) {b : List UInt8} (e : makeR r = b) (hk : r.kind = 5) {n : Nat} (hn : b.length = n) : Mid5 r b n := by
  obtain ⟨i1, i2, i3, i4⟩ := mid_id h
  rcases h.kinds with ⟨a, _⟩ | ⟨a, _⟩ | ⟨a, _⟩ | ⟨-, hl, hx, hd⟩
  · omega
  · omega
  · omega
  · rw [make5 hk] at e
    obtain ⟨g1, g2⟩ := midE (P := []) (by rw [List.append_nil]; exact e) hn i1
    exact ⟨by rw [g2]; exact i3, hl, hx, hd⟩
theorem canonR_nil {r : RowP} (h : r.labels = []) : canonR r = r := by
  obtain ⟨a, b, c, d, e⟩ := r
  simp only at h
  subst h
  rfl

/-- The state: the result's block, the row's block H. -/
structure RSt (w0 : World) (H : Nat) (W : World) (b : List UInt8) (ok : Bool) (vl : Value) (ls : List Lb) (k d i : Int) (x1 x2 : ByteArray) : Prop where
  bel : Below w0.heap.size w0 W
  lt : w0.heap.size < H ∧ H < W.heap.size
  res : SixAt W w0.heap.size (.int .i64 0) (.slice none 0 0) (.string ⟨#[]⟩) (.string ⟨#[]⟩) (.int .i64 0) (.int .i64 0)
  six : SixAt W H (.int .i64 k) vl (.string x1) (.string x2) (.int .i64 d) (.int .i64 i)
  lab : LabAt W w0.heap.size H vl ls
  few : ls.length ≤ 6
  sz : ∀ x ∈ ls, x.1.size ≤ 9223372036854775807
  sz1 : x1.size ≤ 9223372036854775807
  srt : sortN ls = ls
  only : OnlyR b ok ⟨k, ls, (x1, x2), d, i⟩

set_option maxRecDepth 100000 in
set_option maxHeartbeats 6400000 in
theorem RefParse_short (A : Option Addr) (n c : Nat) (b : List UInt8) (hn : b.length = n) (w : World) (h4 : n ≤ 4) :
    Calls Tryz.prog 17 #[.slice A n c] w (ParseOut w b) := by
  have hno := noRow_short (b := b) (by omega)
  have HNO := Lib.hid hno
  have hd : decide ((n : Int) < 5) = true := decide_eq_true (by omega)
  obtain ⟨W1, hW1⟩ : ∃ W1, w.alloc (.cells #[.int .i64 0, .slice none 0 0, .string ⟨#[]⟩, .string ⟨#[]⟩, .int .i64 0, .int .i64 0] 34) = W1 := ⟨_, rfl⟩
  have hb1 : Below w.heap.size w W1 := hW1 ▸ KI_new w _
  have six : SixAt W1 w.heap.size (.int .i64 0) (.slice none 0 0) (.string ⟨#[]⟩) (.string ⟨#[]⟩) (.int .i64 0) (.int .i64 0) := hW1 ▸ SixAt.new w _ _ _ _ _ _ _
  obtain ⟨WF, hWF, z, hbF, -⟩ := six.store (Nat.le_refl _) (.int .i64 0) (.slice none 0 0) (.string ⟨#[]⟩) (.string ⟨#[]⟩) (.int .i64 0) (.int .i64 0)
  have hb2F : Below w.heap.size w WF := hb1.trans hbF
  obtain ⟨g0, g1, g2, g3, g4, g5, f0, f1, f2, f3, f4, f5⟩ := six
  have HZ := Lib.hid z
  have HWF := Lib.hid hWF
  clear hno hn hb1 hWF z hbF
  go_enter Tryz.func17, Tryz.ntmps17
  go_wp2_with fail
  rw [HWF.out]
  obtain ⟨z0, z1, z2, z3, z4, z5, -⟩ := HZ.out
  refine bodyPost_ret (v := .tuple #[.agg #[.int .i64 0, .slice none 0 0, .string ⟨#[]⟩, .string ⟨#[]⟩, .int .i64 0, .int .i64 0], .int .i64 120]) (by simp [results, Tryz.results17, go_sem, z0, z1, z2, z3, z4, z5]) rfl ?_
  exact ParseOut.bad HNO.out hb2F

theorem ownL_seesM {w : World} {base n c : Nat} {A : Option Addr} {l : List Lb} (h : OwnL w base (.slice A n c) l) : SeesM (fun k => base ≤ k ∧ k < w.heap.size) w A (lv l) := by
  rcases h.2 with ⟨h0, h1⟩ | ⟨g, cap, cur, hv, hg, hh, hcap, hm, hx⟩
  · refine ⟨.inl ?_⟩
    have := h.1
    rw [h1, Nat.zero_mul] at this
    exact List.eq_nil_of_length_eq_zero this
  · injection hv with hv
    exact ⟨.inr ⟨⟨g, 0, none⟩, hv, ⟨hg, (Array.getElem?_eq_some_iff.1 hh).1⟩, World.ownsRow.cells h (g := g) (by simp [Value.ownBlock, hv])⟩⟩
/-- What Unmarshal tells, opened. -/
structure UnmIs (w w' : World) (b : List UInt8) (A : Option Addr) (n c e : Nat) (ls : List Lb) : Prop where
  bel : Below w.heap.size w w'
  len : ls.length = n
  cap : n ≤ c
  few : n ≤ 6
  see : SeesM (fun k => w.heap.size ≤ k ∧ k < w'.heap.size) w' A (lv ls)
  sz : ∀ x ∈ ls, x.1.size ≤ 9223372036854775807
  srt : sortN ls = ls
  ok : ∀ m, parse b = (m, 0) → MayL m → sortN m = m → e = 0 ∧ ls = m
theorem UnmOut.open_ {w w' : World} {b : List UInt8} {e : Ending} (h : UnmOut w (parse b) e w') : ∃ A n c k ls, e = .returned (.tuple #[.slice A n c, .int .i64 (k : Nat)]) ∧ UnmIs w w' b A n c k ls := by
  obtain ⟨v, k, rfl, hb, ⟨h1, h2, h3, rfl, ho⟩ | ⟨h1, h2, rfl, rfl⟩ | ⟨h1, rfl, rfl⟩⟩ := h
  · have ho' := ho
    obtain ⟨A, c, rfl, hc, -, -⟩ := ho'.open_
    exact ⟨A, _, c, 0, (parse b).1, rfl, hb, rfl, hc, h2.few, ownL_seesM ho, fun x hx => by have := okL_size (h2.ok x hx); omega, h3, fun m e _ _ => ⟨rfl, by rw [e]⟩⟩
  · exact ⟨none, 0, 0, 11, [], rfl, hb, rfl, Nat.le_refl _, by omega, ⟨.inl rfl⟩, by simp, rfl, fun m e g1 g2 => absurd (by rw [e]; exact ⟨g1, g2⟩) h2⟩
  · exact ⟨none, 0, 0, _, [], rfl, hb, rfl, Nat.le_refl _, by omega, ⟨.inl rfl⟩, by simp, rfl, fun m e _ _ => absurd (by rw [e]) h1⟩
/-- The labels are in their place. -/
theorem RSt.lab_set {w0 wc W : World} {H : Nat} {b : List UInt8} {A : Option Addr} {n c e : Nat} {ls : List Lb} {t : List UInt8} {k d i : Int} {v1 : Value} {x1 x2 : ByteArray} (hu : UnmIs wc W t A n c e ls) (hbel : Below w0.heap.size w0 wc) (hlt : w0.heap.size < H ∧ H < wc.heap.size)
    (hres : SixAt wc w0.heap.size (.int .i64 0) (.slice none 0 0) (.string ⟨#[]⟩) (.string ⟨#[]⟩) (.int .i64 0) (.int .i64 0)) (hsix : SixAt wc H (.int .i64 k) v1 (.string x1) (.string x2) (.int .i64 d) (.int .i64 i)) (hx : x1.size ≤ 9223372036854775807)
    (honly : OnlyR b (decide (e = 0)) ⟨k, ls, (x1, x2), d, i⟩) : RSt w0 H (W.setCell ⟨H, 1, none⟩ (.slice A n c)) b (decide (e = 0)) (.slice A n c) ls k d i x1 x2 := by
  have hs := hu.bel.size
  have hls := hu.len
  have hfw := hu.few
  refine ⟨(hbel.trans (hu.bel.mono hbel.size)).setCell (by show _ ≤ H; omega) _, ⟨hlt.1, by rw [size_set]; omega⟩, (hres.below hu.bel (by omega)).set_ne (by show H ≠ _; omega) _, (hsix.below hu.bel hlt.2).set1 _, ⟨A, n, c, rfl, hu.len, hu.cap, ?_⟩, by omega, hu.sz, hx, hu.srt, honly⟩
  exact (hu.see.keep (keep_set W _ _ fun hj => by have h1 := hj.1; simp only at h1; omega)).mono fun j hj => ⟨.inr (by omega), by rw [size_set]; exact hj.2⟩
/-- A label is in its place. -/
theorem RSt.one_set {w0 wc W : World} {H : Nat} {b : List UInt8} {k d i : Int} {x1 x2 : ByteArray} {ok : Bool} (hbW : Below wc.heap.size wc W) (hbel : Below w0.heap.size w0 wc) (hlt : w0.heap.size < H ∧ H < wc.heap.size)
    (hres : SixAt wc w0.heap.size (.int .i64 0) (.slice none 0 0) (.string ⟨#[]⟩) (.string ⟨#[]⟩) (.int .i64 0) (.int .i64 0)) (hsix : SixAt wc H (.int .i64 k) (.slice none 0 0) (.string ⟨#[]⟩) (.string ⟨#[]⟩) (.int .i64 d) (.int .i64 i)) (hx : x1.size ≤ 9223372036854775807)
    (honly : OnlyR b ok ⟨k, [], (x1, x2), d, i⟩) : RSt w0 H ((W.setCell ⟨H, 2, none⟩ (.string x1)).setCell ⟨H, 3, none⟩ (.string x2)) b ok (.slice none 0 0) [] k d i x1 x2 := by
  have hs := hbW.size
  refine ⟨((hbel.trans (hbW.mono hbel.size)).setCell (by show _ ≤ H; omega) _).setCell (by show _ ≤ H; omega) _, ⟨hlt.1, by rw [size_set, size_set]; omega⟩, ((hres.below hbW (by omega)).set_ne (by show H ≠ _; omega) _).set_ne (by show H ≠ _; omega) _, ((hsix.below hbW hlt.2).set2 _).set3 _, LabAt.nil _ _ _, by simp, by simp, hx, rfl, honly⟩

set_option maxRecDepth 100000 in
set_option maxHeartbeats 6400000 in
theorem RefParse_long (ad : Addr) (n c : Nat) (b : List UInt8) (hn : b.length = n) (hnc : n ≤ c) (w : World) (hS : Sees w w.heap.size (some ad) (bv b)) (hlen : n ≤ 1000000) (h4 : 4 < n) (hadB : ad.block < w.heap.size) (k : Int) (q0 : w.cell? ad = some (.int .u8 k)) (HK : Hid (∀ s, MayR s → makeR s = b → s.kind = k ∧ 1 ≤ s.kind ∧ s.kind ≤ 5)) (hk0 : 0 ≤ k ∧ k ≤ 255) :
    Calls Tryz.prog 17 #[.slice (some ad) n c] w (ParseOut w b) := by
  obtain ⟨hk00, hk255⟩ := hk0
  have hd : decide ((n : Int) < 5) = false := decide_eq_false (by omega)
  obtain ⟨w1, hw1⟩ : ∃ w1, w.alloc (.cells #[.int .i64 0, .slice none 0 0, .string ⟨#[]⟩, .string ⟨#[]⟩, .int .i64 0, .int .i64 0] 34) = w1 := ⟨_, rfl⟩
  have hb1 : Below w.heap.size w w1 := hw1 ▸ KI_new w _
  have hs1 : w.heap.size < w1.heap.size := by rw [← hw1]; simp
  have six : SixAt w1 w.heap.size (.int .i64 0) (.slice none 0 0) (.string ⟨#[]⟩) (.string ⟨#[]⟩) (.int .i64 0) (.int .i64 0) := hw1 ▸ SixAt.new w _ _ _ _ _ _ _
  have SIX := Lib.hid six
  replace q0 := (hb1.cell hadB).trans q0
  have i0 : 0 < n := by omega
  obtain ⟨j, hj⟩ : ∃ j, n - 4 = j := ⟨_, rfl⟩
  have hsub : IntKind.i64.wrap ((n : Int) - 4) = (j : Int) := by rw [IntKind.wrap_i64]; omega
  have hj1 : (1 : Int) ≤ (j : Int) := by omega
  have hjn : j ≤ n := by omega
  have hjc : j < c := by omega
  have hcj : (c = j) = False := by simp; omega
  have hc1 : 1 < c := by omega
  have hSJ : Sees w1 w1.heap.size (some (ad.add j)) (bv (b.drop j)) := by
    have h1 := ((hS.below hb1).more hb1.size).cut' j
    rw [← bv_drop] at h1
    exact h1
  have hal : (w1.drew.alloc (.cells #[.int .i64 0, .slice none 0 0, .string ⟨#[]⟩, .string ⟨#[]⟩, .int .i64 0, .int .i64 0] 34)).cell? ad = some (.int .u8 k) := (((Below.refl w1.drew.heap.size w1.drew).alloc (Nat.le_refl _) _).cell (Nat.lt_trans hadB hs1)).trans q0
  have hwk : IntKind.i64.wrap k = k := by rw [IntKind.wrap_i64]; omega
  have HSJ := Lib.hid hSJ
  have hlj : (b.drop j).length = n - j := by rw [List.length_drop, hn]
  have HLJ := Lib.hid hlj
  have HN := Lib.hid hn
  have HJ := Lib.hid hj
  clear hn hj hSJ hlj six
  go_enter Tryz.func17, Tryz.ntmps17
  go_upto_region 3 with fail
  go_cut [4] (fun t wx => t = .pointer (some ⟨w1.heap.size, 0, none⟩) ∧ Below w1.heap.size w1 wx ∧ w1.heap.size < wx.heap.size ∧ SixAt wx w1.heap.size (.int .i64 k) (.slice none 0 0) (.string ⟨#[]⟩) (.string ⟨#[]⟩) (.int .i64 0) (.int .i64 (num (b.drop j) : Nat)))
  case first =>
    refine wp_region_noPanic ?_
    refine wp_region_held_drew (S := fun w' => w'.cell? ad = some (.int .u8 k) ∧ 0 ≤ w'.heap.size) (by kernel_rfl) ?_ (fun hHeld => ?_)
    · (exact ⟨q0, Nat.zero_le _⟩)
    refine wpAnyH_take (i := 0) (oi := { dst := some 21, op := Op.move (Operand.tmp 0), type := 29, pos := "ref.go:92", after := #[], guard := none }) (v := ?_) rfl (by kernel_rfl) (by kernel_rfl) (by kernel_rfl) (fun _ _ _ h => h) (Or.inl ⟨by rfl, ?_⟩) hHeld ?_
    rotate_left
    · (intro w' hSw; (try dsimp only at hSw); go_split_ands; go_simp; first | done | with_reducible rfl)
    try simp only [Act.put, List.setIfInBounds_toArray, List.set_cons_zero, List.set_cons_succ]
    refine wpAnyH_take (i := 1) (oi := { dst := some 22, op := Op.indexAddr 29 (Operand.tmp 21) (Operand.const (Value.int IntKind.i64 0)), type := 0, pos := "ref.go:92", after := #[{ on := 0, ground := Ground.data }], guard := none }) (v := ?_) rfl (by kernel_rfl) (by kernel_rfl) (by kernel_rfl) (fun _ _ _ h => h) (Or.inl ⟨by rfl, ?_⟩) hHeld ?_
    rotate_left
    · (intro w' hSw; (try dsimp only at hSw); go_split_ands; go_simp; first | done | with_reducible rfl)
    try simp only [Act.put, List.setIfInBounds_toArray, List.set_cons_zero, List.set_cons_succ]
    refine wpAnyH_take (i := 2) (oi := { dst := some 23, op := Op.load 5 (Operand.tmp 22), type := 5, pos := "ref.go:92", after := #[{ on := 1, ground := Ground.data }], guard := none }) (v := ?_) rfl (by kernel_rfl) (by kernel_rfl) (by kernel_rfl) (fun _ _ _ h => h) (Or.inl ⟨by rfl, ?_⟩) hHeld ?_
    rotate_left
    · (intro w' hSw; (try dsimp only at hSw); go_split_ands; go_simp; first | done | with_reducible rfl)
    try simp only [Act.put, List.setIfInBounds_toArray, List.set_cons_zero, List.set_cons_succ]
    refine wpAnyH_take (i := 3) (oi := { dst := some 24, op := Op.convert 5 3 (Operand.tmp 23), type := 3, pos := "ref.go:92", after := #[{ on := 2, ground := Ground.data }], guard := none }) (v := ?_) rfl (by kernel_rfl) (by kernel_rfl) (by kernel_rfl) (fun _ _ _ h => h) (Or.inl ⟨by rfl, ?_⟩) hHeld ?_
    rotate_left
    · (intro w' hSw; (try dsimp only at hSw); go_split_ands; go_simp; first | done | with_reducible rfl)
    try simp only [Act.put, List.setIfInBounds_toArray, List.set_cons_zero, List.set_cons_succ]
    refine wpAnyH_take (i := 4) (oi := { dst := some 25, op := Op.move (Operand.tmp 0), type := 29, pos := "ref.go:92", after := #[], guard := none }) (v := ?_) rfl (by kernel_rfl) (by kernel_rfl) (by kernel_rfl) (fun _ _ _ h => h) (Or.inl ⟨by rfl, ?_⟩) hHeld ?_
    rotate_left
    · (intro w' hSw; (try dsimp only at hSw); go_split_ands; go_simp; first | done | with_reducible rfl)
    try simp only [Act.put, List.setIfInBounds_toArray, List.set_cons_zero, List.set_cons_succ]
    refine wpAnyH_take (i := 5) (oi := { dst := some 26, op := Op.move (Operand.tmp 0), type := 29, pos := "ref.go:92", after := #[], guard := none }) (v := ?_) rfl (by kernel_rfl) (by kernel_rfl) (by kernel_rfl) (fun _ _ _ h => h) (Or.inl ⟨by rfl, ?_⟩) hHeld ?_
    rotate_left
    · (intro w' hSw; (try dsimp only at hSw); go_split_ands; go_simp; first | done | with_reducible rfl)
    try simp only [Act.put, List.setIfInBounds_toArray, List.set_cons_zero, List.set_cons_succ]
    refine wpAnyH_take (i := 6) (oi := { dst := some 27, op := Op.call { callee := Callee.builtin Builtin.len, args := #[Operand.tmp 26], argTypes := #[29] }, type := 3, pos := "ref.go:92", after := #[{ on := 5, ground := Ground.data }], guard := none }) (v := ?_) rfl (by kernel_rfl) (by kernel_rfl) (by kernel_rfl) (fun _ _ _ h => h) (Or.inl ⟨by rfl, ?_⟩) hHeld ?_
    rotate_left
    · (intro w' hSw; (try dsimp only at hSw); go_split_ands; go_simp; first | done | with_reducible rfl)
    try simp only [Act.put, List.setIfInBounds_toArray, List.set_cons_zero, List.set_cons_succ]
    refine wpAnyH_take (i := 7) (oi := { dst := some 28, op := Op.binOp BinOp.sub 3 (Operand.tmp 27) (Operand.const (Value.int IntKind.i64 4)) 3, type := 3, pos := "ref.go:92", after := #[{ on := 6, ground := Ground.data }], guard := none }) (v := ?_) rfl (by kernel_rfl) (by kernel_rfl) (by kernel_rfl) (fun _ _ _ h => h) (Or.inl ⟨by rfl, ?_⟩) hHeld ?_
    rotate_left
    · (intro w' hSw; (try dsimp only at hSw); go_split_ands; go_simp; first | done | with_reducible rfl)
    try simp only [Act.put, List.setIfInBounds_toArray, List.set_cons_zero, List.set_cons_succ]
    refine wpAnyH_take (i := 8) (oi := { dst := some 29, op := Op.slice 29 (Operand.tmp 25) (some (Operand.tmp 28)) none none, type := 29, pos := "ref.go:92", after := #[{ on := 4, ground := Ground.data }, { on := 7, ground := Ground.data }], guard := none }) (v := ?_) rfl (by kernel_rfl) (by kernel_rfl) (by kernel_rfl) (fun _ _ _ h => h) (Or.inl ⟨by rfl, ?_⟩) hHeld ?_
    rotate_left
    · (intro w' hSw; (try dsimp only at hSw); go_split_ands; go_simp; first | done | with_reducible rfl)
    try simp only [Act.put, List.setIfInBounds_toArray, List.set_cons_zero, List.set_cons_succ]
    refine wpAnyH_ready (rs := [9, 11]) (by kernel_rfl) (by simp) ?_
    refine AllReadyH.cons (o := { dst := some 30, op := Op.call { callee := Callee.value (Operand.func 37), args := #[Operand.tmp 29], argTypes := #[29] }, type := 3, pos := "ref.go:92", after := #[{ on := 8, ground := Ground.data }], guard := none }) rfl (fun K hK => ?_) ?_
    · go_simp
      refine (RefNumber_any (some (ad.add j)) (n - j) (c - j) (b.drop j) HLJ.out w1.drew (HSJ.out.drew) (by have := HJ.out; omega)).mono ?_
      rintro en wc1 ⟨rfl, q1, rfl⟩
      go_wp2_with fail
      refine hK.out _ _ ?_ ?_
      · (exact ⟨q0, Nat.zero_le _⟩)
      clear hK K hHeld; intro hHeld
      try simp only [Act.put, List.setIfInBounds_toArray, List.set_cons_zero, List.set_cons_succ]
      refine wpAnyH_take (i := 10) (oi := { dst := some 31, op := Op.build 34 #[(0, Operand.tmp 24), (4, Operand.tmp 30)], type := 34, pos := "ref.go:92", after := #[{ on := 3, ground := Ground.data }, { on := 9, ground := Ground.data }], guard := none }) (v := ?_) rfl (by kernel_rfl) (by kernel_rfl) (by kernel_rfl) (fun _ _ _ h => h) (Or.inl ⟨by rfl, ?_⟩) hHeld ?_
      rotate_left
      · (intro w' hSw; (try dsimp only at hSw); go_split_ands; go_simp; first | done | with_reducible rfl)
      try simp only [Act.put, List.setIfInBounds_toArray, List.set_cons_zero, List.set_cons_succ]
      refine wpAnyH_ready (rs := [11]) (by kernel_rfl) (by simp) ?_
      refine AllReadyH.cons (o := { dst := some 4, op := Op.alloc 34, type := 0, pos := "ref.go:92", after := #[], guard := none }) rfl (fun K hK => ?_) AllReadyH.nil
      go_simp
      refine hK.out _ _ ?_ ?_
      · (exact ⟨hal, Nat.zero_le _⟩)
      clear hK K hHeld; intro hHeld
      try simp only [Act.put, List.setIfInBounds_toArray, List.set_cons_zero, List.set_cons_succ]
      obtain ⟨w4, hw4⟩ : ∃ w4, ((w1.drewN (1 + q1)).alloc (.cells #[.int .i64 0, .slice none 0 0, .string ⟨#[]⟩, .string ⟨#[]⟩, .int .i64 0, .int .i64 0] 34)) = w4 := ⟨_, rfl⟩
      have six4 : SixAt w4 w1.heap.size (.int .i64 0) (.slice none 0 0) (.string ⟨#[]⟩) (.string ⟨#[]⟩) (.int .i64 0) (.int .i64 0) := hw4 ▸ (SixAt.new (w1.drewN (1 + q1)) (.int .i64 0) (.slice none 0 0) (.string ⟨#[]⟩) (.string ⟨#[]⟩) (.int .i64 0) (.int .i64 0) 34)
      have hb4 : Below w1.heap.size w1 w4 := hw4 ▸ (below_d (Below.refl _ _) (1 + q1)).alloc (Nat.le_refl _) _
      rw [hw4] at hHeld ⊢
      have SIX4 := Lib.hid six4
      obtain ⟨c0, c1, c2, c3, c4, c5, f0, f1, f2, f3, f4, f5⟩ := six4
      have hs4 : w1.heap.size < w4.heap.size := by rw [← hw4]; simp
      refine wpAnyH_ready (rs := [12]) (by kernel_rfl) (by simp) ?_
      refine AllReadyH.cons (o := { dst := none, op := Op.store 34 (Operand.tmp 4) (Operand.tmp 31), type := 0, pos := "ref.go:92", after := #[{ on := 11, ground := Ground.data }, { on := 10, ground := Ground.data }, { on := 9, ground := Ground.chain }, { on := 0, ground := Ground.phase }, { on := 1, ground := Ground.phase }, { on := 2, ground := Ground.phase }, { on := 3, ground := Ground.phase }, { on := 4, ground := Ground.phase }, { on := 5, ground := Ground.phase }, { on := 6, ground := Ground.phase }, { on := 7, ground := Ground.phase }, { on := 8, ground := Ground.phase }, { on := 9, ground := Ground.phase }, { on := 10, ground := Ground.phase }, { on := 11, ground := Ground.phase }], guard := none }) rfl (fun K hK => ?_) AllReadyH.nil
      have HH := Lib.hid hHeld
      clear hHeld
      go_simp
      have hHeld : True := trivial
      refine hK.out _ _ ?_ ?_
      · (obtain ⟨W5, hW5, -, hb5, -, -⟩ := SIX4.out.store (Nat.le_refl _) (.int .i64 k) (.slice none 0 0) (.string ⟨#[]⟩) (.string ⟨#[]⟩) (.int .i64 0) (.int .i64 (num (b.drop j) : Nat)); rw [hW5]; exact ⟨(hb5.cell (Nat.lt_trans hadB hs1)).trans HH.out.1, Nat.zero_le _⟩)
      clear hK K hHeld; intro hHeld
      try simp only [Act.put, List.setIfInBounds_toArray, List.set_cons_zero, List.set_cons_succ]
      refine wpAnyH_done (by kernel_rfl) ?_ _
      refine NoPanic.normal ?_
      go_wp2_with fail
      go_meet
      obtain ⟨W5, hW5, six5, hb5, -, hz5⟩ := SIX4.out.store (Nat.le_refl _) (.int .i64 k) (.slice none 0 0) (.string ⟨#[]⟩) (.string ⟨#[]⟩) (.int .i64 0) (.int .i64 (num (b.drop j) : Nat))
      rw [hW5]
      exact ⟨rfl, hb4.trans hb5, by rw [hz5]; exact hs4, six5⟩
    refine AllReadyH.cons (o := { dst := some 4, op := Op.alloc 34, type := 0, pos := "ref.go:92", after := #[], guard := none }) rfl (fun K hK => ?_) AllReadyH.nil
    go_simp
    refine hK.out _ _ ?_ ?_
    · (exact ⟨hal, Nat.zero_le _⟩)
    clear hK K hHeld; intro hHeld
    try simp only [Act.put, List.setIfInBounds_toArray, List.set_cons_zero, List.set_cons_succ]
    refine wpAnyH_ready (rs := [9]) (by kernel_rfl) (by simp) ?_
    refine AllReadyH.cons (o := { dst := some 30, op := Op.call { callee := Callee.value (Operand.func 37), args := #[Operand.tmp 29], argTypes := #[29] }, type := 3, pos := "ref.go:92", after := #[{ on := 8, ground := Ground.data }], guard := none }) rfl (fun K hK => ?_) AllReadyH.nil
    go_simp
    refine (RefNumber_any (some (ad.add j)) (n - j) (c - j) (b.drop j) HLJ.out (w1.drew.alloc (.cells #[.int .i64 0, .slice none 0 0, .string ⟨#[]⟩, .string ⟨#[]⟩, .int .i64 0, .int .i64 0] 34)) (((HSJ.out.drew).alloc (Nat.le_refl _) _).more (by simp)) (by have := HJ.out; omega)).mono ?_
    rintro en wc1 ⟨rfl, q1, rfl⟩
    go_wp2_with fail
    refine hK.out _ _ ?_ ?_
    · (exact ⟨hal, Nat.zero_le _⟩)
    clear hK K hHeld; intro hHeld
    try simp only [Act.put, List.setIfInBounds_toArray, List.set_cons_zero, List.set_cons_succ]
    obtain ⟨w4, hw4⟩ : ∃ w4, ((w1.alloc (.cells #[.int .i64 0, .slice none 0 0, .string ⟨#[]⟩, .string ⟨#[]⟩, .int .i64 0, .int .i64 0] 34)).drewN (1 + q1)) = w4 := ⟨_, rfl⟩
    have six4 : SixAt w4 w1.heap.size (.int .i64 0) (.slice none 0 0) (.string ⟨#[]⟩) (.string ⟨#[]⟩) (.int .i64 0) (.int .i64 0) := hw4 ▸ ((SixAt.new w1 (.int .i64 0) (.slice none 0 0) (.string ⟨#[]⟩) (.string ⟨#[]⟩) (.int .i64 0) (.int .i64 0) 34).below (below_d (Below.refl (w1.alloc (.cells #[.int .i64 0, .slice none 0 0, .string ⟨#[]⟩, .string ⟨#[]⟩, .int .i64 0, .int .i64 0] 34)).heap.size _) (1 + q1)) (by simp))
    have hb4 : Below w1.heap.size w1 w4 := hw4 ▸ below_d ((Below.refl _ _).alloc (Nat.le_refl _) _) (1 + q1)
    rw [hw4] at hHeld ⊢
    have SIX4 := Lib.hid six4
    obtain ⟨c0, c1, c2, c3, c4, c5, f0, f1, f2, f3, f4, f5⟩ := six4
    have hs4 : w1.heap.size < w4.heap.size := by rw [← hw4]; simp
    refine wpAnyH_take (i := 10) (oi := { dst := some 31, op := Op.build 34 #[(0, Operand.tmp 24), (4, Operand.tmp 30)], type := 34, pos := "ref.go:92", after := #[{ on := 3, ground := Ground.data }, { on := 9, ground := Ground.data }], guard := none }) (v := ?_) rfl (by kernel_rfl) (by kernel_rfl) (by kernel_rfl) (fun _ _ _ h => h) (Or.inl ⟨by rfl, ?_⟩) hHeld ?_
    rotate_left
    · (intro w' hSw; (try dsimp only at hSw); go_split_ands; go_simp; first | done | with_reducible rfl)
    try simp only [Act.put, List.setIfInBounds_toArray, List.set_cons_zero, List.set_cons_succ]
    refine wpAnyH_ready (rs := [12]) (by kernel_rfl) (by simp) ?_
    refine AllReadyH.cons (o := { dst := none, op := Op.store 34 (Operand.tmp 4) (Operand.tmp 31), type := 0, pos := "ref.go:92", after := #[{ on := 11, ground := Ground.data }, { on := 10, ground := Ground.data }, { on := 9, ground := Ground.chain }, { on := 0, ground := Ground.phase }, { on := 1, ground := Ground.phase }, { on := 2, ground := Ground.phase }, { on := 3, ground := Ground.phase }, { on := 4, ground := Ground.phase }, { on := 5, ground := Ground.phase }, { on := 6, ground := Ground.phase }, { on := 7, ground := Ground.phase }, { on := 8, ground := Ground.phase }, { on := 9, ground := Ground.phase }, { on := 10, ground := Ground.phase }, { on := 11, ground := Ground.phase }], guard := none }) rfl (fun K hK => ?_) AllReadyH.nil
    have HH := Lib.hid hHeld
    clear hHeld
    go_simp
    have hHeld : True := trivial
    refine hK.out _ _ ?_ ?_
    · (obtain ⟨W5, hW5, -, hb5, -, -⟩ := SIX4.out.store (Nat.le_refl _) (.int .i64 k) (.slice none 0 0) (.string ⟨#[]⟩) (.string ⟨#[]⟩) (.int .i64 0) (.int .i64 (num (b.drop j) : Nat)); rw [hW5]; exact ⟨(hb5.cell (Nat.lt_trans hadB hs1)).trans HH.out.1, Nat.zero_le _⟩)
    clear hK K hHeld; intro hHeld
    try simp only [Act.put, List.setIfInBounds_toArray, List.set_cons_zero, List.set_cons_succ]
    refine wpAnyH_done (by kernel_rfl) ?_ _
    refine NoPanic.normal ?_
    go_wp2_with fail
    go_meet
    obtain ⟨W5, hW5, six5, hb5, -, hz5⟩ := SIX4.out.store (Nat.le_refl _) (.int .i64 k) (.slice none 0 0) (.string ⟨#[]⟩) (.string ⟨#[]⟩) (.int .i64 0) (.int .i64 (num (b.drop j) : Nat))
    rw [hW5]
    exact ⟨rfl, hb4.trans hb5, by rw [hz5]; exact hs4, six5⟩
  case rest =>
    obtain ⟨rfl, hbc, hsc, six⟩ := hcut
    have hbwc : Below w.heap.size w wc := hb1.trans (hbc.mono (Nat.le_of_lt hs1))
    have RES := Lib.hid (SIX.out.below hbc hs1)
    have SX := Lib.hid six
    have HBC := Lib.hid hbwc
    obtain ⟨H, hH⟩ : ∃ H, w1.heap.size = H := ⟨_, rfl⟩
    rw [hH] at six hs1 hsc SX
    simp only [hH]
    obtain ⟨N, hN⟩ : ∃ N, num (b.drop j) = N := ⟨_, rfl⟩
    rw [hN] at six SX
    have HNN := Lib.hid hN
    obtain ⟨c0, c1, c2, c3, c4, c5, f0, f1, f2, f3, f4, f5⟩ := six
    clear hbc hbwc q0 hal hN hH hb1 SIX HSJ hw1
    obtain ⟨M, hM⟩ : ∃ M, (b.drop 1).take (n - 5) = M := ⟨_, rfl⟩
    have hml : M.length = j - 1 := by rw [← hM, List.length_take, List.length_drop, HN.out]; have := HJ.out; omega
    have HM := Lib.hid hM
    have HML := Lib.hid hml
    have hA1 : (some ad).map (fun x => x.add 1) = some ⟨ad.block, ad.off + 1, none⟩ := by simp [Addr.add]
    have HSMw : Hid (Sees w w.heap.size (some ⟨ad.block, ad.off + 1, none⟩) (bv M)) := by
      have h1 := (hS.cut' 1).take (n - 5)
      rw [hA1, ← bv_drop, ← bv_take, hM] at h1
      exact h1
    have HSM : Hid (Sees wc wc.heap.size (some ⟨ad.block, ad.off + 1, none⟩) (bv M)) := by
      have h1 := (((hS.cut' 1).take (n - 5)).below HBC.out).more HBC.out.size
      rw [hA1, ← bv_drop, ← bv_take, hM] at h1
      exact h1
    have HSM4 : Hid (Sees wc wc.heap.size (some ⟨ad.block, ad.off + 1, none⟩) (bv ((b.drop 1).take 4))) := by
      have h1 := (((hS.cut' 1).take 4).below HBC.out).more HBC.out.size
      rw [hA1, ← bv_drop, ← bv_take] at h1
      exact h1
    have HJ4 : Hid (j + 4 = n) := by have := HJ.out; unfold Hid; omega
    obtain ⟨WZ, hWZ, sz, hbz, -, -⟩ := RES.out.store (Nat.le_refl _) (.int .i64 0) (.slice none 0 0) (.string ⟨#[]⟩) (.string ⟨#[]⟩) (.int .i64 0) (.int .i64 0)
    have HSZ := Lib.hid sz
    have HWZ := Lib.hid hWZ
    have HBZ := Lib.hid (HBC.out.trans hbz)
    clear hM hml hA1 hWZ sz hbz
    go_upto_block 0 with fail
    go_cut [6] (fun t wx => ∃ ok vl ls d i x1 x2, t = .bool ok ∧ RSt w H wx b ok vl ls k d i x1 x2)
    case first =>
      by_cases k1 : k = 1
      · obtain rfl := k1
        by_cases hm : j ≤ 1
        · have HNR : Hid (NoRow b) := fun s hs e => by
            have h1 := mid1 hs e (HK.out s hs e).1 HN.out
            have h2 := congrArg List.length (HM.out.symm.trans h1.mid)
            have h3 := h1.may.marsh_len.1
            rw [HML.out, List.length_append] at h2
            omega
          obtain ⟨r0, r1, r2, r3, r4, r5, g0, g1, g2, g3, g4, g5⟩ := RES.out
          go_wp2_with fail
          rw [HWZ.out]
          obtain ⟨z0, z1, z2, z3, z4, z5, -⟩ := HSZ.out
          refine bodyPost_ret (v := .tuple #[.agg #[.int .i64 0, .slice none 0 0, .string ⟨#[]⟩, .string ⟨#[]⟩, .int .i64 0, .int .i64 0], .int .i64 120]) (by simp [results, Tryz.results17, go_sem, z0, z1, z2, z3, z4, z5]) rfl ?_
          exact ParseOut.bad HNR.out HBZ.out
        · have hU := Lib.hid (RefUnmarshal_any (some ⟨ad.block, ad.off + 1, none⟩) (j - 1 - 1) (c - 1) (M.take (j - 1 - 1)) (by rw [List.length_take, HML.out]; omega) (by omega) wc (by rw [bv_take]; exact HSM.out.take _) (by omega))
          go_wp2_with fail
          refine hU.out.mono ?_
          rintro en w6 hu
          obtain ⟨A6, n6, c6, e6, l6, rfl, hv⟩ := hu.open_
          have hbu := hv.bel
          have HU := Lib.hid hv
          have hx6 := SX.out.below hbu hsc
          have hez : ((e6 : Int) == 0) = decide (e6 = 0) := by
            by_cases h : e6 = 0
            · subst h; rfl
            · rw [decide_eq_false h, beq_eq_false_iff_ne]; omega
          clear c0 c1 c2 c3 c4 c5 f0 f1 f2 f3 f4 f5 hU hu hv hbu
          obtain ⟨c0, c1, c2, c3, c4, c5, f0, f1, f2, f3, f4, f5⟩ := hx6
          go_wp2_with fail
          go_meet
          refine ⟨_, _, l6, 0, N, ⟨#[]⟩, ⟨#[]⟩, rfl, RSt.lab_set HU.out HBC.out ⟨hs1, hsc⟩ RES.out SX.out (by decide) fun s hs e => ?_⟩
          have h1 := mid1 hs e (HK.out s hs e).1 HN.out
          have h2 := HM.out.symm.trans h1.mid
          have h3 : M.take (j - 1 - 1) = marsh (sortN s.labels) := by
            rw [← HML.out, h2, List.length_append]
            exact List.take_left' (by simp)
          obtain ⟨g1, g2⟩ := HU.out.ok (sortN s.labels) (by rw [h3]; exact parse_marsh _) h1.may.sort hs.sorts
          refine ⟨by rw [g1]; rfl, ?_⟩
          rw [g2]
          exact ext_row (HK.out s hs e).1 rfl h1.lab h1.day (by rw [← HNN.out, ← HJ.out]; exact h1.id)
      by_cases k2 : k = 2
      · obtain rfl := k2
        go_wp2_with fail
        refine (RefNumber_any (some ⟨ad.block, ad.off + 1, none⟩) 4 (c - 1) ((b.drop 1).take 4) (by rw [List.length_take, List.length_drop, HN.out]; omega) wc HSM4.out (by omega)).mono ?_
        rintro en wn ⟨rfl, q5, rfl⟩
        obtain ⟨N2, hN2⟩ : ∃ N2, num ((b.drop 1).take 4) = N2 := ⟨_, rfl⟩
        rw [hN2]
        have HN2 := Lib.hid hN2
        have six5 := (SX.out.below (below_d (Below.refl wc.heap.size wc) q5) hsc).set5 (.int .i64 (N2 : Nat))
        obtain ⟨w5, hw5⟩ : ∃ w5, (wc.drewN q5).setCell ⟨H, 5, none⟩ (.int .i64 (N2 : Nat)) = w5 := ⟨_, rfl⟩
        rw [hw5] at six5
        have hb5 : Below w.heap.size w w5 := hw5 ▸ (below_d HBC.out q5).setCell (by show _ ≤ H; omega) _
        have RES5 : Hid (SixAt w5 w.heap.size (.int .i64 0) (.slice none 0 0) (.string ⟨#[]⟩) (.string ⟨#[]⟩) (.int .i64 0) (.int .i64 0)) := hw5 ▸ (RES.out.below (below_d (Below.refl wc.heap.size wc) q5) (by omega)).set_ne (by show H ≠ _; omega) _
        have hsc5 : H < w5.heap.size := by rw [← hw5]; simp; exact hsc
        have SX5 := Lib.hid six5
        have HB5 := Lib.hid hb5
        obtain ⟨A5, hA5⟩ : ∃ A5, (if c = 5 then some ad else some (⟨ad.block, ad.off + 5, none⟩ : Addr)) = A5 := ⟨_, rfl⟩
        have hS5 : Sees w5 w5.heap.size A5 (bv (b.drop 5)) := by
          have h1 := ((hS.cut (k := 5) (cap := c) (by rw [bv_length, HN.out]; exact hnc)).below hb5).more hb5.size
          simp only [Nat.mul_one, ← bv_drop] at h1
          rw [show (some ad).map (fun x => x.add 5) = some (⟨ad.block, ad.off + 5, none⟩ : Addr) from by simp [Addr.add], hA5] at h1
          exact h1
        have hU := Lib.hid (RefUnmarshal_any A5 (n - 5) (c - 5) (b.drop 5) (by rw [List.length_drop, HN.out]) (by omega) w5 hS5 (by omega))
        have i5 : 5 ≤ n := by omega
        clear hS5 hN2 hb5 c0 c1 c2 c3 c4 f0 f1 f2 f3 f4
        obtain ⟨a0, a1, a2, a3, a4, a5, b0, b1, b2, b3, b4, b5⟩ := six5
        go_wp2_with fail
        refine hU.out.mono ?_
        rintro en w6 hu
        obtain ⟨A6, n6, c6, e6, l6, rfl, hv⟩ := hu.open_
        have hbu := hv.bel
        have HU := Lib.hid hv
        have hx6 := SX5.out.below hbu hsc5
        have hez : ((e6 : Int) == 0) = decide (e6 = 0) := by
          by_cases h : e6 = 0
          · subst h; rfl
          · rw [decide_eq_false h, beq_eq_false_iff_ne]; omega
        clear a0 a1 a2 a3 a4 a5 b0 b1 b2 b3 b4 b5 hU hu hv hbu c5 f5 hw5 hA5
        obtain ⟨c0, c1, c2, c3, c4, c5, f0, f1, f2, f3, f4, f5⟩ := hx6
        go_wp2_with fail
        go_meet
        refine ⟨_, _, l6, 0, (N2 : Nat), ⟨#[]⟩, ⟨#[]⟩, rfl, RSt.lab_set HU.out HB5.out ⟨hs1, hsc5⟩ RES5.out SX5.out (by decide) fun s hs e => ?_⟩
        obtain ⟨_, h2, h3, h4', h5⟩ := comp2 hs e (HK.out s hs e).1
        obtain ⟨g1, g2⟩ := HU.out.ok (sortN s.labels) (by rw [← h2, List.drop_drop]) h3 h4'
        refine ⟨by rw [g1]; rfl, ?_⟩
        rw [g2, h5, ← HN2.out, num_take]
        rfl
      by_cases k3 : k = 3
      · obtain rfl := k3
        go_wp2_with fail
        refine (RefOne_any (some ⟨ad.block, ad.off + 1, none⟩) (j - 1) (c - 1) M HML.out (by omega) wc HSM.out (by omega)).mono ?_
        rintro en w6 ⟨s1, s2, ok6, rfl, hb6, hs16, hone⟩
        have hb7 : Below wc.heap.size wc (w6.alloc (.cells #[.string s1, .string s2] 24)) := hb6.alloc hb6.size _
        obtain ⟨w7, hw7⟩ : ∃ w7, w6.alloc (.cells #[.string s1, .string s2] 24) = w7 := ⟨_, rfl⟩
        have l0 : w7.cell? ⟨w6.heap.size, 0, none⟩ = some (.string s1) := by rw [← hw7, World.cell?_alloc_at _ _ _ _ rfl]; rfl
        have l1 : w7.cell? ⟨w6.heap.size, 1, none⟩ = some (.string s2) := by rw [← hw7, World.cell?_alloc_at _ _ _ _ rfl]; rfl
        rw [hw7] at hb7
        have hx6 := SX.out.below hb7 hsc
        have HB7 := Lib.hid hb7
        have HONE := Lib.hid hone
        clear c0 c1 c2 c3 c4 c5 f0 f1 f2 f3 f4 f5 hb6 hb7 hone
        obtain ⟨c0, c1, c2, c3, c4, c5, f0, f1, f2, f3, f4, f5⟩ := hx6
        go_wp2_with fail
        go_meet
        refine ⟨_, _, [], 0, N, s1, s2, rfl, RSt.one_set HB7.out HBC.out ⟨hs1, hsc⟩ RES.out SX.out (by have := HML.out; omega) fun s hs e => ?_⟩
        have h1 := mid3 hs e (HK.out s hs e).1 HN.out
        obtain ⟨g1, g2, g3, g4⟩ := comp34 (x := s.label) (r := []) (R := M) (by rw [List.append_nil]; exact HM.out.symm.trans h1.mid)
        rcases HONE.out with ⟨_, ex1, ex2, ek⟩ | ⟨hne, _⟩
        · refine ⟨by rw [ek, decide_eq_true g2], ?_⟩
          rw [canonR_nil h1.lab]
          exact ext_row (HK.out s hs e).1 h1.lab (by rw [← g4, ex1, ex2]) h1.day (by rw [← HNN.out, ← HJ.out]; exact h1.id)
        · exact absurd g1 hne
      by_cases k4 : k = 4
      · obtain rfl := k4
        by_cases hm : j ≤ 4
        · have HNR : Hid (NoRow b) := fun s hs e => by
            have h1 := mid4 hs e (HK.out s hs e).1 HN.out
            have h2 := congrArg List.length (HM.out.symm.trans h1.mid)
            rw [HML.out, List.length_append, four_len] at h2
            omega
          obtain ⟨r0, r1, r2, r3, r4, r5, g0, g1, g2, g3, g4, g5⟩ := RES.out
          go_wp2_with fail
          rw [HWZ.out]
          obtain ⟨z0, z1, z2, z3, z4, z5, -⟩ := HSZ.out
          refine bodyPost_ret (v := .tuple #[.agg #[.int .i64 0, .slice none 0 0, .string ⟨#[]⟩, .string ⟨#[]⟩, .int .i64 0, .int .i64 0], .int .i64 120]) (by simp [results, Tryz.results17, go_sem, z0, z1, z2, z3, z4, z5]) rfl ?_
          exact ParseOut.bad HNR.out HBZ.out
        · have hml4 : Hid (4 ≤ M.length) := by unfold Hid; rw [HML.out]; omega
          have HSMM : Hid (Sees wc wc.heap.size (some ⟨ad.block, ad.off + 1, none⟩) (bv (M.take 4))) := by
            have h1 := HSM.out.take 4
            rw [← bv_take] at h1
            exact h1
          go_wp2_with fail
          refine (RefNumber_any (some ⟨ad.block, ad.off + 1, none⟩) 4 (c - 1) (M.take 4) (by have := hml4.out; rw [List.length_take]; omega) wc HSMM.out (by omega)).mono ?_
          rintro en wn ⟨rfl, q5, rfl⟩
          obtain ⟨N2, hN2⟩ : ∃ N2, num (M.take 4) = N2 := ⟨_, rfl⟩
          rw [hN2]
          have HN2 := Lib.hid hN2
          have six5 := (SX.out.below (below_d (Below.refl wc.heap.size wc) q5) hsc).set4 (.int .i64 (N2 : Nat))
          obtain ⟨w5, hw5⟩ : ∃ w5, (wc.drewN q5).setCell ⟨H, 4, none⟩ (.int .i64 (N2 : Nat)) = w5 := ⟨_, rfl⟩
          rw [hw5] at six5
          have hb5 : Below w.heap.size w w5 := hw5 ▸ (below_d HBC.out q5).setCell (by show _ ≤ H; omega) _
          have RES5 : Hid (SixAt w5 w.heap.size (.int .i64 0) (.slice none 0 0) (.string ⟨#[]⟩) (.string ⟨#[]⟩) (.int .i64 0) (.int .i64 0)) := hw5 ▸ (RES.out.below (below_d (Below.refl wc.heap.size wc) q5) (by omega)).set_ne (by show H ≠ _; omega) _
          have hsc5 : H < w5.heap.size := by rw [← hw5]; simp; exact hsc
          have SX5 := Lib.hid six5
          have HB5 := Lib.hid hb5
          have hS5 : Sees w5 w5.heap.size (some ⟨ad.block, ad.off + 1 + 4, none⟩) (bv (M.drop 4)) := by
            have h1 := (((HSMw.out.cut' 4).below (B := w.heap.size)) HB5.out).more HB5.out.size
            rw [show (some (⟨ad.block, ad.off + 1, none⟩ : Addr)).map (fun x => x.add 4) = some (⟨ad.block, ad.off + 1 + 4, none⟩ : Addr) from by simp [Addr.add], ← bv_drop] at h1
            exact h1
          have hO := Lib.hid (RefOne_any (some ⟨ad.block, ad.off + 1 + 4, none⟩) (j - 1 - 4) (c - 1 - 4) (M.drop 4) (by rw [List.length_drop, HML.out]) (by omega) w5 hS5 (by omega))
          clear hS5 hN2 hb5 c0 c1 c2 c3 c5 f0 f1 f2 f3 f5
          obtain ⟨a0, a1, a2, a3, a4, a5, b0, b1, b2, b3, b4, b5⟩ := six5
          go_wp2_with fail
          refine hO.out.mono ?_
          rintro en w6 ⟨s1, s2, ok6, rfl, hb6, hs16, hone⟩
          have hb7 : Below w5.heap.size w5 (w6.alloc (.cells #[.string s1, .string s2] 24)) := hb6.alloc hb6.size _
          obtain ⟨w7, hw7⟩ : ∃ w7, w6.alloc (.cells #[.string s1, .string s2] 24) = w7 := ⟨_, rfl⟩
          have l0 : w7.cell? ⟨w6.heap.size, 0, none⟩ = some (.string s1) := by rw [← hw7, World.cell?_alloc_at _ _ _ _ rfl]; rfl
          have l1 : w7.cell? ⟨w6.heap.size, 1, none⟩ = some (.string s2) := by rw [← hw7, World.cell?_alloc_at _ _ _ _ rfl]; rfl
          rw [hw7] at hb7
          have hx6 := SX5.out.below hb7 hsc5
          have HB7 := Lib.hid hb7
          have HONE := Lib.hid hone
          clear a0 a1 a2 a3 a4 a5 b0 b1 b2 b3 b4 b5 hb6 hb7 hone hO c4 f4 hw5
          obtain ⟨c0, c1, c2, c3, c4, c5, f0, f1, f2, f3, f4, f5⟩ := hx6
          go_wp2_with fail
          go_meet
          refine ⟨_, _, [], (N2 : Nat), N, s1, s2, rfl, RSt.one_set HB7.out HB5.out ⟨hs1, hsc5⟩ RES5.out SX5.out (by have := HML.out; rw [List.length_drop] at hs16; omega) fun s hs e => ?_⟩
          have h1 := mid4 hs e (HK.out s hs e).1 HN.out
          have h2 := HM.out.symm.trans h1.mid
          have h3 : M.drop 4 = escL s.label := by rw [h2]; exact List.drop_left' (four_len _)
          obtain ⟨g1, g2, g3, g4⟩ := comp34 (x := s.label) (r := []) (R := M.drop 4) (by rw [List.append_nil]; exact h3)
          rcases HONE.out with ⟨_, ex1, ex2, ek⟩ | ⟨hne, _⟩
          · refine ⟨by rw [ek, decide_eq_true g2], ?_⟩
            rw [canonR_nil h1.lab]
            exact ext_row (HK.out s hs e).1 h1.lab (by rw [← g4, ex1, ex2]) (by rw [← HN2.out, num_take, ← HM.out]; exact h1.day) (by rw [← HNN.out, ← HJ.out]; exact h1.id)
          · exact absurd g1 hne
      have e1 : (k == 1) = false := by rw [beq_eq_false_iff_ne]; exact k1
      have e2 : (k == 2) = false := by rw [beq_eq_false_iff_ne]; exact k2
      have e3 : (k == 3) = false := by rw [beq_eq_false_iff_ne]; exact k3
      have e4 : (k == 4) = false := by rw [beq_eq_false_iff_ne]; exact k4
      have HK5 : Hid (∀ s, MayR s → makeR s = b → s.kind = 5 ∧ k = 5) := fun s hs e => by have := HK.out s hs e; omega
      clear k1 k2 k3 k4
      go_wp2_with fail
      go_meet
      refine ⟨true, _, [], 0, N, ⟨#[]⟩, ⟨#[]⟩, rfl, HBC.out, ⟨hs1, hsc⟩, RES.out, SX.out, LabAt.nil _ _ _, by simp, by simp, by decide, rfl, fun s hs e => ⟨rfl, ?_⟩⟩
      have h0 := HK5.out s hs e
      have h1 := mid5 hs e h0.1 HN.out
      rw [canonR_nil h1.lab]
      exact ext_row (h0.1.trans h0.2.symm) h1.lab h1.lb h1.day (by rw [← HNN.out, ← HJ.out]; exact h1.id)
    case rest =>
      obtain ⟨ok, vl, ls, d, i, x1, x2, rfl, hst⟩ := hcut
      obtain ⟨AL, nl, cl, rfl, hll, hlc, hls⟩ := hst.lab
      have STX := Lib.hid hst
      have HLL := Lib.hid hll
      have HLS := Lib.hid hls
      have hMk := Lib.hid (RefMakeR_any AL nl cl ls hll k d i x1 x2 wc (hls.sees fun j hj => hj.2) (by have := hst.few; omega) hst.sz hst.sz1)
      have hlt := hst.lt
      clear c0 c1 c2 c3 c4 c5 f0 f1 f2 f3 f4 f5 HWZ HSZ HBZ
      obtain ⟨c0, c1, c2, c3, c4, c5, f0, f1, f2, f3, f4, f5⟩ := hst.six
      clear hst hll hls
      go_wp2_with fail
      refine hMk.out.mono ?_
      rintro en w9 h9
      obtain ⟨A9, n9, c9, k9, rfl, hb9, hres9⟩ := h9.open_
      have hs9 := hb9.size
      have hx9 := STX.out.six.below hb9 hlt.2
      have hr9 := STX.out.res.below hb9 (by omega)
      have hbw9 := STX.out.bel.trans (hb9.mono STX.out.bel.size)
      obtain ⟨WZ, hWZ, sz, hbz, -, -⟩ := hr9.store (Nat.le_refl _) (.int .i64 0) (.slice none 0 0) (.string ⟨#[]⟩) (.string ⟨#[]⟩) (.int .i64 0) (.int .i64 0)
      obtain ⟨WG, hWG, sg, hbg, hkg, hzg⟩ := hr9.store (Nat.le_refl _) (.int .i64 k) (.slice AL nl cl) (.string x1) (.string x2) (.int .i64 d) (.int .i64 i)
      have HSZ := Lib.hid sz
      have HWZ := Lib.hid hWZ
      have HBAD : Hid (∀ (nr : NoRow b), ParseOut w b (.returned (.tuple #[.agg #[.int .i64 0, .slice none 0 0, .string ⟨#[]⟩, .string ⟨#[]⟩, .int .i64 0, .int .i64 0], .int .i64 120])) WZ) := fun nr => ParseOut.bad nr (hbw9.trans hbz)
      have HSG := Lib.hid sg
      have HWG := Lib.hid hWG
      have HBG := Lib.hid (hbw9.trans hbg)
      have HSEE : Hid (Sees WG WG.heap.size AL (lv ls)) := by
        have h1 := (HLS.out.keep (Kept.of_below hb9 fun j hj => hj.2)).keep (w' := WG) (fun j hj => hkg j (by have := hj.1; omega))
        exact h1.sees fun j hj => by rw [hzg]; have := hj.2; omega
      have cvb := run_str w9 _ (some ad) n c b ((hS.below hbw9).more hbw9.size) HN.out
      clear hMk h9 c0 c1 c2 c3 c4 c5 f0 f1 f2 f3 f4 f5 hWZ sz hbz hWG sg hbg hkg hzg
      obtain ⟨c0, c1, c2, c3, c4, c5, f0, f1, f2, f3, f4, f5⟩ := hx9
      obtain ⟨r0, r1, r2, r3, r4, r5, g0, g1, g2, g3, g4, g5⟩ := hr9
      cases ok with
      | false =>
        have HNR := Lib.hid STX.out.only.none_ok
        clear hres9
        go_wp2_with fail
        rw [HWZ.out]
        obtain ⟨z0, z1, z2, z3, z4, z5, -⟩ := HSZ.out
        refine bodyPost_ret (v := .tuple #[.agg #[.int .i64 0, .slice none 0 0, .string ⟨#[]⟩, .string ⟨#[]⟩, .int .i64 0, .int .i64 0], .int .i64 120]) (by simp [results, Tryz.results17, go_sem, z0, z1, z2, z3, z4, z5]) rfl ?_
        exact HBAD.out HNR.out
      | true =>
      rcases hres9 with ⟨hmay, rfl, hn9, hc9, ho9⟩ | ⟨hno, rfl, rfl, rfl, rfl⟩
      rotate_left
      · have HNR := Lib.hid (STX.out.only.none_may hno)
        clear hno
        go_wp2_with fail
        rw [HWZ.out]
        obtain ⟨z0, z1, z2, z3, z4, z5, -⟩ := HSZ.out
        refine bodyPost_ret (v := .tuple #[.agg #[.int .i64 0, .slice none 0 0, .string ⟨#[]⟩, .string ⟨#[]⟩, .int .i64 0, .int .i64 0], .int .i64 120]) (by simp [results, Tryz.results17, go_sem, z0, z1, z2, z3, z4, z5]) rfl ?_
        exact HBAD.out HNR.out
      obtain ⟨L9, hL9⟩ : ∃ L9, makeR ⟨k, ls, (x1, x2), d, i⟩ = L9 := ⟨_, rfl⟩
      rw [hL9] at hn9 ho9
      have HL9 := Lib.hid hL9
      have HMAY := Lib.hid hmay
      have cv9 := run_str w9 _ A9 n9 c9 L9 ((ownB_seesM ho9).sees fun j hj => hj.2) hn9.symm
      have hE := strOf_eq L9 b
      by_cases hLb : L9 = b
      · rw [decide_eq_true hLb] at hE
        have HLB := Lib.hid hLb
        clear hLb hL9 hmay hn9 ho9 hc9
        generalize strOf L9 = u9 at cv9 hE
        generalize strOf b = ub at cvb hE
        have hE' : (u9.toList != ub.toList) = false := by rw [bne, hE]; rfl
        go_wp2_with fail
        rw [HWG.out]
        obtain ⟨z0, z1, z2, z3, z4, z5, -⟩ := HSG.out
        refine bodyPost_ret (v := .tuple #[.agg #[.int .i64 k, .slice AL nl cl, .string x1, .string x2, .int .i64 d, .int .i64 i], .int .i64 0]) (by simp [results, Tryz.results17, go_sem, z0, z1, z2, z3, z4, z5]) rfl ?_
        exact ⟨AL, nl, cl, k, d, i, x1, x2, ls, 0, rfl, HBG.out, HLL.out, hlc, HSEE.out, .inl ⟨rfl, HMAY.out, STX.out.srt, by rw [HL9.out]; exact HLB.out⟩⟩
      · rw [decide_eq_false hLb] at hE
        have HNR := Lib.hid (STX.out.only.none_make (by rw [HL9.out]; exact hLb))
        clear hLb hL9 hmay hn9 ho9 hc9
        generalize strOf L9 = u9 at cv9 hE
        generalize strOf b = ub at cvb hE
        have hE' : (u9.toList != ub.toList) = true := by rw [bne, hE]; rfl
        go_wp2_with fail
        rw [HWZ.out]
        obtain ⟨z0, z1, z2, z3, z4, z5, -⟩ := HSZ.out
        refine bodyPost_ret (v := .tuple #[.agg #[.int .i64 0, .slice none 0 0, .string ⟨#[]⟩, .string ⟨#[]⟩, .int .i64 0, .int .i64 0], .int .i64 120]) (by simp [results, Tryz.results17, go_sem, z0, z1, z2, z3, z4, z5]) rfl ?_
        exact HBAD.out HNR.out

theorem RefParse_any (A : Option Addr) (n c : Nat) (b : List UInt8) (hn : b.length = n) (hnc : n ≤ c) (w : World) (hS : Sees w w.heap.size A (bv b)) (hlen : n ≤ 1000000) :
    Calls Tryz.prog 17 #[.slice A n c] w (ParseOut w b) := by
  by_cases h4 : n ≤ 4
  · exact RefParse_short A n c b hn w h4
  · have h0 : 0 < b.length := by omega
    rcases hS.out with h | ⟨ad, rfl, hadB, hcell⟩
    · have := congrArg List.length h; rw [bv_length, List.length_nil] at this; omega
    · have q0 : w.cell? ad = _ := hcell 0 _ (bv_at b 0 h0)
      have hu := b[0].toNat_lt
      exact RefParse_long ad n c b hn hnc w hS hlen (by omega) hadB _ q0 (fun s hs e => comp_kind hs e h0) ⟨by omega, by omega⟩
end Go.Proofs.YtpjiioeodcinpaaGreatDoor
