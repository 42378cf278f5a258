/-
  rows.Make, walked.
-/
import Derived.Test.YtpjiioeodcinpaaGreatDoorRwMay
import Derived.Test.YtpjiioeodcinpaaGreatDoorLbC
namespace Go.Proofs.YtpjiioeodcinpaaGreatDoor
open Go.RowKit

/-- What Make tells. -/
def MakeOut (w : World) (r : RowP) (e : Ending) (w' : World) : Prop :=
  ∃ (v : Value) (k : Nat), e = .returned (.tuple #[v, .int .i64 k]) ∧ Below w.heap.size w w' ∧ ((MayR r ∧ k = 0 ∧ OwnB w' w.heap.size v (makeR r)) ∨ (¬ MayR r ∧ k = 120 ∧ v = .slice none 0 0))
theorem MayR.nat {r : RowP} (h : MayR r) : ∃ i d : Nat, r.id = (i : Int) ∧ r.day = (d : Int) ∧ r.id.toNat = i ∧ r.day.toNat = d ∧ i < 4294967296 ∧ d < 4294967296 := by
  have h1 := h.id1
  have h2 := h.id2
  have h3 := h.day1
  have h4 := h.day2
  exact ⟨r.id.toNat, r.day.toNat, by omega, by omega, rfl, rfl, by omega, by omega⟩

theorem KI_new (w : World) (o : Obj) : Below w.heap.size w (w.alloc o) := (Below.refl _ w).alloc (Nat.le_refl _) _

set_option maxRecDepth 100000 in
set_option maxHeartbeats 6400000 in
theorem Make_any (A : Option Addr) (n c : Nat) (ls : List Lb) (hn : ls.length = n) (k d i : Int) (x1 x2 : ByteArray) (w : World) (hS : Sees w w.heap.size A (lv ls)) (hlen : n ≤ 1099511627776) (hsz : ∀ x ∈ ls, x.1.size ≤ 9223372036854775807) (h1 : x1.size ≤ 9223372036854775807) :
    Calls Tryz.prog 11 #[.agg #[.int .i64 k, .slice A n c, .string x1, .string x2, .int .i64 d, .int .i64 i]] w (MakeOut w ⟨k, ls, (x1, x2), d, i⟩) := by
  obtain ⟨W1, hW1⟩ : ∃ W1, w.alloc (.cells #[.int .i64 k, .slice A n c, .string x1, .string x2, .int .i64 d, .int .i64 i] 26) = W1 := ⟨_, rfl⟩
  have hb1 : Below w.heap.size w W1 := hW1 ▸ (Below.refl _ _).alloc (Nat.le_refl _) _
  have hcell : ∀ j, j < 6 → W1.cell? ⟨w.heap.size, j, none⟩ = #[.int .i64 k, .slice A n c, .string x1, .string x2, .int .i64 d, .int .i64 i][j]? := fun j hj => by
    rw [← hW1, World.cell?_alloc_at _ _ _ _ rfl]
  have c0 := hcell 0 (by omega)
  have c1 := hcell 1 (by omega)
  have c2 := hcell 2 (by omega)
  have c2' := hcell 3 (by omega)
  have c3 := hcell 4 (by omega)
  have c4 := hcell 5 (by omega)
  simp only [List.getElem?_toArray, List.getElem?_cons_zero, List.getElem?_cons_succ] at c0 c1 c2 c2' c3 c4
  have hs1 : w.heap.size < W1.heap.size := by rw [← hW1]; simp
  have hM := Lib.hid (may_any A n c ls hn k d i x1 x2 W1 ((hS.below hb1).more hb1.size) hlen hsz h1)
  have HN := Lib.hid hn
  have HSZ := Lib.hid hsz
  clear hcell hn hsz
  go_enter Tryz.func11, Tryz.ntmps11
  go_wp2_with fail
  refine hM.out.mono ?_
  rintro en w2 ⟨b, hb, rfl, hb2⟩
  clear hM
  cases b with
  | false =>
    have HNO : Hid (¬ MayR ⟨k, ls, (x1, x2), d, i⟩) := fun h => absurd (hb.2 h) (by simp)
    clear hb
    go_wp2_with fail
    go_ret2
    exact ⟨_, 120, rfl, hb1.trans (hb2.mono hb1.size), .inr ⟨HNO.out, rfl, rfl⟩⟩
  | true =>
    have hmr := hb.1 rfl
    clear hb
    have hs2 := hb2.size
    replace c0 := (hb2.cell hs1).trans c0
    replace c1 := (hb2.cell hs1).trans c1
    replace c2 := (hb2.cell hs1).trans c2
    replace c2' := (hb2.cell hs1).trans c2'
    replace c3 := (hb2.cell hs1).trans c3
    replace c4 := (hb2.cell hs1).trans c4
    have hb02 := hb1.trans (hb2.mono hb1.size)
    have hMa := Lib.hid (Marshal_any A n c ls HN.out w2 ((hS.below hb02).more hb02.size) hlen HSZ.out)
    obtain ⟨id, dn, hi, hd, hi', hd', hi4, hd4⟩ := hmr.nat
    simp only at hi hd hi' hd'
    obtain rfl := hi
    obtain rfl := hd
    have hs12 : w.heap.size < w2.heap.size := by omega
    have HMR := Lib.hid hmr
    have HW1 := Lib.hid hW1
    clear hmr hW1 hb1 hb2 hi' hd'
    go_wp2_with fail
    refine hMa.out.mono ?_
    rintro en w3 ⟨v3, k3, rfl, hb3, hres⟩
    clear hMa
    have hs3 := hb3.size
    replace c0 := (hb3.cell hs12).trans c0
    replace c1 := (hb3.cell hs12).trans c1
    replace c2 := (hb3.cell hs12).trans c2
    replace c2' := (hb3.cell hs12).trans c2'
    replace c3 := (hb3.cell hs12).trans c3
    replace c4 := (hb3.cell hs12).trans c4
    have hb03 := hb02.trans (hb3.mono hb02.size)
    have HRES := Lib.hid hres
    clear hres hb3 hb02
    have hs13 : w.heap.size < w3.heap.size := by omega
    have hpre : ∀ (kb : UInt8) (x : Int), x = (kb.toNat : Int) → ∃ W4, w3.alloc (.cells #[.int .u8 x] 5) = W4 ∧ OwnB W4 w3.heap.size (.slice (some ⟨w3.heap.size, 0, none⟩) 1 1) [kb] ∧ Below w3.heap.size w3 W4 := fun kb x hx => by
      subst hx
      exact ⟨_, rfl, OwnB.new w3 w3.heap.size (Nat.le_refl _) [kb] 1 rfl _ rfl (by simp [maxLen]), KI_new w3 _⟩
    rcases HMR.out.kinds with ⟨hk | hk, hmay, hx, hd0⟩ | ⟨hk, hl, hx, hd0⟩ | ⟨hk, hl, hx⟩ | ⟨hk, hl, hx, hd0⟩
    · simp only at hk hmay hx hd0
      obtain rfl := hk
      rcases HRES.out with ⟨-, -, hown⟩ | ⟨hno, -, -⟩
      rotate_left
      · exact absurd hmay hno
      have hml := hmay.marsh_len
      have hE := make1 (r := ⟨1, ls, (x1, x2), (dn : Int), (id : Int)⟩) rfl
      simp only [Int.toNat_natCast] at hE
      obtain ⟨M, hM⟩ : ∃ M, marsh (sortN ls) = M := ⟨_, rfl⟩
      rw [hM] at hown hE hml
      have HE := Lib.hid hE
      obtain ⟨A3, c3', rfl, hc3, -, hown', hs3'⟩ := hown.open_
      have HML := Lib.hid hml
      clear hM hml hx hd0 hmay HRES hE
      obtain ⟨W4, hW4, own4, hb4⟩ := hpre 1 1 rfl
      have e0 := (hb4.cell hs13).trans c0
      have e2 := (hb4.cell hs13).trans c2
      have e2' := (hb4.cell hs13).trans c2'
      have e3 := (hb4.cell hs13).trans c3
      have e4 := (hb4.cell hs13).trans c4
      have hs4 := hb4.size
      have hfin : Hid (∀ (v : Value) (W : World), Below w3.heap.size W4 W → OwnB W w3.heap.size v (makeR ⟨1, ls, (x1, x2), dn, id⟩) → MakeOut w ⟨1, ls, (x1, x2), dn, id⟩ (.returned (.tuple #[v, .int .i64 0])) W) := fun v W hb ho =>
        ⟨v, 0, rfl, hb03.trans ((hb4.trans hb).mono (Nat.le_of_lt hs13)), .inl ⟨HMR.out, rfl, ho.base_le (Nat.le_of_lt hs13)⟩⟩
      have hs34 := (hs3'.below hb4).more hs4
      go_wp2_with (first
        | (at_builtin; refine wpList_append_b rfl (.tmp 36) (.tmp 37) rfl w3.heap.size (.slice (some ⟨w3.heap.size, 0, none⟩) 1 1) [1] (by rfl) own4 W4.heap.size A3 M.length c3' M (by rfl) rfl hs34 (by have := HML.out; simp; omega) hs4 ?_; intro va wa howna hona; have hba : Below w3.heap.size W4 wa := hona.below hs4 own4.block; have hsa := hba.size; replace e4 := (hba.cell hs13).trans e4)
        | (at_builtin; refine wpList_append_b rfl (.tmp 38) (.tmp 39) rfl w3.heap.size va ([1] ++ M) (by rfl) (howna.alloc _) (wa.heap.size + 1) _ 1 _ [0] (by rfl) rfl (sees_new _ [0] _ _ rfl) (by have := HML.out; simp; omega) (by simp; omega) ?_; intro vb wb hownb honb; have hbb : Below w3.heap.size wa wb := ((Below.refl _ wa).alloc (by omega) _).trans (honb.below (by simp; omega) howna.block); have hsb := hbb.size; replace e4 := (hbb.cell hs13).trans e4)
        | fail)
      refine (number_any w3.heap.size vb _ id wb hownb (by omega) hi4 (by have := HML.out; simp; omega)).mono ?_
      rintro en wc ⟨vc, rfl, hownc, honc⟩
      go_wp2_with fail
      go_ret2
      exact hfin.out _ _ (hba.trans (hbb.trans (honc.below (by omega) hownb.block))) (by rw [HE.out]; exact hownc)
    · simp only at hk hmay hx hd0
      obtain rfl := hk
      rcases HRES.out with ⟨-, -, hown⟩ | ⟨hno, -, -⟩
      rotate_left
      · exact absurd hmay hno
      have hml := hmay.marsh_len
      have hE := make2 (r := ⟨2, ls, (x1, x2), (dn : Int), (id : Int)⟩) rfl
      simp only [Int.toNat_natCast] at hE
      obtain ⟨M, hM⟩ : ∃ M, marsh (sortN ls) = M := ⟨_, rfl⟩
      rw [hM] at hown hE hml
      have HE := Lib.hid hE
      obtain ⟨A3, c3', rfl, hc3, -, hown', hs3'⟩ := hown.open_
      have HML := Lib.hid hml
      clear hM hml hx hd0 hmay HRES hE
      obtain ⟨W4, hW4, own4, hb4⟩ := hpre 2 2 rfl
      have e0 := (hb4.cell hs13).trans c0
      have e2 := (hb4.cell hs13).trans c2
      have e2' := (hb4.cell hs13).trans c2'
      have e3 := (hb4.cell hs13).trans c3
      have e4 := (hb4.cell hs13).trans c4
      have hs4 := hb4.size
      have hfin : Hid (∀ (v : Value) (W : World), Below w3.heap.size W4 W → OwnB W w3.heap.size v (makeR ⟨2, ls, (x1, x2), dn, id⟩) → MakeOut w ⟨2, ls, (x1, x2), dn, id⟩ (.returned (.tuple #[v, .int .i64 0])) W) := fun v W hb ho =>
        ⟨v, 0, rfl, hb03.trans ((hb4.trans hb).mono (Nat.le_of_lt hs13)), .inl ⟨HMR.out, rfl, ho.base_le (Nat.le_of_lt hs13)⟩⟩
      have hs34 := (hs3'.below hb4).more hs4
      go_wp2_with fail
      refine (number_any w3.heap.size _ _ id W4 own4 (by omega) hi4 (by simp)).mono ?_
      rintro en wa ⟨va, rfl, howna, hona⟩
      have hba : Below w3.heap.size W4 wa := hona.below hs4 own4.block
      have hsa := hba.size
      go_wp2_with (at_builtin; refine wpList_append_b rfl (.tmp 33) (.tmp 34) rfl w3.heap.size va _ (by rfl) howna wa.heap.size A3 M.length c3' M (by rfl) rfl (((hs3'.below hb4).below hba).more (by omega)) (by have := HML.out; simp [four_len]; omega) (by omega) ?_; intro vb wb hownb honb)
      go_ret2
      exact hfin.out _ _ (hba.trans (honb.below (by omega) howna.block)) (by rw [HE.out]; exact hownb)
    · simp only at hk hl hx
      obtain rfl := hk
      have hll := escL_len hx
      have hE := make3 (r := ⟨3, ls, (x1, x2), (dn : Int), (id : Int)⟩) rfl
      simp only [Int.toNat_natCast] at hE
      obtain ⟨sz1, sz2⟩ : x1.size ≤ 400000 ∧ x2.size ≤ 400000 := by have := okL_size hx; simp only at this; omega
      obtain ⟨M, hM⟩ : ∃ M, escL (x1, x2) = M := ⟨_, rfl⟩
      rw [hM] at hE hll
      have HE := Lib.hid hE
      have HML := Lib.hid hll
      have HT := fun A n c l hn hnc W hS hl => Lib.hid (tag_any A n c l x1 x2 hn hnc W hS hl sz1 sz2)
      rw [hM] at HT
      clear hM hll hx hl HRES hE sz1 sz2
      obtain ⟨W4, hW4, own4, hb4⟩ := hpre 3 3 rfl
      have e0 := (hb4.cell hs13).trans c0
      have e2 := (hb4.cell hs13).trans c2
      have e2' := (hb4.cell hs13).trans c2'
      have e3 := (hb4.cell hs13).trans c3
      have e4 := (hb4.cell hs13).trans c4
      have hs4 := hb4.size
      have hfin : Hid (∀ (v : Value) (W : World), Below w3.heap.size W4 W → OwnB W w3.heap.size v (makeR ⟨3, ls, (x1, x2), dn, id⟩) → MakeOut w ⟨3, ls, (x1, x2), dn, id⟩ (.returned (.tuple #[v, .int .i64 0])) W) := fun v W hb ho =>
        ⟨v, 0, rfl, hb03.trans ((hb4.trans hb).mono (Nat.le_of_lt hs13)), .inl ⟨HMR.out, rfl, ho.base_le (Nat.le_of_lt hs13)⟩⟩
      go_wp2_with fail
      refine (HT _ 1 1 [3] rfl (Nat.le_refl _) W4 (Sees.of_own own4) (by omega)).out.mono ?_
      rintro en wa ⟨va, rfl, howna, hba'⟩
      have hba : Below w3.heap.size W4 wa := hba'.mono hs4
      have hsa := hba.size
      replace e4 := (hba.cell hs13).trans e4
      go_wp2_with fail
      refine (number_any w3.heap.size va _ id wa (howna.base_le hs4) (by omega) hi4 (by have := HML.out; simp; omega)).mono ?_
      rintro en wc ⟨vc, rfl, hownc, honc⟩
      go_wp2_with fail
      go_ret2
      exact hfin.out _ _ (hba.trans (honc.below (by omega) (howna.base_le hs4).block)) (by rw [HE.out]; exact hownc)
    · simp only at hk hl hx
      obtain rfl := hk
      have hll := escL_len hx
      have hE := make4 (r := ⟨4, ls, (x1, x2), (dn : Int), (id : Int)⟩) rfl
      simp only [Int.toNat_natCast] at hE
      obtain ⟨sz1, sz2⟩ : x1.size ≤ 400000 ∧ x2.size ≤ 400000 := by have := okL_size hx; simp only at this; omega
      obtain ⟨M, hM⟩ : ∃ M, escL (x1, x2) = M := ⟨_, rfl⟩
      rw [hM] at hE hll
      have HE := Lib.hid hE
      have HML := Lib.hid hll
      have HT := fun A n c l hn hnc W hS hl => Lib.hid (tag_any A n c l x1 x2 hn hnc W hS hl sz1 sz2)
      rw [hM] at HT
      clear hM hll hx hl HRES hE sz1 sz2
      obtain ⟨W4, hW4, own4, hb4⟩ := hpre 4 4 rfl
      have e0 := (hb4.cell hs13).trans c0
      have e2 := (hb4.cell hs13).trans c2
      have e2' := (hb4.cell hs13).trans c2'
      have e3 := (hb4.cell hs13).trans c3
      have e4 := (hb4.cell hs13).trans c4
      have hs4 := hb4.size
      have hfin : Hid (∀ (v : Value) (W : World), Below w3.heap.size W4 W → OwnB W w3.heap.size v (makeR ⟨4, ls, (x1, x2), dn, id⟩) → MakeOut w ⟨4, ls, (x1, x2), dn, id⟩ (.returned (.tuple #[v, .int .i64 0])) W) := fun v W hb ho =>
        ⟨v, 0, rfl, hb03.trans ((hb4.trans hb).mono (Nat.le_of_lt hs13)), .inl ⟨HMR.out, rfl, ho.base_le (Nat.le_of_lt hs13)⟩⟩
      go_wp2_with fail
      refine (number_any w3.heap.size _ _ dn W4 own4 (by omega) hd4 (by simp)).mono ?_
      rintro en w5 ⟨v5, rfl, hown5, hon5⟩
      have hb5 : Below w3.heap.size W4 w5 := hon5.below hs4 own4.block
      have hs5' := hb5.size
      replace e0 := (hb5.cell hs13).trans e0
      replace e2 := (hb5.cell hs13).trans e2
      replace e2' := (hb5.cell hs13).trans e2'
      replace e4 := (hb5.cell hs13).trans e4
      obtain ⟨A5, c5, rfl, hc5, -, -, hs5⟩ := hown5.open_
      go_wp2_with fail
      refine (HT A5 _ c5 _ rfl hc5 w5 hs5 (by simp [four_len])).out.mono ?_
      rintro en wa ⟨va, rfl, howna, hba'⟩
      have hba : Below w3.heap.size W4 wa := hb5.trans (hba'.mono (by omega))
      have hsa := hba.size
      replace e4 := (hba'.cell (by show w.heap.size < w5.heap.size; omega)).trans e4
      go_wp2_with fail
      refine (number_any w3.heap.size va _ id wa (howna.base_le (by omega)) (by omega) hi4 (by have := HML.out; simp [four_len]; omega)).mono ?_
      rintro en wc ⟨vc, rfl, hownc, honc⟩
      go_wp2_with fail
      go_ret2
      exact hfin.out _ _ (hba.trans (honc.below (by omega) (howna.base_le (by omega)).block)) (by rw [HE.out]; exact hownc)
    · simp only at hk hl hx hd0
      obtain rfl := hk
      have hE := make5 (r := ⟨5, ls, (x1, x2), (dn : Int), (id : Int)⟩) rfl
      simp only [Int.toNat_natCast] at hE
      have HE := Lib.hid hE
      clear hx hl HRES hE hd0
      obtain ⟨W4, hW4, own4, hb4⟩ := hpre 5 5 rfl
      have e0 := (hb4.cell hs13).trans c0
      have e2 := (hb4.cell hs13).trans c2
      have e2' := (hb4.cell hs13).trans c2'
      have e3 := (hb4.cell hs13).trans c3
      have e4 := (hb4.cell hs13).trans c4
      have hs4 := hb4.size
      have hfin : Hid (∀ (v : Value) (W : World), Below w3.heap.size W4 W → OwnB W w3.heap.size v (makeR ⟨5, ls, (x1, x2), dn, id⟩) → MakeOut w ⟨5, ls, (x1, x2), dn, id⟩ (.returned (.tuple #[v, .int .i64 0])) W) := fun v W hb ho =>
        ⟨v, 0, rfl, hb03.trans ((hb4.trans hb).mono (Nat.le_of_lt hs13)), .inl ⟨HMR.out, rfl, ho.base_le (Nat.le_of_lt hs13)⟩⟩
      go_wp2_with fail
      refine (number_any w3.heap.size _ _ id W4 own4 (by omega) hi4 (by simp)).mono ?_
      rintro en wc ⟨vc, rfl, hownc, honc⟩
      go_wp2_with fail
      go_ret2
      exact hfin.out _ _ (honc.below hs4 own4.block) (by rw [HE.out]; exact hownc)
end Go.Proofs.YtpjiioeodcinpaaGreatDoor
