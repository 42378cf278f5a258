/-
  The document's Make of rows, walked.
-/
import Derived.Test.YtpjiioeodcinpaaGreatDoorRwMake
import Derived.Test.YtpjiioeodcinpaaGreatDoorRwRefMay
namespace Go.Proofs.YtpjiioeodcinpaaGreatDoor
open Go.RowKit

theorem OwnB.onto2 {w w' : World} {base : Nat} {v u u' : Value} {l : List UInt8} (h : OwnB w base v l) (ho : Onto w w' u u') (hne : v.ownBlock = none ∨ v.ownBlock ≠ u.ownBlock) : OwnB w' base v l := World.ownsRow.kept h ho.grown hne

set_option maxRecDepth 100000 in
set_option maxHeartbeats 6400000 in
theorem RefMakeR_any (A : Option Addr) (n c : Nat) (ls : List Lb) (hn : ls.length = n) (k d i : Int) (x1 x2 : ByteArray) (w : World) (hS : Sees w w.heap.size A (lv ls)) (hlen : n ≤ 1099511627776) (hsz : ∀ x ∈ ls, x.1.size ≤ 9223372036854775807) (h1 : x1.size ≤ 9223372036854775807) :
    Calls Tryz.prog 12 #[.agg #[.int .i64 k, .slice A n c, .string x1, .string x2, .int .i64 d, .int .i64 i]] w (MakeOut w ⟨k, ls, (x1, x2), d, i⟩) := by
  obtain ⟨W1, hW1⟩ : ∃ W1, w.alloc (.cells #[.int .i64 k, .slice A n c, .string x1, .string x2, .int .i64 d, .int .i64 i] 34) = W1 := ⟨_, rfl⟩
  have hb1 : Below w.heap.size w W1 := hW1 ▸ (Below.refl _ _).alloc (Nat.le_refl _) _
  have hcell : ∀ j, j < 6 → W1.cell? ⟨w.heap.size, j, none⟩ = #[.int .i64 k, .slice A n c, .string x1, .string x2, .int .i64 d, .int .i64 i][j]? := fun j hj => by
    rw [← hW1, World.cell?_alloc_at _ _ _ _ rfl]
  have c0 := hcell 0 (by omega)
  have c1 := hcell 1 (by omega)
  have c2 := hcell 2 (by omega)
  have c2' := hcell 3 (by omega)
  have c3 := hcell 4 (by omega)
  have c4 := hcell 5 (by omega)
  simp only [List.getElem?_toArray, List.getElem?_cons_zero, List.getElem?_cons_succ] at c0 c1 c2 c2' c3 c4
  have hs1 : w.heap.size < W1.heap.size := by rw [← hW1]; simp
  have hM := Lib.hid (RefMayR_any A n c ls hn k d i x1 x2 W1 ((hS.below hb1).more hb1.size) hlen hsz h1)
  have HN := Lib.hid hn
  have HSZ := Lib.hid hsz
  clear hcell hn hsz
  go_enter Tryz.func12, Tryz.ntmps12
  go_wp2_with fail
  refine hM.out.mono ?_
  rintro en w2 ⟨b, hb, rfl, hb2⟩
  clear hM
  cases b with
  | false =>
    have HNO : Hid (¬ MayR ⟨k, ls, (x1, x2), d, i⟩) := fun h => absurd (hb.2 h) (by simp)
    clear hb
    go_wp2_with fail
    go_ret2
    exact ⟨_, 120, rfl, hb1.trans (hb2.mono hb1.size), .inr ⟨HNO.out, rfl, rfl⟩⟩
  | true =>
    have hmr := hb.1 rfl
    clear hb
    have hs2 := hb2.size
    replace c0 := (hb2.cell hs1).trans c0
    replace c1 := (hb2.cell hs1).trans c1
    replace c2 := (hb2.cell hs1).trans c2
    replace c2' := (hb2.cell hs1).trans c2'
    replace c3 := (hb2.cell hs1).trans c3
    replace c4 := (hb2.cell hs1).trans c4
    have hb02 := hb1.trans (hb2.mono hb1.size)
    obtain ⟨id, dn, hi, hd, hi', hd', hi4, hd4⟩ := hmr.nat
    simp only at hi hd hi' hd'
    obtain rfl := hi
    obtain rfl := hd
    have hs12 : w.heap.size < w2.heap.size := by omega
    have HMR := Lib.hid hmr
    have HW1 := Lib.hid hW1
    clear hmr hW1 hb1 hb2 hi' hd'
    have hpre : ∀ (kb : UInt8) (x : Int), x = (kb.toNat : Int) → ∃ W4, w2.alloc (.cells #[.int .u8 x] 5) = W4 ∧ OwnB W4 w2.heap.size (.slice (some ⟨w2.heap.size, 0, none⟩) 1 1) [kb] ∧ Below w2.heap.size w2 W4 := fun kb x hx => by
      subst hx
      exact ⟨_, rfl, OwnB.new w2 w2.heap.size (Nat.le_refl _) [kb] 1 rfl _ rfl (by simp [maxLen]), KI_new w2 _⟩
    have HS := Lib.hid hS
    clear hS
    rcases HMR.out.kinds with ⟨hk | hk, hmay, hx, hd0⟩ | ⟨hk, hl, hx, hd0⟩ | ⟨hk, hl, hx⟩ | ⟨hk, hl, hx, hd0⟩
    · simp only at hk hmay hx hd0
      obtain rfl := hk
      obtain ⟨W4, hW4, own4, hb4⟩ := hpre 1 1 rfl
      have hs4 := hb4.size
      have hb04 := hb02.trans (hb4.mono (Nat.le_of_lt hs12))
      have hMa := Lib.hid (RefMarshal_any A n c ls HN.out W4 ((HS.out.below hb04).more hb04.size) hlen HSZ.out)
      have e0 := (hb4.cell hs12).trans c0
      have e1 := (hb4.cell hs12).trans c1
      have e2 := (hb4.cell hs12).trans c2
      have e2' := (hb4.cell hs12).trans c2'
      have e3 := (hb4.cell hs12).trans c3
      have e4 := (hb4.cell hs12).trans c4
      have hfin : Hid (∀ (v : Value) (W : World), Below w2.heap.size W4 W → OwnB W w2.heap.size v (makeR ⟨1, ls, (x1, x2), dn, id⟩) → MakeOut w ⟨1, ls, (x1, x2), dn, id⟩ (.returned (.tuple #[v, .int .i64 0])) W) := fun v W hb ho =>
        ⟨v, 0, rfl, hb02.trans ((hb4.trans hb).mono (Nat.le_of_lt hs12)), .inl ⟨HMR.out, rfl, ho.base_le (Nat.le_of_lt hs12)⟩⟩
      clear hpre
      go_wp2_with fail
      refine hMa.out.mono ?_
      rintro en w3 ⟨v3, k3, rfl, hb3, hres⟩
      clear hMa
      have hs3 := hb3.size
      have hs14 : w.heap.size < W4.heap.size := by omega
      have f0 := (hb3.cell hs14).trans e0
      have f2 := (hb3.cell hs14).trans e2
      have f2' := (hb3.cell hs14).trans e2'
      have f3 := (hb3.cell hs14).trans e3
      have f4 := (hb3.cell hs14).trans e4
      have hb3' : Below w2.heap.size W4 w3 := hb3.mono hs4
      have own3 := own4.below hb3
      have hlt4 : w2.heap.size < W4.heap.size := by rw [← hW4]; simp
      clear c0 c1 c2 c2' c3 c4 e0 e1 e2 e2' e3 e4 hW4 own4
      rcases hres with ⟨-, rfl, hown⟩ | ⟨hno, -, -⟩
      rotate_left
      · exact absurd hmay hno
      have hml := hmay.marsh_len
      have hE := make1 (r := ⟨1, ls, (x1, x2), (dn : Int), (id : Int)⟩) rfl
      simp only [Int.toNat_natCast] at hE
      obtain ⟨M, hM⟩ : ∃ M, marsh (sortN ls) = M := ⟨_, rfl⟩
      rw [hM] at hown hE hml
      have HE := Lib.hid hE
      obtain ⟨A3, c3', rfl, hc3, -, hown', hs3'⟩ := hown.open_
      have HML := Lib.hid hml
      clear hM hml hx hd0 hmay hE hown hown'
      go_wp2_with (first
        | (at_builtin; refine wpList_append_b rfl (.tmp 26) (.tmp 27) rfl w2.heap.size (.slice (some ⟨w2.heap.size, 0, none⟩) 1 1) [1] (by rfl) own3 w3.heap.size A3 M.length c3' M (by rfl) rfl hs3' (by have := HML.out; simp; omega) (by omega) ?_; intro va wa howna hona; have hba : Below w2.heap.size w3 wa := hona.below (by omega) own3.block; have hsa := hba.size; replace f0 := (hba.cell hs12).trans f0; replace f4 := (hba.cell hs12).trans f4)
        | (at_builtin; refine wpList_append_b rfl (.tmp 29) (.tmp 30) rfl w2.heap.size va ([1] ++ M) (by rfl) (howna.alloc _) (wa.heap.size + 1) _ 1 _ [0] (by rfl) rfl (sees_new _ [0] _ _ rfl) (by have := HML.out; simp; omega) (by simp; omega) ?_; intro vb wb hownb honb; have hbb : Below w2.heap.size wa wb := ((Below.refl _ wa).alloc (by omega) _).trans (honb.below (by simp; omega) howna.block); have hsb := hbb.size; replace f0 := (hbb.cell hs12).trans f0; replace f4 := (hbb.cell hs12).trans f4)
        | fail)
      have hbz : Below w2.heap.size W4 wb := hb3'.trans (hba.trans hbb)
      refine (RefFour_any id wb hi4).mono ?_
      rintro en wq ⟨vq, rfl, hownq, hbq⟩
      obtain ⟨Aq, cq, eq, -, -, -, hsq⟩ := OwnB.open_ hownq
      rw [four_len] at eq
      subst eq
      go_wp2_with (at_builtin; refine wpList_append_b rfl (.tmp 69) (.tmp 72) rfl w2.heap.size vb _ (by rfl) (hownb.below hbq) wq.heap.size Aq 4 cq (four id) (by rfl) rfl hsq (by have := HML.out; simp [four_len]; omega) (by have := hbq.size; omega) ?_; intro vz wz hownz honz)
      go_ret2
      exact hfin.out _ _ (hbz.trans ((hbq.mono (by omega)).trans (honz.below (by have := hbq.size; omega) (hownb.below hbq).block))) (by rw [HE.out]; exact hownz)
    · simp only at hk hmay hx hd0
      obtain rfl := hk
      obtain ⟨W4, hW4, own4, hb4⟩ := hpre 2 2 rfl
      have hs4 := hb4.size
      have hb04 := hb02.trans (hb4.mono (Nat.le_of_lt hs12))
      have hMa := Lib.hid (RefMarshal_any A n c ls HN.out W4 ((HS.out.below hb04).more hb04.size) hlen HSZ.out)
      have e0 := (hb4.cell hs12).trans c0
      have e1 := (hb4.cell hs12).trans c1
      have e2 := (hb4.cell hs12).trans c2
      have e2' := (hb4.cell hs12).trans c2'
      have e3 := (hb4.cell hs12).trans c3
      have e4 := (hb4.cell hs12).trans c4
      have hfin : Hid (∀ (v : Value) (W : World), Below w2.heap.size W4 W → OwnB W w2.heap.size v (makeR ⟨2, ls, (x1, x2), dn, id⟩) → MakeOut w ⟨2, ls, (x1, x2), dn, id⟩ (.returned (.tuple #[v, .int .i64 0])) W) := fun v W hb ho =>
        ⟨v, 0, rfl, hb02.trans ((hb4.trans hb).mono (Nat.le_of_lt hs12)), .inl ⟨HMR.out, rfl, ho.base_le (Nat.le_of_lt hs12)⟩⟩
      clear hpre
      go_wp2_with fail
      refine hMa.out.mono ?_
      rintro en w3 ⟨v3, k3, rfl, hb3, hres⟩
      clear hMa
      have hs3 := hb3.size
      have hs14 : w.heap.size < W4.heap.size := by omega
      have f0 := (hb3.cell hs14).trans e0
      have f2 := (hb3.cell hs14).trans e2
      have f2' := (hb3.cell hs14).trans e2'
      have f3 := (hb3.cell hs14).trans e3
      have f4 := (hb3.cell hs14).trans e4
      have hb3' : Below w2.heap.size W4 w3 := hb3.mono hs4
      have own3 := own4.below hb3
      have hlt4 : w2.heap.size < W4.heap.size := by rw [← hW4]; simp
      clear c0 c1 c2 c2' c3 c4 e0 e1 e2 e2' e3 e4 hW4 own4
      rcases hres with ⟨-, rfl, hown⟩ | ⟨hno, -, -⟩
      rotate_left
      · exact absurd hmay hno
      have hml := hmay.marsh_len
      have hE := make2 (r := ⟨2, ls, (x1, x2), (dn : Int), (id : Int)⟩) rfl
      simp only [Int.toNat_natCast] at hE
      obtain ⟨M, hM⟩ : ∃ M, marsh (sortN ls) = M := ⟨_, rfl⟩
      rw [hM] at hown hE hml
      have HE := Lib.hid hE
      obtain ⟨A3, c3', rfl, hc3, -, hown', hs3'⟩ := hown.open_
      have HML := Lib.hid hml
      clear hM hml hx hd0 hmay hE hown
      go_wp2_with fail
      refine (RefFour_any id w3 hi4).mono ?_
      rintro en wq ⟨vq, rfl, hownq, hbq⟩
      obtain ⟨Aq, cq, eq, -, -, -, hsq⟩ := OwnB.open_ hownq
      rw [four_len] at eq
      subst eq
      have hsq' := hbq.size
      have hneM : (Value.slice A3 M.length c3').ownBlock = none ∨ (Value.slice A3 M.length c3').ownBlock ≠ (Value.slice (some ⟨w2.heap.size, 0, none⟩) 1 1).ownBlock := .inr fun e => by have h6 : W4.heap.size ≤ w2.heap.size := hown'.block _ (by rw [e]; rfl); omega
      go_wp2_with (first
        | (at_builtin; refine wpList_append_b rfl (.tmp 34) (.tmp 37) rfl w2.heap.size (.slice (some ⟨w2.heap.size, 0, none⟩) 1 1) [2] (by rfl) (own3.below hbq) wq.heap.size Aq 4 cq (four id) (by rfl) rfl hsq (by simp [four_len]) (by omega) ?_; intro va wa howna hona; have hba : Below w2.heap.size wq wa := hona.below (by omega) (own3.below hbq).block; have hsa := hba.size; have hM6 := Sees.of_own ((hown'.below hbq).onto2 hona (hneM)))
        | (at_builtin; refine wpList_append_b rfl (.tmp 39) (.tmp 40) rfl w2.heap.size va _ (by rfl) howna wa.heap.size A3 M.length c3' M (by rfl) rfl hM6 (by have := HML.out; simp [four_len]; omega) (by omega) ?_; intro vb wb hownb honb)
        | fail)
      go_ret2
      exact hfin.out _ _ (hb3'.trans ((hbq.mono (by omega)).trans (hba.trans (honb.below (by omega) howna.block)))) (by rw [HE.out]; exact hownb)
    · simp only at hk hl hx
      obtain rfl := hk
      obtain ⟨W4, hW4, own4, hb4⟩ := hpre 3 3 rfl
      have hs4 := hb4.size
      have hb04 := hb02.trans (hb4.mono (Nat.le_of_lt hs12))
      have hMa := Lib.hid (RefMarshal_any A n c ls HN.out W4 ((HS.out.below hb04).more hb04.size) hlen HSZ.out)
      have e0 := (hb4.cell hs12).trans c0
      have e1 := (hb4.cell hs12).trans c1
      have e2 := (hb4.cell hs12).trans c2
      have e2' := (hb4.cell hs12).trans c2'
      have e3 := (hb4.cell hs12).trans c3
      have e4 := (hb4.cell hs12).trans c4
      have hfin : Hid (∀ (v : Value) (W : World), Below w2.heap.size W4 W → OwnB W w2.heap.size v (makeR ⟨3, ls, (x1, x2), dn, id⟩) → MakeOut w ⟨3, ls, (x1, x2), dn, id⟩ (.returned (.tuple #[v, .int .i64 0])) W) := fun v W hb ho =>
        ⟨v, 0, rfl, hb02.trans ((hb4.trans hb).mono (Nat.le_of_lt hs12)), .inl ⟨HMR.out, rfl, ho.base_le (Nat.le_of_lt hs12)⟩⟩
      clear hpre
      go_wp2_with fail
      refine hMa.out.mono ?_
      rintro en w3 ⟨v3, k3, rfl, hb3, hres⟩
      clear hMa
      have hs3 := hb3.size
      have hs14 : w.heap.size < W4.heap.size := by omega
      have f0 := (hb3.cell hs14).trans e0
      have f2 := (hb3.cell hs14).trans e2
      have f2' := (hb3.cell hs14).trans e2'
      have f3 := (hb3.cell hs14).trans e3
      have f4 := (hb3.cell hs14).trans e4
      have hb3' : Below w2.heap.size W4 w3 := hb3.mono hs4
      have own3 := own4.below hb3
      have hlt4 : w2.heap.size < W4.heap.size := by rw [← hW4]; simp
      clear c0 c1 c2 c2' c3 c4 e0 e1 e2 e2' e3 e4 hW4 own4
      have hll := escL_len hx
      have hE := make3 (r := ⟨3, ls, (x1, x2), (dn : Int), (id : Int)⟩) rfl
      simp only [Int.toNat_natCast] at hE
      have hok := okL_size hx
      simp only at hok
      unfold escL at hE hll
      simp only at hE hll
      have hX := fun W => Lib.hid (RefEscape_any x1 W (by omega))
      have hY := fun W => Lib.hid (RefEscape_any x2 W (by omega))
      obtain ⟨X, hXe⟩ : ∃ X, esc x1.data.toList = X := ⟨_, rfl⟩
      obtain ⟨Y, hYe⟩ : ∃ Y, esc x2.data.toList = Y := ⟨_, rfl⟩
      rw [hXe] at hX hE hll
      rw [hYe] at hY hE hll
      rw [List.length_append] at hll
      rw [← List.append_assoc] at hE
      have HE := Lib.hid hE
      have HML := Lib.hid hll
      clear hXe hYe hll hx hl hres hE hok
      go_wp2_with fail
      refine (hX w3).out.mono ?_
      rintro en wx ⟨vx, rfl, hownx, honx⟩
      have hbx := honx.below_nil
      obtain ⟨Ax, cx, rfl, -, -, -, hsx⟩ := hownx.open_
      have hsx' := hbx.size
      have HBX : Below w2.heap.size W4 wx := hb3'.trans (hbx.mono (by omega))
      replace f0 := (hbx.cell (by show w.heap.size < w3.heap.size; omega)).trans f0
      replace f2' := (hbx.cell (by show w.heap.size < w3.heap.size; omega)).trans f2'
      replace f4 := (hbx.cell (by show w.heap.size < w3.heap.size; omega)).trans f4
      have ownx0 := own3.below hbx
      go_wp2_with (at_builtin; refine wpList_append_b rfl (.tmp 57) (.tmp 61) rfl w2.heap.size (.slice (some ⟨w2.heap.size, 0, none⟩) 1 1) _ (by rfl) ownx0 wx.heap.size Ax X.length cx X (by rfl) rfl hsx (by have := HML.out; simp; omega) (by omega) ?_; intro vb wb hownb honb; have hbb : Below w2.heap.size wx wb := honb.below (by omega) ownx0.block; have hsb := hbb.size; replace f0 := (hbb.cell hs12).trans f0; replace f2' := (hbb.cell hs12).trans f2'; replace f4 := (hbb.cell hs12).trans f4)
      refine (hY wb).out.mono ?_
      rintro en wy ⟨vy, rfl, howny, hony⟩
      have hby := hony.below_nil
      obtain ⟨Ay, cy, rfl, -, -, -, hsy⟩ := howny.open_
      have hsy' := hby.size
      replace f0 := (hby.cell (by show w.heap.size < wb.heap.size; omega)).trans f0
      replace f4 := (hby.cell (by show w.heap.size < wb.heap.size; omega)).trans f4
      have owny0 := hownb.below hby
      go_wp2_with (at_builtin; refine wpList_append_b rfl (.tmp 63) (.tmp 67) rfl w2.heap.size vb _ (by rfl) owny0 wy.heap.size Ay Y.length cy Y (by rfl) rfl hsy (by have := HML.out; simp; omega) (by omega) ?_; intro vd wd hownd hond; have hbd : Below w2.heap.size wy wd := hond.below (by omega) owny0.block; have hsd := hbd.size; replace f4 := (hbd.cell hs12).trans f4)
      have hbz : Below w2.heap.size W4 wd := HBX.trans (hbb.trans ((hby.mono (by omega)).trans hbd))
      refine (RefFour_any id wd hi4).mono ?_
      rintro en wq ⟨vq, rfl, hownq, hbq⟩
      obtain ⟨Aq, cq, eq, -, -, -, hsq⟩ := OwnB.open_ hownq
      rw [four_len] at eq
      subst eq
      go_wp2_with (at_builtin; refine wpList_append_b rfl (.tmp 69) (.tmp 72) rfl w2.heap.size vd _ (by rfl) (hownd.below hbq) wq.heap.size Aq 4 cq (four id) (by rfl) rfl hsq (by have := HML.out; simp [four_len]; omega) (by have := hbq.size; omega) ?_; intro vz wz hownz honz)
      go_ret2
      exact hfin.out _ _ (hbz.trans ((hbq.mono (by omega)).trans (honz.below (by have := hbq.size; omega) (hownd.below hbq).block))) (by rw [HE.out]; exact hownz)
    · simp only at hk hl hx
      obtain rfl := hk
      obtain ⟨W4, hW4, own4, hb4⟩ := hpre 4 4 rfl
      have hs4 := hb4.size
      have hb04 := hb02.trans (hb4.mono (Nat.le_of_lt hs12))
      have hMa := Lib.hid (RefMarshal_any A n c ls HN.out W4 ((HS.out.below hb04).more hb04.size) hlen HSZ.out)
      have e0 := (hb4.cell hs12).trans c0
      have e1 := (hb4.cell hs12).trans c1
      have e2 := (hb4.cell hs12).trans c2
      have e2' := (hb4.cell hs12).trans c2'
      have e3 := (hb4.cell hs12).trans c3
      have e4 := (hb4.cell hs12).trans c4
      have hfin : Hid (∀ (v : Value) (W : World), Below w2.heap.size W4 W → OwnB W w2.heap.size v (makeR ⟨4, ls, (x1, x2), dn, id⟩) → MakeOut w ⟨4, ls, (x1, x2), dn, id⟩ (.returned (.tuple #[v, .int .i64 0])) W) := fun v W hb ho =>
        ⟨v, 0, rfl, hb02.trans ((hb4.trans hb).mono (Nat.le_of_lt hs12)), .inl ⟨HMR.out, rfl, ho.base_le (Nat.le_of_lt hs12)⟩⟩
      clear hpre
      go_wp2_with fail
      refine hMa.out.mono ?_
      rintro en w3 ⟨v3, k3, rfl, hb3, hres⟩
      clear hMa
      have hs3 := hb3.size
      have hs14 : w.heap.size < W4.heap.size := by omega
      have f0 := (hb3.cell hs14).trans e0
      have f2 := (hb3.cell hs14).trans e2
      have f2' := (hb3.cell hs14).trans e2'
      have f3 := (hb3.cell hs14).trans e3
      have f4 := (hb3.cell hs14).trans e4
      have hb3' : Below w2.heap.size W4 w3 := hb3.mono hs4
      have own3 := own4.below hb3
      have hlt4 : w2.heap.size < W4.heap.size := by rw [← hW4]; simp
      clear c0 c1 c2 c2' c3 c4 e0 e1 e2 e2' e3 e4 hW4 own4
      have hll := escL_len hx
      have hE := make4 (r := ⟨4, ls, (x1, x2), (dn : Int), (id : Int)⟩) rfl
      simp only [Int.toNat_natCast] at hE
      have hok := okL_size hx
      simp only at hok
      unfold escL at hE hll
      simp only at hE hll
      have hX := fun W => Lib.hid (RefEscape_any x1 W (by omega))
      have hY := fun W => Lib.hid (RefEscape_any x2 W (by omega))
      obtain ⟨X, hXe⟩ : ∃ X, esc x1.data.toList = X := ⟨_, rfl⟩
      obtain ⟨Y, hYe⟩ : ∃ Y, esc x2.data.toList = Y := ⟨_, rfl⟩
      rw [hXe] at hX hE hll
      rw [hYe] at hY hE hll
      rw [List.length_append] at hll
      rw [← List.append_assoc] at hE
      have HE := Lib.hid hE
      have HML := Lib.hid hll
      clear hXe hYe hll hx hl hres hE hok
      go_wp2_with fail
      refine (RefFour_any dn w3 hd4).mono ?_
      rintro en wp ⟨vp, rfl, hownp, hbp⟩
      obtain ⟨Ap, cp, ep, -, -, -, hsp⟩ := OwnB.open_ hownp
      rw [four_len] at ep
      subst ep
      have hsp' := hbp.size
      replace f0 := (hbp.cell (by show w.heap.size < w3.heap.size; omega)).trans f0
      replace f2 := (hbp.cell (by show w.heap.size < w3.heap.size; omega)).trans f2
      replace f2' := (hbp.cell (by show w.heap.size < w3.heap.size; omega)).trans f2'
      replace f4 := (hbp.cell (by show w.heap.size < w3.heap.size; omega)).trans f4
      go_wp2_with (at_builtin; refine wpList_append_b rfl (.tmp 44) (.tmp 47) rfl w2.heap.size (.slice (some ⟨w2.heap.size, 0, none⟩) 1 1) [4] (by rfl) (own3.below hbp) wp.heap.size Ap 4 cp (four dn) (by rfl) rfl hsp (by simp [four_len]) (by omega) ?_; intro va wa howna hona; have hba : Below w2.heap.size wp wa := hona.below (by omega) (own3.below hbp).block; have hsa := hba.size; replace f0 := (hba.cell hs12).trans f0; replace f2 := (hba.cell hs12).trans f2; replace f2' := (hba.cell hs12).trans f2'; replace f4 := (hba.cell hs12).trans f4)
      have hb4a : Below w2.heap.size W4 wa := hb3'.trans ((hbp.mono (by omega)).trans hba)
      refine (hX wa).out.mono ?_
      rintro en wx ⟨vx, rfl, hownx, honx⟩
      have hbx := honx.below_nil
      obtain ⟨Ax, cx, rfl, -, -, -, hsx⟩ := hownx.open_
      have hsx' := hbx.size
      have HBX : Below w2.heap.size W4 wx := hb4a.trans (hbx.mono (by omega))
      replace f0 := (hbx.cell (by show w.heap.size < wa.heap.size; omega)).trans f0
      replace f2' := (hbx.cell (by show w.heap.size < wa.heap.size; omega)).trans f2'
      replace f4 := (hbx.cell (by show w.heap.size < wa.heap.size; omega)).trans f4
      have ownx0 := howna.below hbx
      go_wp2_with (at_builtin; refine wpList_append_b rfl (.tmp 57) (.tmp 61) rfl w2.heap.size va _ (by rfl) ownx0 wx.heap.size Ax X.length cx X (by rfl) rfl hsx (by have := HML.out; simp [four_len]; omega) (by omega) ?_; intro vb wb hownb honb; have hbb : Below w2.heap.size wx wb := honb.below (by omega) ownx0.block; have hsb := hbb.size; replace f0 := (hbb.cell hs12).trans f0; replace f2' := (hbb.cell hs12).trans f2'; replace f4 := (hbb.cell hs12).trans f4)
      refine (hY wb).out.mono ?_
      rintro en wy ⟨vy, rfl, howny, hony⟩
      have hby := hony.below_nil
      obtain ⟨Ay, cy, rfl, -, -, -, hsy⟩ := howny.open_
      have hsy' := hby.size
      replace f0 := (hby.cell (by show w.heap.size < wb.heap.size; omega)).trans f0
      replace f4 := (hby.cell (by show w.heap.size < wb.heap.size; omega)).trans f4
      have owny0 := hownb.below hby
      go_wp2_with (at_builtin; refine wpList_append_b rfl (.tmp 63) (.tmp 67) rfl w2.heap.size vb _ (by rfl) owny0 wy.heap.size Ay Y.length cy Y (by rfl) rfl hsy (by have := HML.out; simp [four_len]; omega) (by omega) ?_; intro vd wd hownd hond; have hbd : Below w2.heap.size wy wd := hond.below (by omega) owny0.block; have hsd := hbd.size; replace f4 := (hbd.cell hs12).trans f4)
      have hbz : Below w2.heap.size W4 wd := HBX.trans (hbb.trans ((hby.mono (by omega)).trans hbd))
      refine (RefFour_any id wd hi4).mono ?_
      rintro en wq ⟨vq, rfl, hownq, hbq⟩
      obtain ⟨Aq, cq, eq, -, -, -, hsq⟩ := OwnB.open_ hownq
      rw [four_len] at eq
      subst eq
      go_wp2_with (at_builtin; refine wpList_append_b rfl (.tmp 69) (.tmp 72) rfl w2.heap.size vd _ (by rfl) (hownd.below hbq) wq.heap.size Aq 4 cq (four id) (by rfl) rfl hsq (by have := HML.out; simp [four_len]; omega) (by have := hbq.size; omega) ?_; intro vz wz hownz honz)
      go_ret2
      exact hfin.out _ _ (hbz.trans ((hbq.mono (by omega)).trans (honz.below (by have := hbq.size; omega) (hownd.below hbq).block))) (by rw [HE.out]; exact hownz)
    · simp only at hk hl hx hd0
      obtain rfl := hk
      obtain ⟨W4, hW4, own4, hb4⟩ := hpre 5 5 rfl
      have hs4 := hb4.size
      have hb04 := hb02.trans (hb4.mono (Nat.le_of_lt hs12))
      have hMa := Lib.hid (RefMarshal_any A n c ls HN.out W4 ((HS.out.below hb04).more hb04.size) hlen HSZ.out)
      have e0 := (hb4.cell hs12).trans c0
      have e1 := (hb4.cell hs12).trans c1
      have e2 := (hb4.cell hs12).trans c2
      have e2' := (hb4.cell hs12).trans c2'
      have e3 := (hb4.cell hs12).trans c3
      have e4 := (hb4.cell hs12).trans c4
      have hfin : Hid (∀ (v : Value) (W : World), Below w2.heap.size W4 W → OwnB W w2.heap.size v (makeR ⟨5, ls, (x1, x2), dn, id⟩) → MakeOut w ⟨5, ls, (x1, x2), dn, id⟩ (.returned (.tuple #[v, .int .i64 0])) W) := fun v W hb ho =>
        ⟨v, 0, rfl, hb02.trans ((hb4.trans hb).mono (Nat.le_of_lt hs12)), .inl ⟨HMR.out, rfl, ho.base_le (Nat.le_of_lt hs12)⟩⟩
      clear hpre
      go_wp2_with fail
      refine hMa.out.mono ?_
      rintro en w3 ⟨v3, k3, rfl, hb3, hres⟩
      clear hMa
      have hs3 := hb3.size
      have hs14 : w.heap.size < W4.heap.size := by omega
      have f0 := (hb3.cell hs14).trans e0
      have f2 := (hb3.cell hs14).trans e2
      have f2' := (hb3.cell hs14).trans e2'
      have f3 := (hb3.cell hs14).trans e3
      have f4 := (hb3.cell hs14).trans e4
      have hb3' : Below w2.heap.size W4 w3 := hb3.mono hs4
      have own3 := own4.below hb3
      have hlt4 : w2.heap.size < W4.heap.size := by rw [← hW4]; simp
      clear c0 c1 c2 c2' c3 c4 e0 e1 e2 e2' e3 e4 hW4 own4
      have hE := make5 (r := ⟨5, ls, (x1, x2), (dn : Int), (id : Int)⟩) rfl
      simp only [Int.toNat_natCast] at hE
      have HE := Lib.hid hE
      clear hx hl hres hE hd0
      have hbz : Below w2.heap.size W4 w3 := hb3'
      go_wp2_with fail
      refine (RefFour_any id w3 hi4).mono ?_
      rintro en wq ⟨vq, rfl, hownq, hbq⟩
      obtain ⟨Aq, cq, eq, -, -, -, hsq⟩ := OwnB.open_ hownq
      rw [four_len] at eq
      subst eq
      go_wp2_with (at_builtin; refine wpList_append_b rfl (.tmp 69) (.tmp 72) rfl w2.heap.size (.slice (some ⟨w2.heap.size, 0, none⟩) 1 1) _ (by rfl) (own3.below hbq) wq.heap.size Aq 4 cq (four id) (by rfl) rfl hsq (by simp [four_len]) (by have := hbq.size; omega) ?_; intro vz wz hownz honz)
      go_ret2
      exact hfin.out _ _ (hbz.trans ((hbq.mono (by omega)).trans (honz.below (by have := hbq.size; omega) (own3.below hbq).block))) (by rw [HE.out]; exact hownz)
end Go.Proofs.YtpjiioeodcinpaaGreatDoor
