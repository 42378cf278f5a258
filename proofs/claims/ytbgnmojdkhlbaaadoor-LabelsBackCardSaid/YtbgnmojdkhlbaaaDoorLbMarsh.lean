/-
  The bytes of labels: labels.Marshal and the document's, walked.
-/
import Derived.Test.YtbgnmojdkhlbaaaDoorLbRefCanon
import Derived.Test.YtbgnmojdkhlbaaaDoorLbText
namespace Go.Proofs.YtbgnmojdkhlbaaaDoor
open Go.RowKit

/-- The bytes of labels, in plain lists. -/
def marsh (l : List Lb) : List UInt8 := l.flatMap fun x => esc x.1.data.toList ++ esc x.2.data.toList
theorem marsh_take {m : List Lb} {k : Nat} (hk : k < m.length) : marsh (m.take (k + 1)) = marsh (m.take k) ++ esc m[k].1.data.toList ++ esc m[k].2.data.toList := by
  rw [← take_step hk, marsh, marsh, List.flatMap_append, List.append_assoc]
  simp
theorem okL_size {x : Lb} (h : okL x = true) : 1 ≤ x.1.size ∧ x.1.size ≤ 12 ∧ 1 ≤ x.2.size ∧ x.2.size ≤ 16 := by
  unfold okL nameB at h
  simp only [Bool.and_eq_true, decide_eq_true_eq] at h
  exact ⟨h.1.1.1.1, h.1.1.1.2, h.1.2, h.2⟩
theorem onto_cell {w w' : World} {v v' : Value} (h : Onto w w' v v') {p : Addr} (hp : p.block < w.heap.size) (hn : some p.block ≠ v.ownBlock) : w'.cell? p = w.cell? p :=
  World.cell?_of_block (h.grown.block _ hp hn)

/-- What Marshal tells. -/
def MarshOut (w : World) (ls : List Lb) (e : Ending) (w' : World) : Prop :=
  ∃ (v : Value) (k : Nat), e = .returned (.tuple #[v, .int .i64 k]) ∧ Below w.heap.size w w' ∧ ((MayL ls ∧ k = 0 ∧ OwnB w' w.heap.size v (marsh (sortN ls))) ∨ (¬ MayL ls ∧ k = 70 ∧ v = .slice none 0 0))

set_option maxRecDepth 100000 in
set_option maxHeartbeats 1600000 in
theorem Marshal_any (A : Option Addr) (n c : Nat) (ls : List Lb) (hn : ls.length = n) (w : World) (hS : Sees w w.heap.size A (lv ls)) (hlen : n ≤ 1099511627776) (hsz : ∀ x ∈ ls, x.1.size ≤ 9223372036854775807) :
    Calls Tryd.prog 20 #[.slice A n c] w (MarshOut w ls) := by
  have hC := Lib.hid (Canon_any A n c ls hn w hS hlen hsz)
  clear hS hsz
  go_enter Tryd.func20, Tryd.ntmps20
  go_wp2_with fail
  refine hC.out.mono ?_
  rintro en w2 ⟨v, kk, rfl, hB, hres⟩
  clear hC
  rcases hres with ⟨hmay, rfl, hown⟩ | ⟨hno, rfl, rfl⟩
  · obtain ⟨m, hm⟩ : ∃ m, sortN ls = m := ⟨_, rfl⟩
    have hmm : MayL m := hm ▸ hmay.sort
    have hml : m.length = n := by rw [← hm, sortN_length, hn]
    have HM := Lib.hid hm
    rw [hm] at hown
    have HMAY := Lib.hid hmay
    have HMM := Lib.hid hmm
    have HML := Lib.hid hml
    have hn6 : n ≤ 6 := hml ▸ hmm.few
    have hB2 := hB.size
    obtain ⟨A2, c2, he, -, -, hS2⟩ := hown.open_
    rw [hml] at he
    subst he
    clear hm hmay hmm hml hown hn
    go_wp2_with fail
    go_loopg [6, 19] n (fun g b i wr => ∃ k : Nat, k + g = n ∧ i = .int .i64 k ∧ OwnB wr w2.heap.size b (marsh (m.take k)) ∧ (marsh (m.take k)).length ≤ 100 * k ∧ Below w2.heap.size w2 wr)
    case atStart => exact ⟨0, by omega, rfl, OwnB.nil _ _, by simp [marsh], Below.refl _ _⟩
    case round =>
      obtain ⟨k, hk, rfl, hown, hle, hbr⟩ := hrel
      have hsr := hbr.size
      by_cases hlt : k < n
      · have hkm : k < m.length := by have := HML.out; omega
        obtain ⟨ad, rfl, hadB, hc0, hc1⟩ := (hS2.below hbr).lb (k := k) hkm
        have hsz := okL_size (HMM.out.ok _ (List.getElem_mem hkm))
        have htk := marsh_take hkm
        generalize m[k] = x at hc0 hc1 hsz htk
        generalize marsh (m.take k) = X at hown hle htk
        obtain ⟨x1, x2⟩ := x
        have HTK := Lib.hid htk
        have h1 : x1.size ≤ 1099511627776 := by have := hsz.2.1; simp only at this; omega
        have h2 : x2.size ≤ 1099511627776 := by have := hsz.2.2.2; simp only at this; omega
        have l1 : (esc x1.data.toList).length ≤ 25 := by have := esc_len x1.data.toList; have h3 : x1.size ≤ 12 := hsz.2.1; simp only [Array.length_toList] at this; have : x1.data.size = x1.size := rfl; omega
        have l2 : (esc x2.data.toList).length ≤ 33 := by have := esc_len x2.data.toList; have h3 : x2.size ≤ 16 := hsz.2.2.2; simp only [Array.length_toList] at this; have : x2.data.size = x2.size := rfl; omega
        have H1 := Lib.hid h1
        have H2 := Lib.hid h2
        have L1 := Lib.hid l1
        have L2 := Lib.hid l2
        clear htk hsz h1 h2 l1 l2
        go_wp2_with fail
        have f0 : (wr.alloc (.cells #[.string x1, .string x2] 34)).cell? ⟨wr.heap.size, 0, none⟩ = some (.string x1) := by rw [World.cell?_alloc_at _ _ _ _ rfl]; rfl
        have f1 : (wr.alloc (.cells #[.string x1, .string x2] 34)).cell? ⟨wr.heap.size, 1, none⟩ = some (.string x2) := by rw [World.cell?_alloc_at _ _ _ _ rfl]; rfl
        have hW : Below wr.heap.size wr (wr.alloc (.cells #[.string x1, .string x2] 34)) := (Below.refl _ _).alloc (Nat.le_refl _) _
        have hWs : wr.heap.size < (wr.alloc (.cells #[.string x1, .string x2] 34)).heap.size := by simp
        have hownW := hown.alloc (.cells #[.string x1, .string x2] 34)
        have hne : some wr.heap.size ≠ u6.ownBlock := fun e => by have := (World.ownsRow.lt hown _ e.symm).2; omega
        have hblk := hown.block
        generalize wr.alloc (.cells #[.string x1, .string x2] 34) = W1 at f0 f1 hW hWs hownW ⊢
        refine wp_region_noPanic ?_
        refine wp_region_held_drew (S := fun w' => w'.cell? ⟨wr.heap.size, 0, none⟩ = some (.string x1) ∧ w'.cell? ⟨wr.heap.size, 1, none⟩ = some (.string x2)) (by kernel_rfl) ?_ (fun hHeld => ?_)
        · (exact ⟨f0, f1⟩)
        refine wpAnyH_take (i := 0) (oi := { dst := some 23, op := Op.move (Operand.tmp 6), type := 35, pos := "labels.go:122", after := #[], guard := none }) (v := ?_) rfl (by kernel_rfl) (by kernel_rfl) (by kernel_rfl) (fun _ _ _ h => h) (Or.inl ⟨by rfl, ?_⟩) hHeld ?_
        rotate_left
        · (intro w' hSw; (try dsimp only at hSw); go_split_ands; go_simp; first | done | with_reducible rfl)
        try simp only [Act.put, List.setIfInBounds_toArray, List.set_cons_zero, List.set_cons_succ]
        refine wpAnyH_take (i := 1) (oi := { dst := some 24, op := Op.fieldAddr 34 (Operand.tmp 8) 0, type := 0, pos := "labels.go:122", after := #[], guard := none }) (v := ?_) rfl (by kernel_rfl) (by kernel_rfl) (by kernel_rfl) (fun _ _ _ h => h) (Or.inl ⟨by rfl, ?_⟩) hHeld ?_
        rotate_left
        · (intro w' hSw; (try dsimp only at hSw); go_split_ands; go_simp; first | done | with_reducible rfl)
        try simp only [Act.put, List.setIfInBounds_toArray, List.set_cons_zero, List.set_cons_succ]
        refine wpAnyH_take (i := 2) (oi := { dst := some 25, op := Op.load 9 (Operand.tmp 24), type := 9, pos := "labels.go:122", after := #[{ on := 1, ground := Ground.data }], guard := none }) (v := ?_) rfl (by kernel_rfl) (by kernel_rfl) (by kernel_rfl) (fun _ _ _ h => h) (Or.inl ⟨by rfl, ?_⟩) hHeld ?_
        rotate_left
        · (intro w' hSw; (try dsimp only at hSw); go_split_ands; go_simp; first | done | with_reducible rfl)
        try simp only [Act.put, List.setIfInBounds_toArray, List.set_cons_zero, List.set_cons_succ]
        refine wpAnyH_take (i := 4) (oi := { dst := some 27, op := Op.fieldAddr 34 (Operand.tmp 8) 1, type := 0, pos := "labels.go:122", after := #[], guard := none }) (v := ?_) rfl (by kernel_rfl) (by kernel_rfl) (by kernel_rfl) (fun _ _ _ h => h) (Or.inl ⟨by rfl, ?_⟩) hHeld ?_
        rotate_left
        · (intro w' hSw; (try dsimp only at hSw); go_split_ands; go_simp; first | done | with_reducible rfl)
        try simp only [Act.put, List.setIfInBounds_toArray, List.set_cons_zero, List.set_cons_succ]
        refine wpAnyH_take (i := 5) (oi := { dst := some 28, op := Op.load 9 (Operand.tmp 27), type := 9, pos := "labels.go:122", after := #[{ on := 4, ground := Ground.data }], guard := none }) (v := ?_) rfl (by kernel_rfl) (by kernel_rfl) (by kernel_rfl) (fun _ _ _ h => h) (Or.inl ⟨by rfl, ?_⟩) hHeld ?_
        rotate_left
        · (intro w' hSw; (try dsimp only at hSw); go_split_ands; go_simp; first | done | with_reducible rfl)
        try simp only [Act.put, List.setIfInBounds_toArray, List.set_cons_zero, List.set_cons_succ]
        refine wpAnyH_ready (rs := [3]) (by kernel_rfl) (by simp) ?_
        refine AllReadyH.cons (o := { dst := some 26, op := Op.call { callee := Callee.value (Operand.func 40), args := #[Operand.tmp 23, Operand.tmp 25], argTypes := #[35, 9] }, type := 35, pos := "labels.go:122", after := #[{ on := 0, ground := Ground.data }, { on := 2, ground := Ground.data }], guard := none }) rfl (fun K hK => ?_) AllReadyH.nil
        go_simp
        refine (escape_any w2.heap.size u6 X x1 (W1.drewN 1) (show OwnB (W1.drewN 1) _ _ _ from hownW) (show w2.heap.size ≤ W1.heap.size from by omega) (by omega) H1.out).mono ?_
        rintro en wa ⟨v1, rfl, hown1, hon1⟩
        have hsa : W1.heap.size ≤ wa.heap.size := hon1.size
        go_wp2_with fail
        refine hK.out _ _ ?_ ?_
        · (exact ⟨(onto_cell hon1 hWs hne).trans f0, (onto_cell hon1 hWs hne).trans f1⟩)
        clear hK K hHeld; intro hHeld
        try simp only [Act.put, List.setIfInBounds_toArray, List.set_cons_zero, List.set_cons_succ]
        refine wpAnyH_ready (rs := [6]) (by kernel_rfl) (by simp) ?_
        refine AllReadyH.cons (o := { dst := some 29, op := Op.call { callee := Callee.value (Operand.func 40), args := #[Operand.tmp 26, Operand.tmp 28], argTypes := #[35, 9] }, type := 35, pos := "labels.go:122", after := #[{ on := 3, ground := Ground.data }, { on := 5, ground := Ground.data }, { on := 3, ground := Ground.chain }], guard := none }) rfl (fun K hK => ?_) AllReadyH.nil
        go_simp
        refine (escape_any w2.heap.size v1 _ x2 wa hown1 (by omega) (by rw [List.length_append]; have := L1.out; omega) H2.out).mono ?_
        rintro en wb ⟨v2, rfl, hown2, hon2⟩
        go_wp2_with fail
        refine hK.out _ _ ?_ ?_
        · (exact ⟨(onto_cell (hon1.trans hon2) hWs hne).trans f0, (onto_cell (hon1.trans hon2) hWs hne).trans f1⟩)
        clear hK K hHeld; intro hHeld
        try simp only [Act.put, List.setIfInBounds_toArray, List.set_cons_zero, List.set_cons_succ]
        refine wpAnyH_take (i := 7) (oi := { dst := some 6, op := Op.assign (Operand.tmp 29), type := 35, pos := "labels.go:122", after := #[{ on := 6, ground := Ground.data }, { on := 6, ground := Ground.chain }, { on := 0, ground := Ground.phase }, { on := 1, ground := Ground.phase }, { on := 2, ground := Ground.phase }, { on := 3, ground := Ground.phase }, { on := 4, ground := Ground.phase }, { on := 5, ground := Ground.phase }, { on := 6, ground := Ground.phase }], guard := none }) (v := ?_) rfl (by kernel_rfl) (by kernel_rfl) (by kernel_rfl) (fun _ _ _ h => h) (Or.inl ⟨by rfl, ?_⟩) hHeld ?_
        rotate_left
        · (intro w' hSw; (try dsimp only at hSw); go_split_ands; go_simp; first | done | with_reducible rfl)
        try simp only [Act.put, List.setIfInBounds_toArray, List.set_cons_zero, List.set_cons_succ]
        refine wpAnyH_done (by kernel_rfl) ?_ _
        refine NoPanic.normal ?_
        go_wp2
        go_roundg (n - (k + 1))
        case measure => omega
        case rel => exact ⟨k + 1, by omega, by go_num, by rw [HTK.out]; exact hown2, by rw [HTK.out, List.length_append, List.length_append]; have := L1.out; have := L2.out; omega, hbr.trans ((hW.mono hsr).trans (below_undrew (show Below _ W1.drew wb from (hon1.trans hon2).below (show w2.heap.size ≤ W1.heap.size from by omega) hblk)))⟩
      · have hkn : k = n := by omega
        have htk : m.take k = m := List.take_of_length_le (by have := HML.out; omega)
        rw [htk] at hown
        clear htk hle
        subst hkn
        go_wp2
        go_ret2
        exact ⟨u6, 0, rfl, hB.trans (hbr.mono hB2), .inl ⟨HMAY.out, rfl, by rw [HM.out]; exact hown.base_le hB2⟩⟩
  · clear hn
    go_wp2
    go_ret2
    exact ⟨_, 70, rfl, hB, .inr ⟨hno, rfl, rfl⟩⟩

set_option maxRecDepth 100000 in
set_option maxHeartbeats 1600000 in
theorem RefMarshal_any (A : Option Addr) (n c : Nat) (ls : List Lb) (hn : ls.length = n) (w : World) (hS : Sees w w.heap.size A (lv ls)) (hlen : n ≤ 1099511627776) (hsz : ∀ x ∈ ls, x.1.size ≤ 9223372036854775807) :
    Calls Tryd.prog 22 #[.slice A n c] w (MarshOut w ls) := by
  have hC := Lib.hid (RefCanon_any A n c ls hn w hS hlen hsz)
  clear hS hsz
  go_enter Tryd.func22, Tryd.ntmps22
  go_wp2_with fail
  refine hC.out.mono ?_
  rintro en w2 ⟨v, kk, rfl, hB, hres⟩
  clear hC
  rcases hres with ⟨hmay, rfl, hown⟩ | ⟨hno, rfl, rfl⟩
  · obtain ⟨m, hm⟩ : ∃ m, sortN ls = m := ⟨_, rfl⟩
    have hmm : MayL m := hm ▸ hmay.sort
    have hml : m.length = n := by rw [← hm, sortN_length, hn]
    have HM := Lib.hid hm
    rw [hm] at hown
    have HMAY := Lib.hid hmay
    have HMM := Lib.hid hmm
    have HML := Lib.hid hml
    have hn6 : n ≤ 6 := hml ▸ hmm.few
    have hB2 := hB.size
    obtain ⟨A2, c2, he, -, -, hS2⟩ := hown.open_
    rw [hml] at he
    subst he
    clear hm hmay hmm hml hown hn
    go_wp2_with fail
    go_loopg [6, 7] n (fun g b i wr => ∃ k : Nat, k + g = n ∧ i = .int .i64 k ∧ OwnB wr w2.heap.size b (marsh (m.take k)) ∧ (marsh (m.take k)).length ≤ 100 * k ∧ Below w2.heap.size w2 wr)
    case atStart => exact ⟨0, by omega, rfl, OwnB.nil _ _, by simp [marsh], Below.refl _ _⟩
    case round =>
      obtain ⟨k, hk, rfl, hown, hle, hbr⟩ := hrel
      have hsr := hbr.size
      by_cases hlt : k < n
      · have hkm : k < m.length := by have := HML.out; omega
        have hadl := (hS2.below hbr).lb (k := k) hkm
        obtain ⟨ad, rfl, hadB, hc0, hc1⟩ := hadl
        have hsz := okL_size (HMM.out.ok _ (List.getElem_mem hkm))
        have htk := marsh_take hkm
        generalize m[k] = x at hc0 hc1 hsz htk
        generalize marsh (m.take k) = X at hown hle htk
        obtain ⟨x1, x2⟩ := x
        have HTK := Lib.hid htk
        have h1 : x1.size ≤ 1099511627776 := by have := hsz.2.1; simp only at this; omega
        have h2 : x2.size ≤ 1099511627776 := by have := hsz.2.2.2; simp only at this; omega
        have l1 : (esc x1.data.toList).length ≤ 25 := by have := esc_len x1.data.toList; have h3 : x1.size ≤ 12 := hsz.2.1; simp only [Array.length_toList] at this; have : x1.data.size = x1.size := rfl; omega
        have l2 : (esc x2.data.toList).length ≤ 33 := by have := esc_len x2.data.toList; have h3 : x2.size ≤ 16 := hsz.2.2.2; simp only [Array.length_toList] at this; have : x2.data.size = x2.size := rfl; omega
        have hC1 := Lib.hid (RefEscape_any x1 wr h1)
        have hC2 := fun W => Lib.hid (RefEscape_any x2 W h2)
        generalize esc x1.data.toList = E1 at hC1 HTK l1
        generalize esc x2.data.toList = E2 at hC2 HTK l2
        have kn : (k : Int) < (n : Int) := by omega
        clear htk hsz h1 h2
        go_wp2_with fail
        refine hC1.out.mono ?_
        rintro en wa ⟨va, rfl, howna, hona⟩
        have hba : Below wr.heap.size wr wa := hona.below_nil
        obtain ⟨Aa, ca, rfl, -, -, -, hsa⟩ := howna.open_
        have howna' := hown.below hba
        have hsea := hba.size
        clear hC1
        go_wp2_with (at_builtin; refine wpList_append_b rfl (.tmp 22) (.tmp 28) rfl w2.heap.size u6 X (by rfl) howna' wa.heap.size Aa E1.length ca E1 (by rfl) rfl hsa (by omega) (by omega) ?_; intro vb wb hownb honb; have hbb : Below w2.heap.size wr wb := (hba.mono hsr).trans (honb.below (by omega) hown.block); have hd1 := (hbb.cell (p := ⟨(ad.add (k * 2)).block, (ad.add (k * 2)).off + 1, none⟩) (by rw [add_block]; exact hadB)).trans hc1)
        refine (hC2 _).out.mono ?_
        rintro en wc ⟨vc, rfl, hownc, honc⟩
        have hbc : Below wb.heap.size wb wc := honc.below_nil
        obtain ⟨Ac, cc, rfl, -, -, -, hsc⟩ := hownc.open_
        have hownc' := hownb.below hbc
        have hsec := hbc.size
        have hseb := hbb.size
        go_wp2_with (at_builtin; refine wpList_append_b rfl (.tmp 30) (.tmp 36) rfl w2.heap.size vb (X ++ E1) (by rfl) hownc' wc.heap.size Ac E2.length cc E2 (by rfl) rfl hsc (by rw [List.length_append]; omega) (by omega) ?_; intro vd wd hownd hond)
        go_roundg (n - (k + 1))
        case measure => omega
        case rel => exact ⟨k + 1, by omega, by go_num, by rw [HTK.out]; exact hownd, by rw [HTK.out, List.length_append, List.length_append]; omega, hbr.trans (hbb.trans ((hbc.mono (by omega)).trans (hond.below (by omega) hownb.block)))⟩
      · have hkn : k = n := by omega
        have htk : m.take k = m := List.take_of_length_le (by have := HML.out; omega)
        rw [htk] at hown
        clear htk hle
        subst hkn
        go_wp2
        go_ret2
        exact ⟨u6, 0, rfl, hB.trans (hbr.mono hB2), .inl ⟨HMAY.out, rfl, by rw [HM.out]; exact hown.base_le hB2⟩⟩
  · clear hn
    go_wp2
    go_ret2
    exact ⟨_, 70, rfl, hB, .inr ⟨hno, rfl, rfl⟩⟩
end Go.Proofs.YtbgnmojdkhlbaaaDoor
