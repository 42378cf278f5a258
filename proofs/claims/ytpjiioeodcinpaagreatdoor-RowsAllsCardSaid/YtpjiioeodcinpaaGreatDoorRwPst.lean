/-
  The memory that rows.Parse works in: what is right, what is left, the row.
-/
import Derived.Test.YtpjiioeodcinpaaGreatDoorRwClos
import Derived.Test.YtpjiioeodcinpaaGreatDoorRwComp
import Derived.Test.YtpjiioeodcinpaaGreatDoorLow
namespace Go.Proofs.YtpjiioeodcinpaaGreatDoor
open Go.RowKit

/-- The state: blocks Hr (the result), Ho (is it right), Hs (what is left), Hx (the row). -/
structure PSt (w0 : World) (Hr Ho Hs Hx : Nat) (W : World) (ok : Bool) (A : Option Addr) (n c : Nat) (r : List UInt8) (k d i : Int) (x1 x2 : ByteArray) (vl : Value) : Prop where
  bel : Below w0.heap.size w0 W
  ord : w0.heap.size ≤ Hr ∧ Hr < Ho ∧ Ho < Hs ∧ Hs < Hx ∧ Hx < W.heap.size
  okc : OneAt W Ho (.bool ok)
  rst : OneAt W Hs (.slice A n c)
  six : SixAt W Hx (.int .i64 k) vl (.string x1) (.string x2) (.int .i64 d) (.int .i64 i)
  res : SixAt W Hr (.int .i64 0) (.slice none 0 0) (.string ⟨#[]⟩) (.string ⟨#[]⟩) (.int .i64 0) (.int .i64 0)
  len : r.length = n
  cap : n ≤ c
  row : SeesM (fun j => (j < Hr ∨ Hx < j) ∧ j < W.heap.size) W A (bv r)
theorem SixAt.set_ne {w : World} {H : Nat} {v0 v1 v2 v3 v4 v5 : Value} (h : SixAt w H v0 v1 v2 v3 v4 v5) {p : Addr} (hp : p.block ≠ H) (u : Value) : SixAt (w.setCell p u) H v0 v1 v2 v3 v4 v5 := by
  obtain ⟨c0, c1, c2, c3, c4, c5, f0, f1, f2, f3, f4, f5⟩ := h
  obtain ⟨pb, po, pc⟩ := p
  simp only at hp
  constructor
  · rw [← c0]; simp [go_sem]
  · rw [← c1]; simp [go_sem]
  · rw [← c2]; simp [go_sem]
  · rw [← c3]; simp [go_sem]
  · rw [← c4]; simp [go_sem]
  · rw [← c5]; simp [go_sem]
  · rw [← f0]; simp [go_sem]
  · rw [← f1]; simp [go_sem]
  · rw [← f2]; simp [go_sem]
  · rw [← f3]; simp [go_sem]
  · rw [← f4]; simp [go_sem]
  · rw [← f5]; simp [go_sem]
theorem keep_set {m : Nat → Prop} (W : World) (p : Addr) (u : Value) (h : ¬ m p.block) : Kept m W (W.setCell p u) := fun j hj => Below.heap_setCell _ _ _ _ (fun e => h (by rw [e] at hj; exact hj))
section
variable {w0 W W' : World} {Hr Ho Hs Hx n c : Nat} {ok : Bool} {A : Option Addr} {r : List UInt8} {k d i : Int} {x1 x2 : ByteArray} {vl : Value}
theorem PSt.below (h : PSt w0 Hr Ho Hs Hx W ok A n c r k d i x1 x2 vl) (hb : Below W.heap.size W W') : PSt w0 Hr Ho Hs Hx W' ok A n c r k d i x1 x2 vl := by
  obtain ⟨o0, o1, o2, o3, o4⟩ := h.ord
  have hs := hb.size
  exact ⟨h.bel.trans (hb.mono h.bel.size), ⟨o0, o1, o2, o3, by omega⟩, h.okc.below hb (by omega), h.rst.below hb (by omega), h.six.below hb o4, h.res.below hb (by omega), h.len, h.cap,
    (h.row.keep (Kept.of_below hb fun j hj => hj.2)).mono fun j hj => ⟨hj.1, by have := hj.2; omega⟩⟩
theorem PSt.drewN (h : PSt w0 Hr Ho Hs Hx W ok A n c r k d i x1 x2 vl) (q : Nat) : PSt w0 Hr Ho Hs Hx (W.drewN q) ok A n c r k d i x1 x2 vl := h.below (below_d (Below.refl _ _) q)
theorem PSt.sees (h : PSt w0 Hr Ho Hs Hx W ok A n c r k d i x1 x2 vl) : Sees W W.heap.size A (bv r) := h.row.sees fun _ hj => hj.2
theorem size_set (w : World) (p : Addr) (u : Value) : (w.setCell p u).heap.size = w.heap.size := by simp
theorem PSt.setOk (h : PSt w0 Hr Ho Hs Hx W ok A n c r k d i x1 x2 vl) (b : Bool) : PSt w0 Hr Ho Hs Hx (W.setCell ⟨Ho, 0, none⟩ (.bool b)) b A n c r k d i x1 x2 vl := by
  obtain ⟨o0, o1, o2, o3, o4⟩ := h.ord
  exact ⟨h.bel.setCell (by show _ ≤ Ho; omega) _, ⟨o0, o1, o2, o3, by rw [size_set]; exact o4⟩, h.okc.set _, h.rst.set_ne (by show Ho ≠ Hs; omega) _, h.six.set_ne (by show Ho ≠ Hx; omega) _, h.res.set_ne (by show Ho ≠ Hr; omega) _, h.len, h.cap,
    by rw [size_set]; exact h.row.keep (keep_set W _ _ fun hj => by have h1 := hj.1; simp only at h1; omega)⟩
theorem PSt.setRest (h : PSt w0 Hr Ho Hs Hx W ok A n c r k d i x1 x2 vl) {A' : Option Addr} {n' c' : Nat} {r' : List UInt8} (hl : r'.length = n') (hc : n' ≤ c') (hr : SeesM (fun j => (j < Hr ∨ Hx < j) ∧ j < W.heap.size) W A' (bv r')) :
    PSt w0 Hr Ho Hs Hx (W.setCell ⟨Hs, 0, none⟩ (.slice A' n' c')) ok A' n' c' r' k d i x1 x2 vl := by
  obtain ⟨o0, o1, o2, o3, o4⟩ := h.ord
  exact ⟨h.bel.setCell (by show _ ≤ Hs; omega) _, ⟨o0, o1, o2, o3, by rw [size_set]; exact o4⟩, h.okc.set_ne (by show Hs ≠ Ho; omega) _, h.rst.set _, h.six.set_ne (by show Hs ≠ Hx; omega) _, h.res.set_ne (by show Hs ≠ Hr; omega) _, hl, hc,
    by rw [size_set]; exact hr.keep (keep_set W _ _ fun hj => by have h1 := hj.1; simp only at h1; omega)⟩
theorem PSt.setX (h : PSt w0 Hr Ho Hs Hx W ok A n c r k d i x1 x2 vl) {j : Nat} {u : Value} {k' d' i' : Int} {x1' x2' : ByteArray} {vl' : Value} (hs : SixAt (W.setCell ⟨Hx, j, none⟩ u) Hx (.int .i64 k') vl' (.string x1') (.string x2') (.int .i64 d') (.int .i64 i')) :
    PSt w0 Hr Ho Hs Hx (W.setCell ⟨Hx, j, none⟩ u) ok A n c r k' d' i' x1' x2' vl' := by
  obtain ⟨o0, o1, o2, o3, o4⟩ := h.ord
  exact ⟨h.bel.setCell (by show _ ≤ Hx; omega) _, ⟨o0, o1, o2, o3, by rw [size_set]; exact o4⟩, h.okc.set_ne (by show Hx ≠ Ho; omega) _, h.rst.set_ne (by show Hx ≠ Hs; omega) _, hs, h.res.set_ne (by show Hx ≠ Hr; omega) _, h.len, h.cap,
    by rw [size_set]; exact h.row.keep (keep_set W _ _ fun hj => by have h1 := hj.1; simp only at h1; omega)⟩
theorem seesM_cut {m : Nat → Prop} {xs : List Value} (h : SeesM m W A xs) {q cap : Nat} (hc : xs.length ≤ cap) : SeesM m W (if cap = q then A else A.map (fun x => x.add q)) (xs.drop q) := by
  rcases h.out with h | ⟨ad, e, h1, h2⟩
  · exact ⟨.inl (by rw [h]; simp)⟩
  · by_cases hq : cap = q
    · exact ⟨.inl (List.drop_eq_nil_of_le (by omega))⟩
    · rw [if_neg hq]
      refine ⟨.inr ⟨ad.add q, by rw [e]; rfl, by rw [add_block]; exact h1, fun j u hu => ?_⟩⟩
      rw [add_add']
      exact h2 _ u (by rw [← hu, List.getElem?_drop])
/-- take, in the state. -/
theorem PSt.take (h : PSt w0 Hr Ho Hs Hx W ok A n c r k d i x1 x2 vl) {e : Ending} (ht : TakeOut W Ho Hs A n c r e W') :
    ∃ (z : Nat) (ok' : Bool) (A' : Option Addr) (n' c' : Nat) (r' : List UInt8), e = .returned (.int .i64 (z : Nat)) ∧ n' ≤ n ∧ PSt w0 Hr Ho Hs Hx W' ok' A' n' c' r' k d i x1 x2 vl ∧ ((4 ≤ r.length ∧ z = num r ∧ ok' = ok ∧ r' = r.drop 4) ∨ (r.length < 4 ∧ ok' = false)) := by
  have hl := h.len
  have hc := h.cap
  rcases ht with ⟨h4, rfl, q, A', rfl, rfl⟩ | ⟨h4, rfl, rfl⟩
  · refine ⟨num r, ok, (if c = 4 then A else A.map fun x => x.add 4), n - 4, c - 4, r.drop 4, rfl, by omega, ?_, .inl ⟨by omega, rfl, rfl, rfl⟩⟩
    refine (h.drewN q).setRest (by rw [List.length_drop, hl]) (by omega) ?_
    rw [bv_drop]
    exact seesM_cut (h.drewN q).row (by rw [bv_length]; omega)
  · exact ⟨0, false, A, n, c, r, rfl, Nat.le_refl _, h.setOk false, .inr ⟨by omega, rfl⟩⟩
/-- text, in the state. -/
theorem PSt.text (h : PSt w0 Hr Ho Hs Hx W ok A n c r k d i x1 x2 vl) {e : Ending} (ht : TextOut W Ho Hs ok r e W') :
    ∃ (A' : Option Addr) (n' c' : Nat), e = .returned (.string (strOf (cutR r).1)) ∧ n' ≤ n ∧ PSt w0 Hr Ho Hs Hx W' (ok && decide ((cutR r).2.2 = 0)) A' n' c' (left r) k d i x1 x2 vl := by
  obtain ⟨W2, A', m, c', rfl, hb, hown, hm, hc, rfl⟩ := ht
  have hl := h.len
  have h2 := (h.below hb).setOk (ok && decide ((cutR r).2.2 = 0))
  have ho := h.ord
  refine ⟨A', m, c', rfl, ?_, h2.setRest hm.symm hc ?_⟩
  · have := left_len r; unfold left at this; omega
  · have h3 : SeesM (fun j => W.heap.size ≤ j ∧ j < W2.heap.size) W2 A' (bv (left r)) := ownB_seesM hown
    exact (h3.mono fun j hj => (⟨.inr (by omega), by rw [size_set]; exact hj.2⟩ : (j < Hr ∨ Hx < j) ∧ j < (W2.setCell ⟨Ho, 0, none⟩ (.bool (ok && decide ((cutR r).2.2 = 0)))).heap.size)) |>.keep (keep_set W2 _ _ fun hj => by have h1 := hj.1; simp only at h1; omega)
/-- Labels that the row's slice shows. -/
def LabAt (W : World) (Hr Hx : Nat) (vl : Value) (ls : List Lb) : Prop := ∃ A n c, vl = .slice A n c ∧ ls.length = n ∧ n ≤ c ∧ SeesM (fun j => (j < Hr ∨ Hx < j) ∧ j < W.heap.size) W A (lv ls)
theorem LabAt.nil (W : World) (Hr Hx : Nat) : LabAt W Hr Hx (.slice none 0 0) [] := ⟨none, 0, 0, rfl, rfl, Nat.le_refl _, ⟨.inl rfl⟩⟩
theorem LabAt.keep {ls : List Lb} (h : LabAt W Hr Hx vl ls) (hs : W.heap.size ≤ W'.heap.size) (hk : Kept (fun j => (j < Hr ∨ Hx < j) ∧ j < W.heap.size) W W') : LabAt W' Hr Hx vl ls := by
  obtain ⟨A, n, c, h1, h2, h3, h4⟩ := h
  exact ⟨A, n, c, h1, h2, h3, (h4.keep hk).mono fun j hj => ⟨hj.1, by have := hj.2; omega⟩⟩
theorem LabAt.set {ls : List Lb} (h : LabAt W Hr Hx vl ls) {p : Addr} (hp : Hr ≤ p.block ∧ p.block ≤ Hx) (u : Value) : LabAt (W.setCell p u) Hr Hx vl ls :=
  h.keep (by rw [size_set]; exact Nat.le_refl _) (keep_set W p u fun hj => by have h1 := hj.1; omega)
theorem LabAt.below {ls : List Lb} (h : LabAt W Hr Hx vl ls) (hb : Below W.heap.size W W') : LabAt W' Hr Hx vl ls := h.keep hb.size (Kept.of_below hb fun _ hj => hj.2)
theorem LabAt.take {ls : List Lb} (lab : LabAt W Hr Hx vl ls) {vx : Value} (h : PSt w0 Hr Ho Hs Hx W ok A n c r k d i x1 x2 vx) {e : Ending} (ht : TakeOut W Ho Hs A n c r e W') : LabAt W' Hr Hx vl ls := by
  have ho := h.ord
  rcases ht with ⟨-, -, q, A', rfl, -⟩ | ⟨-, -, rfl⟩
  · exact (lab.below (below_d (Below.refl _ _) q)).set ⟨by show Hr ≤ Hs; omega, by show Hs ≤ Hx; omega⟩ _
  · exact lab.set ⟨by show Hr ≤ Ho; omega, by show Ho ≤ Hx; omega⟩ _
theorem seesM_take {m : Nat → Prop} {l : List UInt8} (h : SeesM m W A (bv l)) (q : Nat) : SeesM m W A (bv (l.take q)) := by
  rw [bv_take]
  rcases h.out with h | ⟨ad, e, h1, h2⟩
  · exact ⟨.inl (by rw [h]; simp)⟩
  · refine ⟨.inr ⟨ad, e, h1, fun j u hu => h2 j u ?_⟩⟩
    rw [List.getElem?_take] at hu
    split at hu
    · exact hu
    · cases hu
/-- all, in the state. -/
theorem PSt.all (h : PSt w0 Hr Ho Hs Hx W ok A n c r k d i x1 x2 vl) {b : List UInt8} {e : Ending} (ht : AllOut W Ho ok b e W') :
    ∃ (v : Value) (ls : List Lb) (ok' : Bool), e = .returned v ∧ PSt w0 Hr Ho Hs Hx W' ok' A n c r k d i x1 x2 vl ∧ LabAt W' Hr Hx v ls ∧ ls.length ≤ 6 ∧ (∀ x ∈ ls, x.1.size ≤ 9223372036854775807) ∧ sortN ls = ls ∧
      ((parse b).2 = 0 → MayL (parse b).1 → sortN (parse b).1 = (parse b).1 → ok' = ok ∧ ls = (parse b).1) := by
  obtain ⟨W2, v, rfl, hb, ⟨r1, r2, r3, hown, rfl⟩ | ⟨hno, rfl, rfl⟩⟩ := ht
  · have ho := h.ord
    obtain ⟨A1, c1, rfl, h1, -, h2⟩ := hown.open_
    have hown' := hown
    refine ⟨_, (parse b).1, ok, rfl, (h.below hb).setOk ok, ?_, r2.few, fun x hx => by have := okL_size (r2.ok x hx); omega, r3, fun _ _ _ => ⟨rfl, rfl⟩⟩
    refine LabAt.set ⟨A1, _, c1, rfl, rfl, h1, ?_⟩ ⟨by show Hr ≤ Ho; omega, by show Ho ≤ Hx; omega⟩ _
    exact (ownL_seesM hown).mono fun j hj => ⟨.inr (by omega), hj.2⟩
  · exact ⟨_, [], false, rfl, (h.below hb).setOk false, LabAt.nil _ _ _, by simp, by simp, rfl, fun g1 g2 g3 => absurd ⟨g1, g2, g3⟩ hno⟩
where
  ownL_seesM {w : World} {base n c : Nat} {A : Option Addr} {l : List Lb} (h : OwnL w base (.slice A n c) l) : SeesM (fun k => base ≤ k ∧ k < w.heap.size) w A (lv l) := by
    rcases h.2 with ⟨h0, h1⟩ | ⟨g, cap, cur, hv, hg, hh, hcap, hm, hx⟩
    · refine ⟨.inl ?_⟩
      have := h.1
      rw [h1, Nat.zero_mul] at this
      exact List.eq_nil_of_length_eq_zero this
    · injection hv with hv
      exact ⟨.inr ⟨⟨g, 0, none⟩, hv, ⟨hg, (Array.getElem?_eq_some_iff.1 hh).1⟩, World.ownsRow.cells h (g := g) (by simp [Value.ownBlock, hv])⟩⟩
end
end Go.Proofs.YtpjiioeodcinpaaGreatDoor
