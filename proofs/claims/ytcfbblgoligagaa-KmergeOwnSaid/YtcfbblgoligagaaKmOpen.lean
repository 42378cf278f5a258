/-
  Several texts in one: Open OpenB OpenR OpenI.
-/
import Derived.Test.YtcfbblgoligagaaRows
import Derived.WalkKit
import Derived.ProofKit
import Derived.OpenShut
import Derived.Below
import Derived.Test.YtcfbblgoligagaaBase
import Derived.Test.YtcfbblgoligagaaPlain
import Derived.Test.YtcfbblgoligagaaWords
import Derived.Deep.Slices
import Derived.Test.YtcfbblgoligagaaKmAw
import Derived.Test.YtcfbblgoligagaaKmRef
/-
  From a walk to a law's row: what is alike for every law.
-/
namespace Go.Proofs.Ytcfbblgoligagaa
open Go.RowKit Go.WideShapes Go.ChangeShapes Go.ChangeAt

theorem Try.own : ownKnob Try.prog.godebug = none := by kernel_rfl
theorem Try.laidOut : laidOutB Try.prog = true := by kernel_rfl

section
variable {H : Type} {enc : TypeId × Value → H} {P : Program}
theorem post_of_below {f : Func} {s : ChangeSpec} {apart fresh handsOn again : Bool} {W W' : World} {args : Array Value} {v : Value} {ds gs : List (DataW H)} {before pa pv : List MemPlace}
    (hW : DataW.Whole enc P f.params.toList s.vars apart W args.toList ds gs before)
    (hres : ∀ (b : Nat) (sp : Nat → Bool) (hd : Bool), DataW.TrodAll enc P W' b sp hd f.resultTypes.toList (v.resultList f.resultTypes.size) (s.fn H (ds ++ gs)).results [])
    (hargs : ∀ sp : Nat → Bool, (∀ p ∈ before, sp p.block = true) → DataW.TrodAll enc P W' 0 sp true f.params.toList args.toList (s.fn H (ds ++ gs)).args pa)
    (hvars : ∀ sp : Nat → Bool, (∀ p ∈ before, sp p.block = true) → DataW.TrodVars enc P W' sp s.vars (s.fn H (ds ++ gs)).vars pv)
    (hps : before = pa ++ pv) (hb : Below W.heap.size W W')
    (hok : ∀ (j : Nat) (t : TypeId) (r : Value), f.resultTypes[j]? = some t → (v.resultList f.resultTypes.size)[j]? = some r → Value.okWide P W' .any 0 t r) :
    s.post enc P f apart fresh handsOn again W args v W' := by
  have hlt : ∀ p ∈ before, p.block < W.heap.size := fun p hp => hW.lt p hp
  have hold : ∀ p ∈ before, (fun b => decide (b < W.heap.size)) p.block = true := fun p hp => by simpa using hlt p hp
  refine ⟨ds, gs, before, [], pa, pv, hW, hres _ _ _, hargs _ hold, hvars _ hold, World.keptBut_mono (fun p hp => ⟨hp, ?_⟩) (hb.frame (· ∈ before)), fun _ => ?_⟩
  · rw [hps, List.mem_append] at hp
    exact Or.inr hp
  · obtain ⟨_, _, _, _, _, hz, hn⟩ := hW
    refine ⟨hok, _, _, ([] ++ pa) ++ pv, ⟨[] ++ pa, pv, trodAll_append (hargs _ (fun _ _ => rfl)) (hres _ _ _), hvars _ (fun _ _ => rfl), rfl, ?_, ?_⟩, ?_⟩
    · intro b off hp
      have hin : MemPlace.cell b off ∈ before := by rw [hps]; simpa using hp
      rw [hb.frozen (hlt _ hin)]
      exact hz b off hin
    · intro ha
      have := hn ha
      rw [hps] at this
      simpa using this
    · intro p hp _
      rw [hps]
      simpa using hp
end

/-- Readings of arguments below which nothing has turned stay. -/
theorem trodAll_stays {H : Type} {enc : TypeId × Value → H} {P : Program} (hl : laidOutB P = true) {W W' : World} (hb : Below W.heap.size W W') (sp : Nat → Bool) :
    ∀ (ts : List TypeId) (vs : List Value) (ds : List (DataW H)) (ps : List MemPlace), (∀ t ∈ ts, P.readableRec t = true ∧ t < P.types.size) → DataW.TrodAll enc P W 0 (fun _ => true) true ts vs ds ps →
      (∀ p ∈ ps, p.block < W.heap.size) → (∀ p ∈ ps, sp p.block = true) → DataW.TrodAll enc P W' 0 sp true ts vs ds ps := by
  intro ts
  induction ts with
  | nil =>
    intro vs ds ps _ h _ _
    cases vs <;> cases ds <;> first | exact h | exact h.elim
  | cons t ts ih =>
    intro vs ds ps hr h hlt hsp
    cases vs with
    | nil => exact h.elim
    | cons v vs =>
      cases ds with
      | nil => exact h.elim
      | cons d ds =>
        obtain ⟨p, q, h1, h2, rfl⟩ := h
        refine ⟨p, q, WideElems.Trod_stays hl (hr t (by simp)).1 (hr t (by simp)).2 h1 (fun x hx => hb.same (hlt x (by simp [hx]))) (fun x hx => hsp x (by simp [hx])), ?_, rfl⟩
        exact ih vs ds q (fun t ht => hr t (by simp [ht])) h2 (fun x hx => hlt x (by simp [hx])) (fun x hx => hsp x (by simp [hx]))

set_option maxRecDepth 100000 in
/-- A law's post, out of its walk: true; nothing that was there has turned. -/
theorem post_true {H : Type} {enc : TypeId × Value → H} {f : Func} {s : ChangeSpec} {apart fresh handsOn again : Bool} {W W' : World} {args : Array Value} {ds gs : List (DataW H)} {before : List MemPlace}
    (hvars : s.vars = []) (hfn : ∀ ds' : List (DataW H), ds'.length = f.params.size → (s.fn H ds').results = [.lit (.bool true)] ∧ (s.fn H ds').args = ds' ∧ (s.fn H ds').vars = []) (hres : f.resultTypes = #[4])
    (hread : ∀ t ∈ f.params.toList, Try.prog.readableRec t = true ∧ t < Try.prog.types.size)
    (hW : DataW.Whole enc Try.prog f.params.toList s.vars apart W args.toList ds gs before) (hb : Below W.heap.size W W') (hlen : ds.length = f.params.size) :
    s.post enc Try.prog f apart fresh handsOn again W args (.bool true) W' := by
  have hW' := hW
  obtain ⟨p, q, hA, hV, hpq, hfz, hnd⟩ := hW
  rw [hvars] at hV
  obtain ⟨rfl, rfl⟩ := trodVars_none hV
  obtain ⟨h1, h2, h3⟩ := hfn (ds ++ []) (by simpa using hlen)
  refine post_of_below (pa := p) (pv := []) hW' (fun b sp hd => ?_) (fun sp hsp => ?_) (fun sp hsp => ?_) (by simpa using hpq) hb ?_
  · rw [h1, hres]
    exact trodAll_mk1 (shut_bool Try.underlying4 true)
  · rw [h2, List.append_nil]
    exact trodAll_stays Try.laidOut hb sp _ _ _ _ hread hA (fun x hx => hW'.lt x (by rw [hpq]; simp [hx])) (fun x hx => hsp x (by rw [hpq]; simp [hx]))
  · rw [h3, hvars]
    rfl
  · exact ok_one hres rfl (okWide_bool_mk Try.underlying4 true)


theorem bounds_i64 {n : Int} (h : (Lit.int .i64 n).wf = true) : -9223372036854775808 ≤ n ∧ n ≤ 9223372036854775807 := by
  simpa [Lit.wf, IntKind.min, IntKind.max, IntKind.signed, IntKind.bits] using h
end Go.Proofs.Ytcfbblgoligagaa

/-
  A slice of bytes, and a byte, among a law's parameters, opened.
-/
namespace Go.Proofs.Ytcfbblgoligagaa
open Go.RowKit Go.WideShapes Go.ChangeShapes Go.ChangeAt
set_option maxRecDepth 100000

theorem Try.cellsB : Try.prog.cellsOf 5 = 1 := by kernel_rfl
theorem byte_of {n : Int} (h : (Lit.int .u8 n).wf = true) : ∃ b : UInt8, n = (b.toNat : Int) := by
  have hr : 0 ≤ n ∧ n ≤ 255 := by simpa [Lit.wf, IntKind.min, IntKind.max, IntKind.signed, IntKind.bits] using h
  exact ⟨UInt8.ofNat n.toNat, by rw [toNat_ofNat8]; omega⟩

/-- A slice of bytes, opened. -/
theorem bytes_of_trod {H : Type} {enc : TypeId × Value → H} {W : World} {sp : Nat → Bool} {v : Value} {fuel : Nat} {x : DataW H × List MemPlace} (hsp : ∀ b, sp b = true)
    (hf : DataW.trod enc Try.prog W 0 sp true fuel 41 [v] = some x) : ∃ A n c l, v = .slice A n c ∧ l.length = n ∧ n ≤ c ∧ n ≤ maxLen ∧ Sees W W.heap.size A (bv l) := by
  rcases open_ints Try.underlying41 Try.underlying5 Try.cellsB hf with ⟨hcs, hx⟩ | ⟨a', n, c, zs, hcs, _, hl, hm, hz, hx, hc, hw⟩
  · simp at hcs
    subst hcs
    exact ⟨none, 0, 0, [], rfl, rfl, Nat.le_refl _, by simp [maxLen], ⟨.inl rfl⟩⟩
  · simp at hcs
    subst hcs
    have hzl : zs.length = c := by rw [hsp] at hz; simpa using hz
    refine ⟨some a', n, c, (zs.take n).map (fun z => UInt8.ofNat z.toNat), rfl, by simp; omega, hl, by omega, ?_⟩
    have hb : bv ((zs.take n).map (fun z => UInt8.ofNat z.toNat)) = (zs.take n).map (Value.int .u8) := by
      unfold bv
      rw [List.map_map]
      refine List.map_congr_left fun z hzm => ?_
      have hwf := hw z (List.mem_of_mem_take hzm)
      have hr : 0 ≤ z ∧ z ≤ 255 := by simpa [Lit.wf, IntKind.min, IntKind.max, IntKind.signed, IntKind.bits] using hwf
      simp
      omega
    rw [hb]
    by_cases h0 : n = 0
    · subst h0; exact ⟨.inl (by simp)⟩
    · refine ⟨.inr ⟨a', rfl, ?_, fun j u hu => ?_⟩⟩
      · have := World.block_lt_of_cell? W _ (hc 0 (by omega))
        rwa [add_block] at this
      · have hj : j < n := by
          rcases Nat.lt_or_ge j n with h | h
          · exact h
          · rw [List.getElem?_eq_none (by simp; omega)] at hu; cases hu
        rw [hc j (by omega)]
        rw [List.getElem?_map, List.getElem?_take, if_pos hj] at hu
        rw [List.getD_eq_getElem?_getD]
        cases hzj : zs[j]? with
        | none => rw [hzj] at hu; cases hu
        | some z => rw [hzj] at hu; simpa using hu
theorem open_bytes {H : Type} {enc : TypeId × Value → H} {W : World} {base : Nat} {v : Value} {d : DataW H} {p : List MemPlace} (hval : Value.okWide Try.prog W .any base 41 v)
    (h : DataW.Trod enc Try.prog W 0 (fun _ => true) true 41 v d p) : ∃ A n c l, v = .slice A n c ∧ l.length = n ∧ n ≤ c ∧ n ≤ maxLen ∧ Sees W W.heap.size A (bv l) := by
  obtain ⟨a, n, c, rfl⟩ := okWide_slice Try.underlying41 hval
  obtain ⟨fuel, hf⟩ := h
  exact bytes_of_trod (fun _ => rfl) (by simpa [Value.cells] using hf)

end Go.Proofs.Ytcfbblgoligagaa

/-
  A slice of slices of bytes among a law's parameters, opened.
-/
namespace Go.Proofs.Ytcfbblgoligagaa
open Go.RowKit Go.WideShapes Go.ChangeShapes Go.ChangeAt
set_option maxRecDepth 100000

theorem Try.cellsS : Try.prog.cellsOf 41 = 1 := by kernel_rfl

theorem list_of {α : Type} (n : Nat) (p : Nat → α → Prop) (h : ∀ i, i < n → ∃ x, p i x) : ∃ l : List α, l.length = n ∧ ∀ i (hi : i < l.length), p i l[i] := by
  induction n with
  | zero => exact ⟨[], rfl, fun i hi => absurd hi (by simp)⟩
  | succ n ih =>
    obtain ⟨l, hl, hp⟩ := ih fun i hi => h i (by omega)
    obtain ⟨x, hx⟩ := h n (by omega)
    refine ⟨l ++ [x], by simp [hl], fun i hi => ?_⟩
    by_cases hin : i < l.length
    · rw [List.getElem_append_left hin]
      exact hp i hin
    · have hie : i = l.length := by simp at hi; omega
      subst hie
      rw [List.getElem_append_right (Nat.le_refl _)]
      simpa [hl] using hx

theorem open_rows {H : Type} {enc : TypeId × Value → H} {W : World} {base : Nat} {v : Value} {d : DataW H} {p : List MemPlace} (hval : Value.okWide Try.prog W .any base 26 v)
    (h : DataW.Trod enc Try.prog W 0 (fun _ => true) true 26 v d p) : ∃ A n c ls, v = .slice A n c ∧ ls.length = n ∧ n ≤ c ∧ Sees2 W W.heap.size A ls := by
  obtain ⟨a, n, c, rfl⟩ := okWide_slice Try.underlying26 hval
  obtain ⟨fuel, hf⟩ := h
  rcases Go.Deep.open_slice Try.underlying26 hf with ⟨hcs, hx⟩ | ⟨a', len, cap, m, k, D, Pl, hcs, hb, hl, hm, hmm, hx, hi⟩
  · simp [Value.cells] at hcs
    obtain ⟨rfl, rfl, rfl⟩ := hcs
    exact ⟨none, 0, 0, [], rfl, rfl, Nat.le_refl _, ⟨fun i hi => absurd hi (by simp)⟩⟩
  · simp [Value.cells] at hcs
    obtain ⟨rfl, rfl, rfl⟩ := hcs
    have hmc : m = c := by simpa using hmm
    have each : ∀ i, i < n → ∃ l : List UInt8, ∃ Ai ci, a'.block < W.heap.size ∧ W.cell? (a'.add i) = some (.slice Ai l.length ci) ∧ l.length ≤ ci ∧ Sees W W.heap.size Ai (bv l) := by
      intro i hin
      obtain ⟨cs', hc, ht⟩ := hi i (by omega)
      rw [Try.cellsS, Nat.mul_one] at hc
      obtain ⟨_, hcl, hat⟩ := World.cells?_some hc
      match cs', hcl with
      | [u], _ =>
        have h0 := hat 0 (by omega)
        rw [add_add', Nat.add_zero] at h0
        obtain ⟨Ai, ni, ci, l, rfl, hln, hlc, -, hs⟩ := bytes_of_trod (fun _ => rfl) ht
        subst hln
        have hblk := World.block_lt_of_cell? W _ h0
        rw [add_block] at hblk
        exact ⟨l, Ai, ci, hblk, h0, hlc, hs⟩
    obtain ⟨ls, hls, hp⟩ := list_of n _ each
    refine ⟨some a', n, c, ls, rfl, hls, hl, ⟨fun i hi => ?_⟩⟩
    obtain ⟨Ai, ci, h1, h2, h3, h4⟩ := hp i hi
    exact ⟨a', Ai, ci, rfl, h1, h2, h3, h4⟩
end Go.Proofs.Ytcfbblgoligagaa

/-
  A slice of numbers, a slice of such, a slice of slices of slices of bytes among a law's parameters, opened.
-/
namespace Go.Proofs.Ytcfbblgoligagaa
open Go.RowKit Go.WideShapes Go.ChangeShapes Go.ChangeAt
set_option maxRecDepth 100000

theorem Try.cellsI : Try.prog.cellsOf 3 = 1 := by kernel_rfl
theorem Try.cellsII : Try.prog.cellsOf 30 = 1 := by kernel_rfl
theorem Try.cellsSS : Try.prog.cellsOf 26 = 1 := by kernel_rfl

theorem ints_of_trod {H : Type} {enc : TypeId × Value → H} {W : World} {sp : Nat → Bool} {v : Value} {fuel : Nat} {x : DataW H × List MemPlace} (hsp : ∀ b, sp b = true)
    (hf : DataW.trod enc Try.prog W 0 sp true fuel 30 [v] = some x) : ∃ A n c l, v = .slice A n c ∧ l.length = n ∧ n ≤ c ∧ Sees W W.heap.size A (KI.iv l) := by
  rcases open_ints Try.underlying30 Try.underlying3 Try.cellsI hf with ⟨hcs, hx⟩ | ⟨a', n, c, zs, hcs, _, hl, hm, hz, hx, hc, hw⟩
  · simp at hcs
    subst hcs
    exact ⟨none, 0, 0, [], rfl, rfl, Nat.le_refl _, ⟨.inl rfl⟩⟩
  · simp at hcs
    subst hcs
    have hzl : zs.length = c := by rw [hsp] at hz; simpa using hz
    refine ⟨some a', n, c, zs.take n, rfl, by simp; omega, hl, ?_⟩
    by_cases h0 : n = 0
    · subst h0; exact ⟨.inl (by simp [KI.iv])⟩
    · refine ⟨.inr ⟨a', rfl, ?_, fun j u hu => ?_⟩⟩
      · have := World.block_lt_of_cell? W _ (hc 0 (by omega))
        rwa [add_block] at this
      · have hj : j < n := by
          rcases Nat.lt_or_ge j n with h | h
          · exact h
          · rw [List.getElem?_eq_none (by simp [KI.iv]; omega)] at hu; cases hu
        rw [hc j (by omega)]
        unfold KI.iv at hu
        rw [List.getElem?_map, List.getElem?_take, if_pos hj] at hu
        rw [List.getD_eq_getElem?_getD]
        cases hzj : zs[j]? with
        | none => rw [hzj] at hu; cases hu
        | some z => rw [hzj] at hu; simpa [KI.val] using hu
theorem open_nums {H : Type} {enc : TypeId × Value → H} {W : World} {base : Nat} {v : Value} {d : DataW H} {p : List MemPlace} (hval : Value.okWide Try.prog W .any base 30 v)
    (h : DataW.Trod enc Try.prog W 0 (fun _ => true) true 30 v d p) : ∃ A n c l, v = .slice A n c ∧ l.length = n ∧ n ≤ c ∧ Sees W W.heap.size A (KI.iv l) := by
  obtain ⟨a, n, c, rfl⟩ := okWide_slice Try.underlying30 hval
  obtain ⟨fuel, hf⟩ := h
  exact ints_of_trod (fun _ => rfl) (by simpa [Value.cells] using hf)
theorem open_numrows {H : Type} {enc : TypeId × Value → H} {W : World} {base : Nat} {v : Value} {d : DataW H} {p : List MemPlace} (hval : Value.okWide Try.prog W .any base 29 v)
    (h : DataW.Trod enc Try.prog W 0 (fun _ => true) true 29 v d p) : ∃ A n c ls, v = .slice A n c ∧ ls.length = n ∧ n ≤ c ∧ KI.RowsIn (fun k => k < W.heap.size) W A ls := by
  obtain ⟨a, n, c, rfl⟩ := okWide_slice Try.underlying29 hval
  obtain ⟨fuel, hf⟩ := h
  rcases Go.Deep.open_slice Try.underlying29 hf with ⟨hcs, hx⟩ | ⟨a', len, cap, m, k, D, Pl, hcs, hb, hl, hm, hmm, hx, hi⟩
  · simp [Value.cells] at hcs
    obtain ⟨rfl, rfl, rfl⟩ := hcs
    exact ⟨none, 0, 0, [], rfl, rfl, Nat.le_refl _, ⟨fun i hi => absurd hi (by simp)⟩⟩
  · simp [Value.cells] at hcs
    obtain ⟨rfl, rfl, rfl⟩ := hcs
    have hmc : m = c := by simpa using hmm
    have each : ∀ i, i < n → ∃ l : List Int, ∃ Ai ci, a'.block < W.heap.size ∧ W.cell? (a'.add i) = some (.slice Ai l.length ci) ∧ l.length ≤ ci ∧ Sees W W.heap.size Ai (KI.iv l) := by
      intro i hin
      obtain ⟨cs', hc, ht⟩ := hi i (by omega)
      rw [Try.cellsII, Nat.mul_one] at hc
      obtain ⟨_, hcl, hat⟩ := World.cells?_some hc
      match cs', hcl with
      | [u], _ =>
        have h0 := hat 0 (by omega)
        rw [add_add', Nat.add_zero] at h0
        obtain ⟨Ai, ni, ci, l, rfl, hln, hlc, hs⟩ := ints_of_trod (fun _ => rfl) ht
        subst hln
        have hblk := World.block_lt_of_cell? W _ h0
        rw [add_block] at hblk
        exact ⟨l, Ai, ci, hblk, h0, hlc, hs⟩
    obtain ⟨ls, hls, hp⟩ := list_of n _ each
    refine ⟨some a', n, c, ls, rfl, hls, hl, ⟨fun i hi => ?_⟩⟩
    obtain ⟨Ai, ci, h1, h2, h3, h4⟩ := hp i hi
    exact ⟨a', Ai, ci, rfl, h1, h2, h3, h4.toM, fun x _ => ⟨trivial⟩⟩
theorem rows_of_trod {H : Type} {enc : TypeId × Value → H} {W : World} {v : Value} {fuel : Nat} {x : DataW H × List MemPlace}
    (hf : DataW.trod enc Try.prog W 0 (fun _ => true) true fuel 26 [v] = some x) : ∃ A n c ls, v = .slice A n c ∧ ls.length = n ∧ n ≤ c ∧ Sees2 W W.heap.size A ls := by
  rcases Go.Deep.open_slice Try.underlying26 hf with ⟨hcs, hx⟩ | ⟨a', len, cap, m, k, D, Pl, hcs, hb, hl, hm, hmm, hx, hi⟩
  · simp at hcs
    subst hcs
    exact ⟨none, 0, 0, [], rfl, rfl, Nat.le_refl _, ⟨fun i hi => absurd hi (by simp)⟩⟩
  · simp at hcs
    subst hcs
    have hmc : m = cap := by simpa using hmm
    have each : ∀ i, i < len → ∃ l : List UInt8, ∃ Ai ci, a'.block < W.heap.size ∧ W.cell? (a'.add i) = some (.slice Ai l.length ci) ∧ l.length ≤ ci ∧ Sees W W.heap.size Ai (bv l) := by
      intro i hin
      obtain ⟨cs', hc, ht⟩ := hi i (by omega)
      rw [Try.cellsS, Nat.mul_one] at hc
      obtain ⟨_, hcl, hat⟩ := World.cells?_some hc
      match cs', hcl with
      | [u], _ =>
        have h0 := hat 0 (by omega)
        rw [add_add', Nat.add_zero] at h0
        obtain ⟨Ai, ni, ci, l, rfl, hln, hlc, -, hs⟩ := bytes_of_trod (fun _ => rfl) ht
        subst hln
        have hblk := World.block_lt_of_cell? W _ h0
        rw [add_block] at hblk
        exact ⟨l, Ai, ci, hblk, h0, hlc, hs⟩
    obtain ⟨ls, hls, hp⟩ := list_of len _ each
    refine ⟨some a', len, cap, ls, rfl, hls, hl, ⟨fun i hi => ?_⟩⟩
    obtain ⟨Ai, ci, h1, h2, h3, h4⟩ := hp i hi
    exact ⟨a', Ai, ci, rfl, h1, h2, h3, h4⟩
theorem open_rows3 {H : Type} {enc : TypeId × Value → H} {W : World} {base : Nat} {v : Value} {d : DataW H} {p : List MemPlace} (hval : Value.okWide Try.prog W .any base 22 v)
    (h : DataW.Trod enc Try.prog W 0 (fun _ => true) true 22 v d p) : ∃ A n c ll, v = .slice A n c ∧ ll.length = n ∧ n ≤ c ∧ Sees3 W W.heap.size A ll := by
  obtain ⟨a, n, c, rfl⟩ := okWide_slice Try.underlying22 hval
  obtain ⟨fuel, hf⟩ := h
  rcases Go.Deep.open_slice Try.underlying22 hf with ⟨hcs, hx⟩ | ⟨a', len, cap, m, k, D, Pl, hcs, hb, hl, hm, hmm, hx, hi⟩
  · simp [Value.cells] at hcs
    obtain ⟨rfl, rfl, rfl⟩ := hcs
    exact ⟨none, 0, 0, [], rfl, rfl, Nat.le_refl _, ⟨fun i hi => absurd hi (by simp)⟩⟩
  · simp [Value.cells] at hcs
    obtain ⟨rfl, rfl, rfl⟩ := hcs
    have hmc : m = c := by simpa using hmm
    have each : ∀ i, i < n → ∃ l : List Item, ∃ Ai ci, a'.block < W.heap.size ∧ W.cell? (a'.add i) = some (.slice Ai l.length ci) ∧ l.length ≤ ci ∧ Sees2 W W.heap.size Ai l := by
      intro i hin
      obtain ⟨cs', hc, ht⟩ := hi i (by omega)
      rw [Try.cellsSS, Nat.mul_one] at hc
      obtain ⟨_, hcl, hat⟩ := World.cells?_some hc
      match cs', hcl with
      | [u], _ =>
        have h0 := hat 0 (by omega)
        rw [add_add', Nat.add_zero] at h0
        obtain ⟨Ai, ni, ci, l, rfl, hln, hlc, hs⟩ := rows_of_trod ht
        subst hln
        have hblk := World.block_lt_of_cell? W _ h0
        rw [add_block] at hblk
        exact ⟨l, Ai, ci, hblk, h0, hlc, hs⟩
    obtain ⟨ll, hls, hp⟩ := list_of n _ each
    refine ⟨some a', n, c, ll, rfl, hls, hl, ⟨fun i hi => ?_⟩⟩
    obtain ⟨Ai, ci, h1, h2, h3, h4⟩ := hp i hi
    exact ⟨a', Ai, ci, rfl, h1, h2, h3, h4⟩
end Go.Proofs.Ytcfbblgoligagaa
