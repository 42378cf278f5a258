/-
  Several texts in one: Open Plain OpenB OpenG.
-/
import Derived.Test.YteidkmiladkoiaaGreatDoorRows
import Derived.WalkKit
import Derived.ProofKit
import Derived.OpenShut
import Derived.Below
import Derived.Test.YteidkmiladkoiaaGreatDoorZLow
import Derived.Deep.Slices
import Derived.Deep.Fields
import Derived.Lib.SmallJoins
import Derived.ChangeMaps5
import Derived.Test.YteidkmiladkoiaaGreatDoorZRsB
/-
  From a walk to a law's row: what is alike for every law.
-/
namespace Go.Proofs.YteidkmiladkoiaaGreatDoor
open Go.RowKit Go.WideShapes Go.ChangeShapes Go.ChangeAt

theorem Tryz.own : ownKnob Tryz.prog.godebug = none := by kernel_rfl
theorem Tryz.laidOut : laidOutB Tryz.prog = true := by kernel_rfl

section
variable {H : Type} {enc : TypeId × Value → H} {P : Program}
theorem post_of_below {f : Func} {s : ChangeSpec} {apart fresh handsOn again : Bool} {W W' : World} {args : Array Value} {v : Value} {ds gs : List (DataW H)} {before pa pv : List MemPlace}
    (hW : DataW.Whole enc P f.params.toList s.vars apart W args.toList ds gs before)
    (hres : ∀ (b : Nat) (sp : Nat → Bool) (hd : Bool), DataW.TrodAll enc P W' b sp hd f.resultTypes.toList (v.resultList f.resultTypes.size) (s.fn H (ds ++ gs)).results [])
    (hargs : ∀ sp : Nat → Bool, (∀ p ∈ before, sp p.block = true) → DataW.TrodAll enc P W' 0 sp true f.params.toList args.toList (s.fn H (ds ++ gs)).args pa)
    (hvars : ∀ sp : Nat → Bool, (∀ p ∈ before, sp p.block = true) → DataW.TrodVars enc P W' sp s.vars (s.fn H (ds ++ gs)).vars pv)
    (hps : before = pa ++ pv) (hb : Below W.heap.size W W')
    (hok : ∀ (j : Nat) (t : TypeId) (r : Value), f.resultTypes[j]? = some t → (v.resultList f.resultTypes.size)[j]? = some r → Value.okWide P W' .any 0 t r) :
    s.post enc P f apart fresh handsOn again W args v W' := by
  have hlt : ∀ p ∈ before, p.block < W.heap.size := fun p hp => hW.lt p hp
  have hold : ∀ p ∈ before, (fun b => decide (b < W.heap.size)) p.block = true := fun p hp => by simpa using hlt p hp
  refine ⟨ds, gs, before, [], pa, pv, hW, hres _ _ _, hargs _ hold, hvars _ hold, World.keptBut_mono (fun p hp => ⟨hp, ?_⟩) (hb.frame (· ∈ before)), fun _ => ?_⟩
  · rw [hps, List.mem_append] at hp
    exact Or.inr hp
  · obtain ⟨_, _, _, _, _, hz, hn⟩ := hW
    refine ⟨hok, _, _, ([] ++ pa) ++ pv, ⟨[] ++ pa, pv, trodAll_append (hargs _ (fun _ _ => rfl)) (hres _ _ _), hvars _ (fun _ _ => rfl), rfl, ?_, ?_⟩, ?_⟩
    · intro b off hp
      have hin : MemPlace.cell b off ∈ before := by rw [hps]; simpa using hp
      rw [hb.frozen (hlt _ hin)]
      exact hz b off hin
    · intro ha
      have := hn ha
      rw [hps] at this
      simpa using this
    · intro p hp _
      rw [hps]
      simpa using hp
end

/-- Readings of arguments below which nothing has turned stay. -/
theorem trodAll_stays {H : Type} {enc : TypeId × Value → H} {P : Program} (hl : laidOutB P = true) {W W' : World} (hb : Below W.heap.size W W') (sp : Nat → Bool) :
    ∀ (ts : List TypeId) (vs : List Value) (ds : List (DataW H)) (ps : List MemPlace), (∀ t ∈ ts, P.readableRec t = true ∧ t < P.types.size) → DataW.TrodAll enc P W 0 (fun _ => true) true ts vs ds ps →
      (∀ p ∈ ps, p.block < W.heap.size) → (∀ p ∈ ps, sp p.block = true) → DataW.TrodAll enc P W' 0 sp true ts vs ds ps := by
  intro ts
  induction ts with
  | nil =>
    intro vs ds ps _ h _ _
    cases vs <;> cases ds <;> first | exact h | exact h.elim
  | cons t ts ih =>
    intro vs ds ps hr h hlt hsp
    cases vs with
    | nil => exact h.elim
    | cons v vs =>
      cases ds with
      | nil => exact h.elim
      | cons d ds =>
        obtain ⟨p, q, h1, h2, rfl⟩ := h
        refine ⟨p, q, WideElems.Trod_stays hl (hr t (by simp)).1 (hr t (by simp)).2 h1 (fun x hx => hb.same (hlt x (by simp [hx]))) (fun x hx => hsp x (by simp [hx])), ?_, rfl⟩
        exact ih vs ds q (fun t ht => hr t (by simp [ht])) h2 (fun x hx => hlt x (by simp [hx])) (fun x hx => hsp x (by simp [hx]))

set_option maxRecDepth 100000 in
/-- A law's post, out of its walk: true; nothing that was there has turned. -/
theorem post_true {H : Type} {enc : TypeId × Value → H} {f : Func} {s : ChangeSpec} {apart fresh handsOn again : Bool} {W W' : World} {args : Array Value} {ds gs : List (DataW H)} {before : List MemPlace}
    (hvars : s.vars = []) (hfn : ∀ ds' : List (DataW H), ds'.length = f.params.size → (s.fn H ds').results = [.lit (.bool true)] ∧ (s.fn H ds').args = ds' ∧ (s.fn H ds').vars = []) (hres : f.resultTypes = #[4])
    (hread : ∀ t ∈ f.params.toList, Tryz.prog.readableRec t = true ∧ t < Tryz.prog.types.size)
    (hW : DataW.Whole enc Tryz.prog f.params.toList s.vars apart W args.toList ds gs before) (hb : Below W.heap.size W W') (hlen : ds.length = f.params.size) :
    s.post enc Tryz.prog f apart fresh handsOn again W args (.bool true) W' := by
  have hW' := hW
  obtain ⟨p, q, hA, hV, hpq, hfz, hnd⟩ := hW
  rw [hvars] at hV
  obtain ⟨rfl, rfl⟩ := trodVars_none hV
  obtain ⟨h1, h2, h3⟩ := hfn (ds ++ []) (by simpa using hlen)
  refine post_of_below (pa := p) (pv := []) hW' (fun b sp hd => ?_) (fun sp hsp => ?_) (fun sp hsp => ?_) (by simpa using hpq) hb ?_
  · rw [h1, hres]
    exact trodAll_mk1 (shut_bool Tryz.underlying4 true)
  · rw [h2, List.append_nil]
    exact trodAll_stays Tryz.laidOut hb sp _ _ _ _ hread hA (fun x hx => hW'.lt x (by rw [hpq]; simp [hx])) (fun x hx => hsp x (by rw [hpq]; simp [hx]))
  · rw [h3, hvars]
    rfl
  · exact ok_one hres rfl (okWide_bool_mk Tryz.underlying4 true)


theorem bounds_i64 {n : Int} (h : (Lit.int .i64 n).wf = true) : -9223372036854775808 ≤ n ∧ n ≤ 9223372036854775807 := by
  simpa [Lit.wf, IntKind.min, IntKind.max, IntKind.signed, IntKind.bits] using h
end Go.Proofs.YteidkmiladkoiaaGreatDoor

/-
  Plain facts on the numbers' bytes: no program in sight.
-/
namespace Go.Proofs.YteidkmiladkoiaaGreatDoor

/-- A number's bytes: seven bits a byte, the lowest first; the highest bit says that more follow. -/
def venc (u : Nat) : List UInt8 := if u < 128 then [UInt8.ofNat u] else UInt8.ofNat (u % 128 + 128) :: venc (u / 128)
termination_by u
decreasing_by omega

theorem venc_small {u : Nat} (h : u < 128) : venc u = [UInt8.ofNat u] := by rw [venc, if_pos h]
theorem venc_big {u : Nat} (h : 128 ≤ u) : venc u = UInt8.ofNat (u % 128 + 128) :: venc (u / 128) := by rw [venc, if_neg (by omega)]
theorem venc_len_aux : ∀ (n u : Nat), u < 128 ^ (n + 1) → (venc u).length ≤ n + 1 := by
  intro n
  induction n with
  | zero => intro u h; rw [venc_small (by omega)]; simp
  | succ n ih =>
    intro u h
    by_cases hu : u < 128
    · rw [venc_small hu]; simp
    · rw [venc_big (by omega)]
      have h2 : u / 128 < 128 ^ (n + 1) := by rw [Nat.div_lt_iff_lt_mul (by omega), ← Nat.pow_succ]; exact h
      have := ih _ h2
      simp only [List.length_cons]
      omega
/-- A number of 64 bits. -/
def Is64 (n : Nat) : Prop := n < 18446744073709551616
theorem Is64.div {n : Nat} (h : Is64 n) (k : Nat) : Is64 (n / k) := Nat.lt_of_le_of_lt (Nat.div_le_self _ _) h
theorem venc_len {u : Nat} (h : Is64 u) : (venc u).length ≤ 10 := venc_len_aux 9 u (by unfold Is64 at h; omega)
theorem venc_pos (u : Nat) : 0 < (venc u).length := by
  by_cases hu : u < 128
  · rw [venc_small hu]; simp
  · rw [venc_big (by omega)]; simp

theorem toNat_ofNat8 (n : Nat) : ((UInt8.ofNat n).toNat : Int) = (n : Int) % 256 := by simp

theorem u8_nat (n : Nat) (h : n < 256) : (UInt8.ofNat n).toNat = n := by simp; omega

/-- What bytes tell as a number: the number, how many bytes it has, the error. -/
def vtk : Nat → List UInt8 → Nat → Nat → Nat × Nat × Nat
  | 0, _, _, _ => (0, 0, 11)
  | _ + 1, [], _, _ => (0, 0, 10)
  | f + 1, c :: r, n, x =>
    if c.toNat < 128 then
      if (n = 9 ∧ 1 < c.toNat) ∨ (0 < n ∧ c.toNat = 0) then (0, 0, 11) else (x + c.toNat * 2 ^ (7 * n) % 18446744073709551616, n + 1, 0)
    else vtk f r (n + 1) (x + c.toNat % 128 * 2 ^ (7 * n) % 18446744073709551616)
def vtake (b : List UInt8) : Nat × Nat × Nat := vtk 10 b 0 0

theorem vtk_end (l : List UInt8) (k X : Nat) (hk : k < 10) (h : k = l.length) : vtk (10 - k) (l.drop k) k X = (0, 0, 10) := by
  rw [show 10 - k = (9 - k) + 1 from by omega, List.drop_eq_nil_of_le (by omega)]
  rfl
theorem vtk_at (l : List UInt8) (k X : Nat) (hk : k < 10) (h : k < l.length) : vtk (10 - k) (l.drop k) k X =
    if l[k].toNat < 128 then
      if (k = 9 ∧ 1 < l[k].toNat) ∨ (0 < k ∧ l[k].toNat = 0) then (0, 0, 11) else (X + l[k].toNat * 2 ^ (7 * k) % 18446744073709551616, k + 1, 0)
    else vtk (10 - (k + 1)) (l.drop (k + 1)) (k + 1) (X + l[k].toNat % 128 * 2 ^ (7 * k) % 18446744073709551616) := by
  rw [show 10 - k = (10 - (k + 1)) + 1 from by omega, List.drop_eq_getElem_cons h]
  rfl

end Go.Proofs.YteidkmiladkoiaaGreatDoor

/-
  A slice of bytes, and a byte, among a law's parameters, opened.
-/
namespace Go.Proofs.YteidkmiladkoiaaGreatDoor
open Go.RowKit Go.WideShapes Go.ChangeShapes Go.ChangeAt
set_option maxRecDepth 100000

theorem Tryz.cellsB : Tryz.prog.cellsOf 5 = 1 := by kernel_rfl
theorem byte_of {n : Int} (h : (Lit.int .u8 n).wf = true) : ∃ b : UInt8, n = (b.toNat : Int) := by
  have hr : 0 ≤ n ∧ n ≤ 255 := by simpa [Lit.wf, IntKind.min, IntKind.max, IntKind.signed, IntKind.bits] using h
  exact ⟨UInt8.ofNat n.toNat, by rw [toNat_ofNat8]; omega⟩

/-- A slice of bytes, opened. -/
theorem bytes_of_trod {H : Type} {enc : TypeId × Value → H} {W : World} {sp : Nat → Bool} {v : Value} {fuel : Nat} {x : DataW H × List MemPlace} (hsp : ∀ b, sp b = true)
    (hf : DataW.trod enc Tryz.prog W 0 sp true fuel 32 [v] = some x) : ∃ A n c l, v = .slice A n c ∧ l.length = n ∧ n ≤ c ∧ n ≤ maxLen ∧ Sees W W.heap.size A (bv l) := by
  rcases open_ints Tryz.underlying32 Tryz.underlying5 Tryz.cellsB hf with ⟨hcs, hx⟩ | ⟨a', n, c, zs, hcs, _, hl, hm, hz, hx, hc, hw⟩
  · simp at hcs
    subst hcs
    exact ⟨none, 0, 0, [], rfl, rfl, Nat.le_refl _, by simp [maxLen], ⟨.inl rfl⟩⟩
  · simp at hcs
    subst hcs
    have hzl : zs.length = c := by rw [hsp] at hz; simpa using hz
    refine ⟨some a', n, c, (zs.take n).map (fun z => UInt8.ofNat z.toNat), rfl, by simp; omega, hl, by omega, ?_⟩
    have hb : bv ((zs.take n).map (fun z => UInt8.ofNat z.toNat)) = (zs.take n).map (Value.int .u8) := by
      unfold bv
      rw [List.map_map]
      refine List.map_congr_left fun z hzm => ?_
      have hwf := hw z (List.mem_of_mem_take hzm)
      have hr : 0 ≤ z ∧ z ≤ 255 := by simpa [Lit.wf, IntKind.min, IntKind.max, IntKind.signed, IntKind.bits] using hwf
      simp
      omega
    rw [hb]
    by_cases h0 : n = 0
    · subst h0; exact ⟨.inl (by simp)⟩
    · refine ⟨.inr ⟨a', rfl, ?_, fun j u hu => ?_⟩⟩
      · have := World.block_lt_of_cell? W _ (hc 0 (by omega))
        rwa [add_block] at this
      · have hj : j < n := by
          rcases Nat.lt_or_ge j n with h | h
          · exact h
          · rw [List.getElem?_eq_none (by simp; omega)] at hu; cases hu
        rw [hc j (by omega)]
        rw [List.getElem?_map, List.getElem?_take, if_pos hj] at hu
        rw [List.getD_eq_getElem?_getD]
        cases hzj : zs[j]? with
        | none => rw [hzj] at hu; cases hu
        | some z => rw [hzj] at hu; simpa using hu
theorem open_bytes {H : Type} {enc : TypeId × Value → H} {W : World} {base : Nat} {v : Value} {d : DataW H} {p : List MemPlace} (hval : Value.okWide Tryz.prog W .any base 32 v)
    (h : DataW.Trod enc Tryz.prog W 0 (fun _ => true) true 32 v d p) : ∃ A n c l, v = .slice A n c ∧ l.length = n ∧ n ≤ c ∧ n ≤ maxLen ∧ Sees W W.heap.size A (bv l) := by
  obtain ⟨a, n, c, rfl⟩ := okWide_slice Tryz.underlying32 hval
  obtain ⟨fuel, hf⟩ := h
  exact bytes_of_trod (fun _ => rfl) (by simpa [Value.cells] using hf)

end Go.Proofs.YteidkmiladkoiaaGreatDoor

/-
  A script of acts over files among a law's parameters, opened.
-/
namespace Go.Proofs.YteidkmiladkoiaaGreatDoor
open Go.RowKit Go.WideShapes Go.ChangeShapes Go.ChangeAt Go.Deep Go.Joins

theorem Tryz.cellsS : Tryz.prog.cellsOf 32 = 1 := by kernel_rfl
theorem list_of {α : Type} (n : Nat) (p : Nat → α → Prop) (h : ∀ i, i < n → ∃ x, p i x) : ∃ l : List α, l.length = n ∧ ∀ i (hi : i < l.length), p i l[i] := by
  induction n with
  | zero => exact ⟨[], rfl, fun i hi => absurd hi (by simp)⟩
  | succ n ih =>
    obtain ⟨l, hl, hp⟩ := ih fun i hi => h i (by omega)
    obtain ⟨x, hx⟩ := h n (by omega)
    refine ⟨l ++ [x], by simp [hl], fun i hi => ?_⟩
    by_cases hin : i < l.length
    · rw [List.getElem_append_left hin]
      exact hp i hin
    · have hie : i = l.length := by simp at hi; omega
      subst hie
      rw [List.getElem_append_right (Nat.le_refl _)]
      simpa [hl] using hx

theorem Tryz.cellsActF : Tryz.prog.cellsOf 34 = 6 := by kernel_rfl
theorem Tryz.cellsInt : Tryz.prog.cellsOf 3 = 1 := by kernel_rfl
theorem Tryz.cellsStr : Tryz.prog.cellsOf 9 = 1 := by kernel_rfl
set_option maxRecDepth 100000 in
theorem open_actf {H : Type} {enc : TypeId × Value → H} {W : World} {base : Nat} {v : Value} {d : DataW H} {p : List MemPlace} (hval : Value.okWide Tryz.prog W .any base 34 v)
    (h : DataW.Trod enc Tryz.prog W 0 (fun _ => true) true 34 v d p) : ∃ k s1 s2 A n c l a b, v = .agg #[.int .i64 k, .string s1, .string s2, .slice A n c, .int .i64 a, .int .i64 b] ∧ l.length = n ∧ n ≤ c ∧ Sees W W.heap.size A (bv l) := by
  obtain ⟨cs, rfl, hsz⟩ := okWide_struct Tryz.underlying34 hval
  obtain ⟨l⟩ := cs
  match l, hsz.trans Tryz.cellsActF with
  | [c0, c1, c2, c3, c4, c5], _ =>
    obtain ⟨fuel, hf⟩ := h
    obtain ⟨xs, n, _, hx, _, hlen, hg⟩ := DataW.trod_struct Tryz.underlying34 hf
    match xs, hlen with
    | [y0, y1, y2, y3, y4, y5], _ =>
      have g0 : DataW.trod enc Tryz.prog W 0 (fun _ => true) true n 3 [c0] = some y0 := by have := hg 0 _ rfl; simpa [Value.cells, Tryz.cellsInt] using this
      have g1 : DataW.trod enc Tryz.prog W 0 (fun _ => true) true n 9 [c1] = some y1 := by have := hg 1 _ rfl; simpa [Value.cells, Tryz.cellsStr] using this
      have g2 : DataW.trod enc Tryz.prog W 0 (fun _ => true) true n 9 [c2] = some y2 := by have := hg 2 _ rfl; simpa [Value.cells, Tryz.cellsStr] using this
      have g3 : DataW.trod enc Tryz.prog W 0 (fun _ => true) true n 32 [c3] = some y3 := by have := hg 3 _ rfl; simpa [Value.cells, Tryz.cellsS] using this
      have g4 : DataW.trod enc Tryz.prog W 0 (fun _ => true) true n 3 [c4] = some y4 := by have := hg 4 _ rfl; simpa [Value.cells, Tryz.cellsInt] using this
      have g5 : DataW.trod enc Tryz.prog W 0 (fun _ => true) true n 3 [c5] = some y5 := by have := hg 5 _ rfl; simpa [Value.cells, Tryz.cellsInt] using this
      obtain ⟨i0, f0, _⟩ := DataW.trod_int Tryz.underlying3 g0
      obtain ⟨s1, e1, _, _⟩ := DataW.trod_string Tryz.underlying9 g1
      obtain ⟨s2, e2, _, _⟩ := DataW.trod_string Tryz.underlying9 g2
      obtain ⟨A, nn, c, ls, rfl, hl, hc, -, hS⟩ := bytes_of_trod (fun _ => rfl) g3
      obtain ⟨i4, f4, _⟩ := DataW.trod_int Tryz.underlying3 g4
      obtain ⟨i5, f5, _⟩ := DataW.trod_int Tryz.underlying3 g5
      simp at e1 e2 f0 f4 f5
      subst e1 e2 f0 f4 f5
      exact ⟨i0, s1, s2, A, nn, c, ls, i4, i5, rfl, hl, hc, hS⟩
section
variable {H : Type} {enc : TypeId × Value → H} {P : Program} {w : World} {base : Nat} {spare : Nat → Bool} {held : Bool}
theorem open_slice_fields {t e : TypeId} {fs : Array Field} {fuel : Nat} {cs : List Value} {x : DataW H × List MemPlace} (ht : P.underlying t = some (.slice e)) (he : P.underlying e = some (.struct fs))
    (hone : oneCellFields P fs = true) (hC : P.cellsOf e = fs.size) (h : DataW.trod enc P w base spare held fuel t cs = some x) :
    (cs = [.slice none 0 0] ∧ x = (.nil, [])) ∨
    ∃ (a : Addr) (len cap m : Nat) (D : Nat → DataW H) (Pl : Nat → List MemPlace), cs = [.slice (some a) len cap] ∧ base ≤ a.block ∧ len ≤ cap ∧ cap ≤ maxLen ∧ m = (if spare a.block then cap else len) ∧
      x = (.slice ((List.range len).map D) ((List.range (m - len)).map fun j => D (len + j)), MemPlace.row a (m * fs.size) ++ (List.range m).flatMap Pl) ∧
      ∀ i, i < m → ∃ (ys : List (DataW H × List MemPlace)) (n : Nat), D i = .agg (ys.map (·.1)) ∧ Pl i = ys.flatMap (·.2) ∧ ys.length = fs.size ∧
        ∀ (j : Nat) (f : Field), fs[j]? = some f → ∃ (v : Value) (y : DataW H × List MemPlace), w.cell? (a.add (i * fs.size + j)) = some v ∧ ys[j]? = some y ∧ DataW.trod enc P w base spare held n f.type [v] = some y := by
  rcases open_slice ht h with h0 | ⟨a, len, cap, m, n, D, Pl, hcs, hb, hl, hm, hmm, hx, hi⟩
  · exact .inl h0
  · refine .inr ⟨a, len, cap, m, D, Pl, hcs, hb, hl, hm, hmm, by rw [hC] at hx; exact hx, fun i him => ?_⟩
    obtain ⟨cs', hc, ht'⟩ := hi i him
    rw [hC] at hc
    obtain ⟨ys, n', hn', hy, hlen, hyl, hf⟩ := DataW.trod_struct he ht'
    obtain ⟨_, hcl, hat⟩ := World.cells?_some hc
    simp only [Prod.mk.injEq] at hy
    refine ⟨ys, n', hy.1, hy.2, hyl, fun j f hj => ?_⟩
    obtain ⟨ho, hk⟩ := hone_of hone j f hj
    have hjl : j < fs.size := (Array.getElem?_eq_some_iff.1 hj).1
    have hcell := hat j hjl
    have hv : cs'[j]? = some (cs'[j]'(by omega)) := List.getElem?_eq_getElem (by omega)
    have h1 := hf j f hj
    rw [ho, hk] at h1
    have hone' : (cs'.drop j).take 1 = [cs'[j]'(by omega)] := by
      rw [List.drop_eq_getElem_cons (by omega)]
      rfl
    rw [hone'] at h1
    have hys : ys[j]? = some (ys[j]'(by omega)) := List.getElem?_eq_getElem (by omega)
    refine ⟨_, _, ?_, hys, h1.trans hys⟩
    rw [← Go.Deep.add_add, hcell, hv]
end
theorem add_fieldS (a : Addr) (m j : Nat) (hj : 0 < j) : a.add (m + j) = ⟨(a.add m).block, (a.add m).off + j, none⟩ := by
  unfold Addr.add
  by_cases hm : m = 0
  · subst hm
    rw [if_neg (by omega), if_pos rfl]
    simp
  · rw [if_neg (by omega), if_neg hm]
    simp [Nat.add_assoc]
theorem txt_of (s : ByteArray) : ∃ t : Txt, s = strOf t := ⟨s.data.toList, by simp [strOf]⟩
/-- Acts in cells that are seen. -/
structure ActsF (m : Nat → Prop) (w : World) (A : Option Addr) (ls : List ActF) : Prop where
  out : ∀ i (hi : i < ls.length), ∃ ad Ai ci, A = some ad ∧ m ad.block ∧ w.cell? (ad.add (i * 6)) = some (.int .i64 ls[i].kind) ∧ w.cell? ⟨(ad.add (i * 6)).block, (ad.add (i * 6)).off + 1, none⟩ = some (.string (strOf ls[i].path)) ∧
    w.cell? ⟨(ad.add (i * 6)).block, (ad.add (i * 6)).off + 2, none⟩ = some (.string (strOf ls[i].into)) ∧ w.cell? ⟨(ad.add (i * 6)).block, (ad.add (i * 6)).off + 3, none⟩ = some (.slice Ai ls[i].b.length ci) ∧
    w.cell? ⟨(ad.add (i * 6)).block, (ad.add (i * 6)).off + 4, none⟩ = some (.int .i64 ls[i].n) ∧ w.cell? ⟨(ad.add (i * 6)).block, (ad.add (i * 6)).off + 5, none⟩ = some (.int .i64 ls[i].by_) ∧ ls[i].b.length ≤ ci ∧ SeesM m w Ai (bv ls[i].b)
set_option maxRecDepth 100000 in
theorem open_actsF {H : Type} {enc : TypeId × Value → H} {W : World} {base : Nat} {v : Value} {d : DataW H} {p : List MemPlace} (hval : Value.okWide Tryz.prog W .any base 22 v)
    (h : DataW.Trod enc Tryz.prog W 0 (fun _ => true) true 22 v d p) : ∃ A n c ls, v = .slice A n c ∧ ls.length = n ∧ n ≤ c ∧ ActsF (fun k => k < W.heap.size) W A ls := by
  obtain ⟨a, n, c, rfl⟩ := okWide_slice Tryz.underlying22 hval
  obtain ⟨fuel, hf⟩ := h
  rcases open_slice_fields Tryz.underlying22 Tryz.underlying34 (by kernel_rfl) Tryz.cellsActF hf with ⟨hcs, hx⟩ | ⟨a', len, cap, m, D, Pl, hcs, hb, hl, hcm, hmm, hx, hi⟩
  · simp [Value.cells] at hcs
    obtain ⟨rfl, rfl, rfl⟩ := hcs
    exact ⟨none, 0, 0, [], rfl, rfl, Nat.le_refl _, ⟨fun i hi => absurd hi (by simp)⟩⟩
  · simp [Value.cells] at hcs
    obtain ⟨rfl, rfl, rfl⟩ := hcs
    have hmc : m = c := by simpa using hmm
    have each : ∀ i, i < n → ∃ x : ActF, ∃ Ai ci, W.cell? (a'.add (i * 6)) = some (.int .i64 x.kind) ∧ W.cell? (a'.add (i * 6 + 1)) = some (.string (strOf x.path)) ∧ W.cell? (a'.add (i * 6 + 2)) = some (.string (strOf x.into)) ∧ W.cell? (a'.add (i * 6 + 3)) = some (.slice Ai x.b.length ci) ∧ W.cell? (a'.add (i * 6 + 4)) = some (.int .i64 x.n) ∧ W.cell? (a'.add (i * 6 + 5)) = some (.int .i64 x.by_) ∧ x.b.length ≤ ci ∧ Sees W W.heap.size Ai (bv x.b) := by
      intro i hin
      obtain ⟨ys, k, _, _, _, hfl⟩ := hi i (by omega)
      obtain ⟨v0, y0, h0, _, t0⟩ := hfl 0 _ rfl
      obtain ⟨v1, y1, h1, _, t1⟩ := hfl 1 _ rfl
      obtain ⟨v2, y2, h2, _, t2⟩ := hfl 2 _ rfl
      obtain ⟨v3, y3, h3, _, t3⟩ := hfl 3 _ rfl
      obtain ⟨v4, y4, h4, _, t4⟩ := hfl 4 _ rfl
      obtain ⟨v5, y5, h5, _, t5⟩ := hfl 5 _ rfl
      obtain ⟨i0, e0, _⟩ := DataW.trod_int Tryz.underlying3 t0
      obtain ⟨s1, e1, _, _⟩ := DataW.trod_string Tryz.underlying9 t1
      obtain ⟨s2, e2, _, _⟩ := DataW.trod_string Tryz.underlying9 t2
      obtain ⟨Ai, ni, ci, li, rfl, hli, hci, -, hSi⟩ := bytes_of_trod (fun _ => rfl) t3
      obtain ⟨i4, e4, _⟩ := DataW.trod_int Tryz.underlying3 t4
      obtain ⟨i5, e5, _⟩ := DataW.trod_int Tryz.underlying3 t5
      simp at e0 e1 e2 e4 e5
      subst e0 e1 e2 e4 e5
      subst hli
      obtain ⟨p1, rfl⟩ := txt_of s1
      obtain ⟨p2, rfl⟩ := txt_of s2
      exact ⟨⟨i0, p1, p2, li, i4, i5⟩, Ai, ci, h0, h1, h2, h3, h4, h5, hci, hSi⟩
    obtain ⟨ls, hls, hp⟩ := list_of n _ each
    refine ⟨some a', n, c, ls, rfl, hls, hl, ⟨fun i hi => ?_⟩⟩
    obtain ⟨Ai, ci, g0, g1, g2, g3, g4, g5, g6, g7⟩ := hp i hi
    have hbk : (a'.add (i * 6)).block = a'.block := add_block _ _
    refine ⟨a', Ai, ci, rfl, ?_, g0, ?_, ?_, ?_, ?_, ?_, g6, g7.toM⟩
    · have := World.block_lt_of_cell? W _ g0
      rwa [hbk] at this
    · rw [← add_fieldS a' _ 1 (by omega)]; exact g1
    · rw [← add_fieldS a' _ 2 (by omega)]; exact g2
    · rw [← add_fieldS a' _ 3 (by omega)]; exact g3
    · rw [← add_fieldS a' _ 4 (by omega)]; exact g4
    · rw [← add_fieldS a' _ 5 (by omega)]; exact g5
end Go.Proofs.YteidkmiladkoiaaGreatDoor
