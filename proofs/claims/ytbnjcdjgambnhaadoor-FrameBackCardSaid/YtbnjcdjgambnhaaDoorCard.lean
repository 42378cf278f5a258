/-
  From a walk to a law's row and card: what is alike for every law of this seat.
-/
import Derived.Test.YtbnjcdjgambnhaaDoorCards
import Derived.Test.YtbnjcdjgambnhaaDoorTie
import Derived.Test.YtbnjcdjgambnhaaDoorFrAwake
import Derived.WalkKit
import Derived.ProofKit
import Derived.OpenShut
import Derived.Deep.DeepHandedRow
import Derived.Lib.LaidTab
namespace Go.Proofs.YtbnjcdjgambnhaaDoor
open Go.RowKit Go.WideShapes Go.ChangeShapes Go.ChangeAt

theorem Tryd.own : ownKnob Tryd.prog.godebug = none := by kernel_rfl
theorem Tryd.laidOut : laidOutB Tryd.prog = true := by kernel_rfl
theorem Tryd.cellsB : Tryd.prog.cellsOf 5 = 1 := by kernel_rfl

section
variable {H : Type} {enc : TypeId × Value → H} {P : Program}
theorem post_of_below {f : Func} {s : ChangeSpec} {apart fresh handsOn again : Bool} {W W' : World} {args : Array Value} {v : Value} {ds gs : List (DataW H)} {before pa pv : List MemPlace}
    (hW : DataW.Whole enc P f.params.toList s.vars apart W args.toList ds gs before)
    (hres : ∀ (b : Nat) (sp : Nat → Bool) (hd : Bool), DataW.TrodAll enc P W' b sp hd f.resultTypes.toList (v.resultList f.resultTypes.size) (s.fn H (ds ++ gs)).results [])
    (hargs : ∀ sp : Nat → Bool, (∀ p ∈ before, sp p.block = true) → DataW.TrodAll enc P W' 0 sp true f.params.toList args.toList (s.fn H (ds ++ gs)).args pa)
    (hvars : ∀ sp : Nat → Bool, (∀ p ∈ before, sp p.block = true) → DataW.TrodVars enc P W' sp s.vars (s.fn H (ds ++ gs)).vars pv)
    (hps : before = pa ++ pv) (hb : Below W.heap.size W W')
    (hok : ∀ (j : Nat) (t : TypeId) (r : Value), f.resultTypes[j]? = some t → (v.resultList f.resultTypes.size)[j]? = some r → Value.okWide P W' .any 0 t r) :
    s.post enc P f apart fresh handsOn again W args v W' := by
  have hlt : ∀ p ∈ before, p.block < W.heap.size := fun p hp => hW.lt p hp
  have hold : ∀ p ∈ before, (fun b => decide (b < W.heap.size)) p.block = true := fun p hp => by simpa using hlt p hp
  refine ⟨ds, gs, before, [], pa, pv, hW, hres _ _ _, hargs _ hold, hvars _ hold, World.keptBut_mono (fun p hp => ⟨hp, ?_⟩) (hb.frame (· ∈ before)), fun _ => ?_⟩
  · rw [hps, List.mem_append] at hp
    exact Or.inr hp
  · obtain ⟨_, _, _, _, _, hz, hn⟩ := hW
    refine ⟨hok, _, _, ([] ++ pa) ++ pv, ⟨[] ++ pa, pv, trodAll_append (hargs _ (fun _ _ => rfl)) (hres _ _ _), hvars _ (fun _ _ => rfl), rfl, ?_, ?_⟩, ?_⟩
    · intro b off hp
      have hin : MemPlace.cell b off ∈ before := by rw [hps]; simpa using hp
      rw [hb.frozen (hlt _ hin)]
      exact hz b off hin
    · intro ha
      have := hn ha
      rw [hps] at this
      simpa using this
    · intro p hp _
      rw [hps]
      simpa using hp
end

/-- Readings of arguments below which nothing has turned stay. -/
theorem trodAll_stays {H : Type} {enc : TypeId × Value → H} {P : Program} (hl : laidOutB P = true) {W W' : World} (hb : Below W.heap.size W W') (sp : Nat → Bool) :
    ∀ (ts : List TypeId) (vs : List Value) (ds : List (DataW H)) (ps : List MemPlace), (∀ t ∈ ts, P.readableRec t = true ∧ t < P.types.size) → DataW.TrodAll enc P W 0 (fun _ => true) true ts vs ds ps →
      (∀ p ∈ ps, p.block < W.heap.size) → (∀ p ∈ ps, sp p.block = true) → DataW.TrodAll enc P W' 0 sp true ts vs ds ps := by
  intro ts
  induction ts with
  | nil =>
    intro vs ds ps _ h _ _
    cases vs <;> cases ds <;> first | exact h | exact h.elim
  | cons t ts ih =>
    intro vs ds ps hr h hlt hsp
    cases vs with
    | nil => exact h.elim
    | cons v vs =>
      cases ds with
      | nil => exact h.elim
      | cons d ds =>
        obtain ⟨p, q, h1, h2, rfl⟩ := h
        refine ⟨p, q, WideElems.Trod_stays hl (hr t (by simp)).1 (hr t (by simp)).2 h1 (fun x hx => hb.same (hlt x (by simp [hx]))) (fun x hx => hsp x (by simp [hx])), ?_, rfl⟩
        exact ih vs ds q (fun t ht => hr t (by simp [ht])) h2 (fun x hx => hlt x (by simp [hx])) (fun x hx => hsp x (by simp [hx]))

/-- A law's post, out of its walk: true; nothing that was there has turned. -/
theorem post_true {H : Type} {enc : TypeId × Value → H} {f : Func} {s : ChangeSpec} {apart fresh handsOn again : Bool} {W W' : World} {args : Array Value} {ds gs : List (DataW H)} {before : List MemPlace}
    (hvars : s.vars = []) (hfn : ∀ ds' : List (DataW H), ds'.length = f.params.size → (s.fn H ds').results = [.lit (.bool true)] ∧ (s.fn H ds').args = ds' ∧ (s.fn H ds').vars = []) (hres : f.resultTypes = #[4])
    (hread : ∀ t ∈ f.params.toList, Tryd.prog.readableRec t = true ∧ t < Tryd.prog.types.size)
    (hW : DataW.Whole enc Tryd.prog f.params.toList s.vars apart W args.toList ds gs before) (hb : Below W.heap.size W W') (hlen : ds.length = f.params.size) :
    s.post enc Tryd.prog f apart fresh handsOn again W args (.bool true) W' := by
  have hW' := hW
  obtain ⟨p, q, hA, hV, hpq, hfz, hnd⟩ := hW
  rw [hvars] at hV
  obtain ⟨rfl, rfl⟩ := trodVars_none hV
  obtain ⟨h1, h2, h3⟩ := hfn (ds ++ []) (by simpa using hlen)
  refine post_of_below (pa := p) (pv := []) hW' (fun b sp hd => ?_) (fun sp hsp => ?_) (fun sp hsp => ?_) (by simpa using hpq) hb ?_
  · rw [h1, hres]
    exact trodAll_mk1 (shut_bool Tryd.underlying4 true)
  · rw [h2, List.append_nil]
    exact trodAll_stays Tryd.laidOut hb sp _ _ _ _ hread hA (fun x hx => hW'.lt x (by rw [hpq]; simp [hx])) (fun x hx => hsp x (by rw [hpq]; simp [hx]))
  · rw [h3, hvars]
    rfl
  · exact ok_one hres rfl (okWide_bool_mk Tryd.underlying4 true)


theorem bounds_i64 {n : Int} (h : (Lit.int .i64 n).wf = true) : -9223372036854775808 ≤ n ∧ n ≤ 9223372036854775807 := by
  simpa [Lit.wf, IntKind.min, IntKind.max, IntKind.signed, IntKind.bits] using h
theorem byte_of {n : Int} (h : (Lit.int .u8 n).wf = true) : ∃ b : UInt8, n = (b.toNat : Int) := by
  have hr : 0 ≤ n ∧ n ≤ 255 := by simpa [Lit.wf, IntKind.min, IntKind.max, IntKind.signed, IntKind.bits] using h
  exact ⟨UInt8.ofNat n.toNat, by rw [toNat_ofNat8]; omega⟩

/-- A slice of bytes, opened. -/
theorem bytes_of_trod {H : Type} {enc : TypeId × Value → H} {W : World} {sp : Nat → Bool} {v : Value} {fuel : Nat} {x : DataW H × List MemPlace} (hsp : ∀ b, sp b = true)
    (hf : DataW.trod enc Tryd.prog W 0 sp true fuel 22 [v] = some x) : ∃ A n c l, v = .slice A n c ∧ l.length = n ∧ n ≤ c ∧ n ≤ maxLen ∧ Sees W W.heap.size A (bv l) := by
  rcases open_ints Tryd.underlying22 Tryd.underlying5 Tryd.cellsB hf with ⟨hcs, hx⟩ | ⟨a', n, c, zs, hcs, _, hl, hm, hz, hx, hc, hw⟩
  · simp at hcs
    subst hcs
    exact ⟨none, 0, 0, [], rfl, rfl, Nat.le_refl _, by simp [maxLen], ⟨.inl rfl⟩⟩
  · simp at hcs
    subst hcs
    have hzl : zs.length = c := by rw [hsp] at hz; simpa using hz
    refine ⟨some a', n, c, (zs.take n).map (fun z => UInt8.ofNat z.toNat), rfl, by simp; omega, hl, by omega, ?_⟩
    have hb : bv ((zs.take n).map (fun z => UInt8.ofNat z.toNat)) = (zs.take n).map (Value.int .u8) := by
      unfold bv
      rw [List.map_map]
      refine List.map_congr_left fun z hzm => ?_
      have hwf := hw z (List.mem_of_mem_take hzm)
      have hr : 0 ≤ z ∧ z ≤ 255 := by simpa [Lit.wf, IntKind.min, IntKind.max, IntKind.signed, IntKind.bits] using hwf
      simp
      omega
    rw [hb]
    by_cases h0 : n = 0
    · subst h0; exact ⟨.inl (by simp)⟩
    · refine ⟨.inr ⟨a', rfl, ?_, fun j u hu => ?_⟩⟩
      · have := World.block_lt_of_cell? W _ (hc 0 (by omega))
        rwa [add_block] at this
      · have hj : j < n := by
          rcases Nat.lt_or_ge j n with h | h
          · exact h
          · rw [List.getElem?_eq_none (by simp; omega)] at hu; cases hu
        rw [hc j (by omega)]
        rw [List.getElem?_map, List.getElem?_take, if_pos hj] at hu
        rw [List.getD_eq_getElem?_getD]
        cases hzj : zs[j]? with
        | none => rw [hzj] at hu; cases hu
        | some z => rw [hzj] at hu; simpa using hu
theorem open_bytes {H : Type} {enc : TypeId × Value → H} {W : World} {base : Nat} {v : Value} {d : DataW H} {p : List MemPlace} (hval : Value.okWide Tryd.prog W .any base 22 v)
    (h : DataW.Trod enc Tryd.prog W 0 (fun _ => true) true 22 v d p) : ∃ A n c l, v = .slice A n c ∧ l.length = n ∧ n ≤ c ∧ n ≤ maxLen ∧ Sees W W.heap.size A (bv l) := by
  obtain ⟨a, n, c, rfl⟩ := okWide_slice Tryd.underlying22 hval
  obtain ⟨fuel, hf⟩ := h
  exact bytes_of_trod (fun _ => rfl) (by simpa [Value.cells] using hf)

theorem gTab : Tryd.prog.globalNamed "esker/frame.halves" = some 0 := by kernel_rfl
theorem gTabType : (Tryd.prog.globals[0]?).map (·.type) = some 43 := by kernel_rfl
theorem cellsTab : Tryd.prog.cellsOf 43 = 16 := by kernel_rfl
theorem cellsU32 : Tryd.prog.cellsOf 27 = 1 := by kernel_rfl
def tabZ : List Int := [0, 498536548, 997073096, 651767980, 1994146192, 1802195444, 1303535960, 1342533948, 3988292384, 4027552580, 3604390888, 3412177804, 2607071920, 2262029012, 2685067896, 3183342108]
/-- What a row's list gives: the table's cells hold its numbers. -/
theorem halves_of {W : World} (h : laidMetH Tryd.prog [("esker/frame.halves", Rows.laid_esker_frame_halves)] W) : Halves W := by
  have ht : Lib.TabIs Tryd.prog W "esker/frame.halves" .u32 tabZ := Lib.tabIs_of_head (rest := []) gTab gTabType Tryd.underlying43 Tryd.underlying27 cellsU32 cellsTab h
  have hc : ∀ i, i < 16 → W.cell? ⟨0, i, none⟩ = some (.int .u32 (tabZ.getD i 0)) := fun i hi => ht.cell gTab i (by simpa [tabZ] using hi)
  refine ⟨?_, fun i hi => ?_⟩
  · have := World.block_lt_of_cell? W _ (hc 0 (by omega))
    simp at this
    omega
  · rw [hc i hi]
    have : ∀ i, i < 16 → tabZ.getD i 0 = ((ctab.getD i 0 : Nat) : Int) := by decide
    rw [this i hi]

/-- A world for a witness: the settled one, the table's variable holding what its initialiser lays. -/
noncomputable def laidWorldOf (w : World) : World :=
  { w with heap := w.heap.modify 0 fun
      | .cells _ t frozen => .cells (tabZ.map (Value.int .u32)).toArray t frozen
      | o => o }

end Go.Proofs.YtbnjcdjgambnhaaDoor
