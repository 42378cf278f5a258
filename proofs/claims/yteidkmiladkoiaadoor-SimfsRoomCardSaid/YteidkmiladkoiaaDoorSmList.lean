/-
  List, walked.
-/
import Derived.Test.YteidkmiladkoiaaDoorSmSorted
import Derived.Test.YteidkmiladkoiaaDoorRound
namespace Go.Proofs.YteidkmiladkoiaaDoor
open Go.RowKit Go.Shelf

attribute [local go_sem] Oper.semAt_some

/-- Does a text begin with another one? -/
def hasPre (v want : ByteArray) : Bool := decide (want.size ≤ v.size) && ((v.extract 0 want.size).toList == want.toList)
theorem hasPre_eq (y x : Txt) : hasPre (strOf y) (strOf x) = decide (x <+: y) := by
  unfold hasPre
  rw [str_size, str_size, strOf_toList]
  have e : ((strOf y).extract 0 x.length).toList = y.take x.length := by
    rw [Lib.toList_data]
    simp [strOf, ByteArray.extract, ByteArray.copySlice]
  rw [e, Bool.eq_iff_iff]
  simp only [Bool.and_eq_true, decide_eq_true_eq, beq_iff_eq, List.prefix_iff_eq_take]
  constructor
  · rintro ⟨-, h⟩
    exact h.symm
  · intro h
    refine ⟨?_, h.symm⟩
    have := congrArg List.length h
    rw [List.length_take] at this
    omega
set_option maxRecDepth 100000 in
set_option maxHeartbeats 400000 in
theorem stringsHasPrefix_any (v want : ByteArray) (w : World) : Calls Tryd.prog 36 #[.string v, .string want] w fun e w' => e = .returned (.bool (hasPre v want)) ∧ w = w' := by
  obtain ⟨X, hX⟩ : ∃ X, hasPre v want = X := ⟨_, rfl⟩
  rw [hX]
  unfold hasPre at hX
  by_cases h : want.size ≤ v.size
  · rw [decide_eq_true h] at hX
    have HX := Lib.hid hX
    clear hX
    go_enter Tryd.func36, Tryd.ntmps36
    go_wp2
    go_ret
    exact ⟨ret_bool (by rw [← HX.out, Bool.true_and]), rfl⟩
  · rw [decide_eq_false h] at hX
    have HX : Hid (X = false) := by unfold Hid; rw [← hX]; rfl
    have h' : (v.size : Int) < (want.size : Int) := by omega
    clear hX h
    go_enter Tryd.func36, Tryd.ntmps36
    go_wp2
    go_ret
    rw [HX.out]
    exact ⟨rfl, rfl⟩
set_option maxRecDepth 100000 in
set_option maxHeartbeats 400000 in
theorem HasPrefix_str (y x : Txt) (w : World) : Calls Tryd.prog 30 #[.string (strOf y), .string (strOf x)] w fun e w' => e = .returned (.bool (decide (x <+: y))) ∧ w = w' := by
  rw [← hasPre_eq]
  go_enter Tryd.func30, Tryd.ntmps30
  go_wp2_with fail
  refine (stringsHasPrefix_any (strOf y) (strOf x) w).mono ?_
  rintro e w1 ⟨rfl, rfl⟩
  go_wp2
  go_ret
  exact ⟨rfl, rfl⟩

theorem sorted_call (p : Option Addr) (w : World) : Calls Tryd.prog 29 #[.pointer p] w fun e w' => e = .returned (.func (.func 33) #[] #[.pointer (some ⟨w.heap.size, 0, none⟩)]) ∧ w' = w.alloc (.cells #[.pointer p] 25) := by
  go_enter Tryd.func29, Tryd.ntmps29
  go_wp2
  go_ret
  exact ⟨rfl, rfl⟩
theorem sorted1_nil (R : Nat → Prop) (w : World) (B1 : Nat) (h1 : w.cell? ⟨B1, 0, none⟩ = some (.pointer none)) (hB1 : B1 < w.heap.size) (n : Nat) :
    SeqT Fence.wide n Tryd.prog 33 #[.pointer (some ⟨B1, 0, none⟩)] (fun p : Txt => #[.string (strOf p)]) R (fun _ => False) (fun _ _ _ _ => True) (fun xs => xs = []) (fun _ => True) 0 w := by
  intro l J Jx W hW hJ hJx hY h0
  have h1W := (hW.cell (p := ⟨B1, 0, none⟩) hB1).trans h1
  clear hW h1 hY
  refine callsIn_of_wp Tryd.func33 rfl trivial ?_ rfl
  simp only [Tryd.ntmps33, List.size_toArray, List.length_cons, List.length_nil, Nat.reduceAdd, Nat.reduceSub, Array.replicate_succ, Array.replicate_zero, List.push_toArray, List.append_toArray, List.nil_append, List.cons_append]
  gi_wp2_with fail
  refine bodyPost_ret (results_none rfl _ _ _) rfl ?_
  exact ⟨⟨_, rfl⟩, .inl ⟨_, [], rfl, h0⟩⟩

theorem Tryd.strinfo : (Tryd.prog.info? 9).map (fun i => (i.zero, i.size, i.bytes)) = some (some (.string ⟨#[]⟩), 1, 16) := by kernel_rfl
/-- Texts as cells. -/
def tv (l : List Txt) : List Value := l.map fun p => .string (strOf p)
theorem tv_length (l : List Txt) : (tv l).length = l.length := by simp [tv]
theorem tv_one (l : List Txt) : ∀ u ∈ tv l, u.oneCell' = true := fun u hu => by obtain ⟨p, -, rfl⟩ := List.mem_map.1 hu; rfl
/-- A row of texts of the call's own. -/
def OwnT (w : World) (base : Nat) (v : Value) (l : List Txt) : Prop := w.ownsRow base 9 1 v l.length (tv l)
theorem OwnT.nil (w : World) (base : Nat) : OwnT w base (.slice none 0 0) [] := World.ownsRow_nil w base _ 1
/-- Texts are told. -/
def TextsIs (w : World) (l : List Txt) (e : Ending) (w' : World) : Prop := ∃ v, e = .returned v ∧ OwnT w' w.heap.size v l ∧ Below w.heap.size w w'
/-- What a loop over paths keeps. -/
structure ListI (w : World) (first : Txt) (s : Nat → Prop) (pre : List Txt) (W : World) : Prop where
  sep : ∀ k, s k → w.heap.size + 3 ≤ k ∧ k < W.heap.size
  below : Below w.heap.size w W
  size : w.heap.size + 3 ≤ W.heap.size
  box : Box1 W w.heap.size 9 (.string (strOf first))
  out : ∃ v, Box1 W (w.heap.size + 1) 41 v ∧ OwnT W (w.heap.size + 5) v (pre.filter fun p => decide (first <+: p)) ∧ ∀ k, v.ownBlock = some k → ¬ s k
section
variable {w A B : World} {first : Txt} {s : Nat → Prop} {pre : List Txt}
theorem ListI.grow (h : ListI w first s pre A) (ht : Turn s A B) : ListI w first (grown s A B) pre B := by
  obtain ⟨v, h1, h2, h3⟩ := h.out
  have hz := ht.size
  have hs := h.size
  refine ⟨fun k hk => ?_, h.below.trans (ht.below (fun j hj => by have := (h.sep j hj).1; omega) h.below.size), by omega, h.box.turn ht (fun e => by have := (h.sep _ e).1; omega), v, h1.turn ht (fun e => by have := (h.sep _ e).1; omega), ownsRow_kept h2 fun k e => ht.block k (World.ownsRow.lt h2 k e).2 (h3 k e), fun k e e2 => ?_⟩
  · rcases hk with hk | hk
    · have := h.sep k hk; omega
    · omega
  · rcases e2 with e2 | e2
    · exact h3 k e e2
    · have := (World.ownsRow.lt h2 k e).2; omega
theorem ListI.mark (h : ListI w first s pre A) (ht : Turn (fun k => k = w.heap.size + 3 ∨ k = w.heap.size + 3 + 1) A B) : ListI w first s pre B := by
  obtain ⟨v, h1, h2, h3⟩ := h.out
  have hz := ht.size
  have hs := h.size
  refine ⟨fun k hk => ⟨(h.sep k hk).1, by have := (h.sep k hk).2; omega⟩, h.below.trans (ht.below (fun j hj => by omega) h.below.size), by omega, h.box.turn ht (by omega), v, h1.turn ht (by omega), ownsRow_kept h2 fun k e => ht.block k (World.ownsRow.lt h2 k e).2 (by have := (World.ownsRow.lt h2 k e).1; omega), h3⟩
end

set_option maxRecDepth 100000 in
set_option maxHeartbeats 3200000 in
theorem list_core (w : World) (p : Option Addr) (first : Txt) (L : List Txt) (R : Nat → Prop) (hR : ∀ k, R k → k < w.heap.size ∨ k = w.heap.size + 2) (hL : L.length ≤ 100000)
    (hseq : ∀ W, Below w.heap.size w W → W.cell? ⟨w.heap.size + 2, 0, none⟩ = some (.pointer p) → w.heap.size + 2 < W.heap.size → SeqT Fence.wide 4 Tryd.prog 33 #[.pointer (some ⟨w.heap.size + 2, 0, none⟩)] (fun p : Txt => #[.string (strOf p)]) R (fun _ => False) (fun _ _ _ _ => True) (fun xs => xs = L) (fun _ => True) L.length W) :
    Calls Tryd.prog 18 #[.pointer p, .string (strOf first)] w (TextsIs w (L.filter fun p => decide (first <+: p))) := by
  have hsc := fun W => Lib.hid (sorted_call p W)
  refine (callsIn_wide (n := 5)).1 ?_
  refine callsIn_of_wp_marks Tryd.func18 rfl trivial ?_ rfl
  simp only [Tryd.ntmps18, List.size_toArray, List.length_cons, List.length_nil, Nat.reduceAdd, Nat.reduceSub, Array.replicate_succ, Array.replicate_zero, List.push_toArray, List.append_toArray, List.nil_append, List.cons_append]
  obtain ⟨w0, hw0⟩ : ∃ w0, w.alloc (.cells #[.string (strOf first)] 9) = w0 := ⟨_, rfl⟩
  obtain ⟨w1, hw1⟩ : ∃ w1, w0.alloc (.cells #[.slice none 0 0] 41) = w1 := ⟨_, rfl⟩
  have hz0 : w0.heap.size = w.heap.size + 1 := by rw [← hw0]; simp
  have hz1 : w1.heap.size = w.heap.size + 2 := by rw [← hw1]; simp [hz0]
  have hb0 : Below w.heap.size w w0 := by rw [← hw0]; exact (Below.refl _ w).alloc (Nat.le_refl _) _
  have hb1 : Below w0.heap.size w0 w1 := by rw [← hw1]; exact (Below.refl _ w0).alloc (Nat.le_refl _) _
  have x0 : Box1 w1 w.heap.size 9 (.string (strOf first)) := by rw [← hw1, ← hw0]; exact (Box1.new w _ _).alloc _
  have x1 : Box1 w1 (w.heap.size + 1) 41 (.slice none 0 0) := by have := Box1.new w0 41 (.slice none 0 0); rw [hw1, hz0] at this; exact this
  have HB := Lib.hid (hb0.trans (hb1.mono (by omega)))
  have X0 := Lib.hid x0
  have X1 := Lib.hid x1
  have HZ1 := Lib.hid hz1
  clear hb0 hb1 x0 x1
  gi_wp2_with fail
  refine ⟨trivial, (callsIn_wide.2 (hsc w1).out).mono ?_⟩
  rintro e w2 ⟨rfl, hw2⟩
  have hz2 : w2.heap.size = w.heap.size + 3 := by rw [hw2]; simp [hz1]
  have hb2 : Below w1.heap.size w1 w2 := by rw [hw2]; exact (Below.refl _ w1).alloc (Nat.le_refl _) _
  have HB2 := Lib.hid (HB.out.trans (hb2.mono (by rw [HZ1.out]; omega)))
  have y0 := Lib.hid (X0.out.below hb2 X0.out.lt)
  have y1 := Lib.hid (X1.out.below hb2 X1.out.lt)
  have y2 : Box1 w2 (w.heap.size + 2) 25 (.pointer p) := by have := Box1.new w1 25 (.pointer p); rw [← hw2, HZ1.out] at this; exact this
  have hD := hseq w2 HB2.out y2.cell y2.lt
  have HL := Lib.hid hL
  have HRR := Lib.hid hR
  clear hb2 hw2 hw1 hw0 hseq hsc hR
  rw [HZ1.out]
  gi_wp2_with fail
  refine wpIn_rangeFunc_T (F := Fence.wide) (n := 5) rfl (by omega) (gf := 33) (lb := #[.pointer (some ⟨w.heap.size + 2, 0, none⟩)]) rfl trivial (enters_of Tryd.func33 (by kernel_rfl) rfl)
    hD (Below.refl _ _) (fun _ => rfl) (fun k hk => by rcases hk with hk | hk; rcases HRR.out k hk with h | h <;> omega; exact hk.elim)
    (fun _ _ _ _ _ _ _ _ => trivial)
    (fun s pre W => ListI w first s pre W) (fun _ _ _ _ => False)
    ?hI ?hIx ?hI2 ?hIx2 ?h0 (fun y => { tmps := #[.pointer p, .string (strOf first), undef, .pointer (some ⟨w.heap.size, 0, none⟩), .slice none 0 0, .pointer (some ⟨w.heap.size + 1, 0, none⟩), .string (strOf y), .pointer p, .func (.func 33) #[] #[.pointer (some ⟨w.heap.size + 2, 0, none⟩)], .string (strOf y), undef, undef, undef, undef, undef, undef, undef, undef], defers := [] }) ?assign ?body ?done ?stop
  case hI => exact fun s pre A B h ht => h.grow ht
  case hIx => exact fun c s pre A B h ht => h
  case hI2 => rw [hz2]; exact fun s pre A B h ht => h.mark ht
  case hIx2 => exact fun c s pre A B h ht => h
  case h0 => exact ⟨fun k hk => hk.elim, HB2.out, by omega, y0.out, _, y1.out, OwnT.nil _ _, fun k hk => by simp [Value.ownBlock] at hk⟩
  case assign =>
    intro l y W K hK
    gi_wp2
    exact hK
  case body =>
    rintro l s pre y W hi hlt - hdW
    have hc0 := hi.box.cell
    obtain ⟨v, hbox, hown, hvs⟩ := hi.out
    obtain ⟨Av, cv, rfl, -, -⟩ := row_open hown
    have hc1 := hbox.cell
    have hf1 := hbox.frozen
    have hbW : w.heap.size + 5 ≤ W.heap.size := by omega
    have HW := Lib.hid hdW
    have HI := Lib.hid hi
    have hpl := List.length_filter_le (fun p => decide (first <+: p)) pre
    have hP := Lib.hid (HasPrefix_str y first W)
    have hfil : Hid (∀ b, decide (first <+: y) = b → (pre ++ [y]).filter (fun p => decide (first <+: p)) = if b = true then pre.filter (fun p => decide (first <+: p)) ++ [y] else pre.filter (fun p => decide (first <+: p))) := fun b hb => by
      rw [List.filter_append, List.filter_cons, hb]
      cases b <;> simp
    obtain ⟨b, hb⟩ : ∃ b, decide (first <+: y) = b := ⟨_, rfl⟩
    have hfb := hfil.out b hb
    rw [hb] at hP
    obtain ⟨K, hK⟩ : ∃ K, pre.filter (fun p => decide (first <+: p)) = K := ⟨_, rfl⟩
    rw [hK] at hfb hpl hown hc1 hbox hvs
    have HBX := Lib.hid hbox
    have HOW := Lib.hid hown
    have HVS := Lib.hid hvs
    have hKl : K.length ≤ 100000 := by have := HL.out; omega
    have hRw : Hid (∀ k, R k → k < w.heap.size ∨ k = w.heap.size + 2) := HRR.out
    clear hfil hb hpl hi hK hlt hdW
    cases b with
    | true =>
      have HFB : Hid ((pre ++ [y]).filter (fun p => decide (first <+: p)) = K ++ [y]) := by unfold Hid; rw [hfb]; rfl
      obtain ⟨i0, hi0, hy0, hy1, hy2⟩ := info_parts Tryd.strinfo
      have hnb : Hid ((Value.slice Av K.length cv).ownBlock ≠ some (w.heap.size + 1)) := fun e => by have := (World.ownsRow.lt HOW.out _ e).1; omega
      unfold OwnT at hown
      obtain ⟨kl, hkl⟩ : ∃ kl, K.length = kl := ⟨_, rfl⟩
      rw [hkl] at hown hc1 hKl
      have HKL := Lib.hid hkl
      clear hfb hvs hbox hkl
      gi_wp2_with fail
      refine ⟨trivial, (CallsIn.inRound l (callsIn_wide.2 hP.out)).mono ?_⟩
      rintro e wq ⟨rfl, rfl⟩
      gi_wp2_with (gi_at_builtin; (refine wpListIn_append_v rfl (.tmp 13) (.tmp 15) 41 rfl 9 i0 _ 1 16 Tryd.underlying41 hi0 hy0 hy1 hy2 rfl (by omega) (w.heap.size + 5) _ kl (tv K) (by rfl) (World.ownsRow.alloc hown _) (W.heap.size + 1) (some ⟨W.heap.size, 0, none⟩) 1 1 (tv [y]) (by rfl) rfl (sees_cells W _ rfl _ _ _ rfl) (tv_one _) (by simp only [maxLen]; omega) (by omega) (by simp; omega) ?_; intro v5 w5 hown5 hon5; obtain ⟨A5, c5, hv5, -, -⟩ := row_open hown5; subst hv5; have b5 := ((HBX.out.below ((Below.refl _ W).alloc (Nat.le_refl _) (.cells #[.string (strOf y)] 9)) HBX.out.lt).turn (Turn.onto (T := fun k => (Value.slice Av kl cv).ownBlock = some k) hon5 fun k e => e) (by have := hnb.out; rw [HKL.out] at this; exact this)); have e5 := b5.cell; have f5 := b5.frozen; have B5 := Lib.hid b5; have HOWN5 := Lib.hid hown5; have HON5 := Lib.hid hon5; clear hown5 hon5 b5))
      have htp : Turn (fun k => k = w.heap.size + 1 ∨ (Value.slice Av kl cv).ownBlock = some k) W (w5.setCell ⟨w.heap.size + 1, 0, none⟩ (.slice A5 (kl + 1) c5)) := ((Turn.alloc W _).trans (Turn.onto HON5.out fun k e => .inr e)).trans (Turn.setCell _ _ _ (.inl rfl))
      have hlv : ∀ k, (Value.slice Av kl cv).ownBlock = some k → w.heap.size + 5 ≤ k ∧ k < W.heap.size ∧ ¬ s k := fun k e => ⟨(World.ownsRow.lt hown k e).1, (World.ownsRow.lt hown k e).2, HVS.out k (by rw [HKL.out]; exact e)⟩
      have hz5 := HON5.out.size
      simp only [World.size_alloc] at hz5
      have hl5 : ∀ k, (Value.slice A5 (kl + 1) c5).ownBlock = some k → (Value.slice Av kl cv).ownBlock = some k ∨ W.heap.size ≤ k := fun k e => by
        rcases HON5.out.at_ with h | ⟨g, h, hg⟩
        · exact .inl (h ▸ e)
        · rw [h] at e; injection e with e; simp at hg; exact .inr (by omega)
      refine ⟨htp.mono fun k _ e => ?_, ⟨fun k e => ⟨(HI.out.sep k e).1, by have := (HI.out.sep k e).2; rw [World.size_setCell]; omega⟩, HI.out.below.trans (htp.below (fun j e => ?_) HI.out.below.size), by rw [World.size_setCell]; omega, HI.out.box.turn htp (fun e => ?_), _, (B5.out.set _), ?_, fun k e e2 => ?_⟩⟩
      · rcases e with rfl | e
        · exact ⟨fun e => by have := (HI.out.sep _ e).1; omega, fun e => by rcases hRw.out _ e with h | h <;> omega, by omega, by omega⟩
        · have := hlv k e
          exact ⟨this.2.2, fun e => by rcases hRw.out _ e with h | h <;> omega, by omega, by omega⟩
      · rcases e with rfl | e
        · omega
        · have := hlv j e; omega
      · rcases e with e | e
        · omega
        · have := hlv _ e; omega
      · rw [HFB.out]
        have h5 := ownsRow_kept HOWN5.out (w' := w5.setCell ⟨w.heap.size + 1, 0, none⟩ (.slice A5 (kl + 1) c5)) fun k e => Below.heap_setCell _ _ _ _ (fun e2 => by
          simp only at e2
          rcases hl5 k e with h | h
          · have := hlv k h; omega
          · omega)
        unfold OwnT
        have e1 : (K ++ [y]).length = kl + 1 := by rw [List.length_append, HKL.out]; rfl
        have e2 : tv (K ++ [y]) = tv K ++ tv [y] := by simp [tv]
        rw [e1, e2]
        exact h5
      · rcases hl5 k e with h | h
        · exact (hlv k h).2.2 e2
        · have := (HI.out.sep k e2).2; omega
    | false =>
      have HFB : Hid ((pre ++ [y]).filter (fun p => decide (first <+: p)) = K) := by unfold Hid; rw [hfb]; rfl
      clear hfb hown hvs hbox
      gi_wp2_with fail
      refine ⟨trivial, (CallsIn.inRound l (callsIn_wide.2 hP.out)).mono ?_⟩
      rintro e wq ⟨rfl, rfl⟩
      gi_wp2_with fail
      refine ⟨Turn.refl _ _, HI.out.sep, HI.out.below, HI.out.size, HI.out.box, _, HBX.out, ?_, HVS.out⟩
      rw [HFB.out]
      exact HOW.out
  case done =>
    rintro s xs W rfl hi hK
    obtain ⟨v, hbox, hown, hvs⟩ := hi.out
    obtain ⟨Av, cv, rfl, -, -⟩ := row_open hown
    have hc1 := hbox.cell
    have HZ2 := Lib.hid hz2
    have hpt := Turn.putObj W w2.heap.size (.deferred none) (T := fun k => k = w2.heap.size) rfl
    have hres : OwnT (W.putObj w2.heap.size (.deferred none)) (w.heap.size + 5) _ _ := ownsRow_kept hown fun k e => hpt.block k (World.ownsRow.lt hown k e).2 (by have := (World.ownsRow.lt hown k e).1; omega)
    have hbel := hi.below.trans (hpt.below (b := w.heap.size) (fun j hj => by omega) hi.below.size)
    have hres2 := Lib.hid (show OwnT (W.putObj w2.heap.size (.deferred none)) w.heap.size _ _ from by
      refine ⟨hres.1, ?_⟩
      rcases hres.2 with h | ⟨g, cap, cur, hv, hg, r⟩
      · exact .inl h
      · exact .inr ⟨g, cap, cur, hv, by omega, r⟩)
    obtain ⟨lz, hlz⟩ : ∃ lz, (xs.filter fun p => decide (first <+: p)).length = lz := ⟨_, rfl⟩
    rw [hlz] at hc1 hres2
    clear hz2 hlz hown hvs hbox hres hD HL hL
    gi_wp2_with fail
    refine ⟨by simp, .inl ⟨_, _, rfl, run_takeDeferred hK, ?_⟩⟩
    exact ⟨_, results_tmp rfl _ _ _, .slice Av lz cv, rfl, hres2.out, hbel⟩
  case stop => exact fun c s pre W _ h => h.elim

theorem list_any {N : Nat} {c F : Nat → Nat} {w : World} {f : Nat} {S : FsM} (h : FsAt c F w f S) (hO : FsOk N S) (hN : N ≤ 10000) (first : Txt) :
    Calls Tryd.prog 18 #[.pointer (some ⟨f, 0, none⟩), .string (strOf first)] w (TextsIs w (S.list first)) :=
  list_core w (some ⟨f, 0, none⟩) first (S.now.map (·.1)) (listR c (w.heap.size + 2)) (fun k hk => by rcases hk with hk | hk; exact .inl (h.lt k hk); exact .inr hk) (by rw [List.length_map]; have := hO.nowN; omega)
    fun W hW hc hl => by rw [List.length_map]; exact sorted1_seq (h.below hW) hO (by omega) _ hc hl 4
theorem list_nil (first : Txt) (w : World) : Calls Tryd.prog 18 #[.pointer none, .string (strOf first)] w (TextsIs w []) :=
  list_core w none first [] (fun _ => False) (fun k hk => hk.elim) (by simp) fun W _ hc hl => sorted1_nil _ W _ hc hl 4
end Go.Proofs.YteidkmiladkoiaaDoor
