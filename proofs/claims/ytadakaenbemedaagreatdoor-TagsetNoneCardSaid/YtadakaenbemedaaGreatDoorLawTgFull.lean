/-
  The law TagsetFull, walked: so many items are in memory, and no more.
-/
import Derived.Test.YtadakaenbemedaaGreatDoorTgAwake
namespace Go.Proofs.YtadakaenbemedaaGreatDoor
open Go.RowKit Go.Maps

theorem and15 (x : Int) : bits .and .i64 x 15 = x % 16 := by
  have e1 : (BitVec.ofInt 64 x).toNat % 16 = (x % 16).toNat := by
    rw [BitVec.toNat_ofInt]
    omega
  have hn : (BitVec.ofInt 64 x &&& BitVec.ofInt 64 15).toNat = (x % 16).toNat := by
    rw [BitVec.toNat_and, show (BitVec.ofInt 64 15).toNat = 15 from by decide, show (15 : Nat) = 2 ^ 4 - 1 from by omega, Nat.and_two_pow_sub_one_eq_mod]
    exact e1
  show IntKind.i64.wrap ((BitVec.ofInt 64 x &&& BitVec.ofInt 64 15).toNat : Int) = _
  rw [hn, IntKind.wrap_i64]
  omega

/-- What is put in, one after another. -/
def itF (i : Nat) : Item := [UInt8.ofNat (i / 250), UInt8.ofNat (i % 250), 7]
def listF (n : Nat) : List Item := (List.range n).map itF
def setF (k : Nat) : SetM := ⟨listF (min k 500), []⟩
theorem u8lt {a b : Nat} (h : a < b) (hb : b < 256) : UInt8.ofNat a < UInt8.ofNat b := by
  rw [UInt8.lt_iff_toNat_lt]
  simp
  omega
theorem itF_lt {i j : Nat} (h : i < j) (hj : j < 512) : ahead (itF i) (itF j) = true := by
  unfold itF
  rw [ahead_cons, Bool.or_eq_true, decide_eq_true_eq, Bool.and_eq_true, beq_iff_eq]
  by_cases e : i / 250 = j / 250
  · right
    refine ⟨by rw [e], ?_⟩
    rw [ahead_cons, Bool.or_eq_true, decide_eq_true_eq]
    exact .inl (u8lt (by omega) (by omega))
  · left
    exact u8lt (by omega) (by omega)
theorem listF_ri {n : Nat} (h : n ≤ 512) : Ri ahead (listF n) := by
  unfold listF
  refine List.pairwise_map.2 (List.Pairwise.imp_of_mem (fun {a b} _ hb hab => itF_lt hab ?_) List.pairwise_lt_range)
  have := List.mem_range.1 hb
  omega
theorem listF_len (n : Nat) : (listF n).length = n := by simp [listF]
theorem listF_succ (n : Nat) : listF (n + 1) = listF n ++ [itF n] := by simp [listF, List.range_succ]
theorem itF_bad (i : Nat) : badL (itF i) = false := rfl
theorem setF_fit (k : Nat) : SetFit (setF k) := ⟨⟨listF_ri (by omega), fun x hx => by
    obtain ⟨i, -, rfl⟩ := List.mem_map.1 hx
    exact itF_bad i, by show (listF _).length ≤ 500; rw [listF_len]; omega, by simp [setF]⟩, by unfold SetM.total; show _ + (listF _).length ≤ 900; rw [listF_len]; simp [setF]; omega⟩
theorem setF_has {k i : Nat} (hi : i < 512) : (setF k).has (itF i) = decide (i < min k 500) := by
  have : (setF k).has (itF i) = decide (itF i ∈ listF (min k 500)) := by unfold SetM.has SetM.tiers setF; simp
  rw [this, decide_eq_decide]
  constructor
  · intro h
    obtain ⟨j, hj, e⟩ := List.mem_map.1 h
    have hj := List.mem_range.1 hj
    rcases Nat.lt_trichotomy i j with h1 | h1 | h1
    · omega
    · omega
    · have := itF_lt h1 hi
      rw [e, ahead_irrefl] at this
      cases this
  · exact fun h => List.mem_map_of_mem (List.mem_range.2 h)
theorem setF_add {k : Nat} (hk : k < 512) : (setF k).add (itF k) = (setF (k + 1), if k < 500 then 0 else 2) := by
  unfold SetM.add
  rw [if_neg (by rw [itF_bad]; simp), setF_has hk]
  have hl : (setF k).mem.length = min k 500 := listF_len _
  by_cases h5 : k < 500
  · rw [if_neg (by simp; omega), if_neg (by omega), if_pos h5]
    have e1 : setF (k + 1) = ⟨listF (k + 1), []⟩ := by unfold setF; rw [Nat.min_eq_left (by omega)]
    have e2 : (setF k).mem = listF k := by unfold setF; rw [Nat.min_eq_left (by omega)]
    rw [e1, e2, ← listF_succ, uniq_idem KBo (listF_ri (by omega))]
    rfl
  · rw [if_neg (by simp; omega), if_pos (by omega), if_neg h5]
    have : setF (k + 1) = setF k := by unfold setF; rw [Nat.min_eq_right (by omega), Nat.min_eq_right (by omega)]
    rw [this]
theorem setF_again {k : Nat} (hk : 1 ≤ k) : (setF k).add [0, 0, 7] = (setF k, 0) := by
  have e : ([0, 0, 7] : Item) = itF 0 := rfl
  unfold SetM.add
  rw [e, if_neg (by rw [itF_bad]; simp), setF_has (by omega), if_pos (by simp; omega)]
theorem setF_flush {k : Nat} (hk : 1 ≤ k) : (setF k).flush.1 = ⟨[], [listF (min k 500)]⟩ ∧ (setF k).flush.2.2 = true := by
  have hl : (setF k).mem.length = min k 500 := listF_len _
  unfold SetM.flush
  rw [if_neg (by rw [hl]; simp [setF]; omega)]
  exact ⟨rfl, rfl⟩
theorem listF_ahead9 (k : Nat) (hk : k ≤ 512) : Ri ahead (listF k ++ [[9, 9]]) := by
  refine List.pairwise_append.2 ⟨listF_ri hk, by simp, fun a ha b hb => ?_⟩
  obtain ⟨i, hi, rfl⟩ := List.mem_map.1 ha
  have hi := List.mem_range.1 hi
  rw [List.mem_singleton.1 hb]
  unfold itF
  rw [ahead_cons, Bool.or_eq_true, decide_eq_true_eq]
  exact .inl (u8lt (a := i / 250) (b := 9) (by omega) (by omega))
theorem setG_all (k : Nat) (hk : k ≤ 512) : uniqL ahead ([listF k].flatten ++ [[9, 9]]) = listF k ++ [[9, 9]] := by
  rw [List.flatten_cons, List.flatten_nil, List.append_nil]
  exact uniq_idem KBo (listF_ahead9 k hk)
theorem setG_add (k : Nat) (hk : k ≤ 512) : (SetM.mk [] [listF k]).add [9, 9] = (⟨[[9, 9]], [listF k]⟩, 0) := by
  unfold SetM.add
  have hh : (SetM.mk [] [listF k]).has [9, 9] = false := by
    rw [SetM.has_eq, decide_eq_false_iff_not, mem_all]
    rintro (h | h)
    · simp only [List.flatten_cons, List.flatten_nil, List.append_nil] at h
      have := (List.pairwise_append.1 (listF_ahead9 k hk)).2.2 _ h _ (List.mem_singleton.2 rfl)
      rw [ahead_irrefl] at this
      cases this
    · simp at h
  rw [if_neg (by decide), if_neg (by rw [hh]; simp), if_neg (by simp)]
  rfl

theorem add_bad (S : Nat) (Bx : Option Addr) (lx dx : Nat) (h : lx < 1 ∨ 400 < lx) (w : World) : Calls Tryz.prog 11 #[.pointer (some ⟨S, 0, none⟩), .slice Bx lx dx] w fun e w' => e = .returned (.int .i64 1) ∧ w = w' := by
  by_cases h1 : lx < 1
  · clear h
    go_enter Tryz.func11, Tryz.ntmps11
    go_wp2
    go_ret
    exact ⟨rfl, rfl⟩
  · have h4' : (400 : Int) < (lx : Int) := by omega
    have h1' : (1 : Int) ≤ (lx : Int) := by omega
    clear h
    go_enter Tryz.func11, Tryz.ntmps11
    go_wp2
    go_ret
    exact ⟨rfl, rfl⟩
theorem add_nil (Bx : Option Addr) (lx dx : Nat) (w : World) : Calls Tryz.prog 11 #[.pointer none, .slice Bx lx dx] w fun e w' => e = .returned (.int .i64 1) ∧ w = w' := by
  go_enter Tryz.func11, Tryz.ntmps11
  go_wp2
  go_ret
  exact ⟨rfl, rfl⟩

/-- Some bytes, as a slice literal lays them. -/
theorem litN (w wa : World) (cs : Array Value) (l : Item) (hcs : cs = (bv l).toArray) (h : w.alloc (.cells cs 5) = wa) : Sees wa wa.heap.size (some ⟨w.heap.size, 0, none⟩) (bv l) ∧ Below w.heap.size w wa ∧ wa.heap.size = w.heap.size + 1 := by
  subst h
  refine ⟨?_, (Below.refl _ w).alloc (Nat.le_refl _) _, by simp⟩
  have := sees_new w l 5 cs hcs
  simpa using this

set_option maxRecDepth 100000 in
set_option maxHeartbeats 3200000 in
theorem TagsetFull_small (more : Int) (w : World) (hH : Halves w) : Calls Tryz.prog 3 #[.int .i64 more] w (IsTrue w) := by
  have hnot : ∀ (x : Bool) (w : World), (Op.unary .not (.bool x)).run Tryz.prog w = .ok (.bool (!x)) w := fun _ _ => rfl
  have h15 := and15 more
  obtain ⟨mm, hmm⟩ : ∃ mm : Nat, more % 16 = (mm : Int) := ⟨(more % 16).toNat, by omega⟩
  rw [hmm] at h15
  have hm16 : mm < 16 := by omega
  obtain ⟨n, hn⟩ : ∃ n, 495 + mm = n := ⟨_, rfl⟩
  have hwn : IntKind.i64.wrap (495 + (mm : Int)) = (n : Int) := by rw [IntKind.wrap_i64]; omega
  have hn1 : 495 ≤ n := by omega
  have hn2 : n ≤ 510 := by omega
  have HH := Lib.hid hH
  clear hmm hn hm16 hH
  go_enter Tryz.func3, Tryz.ntmps3
  go_wp2_with fail
  refine (awake_any w HH.out).mono ?_
  rintro e w0 ⟨rfl, hb0⟩
  go_wp2_with fail
  refine (new_any w0).mono ?_
  rintro e w1 ⟨rfl, hA1, hb1'⟩
  obtain ⟨S, hS⟩ : ∃ S, w0.heap.size + 1 = S := ⟨_, rfl⟩
  rw [hS]
  obtain ⟨m, hm⟩ : ∃ m : Nat → Prop, (fun k => w0.heap.size ≤ k ∧ k < w1.heap.size) = m := ⟨_, rfl⟩
  rw [hm, hS] at hA1
  have hmlow : ∀ j, m j → w.heap.size ≤ j := fun j e => by rw [← hm] at e; have := hb0.size; omega
  have hb1 := hb0.trans (hb1'.mono hb0.size)
  have HA1 := Lib.hid hA1
  clear hA1 hS hm hb1'
  go_wp2
  go_loopg [6] n (fun g i wr => ∃ k : Nat, k + g = n ∧ i = .int .i64 k ∧ Hid (SetAt m wr S (setF k)) ∧ Below w.heap.size w wr)
  case atStart => exact ⟨0, by omega, rfl, HA1.out, hb1⟩
  case round =>
    obtain ⟨k, hk, rfl, hA, hb⟩ := hrel
    have hbs := hb.size
    by_cases hlt : k < n
    · obtain ⟨a, ha⟩ : ∃ a, k / 250 = a := ⟨_, rfl⟩
      obtain ⟨b, hbb⟩ : ∃ b, k % 250 = b := ⟨_, rfl⟩
      have hq : (k : Int).tdiv 250 = (a : Int) := by rw [Int.tdiv_eq_ediv_of_nonneg (by omega)]; omega
      have hr : (k : Int).tmod 250 = (b : Int) := by rw [Int.tmod_eq_emod_of_nonneg (by omega)]; omega
      have ha9 : a ≤ 2 := by omega
      have hb9 : b < 250 := by omega
      have hqa : (a : Int) % 256 = (a : Int) := by omega
      have hrb : (b : Int) % 256 = (b : Int) := by omega
      obtain ⟨wa, hwa⟩ : ∃ wa, wr.alloc (.cells #[.int .u8 (a : Int), .int .u8 (b : Int), .int .u8 7] 5) = wa := ⟨_, rfl⟩
      obtain ⟨hxa, hba, hza⟩ := litN wr wa _ (itF k) (by unfold itF; rw [ha, hbb]; simp [bv]; omega) hwa
      have hC := Lib.hid (add_any m wa S _ (hA.out.below hba) (setF_fit k) _ 3 3 (itF k) rfl (by omega) hxa)
      rw [setF_add (by omega)] at hC
      have HBA := Lib.hid (hb.trans (hba.mono hbs))
      by_cases h5 : k < 500
      · rw [if_pos h5] at hC
        have h5' : (k : Int) < 500 := by omega
        clear hA hxa hza ha hbb hba
        go_wp2_with fail
        refine hC.out.mono ?_
        rintro e w2 ⟨rfl, st⟩
        have hA2 := Lib.hid st.set
        have hb2 := HBA.out.trans (st.turn.below hmlow HBA.out.size)
        clear hC st
        go_wp2
        go_roundg (n - (k + 1))
        case measure => omega
        case rel => exact ⟨k + 1, by omega, by go_num, hA2.out, hb2⟩
      · rw [if_neg h5] at hC
        have h5' : (500 : Int) ≤ (k : Int) := by omega
        clear hA hxa hza ha hbb hba
        go_wp2_with fail
        refine hC.out.mono ?_
        rintro e w2 ⟨rfl, st⟩
        have hA2 := Lib.hid st.set
        have hb2 := HBA.out.trans (st.turn.below hmlow HBA.out.size)
        clear hC st
        go_wp2
        go_roundg (n - (k + 1))
        case measure => omega
        case rel => exact ⟨k + 1, by omega, by go_num, hA2.out, hb2⟩
    · obtain rfl : k = n := by omega
      clear hlt
      obtain ⟨wa, hwa⟩ : ∃ wa, wr.alloc (.cells #[.int .u8 0, .int .u8 0, .int .u8 7] 5) = wa := ⟨_, rfl⟩
      obtain ⟨hxa, hba, hza⟩ := litN wr wa _ [0, 0, 7] (by simp [bv]) hwa
      have hC := Lib.hid (add_any m wa S _ (hA.out.below hba) (setF_fit k) _ 3 3 [0, 0, 7] rfl (by omega) hxa)
      rw [setF_again (by omega)] at hC
      have HBA := Lib.hid (hb.trans (hba.mono hbs))
      clear hA hxa hza hba
      go_wp2_with fail
      refine hC.out.mono ?_
      rintro e w2 ⟨rfl, st⟩
      have hA2 := st.set
      have hb2 := HBA.out.trans (st.turn.below hmlow HBA.out.size)
      have hFl := Lib.hid (flush_any m w2 S _ hA2 (setF_fit k) (HH.out.below hb2 HH.out.1))
      rw [(setF_flush (by omega)).1, (setF_flush (by omega)).2] at hFl
      clear hC st hwa
      go_wp2_with fail
      refine hFl.out.mono ?_
      rintro e w3 ⟨A3, c3, rfl, fs3⟩
      obtain ⟨m3, st3, -⟩ := fs3.out
      have hA3 := st3.set
      have hm3 : ∀ j, m3 j → w.heap.size ≤ j := fun j e => by
        rcases st3.new j e with e | e
        · exact hmlow j e
        · have := hb2.size; omega
      have hb3 := hb2.trans (st3.turn.below hmlow hb2.size)
      have hs3 := hb3.size
      have hgf : SetFit ⟨[], [listF (min k 500)]⟩ := ⟨by have := (setF_fit k).ok.flush; rw [(setF_flush (by omega)).1] at this; exact this, by unfold SetM.total; simp [listF_len]; omega⟩
      have hgg : SetFit ⟨[[9, 9]], [listF (min k 500)]⟩ := ⟨by have := hgf.ok.add [9, 9]; rw [setG_add _ (by omega)] at this; exact this, by unfold SetM.total; simp [listF_len]; omega⟩
      obtain ⟨wb, hwb⟩ : ∃ wb, w3.alloc (.cells #[.int .u8 9, .int .u8 9] 5) = wb := ⟨_, rfl⟩
      obtain ⟨hxb, hbb, hzb⟩ := litN w3 wb _ [9, 9] (by simp [bv]) hwb
      have hC := Lib.hid (add_any m3 wb S _ (hA3.below hbb) hgf _ 2 2 [9, 9] rfl (by omega) hxb)
      rw [setG_add _ (by omega)] at hC
      have HBB := Lib.hid (hb3.trans (hbb.mono hs3))
      have HGG := Lib.hid hgg
      clear hFl fs3 st3 hgf hgg hxb hbb hzb
      go_wp2_with fail
      refine hC.out.mono ?_
      rintro e w4 ⟨rfl, st4⟩
      have hA4 := Lib.hid st4.set
      have hb4 := HBB.out.trans (st4.turn.below hm3 HBB.out.size)
      have hFr := Lib.hid (fresh_any hA4.out)
      have hB0 := fun W => Lib.hid (add_bad S none 0 0 (.inl (by omega)) W)
      clear hC st4 hwb
      go_wp2_with fail
      refine hFr.out.mono ?_
      rintro e w5 ⟨rfl, rfl⟩
      rw [show ([[9, 9]] : List Item).length = 1 from rfl]
      clear hFr
      go_wp2_with fail
      refine (hB0 _).out.mono ?_
      rintro e w5 ⟨rfl, rfl⟩
      obtain ⟨ti, hti, hz0, hz1, hz2⟩ := info_parts Tryz.binfo
      obtain ⟨w5, hms, -, hg5⟩ := run_makeSlice_full (P := Tryz.prog) w4 0 27 5 ti (.int .u8 0) 1 Tryz.underlying27 hti hz0 hz1 .i64 .i64 401 (by omega) (by rw [hz2]; omega) (by simp only [maxLen]; omega) (by omega)
      have hms' : (Instr.makeSlice 27 (.int .i64 401) (.int .i64 401)).run Tryz.prog w4 = .ok (.slice (some ⟨w4.heap.size, 0, none⟩) 401 401) w5 := hms
      have hb5 : Below w4.heap.size w4 w5 := (Below.refl _ w4).grown hg5 (Nat.le_refl _) (fun j e => by cases e)
      have hB1 := fun W => Lib.hid (add_bad S (some ⟨w4.heap.size, 0, none⟩) 401 401 (.inr (by omega)) W)
      have hA5 := hA4.out.below hb5
      have hF := Lib.hid (setFrom_any hA5 HGG.out (x := []) (Bx := none) (lx := 0) (dx := 0) rfl ⟨.inl rfl⟩ 1073741824)
      have hall : (fromL (SetM.mk [[9, 9]] [listF (min k 500)]).all []).take (1073741824 : Int).toNat = listF (min k 500) ++ [[9, 9]] := by
        rw [fromL_nil, show (SetM.mk [[9, 9]] [listF (min k 500)]).all = listF (min k 500) ++ [[9, 9]] from setG_all _ (by omega)]
        exact List.take_of_length_le (by rw [List.length_append, listF_len]; simp; omega)
      rw [hall] at hF
      have hb05 := hb4.trans (hb5.mono hb4.size)
      obtain ⟨ln, hln⟩ : ∃ ln, (listF (min k 500) ++ [[9, 9]]).length = ln := ⟨_, rfl⟩
      have hlv : ln = min k 500 + 1 := by rw [← hln, List.length_append, listF_len]; rfl
      have hmin : IntKind.i64.wrap (min (k : Int) 500 + 1) = (ln : Int) := by rw [IntKind.wrap_i64]; omega
      clear hms hg5 hall hB0
      go_wp2_with fail
      refine (hB1 _).out.mono ?_
      rintro e w6 ⟨rfl, rfl⟩
      go_wp2_with fail
      refine hF.out.mono ?_
      rintro e w6 ⟨A6, c6, rfl, -, hb6⟩
      rw [hln]
      clear hln hlv hF
      go_wp2
      go_ret
      exact ⟨rfl, hb05.trans (hb6.mono hb05.size)⟩
end Go.Proofs.YtadakaenbemedaaGreatDoor
