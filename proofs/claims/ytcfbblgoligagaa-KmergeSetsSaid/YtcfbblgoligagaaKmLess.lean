/-
  kmerge.Less, walked: the numbers of a row that another one hasn't.
-/
import Derived.Test.YtcfbblgoligagaaKmRefMeet
import Derived.Shelf.SlicesE.DeleteFunc
import Derived.Shelf.Slices.SearchI
import Derived.Shelf.Slices.Empties
import Derived.Lib.OwnBridge
namespace Go.Proofs.Ytcfbblgoligagaa.KI
open Go.RowKit Go.Shelf Go.Sort

theorem ownsRow_le' {w : World} {base base' size n : Nat} {e : TypeId} {v : Value} {xs : List Value} (h : w.ownsRow base e size v n xs) (hb : base' ≤ base) : w.ownsRow base' e size v n xs :=
  ⟨h.1, h.2.elim Or.inl fun ⟨g, cap, cur, hv, hg, r⟩ => Or.inr ⟨g, cap, cur, hv, Nat.le_trans hb hg, r⟩⟩
theorem addr_lit {w : World} {ad : Addr} {v : Value} (h : w.cell? ad = some v) : ∃ b o, ad = ⟨b, o, none⟩ := by
  obtain ⟨b, o, sp⟩ := ad
  cases sp with
  | none => exact ⟨b, o, rfl⟩
  | some s =>
    unfold World.cell? at h
    simp only [Option.isSome_some, if_true] at h
    split at h <;> cases h

/-- slices.BinarySearch in rising numbers: whether one is among them. -/
theorem Search_any (B : Option Addr) (n c : Nat) (b : List Int) (hb : Ri lt b) (hn : b.length = n) (x : Int) (w : World) (hS : Sees w w.heap.size B (iv b)) (hn9 : n ≤ 1000000000) :
    Calls Try.prog 33 #[.slice B n c, .int .i64 x] w fun e w' => ∃ k : Nat, e = .returned (.tuple #[.int .i64 (k : Nat), .bool (decide (x ∈ b))]) ∧ ∃ q, w' = w.drewN q := by
  by_cases h0 : n = 0
  · subst h0
    have hb0 : b = [] := List.eq_nil_of_length_eq_zero hn
    subst hb0
    refine (Any.slices_BinarySearch_int_empty Try.searchI B c x w).mono fun e w' ⟨he, hw⟩ => ⟨0, by rw [he]; simp, 0, hw⟩
  · obtain ⟨ad, rfl, -, hx⟩ := Sees.iat hS (k := 0) (by omega)
    have hx' : w.cell? ad = some (.int .i64 (b[0]'(by omega))) := by simpa [Addr.add] using hx
    obtain ⟨blk, off, rfl⟩ := addr_lit hx'
    have hc : ∀ j, j < b.length → w.cell? ⟨blk, off + j, none⟩ = some (.int .i64 (b.getD j 0)) := fun j hj => by
      obtain ⟨ad, e, -, h⟩ := Sees.iat hS hj
      obtain rfl := Option.some.inj e
      rw [Addr.add_lit] at h
      rw [h, List.getD_eq_getElem?_getD, List.getElem?_eq_getElem hj]
      rfl
    refine (Any.slices_BinarySearch_int Try.searchI blk off n c b x w (by omega) (by omega) hc ?_).mono fun e w' ⟨he, hw⟩ => ⟨(b.take n).countP (· < x), ?_, hw⟩
    · rw [List.take_of_length_le (by omega)]
      exact List.Pairwise.imp (fun h => by simp only [lt, decide_eq_true_eq] at h; omega) hb
    · rw [he, List.take_of_length_le (by omega : b.length ≤ n)]
      congr 5
      rw [← Bool.decide_coe (b.contains x)]
      simp

set_option maxRecDepth 100000 in
set_option maxHeartbeats 400000 in
theorem less1_any (Pb : Nat) (B : Option Addr) (n c : Nat) (b : List Int) (hb : Ri lt b) (hn : b.length = n) (x : Int) (w : World) (hcell : w.cell? ⟨Pb, 0, none⟩ = some (.slice B n c)) (hS : Sees w w.heap.size B (iv b)) (hn9 : n ≤ 1000000000) :
    Calls Try.prog 32 #[.int .i64 x, .pointer (some ⟨Pb, 0, none⟩)] w (BoolIs w (decide (x ∈ b))) := by
  have hs := Lib.hid (Search_any B n c b hb hn x w hS hn9)
  obtain ⟨t, ht⟩ : ∃ t, decide (x ∈ b) = t := ⟨_, rfl⟩
  rw [ht] at hs ⊢
  clear ht hn hb hS
  go_enter Try.func32, Try.ntmps32
  go_wp2_with fail
  refine hs.out.mono ?_
  rintro e w' ⟨k, rfl, q, rfl⟩
  go_wp2
  go_ret
  exact ⟨rfl, q, rfl⟩

set_option maxRecDepth 100000 in
set_option maxHeartbeats 400000 in
theorem IndexFunc_empty (A : Option Addr) (c : Nat) (f : Value) (hf : ∃ g lb, f = .func (.func g) #[] lb) (w : World) : Calls Try.prog 40 #[.slice A 0 c, f] w fun e w' => e = .returned (.int .i64 (-1)) ∧ w = w' := by
  obtain ⟨g, lb, rfl⟩ := hf
  go_enter Try.func40, Try.ntmps40
  go_wp2
  go_loop [8] (fun i => i = .int .i64 0) (fun _ => 0)
  case atStart => rfl
  case round =>
    subst hrel
    go_wp2
    go_ret
    exact ⟨rfl, rfl⟩
set_option maxRecDepth 100000 in
set_option maxHeartbeats 400000 in
theorem DeleteFunc_empty (A : Option Addr) (c : Nat) (g : FuncId) (lb : Array Value) (w : World) : Calls Try.prog 31 #[.slice A 0 c, .func (.func g) #[] lb] w fun e w' => e = .returned (.slice A 0 c) ∧ w = w' := by
  have hi := fun w => Lib.hid (IndexFunc_empty A c (.func (.func g) #[] lb) ⟨g, lb, rfl⟩ w)
  go_enter Try.func31, Try.ntmps31
  go_wp2_with fail
  refine (hi _).out.mono ?_
  rintro e w' ⟨rfl, rfl⟩
  go_wp2
  go_ret
  exact ⟨rfl, rfl⟩

/-- What is left of a row of the call's own. -/
theorem Delete_any (Pb : Nat) (B : Option Addr) (nb cb : Nat) (b : List Int) (hb : Ri lt b) (hnb : b.length = nb) (hnb9 : nb ≤ 1000000000) (base : Nat) (v : Value) (a : List Int) (w : World) (hown : w.ownsRow base 3 1 v a.length (a.map val)) (hna : a.length ≤ 1000000000)
    (hcell : w.cell? ⟨Pb, 0, none⟩ = some (.slice B nb cb)) (hS : SeesM (fun k => k < base) w B (iv b)) (hPb : Pb < base) (hbase : base ≤ w.heap.size) :
    Calls Try.prog 31 #[v, .func (.func 32) #[] #[.pointer (some ⟨Pb, 0, none⟩)]] w fun e w' => ∃ v', e = .returned v' ∧ w'.ownsRow base 3 1 v' (a.filter fun x => !decide (x ∈ b)).length (iv (a.filter fun x => !decide (x ∈ b))) ∧ Below base w w' := by
  have hP := World.block_lt_of_cell? w _ hcell
  simp only at hP
  have hgive : ∀ (W : World) (x : Int), W.cell? ⟨Pb, 0, none⟩ = some (.slice B nb cb) → Sees W W.heap.size B (iv b) → FnGives Try.prog 32 #[.pointer (some ⟨Pb, 0, none⟩)] #[val x] (.bool (decide (x ∈ b))) W := fun W x h1 h2 =>
    less1_any Pb B nb cb b hb hnb x W h1 h2 hnb9
  by_cases h0 : a.length = 0
  · have ha : a = [] := List.eq_nil_of_length_eq_zero h0
    subst ha
    obtain ⟨A, c, rfl, -⟩ := own_slice hown
    refine (DeleteFunc_empty A c _ _ w).mono fun e w' ⟨he, hw⟩ => ⟨_, he, ?_, ?_⟩
    · rw [← hw]; exact hown
    · rw [← hw]; exact Below.refl _ _
  · obtain ⟨g, cap, rfl, hg1, hg2, hn, hm, hl, hH⟩ := Lib.holds_of_ownsRow hown (fun e => by rw [e] at hown; rcases hown.2 with ⟨-, h⟩ | ⟨_, _, _, h, -⟩; exact h0 h; cases h)
    have hsw : ∀ (n : Nat) (os : Array Obj) (dk : Array Int), Kept (fun k => k < base) w (sortWorld val w g 0 n dk os) := fun n os dk k hk => by rw [sw_heap val w g n dk os k (by omega), if_neg (by omega)]
    have hp : PredAt Try.prog 32 #[.pointer (some ⟨Pb, 0, none⟩)] val (fun x => decide (x ∈ b)) w := fun W x hbW => hgive W x ((hbW.cell (p := ⟨Pb, 0, none⟩) hP).trans hcell) ((hS.keep (Kept.of_below hbW fun k e => by omega)).sees fun k e => by have := hbW.size; omega)
    have hpo : PredOver Try.prog 32 #[.pointer (some ⟨Pb, 0, none⟩)] val (fun x => decide (x ∈ b)) g 0 a.toArray.size w := fun n os dk x _ => hgive _ x (((hsw n os dk).cell (p := ⟨Pb, 0, none⟩) hPb).trans hcell) ((hS.keep (hsw n os dk)).sees fun k e => by have := sw_size val w g n dk os; omega)
    have hcon := AnyE.slices_DeleteFunc Try.delI val (fun x => val_one x) (fun x => decide (x ∈ b)) 32 #[.pointer (some ⟨Pb, 0, none⟩)] (enters_of Try.func32 (by kernel_rfl) rfl) 0 (by intro w; kernel_rfl) g 0 cap a.toArray w hp hpo hH (by rw [List.size_toArray]; omega) (by rw [List.size_toArray]; exact hn)
    change Calls Try.prog 31 _ _ _ at hcon
    rw [List.size_toArray] at hcon
    refine hcon.mono fun e w' ⟨he, q, hw⟩ => ⟨_, he, ?_, ?_⟩
    · have hfl := List.length_filter_le (fun x => !decide (x ∈ b)) a
      have := Lib.ownsRow_putRow (q := q) (k := (a.filter fun x => !decide (x ∈ b)).length) (ys := (a.filter fun x => !decide (x ∈ b)) ++ List.replicate (a.length - (a.filter fun x => !decide (x ∈ b)).length) 0) hown (by simp; omega) hfl
      rw [List.take_left] at this
      rw [hw]
      exact this
    · rw [hw]
      exact Lib.below_putRow (Below.refl _ _) hg1

theorem rowsIn_one (w : World) (B : Option Addr) (n c : Nat) (b : List El) (hn : b.length = n) (hnc : n ≤ c) (hS : Sees w w.heap.size B (b.map val)) : RowsIn (fun k => k < (w.alloc (.cells #[.slice B n c] 30)).heap.size) (w.alloc (.cells #[.slice B n c] 30)) (some ⟨w.heap.size, 0, none⟩) [b] :=
  ⟨fun i hi => by
    have hi0 : i = 0 := by simpa using hi
    subst hi0
    refine ⟨_, B, c, rfl, by simp, ?_, by simpa [hn] using hnc, ?_, fun x _ => ⟨trivial⟩⟩
    · rw [Addr.add_lit, World.cell?_alloc_at _ _ _ _ rfl]; simp [hn]
    · exact (hS.alloc (Nat.le_refl _) _).toM.mono fun k e => by simp; omega⟩

set_option maxRecDepth 100000 in
set_option maxHeartbeats 800000 in
theorem Less_any (A B : Option Addr) (n c m d : Nat) (a b : List Int) (hn : a.length = n) (hnc : n ≤ c) (hm : b.length = m) (hmd : m ≤ d) (w : World) (hS : Sees w w.heap.size A (iv a)) (hS2 : Sees w w.heap.size B (iv b)) (hn9 : n ≤ 1000000) (hm9 : m ≤ 1000000) :
    Calls Try.prog 20 #[.slice A n c, .slice B m d] w (RowI w ((uniqL lt a).filter fun x => !decide (x ∈ uniqL lt b))) := by
  obtain ⟨wb, hwb⟩ : ∃ wb, w.alloc (.cells #[.slice B m d] 30) = wb := ⟨_, rfl⟩
  have hbb : Below w.heap.size w wb := by rw [← hwb]; exact (Below.refl _ w).alloc (Nat.le_refl _) _
  have hzb : wb.heap.size = w.heap.size + 1 := by rw [← hwb]; simp
  have bb : Box1 wb w.heap.size 30 (.slice B m d) := by rw [← hwb]; exact Box1.new w _ _
  have hSb := (hS2.below hbb).more hbb.size
  have hi1 := Lib.hid (Ints_any (some ⟨wb.heap.size, 0, none⟩) 1 1 [b] _ (rowsIn_one wb B m d b hm hmd hSb) rfl (by omega) (by simp; omega) (by simp; omega))
  simp only [List.flatten_cons, List.flatten_nil, List.append_nil] at hi1
  have hub := uniqL_ri ordr b
  have hubl := uniqL_len ordr b
  obtain ⟨ub, hube⟩ : ∃ ub, uniqL lt b = ub := ⟨_, rfl⟩
  rw [hube] at hi1 hub hubl ⊢
  have HB := Lib.hid hub
  have cb := bb.cell
  have fb := bb.frozen
  have hual := uniqL_len ordr a
  have HN := Lib.hid hn
  have HM := Lib.hid hm
  clear hube hub hn hm
  go_enter Try.func20, Try.ntmps20
  go_wp2_with fail
  rw [hzb] at hi1
  refine hi1.out.mono ?_
  rintro e w2 ⟨v2, rfl, hown2, hb2'⟩
  have hb2 : Below wb.heap.size wb w2 := ((Below.refl _ wb).alloc (Nat.le_refl _) _).trans (hb2'.mono (by simp))
  have bb2 := bb.below hb2 bb.lt
  obtain ⟨A2, c2, rfl, hc2⟩ := own_slice hown2
  have cb2 := bb2.cell
  have fb2 := bb2.frozen
  clear hi1
  obtain ⟨w3, hw3⟩ : ∃ w3, w2.setCell ⟨w.heap.size, 0, none⟩ (.slice A2 ub.length c2) = w3 := ⟨_, rfl⟩
  have bb3 : Box1 w3 w.heap.size 30 (.slice A2 ub.length c2) := by rw [← hw3]; exact bb2.set _
  have h03 : Below w.heap.size w w3 := by rw [← hw3]; exact (hbb.trans (hb2.mono (by omega))).setCell (Nat.le_refl _) _
  have hown3 : w3.ownsRow wb.heap.size 3 1 (.slice A2 ub.length c2) ub.length (iv ub) := by
    rw [← hw3]; exact ownsRow_setCell_below (ownsRow_le' hown2 (by simp)) (by simp only; omega) _
  have hz3 : w3.heap.size = w2.heap.size := by rw [← hw3]; simp
  have hS3 := (hS.below h03).more h03.size
  have hi2 := Lib.hid (Ints_any (some ⟨w3.heap.size, 0, none⟩) 1 1 [a] _ (rowsIn_one w3 A n c a HN.out hnc hS3) rfl (by omega) (by simp; have := HN.out; omega) (by simp; have := HN.out; omega))
  simp only [List.flatten_cons, List.flatten_nil, List.append_nil] at hi2
  go_wp2_with fail
  rw [hz3] at hi2
  refine hi2.out.mono ?_
  rintro e w4 ⟨v4, rfl, hown4, hb4'⟩
  clear hi2
  have hb4 : Below w3.heap.size w3 w4 := ((Below.refl _ w3).alloc (Nat.le_refl _) _).trans (hb4'.mono (by simp))
  have bb4 := bb3.below hb4 bb3.lt
  have hsz4 := hb4'.size
  have hSu : Sees w4 w3.heap.size A2 (iv ub) := (Sees.of_own hown3).below hb4
  have hz3' := h03.size
  have hlt := bb3.lt
  have hdel := Lib.hid (Delete_any w.heap.size A2 ub.length c2 ub HB.out rfl (by have := HM.out; omega) _ v4 (uniqL lt a) w4 hown4 (by have := HN.out; omega) bb4.cell (hSu.toM.mono fun k e => by simp; omega) (by simp; omega) hsz4)
  go_wp2_with fail
  refine hdel.out.mono ?_
  rintro e w5 ⟨v5, rfl, hown5, hb5⟩
  go_wp2
  go_ret
  obtain ⟨A5, c5, rfl, hc5⟩ := own_slice hown5
  exact ⟨A5, c5, rfl, hc5, Sees.of_own hown5, (h03.trans (hb4.mono hz3')).trans (hb5.mono (by simp; omega))⟩

/-- That is the document's. -/
theorem less_plain (a b : List Int) : ((uniqL lt a).filter fun x => !decide (x ∈ uniqL lt b)) = lessL a b := by
  unfold lessL
  refine ri_unique ordr ?_ (uniqL_ri ordr _) fun x => ?_
  · exact List.Pairwise.filter _ (uniqL_ri ordr a)
  · rw [uniqL_mem ordr, List.mem_filter, List.mem_filter, uniqL_mem ordr]
    have := uniqL_mem ordr b x
    simp [this]
end Go.Proofs.Ytcfbblgoligagaa.KI
