/-
  What an item's bytes say of its row: plain lists.
-/
import Derived.Test.YtpjiioeodcinpaaGreatDoorRwPlain
import Derived.Test.YtpjiioeodcinpaaGreatDoorLbD
namespace Go.Proofs.YtpjiioeodcinpaaGreatDoor
open Go.RowKit

theorem ext_row {r s : RowP} (h1 : r.kind = s.kind) (h2 : r.labels = s.labels) (h3 : r.label = s.label) (h4 : r.day = s.day) (h5 : r.id = s.id) : r = s := by
  obtain ⟨a, b, c, d, e⟩ := r
  obtain ⟨a', b', c', d', e'⟩ := s
  simp only at h1 h2 h3 h4 h5
  subst h1; subst h2; subst h3; subst h4; subst h5; rfl
/-- The kind that an item's first byte is. -/
theorem comp_kind {r : RowP} (h : MayR r) {b : List UInt8} (e : makeR r = b) (h0 : 0 < b.length) : r.kind = (b[0].toNat : Int) ∧ 1 ≤ r.kind ∧ r.kind ≤ 5 := by
  obtain ⟨t, e1, k1, k2⟩ := make_head h
  rw [e1] at e
  subst e
  refine ⟨?_, k1, k2⟩
  simp only [List.getElem_cons_zero]
  rw [ofNat_nat]
  omega
theorem comp1 {r : RowP} (h : MayR r) {b : List UInt8} (e : makeR r = b) (hk : r.kind = 1) {m : Nat} (hm : b.length = m + 6) :
    parse ((b.drop 1).take m) = (sortN r.labels, 0) ∧ MayL (sortN r.labels) ∧ sortN (sortN r.labels) = sortN r.labels ∧ canonR r = ⟨1, sortN r.labels, lb0, 0, (num ((b.drop 1).drop (m + 1)) : Nat)⟩ := by
  rcases h.kinds with ⟨-, hl, hx, hd⟩ | ⟨a, _⟩ | ⟨a, _⟩ | ⟨a, _⟩
  · rw [make1 hk] at e
    have hlen := congrArg List.length e
    simp only [List.length_append, List.length_cons, List.length_nil, four_len] at hlen
    have e1 : b.drop 1 = marsh (sortN r.labels) ++ ([0] ++ four r.id.toNat) := by rw [← e]; simp
    have hm1 : (marsh (sortN r.labels)).length = m := by omega
    have h1 := h.id1
    have h2 := h.id2
    rw [e1]
    refine ⟨by rw [List.take_left' hm1, parse_marsh], hl.sort, h.sorts, ?_⟩
    have e2 : (marsh (sortN r.labels) ++ ([0] ++ four r.id.toNat)).drop (m + 1) = four r.id.toNat := by
      rw [← List.append_assoc]; exact List.drop_left' (by rw [List.length_append, hm1]; rfl)
    rw [e2]
    have e3 := num_four r.id.toNat [] (by omega)
    rw [List.append_nil] at e3
    rw [e3]
    exact ext_row hk rfl hx hd (by show r.id = ((r.id.toNat : Nat) : Int); omega)
  · omega
  · omega
  · omega
theorem comp1_len {r : RowP} (h : MayR r) {b : List UInt8} (e : makeR r = b) (hk : r.kind = 1) : 10 ≤ b.length := by
  rcases h.kinds with ⟨-, hl, hx, hd⟩ | ⟨a, _⟩ | ⟨a, _⟩ | ⟨a, _⟩
  · rw [make1 hk] at e
    have hlen := congrArg List.length e
    have := hl.marsh_len
    simp only [List.length_append, List.length_cons, List.length_nil, four_len] at hlen
    omega
  · omega
  · omega
  · omega
theorem comp2 {r : RowP} (h : MayR r) {b : List UInt8} (e : makeR r = b) (hk : r.kind = 2) :
    4 ≤ (b.drop 1).length ∧ parse ((b.drop 1).drop 4) = (sortN r.labels, 0) ∧ MayL (sortN r.labels) ∧ sortN (sortN r.labels) = sortN r.labels ∧ canonR r = ⟨2, sortN r.labels, lb0, 0, (num (b.drop 1) : Nat)⟩ := by
  rcases h.kinds with ⟨-, hl, hx, hd⟩ | ⟨a, _⟩ | ⟨a, _⟩ | ⟨a, _⟩
  · rw [make2 hk] at e
    have e1 : b.drop 1 = four r.id.toNat ++ marsh (sortN r.labels) := by rw [← e]; simp
    have h1 := h.id1
    have h2 := h.id2
    rw [e1]
    refine ⟨by rw [List.length_append, four_len]; omega, by rw [List.drop_left' (four_len _), parse_marsh], hl.sort, h.sorts, ?_⟩
    rw [num_four r.id.toNat _ (by omega)]
    exact ext_row hk rfl hx hd (by show r.id = ((r.id.toNat : Nat) : Int); omega)
  · omega
  · omega
  · omega
theorem comp5 {r : RowP} (h : MayR r) {b : List UInt8} (e : makeR r = b) (hk : r.kind = 5) : 4 ≤ (b.drop 1).length ∧ canonR r = ⟨5, [], lb0, 0, (num (b.drop 1) : Nat)⟩ := by
  rcases h.kinds with ⟨a, _⟩ | ⟨a, _⟩ | ⟨a, _⟩ | ⟨-, hl, hx, hd⟩
  · omega
  · omega
  · omega
  · rw [make5 hk] at e
    have e1 : b.drop 1 = four r.id.toNat ++ [] := by rw [← e]; simp
    have h1 := h.id1
    have h2 := h.id2
    rw [e1]
    refine ⟨by simp [four_len], ?_⟩
    rw [num_four r.id.toNat _ (by omega)]
    exact ext_row hk (by show sortN r.labels = []; rw [hl]; rfl) hx hd (by show r.id = ((r.id.toNat : Nat) : Int); omega)
/-- What is left behind a text. -/
def left (l : List UInt8) : List UInt8 := if (cutR l).2.2 = 0 then l.drop (cutR l).2.1 else []
theorem left_len (l : List UInt8) : (left l).length ≤ l.length := by unfold left; split <;> simp
theorem cut_esc (s r : List UInt8) : (cutR (esc s ++ r)).1 = s ∧ (cutR (esc s ++ r)).2.2 = 0 ∧ left (esc s ++ r) = r := by
  have h := cutR_esc s r
  refine ⟨by rw [h], by rw [h], ?_⟩
  unfold left
  rw [h]
  simp
theorem comp34 {x : Lb} {r : List UInt8} {R : List UInt8} (e : R = escL x ++ r) : (cutR R).2.2 = 0 ∧ (cutR (left R)).2.2 = 0 ∧ left (left R) = r ∧ (strOf (cutR R).1, strOf (cutR (left R)).1) = x := by
  unfold escL at e
  rw [List.append_assoc] at e
  obtain ⟨h1, h2, h3⟩ := cut_esc x.1.data.toList (esc x.2.data.toList ++ r)
  obtain ⟨g1, g2, g3⟩ := cut_esc x.2.data.toList r
  rw [← e] at h1 h2 h3
  rw [h3]
  refine ⟨h2, g2, g3, ?_⟩
  rw [h1, g1, strOf_list, strOf_list]
theorem comp3 {r : RowP} (h : MayR r) {b : List UInt8} (e : makeR r = b) (hk : r.kind = 3) : (cutR (b.drop 1)).2.2 = 0 ∧ (cutR (left (b.drop 1))).2.2 = 0 ∧ 4 ≤ (left (left (b.drop 1))).length ∧
    canonR r = ⟨3, [], (strOf (cutR (b.drop 1)).1, strOf (cutR (left (b.drop 1))).1), 0, (num (left (left (b.drop 1))) : Nat)⟩ := by
  rcases h.kinds with ⟨a, _⟩ | ⟨-, hl, hx, hd⟩ | ⟨a, _⟩ | ⟨a, _⟩
  · omega
  · rw [make3 hk] at e
    have e1 : b.drop 1 = escL r.label ++ four r.id.toNat := by rw [← e]; simp
    obtain ⟨h1, h2, h3, h4⟩ := comp34 e1
    have g1 := h.id1
    have g2 := h.id2
    rw [h3, h4]
    refine ⟨h1, h2, by simp [four_len], ?_⟩
    have e3 := num_four r.id.toNat [] (by omega)
    rw [List.append_nil] at e3
    rw [e3]
    exact ext_row hk (by show sortN r.labels = []; rw [hl]; rfl) rfl hd (by show r.id = ((r.id.toNat : Nat) : Int); omega)
  · omega
  · omega
theorem comp4 {r : RowP} (h : MayR r) {b : List UInt8} (e : makeR r = b) (hk : r.kind = 4) : 4 ≤ (b.drop 1).length ∧ (cutR ((b.drop 1).drop 4)).2.2 = 0 ∧ (cutR (left ((b.drop 1).drop 4))).2.2 = 0 ∧ 4 ≤ (left (left ((b.drop 1).drop 4))).length ∧
    canonR r = ⟨4, [], (strOf (cutR ((b.drop 1).drop 4)).1, strOf (cutR (left ((b.drop 1).drop 4))).1), (num (b.drop 1) : Nat), (num (left (left ((b.drop 1).drop 4))) : Nat)⟩ := by
  rcases h.kinds with ⟨a, _⟩ | ⟨a, _⟩ | ⟨-, hl, hx⟩ | ⟨a, _⟩
  · omega
  · omega
  · rw [make4 hk] at e
    have e1 : b.drop 1 = four r.day.toNat ++ (escL r.label ++ four r.id.toNat) := by rw [← e]; simp
    have e2 : (b.drop 1).drop 4 = escL r.label ++ four r.id.toNat := by rw [e1]; exact List.drop_left' (four_len _)
    obtain ⟨h1, h2, h3, h4⟩ := comp34 e2
    have g1 := h.id1
    have g2 := h.id2
    have g3 := h.day1
    have g4 := h.day2
    rw [h3, h4]
    refine ⟨by rw [e1, List.length_append, four_len]; omega, h1, h2, by simp [four_len], ?_⟩
    have e3 := num_four r.id.toNat [] (by omega)
    rw [List.append_nil] at e3
    rw [e3, e1, num_four r.day.toNat _ (by omega)]
    exact ext_row hk (by show sortN r.labels = []; rw [hl]; rfl) rfl (by show r.day = ((r.day.toNat : Nat) : Int); omega) (by show r.id = ((r.id.toNat : Nat) : Int); omega)
  · omega
/-- Where all rows that make these bytes are one row. -/
def OnlyR (b : List UInt8) (ok : Bool) (r : RowP) : Prop := ∀ s, MayR s → makeR s = b → ok = true ∧ canonR s = r
theorem OnlyR.none_ok {b : List UInt8} {r : RowP} (h : OnlyR b false r) : NoRow b := fun s hs e => absurd (h s hs e).1 (by simp)
theorem OnlyR.none_may {b : List UInt8} {r : RowP} {ok : Bool} (h : OnlyR b ok r) (hn : ¬ MayR r) : NoRow b := fun s hs e => hn ((h s hs e).2 ▸ canonR_may hs)
theorem OnlyR.none_make {b : List UInt8} {r : RowP} {ok : Bool} (h : OnlyR b ok r) (hn : makeR r ≠ b) : NoRow b := fun s hs e => hn (by rw [← (h s hs e).2, canonR_make hs, e])
theorem cut_text_len (b : List UInt8) : (strOf (cutR b).1).size ≤ b.length := by
  rw [strOf_size]
  by_cases h : (cutR b).2.2 = 0
  · have := cutR_ok h; omega
  · have := (cutF_le b [] 0).2 h
    have e : (cutR b).1 = [] := this.1
    rw [e]; simp
end Go.Proofs.YtpjiioeodcinpaaGreatDoor
