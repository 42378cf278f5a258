/-
  Several texts in one: RsBase RsPut RsAgain RsAt RsChange RsOps RsOps2 RsSet RsOps3 RsOps4 RsUsed RsList.
-/
import Derived.Test.YteidkmiladkoiaaGreatDoorZSmB
import Derived.Test.YteidkmiladkoiaaGreatDoorZLow
import Derived.Test.YteidkmiladkoiaaGreatDoorZSmA
/-
  The document's files by path: rows of paths, of files, of changes.
-/
namespace Go.Proofs.YteidkmiladkoiaaGreatDoor
open Go.RowKit

def gnum : Option Nat → Int
  | none => -1
  | some n => (n : Int)
/-- Cells of a row of paths; of files. -/
def gv (l : List Giv) : List Value := l.flatMap fun x => [.string (strOf x.1), .int .i64 (gnum x.2)]
def gd (l : Dir) : List Giv := l.map fun x => (x.1, some x.2)
def flv (l : List FileM) : List Value := l.flatMap fun x => [.string (strOf x.b), .int .i64 (x.stays : Int)]
theorem gd_length (l : Dir) : (gd l).length = l.length := by simp [gd]
theorem gv_append (l m : List Giv) : gv (l ++ m) = gv l ++ gv m := by simp [gv]
theorem flv_append (l m : List FileM) : flv (l ++ m) = flv l ++ flv m := by simp [flv]
theorem gv_length (l : List Giv) : (gv l).length = l.length * 2 := by
  induction l with
  | nil => rfl
  | cons x r ih => simp only [gv, List.flatMap_cons, List.length_append, List.length_cons, List.length_nil] at ih ⊢; omega
theorem flv_length (l : List FileM) : (flv l).length = l.length * 2 := by
  induction l with
  | nil => rfl
  | cons x r ih => simp only [flv, List.flatMap_cons, List.length_append, List.length_cons, List.length_nil] at ih ⊢; omega
theorem gv_one (l : List Giv) : ∀ u ∈ gv l, u.oneCell' = true := by
  intro u hu
  simp only [gv, List.mem_flatMap, List.mem_cons, List.not_mem_nil, or_false] at hu
  obtain ⟨x, -, hu⟩ := hu
  rcases hu with rfl | rfl <;> rfl
theorem flv_one (l : List FileM) : ∀ u ∈ flv l, u.oneCell' = true := by
  intro u hu
  simp only [flv, List.mem_flatMap, List.mem_cons, List.not_mem_nil, or_false] at hu
  obtain ⟨x, -, hu⟩ := hu
  rcases hu with rfl | rfl <;> rfl
theorem two_at {α : Type} (p q : α → Value) : ∀ (l : List α) (k : Nat) (hk : k < l.length), (l.flatMap fun x => [p x, q x])[k * 2]? = some (p l[k]) ∧ (l.flatMap fun x => [p x, q x])[k * 2 + 1]? = some (q l[k])
  | x :: r, 0, _ => ⟨rfl, rfl⟩
  | x :: r, k + 1, hk => by
    have := two_at p q r k (by simpa using hk)
    have e1 : (k + 1) * 2 = k * 2 + 1 + 1 := by omega
    simp only [List.flatMap_cons, List.cons_append, List.nil_append, e1, List.getElem?_cons_succ, List.getElem_cons_succ]
    exact this
theorem add_fieldA (a : Addr) (m j : Nat) (hj : 0 < j) : a.add (m + j) = ⟨(a.add m).block, (a.add m).off + j, none⟩ := by
  unfold Addr.add
  by_cases hm : m = 0
  · subst hm
    rw [if_neg (by omega), if_pos rfl]
    simp
  · rw [if_neg (by omega), if_neg hm]
    simp [Nat.add_assoc]
/-- A path's cells, by its number. -/
theorem sees_gv {w : World} {B : Nat} {A : Option Addr} {l : List Giv} (h : Sees w B A (gv l)) {k : Nat} (hk : k < l.length) :
    ∃ ad, A = some ad ∧ ad.block < B ∧ w.cell? (ad.add (k * 2)) = some (.string (strOf l[k].1)) ∧ w.cell? ⟨(ad.add (k * 2)).block, (ad.add (k * 2)).off + 1, none⟩ = some (.int .i64 (gnum l[k].2)) := by
  obtain ⟨h1, h2⟩ := two_at (fun x : Giv => Value.string (strOf x.1)) (fun x => .int .i64 (gnum x.2)) l k hk
  rcases h.out with h | ⟨ad, e, hb, hc⟩
  · have := gv_length l; rw [h] at this; simp at this; omega
  · exact ⟨ad, e, hb, hc _ _ h1, by rw [← add_fieldA ad _ 1 (by omega)]; exact hc _ _ h2⟩
theorem sees_flv {w : World} {B : Nat} {A : Option Addr} {l : List FileM} (h : Sees w B A (flv l)) {k : Nat} (hk : k < l.length) :
    ∃ ad, A = some ad ∧ ad.block < B ∧ w.cell? (ad.add (k * 2)) = some (.string (strOf l[k].b)) ∧ w.cell? ⟨(ad.add (k * 2)).block, (ad.add (k * 2)).off + 1, none⟩ = some (.int .i64 (l[k].stays : Int)) := by
  obtain ⟨h1, h2⟩ := two_at (fun x : FileM => Value.string (strOf x.b)) (fun x => .int .i64 (x.stays : Int)) l k hk
  rcases h.out with h | ⟨ad, e, hb, hc⟩
  · have := flv_length l; rw [h] at this; simp at this; omega
  · exact ⟨ad, e, hb, hc _ _ h1, by rw [← add_fieldA ad _ 1 (by omega)]; exact hc _ _ h2⟩

theorem Tryz.ginfo : (Tryz.prog.info? 84).map (fun i => (i.zero, i.size, i.bytes)) = some (some (.agg #[.string ⟨#[]⟩, .int .i64 0]), 2, 24) := by kernel_rfl
theorem Tryz.flinfo : (Tryz.prog.info? 80).map (fun i => (i.zero, i.size, i.bytes)) = some (some (.agg #[.string ⟨#[]⟩, .int .i64 0]), 2, 24) := by kernel_rfl
theorem info_partsG {o : Option TypeInfo} {z : Option Value} {s b : Nat} (h : o.map (fun i => (i.zero, i.size, i.bytes)) = some (z, s, b)) : ∃ i, o = some i ∧ i.zero = z ∧ i.size = s ∧ i.bytes = b := by
  cases o with
  | none => simp at h
  | some i =>
    simp only [Option.map_some, Option.some.injEq, Prod.mk.injEq] at h
    exact ⟨i, rfl, h.1, h.2.1, h.2.2⟩
/-- Rows of the call's own. -/
def OwnG (w : World) (base : Nat) (v : Value) (l : List Giv) : Prop := w.ownsRow base 84 2 v l.length (gv l)
def OwnF (w : World) (base : Nat) (v : Value) (l : List FileM) : Prop := w.ownsRow base 80 2 v l.length (flv l)
section
variable {w w' : World} {base : Nat} {v : Value} {l : List Giv} {fl : List FileM}
theorem OwnG.nil (w : World) (base : Nat) : OwnG w base (.slice none 0 0) [] := World.ownsRow_nil w base _ 2
theorem OwnF.nil (w : World) (base : Nat) : OwnF w base (.slice none 0 0) [] := World.ownsRow_nil w base _ 2
theorem OwnG.open_ (h : OwnG w base v l) : ∃ A c, v = .slice A l.length c ∧ l.length ≤ c ∧ c ≤ maxLen ∧ Sees w w.heap.size A (gv l) := own_open h
theorem OwnF.open_ (h : OwnF w base v fl) : ∃ A c, v = .slice A fl.length c ∧ fl.length ≤ c ∧ c ≤ maxLen ∧ Sees w w.heap.size A (flv fl) := own_open h
theorem OwnG.below (h : OwnG w base v l) (hb : Below w.heap.size w w') : OwnG w' base v l := own_below h hb
theorem OwnF.below (h : OwnF w base v fl) (hb : Below w.heap.size w w') : OwnF w' base v fl := own_below h hb
theorem own_hold {t : TypeId} {s n : Nat} {cs : List Value} {m : Nat → Prop} (h : w.ownsRow base t s v n cs) (hm : ∀ k, m k → k < base) : ∃ A c, v = .slice A n c ∧ n ≤ c ∧ Hold m w A cs := by
  obtain ⟨A, c, rfl, h1, h2, h3⟩ := own_open h
  refine ⟨A, c, rfl, h1, ?_⟩
  rcases h3.out with e | ⟨ad, rfl, hb, hc⟩
  · exact ⟨⟨.inl e⟩⟩
  · refine ⟨⟨.inr ⟨ad, rfl, ⟨hb, fun e => ?_⟩, hc⟩⟩⟩
    have h5 := own_block h ad.block rfl
    have := hm _ e
    omega
end
theorem wpList_append_g {w : World} {ops : Array Oper} {rest : List Oper} {o : Oper} {a : Act} {Q : Exit → Act → World → Prop} (hgd : o.guard = none) (s x : Operand)
    (ho : o.op = .call { callee := .builtin .append, args := #[s, x], argTypes := #[27, 27] })
    (base : Nat) (v : Value) (l : List Giv) (hs : a.eval s = v) (hown : OwnG w base v l) (B : Nat) (A : Option Addr) (m c : Nat) (news : List Giv) (hx : a.eval x = .slice A m c) (hm : news.length = m) (hsee : Sees w B A (gv news))
    (h63 : l.length + m ≤ 1099511627776) (hbase : base ≤ w.heap.size)
    (h : ∀ v' w', OwnG w' base v' (l ++ news) → Onto w w' v v' → wpList Tryz.prog ops Q rest (a.put o.dst v') w') : wpList Tryz.prog ops Q (o :: rest) a w := by
  obtain ⟨i0, hi0, hz0, hz1, hz2⟩ := info_partsG Tryz.ginfo
  refine wpList_append_v hgd s x _ ho 84 i0 _ 2 24 Tryz.underlying27 hi0 hz0 hz1 hz2 rfl (by omega) base v l.length (gv l) hs hown B A m c (gv news) hx (by rw [gv_length, hm, Nat.mul_comm]) hsee (gv_one _) (by simp only [maxLen]; omega) (by omega) hbase fun v' w' h2 h3 => h v' w' ?_ h3
  unfold OwnG
  rw [gv_append, List.length_append, hm]
  exact h2
theorem wpList_append_f {w : World} {ops : Array Oper} {rest : List Oper} {o : Oper} {a : Act} {Q : Exit → Act → World → Prop} (hgd : o.guard = none) (s x : Operand)
    (ho : o.op = .call { callee := .builtin .append, args := #[s, x], argTypes := #[26, 26] })
    (base : Nat) (v : Value) (l : List FileM) (hs : a.eval s = v) (hown : OwnF w base v l) (B : Nat) (A : Option Addr) (m c : Nat) (news : List FileM) (hx : a.eval x = .slice A m c) (hm : news.length = m) (hsee : Sees w B A (flv news))
    (h63 : l.length + m ≤ 1099511627776) (hbase : base ≤ w.heap.size)
    (h : ∀ v' w', OwnF w' base v' (l ++ news) → Onto w w' v v' → wpList Tryz.prog ops Q rest (a.put o.dst v') w') : wpList Tryz.prog ops Q (o :: rest) a w := by
  obtain ⟨i0, hi0, hz0, hz1, hz2⟩ := info_partsG Tryz.flinfo
  refine wpList_append_v hgd s x _ ho 80 i0 _ 2 24 Tryz.underlying26 hi0 hz0 hz1 hz2 rfl (by omega) base v l.length (flv l) hs hown B A m c (flv news) hx (by rw [flv_length, hm, Nat.mul_comm]) hsee (flv_one _) (by simp only [maxLen]; omega) (by omega) hbase fun v' w' h2 h3 => h v' w' ?_ h3
  unfold OwnF
  rw [flv_append, List.length_append, hm]
  exact h2

/-- Two texts: the same? -/
theorem str_eq {a b : List UInt8} (h : a = b) : ((strOf a).toList == (strOf b).toList) = true := by rw [h]; simp
theorem str_ne {a b : List UInt8} (h : ¬ a = b) : ((strOf a).toList == (strOf b).toList) = false := by rw [strOf_toList, strOf_toList]; simpa using h
theorem look_drop {l : Dir} {p : Txt} {k : Nat} (hk : k < l.length) : lookD (l.drop k) p = if l[k].1 = p then some l[k].2 else lookD (l.drop (k + 1)) p := by
  rw [List.drop_eq_getElem_cons hk]
  unfold lookD
  rw [List.find?_cons]
  by_cases h : l[k].1 = p
  · rw [if_pos h, decide_eq_true h]; rfl
  · rw [if_neg h, decide_eq_false h]
theorem gd_at (l : Dir) (k : Nat) (hk : k < l.length) : (gd l)[k]'(by rw [gd_length]; exact hk) = (l[k].1, some l[k].2) := by simp [gd]

set_option maxRecDepth 100000 in
set_option maxHeartbeats 800000 in
theorem file_any (A : Option Addr) (n c : Nat) (l : Dir) (hn : l.length = n) (h0 : n ≤ 100000) (p : Txt) (w : World) (hS : Sees w w.heap.size A (gv (gd l))) :
    Calls Tryz.prog 44 #[.slice A n c, .string (strOf p)] w fun e w' => e = .returned (.int .i64 (gnum (lookD l p))) ∧ w' = w := by
  obtain ⟨X, hX⟩ : ∃ X, X = lookD l p := ⟨_, rfl⟩
  rw [← hX]
  have HX := Lib.hid hX
  have HN := Lib.hid hn
  clear hX hn
  go_enter Tryz.func44, Tryz.ntmps44
  go_wp2
  go_loopg [5] n (fun g i wr => ∃ k : Nat, k + g = n ∧ i = .int .i64 (k : Int) ∧ Hid (X = lookD (l.drop k) p) ∧ wr = w)
  case atStart => exact ⟨0, by omega, rfl, HX.out, rfl⟩
  case round =>
    obtain ⟨k, hk, rfl, hx, rfl⟩ := hrel
    by_cases hlt : k < n
    · have hkl : k < l.length := by have := HN.out; omega
      obtain ⟨ad, rfl, hb, g1, g2⟩ := sees_gv hS (k := k) (by rw [gd_length]; exact hkl)
      rw [gd_at l k hkl] at g1 g2
      have hstep := Lib.hid (hx.out.trans (look_drop hkl))
      obtain ⟨q, hq⟩ : ∃ q, l[k].1 = q := ⟨_, rfl⟩
      obtain ⟨z, hz⟩ : ∃ z, l[k].2 = z := ⟨_, rfl⟩
      rw [hq] at g1 hstep
      rw [hz] at g2 hstep
      simp only [gnum] at g2
      clear hx hq hz
      by_cases he : q = p
      · have hs := str_eq he
        have hv : Hid (X = some z) := by have := hstep.out; rwa [if_pos he] at this
        clear he hstep
        go_wp2
        go_ret
        exact ⟨by rw [hv.out]; rfl, rfl⟩
      · have hs := str_ne he
        have hv : Hid (X = lookD (l.drop (k + 1)) p) := by have := hstep.out; rwa [if_neg he] at this
        clear he hstep
        go_wp2
        go_roundg (n - (k + 1))
        case measure => omega
        case rel => exact ⟨k + 1, by omega, by go_num, hv, rfl⟩
    · have hv : Hid (X = none) := by have := hx.out; rw [List.drop_eq_nil_of_le (by have := HN.out; omega)] at this; exact this
      clear hx
      go_wp2
      go_ret
      exact ⟨by rw [hv.out]; rfl, rfl⟩
end Go.Proofs.YteidkmiladkoiaaGreatDoor

/-
  The document's put, again.
-/
namespace Go.Proofs.YteidkmiladkoiaaGreatDoor
open Go.RowKit

/-- What is still to be laid. -/
def putRest (l : Dir) (q : Txt) (o : Option Nat) (done : Bool) (k : Nat) : List Giv := if done = true then gd (delD q (l.drop k)) else gd (putD (l.drop k) (q, o))
theorem putRest_start (l : Dir) (q : Txt) (o : Option Nat) : gd (putD l (q, o)) = [] ++ putRest l q o (decide (gnum o < 0)) 0 := by
  cases o with
  | none => rfl
  | some n =>
    have : decide (gnum (some n) < 0) = false := decide_eq_false (by show ¬ (n : Int) < 0; omega)
    rw [this]; rfl
section
variable {l : Dir} {q : Txt} {k : Nat}
theorem putRest_same {o : Option Nat} (hk : k < l.length) (h : l[k].1 = q) : putRest l q o true k = putRest l q o true (k + 1) := by
  unfold putRest
  rw [if_pos rfl, if_pos rfl, List.drop_eq_getElem_cons hk]
  unfold delD
  rw [List.filter_cons, if_neg (by simpa using h)]
theorem putRest_other {o : Option Nat} (hk : k < l.length) (h : ¬ l[k].1 = q) : putRest l q o true k = (l[k].1, some l[k].2) :: putRest l q o true (k + 1) := by
  unfold putRest
  rw [if_pos rfl, if_pos rfl, List.drop_eq_getElem_cons hk]
  unfold delD
  rw [List.filter_cons, if_pos (by simpa using h)]
  rfl
theorem putRest_ahead {m : Nat} (hk : k < l.length) (h : l[k].1 < q) : putRest l q (some m) false k = (l[k].1, some l[k].2) :: putRest l q (some m) false (k + 1) := by
  unfold putRest
  rw [if_neg (by simp), if_neg (by simp), List.drop_eq_getElem_cons hk]
  show gd (insD q m _) = _ :: gd (insD q m _)
  rw [insD, if_pos h]
  rfl
theorem putRest_here {m : Nat} (hk : k < l.length) (h : ¬ l[k].1 < q) : putRest l q (some m) false k = (q, some m) :: putRest l q (some m) true k := by
  unfold putRest
  rw [if_neg (by simp), if_pos rfl, List.drop_eq_getElem_cons hk]
  show gd (insD q m _) = _ :: gd (delD q _)
  rw [insD, if_neg h]
  rfl
theorem putRest_end {o : Option Nat} (hk : l.length ≤ k) : putRest l q o true k = [] := by
  unfold putRest
  rw [if_pos rfl, List.drop_eq_nil_of_le hk]; rfl
theorem putRest_last {m : Nat} (hk : l.length ≤ k) : putRest l q (some m) false k = [(q, some m)] := by
  unfold putRest
  rw [if_neg (by simp), List.drop_eq_nil_of_le hk]; rfl
end
theorem wpList_append_g1 {w : World} {ops : Array Oper} {rest : List Oper} {o : Oper} {a : Act} {Q : Exit → Act → World → Prop} (hgd : o.guard = none) (s x : Operand)
    (ho : o.op = .call { callee := .builtin .append, args := #[s, x], argTypes := #[27, 27] })
    (base : Nat) (v : Value) (l : List Giv) (hs : a.eval s = v) (hown : OwnG w base v l) (q : Txt) (g : Option Nat) (z : Int) (hz : gnum g = z) (t : TypeId) (hx : a.eval x = .slice (some ⟨w.heap.size, 0, none⟩) 1 1)
    (h63 : l.length ≤ 1000000) (hbase : base ≤ w.heap.size)
    (h : ∀ v' w', OwnG w' base v' (l ++ [(q, g)]) → Below base w w' → wpList Tryz.prog ops Q rest (a.put o.dst v') w') : wpList Tryz.prog ops Q (o :: rest) a (w.alloc (.cells #[.string (strOf q), .int .i64 z] t)) := by
  subst hz
  have hb : Below w.heap.size w (w.alloc (.cells #[.string (strOf q), .int .i64 (gnum g)] t)) := (Below.refl _ w).alloc (Nat.le_refl _) _
  have hs2 : Sees (w.alloc (.cells #[.string (strOf q), .int .i64 (gnum g)] t)) (w.heap.size + 1) (some ⟨w.heap.size, 0, none⟩) (gv [(q, g)]) := by
    refine ⟨.inr ⟨_, rfl, by simp, fun j u hu => ?_⟩⟩
    rw [Addr.add_lit, World.cell?_alloc_at _ _ _ _ rfl]
    simpa [gv] using hu
  refine wpList_append_g hgd s x ho base v l hs (hown.below hb) _ _ 1 1 [(q, g)] hx rfl hs2 (by omega) (by simp; omega) fun v' w' h2 h3 => h v' w' h2 ?_
  exact (hb.mono hbase).trans (h3.below (by simp; omega) (own_block hown))

set_option maxRecDepth 100000 in
set_option maxHeartbeats 1600000 in
theorem put_any (A : Option Addr) (n c : Nat) (l : Dir) (hn : l.length = n) (h0 : n ≤ 100000) (q : Txt) (o : Option Nat) (w : World) (hS : Sees w w.heap.size A (gv (gd l))) :
    Calls Tryz.prog 66 #[.slice A n c, .agg #[.string (strOf q), .int .i64 (gnum o)]] w fun e w' => ∃ v, e = .returned v ∧ OwnG w' w.heap.size v (gd (putD l (q, o))) ∧ Below w.heap.size w w' := by
  obtain ⟨W1, hW1⟩ : ∃ W1, w.alloc (.cells #[.string (strOf q), .int .i64 (gnum o)] 84) = W1 := ⟨_, rfl⟩
  have hb1 : Below w.heap.size w W1 := hW1 ▸ (Below.refl _ w).alloc (Nat.le_refl _) _
  have q0 : W1.cell? ⟨w.heap.size, 0, none⟩ = some (.string (strOf q)) := by rw [← hW1, World.cell?_alloc_at _ _ _ _ rfl]; rfl
  have q1 : W1.cell? ⟨w.heap.size, 1, none⟩ = some (.int .i64 (gnum o)) := by rw [← hW1, World.cell?_alloc_at _ _ _ _ rfl]; rfl
  have hs1 : w.heap.size < W1.heap.size := by rw [← hW1]; simp
  obtain ⟨z, hz⟩ : ∃ z, gnum o = z := ⟨_, rfl⟩
  rw [hz] at hW1 q1 ⊢
  have HZ := Lib.hid hz
  have HN := Lib.hid hn
  have Q0 := Lib.hid q0
  have Q1 := Lib.hid q1
  have H0 := Lib.hid h0
  have hrow : ∀ {w' : World} {v : Value} {r : List Giv}, OwnG w' W1.heap.size v r → OwnG w' w.heap.size v r := fun {w' v r} h => ⟨h.1, by
    rcases h.2 with h | ⟨g, cap, cur, rfl, hg, r⟩
    · exact .inl h
    · exact .inr ⟨g, cap, cur, rfl, by omega, r⟩⟩
  obtain ⟨X, hX⟩ : ∃ X, X = gd (putD l (q, o)) := ⟨_, rfl⟩
  have HX := Lib.hid hX
  rw [← hX]
  have hzo : z < 0 ∨ ∃ m, o = some m := by
    cases o with
    | none => exact .inl (by rw [← hz]; decide)
    | some m => exact .inr ⟨m, rfl⟩
  have HZO := Lib.hid hzo
  clear hn hz hX hzo
  go_enter Tryz.func66, Tryz.ntmps66
  go_wp2
  clear q0 q1
  go_loopg [5, 6, 7] n (fun g v d i wr => ∃ (k : Nat) (out : List Giv) (dn : Bool), k + g = n ∧ i = .int .i64 (k : Int) ∧ d = .bool dn ∧ OwnG wr W1.heap.size v out ∧ Hid (out.length ≤ 2 * k) ∧ Hid (X = out ++ putRest l q o dn k) ∧ Hid (dn = false → ∃ m, o = some m) ∧ Below W1.heap.size W1 wr)
  case atStart => exact ⟨0, [], decide (z < 0), by omega, rfl, rfl, OwnG.nil _ _, Nat.zero_le _, by rw [← HZ.out]; exact HX.out.trans (putRest_start l q o), fun e => HZO.out.resolve_left (of_decide_eq_false e), Below.refl _ _⟩
  case round =>
    obtain ⟨k, out, dn, hk, rfl, rfl, hown, hlen, hx, hsm, hb⟩ := hrel
    have q0 : wr.cell? ⟨w.heap.size, 0, none⟩ = some (.string (strOf q)) := (hb.cell hs1).trans Q0.out
    have q1 : wr.cell? ⟨w.heap.size, 1, none⟩ = some (.int .i64 z) := (hb.cell hs1).trans Q1.out
    have hbs := hb.size
    obtain ⟨lo, hlo⟩ : ∃ a, out.length = a := ⟨_, rfl⟩
    have HLO := Lib.hid hlo
    clear hlo
    by_cases hlt : k < n
    · have hkl : k < l.length := by have := HN.out; omega
      obtain ⟨ad, rfl, hbb, g1, g2⟩ := sees_gv (((hS.below hb1).more hb1.size).below hb) (k := k) (by rw [gd_length]; exact hkl)
      rw [gd_at l k hkl] at g1 g2
      have e1 := Lib.hid (putRest_same (l := l) (q := q) (o := o) hkl)
      have e2 := Lib.hid (putRest_other (l := l) (q := q) (o := o) hkl)
      have e3 := Lib.hid (fun m => putRest_ahead (l := l) (q := q) (m := m) hkl)
      have e4 := Lib.hid (fun m => putRest_here (l := l) (q := q) (m := m) hkl)
      obtain ⟨y, hy⟩ : ∃ y, l[k].1 = y := ⟨_, rfl⟩
      obtain ⟨j, hj⟩ : ∃ j, l[k].2 = j := ⟨_, rfl⟩
      rw [hy] at g1 e1 e2 e3 e4
      rw [hj] at g2 e2 e3
      simp only [gnum] at g2
      clear hy hj
      have hge : Hid ((ad.add (k * 2)).block < W1.heap.size) := by unfold Hid; rw [add_block]; exact hbb
      by_cases hyq : y = q
      · have he := str_eq hyq
        have hle : Op.bytesLess (strOf y).toList (strOf q).toList = false := by rw [strOf_toList, strOf_toList, Go.Proofs.bytesLess_eq, hyq]; exact decide_eq_false (lt_irr q)
        have hnl := Lib.hid (show ¬ y < q by rw [hyq]; exact lt_irr q)
        have HYQ := Lib.hid hyq
        clear hyq
        cases dn with
        | true =>
          go_wp2
          go_quiet (fail)
          go_wp2
          go_quiet (fail)
          go_wp2
          go_roundg (n - (k + 1))
          case measure => omega
          case rel => exact ⟨k + 1, _, _, by omega, by go_num, rfl, hown, by unfold Hid; have := hlen.out; omega, by unfold Hid; rw [← e1.out HYQ.out]; exact hx.out, fun e => (by cases e), below_d hb _⟩
        | false =>
          obtain ⟨m, hm⟩ := hsm.out rfl
          have HM := Lib.hid hm
          clear hm
          go_wp2
          go_quiet (fail)
          go_wp2_with (at_builtin; (refine wpList_append_g1 rfl (.tmp 29) (.tmp 31) rfl W1.heap.size _ _ (by rfl) (hown.below (below_d (Below.refl _ _) _)) q o _ HZ.out _ (by rfl) (by have := HLO.out; have := hlen.out; have := H0.out; omega) (by have := hbs; simp; omega) ?_; intro v2 w2 hown2 hb2; have q0' : w2.cell? ⟨w.heap.size, 0, none⟩ = some (.string (strOf q)) := (hb2.cell hs1).trans q0; have q1' : w2.cell? ⟨w.heap.size, 1, none⟩ = some (.int .i64 z) := (hb2.cell hs1).trans q1; have g1' : w2.cell? (ad.add (k * 2)) = some (.string (strOf y)) := (hb2.cell hge.out).trans g1; have g2' : w2.cell? ⟨(ad.add (k * 2)).block, (ad.add (k * 2)).off + 1, none⟩ = some (.int .i64 (j : Int)) := (hb2.cell (p := ⟨(ad.add (k * 2)).block, (ad.add (k * 2)).off + 1, none⟩) hge.out).trans g2))
          go_wp2
          go_quiet (fail)
          go_wp2
          go_roundg (n - (k + 1))
          case measure => omega
          case rel => exact ⟨k + 1, _, _, by omega, by go_num, rfl, hown2, by unfold Hid; have := hlen.out; simp; omega, by unfold Hid; rw [← e1.out HYQ.out]; have := hx.out; rw [HM.out, e4.out m hnl.out] at this; rw [HM.out, this]; simp, fun e => (by cases e), below_d ((below_d hb _).trans hb2) _⟩
      · have he := str_ne hyq
        have HYQ := Lib.hid hyq
        clear hyq
        by_cases hlt2 : y < q
        · have hle : Op.bytesLess (strOf y).toList (strOf q).toList = true := by rw [strOf_toList, strOf_toList, Go.Proofs.bytesLess_eq]; exact decide_eq_true hlt2
          have HLT := Lib.hid hlt2
          clear hlt2
          cases dn with
          | true =>
            go_wp2
            go_quiet (fail)
            go_wp2
            go_quiet (fail)
            go_wp2_with (at_builtin; (refine wpList_append_g1 rfl (.tmp 41) (.tmp 46) rfl W1.heap.size _ _ (by rfl) (hown.below (below_d (Below.refl _ _) _)) y (some j) _ rfl _ (by rfl) (by have := HLO.out; have := hlen.out; have := H0.out; omega) (by have := hbs; simp; omega) ?_; intro v2 w2 hown2 hb2; have q0' : w2.cell? ⟨w.heap.size, 0, none⟩ = some (.string (strOf q)) := (hb2.cell hs1).trans q0; have q1' : w2.cell? ⟨w.heap.size, 1, none⟩ = some (.int .i64 z) := (hb2.cell hs1).trans q1; have g1' : w2.cell? (ad.add (k * 2)) = some (.string (strOf y)) := (hb2.cell hge.out).trans g1; have g2' : w2.cell? ⟨(ad.add (k * 2)).block, (ad.add (k * 2)).off + 1, none⟩ = some (.int .i64 (j : Int)) := (hb2.cell (p := ⟨(ad.add (k * 2)).block, (ad.add (k * 2)).off + 1, none⟩) hge.out).trans g2))
            go_wp2
            go_roundg (n - (k + 1))
            case measure => omega
            case rel => exact ⟨k + 1, _, _, by omega, by go_num, rfl, hown2, by unfold Hid; have := hlen.out; simp; omega, by unfold Hid; have := hx.out; rw [e2.out HYQ.out] at this; rw [this]; simp, fun e => (by cases e), (below_d hb _).trans hb2⟩
          | false =>
            obtain ⟨m, hm⟩ := hsm.out rfl
            have HM := Lib.hid hm
            clear hm
            go_wp2
            go_quiet (fail)
            go_wp2
            go_quiet (fail)
            go_wp2_with (at_builtin; (refine wpList_append_g1 rfl (.tmp 41) (.tmp 46) rfl W1.heap.size _ _ (by rfl) (hown.below (below_d (Below.refl _ _) _)) y (some j) _ rfl _ (by rfl) (by have := HLO.out; have := hlen.out; have := H0.out; omega) (by have := hbs; simp; omega) ?_; intro v2 w2 hown2 hb2; have q0' : w2.cell? ⟨w.heap.size, 0, none⟩ = some (.string (strOf q)) := (hb2.cell hs1).trans q0; have q1' : w2.cell? ⟨w.heap.size, 1, none⟩ = some (.int .i64 z) := (hb2.cell hs1).trans q1; have g1' : w2.cell? (ad.add (k * 2)) = some (.string (strOf y)) := (hb2.cell hge.out).trans g1; have g2' : w2.cell? ⟨(ad.add (k * 2)).block, (ad.add (k * 2)).off + 1, none⟩ = some (.int .i64 (j : Int)) := (hb2.cell (p := ⟨(ad.add (k * 2)).block, (ad.add (k * 2)).off + 1, none⟩) hge.out).trans g2))
            go_wp2
            go_roundg (n - (k + 1))
            case measure => omega
            case rel => exact ⟨k + 1, _, _, by omega, by go_num, rfl, hown2, by unfold Hid; have := hlen.out; simp; omega, by unfold Hid; have := hx.out; rw [HM.out, e3.out m HLT.out] at this; rw [HM.out, this]; simp, fun _ => ⟨m, HM.out⟩, (below_d hb _).trans hb2⟩
        · have hle : Op.bytesLess (strOf y).toList (strOf q).toList = false := by rw [strOf_toList, strOf_toList, Go.Proofs.bytesLess_eq]; exact decide_eq_false hlt2
          have HLT := Lib.hid hlt2
          clear hlt2
          cases dn with
          | true =>
            go_wp2
            go_quiet (fail)
            go_wp2
            go_quiet (fail)
            go_wp2_with (at_builtin; (refine wpList_append_g1 rfl (.tmp 41) (.tmp 46) rfl W1.heap.size _ _ (by rfl) (hown.below (below_d (Below.refl _ _) _)) y (some j) _ rfl _ (by rfl) (by have := HLO.out; have := hlen.out; have := H0.out; omega) (by have := hbs; simp; omega) ?_; intro v2 w2 hown2 hb2; have q0' : w2.cell? ⟨w.heap.size, 0, none⟩ = some (.string (strOf q)) := (hb2.cell hs1).trans q0; have q1' : w2.cell? ⟨w.heap.size, 1, none⟩ = some (.int .i64 z) := (hb2.cell hs1).trans q1; have g1' : w2.cell? (ad.add (k * 2)) = some (.string (strOf y)) := (hb2.cell hge.out).trans g1; have g2' : w2.cell? ⟨(ad.add (k * 2)).block, (ad.add (k * 2)).off + 1, none⟩ = some (.int .i64 (j : Int)) := (hb2.cell (p := ⟨(ad.add (k * 2)).block, (ad.add (k * 2)).off + 1, none⟩) hge.out).trans g2))
            go_wp2
            go_roundg (n - (k + 1))
            case measure => omega
            case rel => exact ⟨k + 1, _, _, by omega, by go_num, rfl, hown2, by unfold Hid; have := hlen.out; simp; omega, by unfold Hid; have := hx.out; rw [e2.out HYQ.out] at this; rw [this]; simp, fun e => (by cases e), (below_d hb _).trans hb2⟩
          | false =>
            obtain ⟨m, hm⟩ := hsm.out rfl
            have HM := Lib.hid hm
            clear hm
            go_wp2
            go_quiet (fail)
            go_wp2_with (at_builtin; (refine wpList_append_g1 rfl (.tmp 29) (.tmp 31) rfl W1.heap.size _ _ (by rfl) (hown.below (below_d (Below.refl _ _) _)) q o _ HZ.out _ (by rfl) (by have := HLO.out; have := hlen.out; have := H0.out; omega) (by have := hbs; simp; omega) ?_; intro v2 w2 hown2 hb2; have q0' : w2.cell? ⟨w.heap.size, 0, none⟩ = some (.string (strOf q)) := (hb2.cell hs1).trans q0; have q1' : w2.cell? ⟨w.heap.size, 1, none⟩ = some (.int .i64 z) := (hb2.cell hs1).trans q1; have g1' : w2.cell? (ad.add (k * 2)) = some (.string (strOf y)) := (hb2.cell hge.out).trans g1; have g2' : w2.cell? ⟨(ad.add (k * 2)).block, (ad.add (k * 2)).off + 1, none⟩ = some (.int .i64 (j : Int)) := (hb2.cell (p := ⟨(ad.add (k * 2)).block, (ad.add (k * 2)).off + 1, none⟩) hge.out).trans g2))
            have hs2 := hb2.size
            go_quiet (fail)
            go_wp2_with (at_builtin; (refine wpList_append_g1 rfl (.tmp 41) (.tmp 46) rfl W1.heap.size _ _ (by rfl) (hown2.below (below_d (Below.refl _ _) _)) y (some j) _ rfl _ (by rfl) (by have := hlen.out; have := H0.out; simp; omega) (by have := hbs; have := hb2.size; simp at this ⊢; omega) ?_; intro v3 w3 hown3 hb3))
            go_wp2
            go_roundg (n - (k + 1))
            case measure => omega
            case rel => exact ⟨k + 1, _, _, by omega, by go_num, rfl, hown3, by unfold Hid; have := hlen.out; simp; omega, by unfold Hid; have := hx.out; rw [HM.out, e4.out m HLT.out] at this; rw [HM.out] at e2 ⊢; rw [e2.out HYQ.out] at this; rw [this]; simp, fun e => (by cases e), ((below_d hb _).trans hb2).trans ((below_d (Below.refl _ _) _).trans hb3)⟩
    · have hkn : l.length ≤ k := by have := HN.out; omega
      have e5 := Lib.hid (putRest_end (q := q) (o := o) hkn)
      have e6 := Lib.hid (fun m => putRest_last (q := q) (m := m) hkn)
      clear hkn
      cases dn with
      | true =>
        go_wp2
        go_ret
        exact ⟨_, rfl, by have := hx.out; rw [e5.out, List.append_nil] at this; rw [this]; exact hrow hown, hb1.trans (hb.mono hb1.size)⟩
      | false =>
        obtain ⟨m, hm⟩ := hsm.out rfl
        have HM := Lib.hid hm
        clear hm
        go_wp2_with (at_builtin; (refine wpList_append_g1 rfl (.tmp 50) (.tmp 52) rfl W1.heap.size _ _ (by rfl) hown q o _ HZ.out _ (by rfl) (by have := hlen.out; have := H0.out; omega) (by have := hbs; simp; omega) ?_; intro v2 w2 hown2 hb2))
        go_ret
        exact ⟨_, rfl, by have := hx.out; rw [HM.out, e6.out m] at this; rw [this, ← HM.out]; exact hrow hown2, hb1.trans ((hb.trans hb2).mono hb1.size)⟩
end Go.Proofs.YteidkmiladkoiaaGreatDoor

/-
  The document's again.
-/
namespace Go.Proofs.YteidkmiladkoiaaGreatDoor
open Go.RowKit

/-- A row of paths at the end of a call that lays new blocks only. -/
def PathsIs (m : Nat → Prop) (w : World) (l : Dir) (e : Ending) (w' : World) : Prop := ∃ A c, e = .returned (.slice A l.length c) ∧ l.length ≤ c ∧ Hold m w' A (gv (gd l)) ∧ Below w.heap.size w w'
theorem againD_take (l : Dir) (cs : List Giv) (k : Nat) (hk : k < cs.length) : againD l (cs.take (k + 1)) = putD (againD l (cs.take k)) cs[k] := by
  unfold againD
  rw [List.take_succ_eq_append_getElem hk, List.foldl_append]
  rfl

set_option maxRecDepth 100000 in
set_option maxHeartbeats 1600000 in
theorem again_r (m : Nat → Prop) (A : Option Addr) (n c : Nat) (l : Dir) (hn : l.length = n) (hc0 : n ≤ c) (Ac : Option Addr) (nc cc : Nat) (cs : List Giv) (hnc : cs.length = nc) (h0 : n + nc ≤ 100000) (w : World) (hm : ∀ k, m k → k < w.heap.size)
    (hS : Hold m w A (gv (gd l))) (hC : Hold m w Ac (gv cs)) :
    Calls Tryz.prog 59 #[.slice A n c, .agg #[.slice Ac nc cc]] w (PathsIs m w (againD l cs)) := by
  obtain ⟨W1, hW1⟩ : ∃ W1, w.alloc (.cells #[.slice Ac nc cc] 105) = W1 := ⟨_, rfl⟩
  have hb1 : Below w.heap.size w W1 := hW1 ▸ (Below.refl _ w).alloc (Nat.le_refl _) _
  have q0 : W1.cell? ⟨w.heap.size, 0, none⟩ = some (.slice Ac nc cc) := by rw [← hW1, World.cell?_alloc_at _ _ _ _ rfl]; rfl
  have hs1 : w.heap.size < W1.heap.size := by rw [← hW1]; simp
  have Q0 := Lib.hid q0
  have HN := Lib.hid hn
  have HNC := Lib.hid hnc
  have HS := Lib.hid (hS.newB hb1)
  have HM := Lib.hid hm
  have H0 := Lib.hid h0
  have HC0 := Lib.hid hc0
  obtain ⟨X, hX⟩ : ∃ X, againD l cs = X := ⟨_, rfl⟩
  rw [hX]
  have HX := Lib.hid hX
  have hnc0 : nc ≤ 100000 := by omega
  clear hn hnc hS hm h0 hX hc0
  go_enter Tryz.func59, Tryz.ntmps59
  go_wp2
  clear q0
  go_loopg [0, 5] nc (fun g v i wr => ∃ (k : Nat) (Al : Option Addr) (nl cl : Nat), k + g = nc ∧ i = .int .i64 (k : Int) ∧ v = .slice Al nl cl ∧ Hid ((againD l (cs.take k)).length = nl ∧ nl ≤ cl) ∧ Hid (Hold m wr Al (gv (gd (againD l (cs.take k))))) ∧ Below W1.heap.size W1 wr)
  case atStart => exact ⟨0, A, n, c, by omega, rfl, rfl, ⟨HN.out, HC0.out⟩, HS.out, Below.refl _ _⟩
  case round =>
    obtain ⟨k, Al, nl, cl, hk, rfl, rfl, hnl, hsl, hb⟩ := hrel
    have q0 : wr.cell? ⟨w.heap.size, 0, none⟩ = some (.slice Ac nc cc) := (hb.cell hs1).trans Q0.out
    have hbs := hb.size
    have hbw : Below w.heap.size w wr := hb1.trans (hb.mono hb1.size)
    by_cases hlt : k < nc
    · have hkl : k < cs.length := by have := HNC.out; omega
      obtain ⟨ad, rfl, hbb, g1, g2⟩ := sees_gv (hC.newB hbw).sees hkl
      have hst := Lib.hid (againD_take l cs k hkl)
      obtain ⟨y, hy⟩ : ∃ y, cs[k].1 = y := ⟨_, rfl⟩
      obtain ⟨o, ho⟩ : ∃ o, cs[k].2 = o := ⟨_, rfl⟩
      have hyo : cs[k] = (y, o) := by rw [← hy, ← ho]
      rw [hy] at g1
      rw [ho] at g2
      rw [hyo] at hst
      have hlen := Lib.hid (len_again (cs.take k) l)
      have hp := Lib.hid (put_any Al nl cl _ hnl.out.1 (by have := hlen.out; have := hnl.out.1; have := HN.out; have := H0.out; have := List.length_take_le k cs; omega) y o wr hsl.out.sees)
      obtain ⟨z, hz⟩ : ∃ z, gnum o = z := ⟨_, rfl⟩
      rw [hz] at g2 hp
      clear hy ho hyo hz
      go_wp2_with fail
      refine hp.out.mono ?_
      rintro e w2 ⟨v2, rfl, hown, hb2⟩
      have hm2 : ∀ k, m k → k < wr.heap.size := fun k e => by have := HM.out k e; have := hbw.size; omega
      obtain ⟨A2, c2, rfl, hc2, hh2⟩ := own_hold hown hm2
      rw [gd_length, ← hst.out] at hc2 ⊢
      rw [← hst.out] at hh2
      obtain ⟨n2, hn2⟩ : ∃ n2, (againD l (cs.take (k + 1))).length = n2 := ⟨_, rfl⟩
      rw [hn2] at hc2 ⊢
      have HH2 := Lib.hid hh2
      have HN2 := Lib.hid hn2
      have HC2 := Lib.hid hc2
      clear hp hown hm2 hh2 hn2 hc2
      go_wp2
      go_roundg (nc - (k + 1))
      case measure => omega
      case rel => exact ⟨k + 1, _, _, _, by omega, by go_num, rfl, ⟨HN2.out, HC2.out⟩, HH2.out, hb.trans (hb2.mono hbs)⟩
    · have e1 : Hid (againD l (cs.take k) = X) := by unfold Hid; rw [List.take_of_length_le (by have := HNC.out; omega)]; exact HX.out
      go_wp2
      go_ret
      rw [e1.out] at hnl hsl
      obtain ⟨hn1, hn2⟩ := hnl.out
      subst hn1
      exact ⟨_, _, rfl, hn2, hsl.out, hbw⟩
end Go.Proofs.YteidkmiladkoiaaGreatDoor

/-
  The document's files as a value.
-/
namespace Go.Proofs.YteidkmiladkoiaaGreatDoor
open Go.RowKit

/-- Changes as slices, which are seen. -/
structure ChV (m : Nat → Prop) (w : World) (vs : List Value) (cs : List (List Giv)) : Prop where
  len : vs.length = cs.length
  at_ : ∀ i (hi : i < cs.length), ∃ A c, vs[i]? = some (.slice A cs[i].length c) ∧ cs[i].length ≤ c ∧ Hold m w A (gv cs[i])
theorem ChV.newB {m : Nat → Prop} {w w' : World} {vs : List Value} {cs : List (List Giv)} (h : ChV m w vs cs) (hb : Below w.heap.size w w') : ChV m w' vs cs :=
  ⟨h.len, fun i hi => by
    obtain ⟨A, c, h1, h2, h3⟩ := h.at_ i hi
    exact ⟨A, c, h1, h2, h3.newB hb⟩⟩
theorem ChV.step {m m' : Nat → Prop} {w w' : World} {vs : List Value} {cs : List (List Giv)} (h : ChV m w vs cs) (hs : Stp m w m' w') : ChV m' w' vs cs :=
  ⟨h.len, fun i hi => by
    obtain ⟨A, c, h1, h2, h3⟩ := h.at_ i hi
    exact ⟨A, c, h1, h2, h3.step hs⟩⟩
theorem ChV.one {m : Nat → Prop} {w : World} {vs : List Value} {cs : List (List Giv)} (h : ChV m w vs cs) : ∀ u ∈ vs, u.oneCell' = true := by
  intro u hu
  obtain ⟨i, hi, e⟩ := List.mem_iff_getElem.1 hu
  obtain ⟨A, c, h1, -⟩ := h.at_ i (by rw [← h.len]; exact hi)
  rw [List.getElem?_eq_getElem hi, e] at h1
  injection h1 with h1
  rw [h1]; rfl
theorem ChV.snoc {m : Nat → Prop} {w : World} {vs : List Value} {cs : List (List Giv)} (h : ChV m w vs cs) {A : Option Addr} {n c : Nat} {l : List Giv} (hn : l.length = n) (hc : n ≤ c) (hl : Hold m w A (gv l)) : ChV m w (vs ++ [.slice A n c]) (cs ++ [l]) := by
  subst hn
  refine ⟨by simp [h.len], fun i hi => ?_⟩
  by_cases hlt : i < cs.length
  · obtain ⟨A', c', h1, h2, h3⟩ := h.at_ i hlt
    rw [List.getElem_append_left hlt, List.getElem?_append_left (by rw [h.len]; exact hlt)]
    exact ⟨A', c', h1, h2, h3⟩
  · have hie : i = cs.length := by simp at hi; omega
    subst hie
    refine ⟨A, c, ?_, ?_, ?_⟩
    · rw [List.getElem?_append_right (by rw [h.len]; exact Nat.le_refl _), h.len, List.getElem_append_right (Nat.le_refl _)]
      simp
    · rw [List.getElem_append_right (Nat.le_refl _)]; simpa using hc
    · rw [List.getElem_append_right (Nat.le_refl _)]; simpa using hl
/-- The document's files: the value holds them, in blocks that are not of m. -/
structure RefAt (m : Nat → Prop) (w : World) (v : Value) (S : FsM) (fu : Bool) (lf : Int) : Prop where
  out : ∃ Af cf An cn Ak ck Ac cc vs, v = .agg #[.int .i64 (S.room : Int), .slice Af S.files.length cf, .slice An S.now.length cn, .slice Ak S.kept.length ck, .slice Ac S.chg.length cc, .bool fu, .int .i64 lf] ∧
    (S.files.length ≤ cf ∧ S.now.length ≤ cn ∧ S.kept.length ≤ ck ∧ S.chg.length ≤ cc) ∧ Hold m w Af (flv S.files) ∧ Hold m w An (gv (gd S.now)) ∧ Hold m w Ak (gv (gd S.kept)) ∧ Hold m w Ac vs ∧ ChV m w vs S.chg
section
variable {m m' : Nat → Prop} {w w' : World} {v : Value} {S : FsM} {fu : Bool} {lf : Int}
theorem RefAt.newB (h : RefAt m w v S fu lf) (hb : Below w.heap.size w w') : RefAt m w' v S fu lf := by
  obtain ⟨Af, cf, An, cn, Ak, ck, Ac, cc, vs, rfl, h0, h1, h2, h3, h4, h5⟩ := h.out
  exact ⟨Af, cf, An, cn, Ak, ck, Ac, cc, vs, rfl, h0, h1.newB hb, h2.newB hb, h3.newB hb, h4.newB hb, h5.newB hb⟩
theorem RefAt.step (h : RefAt m w v S fu lf) (hs : Stp m w m' w') : RefAt m' w' v S fu lf := by
  obtain ⟨Af, cf, An, cn, Ak, ck, Ac, cc, vs, rfl, h0, h1, h2, h3, h4, h5⟩ := h.out
  exact ⟨Af, cf, An, cn, Ak, ck, Ac, cc, vs, rfl, h0, h1.step hs, h2.step hs, h3.step hs, h4.step hs, h5.step hs⟩
end
/-- The end of a call that lays new blocks only, with files. -/
def RefIs (m : Nat → Prop) (w : World) (S : FsM) (fu : Bool) (lf : Int) (e : Ending) (w' : World) : Prop := ∃ v, e = .returned v ∧ RefAt m w' v S fu lf ∧ Below w.heap.size w w'
/-- .. and an error's number. -/
def RefIsE (m : Nat → Prop) (w : World) (r : FsM × Nat) (fu : Bool) (lf : Int) (e : Ending) (w' : World) : Prop := ∃ v, e = .returned (.tuple #[v, .int .i64 (r.2 : Int)]) ∧ RefAt m w' v r.1 fu lf ∧ Below w.heap.size w w'
-- More, or fewer, blocks to be held apart from.
section
variable {m m2 : Nat → Prop} {w : World} {A : Option Addr} {xs : List Value}
theorem Hold.more (h : Hold m w A xs) (hm : ∀ k, m2 k → m k ∨ w.heap.size ≤ k) : Hold m2 w A xs :=
  ⟨h.out.mono fun k e => ⟨e.1, fun e2 => by rcases hm k e2 with e3 | e3; exact e.2 e3; have := e.1; omega⟩⟩
theorem Hold.less (h : Hold m2 w A xs) (hm : ∀ k, m k → m2 k) : Hold m w A xs := ⟨h.out.mono fun k e => ⟨e.1, fun e2 => e.2 (hm k e2)⟩⟩
theorem Stp.setCell (m : Nat → Prop) (w : World) (b i : Nat) (v : Value) (hb : m b) : Stp m w m (w.setCell ⟨b, i, none⟩ v) :=
  ⟨(Turn.setCell _ _ _ rfl : Turn (fun k => k = b) w _).mono fun k _ e => by rw [e]; exact hb, fun _ e => .inl e⟩
theorem ChV.more {vs : List Value} {cs : List (List Giv)} (h : ChV m w vs cs) (hm : ∀ k, m2 k → m k ∨ w.heap.size ≤ k) : ChV m2 w vs cs :=
  ⟨h.len, fun i hi => by
    obtain ⟨A, c, h1, h2, h3⟩ := h.at_ i hi
    exact ⟨A, c, h1, h2, h3.more hm⟩⟩
theorem ChV.less {vs : List Value} {cs : List (List Giv)} (h : ChV m2 w vs cs) (hm : ∀ k, m k → m2 k) : ChV m w vs cs :=
  ⟨h.len, fun i hi => by
    obtain ⟨A, c, h1, h2, h3⟩ := h.at_ i hi
    exact ⟨A, c, h1, h2, h3.less hm⟩⟩
theorem RefAt.more {v : Value} {S : FsM} {fu : Bool} {lf : Int} (h : RefAt m w v S fu lf) (hm : ∀ k, m2 k → m k ∨ w.heap.size ≤ k) : RefAt m2 w v S fu lf := by
  obtain ⟨Af, cf, An, cn, Ak, ck, Ac, cc, vs, rfl, h0, h1, h2, h3, h4, h5⟩ := h.out
  exact ⟨Af, cf, An, cn, Ak, ck, Ac, cc, vs, rfl, h0, h1.more hm, h2.more hm, h3.more hm, h4.more hm, h5.more hm⟩
theorem RefAt.less {v : Value} {S : FsM} {fu : Bool} {lf : Int} (h : RefAt m2 w v S fu lf) (hm : ∀ k, m k → m2 k) : RefAt m w v S fu lf := by
  obtain ⟨Af, cf, An, cn, Ak, ck, Ac, cc, vs, rfl, h0, h1, h2, h3, h4, h5⟩ := h.out
  exact ⟨Af, cf, An, cn, Ak, ck, Ac, cc, vs, rfl, h0, h1.less hm, h2.less hm, h3.less hm, h4.less hm, h5.less hm⟩
end
theorem Blk.set_ {w : World} {b : Nat} {cs cs' : Array Value} {t : TypeId} (h : Blk w b cs t) (i : Nat) (v : Value) (e : cs.setIfInBounds i v = cs') : Blk (w.setCell ⟨b, i, none⟩ v) b cs' t := e ▸ h.set i v
/-- Seven cells anew. -/
theorem Blk.store7 {w : World} {b : Nat} {a0 a1 a2 a3 a4 a5 a6 : Value} {t : TypeId} (h : Blk w b #[a0, a1, a2, a3, a4, a5, a6] t) (B : Nat) (hB : B ≤ b) (u0 u1 u2 u3 u4 u5 u6 : Value) :
    ∃ WF, (((((((w.setCell ⟨b, 0, none⟩ u0).setCell ⟨b, 1, none⟩ u1).setCell ⟨b, 2, none⟩ u2).setCell ⟨b, 3, none⟩ u3).setCell ⟨b, 4, none⟩ u4).setCell ⟨b, 5, none⟩ u5).setCell ⟨b, 6, none⟩ u6) = WF ∧ Blk WF b #[u0, u1, u2, u3, u4, u5, u6] t ∧ Below B w WF ∧ ∀ m : Nat → Prop, m b → Stp m w m WF := by
  have h0 : Blk _ b #[u0, a1, a2, a3, a4, a5, a6] t := h.set_ 0 u0 (by simp)
  have h1 : Blk _ b #[u0, u1, a2, a3, a4, a5, a6] t := h0.set_ 1 u1 (by simp)
  have h2 : Blk _ b #[u0, u1, u2, a3, a4, a5, a6] t := h1.set_ 2 u2 (by simp)
  have h3 : Blk _ b #[u0, u1, u2, u3, a4, a5, a6] t := h2.set_ 3 u3 (by simp)
  have h4 : Blk _ b #[u0, u1, u2, u3, u4, a5, a6] t := h3.set_ 4 u4 (by simp)
  have h5 : Blk _ b #[u0, u1, u2, u3, u4, u5, a6] t := h4.set_ 5 u5 (by simp)
  have h6 : Blk _ b #[u0, u1, u2, u3, u4, u5, u6] t := h5.set_ 6 u6 (by simp)
  exact ⟨_, rfl, h6, (((((((Below.refl B w).setCell hB _).setCell hB _).setCell hB _).setCell hB _).setCell hB _).setCell hB _).setCell hB _, fun m hm =>
    ((((((Stp.setCell m _ b 0 u0 hm).trans (Stp.setCell m _ b 1 u1 hm)).trans (Stp.setCell m _ b 2 u2 hm)).trans (Stp.setCell m _ b 3 u3 hm)).trans (Stp.setCell m _ b 4 u4 hm)).trans (Stp.setCell m _ b 5 u5 hm)).trans (Stp.setCell m _ b 6 u6 hm)⟩
end Go.Proofs.YteidkmiladkoiaaGreatDoor

/-
  The document's change.
-/
namespace Go.Proofs.YteidkmiladkoiaaGreatDoor
open Go.RowKit

theorem Tryz.chinfo : (Tryz.prog.info? 105).map (fun i => (i.zero, i.size, i.bytes)) = some (some (.agg #[.slice none 0 0]), 1, 24) := by kernel_rfl
set_option maxRecDepth 100000 in
set_option maxHeartbeats 1600000 in
theorem change_r (m : Nat → Prop) (S : FsM) (fu : Bool) (lf : Int) (v : Value) (w : World) (h : RefAt m w v S fu lf) (hm : ∀ k, m k → k < w.heap.size) (Ac : Option Addr) (nc cc : Nat) (l : List Giv) (hl : l.length = nc) (hcc : nc ≤ cc) (hC : Hold m w Ac (gv l))
    (h0 : S.now.length + nc ≤ 100000) (h1 : S.chg.length ≤ 100000) :
    Calls Tryz.prog 57 #[v, .slice Ac nc cc] w (RefIs m w (S.change l) fu lf) := by
  obtain ⟨ti, hti, hz0, hz1, hz2⟩ := info_partsG Tryz.chinfo
  obtain ⟨Af, cf, An, cn, Ak, ck, Aq, cq, vs, rfl, ⟨k1, k2, k3, k4⟩, s1, s2, s3, s4, s5⟩ := h.out
  obtain ⟨nf, hnf⟩ : ∃ n, S.files.length = n := ⟨_, rfl⟩
  obtain ⟨nn, hnn⟩ : ∃ n, S.now.length = n := ⟨_, rfl⟩
  obtain ⟨nk, hnk⟩ : ∃ n, S.kept.length = n := ⟨_, rfl⟩
  obtain ⟨nq, hnq⟩ : ∃ n, S.chg.length = n := ⟨_, rfl⟩
  obtain ⟨r, hr⟩ : ∃ r : Int, (S.room : Int) = r := ⟨_, rfl⟩
  rw [hnf, hnn, hnk, hnq, hr]
  rw [hnf] at k1
  rw [hnn] at k2 h0
  rw [hnk] at k3
  rw [hnq] at k4 h1
  obtain ⟨W1, e1⟩ : ∃ W1, w.alloc (.cells #[.int .i64 r, .slice Af nf cf, .slice An nn cn, .slice Ak nk ck, .slice Aq nq cq, .bool fu, .int .i64 lf] 30) = W1 := ⟨_, rfl⟩
  obtain ⟨W2, e2⟩ : ∃ W2, W1.alloc (.cells #[.int .i64 0, .slice none 0 0, .slice none 0 0, .slice none 0 0, .slice none 0 0, .bool false, .int .i64 0] 30) = W2 := ⟨_, rfl⟩
  obtain ⟨W3, e3⟩ : ∃ W3, W2.alloc (.cells #[.slice none 0 0] 105) = W3 := ⟨_, rfl⟩
  obtain ⟨W4, e4⟩ : ∃ W4, W3.setCell ⟨W2.heap.size, 0, none⟩ (.slice Ac nc cc) = W4 := ⟨_, rfl⟩
  have z1 : W1.heap.size = w.heap.size + 1 := by rw [← e1]; simp
  have z2 : W2.heap.size = w.heap.size + 2 := by rw [← e2]; simp [z1]
  have z3 : W3.heap.size = w.heap.size + 3 := by rw [← e3]; simp [z2]
  have z4 : W4.heap.size = w.heap.size + 3 := by rw [← e4]; simp [z3]
  have bB1 : Blk W1 w.heap.size #[.int .i64 r, .slice Af nf cf, .slice An nn cn, .slice Ak nk ck, .slice Aq nq cq, .bool fu, .int .i64 lf] 30 := e1 ▸ Blk.new w _ _
  have bG2 : Blk W2 W1.heap.size #[.int .i64 0, .slice none 0 0, .slice none 0 0, .slice none 0 0, .slice none 0 0, .bool false, .int .i64 0] 30 := e2 ▸ Blk.new W1 _ _
  have bC3 : Blk W3 W2.heap.size #[.slice none 0 0] 105 := e3 ▸ Blk.new W2 _ _
  have h12 : Below W1.heap.size W1 W2 := e2 ▸ (Below.refl _ _).alloc (Nat.le_refl _) _
  have h23 : Below W2.heap.size W2 W3 := e3 ▸ (Below.refl _ _).alloc (Nat.le_refl _) _
  have h01 : Below w.heap.size w W1 := e1 ▸ (Below.refl _ _).alloc (Nat.le_refl _) _
  have h34 : Below W2.heap.size W3 W4 := e4 ▸ (Below.refl W2.heap.size W3).setCell (p := ⟨W2.heap.size, 0, none⟩) (Nat.le_refl _) _
  have bC4 : Blk W4 W2.heap.size #[.slice Ac nc cc] 105 := by rw [← e4]; exact bC3.set 0 _
  have bB4 := bB1.keep (((h34.block _ (by omega)).trans (h23.block _ (by omega))).trans (h12.block _ (by omega)))
  have bG4 := bG2.keep ((h34.block _ (by omega)).trans (h23.block _ (by omega)))
  have h04 : Below w.heap.size w W4 := ((h01.trans (h12.mono (by omega))).trans (h23.mono (by omega))).trans (h34.mono (by omega))
  obtain ⟨m2, hm2⟩ : ∃ m2 : Nat → Prop, ∀ k, m2 k ↔ m k ∨ k = w.heap.size ∨ k = W1.heap.size ∨ k = W2.heap.size := ⟨_, fun _ => Iff.rfl⟩
  have hmore : ∀ k, m2 k → m k ∨ w.heap.size ≤ k := fun k e => by
    rcases (hm2 k).1 e with e | e | e | e
    · exact .inl e
    all_goals (exact .inr (by omega))
  have hm2B : m2 w.heap.size := (hm2 _).2 (.inr (.inl rfl))
  have hm2G : m2 W1.heap.size := (hm2 _).2 (.inr (.inr (.inl rfl)))
  have hm2l : ∀ k, m2 k → k < W4.heap.size := fun k e => by
    rcases (hm2 k).1 e with e | e | e | e
    · have := hm k e; omega
    all_goals omega
  have t1 := (s1.more hmore).newB h04
  have t2 := (s2.more hmore).newB h04
  have t3 := (s3.more hmore).newB h04
  have t4 := (s4.more hmore).newB h04
  have t5 := (s5.more hmore).newB h04
  have tC := (hC.more hmore).newB h04
  have c3 := bC3.cell 0 rfl
  have f3 := bC3.frozen 0
  have c4 := bC4.cell 0 rfl
  have d4 := bB4.cell 4 rfl
  have HM2 := Lib.hid hm2
  have HML := Lib.hid hm2l
  have HB := Lib.hid hm2B
  have HG := Lib.hid hm2G
  have T1 := Lib.hid t1
  have T2 := Lib.hid t2
  have T3 := Lib.hid t3
  have T4 := Lib.hid t4
  have T5 := Lib.hid t5
  have TC := Lib.hid tC
  have BB4 := Lib.hid bB4
  have BG4 := Lib.hid bG4
  have BC4 := Lib.hid bC4
  have Z1 := Lib.hid z1
  have Z2 := Lib.hid z2
  have Z4 := Lib.hid z4
  have HNF := Lib.hid hnf
  have HNN := Lib.hid hnn
  have HNK := Lib.hid hnk
  have HNQ := Lib.hid hnq
  have HR := Lib.hid hr
  have HL := Lib.hid hl
  clear t1 t2 t3 t4 t5 tC bB4 bG4 bC4 bB1 bG2 bC3 z1 z2 z3 z4 hmore hm2l hm2B hm2G hm2 s1 s2 s3 s4 s5 hC h12 h23 h01 h34 hnf hnn hnk hnq hr hl hm
  go_enter Tryz.func57, Tryz.ntmps57
  go_wp2_with (first | (at_builtin; (refine wpList_append_v rfl (.tmp 9) (.tmp 11) 28 rfl 105 ti _ 1 24 Tryz.underlying28 hti hz0 hz1 hz2 rfl (by omega) W4.heap.size (.slice none 0 0) 0 [] (by rfl) (World.ownsRow_nil _ _ _ _) W4.heap.size Aq nq cq vs (by rfl) (by have := T5.out.len; have := HNQ.out; omega) T4.out.sees T5.out.one (by simp only [maxLen]; omega) (by omega) (Nat.le_refl _) ?_; intro v5 w5 hown5 hon5; have h45 := hon5.below_nil; have bC5 := BC4.out.keep (h45.block _ BC4.out.lt); have c5 := bC5.cell 0 rfl; have HOWN5 := Lib.hid hown5; have H45 := Lib.hid h45; have BC5 := Lib.hid bC5; clear hown5 hon5 h45 bC5)) | (at_builtin; (refine wpList_append_v rfl (.tmp 13) (.tmp 15) 28 rfl 105 ti _ 1 24 Tryz.underlying28 hti hz0 hz1 hz2 rfl (by omega) W4.heap.size v5 (0 + nq) ([] ++ vs) (by rfl) (World.ownsRow.alloc HOWN5.out _) (w5.heap.size + 1) (some ⟨w5.heap.size, 0, none⟩) 1 1 [.slice Ac nc cc] (by rfl) rfl (sees_cells w5 _ rfl _ _ _ rfl) (fun u hu => by simp at hu; subst hu; rfl) (by simp only [maxLen]; omega) (by omega) (by have := H45.out.size; simp; omega) ?_; intro v6 w6 hown6 hon6; have h56 : Below W4.heap.size w5 w6 := ((Below.refl _ w5).alloc H45.out.size _).trans (hon6.below (by have := H45.out.size; simp; omega) (own_block HOWN5.out)); obtain ⟨A6, c6, rfl, hc6, hh6⟩ := own_hold hown6 HML.out; rw [List.nil_append] at hh6; rw [Nat.zero_add] at hc6; rw [Nat.zero_add]; have h46 : Below W4.heap.size W4 w6 := H45.out.trans h56; have bB6 := BB4.out.keep (h46.block _ BB4.out.lt); have bG6 := BG4.out.keep (h46.block _ BG4.out.lt); have bC6 := BC4.out.keep (h46.block _ BC4.out.lt); have q6 := bB6.cell 4 rfl; have f6 := bB6.frozen 4; obtain ⟨W7, e7⟩ : ∃ W7, w6.setCell ⟨w.heap.size, 4, none⟩ (.slice A6 (nq + 1) c6) = W7 := ⟨_, rfl⟩; have st7 : Stp m2 w6 m2 W7 := e7 ▸ Stp.setCell m2 w6 _ _ _ HB.out; have bB7 : Blk W7 w.heap.size #[.int .i64 r, .slice Af nf cf, .slice An nn cn, .slice Ak nk ck, .slice A6 (nq + 1) c6, .bool fu, .int .i64 lf] 30 := (e7 ▸ (show Blk (w6.setCell ⟨w.heap.size, 4, none⟩ (.slice A6 (nq + 1) c6)) w.heap.size #[.int .i64 r, .slice Af nf cf, .slice An nn cn, .slice Ak nk ck, .slice A6 (nq + 1) c6, .bool fu, .int .i64 lf] _ from bB6.set 4 _)); have h67 : Below w.heap.size w6 W7 := e7 ▸ (Below.refl w.heap.size w6).setCell (p := ⟨w.heap.size, 4, none⟩) (Nat.le_refl _) _; have bG7 := bG6.keep (e7 ▸ Below.heap_setCell w6 ⟨w.heap.size, 4, none⟩ _ W1.heap.size (by have := Z1.out; show W1.heap.size ≠ w.heap.size; omega)); have bC7 := bC6.keep (e7 ▸ Below.heap_setCell w6 ⟨w.heap.size, 4, none⟩ _ W2.heap.size (by have := Z2.out; show W2.heap.size ≠ w.heap.size; omega)); have q7 := bB7.cell 2 rfl; have c7 := bC7.cell 0 rfl; have H46 := Lib.hid h46; have H67 := Lib.hid h67; have ST7 := Lib.hid st7; have BB7 := Lib.hid bB7; have BG7 := Lib.hid bG7; have HH6 := Lib.hid hh6; have HC6 := Lib.hid hc6; clear hown6 hon6 h56 h46 hh6 hc6 bB6 bG6 bC6 bB7 bG7 bC7 h67 st7)))
  have hp := again_r m2 An nn cn S.now HNN.out k2 Ac nc cc l HL.out h0 W7 (fun k e => by have := HML.out k e; have := H46.out.size; have := ST7.out.turn.size; omega) ((T2.out.newB H46.out).step ST7.out) ((TC.out.newB H46.out).step ST7.out)
  have HP := Lib.hid hp
  clear hp
  refine HP.out.mono ?_
  rintro e w8 ⟨A8, c8, rfl, hc8, hh8, h78⟩
  obtain ⟨n8, hn8⟩ : ∃ n, (againD S.now l).length = n := ⟨_, rfl⟩
  rw [hn8] at hc8 ⊢
  have bB8 := BB7.out.keep (h78.block _ BB7.out.lt)
  have bG8 := BG7.out.keep (h78.block _ BG7.out.lt)
  have q8 := bB8.cell 2 rfl
  have f8 := bB8.frozen 2
  obtain ⟨W9, e9⟩ : ∃ W9, w8.setCell ⟨w.heap.size, 2, none⟩ (.slice A8 n8 c8) = W9 := ⟨_, rfl⟩
  have st9 : Stp m2 w8 m2 W9 := e9 ▸ Stp.setCell m2 w8 _ _ _ HB.out
  have bB9 : Blk W9 w.heap.size #[.int .i64 r, .slice Af nf cf, .slice A8 n8 c8, .slice Ak nk ck, .slice A6 (nq + 1) c6, .bool fu, .int .i64 lf] 30 := (e9 ▸ (show Blk (w8.setCell ⟨w.heap.size, 2, none⟩ (.slice A8 n8 c8)) w.heap.size #[.int .i64 r, .slice Af nf cf, .slice A8 n8 c8, .slice Ak nk ck, .slice A6 (nq + 1) c6, .bool fu, .int .i64 lf] _ from bB8.set 2 _))
  have h89 : Below w.heap.size w8 W9 := e9 ▸ (Below.refl w.heap.size w8).setCell (p := ⟨w.heap.size, 2, none⟩) (Nat.le_refl _) _
  have bG9 := bG8.keep (e9 ▸ Below.heap_setCell w8 ⟨w.heap.size, 2, none⟩ _ W1.heap.size (by have := Z1.out; show W1.heap.size ≠ w.heap.size; omega))
  obtain ⟨WF, eF, bGF, h9F, stF⟩ := bG9.store7 w.heap.size (by have := Z1.out; omega) (.int .i64 r) (.slice Af nf cf) (.slice A8 n8 c8) (.slice Ak nk ck) (.slice A6 (nq + 1) c6) (.bool fu) (.int .i64 lf)
  have cb0 := bB9.cell 0 rfl
  have cb1 := bB9.cell 1 rfl
  have cb2 := bB9.cell 2 rfl
  have cb3 := bB9.cell 3 rfl
  have cb4 := bB9.cell 4 rfl
  have cb5 := bB9.cell 5 rfl
  have cb6 := bB9.cell 6 rfl
  have cg0 := bG9.cell 0 rfl
  have cg1 := bG9.cell 1 rfl
  have cg2 := bG9.cell 2 rfl
  have cg3 := bG9.cell 3 rfl
  have cg4 := bG9.cell 4 rfl
  have cg5 := bG9.cell 5 rfl
  have cg6 := bG9.cell 6 rfl
  have fg0 := bG9.frozen 0
  have fg1 := bG9.frozen 1
  have fg2 := bG9.frozen 2
  have fg3 := bG9.frozen 3
  have fg4 := bG9.frozen 4
  have fg5 := bG9.frozen 5
  have fg6 := bG9.frozen 6
  have cf0 := bGF.cell 0 rfl
  have cf1 := bGF.cell 1 rfl
  have cf2 := bGF.cell 2 rfl
  have cf3 := bGF.cell 3 rfl
  have cf4 := bGF.cell 4 rfl
  have cf5 := bGF.cell 5 rfl
  have cf6 := bGF.cell 6 rfl
  have hall : Hid (Below W4.heap.size W4 w6 ∧ Stp m2 w6 m2 W7 ∧ Below W7.heap.size W7 w8 ∧ Stp m2 w8 m2 WF) := ⟨H46.out, ST7.out, h78, st9.trans (stF m2 HG.out)⟩
  have hbel : Hid (Below w.heap.size w WF) := (((h04.trans (H46.out.mono (by have := Z4.out; omega))).trans H67.out).trans (h78.mono (by have := BB7.out.lt; omega))).trans (h89.trans h9F)
  have H8 := Lib.hid hh8
  have HC8 := Lib.hid hc8
  have HN8 := Lib.hid hn8
  clear HP st9 stF bB8 bG8 bB9 bG9 bGF h89 h9F h78 hh8 hc8 hn8
  go_wp2
  refine bodyPost_ret (v := .agg #[.int .i64 r, .slice Af nf cf, .slice A8 n8 c8, .slice Ak nk ck, .slice A6 (nq + 1) c6, .bool fu, .int .i64 lf]) (by simp [results, Tryz.results57, go_sem, cf0, cf1, cf2, cf3, cf4, cf5, cf6]) rfl ?_
  obtain ⟨a1, a2, a3, a4⟩ := hall.out
  have hl2 : ∀ k, m k → m2 k := fun k e => (HM2.out k).2 (.inl e)
  have go1 : ∀ {A : Option Addr} {xs : List Value}, Hold m2 W4 A xs → Hold m WF A xs := fun hh => ((((hh.newB a1).step a2).newB a3).step a4).less hl2
  have go2 : ∀ {A : Option Addr} {xs : List Value}, Hold m2 w6 A xs → Hold m WF A xs := fun hh => (((hh.step a2).newB a3).step a4).less hl2
  have hch : ChV m WF (vs ++ [.slice Ac nc cc]) (S.chg ++ [l]) := ((((T5.out.newB a1).step a2).newB a3).step a4).less hl2 |>.snoc HL.out hcc (go1 TC.out)
  refine ⟨_, rfl, ⟨Af, cf, A8, c8, Ak, ck, A6, c6, _, ?_, ?_, go1 T1.out, (H8.out.step a4).less hl2, go1 T3.out, go2 HH6.out, hch⟩, hbel.out⟩
  · have e1 := HN8.out
    have e2 := HNQ.out
    have e3 := HNF.out
    have e4 := HNK.out
    have e5 := HR.out
    simp [FsM.change, e1, e2, e3, e4, e5]
  · have e1 := HN8.out
    have e2 := HNQ.out
    have e3 := HNF.out
    have e4 := HNK.out
    have e5 := HC6.out
    have e6 := HC8.out
    refine ⟨by show S.files.length ≤ _; omega, by show (againD S.now l).length ≤ _; omega, by show S.kept.length ≤ _; omega, by show (S.chg ++ [l]).length ≤ _; simp; omega⟩
end Go.Proofs.YteidkmiladkoiaaGreatDoor

/-
  The document's calls.
-/
namespace Go.Proofs.YteidkmiladkoiaaGreatDoor
open Go.RowKit

/-- The value's cells. -/
structure Cells7 (m : Nat → Prop) (w : World) (v : Value) (S : FsM) (fu : Bool) (lf : Int) (r : Int) (Af : Option Addr) (nf cf : Nat) (An : Option Addr) (nn cn : Nat) (Ak : Option Addr) (nk ck : Nat) (Aq : Option Addr) (nq cq : Nat) : Prop where
  v_ : v = .agg #[.int .i64 r, .slice Af nf cf, .slice An nn cn, .slice Ak nk ck, .slice Aq nq cq, .bool fu, .int .i64 lf]
  r_ : (S.room : Int) = r
  lf_ : S.files.length = nf
  ln_ : S.now.length = nn
  lk_ : S.kept.length = nk
  lq_ : S.chg.length = nq
  cf_ : nf ≤ cf
  cn_ : nn ≤ cn
  files : Hold m w Af (flv S.files)
  now : Hold m w An (gv (gd S.now))
theorem RefAt.seven {m : Nat → Prop} {w : World} {v : Value} {S : FsM} {fu : Bool} {lf : Int} (h : RefAt m w v S fu lf) : ∃ r Af nf cf An nn cn Ak nk ck Aq nq cq, Cells7 m w v S fu lf r Af nf cf An nn cn Ak nk ck Aq nq cq := by
  obtain ⟨Af, cf, An, cn, Ak, ck, Ac, cc, vs, rfl, h0, h1, h2, h3, h4, h5⟩ := h.out
  exact ⟨_, Af, _, cf, An, _, cn, Ak, _, ck, Ac, _, cc, rfl, rfl, rfl, rfl, rfl, rfl, h0.1, h0.2.1, h1, h2⟩
theorem RefAt.settle {m : Nat → Prop} {w : World} {a0 a1 a2 a3 a4 a5 a6 : Value} {S : FsM} {fu : Bool} {lf : Int} (h : RefAt m w (.agg #[a0, a1, a2, a3, a4, a5, a6]) S fu lf) : RefAt m w (.agg #[a0, a1, a2, a2, .slice none 0 0, a5, a6]) S.settle fu lf := by
  obtain ⟨Af, cf, An, cn, Ak, ck, Ac, cc, vs, e, h0, h1, h2, h3, h4, h5⟩ := h.out
  simp only [Value.agg.injEq, Array.mk.injEq, List.cons.injEq, and_true] at e
  obtain ⟨rfl, rfl, rfl, rfl, rfl, rfl, rfl⟩ := e
  exact ⟨Af, cf, An, cn, An, cn, none, 0, [], rfl, ⟨h0.1, h0.2.1, h0.2.1, Nat.le_refl _⟩, h1, h2, h2, ⟨⟨.inl rfl⟩⟩, ⟨rfl, fun i hi => absurd hi (by simp [FsM.settle])⟩⟩
theorem RefAt.fuse {m : Nat → Prop} {w : World} {a0 a1 a2 a3 a4 a5 a6 : Value} {S : FsM} {fu : Bool} {lf : Int} (h : RefAt m w (.agg #[a0, a1, a2, a3, a4, a5, a6]) S fu lf) (fu' : Bool) (lf' : Int) (n : Nat) : RefAt m w (.agg #[a0, a1, a2, a3, a4, .bool fu', .int .i64 lf']) (S.setFuse n) fu' lf' := by
  obtain ⟨Af, cf, An, cn, Ak, ck, Ac, cc, vs, e, h0, h1, h2, h3, h4, h5⟩ := h.out
  simp only [Value.agg.injEq, Array.mk.injEq, List.cons.injEq, and_true] at e
  obtain ⟨rfl, rfl, rfl, rfl, rfl, rfl, rfl⟩ := e
  exact ⟨Af, cf, An, cn, Ak, ck, Ac, cc, vs, rfl, h0, h1, h2, h3, h4, h5⟩
/-- The parameter in its box, the result's cell: where a call begins. -/
structure Start (m m2 : Nat → Prop) (w W1 W2 : World) (a0 a1 a2 a3 a4 a5 a6 : Value) : Prop where
  z1 : W1.heap.size = w.heap.size + 1
  z2 : W2.heap.size = w.heap.size + 2
  b : Below w.heap.size w W2
  bB : Blk W2 w.heap.size #[a0, a1, a2, a3, a4, a5, a6] 30
  bG : Blk W2 W1.heap.size #[.int .i64 0, .slice none 0 0, .slice none 0 0, .slice none 0 0, .slice none 0 0, .bool false, .int .i64 0] 30
  more : ∀ k, m2 k → m k ∨ w.heap.size ≤ k
  less : ∀ k, m k → m2 k
  hB : m2 w.heap.size
  hG : m2 W1.heap.size
  lt : ∀ k, m2 k → k < W2.heap.size
theorem start7 (m : Nat → Prop) (w : World) (hm : ∀ k, m k → k < w.heap.size) (a0 a1 a2 a3 a4 a5 a6 : Value) : ∃ W1 W2 m2, w.alloc (.cells #[a0, a1, a2, a3, a4, a5, a6] 30) = W1 ∧ W1.alloc (.cells #[.int .i64 0, .slice none 0 0, .slice none 0 0, .slice none 0 0, .slice none 0 0, .bool false, .int .i64 0] 30) = W2 ∧ Start m m2 w W1 W2 a0 a1 a2 a3 a4 a5 a6 := by
  obtain ⟨W1, e1⟩ : ∃ W1, w.alloc (.cells #[a0, a1, a2, a3, a4, a5, a6] 30) = W1 := ⟨_, rfl⟩
  obtain ⟨W2, e2⟩ : ∃ W2, W1.alloc (.cells #[.int .i64 0, .slice none 0 0, .slice none 0 0, .slice none 0 0, .slice none 0 0, .bool false, .int .i64 0] 30) = W2 := ⟨_, rfl⟩
  have z1 : W1.heap.size = w.heap.size + 1 := by rw [← e1]; simp
  have z2 : W2.heap.size = w.heap.size + 2 := by rw [← e2]; simp [z1]
  have h12 : Below W1.heap.size W1 W2 := e2 ▸ (Below.refl _ _).alloc (Nat.le_refl _) _
  have h01 : Below w.heap.size w W1 := e1 ▸ (Below.refl _ _).alloc (Nat.le_refl _) _
  have bB1 : Blk W1 w.heap.size #[a0, a1, a2, a3, a4, a5, a6] 30 := e1 ▸ Blk.new w _ _
  refine ⟨W1, W2, fun k => m k ∨ k = w.heap.size ∨ k = W1.heap.size, e1, e2, ⟨z1, z2, h01.trans (h12.mono (by omega)), bB1.keep (h12.block _ (by omega)), e2 ▸ Blk.new W1 _ _, fun k e => ?_, fun k e => .inl e, .inr (.inl rfl), .inr (.inr rfl), fun k e => ?_⟩⟩
  · rcases e with e | e | e
    · exact .inl e
    all_goals (exact .inr (by omega))
  · rcases e with e | e | e
    · have := hm k e; omega
    all_goals omega

set_option maxRecDepth 100000 in
set_option maxHeartbeats 1600000 in
theorem syncDir_r (m : Nat → Prop) (S : FsM) (fu : Bool) (lf : Int) (v : Value) (w : World) (h : RefAt m w v S fu lf) (hm : ∀ k, m k → k < w.heap.size) :
    Calls Tryz.prog 41 #[v] w (RefIs m w S.settle fu lf) := by
  obtain ⟨r, Af, nf, cf, An, nn, cn, Ak, nk, ck, Aq, nq, cq, hC7⟩ := h.seven
  obtain rfl := hC7.v_
  have C7 := Lib.hid hC7
  obtain ⟨W1, W2, m2, e1, e2, hst⟩ := start7 m w hm (.int .i64 r) (.slice Af nf cf) (.slice An nn cn) (.slice Ak nk ck) (.slice Aq nq cq) (.bool fu) (.int .i64 lf)
  have ST := Lib.hid hst
  have R2 := Lib.hid ((h.more hst.more).newB hst.b)
  have N2 := Lib.hid ((hC7.now.more hst.more).newB hst.b)
  have F2 := Lib.hid ((hC7.files.more hst.more).newB hst.b)
  have bB := hst.bB
  have bG := hst.bG
  clear h hC7 hst hm

  obtain ⟨W3, e3⟩ : ∃ W3, W2.setCell ⟨w.heap.size, 3, none⟩ (.slice An nn cn) = W3 := ⟨_, rfl⟩
  obtain ⟨W4, e4⟩ : ∃ W4, W3.setCell ⟨w.heap.size, 4, none⟩ (.slice none 0 0) = W4 := ⟨_, rfl⟩
  have d2 := bB.cell 2 rfl
  have d3 := bB.cell 3 rfl
  have g3 := bB.frozen 3
  have bB3 : Blk W3 w.heap.size #[.int .i64 r, .slice Af nf cf, .slice An nn cn, .slice An nn cn, .slice Aq nq cq, .bool fu, .int .i64 lf] 30 := e3 ▸ bB.set_ 3 _ (by simp)
  have d4 := bB3.cell 4 rfl
  have g4 := bB3.frozen 4
  have bB4 : Blk W4 w.heap.size #[.int .i64 r, .slice Af nf cf, .slice An nn cn, .slice An nn cn, .slice none 0 0, .bool fu, .int .i64 lf] 30 := e4 ▸ bB3.set_ 4 _ (by simp)
  have k3 : Stp m2 W2 m2 W3 := e3 ▸ Stp.setCell m2 W2 _ _ _ ST.out.hB
  have k4 : Stp m2 W3 m2 W4 := e4 ▸ Stp.setCell m2 W3 _ _ _ ST.out.hB
  have b3 : Below w.heap.size W2 W3 := e3 ▸ (Below.refl w.heap.size W2).setCell (p := ⟨w.heap.size, 3, none⟩) (Nat.le_refl _) _
  have b4 : Below w.heap.size W3 W4 := e4 ▸ (Below.refl w.heap.size W3).setCell (p := ⟨w.heap.size, 4, none⟩) (Nat.le_refl _) _
  have bG3 := bG.keep (e3 ▸ Below.heap_setCell W2 ⟨w.heap.size, 3, none⟩ _ W1.heap.size (by have := ST.out.z1; show W1.heap.size ≠ w.heap.size; omega))
  have bG4 := bG3.keep (e4 ▸ Below.heap_setCell W3 ⟨w.heap.size, 4, none⟩ _ W1.heap.size (by have := ST.out.z1; show W1.heap.size ≠ w.heap.size; omega))
  have R4 := Lib.hid (((R2.out.step k3).step k4).settle)
  have B4 := Lib.hid ((ST.out.b.trans b3).trans b4)
  clear bB bG bB3 bG3 k3 k4 b3 b4
  have bB := bB4
  have bG := bG4
  clear bB4 bG4
  go_enter Tryz.func41, Tryz.ntmps41
  obtain ⟨WF, eF, bGF, hFB, stF⟩ := bG.store7 w.heap.size (by have := ST.out.z1; omega) (.int .i64 r) (.slice Af nf cf) (.slice An nn cn) (.slice An nn cn) (.slice none 0 0) (.bool fu) (.int .i64 lf)
  have hFB' := Lib.hid hFB
  have stF' := Lib.hid stF
  have cb0 := bB.cell 0 rfl
  have cb1 := bB.cell 1 rfl
  have cb2 := bB.cell 2 rfl
  have cb3 := bB.cell 3 rfl
  have cb4 := bB.cell 4 rfl
  have cb5 := bB.cell 5 rfl
  have cb6 := bB.cell 6 rfl
  have cg0 := bG.cell 0 rfl
  have cg1 := bG.cell 1 rfl
  have cg2 := bG.cell 2 rfl
  have cg3 := bG.cell 3 rfl
  have cg4 := bG.cell 4 rfl
  have cg5 := bG.cell 5 rfl
  have cg6 := bG.cell 6 rfl
  have fg0 := bG.frozen 0
  have fg1 := bG.frozen 1
  have fg2 := bG.frozen 2
  have fg3 := bG.frozen 3
  have fg4 := bG.frozen 4
  have fg5 := bG.frozen 5
  have fg6 := bG.frozen 6
  have ce0 := bGF.cell 0 rfl
  have ce1 := bGF.cell 1 rfl
  have ce2 := bGF.cell 2 rfl
  have ce3 := bGF.cell 3 rfl
  have ce4 := bGF.cell 4 rfl
  have ce5 := bGF.cell 5 rfl
  have ce6 := bGF.cell 6 rfl
  clear hFB stF bB bG bGF
  go_wp2
  refine bodyPost_ret (v := .agg #[.int .i64 r, .slice Af nf cf, .slice An nn cn, .slice An nn cn, .slice none 0 0, .bool fu, .int .i64 lf]) (by simp [results, Tryz.results41, go_sem, ce0, ce1, ce2, ce3, ce4, ce5, ce6]) rfl ?_
  exact ⟨_, rfl, ((R4.out).step (stF'.out m2 ST.out.hG)).less ST.out.less, (B4.out).trans hFB'.out⟩

set_option maxRecDepth 100000 in
set_option maxHeartbeats 1600000 in
theorem remove_r (m : Nat → Prop) (S : FsM) (fu : Bool) (lf : Int) (v : Value) (w : World) (h : RefAt m w v S fu lf) (hm : ∀ k, m k → k < w.heap.size) (h0 : S.now.length ≤ 90000) (h1 : S.chg.length ≤ 90000) (p : Txt) :
    Calls Tryz.prog 40 #[v, .string (strOf p)] w (RefIsE m w (S.remove p) fu lf) := by
  obtain ⟨r, Af, nf, cf, An, nn, cn, Ak, nk, ck, Aq, nq, cq, hC7⟩ := h.seven
  obtain rfl := hC7.v_
  have C7 := Lib.hid hC7
  obtain ⟨W1, W2, m2, e1, e2, hst⟩ := start7 m w hm (.int .i64 r) (.slice Af nf cf) (.slice An nn cn) (.slice Ak nk ck) (.slice Aq nq cq) (.bool fu) (.int .i64 lf)
  have ST := Lib.hid hst
  have R2 := Lib.hid ((h.more hst.more).newB hst.b)
  have N2 := Lib.hid ((hC7.now.more hst.more).newB hst.b)
  have F2 := Lib.hid ((hC7.files.more hst.more).newB hst.b)
  have bB := hst.bB
  have bG := hst.bG
  clear h hC7 hst hm
  have hp := file_any An nn cn S.now C7.out.ln_ (by have := C7.out.ln_; omega) p W2 N2.out.sees
  have hlook : S.look p = lookD S.now p := rfl
  cases hl : lookD S.now p with
  | none =>
    rw [hl] at hp
    have e0 : S.remove p = (S, 60) := by unfold FsM.remove; rw [hlook, hl]
    rw [e0]
    have HP := Lib.hid hp
    have d2 := bB.cell 2 rfl
    clear hp hlook hl e0
    go_enter Tryz.func40, Tryz.ntmps40
    go_wp2_with fail
    refine HP.out.mono ?_
    rintro e w3 ⟨rfl, rfl⟩
    clear HP d2
    obtain ⟨WF, eF, bGF, hFB, stF⟩ := bG.store7 w.heap.size (by have := ST.out.z1; omega) (.int .i64 r) (.slice Af nf cf) (.slice An nn cn) (.slice Ak nk ck) (.slice Aq nq cq) (.bool fu) (.int .i64 lf)
    have hFB' := Lib.hid hFB
    have stF' := Lib.hid stF
    have cb0 := bB.cell 0 rfl
    have cb1 := bB.cell 1 rfl
    have cb2 := bB.cell 2 rfl
    have cb3 := bB.cell 3 rfl
    have cb4 := bB.cell 4 rfl
    have cb5 := bB.cell 5 rfl
    have cb6 := bB.cell 6 rfl
    have cg0 := bG.cell 0 rfl
    have cg1 := bG.cell 1 rfl
    have cg2 := bG.cell 2 rfl
    have cg3 := bG.cell 3 rfl
    have cg4 := bG.cell 4 rfl
    have cg5 := bG.cell 5 rfl
    have cg6 := bG.cell 6 rfl
    have fg0 := bG.frozen 0
    have fg1 := bG.frozen 1
    have fg2 := bG.frozen 2
    have fg3 := bG.frozen 3
    have fg4 := bG.frozen 4
    have fg5 := bG.frozen 5
    have fg6 := bG.frozen 6
    have ce0 := bGF.cell 0 rfl
    have ce1 := bGF.cell 1 rfl
    have ce2 := bGF.cell 2 rfl
    have ce3 := bGF.cell 3 rfl
    have ce4 := bGF.cell 4 rfl
    have ce5 := bGF.cell 5 rfl
    have ce6 := bGF.cell 6 rfl
    clear hFB stF bB bG bGF
    go_wp2
    refine bodyPost_ret (v := .tuple #[.agg #[.int .i64 r, .slice Af nf cf, .slice An nn cn, .slice Ak nk ck, .slice Aq nq cq, .bool fu, .int .i64 lf], .int .i64 60]) (by simp [results, Tryz.results40, go_sem, ce0, ce1, ce2, ce3, ce4, ce5, ce6]) rfl ?_
    exact ⟨_, rfl, ((R2.out).step (stF'.out m2 ST.out.hG)).less ST.out.less, (ST.out.b).trans hFB'.out⟩
  | some n =>
    rw [hl] at hp
    have e0 : S.remove p = (S.change [(p, none)], 0) := by unfold FsM.remove; rw [hlook, hl]
    rw [e0]
    have HP := Lib.hid hp
    have d2 := bB.cell 2 rfl
    clear hp hlook hl e0
    go_enter Tryz.func40, Tryz.ntmps40
    go_wp2_with fail
    refine HP.out.mono ?_
    rintro e w3 ⟨rfl, rfl⟩
    clear HP d2
    have hb3 : Below w3.heap.size w3 (w3.alloc (.cells #[.string (strOf p), .int .i64 (-1)] 84)) := (Below.refl _ _).alloc (Nat.le_refl _) _
    obtain ⟨W3, e3⟩ : ∃ W3, w3.alloc (.cells #[.string (strOf p), .int .i64 (-1)] 84) = W3 := ⟨_, rfl⟩
    have hsn : Sees W3 (w3.heap.size + 1) (some ⟨w3.heap.size, 0, none⟩) (gv [(p, none)]) := by
      rw [← e3]
      refine ⟨.inr ⟨_, rfl, by simp, fun j u hu => ?_⟩⟩
      rw [Addr.add_lit, World.cell?_alloc_at _ _ _ _ rfl]
      simpa [gv, gnum] using hu
    have hhn : Hold m2 W3 (some ⟨w3.heap.size, 0, none⟩) (gv [(p, none)]) := by
      rcases hsn.out with e | ⟨ad, e1, e2, e3'⟩
      · exact ⟨⟨.inl e⟩⟩
      · injection e1 with e1
        subst e1
        exact ⟨⟨.inr ⟨_, rfl, ⟨by rw [← e3]; simp, fun e => by have := ST.out.lt _ e; simp at this⟩, e3'⟩⟩⟩
    rw [e3] at hb3
    have hcl := Lib.hid (change_r m2 S fu lf _ W3 (R2.out.newB hb3) (fun k e => by have := ST.out.lt k e; have := hb3.size; omega) (some ⟨w3.heap.size, 0, none⟩) 1 1 [(p, none)] rfl (Nat.le_refl _) hhn (by omega) (by omega))
    have cb0 := bB.cell 0 rfl
    have cb1 := bB.cell 1 rfl
    have cb2 := bB.cell 2 rfl
    have cb3 := bB.cell 3 rfl
    have cb4 := bB.cell 4 rfl
    have cb5 := bB.cell 5 rfl
    have cb6 := bB.cell 6 rfl
    clear hsn hhn
    go_wp2_with fail
    refine hcl.out.mono ?_
    rintro e w4 ⟨v4, rfl, hr4, hb4⟩
    obtain ⟨r', Af', nf', cf', An', nn', cn', Ak', nk', ck', Aq', nq', cq', h7⟩ := hr4.seven
    obtain rfl := h7.v_
    have hl3 : w3.heap.size < W3.heap.size := by rw [← e3]; simp
    have hB4 := Lib.hid ((ST.out.b.trans (hb3.mono (by have := ST.out.z2; omega))).trans (hb4.mono (by have := ST.out.z2; omega)))
    have R4 := Lib.hid hr4
    have bG4 := (bG.keep (hb3.block _ bG.lt)).keep (hb4.block _ (by have := bG.lt; omega))
    clear cb0 cb1 cb2 cb3 cb4 cb5 cb6 bB bG hr4 h7 hb3 hb4 hcl e3
    have bG := bG4
    clear bG4
    obtain ⟨WF, eF, bGF, hFB, stF⟩ := bG.store7 w.heap.size (by have := ST.out.z1; omega) (.int .i64 r') (.slice Af' nf' cf') (.slice An' nn' cn') (.slice Ak' nk' ck') (.slice Aq' nq' cq') (.bool fu) (.int .i64 lf)
    have hFB' := Lib.hid hFB
    have stF' := Lib.hid stF
    have cg0 := bG.cell 0 rfl
    have cg1 := bG.cell 1 rfl
    have cg2 := bG.cell 2 rfl
    have cg3 := bG.cell 3 rfl
    have cg4 := bG.cell 4 rfl
    have cg5 := bG.cell 5 rfl
    have cg6 := bG.cell 6 rfl
    have fg0 := bG.frozen 0
    have fg1 := bG.frozen 1
    have fg2 := bG.frozen 2
    have fg3 := bG.frozen 3
    have fg4 := bG.frozen 4
    have fg5 := bG.frozen 5
    have fg6 := bG.frozen 6
    have ce0 := bGF.cell 0 rfl
    have ce1 := bGF.cell 1 rfl
    have ce2 := bGF.cell 2 rfl
    have ce3 := bGF.cell 3 rfl
    have ce4 := bGF.cell 4 rfl
    have ce5 := bGF.cell 5 rfl
    have ce6 := bGF.cell 6 rfl
    clear hFB stF bG bGF
    go_wp2
    refine bodyPost_ret (v := .tuple #[.agg #[.int .i64 r', .slice Af' nf' cf', .slice An' nn' cn', .slice Ak' nk' ck', .slice Aq' nq' cq', .bool fu, .int .i64 lf], .int .i64 0]) (by simp [results, Tryz.results40, go_sem, ce0, ce1, ce2, ce3, ce4, ce5, ce6]) rfl ?_
    exact ⟨_, rfl, ((R4.out).step (stF'.out m2 ST.out.hG)).less ST.out.less, (hB4.out).trans hFB'.out⟩

set_option maxRecDepth 100000 in
set_option maxHeartbeats 1600000 in
theorem rename_r (m : Nat → Prop) (S : FsM) (fu : Bool) (lf : Int) (v : Value) (w : World) (h : RefAt m w v S fu lf) (hm : ∀ k, m k → k < w.heap.size) (h0 : S.now.length ≤ 90000) (h1 : S.chg.length ≤ 90000) (p q : Txt) (hq : q.length ≤ 1000000) :
    Calls Tryz.prog 38 #[v, .string (strOf p), .string (strOf q)] w (RefIsE m w (S.rename p q) fu lf) := by
  obtain ⟨r, Af, nf, cf, An, nn, cn, Ak, nk, ck, Aq, nq, cq, hC7⟩ := h.seven
  obtain rfl := hC7.v_
  have C7 := Lib.hid hC7
  obtain ⟨W1, W2, m2, e1, e2, hst⟩ := start7 m w hm (.int .i64 r) (.slice Af nf cf) (.slice An nn cn) (.slice Ak nk ck) (.slice Aq nq cq) (.bool fu) (.int .i64 lf)
  have ST := Lib.hid hst
  have R2 := Lib.hid ((h.more hst.more).newB hst.b)
  have N2 := Lib.hid ((hC7.now.more hst.more).newB hst.b)
  have F2 := Lib.hid ((hC7.files.more hst.more).newB hst.b)
  have bB := hst.bB
  have bG := hst.bG
  clear h hC7 hst hm
  have hp := file_any An nn cn S.now C7.out.ln_ (by have := C7.out.ln_; omega) p W2 N2.out.sees
  have hp2 := file_any An nn cn S.now C7.out.ln_ (by have := C7.out.ln_; omega) q W2 N2.out.sees
  have hrg := refRight_any q W2 hq
  have hlook : S.look p = lookD S.now p := rfl
  have hlook2 : S.look q = lookD S.now q := rfl
  cases hl : lookD S.now p with
  | none =>
    rw [hl] at hp
    have e0 : S.rename p q = (S, 60) := by unfold FsM.rename; rw [hlook, hl]
    rw [e0]
    have HP := Lib.hid hp
    have d2 := bB.cell 2 rfl
    clear hp hp2 hrg hlook hlook2 hl e0
    go_enter Tryz.func38, Tryz.ntmps38
    go_wp2_with fail
    refine HP.out.mono ?_
    rintro e w3 ⟨rfl, rfl⟩
    clear HP d2
    obtain ⟨WF, eF, bGF, hFB, stF⟩ := bG.store7 w.heap.size (by have := ST.out.z1; omega) (.int .i64 r) (.slice Af nf cf) (.slice An nn cn) (.slice Ak nk ck) (.slice Aq nq cq) (.bool fu) (.int .i64 lf)
    have hFB' := Lib.hid hFB
    have stF' := Lib.hid stF
    have cb0 := bB.cell 0 rfl
    have cb1 := bB.cell 1 rfl
    have cb2 := bB.cell 2 rfl
    have cb3 := bB.cell 3 rfl
    have cb4 := bB.cell 4 rfl
    have cb5 := bB.cell 5 rfl
    have cb6 := bB.cell 6 rfl
    have cg0 := bG.cell 0 rfl
    have cg1 := bG.cell 1 rfl
    have cg2 := bG.cell 2 rfl
    have cg3 := bG.cell 3 rfl
    have cg4 := bG.cell 4 rfl
    have cg5 := bG.cell 5 rfl
    have cg6 := bG.cell 6 rfl
    have fg0 := bG.frozen 0
    have fg1 := bG.frozen 1
    have fg2 := bG.frozen 2
    have fg3 := bG.frozen 3
    have fg4 := bG.frozen 4
    have fg5 := bG.frozen 5
    have fg6 := bG.frozen 6
    have ce0 := bGF.cell 0 rfl
    have ce1 := bGF.cell 1 rfl
    have ce2 := bGF.cell 2 rfl
    have ce3 := bGF.cell 3 rfl
    have ce4 := bGF.cell 4 rfl
    have ce5 := bGF.cell 5 rfl
    have ce6 := bGF.cell 6 rfl
    clear hFB stF bB bG bGF
    go_wp2
    refine bodyPost_ret (v := .tuple #[.agg #[.int .i64 r, .slice Af nf cf, .slice An nn cn, .slice Ak nk ck, .slice Aq nq cq, .bool fu, .int .i64 lf], .int .i64 60]) (by simp [results, Tryz.results38, go_sem, ce0, ce1, ce2, ce3, ce4, ce5, ce6]) rfl ?_
    exact ⟨_, rfl, ((R2.out).step (stF'.out m2 ST.out.hG)).less ST.out.less, (ST.out.b).trans hFB'.out⟩
  | some n =>
    rw [hl] at hp
    have HP := Lib.hid hp
    cases hr : FsM.right q with
    | false =>
      rw [hr] at hrg
      have HRG := Lib.hid hrg
      have e0 : S.rename p q = (S, 63) := by unfold FsM.rename; rw [hlook, hl]; dsimp only; rw [if_pos hr]
      rw [e0]
      have d2 := bB.cell 2 rfl
      clear hp hp2 hrg hlook hlook2 hl e0 hr
      go_enter Tryz.func38, Tryz.ntmps38
      go_wp2_with fail
      refine HP.out.mono ?_
      rintro e w3 ⟨rfl, rfl⟩
      clear HP
      go_wp2_with fail
      refine HRG.out.mono ?_
      rintro e w3 ⟨rfl, rfl⟩
      clear HRG d2
      obtain ⟨WF, eF, bGF, hFB, stF⟩ := bG.store7 w.heap.size (by have := ST.out.z1; omega) (.int .i64 r) (.slice Af nf cf) (.slice An nn cn) (.slice Ak nk ck) (.slice Aq nq cq) (.bool fu) (.int .i64 lf)
      have hFB' := Lib.hid hFB
      have stF' := Lib.hid stF
      have cb0 := bB.cell 0 rfl
      have cb1 := bB.cell 1 rfl
      have cb2 := bB.cell 2 rfl
      have cb3 := bB.cell 3 rfl
      have cb4 := bB.cell 4 rfl
      have cb5 := bB.cell 5 rfl
      have cb6 := bB.cell 6 rfl
      have cg0 := bG.cell 0 rfl
      have cg1 := bG.cell 1 rfl
      have cg2 := bG.cell 2 rfl
      have cg3 := bG.cell 3 rfl
      have cg4 := bG.cell 4 rfl
      have cg5 := bG.cell 5 rfl
      have cg6 := bG.cell 6 rfl
      have fg0 := bG.frozen 0
      have fg1 := bG.frozen 1
      have fg2 := bG.frozen 2
      have fg3 := bG.frozen 3
      have fg4 := bG.frozen 4
      have fg5 := bG.frozen 5
      have fg6 := bG.frozen 6
      have ce0 := bGF.cell 0 rfl
      have ce1 := bGF.cell 1 rfl
      have ce2 := bGF.cell 2 rfl
      have ce3 := bGF.cell 3 rfl
      have ce4 := bGF.cell 4 rfl
      have ce5 := bGF.cell 5 rfl
      have ce6 := bGF.cell 6 rfl
      clear hFB stF bB bG bGF
      go_wp2
      refine bodyPost_ret (v := .tuple #[.agg #[.int .i64 r, .slice Af nf cf, .slice An nn cn, .slice Ak nk ck, .slice Aq nq cq, .bool fu, .int .i64 lf], .int .i64 63]) (by simp [results, Tryz.results38, go_sem, ce0, ce1, ce2, ce3, ce4, ce5, ce6]) rfl ?_
      exact ⟨_, rfl, ((R2.out).step (stF'.out m2 ST.out.hG)).less ST.out.less, (ST.out.b).trans hFB'.out⟩
    | true =>
      rw [hr] at hrg
      have HRG := Lib.hid hrg
      have e0 : S.rename p q = (S.change [(p, none), (q, some n)], 0) := by unfold FsM.rename; rw [hlook, hl]; dsimp only; rw [if_neg (by rw [hr]; decide)]
      rw [e0]
      have d2 := bB.cell 2 rfl
      clear hp hp2 hrg hlook hlook2 hl e0 hr
      go_enter Tryz.func38, Tryz.ntmps38
      go_wp2_with fail
      refine HP.out.mono ?_
      rintro e w3 ⟨rfl, rfl⟩
      clear HP
      go_wp2_with fail
      refine HRG.out.mono ?_
      rintro e w3 ⟨rfl, rfl⟩
      clear HRG d2
      have hb3 : Below w3.heap.size w3 (w3.alloc (.cells #[.string (strOf p), .int .i64 (-1), .string (strOf q), .int .i64 (gnum (some n))] 84)) := (Below.refl _ _).alloc (Nat.le_refl _) _
      obtain ⟨W3, e3⟩ : ∃ W3, w3.alloc (.cells #[.string (strOf p), .int .i64 (-1), .string (strOf q), .int .i64 (gnum (some n))] 84) = W3 := ⟨_, rfl⟩
      have hsn : Sees W3 (w3.heap.size + 1) (some ⟨w3.heap.size, 0, none⟩) (gv [(p, none), (q, some n)]) := by
        rw [← e3]
        refine ⟨.inr ⟨_, rfl, by simp, fun j u hu => ?_⟩⟩
        rw [Addr.add_lit, World.cell?_alloc_at _ _ _ _ rfl]
        simpa [gv, gnum] using hu
      have hhn : Hold m2 W3 (some ⟨w3.heap.size, 0, none⟩) (gv [(p, none), (q, some n)]) := by
        rcases hsn.out with e | ⟨ad, e1, e2, e3'⟩
        · exact ⟨⟨.inl e⟩⟩
        · injection e1 with e1
          subst e1
          exact ⟨⟨.inr ⟨_, rfl, ⟨by rw [← e3]; simp, fun e => by have := ST.out.lt _ e; simp at this⟩, e3'⟩⟩⟩
      rw [e3] at hb3
      have hcl := Lib.hid (change_r m2 S fu lf _ W3 (R2.out.newB hb3) (fun k e => by have := ST.out.lt k e; have := hb3.size; omega) (some ⟨w3.heap.size, 0, none⟩) 2 2 [(p, none), (q, some n)] rfl (Nat.le_refl _) hhn (by omega) (by omega))
      have cb0 := bB.cell 0 rfl
      have cb1 := bB.cell 1 rfl
      have cb2 := bB.cell 2 rfl
      have cb3 := bB.cell 3 rfl
      have cb4 := bB.cell 4 rfl
      have cb5 := bB.cell 5 rfl
      have cb6 := bB.cell 6 rfl
      clear hsn hhn
      go_wp2_with fail
      refine hcl.out.mono ?_
      rintro e w4 ⟨v4, rfl, hr4, hb4⟩
      obtain ⟨r', Af', nf', cf', An', nn', cn', Ak', nk', ck', Aq', nq', cq', h7⟩ := hr4.seven
      obtain rfl := h7.v_
      have hl3 : w3.heap.size < W3.heap.size := by rw [← e3]; simp
      have hB4 := Lib.hid ((ST.out.b.trans (hb3.mono (by have := ST.out.z2; omega))).trans (hb4.mono (by have := ST.out.z2; omega)))
      have R4 := Lib.hid hr4
      have bG4 := (bG.keep (hb3.block _ bG.lt)).keep (hb4.block _ (by have := bG.lt; omega))
      clear cb0 cb1 cb2 cb3 cb4 cb5 cb6 bB bG hr4 h7 hb3 hb4 hcl e3
      have bG := bG4
      clear bG4
      obtain ⟨WF, eF, bGF, hFB, stF⟩ := bG.store7 w.heap.size (by have := ST.out.z1; omega) (.int .i64 r') (.slice Af' nf' cf') (.slice An' nn' cn') (.slice Ak' nk' ck') (.slice Aq' nq' cq') (.bool fu) (.int .i64 lf)
      have hFB' := Lib.hid hFB
      have stF' := Lib.hid stF
      have cg0 := bG.cell 0 rfl
      have cg1 := bG.cell 1 rfl
      have cg2 := bG.cell 2 rfl
      have cg3 := bG.cell 3 rfl
      have cg4 := bG.cell 4 rfl
      have cg5 := bG.cell 5 rfl
      have cg6 := bG.cell 6 rfl
      have fg0 := bG.frozen 0
      have fg1 := bG.frozen 1
      have fg2 := bG.frozen 2
      have fg3 := bG.frozen 3
      have fg4 := bG.frozen 4
      have fg5 := bG.frozen 5
      have fg6 := bG.frozen 6
      have ce0 := bGF.cell 0 rfl
      have ce1 := bGF.cell 1 rfl
      have ce2 := bGF.cell 2 rfl
      have ce3 := bGF.cell 3 rfl
      have ce4 := bGF.cell 4 rfl
      have ce5 := bGF.cell 5 rfl
      have ce6 := bGF.cell 6 rfl
      clear hFB stF bG bGF
      go_wp2
      refine bodyPost_ret (v := .tuple #[.agg #[.int .i64 r', .slice Af' nf' cf', .slice An' nn' cn', .slice Ak' nk' ck', .slice Aq' nq' cq', .bool fu, .int .i64 lf], .int .i64 0]) (by simp [results, Tryz.results38, go_sem, ce0, ce1, ce2, ce3, ce4, ce5, ce6]) rfl ?_
      exact ⟨_, rfl, ((R4.out).step (stF'.out m2 ST.out.hG)).less ST.out.less, (hB4.out).trans hFB'.out⟩

set_option maxRecDepth 100000 in
set_option maxHeartbeats 1600000 in
theorem link_r (m : Nat → Prop) (S : FsM) (fu : Bool) (lf : Int) (v : Value) (w : World) (h : RefAt m w v S fu lf) (hm : ∀ k, m k → k < w.heap.size) (h0 : S.now.length ≤ 90000) (h1 : S.chg.length ≤ 90000) (p q : Txt) (hq : q.length ≤ 1000000) :
    Calls Tryz.prog 39 #[v, .string (strOf p), .string (strOf q)] w (RefIsE m w (S.link p q) fu lf) := by
  obtain ⟨r, Af, nf, cf, An, nn, cn, Ak, nk, ck, Aq, nq, cq, hC7⟩ := h.seven
  obtain rfl := hC7.v_
  have C7 := Lib.hid hC7
  obtain ⟨W1, W2, m2, e1, e2, hst⟩ := start7 m w hm (.int .i64 r) (.slice Af nf cf) (.slice An nn cn) (.slice Ak nk ck) (.slice Aq nq cq) (.bool fu) (.int .i64 lf)
  have ST := Lib.hid hst
  have R2 := Lib.hid ((h.more hst.more).newB hst.b)
  have N2 := Lib.hid ((hC7.now.more hst.more).newB hst.b)
  have F2 := Lib.hid ((hC7.files.more hst.more).newB hst.b)
  have bB := hst.bB
  have bG := hst.bG
  clear h hC7 hst hm
  have hp := file_any An nn cn S.now C7.out.ln_ (by have := C7.out.ln_; omega) p W2 N2.out.sees
  have hp2 := file_any An nn cn S.now C7.out.ln_ (by have := C7.out.ln_; omega) q W2 N2.out.sees
  have hrg := refRight_any q W2 hq
  have hlook : S.look p = lookD S.now p := rfl
  have hlook2 : S.look q = lookD S.now q := rfl
  cases hl : lookD S.now p with
  | none =>
    rw [hl] at hp
    have e0 : S.link p q = (S, 60) := by unfold FsM.link; rw [hlook, hl]
    rw [e0]
    have HP := Lib.hid hp
    have d2 := bB.cell 2 rfl
    clear hp hp2 hrg hlook hlook2 hl e0
    go_enter Tryz.func39, Tryz.ntmps39
    go_wp2_with fail
    refine HP.out.mono ?_
    rintro e w3 ⟨rfl, rfl⟩
    clear HP d2
    obtain ⟨WF, eF, bGF, hFB, stF⟩ := bG.store7 w.heap.size (by have := ST.out.z1; omega) (.int .i64 r) (.slice Af nf cf) (.slice An nn cn) (.slice Ak nk ck) (.slice Aq nq cq) (.bool fu) (.int .i64 lf)
    have hFB' := Lib.hid hFB
    have stF' := Lib.hid stF
    have cb0 := bB.cell 0 rfl
    have cb1 := bB.cell 1 rfl
    have cb2 := bB.cell 2 rfl
    have cb3 := bB.cell 3 rfl
    have cb4 := bB.cell 4 rfl
    have cb5 := bB.cell 5 rfl
    have cb6 := bB.cell 6 rfl
    have cg0 := bG.cell 0 rfl
    have cg1 := bG.cell 1 rfl
    have cg2 := bG.cell 2 rfl
    have cg3 := bG.cell 3 rfl
    have cg4 := bG.cell 4 rfl
    have cg5 := bG.cell 5 rfl
    have cg6 := bG.cell 6 rfl
    have fg0 := bG.frozen 0
    have fg1 := bG.frozen 1
    have fg2 := bG.frozen 2
    have fg3 := bG.frozen 3
    have fg4 := bG.frozen 4
    have fg5 := bG.frozen 5
    have fg6 := bG.frozen 6
    have ce0 := bGF.cell 0 rfl
    have ce1 := bGF.cell 1 rfl
    have ce2 := bGF.cell 2 rfl
    have ce3 := bGF.cell 3 rfl
    have ce4 := bGF.cell 4 rfl
    have ce5 := bGF.cell 5 rfl
    have ce6 := bGF.cell 6 rfl
    clear hFB stF bB bG bGF
    go_wp2
    refine bodyPost_ret (v := .tuple #[.agg #[.int .i64 r, .slice Af nf cf, .slice An nn cn, .slice Ak nk ck, .slice Aq nq cq, .bool fu, .int .i64 lf], .int .i64 60]) (by simp [results, Tryz.results39, go_sem, ce0, ce1, ce2, ce3, ce4, ce5, ce6]) rfl ?_
    exact ⟨_, rfl, ((R2.out).step (stF'.out m2 ST.out.hG)).less ST.out.less, (ST.out.b).trans hFB'.out⟩
  | some n =>
    rw [hl] at hp
    have HP := Lib.hid hp
    cases hr : FsM.right q with
    | false =>
      rw [hr] at hrg
      have HRG := Lib.hid hrg
      have e0 : S.link p q = (S, 63) := by unfold FsM.link; rw [hlook, hl]; dsimp only; rw [if_pos hr]
      rw [e0]
      have d2 := bB.cell 2 rfl
      clear hp hp2 hrg hlook hlook2 hl e0 hr
      go_enter Tryz.func39, Tryz.ntmps39
      go_wp2_with fail
      refine HP.out.mono ?_
      rintro e w3 ⟨rfl, rfl⟩
      clear HP
      go_wp2_with fail
      refine HRG.out.mono ?_
      rintro e w3 ⟨rfl, rfl⟩
      clear HRG d2
      obtain ⟨WF, eF, bGF, hFB, stF⟩ := bG.store7 w.heap.size (by have := ST.out.z1; omega) (.int .i64 r) (.slice Af nf cf) (.slice An nn cn) (.slice Ak nk ck) (.slice Aq nq cq) (.bool fu) (.int .i64 lf)
      have hFB' := Lib.hid hFB
      have stF' := Lib.hid stF
      have cb0 := bB.cell 0 rfl
      have cb1 := bB.cell 1 rfl
      have cb2 := bB.cell 2 rfl
      have cb3 := bB.cell 3 rfl
      have cb4 := bB.cell 4 rfl
      have cb5 := bB.cell 5 rfl
      have cb6 := bB.cell 6 rfl
      have cg0 := bG.cell 0 rfl
      have cg1 := bG.cell 1 rfl
      have cg2 := bG.cell 2 rfl
      have cg3 := bG.cell 3 rfl
      have cg4 := bG.cell 4 rfl
      have cg5 := bG.cell 5 rfl
      have cg6 := bG.cell 6 rfl
      have fg0 := bG.frozen 0
      have fg1 := bG.frozen 1
      have fg2 := bG.frozen 2
      have fg3 := bG.frozen 3
      have fg4 := bG.frozen 4
      have fg5 := bG.frozen 5
      have fg6 := bG.frozen 6
      have ce0 := bGF.cell 0 rfl
      have ce1 := bGF.cell 1 rfl
      have ce2 := bGF.cell 2 rfl
      have ce3 := bGF.cell 3 rfl
      have ce4 := bGF.cell 4 rfl
      have ce5 := bGF.cell 5 rfl
      have ce6 := bGF.cell 6 rfl
      clear hFB stF bB bG bGF
      go_wp2
      refine bodyPost_ret (v := .tuple #[.agg #[.int .i64 r, .slice Af nf cf, .slice An nn cn, .slice Ak nk ck, .slice Aq nq cq, .bool fu, .int .i64 lf], .int .i64 63]) (by simp [results, Tryz.results39, go_sem, ce0, ce1, ce2, ce3, ce4, ce5, ce6]) rfl ?_
      exact ⟨_, rfl, ((R2.out).step (stF'.out m2 ST.out.hG)).less ST.out.less, (ST.out.b).trans hFB'.out⟩
    | true =>
      rw [hr] at hrg
      have HRG := Lib.hid hrg
      cases hl2 : lookD S.now q with
      | some k =>
        rw [hl2] at hp2
        have HP2 := Lib.hid hp2
        have e0 : S.link p q = (S, 61) := by unfold FsM.link; rw [hlook, hl]; dsimp only; rw [if_neg (by rw [hr]; decide), hlook2, hl2]; rfl
        rw [e0]
        have d2 := bB.cell 2 rfl
        clear hp hp2 hrg hlook hlook2 hl hl2 e0 hr
        go_enter Tryz.func39, Tryz.ntmps39
        go_wp2_with fail
        refine HP.out.mono ?_
        rintro e w3 ⟨rfl, rfl⟩
        clear HP
        go_wp2_with fail
        refine HRG.out.mono ?_
        rintro e w3 ⟨rfl, rfl⟩
        clear HRG
        go_wp2_with fail
        refine HP2.out.mono ?_
        rintro e w3 ⟨rfl, rfl⟩
        clear HP2 d2
        obtain ⟨WF, eF, bGF, hFB, stF⟩ := bG.store7 w.heap.size (by have := ST.out.z1; omega) (.int .i64 r) (.slice Af nf cf) (.slice An nn cn) (.slice Ak nk ck) (.slice Aq nq cq) (.bool fu) (.int .i64 lf)
        have hFB' := Lib.hid hFB
        have stF' := Lib.hid stF
        have cb0 := bB.cell 0 rfl
        have cb1 := bB.cell 1 rfl
        have cb2 := bB.cell 2 rfl
        have cb3 := bB.cell 3 rfl
        have cb4 := bB.cell 4 rfl
        have cb5 := bB.cell 5 rfl
        have cb6 := bB.cell 6 rfl
        have cg0 := bG.cell 0 rfl
        have cg1 := bG.cell 1 rfl
        have cg2 := bG.cell 2 rfl
        have cg3 := bG.cell 3 rfl
        have cg4 := bG.cell 4 rfl
        have cg5 := bG.cell 5 rfl
        have cg6 := bG.cell 6 rfl
        have fg0 := bG.frozen 0
        have fg1 := bG.frozen 1
        have fg2 := bG.frozen 2
        have fg3 := bG.frozen 3
        have fg4 := bG.frozen 4
        have fg5 := bG.frozen 5
        have fg6 := bG.frozen 6
        have ce0 := bGF.cell 0 rfl
        have ce1 := bGF.cell 1 rfl
        have ce2 := bGF.cell 2 rfl
        have ce3 := bGF.cell 3 rfl
        have ce4 := bGF.cell 4 rfl
        have ce5 := bGF.cell 5 rfl
        have ce6 := bGF.cell 6 rfl
        clear hFB stF bB bG bGF
        go_wp2
        refine bodyPost_ret (v := .tuple #[.agg #[.int .i64 r, .slice Af nf cf, .slice An nn cn, .slice Ak nk ck, .slice Aq nq cq, .bool fu, .int .i64 lf], .int .i64 61]) (by simp [results, Tryz.results39, go_sem, ce0, ce1, ce2, ce3, ce4, ce5, ce6]) rfl ?_
        exact ⟨_, rfl, ((R2.out).step (stF'.out m2 ST.out.hG)).less ST.out.less, (ST.out.b).trans hFB'.out⟩
      | none =>
        rw [hl2] at hp2
        have HP2 := Lib.hid hp2
        have e0 : S.link p q = (S.change [(q, some n)], 0) := by unfold FsM.link; rw [hlook, hl]; dsimp only; rw [if_neg (by rw [hr]; decide), hlook2, hl2]; rfl
        rw [e0]
        have d2 := bB.cell 2 rfl
        clear hp hp2 hrg hlook hlook2 hl hl2 e0 hr
        go_enter Tryz.func39, Tryz.ntmps39
        go_wp2_with fail
        refine HP.out.mono ?_
        rintro e w3 ⟨rfl, rfl⟩
        clear HP
        go_wp2_with fail
        refine HRG.out.mono ?_
        rintro e w3 ⟨rfl, rfl⟩
        clear HRG
        go_wp2_with fail
        refine HP2.out.mono ?_
        rintro e w3 ⟨rfl, rfl⟩
        clear HP2 d2
        have hb3 : Below w3.heap.size w3 (w3.alloc (.cells #[.string (strOf q), .int .i64 (gnum (some n))] 84)) := (Below.refl _ _).alloc (Nat.le_refl _) _
        obtain ⟨W3, e3⟩ : ∃ W3, w3.alloc (.cells #[.string (strOf q), .int .i64 (gnum (some n))] 84) = W3 := ⟨_, rfl⟩
        have hsn : Sees W3 (w3.heap.size + 1) (some ⟨w3.heap.size, 0, none⟩) (gv [(q, some n)]) := by
          rw [← e3]
          refine ⟨.inr ⟨_, rfl, by simp, fun j u hu => ?_⟩⟩
          rw [Addr.add_lit, World.cell?_alloc_at _ _ _ _ rfl]
          simpa [gv, gnum] using hu
        have hhn : Hold m2 W3 (some ⟨w3.heap.size, 0, none⟩) (gv [(q, some n)]) := by
          rcases hsn.out with e | ⟨ad, e1, e2, e3'⟩
          · exact ⟨⟨.inl e⟩⟩
          · injection e1 with e1
            subst e1
            exact ⟨⟨.inr ⟨_, rfl, ⟨by rw [← e3]; simp, fun e => by have := ST.out.lt _ e; simp at this⟩, e3'⟩⟩⟩
        rw [e3] at hb3
        have hcl := Lib.hid (change_r m2 S fu lf _ W3 (R2.out.newB hb3) (fun k e => by have := ST.out.lt k e; have := hb3.size; omega) (some ⟨w3.heap.size, 0, none⟩) 1 1 [(q, some n)] rfl (Nat.le_refl _) hhn (by omega) (by omega))
        have cb0 := bB.cell 0 rfl
        have cb1 := bB.cell 1 rfl
        have cb2 := bB.cell 2 rfl
        have cb3 := bB.cell 3 rfl
        have cb4 := bB.cell 4 rfl
        have cb5 := bB.cell 5 rfl
        have cb6 := bB.cell 6 rfl
        clear hsn hhn
        go_wp2_with fail
        refine hcl.out.mono ?_
        rintro e w4 ⟨v4, rfl, hr4, hb4⟩
        obtain ⟨r', Af', nf', cf', An', nn', cn', Ak', nk', ck', Aq', nq', cq', h7⟩ := hr4.seven
        obtain rfl := h7.v_
        have hl3 : w3.heap.size < W3.heap.size := by rw [← e3]; simp
        have hB4 := Lib.hid ((ST.out.b.trans (hb3.mono (by have := ST.out.z2; omega))).trans (hb4.mono (by have := ST.out.z2; omega)))
        have R4 := Lib.hid hr4
        have bG4 := (bG.keep (hb3.block _ bG.lt)).keep (hb4.block _ (by have := bG.lt; omega))
        clear cb0 cb1 cb2 cb3 cb4 cb5 cb6 bB bG hr4 h7 hb3 hb4 hcl e3
        have bG := bG4
        clear bG4
        obtain ⟨WF, eF, bGF, hFB, stF⟩ := bG.store7 w.heap.size (by have := ST.out.z1; omega) (.int .i64 r') (.slice Af' nf' cf') (.slice An' nn' cn') (.slice Ak' nk' ck') (.slice Aq' nq' cq') (.bool fu) (.int .i64 lf)
        have hFB' := Lib.hid hFB
        have stF' := Lib.hid stF
        have cg0 := bG.cell 0 rfl
        have cg1 := bG.cell 1 rfl
        have cg2 := bG.cell 2 rfl
        have cg3 := bG.cell 3 rfl
        have cg4 := bG.cell 4 rfl
        have cg5 := bG.cell 5 rfl
        have cg6 := bG.cell 6 rfl
        have fg0 := bG.frozen 0
        have fg1 := bG.frozen 1
        have fg2 := bG.frozen 2
        have fg3 := bG.frozen 3
        have fg4 := bG.frozen 4
        have fg5 := bG.frozen 5
        have fg6 := bG.frozen 6
        have ce0 := bGF.cell 0 rfl
        have ce1 := bGF.cell 1 rfl
        have ce2 := bGF.cell 2 rfl
        have ce3 := bGF.cell 3 rfl
        have ce4 := bGF.cell 4 rfl
        have ce5 := bGF.cell 5 rfl
        have ce6 := bGF.cell 6 rfl
        clear hFB stF bG bGF
        go_wp2
        refine bodyPost_ret (v := .tuple #[.agg #[.int .i64 r', .slice Af' nf' cf', .slice An' nn' cn', .slice Ak' nk' ck', .slice Aq' nq' cq', .bool fu, .int .i64 lf], .int .i64 0]) (by simp [results, Tryz.results39, go_sem, ce0, ce1, ce2, ce3, ce4, ce5, ce6]) rfl ?_
        exact ⟨_, rfl, ((R4.out).step (stF'.out m2 ST.out.hG)).less ST.out.less, (hB4.out).trans hFB'.out⟩
end Go.Proofs.YteidkmiladkoiaaGreatDoor

/-
  The document's fuse; New; Read.
-/
namespace Go.Proofs.YteidkmiladkoiaaGreatDoor
open Go.RowKit

/-- The fuse: what is left; is it spent? -/
def spentR (fu : Bool) (lf : Int) : Int × Bool := if fu = false then (lf, false) else if lf = 0 then (lf, true) else (lf - 1, false)
def RefIsB (m : Nat → Prop) (w : World) (S : FsM) (fu : Bool) (r : Int × Bool) (e : Ending) (w' : World) : Prop := ∃ v, e = .returned (.tuple #[v, .bool r.2]) ∧ RefAt m w' v S fu r.1 ∧ Below w.heap.size w w'

set_option maxRecDepth 100000 in
set_option maxHeartbeats 1600000 in
theorem spent_r (m : Nat → Prop) (S : FsM) (fu : Bool) (lf : Int) (v : Value) (w : World) (h : RefAt m w v S fu lf) (hm : ∀ k, m k → k < w.heap.size) (hlo : 0 ≤ lf) (hhi : lf ≤ 9223372036854775807) :
    Calls Tryz.prog 33 #[v] w (RefIsB m w S fu (spentR fu lf)) := by
  obtain ⟨r, Af, nf, cf, An, nn, cn, Ak, nk, ck, Aq, nq, cq, hC7⟩ := h.seven
  obtain rfl := hC7.v_
  have C7 := Lib.hid hC7
  obtain ⟨W1, W2, m2, e1, e2, hst⟩ := start7 m w hm (.int .i64 r) (.slice Af nf cf) (.slice An nn cn) (.slice Ak nk ck) (.slice Aq nq cq) (.bool fu) (.int .i64 lf)
  have ST := Lib.hid hst
  have R2 := Lib.hid ((h.more hst.more).newB hst.b)
  have N2 := Lib.hid ((hC7.now.more hst.more).newB hst.b)
  have F2 := Lib.hid ((hC7.files.more hst.more).newB hst.b)
  have bB := hst.bB
  have bG := hst.bG
  clear h hC7 hst hm

  have d5 := bB.cell 5 rfl
  have d6 := bB.cell 6 rfl
  cases fu with
  | false =>
    have e0 : spentR false lf = (lf, false) := rfl
    rw [e0]
    clear e0
    go_enter Tryz.func33, Tryz.ntmps33
    obtain ⟨WF, eF, bGF, hFB, stF⟩ := bG.store7 w.heap.size (by have := ST.out.z1; omega) (.int .i64 r) (.slice Af nf cf) (.slice An nn cn) (.slice Ak nk ck) (.slice Aq nq cq) (.bool false) (.int .i64 lf)
    have hFB' := Lib.hid hFB
    have stF' := Lib.hid stF
    have cb0 := bB.cell 0 rfl
    have cb1 := bB.cell 1 rfl
    have cb2 := bB.cell 2 rfl
    have cb3 := bB.cell 3 rfl
    have cb4 := bB.cell 4 rfl
    have cb5 := bB.cell 5 rfl
    have cb6 := bB.cell 6 rfl
    have cg0 := bG.cell 0 rfl
    have cg1 := bG.cell 1 rfl
    have cg2 := bG.cell 2 rfl
    have cg3 := bG.cell 3 rfl
    have cg4 := bG.cell 4 rfl
    have cg5 := bG.cell 5 rfl
    have cg6 := bG.cell 6 rfl
    have fg0 := bG.frozen 0
    have fg1 := bG.frozen 1
    have fg2 := bG.frozen 2
    have fg3 := bG.frozen 3
    have fg4 := bG.frozen 4
    have fg5 := bG.frozen 5
    have fg6 := bG.frozen 6
    have ce0 := bGF.cell 0 rfl
    have ce1 := bGF.cell 1 rfl
    have ce2 := bGF.cell 2 rfl
    have ce3 := bGF.cell 3 rfl
    have ce4 := bGF.cell 4 rfl
    have ce5 := bGF.cell 5 rfl
    have ce6 := bGF.cell 6 rfl
    clear hFB stF bB bG bGF
    go_wp2
    refine bodyPost_ret (v := .tuple #[.agg #[.int .i64 r, .slice Af nf cf, .slice An nn cn, .slice Ak nk ck, .slice Aq nq cq, .bool false, .int .i64 lf], .bool false]) (by simp [results, Tryz.results33, go_sem, ce0, ce1, ce2, ce3, ce4, ce5, ce6]) rfl ?_
    exact ⟨_, rfl, ((R2.out).step (stF'.out m2 ST.out.hG)).less ST.out.less, (ST.out.b).trans hFB'.out⟩
  | true =>
    by_cases hz : lf = 0
    · have e0 : spentR true lf = (lf, true) := by unfold spentR; rw [if_neg (by decide), if_pos hz]
      rw [e0]
      have hz2 : lf ≤ 0 := by omega
      clear e0 hz
      go_enter Tryz.func33, Tryz.ntmps33
      obtain ⟨WF, eF, bGF, hFB, stF⟩ := bG.store7 w.heap.size (by have := ST.out.z1; omega) (.int .i64 r) (.slice Af nf cf) (.slice An nn cn) (.slice Ak nk ck) (.slice Aq nq cq) (.bool true) (.int .i64 lf)
      have hFB' := Lib.hid hFB
      have stF' := Lib.hid stF
      have cb0 := bB.cell 0 rfl
      have cb1 := bB.cell 1 rfl
      have cb2 := bB.cell 2 rfl
      have cb3 := bB.cell 3 rfl
      have cb4 := bB.cell 4 rfl
      have cb5 := bB.cell 5 rfl
      have cb6 := bB.cell 6 rfl
      have cg0 := bG.cell 0 rfl
      have cg1 := bG.cell 1 rfl
      have cg2 := bG.cell 2 rfl
      have cg3 := bG.cell 3 rfl
      have cg4 := bG.cell 4 rfl
      have cg5 := bG.cell 5 rfl
      have cg6 := bG.cell 6 rfl
      have fg0 := bG.frozen 0
      have fg1 := bG.frozen 1
      have fg2 := bG.frozen 2
      have fg3 := bG.frozen 3
      have fg4 := bG.frozen 4
      have fg5 := bG.frozen 5
      have fg6 := bG.frozen 6
      have ce0 := bGF.cell 0 rfl
      have ce1 := bGF.cell 1 rfl
      have ce2 := bGF.cell 2 rfl
      have ce3 := bGF.cell 3 rfl
      have ce4 := bGF.cell 4 rfl
      have ce5 := bGF.cell 5 rfl
      have ce6 := bGF.cell 6 rfl
      clear hFB stF bB bG bGF
      go_wp2
      refine bodyPost_ret (v := .tuple #[.agg #[.int .i64 r, .slice Af nf cf, .slice An nn cn, .slice Ak nk ck, .slice Aq nq cq, .bool true, .int .i64 lf], .bool true]) (by simp [results, Tryz.results33, go_sem, ce0, ce1, ce2, ce3, ce4, ce5, ce6]) rfl ?_
      exact ⟨_, rfl, ((R2.out).step (stF'.out m2 ST.out.hG)).less ST.out.less, (ST.out.b).trans hFB'.out⟩
    · have e0 : spentR true lf = (lf - 1, false) := by unfold spentR; rw [if_neg (by decide), if_neg hz]
      rw [e0]
      clear e0
      obtain ⟨W3, e3⟩ : ∃ W3, W2.setCell ⟨w.heap.size, 6, none⟩ (.int .i64 (lf - 1)) = W3 := ⟨_, rfl⟩
      have g6 := bB.frozen 6
      have bB3 : Blk W3 w.heap.size #[.int .i64 r, .slice Af nf cf, .slice An nn cn, .slice Ak nk ck, .slice Aq nq cq, .bool true, .int .i64 (lf - 1)] 30 := e3 ▸ bB.set_ 6 _ (by simp)
      have b3 : Below w.heap.size W2 W3 := e3 ▸ (Below.refl w.heap.size W2).setCell (p := ⟨w.heap.size, 6, none⟩) (Nat.le_refl _) _
      have bG3 := bG.keep (e3 ▸ Below.heap_setCell W2 ⟨w.heap.size, 6, none⟩ _ W1.heap.size (by have := ST.out.z1; show W1.heap.size ≠ w.heap.size; omega))
      have R4 := Lib.hid ((R2.out.step (e3 ▸ Stp.setCell m2 W2 _ _ _ ST.out.hB : Stp m2 W2 m2 W3)).fuse true (lf - 1) S.fuse)
      have B4 := Lib.hid (ST.out.b.trans b3)
      clear b3 bB bG
      have bB := bB3
      have bG := bG3
      clear bB3 bG3
      go_enter Tryz.func33, Tryz.ntmps33
      obtain ⟨WF, eF, bGF, hFB, stF⟩ := bG.store7 w.heap.size (by have := ST.out.z1; omega) (.int .i64 r) (.slice Af nf cf) (.slice An nn cn) (.slice Ak nk ck) (.slice Aq nq cq) (.bool true) (.int .i64 (lf - 1))
      have hFB' := Lib.hid hFB
      have stF' := Lib.hid stF
      have cb0 := bB.cell 0 rfl
      have cb1 := bB.cell 1 rfl
      have cb2 := bB.cell 2 rfl
      have cb3 := bB.cell 3 rfl
      have cb4 := bB.cell 4 rfl
      have cb5 := bB.cell 5 rfl
      have cb6 := bB.cell 6 rfl
      have cg0 := bG.cell 0 rfl
      have cg1 := bG.cell 1 rfl
      have cg2 := bG.cell 2 rfl
      have cg3 := bG.cell 3 rfl
      have cg4 := bG.cell 4 rfl
      have cg5 := bG.cell 5 rfl
      have cg6 := bG.cell 6 rfl
      have fg0 := bG.frozen 0
      have fg1 := bG.frozen 1
      have fg2 := bG.frozen 2
      have fg3 := bG.frozen 3
      have fg4 := bG.frozen 4
      have fg5 := bG.frozen 5
      have fg6 := bG.frozen 6
      have ce0 := bGF.cell 0 rfl
      have ce1 := bGF.cell 1 rfl
      have ce2 := bGF.cell 2 rfl
      have ce3 := bGF.cell 3 rfl
      have ce4 := bGF.cell 4 rfl
      have ce5 := bGF.cell 5 rfl
      have ce6 := bGF.cell 6 rfl
      clear hFB stF bB bG bGF
      go_wp2
      refine bodyPost_ret (v := .tuple #[.agg #[.int .i64 r, .slice Af nf cf, .slice An nn cn, .slice Ak nk ck, .slice Aq nq cq, .bool true, .int .i64 (lf - 1)], .bool false]) (by simp [results, Tryz.results33, go_sem, ce0, ce1, ce2, ce3, ce4, ce5, ce6]) rfl ?_
      exact ⟨_, rfl, ((R4.out).step (stF'.out m2 ST.out.hG)).less ST.out.less, (B4.out).trans hFB'.out⟩

set_option maxRecDepth 100000 in
set_option maxHeartbeats 1600000 in
theorem set_r (m : Nat → Prop) (S : FsM) (fu : Bool) (lf : Int) (v : Value) (w : World) (h : RefAt m w v S fu lf) (hm : ∀ k, m k → k < w.heap.size) (n : Int) :
    Calls Tryz.prog 32 #[v, .int .i64 n] w (RefIs m w S true (max n 0)) := by
  obtain ⟨r, Af, nf, cf, An, nn, cn, Ak, nk, ck, Aq, nq, cq, hC7⟩ := h.seven
  obtain rfl := hC7.v_
  have C7 := Lib.hid hC7
  obtain ⟨W1, W2, m2, e1, e2, hst⟩ := start7 m w hm (.int .i64 r) (.slice Af nf cf) (.slice An nn cn) (.slice Ak nk ck) (.slice Aq nq cq) (.bool fu) (.int .i64 lf)
  have ST := Lib.hid hst
  have R2 := Lib.hid ((h.more hst.more).newB hst.b)
  have N2 := Lib.hid ((hC7.now.more hst.more).newB hst.b)
  have F2 := Lib.hid ((hC7.files.more hst.more).newB hst.b)
  have bB := hst.bB
  have bG := hst.bG
  clear h hC7 hst hm

  obtain ⟨W3, e3⟩ : ∃ W3, W2.setCell ⟨w.heap.size, 5, none⟩ (.bool true) = W3 := ⟨_, rfl⟩
  obtain ⟨W4, e4⟩ : ∃ W4, W3.setCell ⟨w.heap.size, 6, none⟩ (.int .i64 (max n 0)) = W4 := ⟨_, rfl⟩
  have d5 := bB.cell 5 rfl
  have g5 := bB.frozen 5
  have bB3 : Blk W3 w.heap.size #[.int .i64 r, .slice Af nf cf, .slice An nn cn, .slice Ak nk ck, .slice Aq nq cq, .bool true, .int .i64 lf] 30 := e3 ▸ bB.set_ 5 _ (by simp)
  have d6 := bB3.cell 6 rfl
  have g6 := bB3.frozen 6
  have bB4 : Blk W4 w.heap.size #[.int .i64 r, .slice Af nf cf, .slice An nn cn, .slice Ak nk ck, .slice Aq nq cq, .bool true, .int .i64 (max n 0)] 30 := e4 ▸ bB3.set_ 6 _ (by simp)
  have k3 : Stp m2 W2 m2 W3 := e3 ▸ Stp.setCell m2 W2 _ _ _ ST.out.hB
  have k4 : Stp m2 W3 m2 W4 := e4 ▸ Stp.setCell m2 W3 _ _ _ ST.out.hB
  have b3 : Below w.heap.size W2 W3 := e3 ▸ (Below.refl w.heap.size W2).setCell (p := ⟨w.heap.size, 5, none⟩) (Nat.le_refl _) _
  have b4 : Below w.heap.size W3 W4 := e4 ▸ (Below.refl w.heap.size W3).setCell (p := ⟨w.heap.size, 6, none⟩) (Nat.le_refl _) _
  have bG3 := bG.keep (e3 ▸ Below.heap_setCell W2 ⟨w.heap.size, 5, none⟩ _ W1.heap.size (by have := ST.out.z1; show W1.heap.size ≠ w.heap.size; omega))
  have bG4 := bG3.keep (e4 ▸ Below.heap_setCell W3 ⟨w.heap.size, 6, none⟩ _ W1.heap.size (by have := ST.out.z1; show W1.heap.size ≠ w.heap.size; omega))
  have R4 := Lib.hid (((R2.out.step k3).step k4).fuse true (max n 0) S.fuse)
  have B4 := Lib.hid ((ST.out.b.trans b3).trans b4)
  clear bB bG bB3 bG3 k3 k4 b3 b4
  have bB := bB4
  have bG := bG4
  clear bB4 bG4
  go_enter Tryz.func32, Tryz.ntmps32
  obtain ⟨WF, eF, bGF, hFB, stF⟩ := bG.store7 w.heap.size (by have := ST.out.z1; omega) (.int .i64 r) (.slice Af nf cf) (.slice An nn cn) (.slice Ak nk ck) (.slice Aq nq cq) (.bool true) (.int .i64 (max n 0))
  have hFB' := Lib.hid hFB
  have stF' := Lib.hid stF
  have cb0 := bB.cell 0 rfl
  have cb1 := bB.cell 1 rfl
  have cb2 := bB.cell 2 rfl
  have cb3 := bB.cell 3 rfl
  have cb4 := bB.cell 4 rfl
  have cb5 := bB.cell 5 rfl
  have cb6 := bB.cell 6 rfl
  have cg0 := bG.cell 0 rfl
  have cg1 := bG.cell 1 rfl
  have cg2 := bG.cell 2 rfl
  have cg3 := bG.cell 3 rfl
  have cg4 := bG.cell 4 rfl
  have cg5 := bG.cell 5 rfl
  have cg6 := bG.cell 6 rfl
  have fg0 := bG.frozen 0
  have fg1 := bG.frozen 1
  have fg2 := bG.frozen 2
  have fg3 := bG.frozen 3
  have fg4 := bG.frozen 4
  have fg5 := bG.frozen 5
  have fg6 := bG.frozen 6
  have ce0 := bGF.cell 0 rfl
  have ce1 := bGF.cell 1 rfl
  have ce2 := bGF.cell 2 rfl
  have ce3 := bGF.cell 3 rfl
  have ce4 := bGF.cell 4 rfl
  have ce5 := bGF.cell 5 rfl
  have ce6 := bGF.cell 6 rfl
  clear hFB stF bB bG bGF
  go_wp2
  refine bodyPost_ret (v := .agg #[.int .i64 r, .slice Af nf cf, .slice An nn cn, .slice Ak nk ck, .slice Aq nq cq, .bool true, .int .i64 (max n 0)]) (by simp [results, Tryz.results32, go_sem, ce0, ce1, ce2, ce3, ce4, ce5, ce6]) rfl ?_
  exact ⟨_, rfl, ((R4.out).step (stF'.out m2 ST.out.hG)).less ST.out.less, (B4.out).trans hFB'.out⟩

set_option maxRecDepth 100000 in
set_option maxHeartbeats 1600000 in
theorem new_r (m : Nat → Prop) (n : Int) (w : World) (_ : ∀ k, m k → k < w.heap.size) :
    Calls Tryz.prog 10 #[.int .i64 n] w (RefIs m w (FsM.new (min (max n 0) 16777216).toNat) false 0) := by
  obtain ⟨W1, e1⟩ : ∃ W1, w.alloc (.cells #[.int .i64 0, .slice none 0 0, .slice none 0 0, .slice none 0 0, .slice none 0 0, .bool false, .int .i64 0] 30) = W1 := ⟨_, rfl⟩
  have bG : Blk W1 w.heap.size #[.int .i64 0, .slice none 0 0, .slice none 0 0, .slice none 0 0, .slice none 0 0, .bool false, .int .i64 0] 30 := e1 ▸ Blk.new w _ _
  have h01 : Below w.heap.size w W1 := e1 ▸ (Below.refl _ _).alloc (Nat.le_refl _) _
  obtain ⟨WF, eF, bGF, hFB, -⟩ := bG.store7 w.heap.size (Nat.le_refl _) (.int .i64 (min (max n 0) 16777216)) (.slice none 0 0) (.slice none 0 0) (.slice none 0 0) (.slice none 0 0) (.bool false) (.int .i64 0)
  have H := Lib.hid (h01.trans hFB)
  have cg0 := bG.cell 0 rfl
  have cg1 := bG.cell 1 rfl
  have cg2 := bG.cell 2 rfl
  have cg3 := bG.cell 3 rfl
  have cg4 := bG.cell 4 rfl
  have cg5 := bG.cell 5 rfl
  have cg6 := bG.cell 6 rfl
  have fg0 := bG.frozen 0
  have fg1 := bG.frozen 1
  have fg2 := bG.frozen 2
  have fg3 := bG.frozen 3
  have fg4 := bG.frozen 4
  have fg5 := bG.frozen 5
  have fg6 := bG.frozen 6
  have ce0 := bGF.cell 0 rfl
  have ce1 := bGF.cell 1 rfl
  have ce2 := bGF.cell 2 rfl
  have ce3 := bGF.cell 3 rfl
  have ce4 := bGF.cell 4 rfl
  have ce5 := bGF.cell 5 rfl
  have ce6 := bGF.cell 6 rfl
  clear hFB bG bGF h01
  go_enter Tryz.func10, Tryz.ntmps10
  go_wp2
  refine bodyPost_ret (v := .agg #[.int .i64 (min (max n 0) 16777216), .slice none 0 0, .slice none 0 0, .slice none 0 0, .slice none 0 0, .bool false, .int .i64 0]) (by simp [results, Tryz.results10, go_sem, ce0, ce1, ce2, ce3, ce4, ce5, ce6]) rfl ?_
  have hr : ((min (max n 0) 16777216).toNat : Int) = min (max n 0) 16777216 := by omega
  refine ⟨_, rfl, ⟨none, 0, none, 0, none, 0, none, 0, [], ?_, ⟨Nat.le_refl _, Nat.le_refl _, Nat.le_refl _, Nat.le_refl _⟩, ⟨⟨.inl rfl⟩⟩, ⟨⟨.inl rfl⟩⟩, ⟨⟨.inl rfl⟩⟩, ⟨⟨.inl rfl⟩⟩, ⟨rfl, fun i hi => absurd hi (by simp [FsM.new])⟩⟩, H.out⟩
  simp only [FsM.new, List.length_nil]
  rw [hr]

set_option maxRecDepth 100000 in
set_option maxHeartbeats 1600000 in
theorem readR_any (m : Nat → Prop) (S : FsM) (fu : Bool) (lf : Int) (v : Value) (w : World) (h : RefAt m w v S fu lf) (_ : ∀ k, m k → k < w.heap.size) (hok : ∀ p n, S.look p = some n → n < S.files.length) (h0 : S.now.length ≤ 90000) (hf : S.files.length ≤ 90000) (p : Txt) :
    Calls Tryz.prog 14 #[v, .string (strOf p)] w fun e w' => e = .returned (.tuple #[.string (strOf (S.read p).1), .int .i64 ((S.read p).2 : Int)]) ∧ Below w.heap.size w w' := by
  obtain ⟨r, Af, nf, cf, An, nn, cn, Ak, nk, ck, Aq, nq, cq, hC7⟩ := h.seven
  obtain rfl := hC7.v_
  obtain ⟨W1, e1⟩ : ∃ W1, w.alloc (.cells #[.int .i64 r, .slice Af nf cf, .slice An nn cn, .slice Ak nk ck, .slice Aq nq cq, .bool fu, .int .i64 lf] 30) = W1 := ⟨_, rfl⟩
  have bB : Blk W1 w.heap.size #[.int .i64 r, .slice Af nf cf, .slice An nn cn, .slice Ak nk ck, .slice Aq nq cq, .bool fu, .int .i64 lf] 30 := e1 ▸ Blk.new w _ _
  have h01 : Below w.heap.size w W1 := e1 ▸ (Below.refl _ _).alloc (Nat.le_refl _) _
  have hp := file_any An nn cn S.now hC7.ln_ (by have := hC7.ln_; omega) p W1 (hC7.now.newB h01).sees
  have F2 := Lib.hid (hC7.files.newB h01)
  have d1 := bB.cell 1 rfl
  have d2 := bB.cell 2 rfl
  have hlf := hC7.lf_
  have H01 := Lib.hid h01
  have hlook : S.look p = lookD S.now p := rfl
  clear h hC7 bB h01
  cases hl : lookD S.now p with
  | none =>
    rw [hl] at hp
    have e0 : S.read p = ([], 60) := by unfold FsM.read; rw [hlook, hl]
    rw [e0]
    have HP := Lib.hid hp
    clear hp hlook hl e0 hlf hok
    go_enter Tryz.func14, Tryz.ntmps14
    go_wp2_with fail
    refine HP.out.mono ?_
    rintro e w3 ⟨rfl, rfl⟩
    clear HP
    go_wp2
    go_ret2
    exact ⟨rfl, H01.out⟩
  | some n =>
    rw [hl, show gnum (some n) = (n : Int) from rfl] at hp
    have hn := hok p n (hlook.trans hl)
    have e0 : S.read p = ((S.file n).b, 0) := by unfold FsM.read; rw [hlook, hl]
    rw [e0]
    have efile : S.file n = S.files[n] := by unfold FsM.file; rw [List.getD_eq_getElem?_getD, List.getElem?_eq_getElem hn]; rfl
    obtain ⟨ad, rfl, had, g1, g2⟩ := sees_flv F2.out.sees hn
    rw [← efile] at g1
    obtain ⟨bb, hbb⟩ : ∃ b, strOf (S.file n).b = b := ⟨_, rfl⟩
    rw [hbb] at g1 ⊢
    have HP := Lib.hid hp
    have hni : n < nf := by omega
    have hnf : nf ≤ 90000 := by omega
    clear hp hlook hl e0 hlf hok hn efile hbb g2 F2
    go_enter Tryz.func14, Tryz.ntmps14
    go_wp2_with fail
    refine HP.out.mono ?_
    rintro e w3 ⟨rfl, rfl⟩
    clear HP
    go_wp2
    go_ret2
    exact ⟨rfl, H01.out⟩
end Go.Proofs.YteidkmiladkoiaaGreatDoor

/-
  The document's set.
-/
namespace Go.Proofs.YteidkmiladkoiaaGreatDoor
open Go.RowKit

theorem flv_set : ∀ (l : List FileM) (n : Nat) (x : FileM), ((flv l).set (n * 2) (.string (strOf x.b))).set (n * 2 + 1) (.int .i64 (x.stays : Int)) = flv (l.set n x)
  | [], n, x => by simp [flv]
  | y :: r, 0, x => rfl
  | y :: r, n + 1, x => by
    have h := flv_set r n x
    have e1 : (n + 1) * 2 = n * 2 + 1 + 1 := by omega
    simp only [flv, List.flatMap_cons, List.cons_append, List.nil_append, List.set_cons_succ, e1] at h ⊢
    rw [h]
theorem RefAt.files_ {m : Nat → Prop} {w : World} {a0 a1 a2 a3 a4 a5 a6 : Value} {S : FsM} {fu : Bool} {lf : Int} (h : RefAt m w (.agg #[a0, a1, a2, a3, a4, a5, a6]) S fu lf) (fl : List FileM) {A : Option Addr} {n c : Nat} (hn : fl.length = n) (hc : n ≤ c) (hH : Hold m w A (flv fl)) : RefAt m w (.agg #[a0, .slice A n c, a2, a3, a4, a5, a6]) { S with files := fl } fu lf := by
  subst hn
  obtain ⟨Af, cf, An, cn, Ak, ck, Ac, cc, vs, e, h0, h1, h2, h3, h4, h5⟩ := h.out
  simp only [Value.agg.injEq, Array.mk.injEq, List.cons.injEq, and_true] at e
  obtain ⟨rfl, rfl, rfl, rfl, rfl, rfl, rfl⟩ := e
  exact ⟨A, c, An, cn, Ak, ck, Ac, cc, vs, rfl, ⟨hc, h0.2⟩, hH, h2, h3, h4, h5⟩
/-- A file anew, in a row of the call's own. -/
theorem OwnF.put {w : World} {base g n c : Nat} {l : List FileM} (h : OwnF w base (.slice (some ⟨g, 0, none⟩) n c) l) (hn : l.length = n) (i : Nat) (x : FileM) :
    OwnF ((w.setCell ⟨g, i * 2, none⟩ (.string (strOf x.b))).setCell ⟨g, i * 2 + 1, none⟩ (.int .i64 (x.stays : Int))) base (.slice (some ⟨g, 0, none⟩) n c) (l.set i x) := by
  subst hn
  have := (World.ownsRow.stored (World.ownsRow.stored h (i * 2) (.string (strOf x.b))).1 (i * 2 + 1) (.int .i64 (x.stays : Int))).1
  unfold OwnF
  rw [← flv_set, List.length_set]
  exact this

set_option maxRecDepth 100000 in
set_option maxHeartbeats 1600000 in
theorem setF_r (m : Nat → Prop) (S : FsM) (fu : Bool) (lf : Int) (v : Value) (w : World) (h : RefAt m w v S fu lf) (hm : ∀ k, m k → k < w.heap.size) (n : Nat) (hn : n < S.files.length) (hf : S.files.length ≤ 90000) (x : FileM) :
    Calls Tryz.prog 58 #[v, .int .i64 (n : Int), .agg #[.string (strOf x.b), .int .i64 (x.stays : Int)]] w (RefIs m w (S.setFile n x) fu lf) := by
  obtain ⟨r, Af, nf, cf, An, nn, cn, Ak, nk, ck, Aq, nq, cq, hC7⟩ := h.seven
  obtain rfl := hC7.v_
  have hlf := hC7.lf_
  obtain ⟨xb, hxb⟩ : ∃ b, strOf x.b = b := ⟨_, rfl⟩
  obtain ⟨xs, hxs⟩ : ∃ i : Int, (x.stays : Int) = i := ⟨_, rfl⟩
  rw [hxb, hxs]
  obtain ⟨W1, e1⟩ : ∃ W1, w.alloc (.cells #[.int .i64 r, .slice Af nf cf, .slice An nn cn, .slice Ak nk ck, .slice Aq nq cq, .bool fu, .int .i64 lf] 30) = W1 := ⟨_, rfl⟩
  obtain ⟨W2, e2⟩ : ∃ W2, W1.alloc (.cells #[.string xb, .int .i64 xs] 80) = W2 := ⟨_, rfl⟩
  obtain ⟨W3, e3⟩ : ∃ W3, W2.alloc (.cells #[.int .i64 0, .slice none 0 0, .slice none 0 0, .slice none 0 0, .slice none 0 0, .bool false, .int .i64 0] 30) = W3 := ⟨_, rfl⟩
  have z1 : W1.heap.size = w.heap.size + 1 := by rw [← e1]; simp
  have z2 : W2.heap.size = w.heap.size + 2 := by rw [← e2]; simp [z1]
  have z3 : W3.heap.size = w.heap.size + 3 := by rw [← e3]; simp [z2]
  have bB1 : Blk W1 w.heap.size #[.int .i64 r, .slice Af nf cf, .slice An nn cn, .slice Ak nk ck, .slice Aq nq cq, .bool fu, .int .i64 lf] 30 := e1 ▸ Blk.new w _ _
  have bX2 : Blk W2 W1.heap.size #[.string xb, .int .i64 xs] 80 := e2 ▸ Blk.new W1 _ _
  have bG3 : Blk W3 W2.heap.size #[.int .i64 0, .slice none 0 0, .slice none 0 0, .slice none 0 0, .slice none 0 0, .bool false, .int .i64 0] 30 := e3 ▸ Blk.new W2 _ _
  have h12 : Below W1.heap.size W1 W2 := e2 ▸ (Below.refl _ _).alloc (Nat.le_refl _) _
  have h23 : Below W2.heap.size W2 W3 := e3 ▸ (Below.refl _ _).alloc (Nat.le_refl _) _
  have h01 : Below w.heap.size w W1 := e1 ▸ (Below.refl _ _).alloc (Nat.le_refl _) _
  have bB3 := bB1.keep ((h23.block _ (by omega)).trans (h12.block _ (by omega)))
  have bX3 := bX2.keep (h23.block _ (by omega))
  have h03 : Below w.heap.size w W3 := (h01.trans (h12.mono (by omega))).trans (h23.mono (by omega))
  obtain ⟨m2, hm2⟩ : ∃ m2 : Nat → Prop, ∀ k, m2 k ↔ m k ∨ k = w.heap.size ∨ k = W1.heap.size ∨ k = W2.heap.size := ⟨_, fun _ => Iff.rfl⟩
  have hmore : ∀ k, m2 k → m k ∨ w.heap.size ≤ k := fun k e => by
    rcases (hm2 k).1 e with e | e | e | e
    · exact .inl e
    all_goals (exact .inr (by omega))
  have HB := Lib.hid ((hm2 _).2 (.inr (.inl rfl)) : m2 w.heap.size)
  have HG := Lib.hid ((hm2 _).2 (.inr (.inr (.inr rfl))) : m2 W2.heap.size)
  have HML : Hid (∀ k, m2 k → k < W3.heap.size) := Lib.hid fun k e => by
    rcases (hm2 k).1 e with e | e | e | e
    · have := hm k e; omega
    all_goals omega
  have R3 := Lib.hid ((h.more hmore).newB h03)
  have T1 := Lib.hid ((hC7.files.more hmore).newB h03)
  have d1 := bB3.cell 1 rfl
  have HM2 := Lib.hid hm2
  have BB3 := Lib.hid bB3
  have BG3 := Lib.hid bG3
  have BX3 := Lib.hid bX3
  have H03 := Lib.hid h03
  have HLF := Lib.hid hlf
  have HX := Lib.hid (And.intro hxb hxs)
  have hn' : n < nf := by omega
  have hnf : nf ≤ 90000 := by omega
  have z3' : w.heap.size + 3 = W3.heap.size := by omega
  have Z1 := Lib.hid z1
  have Z2 := Lib.hid z2
  have Z3 := Lib.hid z3
  clear h hC7 hm hm2 hmore bB1 bX2 bG3 bB3 bX3 h12 h23 h01 h03 hlf hxb hxs z1 z2 z3 z3' hf hn
  go_enter Tryz.func58, Tryz.ntmps58
  go_wp2_with (at_builtin; (refine wpList_append_f rfl (.tmp 8) (.tmp 10) rfl W3.heap.size (.slice none 0 0) [] (by rfl) (OwnF.nil _ _) W3.heap.size Af nf cf S.files (by rfl) HLF.out T1.out.sees (by simp; omega) (Nat.le_refl _) ?_; intro v5 w5 hown5 hon5; rw [List.nil_append] at hown5; have h35 := hon5.below_nil; obtain ⟨g, cap, hv5, hg, hcap⟩ : ∃ g cap, v5 = .slice (some ⟨g, 0, none⟩) nf cap ∧ W3.heap.size ≤ g ∧ nf ≤ cap := (by rcases hown5.2 with ⟨-, e⟩ | ⟨g, cap, cur, e, hg, -, hc, -⟩; exact absurd e (by have := HLF.out; omega); exact ⟨g, cap, by rw [e, HLF.out], hg, by have := HLF.out; omega⟩); subst hv5; unfold OwnF at hown5; rw [HLF.out] at hown5; obtain ⟨ad, had⟩ : ∃ ad : Addr, ad = ⟨g, 0, none⟩ := ⟨_, rfl⟩; have ha1 : ad.add (n * 2) = ⟨g, n * 2, none⟩ := (by rw [had, Addr.add_lit, Nat.zero_add]); have ha2 : (⟨(ad.add (n * 2)).block, (ad.add (n * 2)).off + 1, none⟩ : Addr) = ⟨g, n * 2 + 1, none⟩ := (by rw [ha1]); obtain ⟨u0, k0⟩ : ∃ u, w5.cell? (ad.add (n * 2)) = some u := (by rw [ha1, World.ownsRow.cellAt hown5 (n * 2) (by omega)]; exact ⟨_, List.getElem?_eq_getElem (by rw [flv_length]; have := HLF.out; omega)⟩); have p0 : w5.frozen? (ad.add (n * 2)) = false := (by rw [ha1]; exact World.ownsRow.frozenAt hown5 (n * 2)); obtain ⟨W5, e5⟩ : ∃ W5, w5.setCell (ad.add (n * 2)) (.string xb) = W5 := ⟨_, rfl⟩; have hs5 : W5.ownsRow W3.heap.size 80 2 (.slice (some ⟨g, 0, none⟩) nf cap) nf ((flv S.files).set (n * 2) (.string xb)) := (by rw [← e5, ha1]; exact (World.ownsRow.stored hown5 (n * 2) (.string xb)).1); obtain ⟨u1, k1⟩ : ∃ u, W5.cell? ⟨(ad.add (n * 2)).block, (ad.add (n * 2)).off + 1, none⟩ = some u := (by rw [ha2, World.ownsRow.cellAt hs5 (n * 2 + 1) (by omega)]; exact ⟨_, List.getElem?_eq_getElem (by rw [List.length_set, flv_length]; have := HLF.out; omega)⟩); have p1 : W5.frozen? ⟨(ad.add (n * 2)).block, (ad.add (n * 2)).off + 1, none⟩ = false := (by rw [ha2]; exact World.ownsRow.frozenAt hs5 (n * 2 + 1)); obtain ⟨W6, e6⟩ : ∃ W6, W5.setCell ⟨(ad.add (n * 2)).block, (ad.add (n * 2)).off + 1, none⟩ (.int .i64 xs) = W6 := ⟨_, rfl⟩; have hs6 : W6.ownsRow W3.heap.size 80 2 (.slice (some ⟨g, 0, none⟩) nf cap) nf (flv (S.files.set n x)) := (by rw [← e6, ha2, ← flv_set, HX.out.1, HX.out.2]; exact (World.ownsRow.stored hs5 (n * 2 + 1) (.int .i64 xs)).1); have b56 : Below W3.heap.size w5 W6 := (by rw [← e6, ← e5, ha2, ha1]; exact ((Below.refl _ _).setCell hg _).setCell hg _); have b36 : Below W3.heap.size W3 W6 := h35.trans b56; have cx0 := (BX3.out.keep (h35.block _ BX3.out.lt)).cell 0 rfl; have cx1 := (BX3.out.keep (h35.block _ BX3.out.lt)).cell 1 rfl; have bB6 := BB3.out.keep (b36.block _ BB3.out.lt); have bG6 := BG3.out.keep (b36.block _ BG3.out.lt); have d61 := bB6.cell 1 rfl; have f61 := bB6.frozen 1; obtain ⟨W7, e7⟩ : ∃ W7, W6.setCell ⟨w.heap.size, 1, none⟩ (.slice (some ad) nf cap) = W7 := ⟨_, rfl⟩; have bB7 : Blk W7 w.heap.size #[.int .i64 r, .slice (some ad) nf cap, .slice An nn cn, .slice Ak nk ck, .slice Aq nq cq, .bool fu, .int .i64 lf] 30 := e7 ▸ bB6.set_ 1 _ (by simp); have bG7 := bG6.keep (e7 ▸ Below.heap_setCell W6 ⟨w.heap.size, 1, none⟩ _ W2.heap.size (by have := Z2.out; show W2.heap.size ≠ w.heap.size; omega)); have hst7 : Stp m2 W6 m2 W7 := e7 ▸ Stp.setCell m2 W6 _ _ _ HB.out; have b67 : Below w.heap.size W6 W7 := e7 ▸ (Below.refl w.heap.size W6).setCell (p := ⟨w.heap.size, 1, none⟩) (Nat.le_refl _) _; obtain ⟨WF, eF, bGF, h7F, stF⟩ := bG7.store7 w.heap.size (by have := Z2.out; omega) (.int .i64 r) (.slice (some ad) nf cap) (.slice An nn cn) (.slice Ak nk ck) (.slice Aq nq cq) (.bool fu) (.int .i64 lf); have hh6 : Hold m2 W6 (some ad) (flv (S.files.set n x)) := (by obtain ⟨A', c', e', -, hh⟩ := own_hold hs6 HML.out; injection e' with e1' e2' e3'; rw [had, e1']; exact hh); have REF : Hid (RefAt m2 WF (.agg #[.int .i64 r, .slice (some ad) nf cap, .slice An nn cn, .slice Ak nk ck, .slice Aq nq cq, .bool fu, .int .i64 lf]) (S.setFile n x) fu lf) := ((((R3.out.newB b36).files_ (S.files.set n x) (by rw [List.length_set]; exact HLF.out) hcap hh6).step hst7).step (stF m2 HG.out)); have BEL : Hid (Below w.heap.size w WF) := ((H03.out.trans (b36.mono (by have := Z3.out; omega))).trans b67).trans h7F; have cb0 := bB7.cell 0 rfl; have cb1 := bB7.cell 1 rfl; have cb2 := bB7.cell 2 rfl; have cb3 := bB7.cell 3 rfl; have cb4 := bB7.cell 4 rfl; have cb5 := bB7.cell 5 rfl; have cb6 := bB7.cell 6 rfl; have cg0 := bG7.cell 0 rfl; have cg1 := bG7.cell 1 rfl; have cg2 := bG7.cell 2 rfl; have cg3 := bG7.cell 3 rfl; have cg4 := bG7.cell 4 rfl; have cg5 := bG7.cell 5 rfl; have cg6 := bG7.cell 6 rfl; have ce0 := bGF.cell 0 rfl; have ce1 := bGF.cell 1 rfl; have ce2 := bGF.cell 2 rfl; have ce3 := bGF.cell 3 rfl; have ce4 := bGF.cell 4 rfl; have ce5 := bGF.cell 5 rfl; have ce6 := bGF.cell 6 rfl; have fg0 := bG7.frozen 0; have fg1 := bG7.frozen 1; have fg2 := bG7.frozen 2; have fg3 := bG7.frozen 3; have fg4 := bG7.frozen 4; have fg5 := bG7.frozen 5; have fg6 := bG7.frozen 6; rw [← had]; clear ha1 ha2 hs5 hs6 b56 b36 bB6 bG6 bB7 bG7 hst7 b67 bGF h7F stF hh6 hown5 hon5 h35 hg hcap had))
  refine bodyPost_ret (v := .agg #[.int .i64 r, .slice (some ad) nf cap, .slice An nn cn, .slice Ak nk ck, .slice Aq nq cq, .bool fu, .int .i64 lf]) (by simp [results, Tryz.results58, go_sem, ce0, ce1, ce2, ce3, ce4, ce5, ce6]) rfl ?_
  exact ⟨_, rfl, REF.out.less fun k e => (HM2.out k).2 (.inl e), BEL.out⟩
end Go.Proofs.YteidkmiladkoiaaGreatDoor

/-
  The document's Sync.
-/
namespace Go.Proofs.YteidkmiladkoiaaGreatDoor
open Go.RowKit
theorem strOf_size (b : Txt) : (strOf b).size = b.length := by simp [strOf, ByteArray.size]

set_option maxRecDepth 100000 in
set_option maxHeartbeats 1600000 in
theorem sync_r (m : Nat → Prop) (S : FsM) (fu : Bool) (lf : Int) (v : Value) (w : World) (h : RefAt m w v S fu lf) (hm : ∀ k, m k → k < w.heap.size) (h0 : S.now.length ≤ 90000) (_ : S.chg.length ≤ 90000) (hok : ∀ p n, S.look p = some n → n < S.files.length) (hfl : S.files.length ≤ 90000) (hsm : ∀ n, (S.file n).b.length ≤ 1048576) (p : Txt) :
    Calls Tryz.prog 37 #[v, .string (strOf p)] w (RefIsE m w (S.sync p) fu lf) := by
  obtain ⟨r, Af, nf, cf, An, nn, cn, Ak, nk, ck, Aq, nq, cq, hC7⟩ := h.seven
  obtain rfl := hC7.v_
  have C7 := Lib.hid hC7
  obtain ⟨W1, W2, m2, e1, e2, hst⟩ := start7 m w hm (.int .i64 r) (.slice Af nf cf) (.slice An nn cn) (.slice Ak nk ck) (.slice Aq nq cq) (.bool fu) (.int .i64 lf)
  have ST := Lib.hid hst
  have R2 := Lib.hid ((h.more hst.more).newB hst.b)
  have N2 := Lib.hid ((hC7.now.more hst.more).newB hst.b)
  have F2 := Lib.hid ((hC7.files.more hst.more).newB hst.b)
  have bB := hst.bB
  have bG := hst.bG
  clear h hC7 hst hm
  have hp := file_any An nn cn S.now C7.out.ln_ (by have := C7.out.ln_; omega) p W2 N2.out.sees
  have hlook : S.look p = lookD S.now p := rfl
  cases hl : lookD S.now p with
  | none =>
    rw [hl] at hp
    have e0 : S.sync p = (S, 60) := by unfold FsM.sync; rw [hlook, hl]
    rw [e0]
    have HP := Lib.hid hp
    have d2 := bB.cell 2 rfl
    clear hp hlook hl e0 hok hsm
    go_enter Tryz.func37, Tryz.ntmps37
    go_wp2_with fail
    refine HP.out.mono ?_
    rintro e w3 ⟨rfl, rfl⟩
    clear HP d2
    obtain ⟨WF, eF, bGF, hFB, stF⟩ := bG.store7 w.heap.size (by have := ST.out.z1; omega) (.int .i64 r) (.slice Af nf cf) (.slice An nn cn) (.slice Ak nk ck) (.slice Aq nq cq) (.bool fu) (.int .i64 lf)
    have hFB' := Lib.hid hFB
    have stF' := Lib.hid stF
    have cb0 := bB.cell 0 rfl
    have cb1 := bB.cell 1 rfl
    have cb2 := bB.cell 2 rfl
    have cb3 := bB.cell 3 rfl
    have cb4 := bB.cell 4 rfl
    have cb5 := bB.cell 5 rfl
    have cb6 := bB.cell 6 rfl
    have cg0 := bG.cell 0 rfl
    have cg1 := bG.cell 1 rfl
    have cg2 := bG.cell 2 rfl
    have cg3 := bG.cell 3 rfl
    have cg4 := bG.cell 4 rfl
    have cg5 := bG.cell 5 rfl
    have cg6 := bG.cell 6 rfl
    have fg0 := bG.frozen 0
    have fg1 := bG.frozen 1
    have fg2 := bG.frozen 2
    have fg3 := bG.frozen 3
    have fg4 := bG.frozen 4
    have fg5 := bG.frozen 5
    have fg6 := bG.frozen 6
    have ce0 := bGF.cell 0 rfl
    have ce1 := bGF.cell 1 rfl
    have ce2 := bGF.cell 2 rfl
    have ce3 := bGF.cell 3 rfl
    have ce4 := bGF.cell 4 rfl
    have ce5 := bGF.cell 5 rfl
    have ce6 := bGF.cell 6 rfl
    clear hFB stF bB bG bGF
    go_wp2
    refine bodyPost_ret (v := .tuple #[.agg #[.int .i64 r, .slice Af nf cf, .slice An nn cn, .slice Ak nk ck, .slice Aq nq cq, .bool fu, .int .i64 lf], .int .i64 60]) (by simp [results, Tryz.results37, go_sem, ce0, ce1, ce2, ce3, ce4, ce5, ce6]) rfl ?_
    exact ⟨_, rfl, ((R2.out).step (stF'.out m2 ST.out.hG)).less ST.out.less, (ST.out.b).trans hFB'.out⟩
  | some n =>
    rw [hl, show gnum (some n) = (n : Int) from rfl] at hp
    have hn := hok p n (hlook.trans hl)
    have e0 : S.sync p = (S.setFile n { S.file n with stays := (S.file n).b.length }, 0) := by unfold FsM.sync; rw [hlook, hl]
    rw [e0]
    have efile : S.file n = S.files[n] := by unfold FsM.file; rw [List.getD_eq_getElem?_getD, List.getElem?_eq_getElem hn]; rfl
    obtain ⟨ad, rfl, had, g1, g2⟩ := sees_flv F2.out.sees hn
    rw [← efile] at g1 g2
    have hcl0 := fun W (hW : Below W2.heap.size W2 W) => setF_r m2 S fu lf _ W (R2.out.newB hW) (fun k e => by have := ST.out.lt k e; have := hW.size; omega) n hn hfl { S.file n with stays := (S.file n).b.length }
    have hsz := strOf_size (S.file n).b
    have hsm1 := hsm n
    obtain ⟨bl, hbl⟩ : ∃ l, (S.file n).b.length = l := ⟨_, rfl⟩
    obtain ⟨fb, hfb⟩ : ∃ b, strOf (S.file n).b = b := ⟨_, rfl⟩
    obtain ⟨st0, hst0⟩ : ∃ b, ((S.file n).stays : Int) = b := ⟨_, rfl⟩
    obtain ⟨S', hS'⟩ : ∃ T, S.setFile n { S.file n with stays := (S.file n).b.length } = T := ⟨_, rfl⟩
    rw [hfb] at g1 hsz
    rw [hst0] at g2
    rw [hS'] at hcl0 ⊢
    dsimp only at hcl0
    rw [hfb] at hcl0
    rw [hbl] at hsz hsm1 hcl0
    obtain ⟨W3, e3⟩ : ∃ W3, W2.alloc (.cells #[.string ⟨#[]⟩, .int .i64 0] 80) = W3 := ⟨_, rfl⟩
    obtain ⟨W4, e4⟩ : ∃ W4, W3.setCell ⟨W2.heap.size, 0, none⟩ (.string fb) = W4 := ⟨_, rfl⟩
    obtain ⟨W5, e5⟩ : ∃ W5, W4.setCell ⟨W2.heap.size, 1, none⟩ (.int .i64 st0) = W5 := ⟨_, rfl⟩
    obtain ⟨W6, e6⟩ : ∃ W6, W5.setCell ⟨W2.heap.size, 1, none⟩ (.int .i64 (bl : Int)) = W6 := ⟨_, rfl⟩
    have x3 : Blk W3 W2.heap.size #[.string ⟨#[]⟩, .int .i64 0] 80 := e3 ▸ Blk.new W2 _ _
    have x4 : Blk W4 W2.heap.size #[.string fb, .int .i64 0] 80 := e4 ▸ x3.set_ 0 _ (by simp)
    have x5 : Blk W5 W2.heap.size #[.string fb, .int .i64 st0] 80 := e5 ▸ x4.set_ 1 _ (by simp)
    have x6 : Blk W6 W2.heap.size #[.string fb, .int .i64 (bl : Int)] 80 := e6 ▸ x5.set_ 1 _ (by simp)
    have b23 : Below W2.heap.size W2 W3 := e3 ▸ (Below.refl _ _).alloc (Nat.le_refl _) _
    have b34 : Below W2.heap.size W3 W4 := e4 ▸ (Below.refl W2.heap.size W3).setCell (p := ⟨W2.heap.size, 0, none⟩) (Nat.le_refl _) _
    have b45 : Below W2.heap.size W4 W5 := e5 ▸ (Below.refl W2.heap.size W4).setCell (p := ⟨W2.heap.size, 1, none⟩) (Nat.le_refl _) _
    have b56 : Below W2.heap.size W5 W6 := e6 ▸ (Below.refl W2.heap.size W5).setCell (p := ⟨W2.heap.size, 1, none⟩) (Nat.le_refl _) _
    have hb6 := Lib.hid (((b23.trans b34).trans b45).trans b56)
    have y30 := x3.cell 0 rfl
    have y31 := x3.cell 1 rfl
    have z30 := x3.frozen 0
    have z31 := x3.frozen 1
    have y40 := x4.cell 0 rfl
    have y41 := x4.cell 1 rfl
    have z41 := x4.frozen 1
    have y50 := x5.cell 0 rfl
    have y51 := x5.cell 1 rfl
    have z51 := x5.frozen 1
    have y60 := x6.cell 0 rfl
    have y61 := x6.cell 1 rfl
    have bB6 := bB.keep (hb6.out.block _ bB.lt)
    have bG6 := bG.keep (hb6.out.block _ bG.lt)
    have d1 := bB.cell 1 rfl
    have d2 := bB.cell 2 rfl
    have cb0 := bB6.cell 0 rfl
    have cb1 := bB6.cell 1 rfl
    have cb2 := bB6.cell 2 rfl
    have cb3 := bB6.cell 3 rfl
    have cb4 := bB6.cell 4 rfl
    have cb5 := bB6.cell 5 rfl
    have cb6 := bB6.cell 6 rfl
    have hcl := Lib.hid (hcl0 W6 hb6.out)
    have HP := Lib.hid hp
    have hni : n < nf := by have := C7.out.lf_; omega
    have hnf : nf ≤ 90000 := by have := C7.out.lf_; omega
    have hszi : (fb.size : Int) = (bl : Int) := by omega
    clear bG
    have bG := bG6
    clear hp hlook hl e0 hok hsm hn efile hbl hfb hst0 hS' hcl0 F2 x3 x4 x5 x6 b23 b34 b45 b56 bB bB6 bG6 hsz
    go_enter Tryz.func37, Tryz.ntmps37
    go_wp2_with fail
    refine HP.out.mono ?_
    rintro e w3 ⟨rfl, rfl⟩
    clear HP
    go_wp2_with fail
    refine hcl.out.mono ?_
    rintro e w4 ⟨v4, rfl, hr4, hb4⟩
    obtain ⟨r', Af', nf', cf', An', nn', cn', Ak', nk', ck', Aq', nq', cq', h7⟩ := hr4.seven
    obtain rfl := h7.v_
    have hB4 := Lib.hid ((ST.out.b.trans (hb6.out.mono (by have := ST.out.z2; omega))).trans (hb4.mono (by have := ST.out.z2; have := hb6.out.size; omega)))
    have R4 := Lib.hid hr4
    have bG4 := bG.keep (hb4.block _ bG.lt)
    clear bG hr4 h7 hb4 hcl
    have bG := bG4
    clear bG4
    obtain ⟨WF, eF, bGF, hFB, stF⟩ := bG.store7 w.heap.size (by have := ST.out.z1; omega) (.int .i64 r') (.slice Af' nf' cf') (.slice An' nn' cn') (.slice Ak' nk' ck') (.slice Aq' nq' cq') (.bool fu) (.int .i64 lf)
    have hFB' := Lib.hid hFB
    have stF' := Lib.hid stF
    have cg0 := bG.cell 0 rfl
    have cg1 := bG.cell 1 rfl
    have cg2 := bG.cell 2 rfl
    have cg3 := bG.cell 3 rfl
    have cg4 := bG.cell 4 rfl
    have cg5 := bG.cell 5 rfl
    have cg6 := bG.cell 6 rfl
    have fg0 := bG.frozen 0
    have fg1 := bG.frozen 1
    have fg2 := bG.frozen 2
    have fg3 := bG.frozen 3
    have fg4 := bG.frozen 4
    have fg5 := bG.frozen 5
    have fg6 := bG.frozen 6
    have ce0 := bGF.cell 0 rfl
    have ce1 := bGF.cell 1 rfl
    have ce2 := bGF.cell 2 rfl
    have ce3 := bGF.cell 3 rfl
    have ce4 := bGF.cell 4 rfl
    have ce5 := bGF.cell 5 rfl
    have ce6 := bGF.cell 6 rfl
    clear hFB stF bG bGF
    go_wp2
    refine bodyPost_ret (v := .tuple #[.agg #[.int .i64 r', .slice Af' nf' cf', .slice An' nn' cn', .slice Ak' nk' ck', .slice Aq' nq' cq', .bool fu, .int .i64 lf], .int .i64 0]) (by simp [results, Tryz.results37, go_sem, ce0, ce1, ce2, ce3, ce4, ce5, ce6]) rfl ?_
    exact ⟨_, rfl, ((R4.out).step (stF'.out m2 ST.out.hG)).less ST.out.less, (hB4.out).trans hFB'.out⟩
end Go.Proofs.YteidkmiladkoiaaGreatDoor

/-
  The document's Create.
-/
namespace Go.Proofs.YteidkmiladkoiaaGreatDoor
open Go.RowKit

set_option maxRecDepth 100000 in
set_option maxHeartbeats 1600000 in
theorem create_r (m : Nat → Prop) (S : FsM) (fu : Bool) (lf : Int) (v : Value) (w : World) (h : RefAt m w v S fu lf) (hm : ∀ k, m k → k < w.heap.size) (h0 : S.now.length ≤ 90000) (h1 : S.chg.length ≤ 90000) (hfl : S.files.length ≤ 90000) (p : Txt) (hpl : p.length ≤ 1000000) :
    Calls Tryz.prog 35 #[v, .string (strOf p)] w (RefIsE m w (S.create p) fu lf) := by
  obtain ⟨r, Af, nf, cf, An, nn, cn, Ak, nk, ck, Aq, nq, cq, hC7⟩ := h.seven
  obtain rfl := hC7.v_
  have C7 := Lib.hid hC7
  obtain ⟨W1, W2, m2, e1, e2, hst⟩ := start7 m w hm (.int .i64 r) (.slice Af nf cf) (.slice An nn cn) (.slice Ak nk ck) (.slice Aq nq cq) (.bool fu) (.int .i64 lf)
  have ST := Lib.hid hst
  have R2 := Lib.hid ((h.more hst.more).newB hst.b)
  have N2 := Lib.hid ((hC7.now.more hst.more).newB hst.b)
  have F2 := Lib.hid ((hC7.files.more hst.more).newB hst.b)
  have bB := hst.bB
  have bG := hst.bG
  clear h hC7 hst hm
  have hp := file_any An nn cn S.now C7.out.ln_ (by have := C7.out.ln_; omega) p W2 N2.out.sees
  have hrg := refRight_any p W2 hpl
  have hlook : S.look p = lookD S.now p := rfl
  have d2 := bB.cell 2 rfl
  cases hr : FsM.right p with
  | false =>
    rw [hr] at hrg
    have HRG := Lib.hid hrg
    have e0 : S.create p = (S, 63) := by unfold FsM.create; rw [if_pos hr]
    rw [e0]
    clear hp hrg hlook e0 hr
    go_enter Tryz.func35, Tryz.ntmps35
    go_wp2_with fail
    refine HRG.out.mono ?_
    rintro e w3 ⟨rfl, rfl⟩
    clear HRG d2
    obtain ⟨WF, eF, bGF, hFB, stF⟩ := bG.store7 w.heap.size (by have := ST.out.z1; omega) (.int .i64 r) (.slice Af nf cf) (.slice An nn cn) (.slice Ak nk ck) (.slice Aq nq cq) (.bool fu) (.int .i64 lf)
    have hFB' := Lib.hid hFB
    have stF' := Lib.hid stF
    have cb0 := bB.cell 0 rfl
    have cb1 := bB.cell 1 rfl
    have cb2 := bB.cell 2 rfl
    have cb3 := bB.cell 3 rfl
    have cb4 := bB.cell 4 rfl
    have cb5 := bB.cell 5 rfl
    have cb6 := bB.cell 6 rfl
    have cg0 := bG.cell 0 rfl
    have cg1 := bG.cell 1 rfl
    have cg2 := bG.cell 2 rfl
    have cg3 := bG.cell 3 rfl
    have cg4 := bG.cell 4 rfl
    have cg5 := bG.cell 5 rfl
    have cg6 := bG.cell 6 rfl
    have fg0 := bG.frozen 0
    have fg1 := bG.frozen 1
    have fg2 := bG.frozen 2
    have fg3 := bG.frozen 3
    have fg4 := bG.frozen 4
    have fg5 := bG.frozen 5
    have fg6 := bG.frozen 6
    have ce0 := bGF.cell 0 rfl
    have ce1 := bGF.cell 1 rfl
    have ce2 := bGF.cell 2 rfl
    have ce3 := bGF.cell 3 rfl
    have ce4 := bGF.cell 4 rfl
    have ce5 := bGF.cell 5 rfl
    have ce6 := bGF.cell 6 rfl
    clear hFB stF bB bG bGF
    go_wp2
    refine bodyPost_ret (v := .tuple #[.agg #[.int .i64 r, .slice Af nf cf, .slice An nn cn, .slice Ak nk ck, .slice Aq nq cq, .bool fu, .int .i64 lf], .int .i64 63]) (by simp [results, Tryz.results35, go_sem, ce0, ce1, ce2, ce3, ce4, ce5, ce6]) rfl ?_
    exact ⟨_, rfl, ((R2.out).step (stF'.out m2 ST.out.hG)).less ST.out.less, (ST.out.b).trans hFB'.out⟩
  | true =>
    rw [hr] at hrg
    have HRG := Lib.hid hrg
    cases hl : lookD S.now p with
    | some k =>
      rw [hl] at hp
      have HP := Lib.hid hp
      have e0 : S.create p = (S, 61) := by unfold FsM.create; rw [if_neg (by rw [hr]; decide), hlook, hl]; rfl
      rw [e0]
      clear hp hrg hlook hl e0 hr
      go_enter Tryz.func35, Tryz.ntmps35
      go_wp2_with fail
      refine HRG.out.mono ?_
      rintro e w3 ⟨rfl, rfl⟩
      clear HRG
      go_wp2_with fail
      refine HP.out.mono ?_
      rintro e w3 ⟨rfl, rfl⟩
      clear HP d2
      obtain ⟨WF, eF, bGF, hFB, stF⟩ := bG.store7 w.heap.size (by have := ST.out.z1; omega) (.int .i64 r) (.slice Af nf cf) (.slice An nn cn) (.slice Ak nk ck) (.slice Aq nq cq) (.bool fu) (.int .i64 lf)
      have hFB' := Lib.hid hFB
      have stF' := Lib.hid stF
      have cb0 := bB.cell 0 rfl
      have cb1 := bB.cell 1 rfl
      have cb2 := bB.cell 2 rfl
      have cb3 := bB.cell 3 rfl
      have cb4 := bB.cell 4 rfl
      have cb5 := bB.cell 5 rfl
      have cb6 := bB.cell 6 rfl
      have cg0 := bG.cell 0 rfl
      have cg1 := bG.cell 1 rfl
      have cg2 := bG.cell 2 rfl
      have cg3 := bG.cell 3 rfl
      have cg4 := bG.cell 4 rfl
      have cg5 := bG.cell 5 rfl
      have cg6 := bG.cell 6 rfl
      have fg0 := bG.frozen 0
      have fg1 := bG.frozen 1
      have fg2 := bG.frozen 2
      have fg3 := bG.frozen 3
      have fg4 := bG.frozen 4
      have fg5 := bG.frozen 5
      have fg6 := bG.frozen 6
      have ce0 := bGF.cell 0 rfl
      have ce1 := bGF.cell 1 rfl
      have ce2 := bGF.cell 2 rfl
      have ce3 := bGF.cell 3 rfl
      have ce4 := bGF.cell 4 rfl
      have ce5 := bGF.cell 5 rfl
      have ce6 := bGF.cell 6 rfl
      clear hFB stF bB bG bGF
      go_wp2
      refine bodyPost_ret (v := .tuple #[.agg #[.int .i64 r, .slice Af nf cf, .slice An nn cn, .slice Ak nk ck, .slice Aq nq cq, .bool fu, .int .i64 lf], .int .i64 61]) (by simp [results, Tryz.results35, go_sem, ce0, ce1, ce2, ce3, ce4, ce5, ce6]) rfl ?_
      exact ⟨_, rfl, ((R2.out).step (stF'.out m2 ST.out.hG)).less ST.out.less, (ST.out.b).trans hFB'.out⟩
    | none =>
      rw [hl] at hp
      have HP := Lib.hid hp
      have e0 : S.create p = ((S.more).change [(p, some nf)], 0) := by unfold FsM.create; rw [if_neg (by rw [hr]; decide), hlook, hl, C7.out.lf_]; rfl
      rw [e0]
      have BB := Lib.hid bB
      have BG := Lib.hid bG
      have d1 := bB.cell 1 rfl
      have hnf : nf ≤ 90000 := by have := C7.out.lf_; omega
      clear hp hrg hlook hl e0 hr bB bG
      go_enter Tryz.func35, Tryz.ntmps35
      go_wp2_with fail
      refine HRG.out.mono ?_
      rintro e w3 ⟨rfl, rfl⟩
      clear HRG
      go_wp2_with fail
      refine HP.out.mono ?_
      rintro e w3 ⟨rfl, rfl⟩
      clear HP d2
      go_wp2_with (first | (at_builtin; (refine wpList_append_f rfl (.tmp 19) (.tmp 21) rfl w3.heap.size (.slice none 0 0) [] (by rfl) (OwnF.nil _ _) w3.heap.size Af nf cf S.files (by rfl) C7.out.lf_ F2.out.sees (by simp; omega) (Nat.le_refl _) ?_; intro v5 w5 hown5 hon5; rw [List.nil_append] at hown5; have HOWN5 := Lib.hid hown5; have H25 := Lib.hid hon5.below_nil; clear hown5 hon5)) | (at_builtin; (refine wpList_append_f rfl (.tmp 23) (.tmp 25) rfl w3.heap.size v5 S.files (by rfl) (HOWN5.out.below ((Below.refl _ w5).alloc (Nat.le_refl _) _)) (w5.heap.size + 1) (some ⟨w5.heap.size, 0, none⟩) 1 1 [⟨[], 0⟩] (by rfl) rfl (sees_cells w5 _ rfl _ _ _ rfl) (by have := C7.out.lf_; omega) (by have := H25.out.size; simp; omega) ?_; intro v6 w6 hown6 hon6; have h56 : Below w3.heap.size w5 w6 := ((Below.refl _ w5).alloc H25.out.size _).trans (hon6.below (by have := H25.out.size; simp; omega) (own_block HOWN5.out)); obtain ⟨A6, c6, rfl, hc6, hh6⟩ := own_hold hown6 ST.out.lt; have hl6 : (S.files ++ [(⟨[], 0⟩ : FileM)]).length = nf + 1 := (by rw [List.length_append, C7.out.lf_]; rfl); rw [hl6] at hc6 ⊢; have h26 : Below w3.heap.size w3 w6 := H25.out.trans h56; have bB6 := BB.out.keep (h26.block _ BB.out.lt); have bG6 := BG.out.keep (h26.block _ BG.out.lt); have d61 := bB6.cell 1 rfl; have f61 := bB6.frozen 1; obtain ⟨W7, e7⟩ : ∃ W7, w6.setCell ⟨w.heap.size, 1, none⟩ (.slice A6 (nf + 1) c6) = W7 := ⟨_, rfl⟩; have bB7 : Blk W7 w.heap.size #[.int .i64 r, .slice A6 (nf + 1) c6, .slice An nn cn, .slice Ak nk ck, .slice Aq nq cq, .bool fu, .int .i64 lf] 30 := e7 ▸ bB6.set_ 1 _ (by simp); have bG7 := bG6.keep (e7 ▸ Below.heap_setCell w6 ⟨w.heap.size, 1, none⟩ _ W1.heap.size (by have := ST.out.z1; show W1.heap.size ≠ w.heap.size; omega)); have st7 : Stp m2 w6 m2 W7 := e7 ▸ Stp.setCell m2 w6 _ _ _ ST.out.hB; have b67 : Below w.heap.size w6 W7 := e7 ▸ (Below.refl w.heap.size w6).setCell (p := ⟨w.heap.size, 1, none⟩) (Nat.le_refl _) _; have R7 : RefAt m2 W7 (.agg #[.int .i64 r, .slice A6 (nf + 1) c6, .slice An nn cn, .slice Ak nk ck, .slice Aq nq cq, .bool fu, .int .i64 lf]) S.more fu lf := ((R2.out.newB h26).files_ (S.files ++ [⟨[], 0⟩]) hl6 hc6 hh6).step st7; obtain ⟨W8, e8⟩ : ∃ W8, W7.alloc (.cells #[.string (strOf p), .int .i64 (nf : Int)] 84) = W8 := ⟨_, rfl⟩; have b78 : Below W7.heap.size W7 W8 := e8 ▸ (Below.refl _ _).alloc (Nat.le_refl _) _; have hsn : Sees W8 (W7.heap.size + 1) (some ⟨W7.heap.size, 0, none⟩) (gv [(p, some nf)]) := (by rw [← e8]; exact sees_cells W7 _ rfl _ _ _ rfl); have lt7 : ∀ k, m2 k → k < W7.heap.size := fun k e => (by have := ST.out.lt k e; have := h26.size; have := st7.turn.size; omega); have hhn : Hold m2 W8 (some ⟨W7.heap.size, 0, none⟩) (gv [(p, some nf)]) := (by rcases hsn.out with e | ⟨ad, e1, e2, e3⟩; exact ⟨⟨.inl e⟩⟩; injection e1 with e1; subst e1; exact ⟨⟨.inr ⟨_, rfl, ⟨by rw [← e8]; simp, fun e => by have := lt7 _ e; simp at this⟩, e3⟩⟩⟩); have hcl := Lib.hid (change_r m2 S.more fu lf _ W8 (R7.newB b78) (fun k e => by have := lt7 k e; have := b78.size; omega) (some ⟨W7.heap.size, 0, none⟩) 1 1 [(p, some nf)] rfl (Nat.le_refl _) hhn (by show S.now.length + 1 ≤ _; omega) (by show S.chg.length ≤ _; omega)); have hlt8 : W7.heap.size ≤ W8.heap.size := b78.size; have bG8 := Lib.hid (bG7.keep (b78.block _ bG7.lt)); have BEL8 := Lib.hid (((ST.out.b.trans (h26.mono (by have := ST.out.z2; omega))).trans b67).trans (b78.mono (by have := bB7.lt; omega))); have h7lt := Lib.hid bB7.lt; have cb0 := bB7.cell 0 rfl; have cb1 := bB7.cell 1 rfl; have cb2 := bB7.cell 2 rfl; have cb3 := bB7.cell 3 rfl; have cb4 := bB7.cell 4 rfl; have cb5 := bB7.cell 5 rfl; have cb6 := bB7.cell 6 rfl; clear hown6 hon6 h56 hc6 hh6 hl6 h26 bB6 bG6 bB7 bG7 st7 b67 R7 b78 hsn lt7 hhn hlt8)))
      refine hcl.out.mono ?_
      rintro e w9 ⟨v9, rfl, hr9, hb9⟩
      obtain ⟨r', Af', nf', cf', An', nn', cn', Ak', nk', ck', Aq', nq', cq', h7⟩ := hr9.seven
      obtain rfl := h7.v_
      have hB4 := Lib.hid (BEL8.out.trans (hb9.mono BEL8.out.size))
      have R4 := Lib.hid hr9
      have bG := bG8.out.keep (hb9.block _ bG8.out.lt)
      clear hr9 h7 hb9 hcl
      obtain ⟨WF, eF, bGF, hFB, stF⟩ := bG.store7 w.heap.size (by have := ST.out.z1; omega) (.int .i64 r') (.slice Af' nf' cf') (.slice An' nn' cn') (.slice Ak' nk' ck') (.slice Aq' nq' cq') (.bool fu) (.int .i64 lf)
      have hFB' := Lib.hid hFB
      have stF' := Lib.hid stF
      have cg0 := bG.cell 0 rfl
      have cg1 := bG.cell 1 rfl
      have cg2 := bG.cell 2 rfl
      have cg3 := bG.cell 3 rfl
      have cg4 := bG.cell 4 rfl
      have cg5 := bG.cell 5 rfl
      have cg6 := bG.cell 6 rfl
      have fg0 := bG.frozen 0
      have fg1 := bG.frozen 1
      have fg2 := bG.frozen 2
      have fg3 := bG.frozen 3
      have fg4 := bG.frozen 4
      have fg5 := bG.frozen 5
      have fg6 := bG.frozen 6
      have ce0 := bGF.cell 0 rfl
      have ce1 := bGF.cell 1 rfl
      have ce2 := bGF.cell 2 rfl
      have ce3 := bGF.cell 3 rfl
      have ce4 := bGF.cell 4 rfl
      have ce5 := bGF.cell 5 rfl
      have ce6 := bGF.cell 6 rfl
      clear hFB stF bG bGF
      go_wp2
      refine bodyPost_ret (v := .tuple #[.agg #[.int .i64 r', .slice Af' nf' cf', .slice An' nn' cn', .slice Ak' nk' ck', .slice Aq' nq' cq', .bool fu, .int .i64 lf], .int .i64 0]) (by simp [results, Tryz.results35, go_sem, ce0, ce1, ce2, ce3, ce4, ce5, ce6]) rfl ?_
      exact ⟨_, rfl, ((R4.out).step (stF'.out m2 ST.out.hG)).less ST.out.less, (hB4.out).trans hFB'.out⟩
end Go.Proofs.YteidkmiladkoiaaGreatDoor

/-
  The document's Used.
-/
namespace Go.Proofs.YteidkmiladkoiaaGreatDoor
open Go.RowKit

def named (S : FsM) (i : Nat) : Bool := S.now.any fun p => decide (p.2 = i)
def usedTo (S : FsM) (i : Nat) : Nat := (((List.range i).filter fun i => named S i).map fun i => (S.file i).b.length).sum
theorem usedTo_succ (S : FsM) (i : Nat) : usedTo S (i + 1) = usedTo S i + if named S i = true then (S.file i).b.length else 0 := by
  unfold usedTo
  rw [List.range_succ, List.filter_append, List.map_append, List.sum_append]
  congr 1
  by_cases h : named S i = true
  · simp [h]
  · simp [h]
theorem any_take (l : Dir) (k i : Nat) (hk : k < l.length) : (l.take (k + 1)).any (fun p => decide (p.2 = i)) = ((l.take k).any (fun p => decide (p.2 = i)) || decide (l[k].2 = i)) := by
  rw [List.take_succ_eq_append_getElem hk, List.any_append]
  simp

set_option maxRecDepth 100000 in
set_option maxHeartbeats 1600000 in
theorem usedR_any (m : Nat → Prop) (S : FsM) (fu : Bool) (lf : Int) (v : Value) (w : World) (h : RefAt m w v S fu lf) (h0 : S.now.length ≤ 90000) (hf : S.files.length ≤ 90000) (hsm : ∀ n, (S.file n).b.length ≤ 1048576) :
    Calls Tryz.prog 16 #[v] w fun e w' => e = .returned (.int .i64 (S.used : Int)) ∧ Below w.heap.size w w' := by
  obtain ⟨r, Af, nf, cf, An, nn, cn, Ak, nk, ck, Aq, nq, cq, hC7⟩ := h.seven
  obtain rfl := hC7.v_
  obtain ⟨W1, e1⟩ : ∃ W1, w.alloc (.cells #[.int .i64 r, .slice Af nf cf, .slice An nn cn, .slice Ak nk ck, .slice Aq nq cq, .bool fu, .int .i64 lf] 30) = W1 := ⟨_, rfl⟩
  have bB : Blk W1 w.heap.size #[.int .i64 r, .slice Af nf cf, .slice An nn cn, .slice Ak nk ck, .slice Aq nq cq, .bool fu, .int .i64 lf] 30 := e1 ▸ Blk.new w _ _
  have H01 : Hid (Below w.heap.size w W1) := e1 ▸ (Below.refl _ _).alloc (Nat.le_refl _) _
  have N2 := Lib.hid (hC7.now.newB H01.out)
  have F2 := Lib.hid (hC7.files.newB H01.out)
  have d1 := bB.cell 1 rfl
  have d2 := bB.cell 2 rfl
  have HF := Lib.hid hC7.lf_
  have HN := Lib.hid hC7.ln_
  have hnf : nf ≤ 90000 := by have := HF.out; omega
  have hnn : nn ≤ 90000 := by have := HN.out; omega
  obtain ⟨X, hX⟩ : ∃ X, S.used = X := ⟨_, rfl⟩
  rw [hX]
  have HX := Lib.hid hX
  have HSM := Lib.hid hsm
  clear h hC7 bB hX hsm h0 hf
  go_enter Tryz.func16, Tryz.ntmps16
  go_wp2
  go_loopg [3, 4] nf (fun g u i wr => ∃ (k t : Nat), k + g = nf ∧ i = .int .i64 (k : Int) ∧ u = .int .i64 (t : Int) ∧ Hid (usedTo S k = t) ∧ t ≤ 1048576 * k ∧ wr = W1)
  case atStart => exact ⟨0, 0, by omega, rfl, rfl, rfl, by omega, rfl⟩
  case round =>
    obtain ⟨k, t, hk, rfl, rfl, ht, htk, rfl⟩ := hrel
    by_cases hlt : k < nf
    · have hkl : k < S.files.length := by have := HF.out; omega
      have hst := Lib.hid (usedTo_succ S k)
      have efile : S.file k = S.files[k] := by unfold FsM.file; rw [List.getD_eq_getElem?_getD, List.getElem?_eq_getElem hkl]; rfl
      obtain ⟨ad, rfl, had, g1, g2⟩ := sees_flv F2.out.sees hkl
      rw [← efile] at g1
      have hsz : (strOf (S.file k).b).size = (S.file k).b.length := by simp [strOf, ByteArray.size]
      have hsm1 := HSM.out k
      obtain ⟨bl, hbl⟩ : ∃ l, (S.file k).b.length = l := ⟨_, rfl⟩
      obtain ⟨fb, hfb⟩ : ∃ b, strOf (S.file k).b = b := ⟨_, rfl⟩
      rw [hfb] at g1 hsz
      rw [hbl] at hsz hsm1 hst
      have hszi : (fb.size : Int) = (bl : Int) := by omega
      clear efile g2 hbl hfb hkl hsz
      obtain ⟨wo, rfl⟩ : ∃ W, W = wr := ⟨_, rfl⟩
      go_wp2
      go_loopg [5, 6] nn (fun g b j wx => ∃ (q : Nat) (bb : Bool), q + g = nn ∧ j = .int .i64 (q : Int) ∧ b = .bool bb ∧ Hid ((S.now.take q).any (fun p => decide (p.2 = k)) = bb) ∧ wx = wo)
      case atStart => exact ⟨0, false, by omega, rfl, rfl, rfl, rfl⟩
      case round =>
        obtain ⟨q, bb, hq, rfl, rfl, hb, rfl⟩ := hrel
        by_cases hq2 : q < nn
        · have hql : q < S.now.length := by have := HN.out; omega
          obtain ⟨ad2, rfl, had2, k1, k2⟩ := sees_gv N2.out.sees (k := q) (by rw [gd_length]; exact hql)
          rw [gd_at S.now q hql] at k1 k2
          have ha := Lib.hid (any_take S.now q k hql)
          obtain ⟨y, hy⟩ : ∃ y, S.now[q].2 = y := ⟨_, rfl⟩
          rw [hy] at k2 ha
          simp only [gnum] at k2
          clear hy k1
          cases bb with
          | true =>
            have hT : Hid ((S.now.take (q + 1)).any (fun p => decide (p.2 = k)) = true) := by unfold Hid; rw [ha.out, hb.out]; rfl
            clear ha hb
            go_wp2
            go_roundg (nn - (q + 1))
            case measure => omega
            case rel => exact ⟨q + 1, true, by omega, by go_num, rfl, hT, rfl⟩
          | false =>
            by_cases hyk : (y : Int) = (k : Int)
            · have hT : Hid ((S.now.take (q + 1)).any (fun p => decide (p.2 = k)) = true) := by unfold Hid; rw [ha.out, hb.out, decide_eq_true (by omega)]; rfl
              have hd : ((y : Int) == (k : Int)) = true := by simpa using hyk
              have hyk2 : (y : Int) ≤ k ∧ (k : Int) ≤ y := by omega
              clear ha hb hyk
              go_wp2
              go_roundg (nn - (q + 1))
              case measure => omega
              case rel => exact ⟨q + 1, true, by omega, by go_num, rfl, hT, rfl⟩
            · have hT : Hid ((S.now.take (q + 1)).any (fun p => decide (p.2 = k)) = false) := by unfold Hid; rw [ha.out, hb.out, decide_eq_false (by omega)]; rfl
              have hd : ((y : Int) == (k : Int)) = false := by simpa using hyk
              clear ha hb
              go_wp2
              go_roundg (nn - (q + 1))
              case measure => omega
              case rel => exact ⟨q + 1, false, by omega, by go_num, rfl, hT, rfl⟩
        · have hnm : Hid (named S k = bb) := by unfold Hid; rw [← hb.out, List.take_of_length_le (by have := HN.out; omega)]; rfl
          clear hb
          cases bb with
          | true =>
            have hT : Hid (usedTo S (k + 1) = t + bl) := by unfold Hid; rw [hst.out, ht.out, if_pos hnm.out]
            clear hst ht hnm
            go_wp2
            go_roundg (nf - (k + 1))
            case measure => omega
            case rel => exact ⟨k + 1, t + bl, by omega, by go_num, by go_num, hT, by omega, rfl⟩
          | false =>
            have hT : Hid (usedTo S (k + 1) = t) := by unfold Hid; rw [hst.out, ht.out, if_neg (by rw [hnm.out]; decide)]; rfl
            clear hst ht hnm
            go_wp2
            go_roundg (nf - (k + 1))
            case measure => omega
            case rel => exact ⟨k + 1, t, by omega, by go_num, rfl, hT, by omega, rfl⟩
    · have hkn : Hid (t = X) := by
        unfold Hid
        rw [← ht.out, ← HX.out]
        have : k = S.files.length := by have := HF.out; omega
        rw [this]; rfl
      go_wp2
      go_ret
      exact ⟨congrArg (fun x : Nat => Ending.returned (.int .i64 (x : Int))) hkn.out, H01.out⟩
end Go.Proofs.YteidkmiladkoiaaGreatDoor

/-
  The document's Strings; its List.
-/
namespace Go.Proofs.YteidkmiladkoiaaGreatDoor
open Go.RowKit

theorem sees_tv {w : World} {B : Nat} {A : Option Addr} {l : List Txt} (h : Sees w B A (tv l)) {k : Nat} (hk : k < l.length) : ∃ ad, A = some ad ∧ ad.block < B ∧ w.cell? (ad.add k) = some (.string (strOf l[k])) := by
  rcases h.out with h | ⟨ad, e, hb, hc⟩
  · have := tv_length l; rw [h] at this; simp at this; omega
  · exact ⟨ad, e, hb, hc k _ (by simp [tv, List.getElem?_eq_getElem hk])⟩
theorem drop_eq {l r : List Txt} {k : Nat} (h1 : k < l.length) (h2 : k < r.length) : decide (l.drop k = r.drop k) = (decide (l[k] = r[k]) && decide (l.drop (k + 1) = r.drop (k + 1))) := by
  rw [List.drop_eq_getElem_cons h1, List.drop_eq_getElem_cons h2]
  simp only [List.cons.injEq, Bool.decide_and]

set_option maxRecDepth 100000 in
set_option maxHeartbeats 800000 in
theorem strings_r (A B : Option Addr) (n c n2 d : Nat) (l r : List Txt) (hn : l.length = n) (hn2 : r.length = n2) (h0 : n ≤ 100000) (w : World) (hA : Sees w w.heap.size A (tv l)) (hB : Sees w w.heap.size B (tv r)) :
    Calls Tryz.prog 18 #[.slice A n c, .slice B n2 d] w fun e w' => e = .returned (.bool (decide (l = r))) ∧ Below w.heap.size w w' := by
  obtain ⟨X, hX⟩ : ∃ X, X = decide (l = r) := ⟨_, rfl⟩
  rw [← hX]
  by_cases he : n = n2
  · subst he
    have HX := Lib.hid hX
    have HN := Lib.hid hn
    have HN2 := Lib.hid hn2
    clear hX hn hn2
    go_enter Tryz.func18, Tryz.ntmps18
    go_wp2
    go_loopg [5] n (fun g i wr => ∃ k : Nat, k + g = n ∧ i = .int .i64 (k : Int) ∧ Hid (X = decide (l.drop k = r.drop k)) ∧ Below w.heap.size w wr)
    case atStart => exact ⟨0, by omega, rfl, HX.out, Below.refl _ _⟩
    case round =>
      obtain ⟨k, hk, rfl, hx, hb⟩ := hrel
      by_cases hlt : k < n
      · have hkl : k < l.length := by have := HN.out; omega
        have hkr : k < r.length := by have := HN2.out; omega
        obtain ⟨ad, rfl, -, g1⟩ := sees_tv (hA.below hb) hkl
        obtain ⟨ad2, rfl, -, g2⟩ := sees_tv (hB.below hb) hkr
        have hstep := Lib.hid (hx.out.trans (drop_eq hkl hkr))
        obtain ⟨x, hx2⟩ : ∃ x, l[k] = x := ⟨_, rfl⟩
        obtain ⟨y, hy2⟩ : ∃ x, r[k] = x := ⟨_, rfl⟩
        rw [hx2] at g1 hstep
        rw [hy2] at g2 hstep
        clear hx hx2 hy2
        by_cases hxy : x = y
        · have hs := str_eq hxy
          have hT : Hid (X = decide (l.drop (k + 1) = r.drop (k + 1))) := by unfold Hid; rw [hstep.out, decide_eq_true hxy, Bool.true_and]
          clear hstep hxy
          go_wp2
          go_quiet (fail)
          go_wp2
          go_roundg (n - (k + 1))
          case measure => omega
          case rel => exact ⟨k + 1, by omega, by go_num, hT, below_d hb _⟩
        · have hs := str_ne hxy
          have hF : Hid (X = false) := by unfold Hid; rw [hstep.out, decide_eq_false hxy, Bool.false_and]
          clear hstep hxy
          go_wp2
          go_quiet (fail)
          go_wp2
          go_ret
          exact ⟨ret_bool hF.out.symm, below_d hb _⟩
      · have hT : Hid (X = true) := by
          unfold Hid
          rw [hx.out, List.drop_eq_nil_of_le (by have := HN.out; omega), List.drop_eq_nil_of_le (by have := HN2.out; omega)]
          rfl
        clear hx
        go_wp2
        go_ret
        exact ⟨ret_bool hT.out.symm, hb⟩
  · have hF : Hid (X = false) := by
      unfold Hid
      rw [hX]
      exact decide_eq_false fun e => he (by rw [← hn, ← hn2, e])
    have he3 : ¬ (n : Int) = n2 := by omega
    clear hX hn hn2
    go_enter Tryz.func18, Tryz.ntmps18
    go_wp2
    go_ret
    exact ⟨ret_bool hF.out.symm, Below.refl _ _⟩

theorem pre_iff (x y : Txt) : decide (x <+: y) = (decide (x.length ≤ y.length) && decide (y.take x.length = x)) := by
  by_cases h : x <+: y
  · rw [decide_eq_true h, decide_eq_true h.length_le, decide_eq_true (List.prefix_iff_eq_take.1 h).symm]; rfl
  · rw [decide_eq_false h]
    by_cases h2 : y.take x.length = x
    · exact absurd (List.prefix_iff_eq_take.2 h2.symm) h
    · rw [decide_eq_false h2, Bool.and_false]
theorem filter_take (l : List Txt) (p : Txt → Bool) (k : Nat) (hk : k < l.length) : (l.take (k + 1)).filter p = (l.take k).filter p ++ if p l[k] = true then [l[k]] else [] := by
  rw [List.take_succ_eq_append_getElem hk, List.filter_append, List.filter_cons]
  by_cases h : p l[k] = true <;> simp [h]

set_option maxRecDepth 100000 in
set_option maxHeartbeats 1600000 in
theorem listR_any (m : Nat → Prop) (S : FsM) (fu : Bool) (lf : Int) (v : Value) (w : World) (h : RefAt m w v S fu lf) (h0 : S.now.length ≤ 90000) (hp24 : ∀ x ∈ S.now, x.1.length ≤ 24) (first : Txt) (_ : first.length ≤ 1000000) :
    Calls Tryz.prog 20 #[v, .string (strOf first)] w (TextsIs w (S.list first)) := by
  obtain ⟨r, Af, nf, cf, An, nn, cn, Ak, nk, ck, Aq, nq, cq, hC7⟩ := h.seven
  obtain rfl := hC7.v_
  obtain ⟨W1, e1⟩ : ∃ W1, w.alloc (.cells #[.int .i64 r, .slice Af nf cf, .slice An nn cn, .slice Ak nk ck, .slice Aq nq cq, .bool fu, .int .i64 lf] 30) = W1 := ⟨_, rfl⟩
  have bB : Blk W1 w.heap.size #[.int .i64 r, .slice Af nf cf, .slice An nn cn, .slice Ak nk ck, .slice Aq nq cq, .bool fu, .int .i64 lf] 30 := e1 ▸ Blk.new w _ _
  have H01 : Hid (Below w.heap.size w W1) := e1 ▸ (Below.refl _ _).alloc (Nat.le_refl _) _
  have hs1 : w.heap.size < W1.heap.size := by rw [← e1]; simp
  have N2 := Lib.hid (hC7.now.newB H01.out)
  have d2 := bB.cell 2 rfl
  have D2 := Lib.hid d2
  have HN := Lib.hid hC7.ln_
  have hnn : nn ≤ 90000 := by have := HN.out; omega
  have HP := Lib.hid hp24
  obtain ⟨fl, hfl2⟩ : ∃ n, first.length = n := ⟨_, rfl⟩
  have hsf : (strOf first).size = fl := by rw [← hfl2]; simp [strOf, ByteArray.size]
  have HFL := Lib.hid hfl2
  obtain ⟨L, hL⟩ : ∃ L, S.now.map (·.1) = L := ⟨_, rfl⟩
  have HL := Lib.hid hL
  obtain ⟨X, hX⟩ : ∃ X, S.list first = X := ⟨_, rfl⟩
  rw [hX]
  have HX : Hid (L.filter (fun p => decide (first <+: p)) = X) := by unfold Hid; rw [← hX, ← hL]; rfl
  obtain ⟨i0, hi0, hy0, hy1, hy2⟩ := info_parts Tryz.strinfo
  clear h hC7 bB hX hL h0 hp24 hfl2
  go_enter Tryz.func20, Tryz.ntmps20
  go_wp2
  clear d2
  go_loopg [5, 6] nn (fun g o i wr => ∃ (k t : Nat), k + g = nn ∧ i = .int .i64 (k : Int) ∧ wr.ownsRow W1.heap.size 9 1 o t (tv ((L.take k).filter fun p => decide (first <+: p))) ∧ t ≤ k ∧ Below W1.heap.size W1 wr)
  case atStart => exact ⟨0, 0, by omega, rfl, World.ownsRow_nil _ _ _ _, by omega, Below.refl _ _⟩
  case round =>
    obtain ⟨k, t, hk, rfl, hown, ht, hb⟩ := hrel
    have d2 : wr.cell? ⟨w.heap.size, 2, none⟩ = some (.slice An nn cn) := (hb.cell hs1).trans D2.out
    have hbs := hb.size
    by_cases hlt : k < nn
    · have hkl : k < S.now.length := by have := HN.out; omega
      have hkL : k < L.length := by rw [← HL.out]; simpa using hkl
      obtain ⟨ad, rfl, had, g1, g2⟩ := sees_gv (N2.out.newB hb).sees (k := k) (by rw [gd_length]; exact hkl)
      rw [gd_at S.now k hkl] at g1
      have hft := Lib.hid (filter_take L (fun p => decide (first <+: p)) k hkL)
      have hLk : L[k] = S.now[k].1 := by simp [← HL.out]
      have hy24 := HP.out _ (List.getElem_mem hkl)
      rw [hLk] at hft
      obtain ⟨y, hy⟩ : ∃ y, S.now[k].1 = y := ⟨_, rfl⟩
      rw [hy] at g1 hft hy24
      obtain ⟨ly, hly⟩ : ∃ n, y.length = n := ⟨_, rfl⟩
      have hsy : (strOf y).size = ly := by rw [← hly]; simp [strOf, ByteArray.size]
      rw [hly] at hy24
      have hpe := hasPre_eq y first
      unfold hasPre at hpe
      rw [hsf, hsy] at hpe
      obtain ⟨bp, hbp⟩ : ∃ b, decide (first <+: y) = b := ⟨_, rfl⟩
      rw [hbp] at hpe hft
      clear g2 hLk hy hkL hkl hly hbp
      cases bp with
      | false =>
        have hT : Hid ((L.take (k + 1)).filter (fun p => decide (first <+: p)) = (L.take k).filter fun p => decide (first <+: p)) := by unfold Hid; rw [hft.out]; simp
        by_cases hlen : fl ≤ ly
        · have hex : (((strOf y).extract 0 fl).toList == (strOf first).toList) = false := by rw [decide_eq_true hlen, Bool.true_and] at hpe; exact hpe
          clear hpe hft
          go_wp2
          go_roundg (nn - (k + 1))
          case measure => omega
          case rel => exact ⟨k + 1, t, by omega, by go_num, by rw [hT.out]; exact hown, by omega, hb⟩
        · clear hpe hft
          go_wp2
          go_roundg (nn - (k + 1))
          case measure => omega
          case rel => exact ⟨k + 1, t, by omega, by go_num, by rw [hT.out]; exact hown, by omega, hb⟩
      | true =>
        have hT : Hid ((L.take (k + 1)).filter (fun p => decide (first <+: p)) = ((L.take k).filter fun p => decide (first <+: p)) ++ [y]) := by unfold Hid; rw [hft.out]; simp
        simp only [Bool.and_eq_true, decide_eq_true_eq] at hpe
        obtain ⟨hlen, hex⟩ := hpe
        clear hft
        go_wp2_with (at_builtin; (refine wpList_append_v rfl (.tmp 34) (.tmp 36) 45 rfl 9 i0 _ 1 16 Tryz.underlying45 hi0 hy0 hy1 hy2 rfl (by omega) W1.heap.size _ t _ (by rfl) (World.ownsRow.alloc hown _) (wr.heap.size + 1) (some ⟨wr.heap.size, 0, none⟩) 1 1 [.string (strOf y)] (by rfl) rfl (sees_cells wr _ rfl _ _ _ rfl) (fun u hu => by simp at hu; subst hu; rfl) (by simp only [maxLen]; omega) (by omega) (by simp; omega) ?_; intro v2 w2 hown2 hon2; have hb2 : Below W1.heap.size wr w2 := ((Below.refl _ wr).alloc hbs _).trans (hon2.below (by simp; omega) (own_block hown))))
        go_roundg (nn - (k + 1))
        case measure => omega
        case rel => exact ⟨k + 1, t + 1, by omega, by go_num, by rw [hT.out]; simpa [tv] using hown2, by omega, hb.trans hb2⟩
    · have hkn : Hid ((L.take k).filter (fun p => decide (first <+: p)) = X) := by
        unfold Hid
        rw [List.take_of_length_le (by rw [← HL.out]; have := HN.out; simp; omega)]
        exact HX.out
      rw [hkn.out] at hown
      go_wp2
      go_ret
      have hl : X.length = t := by have := hown.1; rw [tv_length] at this; omega
      refine ⟨_, rfl, ?_, H01.out.trans (hb.mono (by omega))⟩
      unfold OwnT
      rw [hl]
      refine ⟨hown.1, ?_⟩
      rcases hown.2 with h | ⟨g, cap, cur, e, hg, r⟩
      · exact .inl h
      · exact .inr ⟨g, cap, cur, e, by omega, r⟩
end Go.Proofs.YteidkmiladkoiaaGreatDoor
