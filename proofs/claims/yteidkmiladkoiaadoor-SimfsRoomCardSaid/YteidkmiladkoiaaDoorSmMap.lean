/-
  A map as the entries that it has, in whatever order: keys that are texts, or pointers to files. No program in sight.
-/
import Derived.Test.YteidkmiladkoiaaDoorRange
import Derived.Maps.RangeRun
import Derived.Maps.Keyed
import Derived.LaidEql
namespace Go.Proofs.YteidkmiladkoiaaDoor
open Go.RowKit Go.MapKept
open Go.ChangeMaps (setBlock heap_setBlock_same heap_setBlock_other)

/-- What a map's operations need of keys that are 'ok' in the world w. -/
structure KeyOk (P : Program) (k : TypeId) (w : World) (ok : Value → Prop) : Prop where
  check : ∀ (em : Bool) {v : Value}, ok v → (Instr.checkKey em 10000 k v).run P w = .ok () w
  find : ∀ {x : Value}, ok x → ∀ es : List MapEntry, (∀ e ∈ es, ok e.key) →
    ((Instr.findKey k x es).run P w = .ok none w ∧ ∀ e ∈ es, e.key ≠ x) ∨ ∃ (j : Nat) (e : MapEntry), (Instr.findKey k x es).run P w = .ok (some (j, e.val)) w ∧ es[j]? = some e ∧ e.key = x
  stays : ∀ {v : Value}, ok v → (Instr.keyThatStays v v).run P w = .ok v w

/-- A text as a key. -/
def okStr (v : Value) : Prop := ∃ s : ByteArray, v = .string s
theorem keyOk_str {P : Program} {k : TypeId} (hk : P.underlying k = some .string) (w : World) : KeyOk P k w okStr where
  check em v h := by obtain ⟨s, rfl⟩ := h; exact run_checkKey hk (by trivial) em 9999
  find {x} hx es hes := by
    obtain ⟨s, rfl⟩ := hx
    have hks : ∀ y ∈ es, IsKey .string y.key := fun y hy => by obtain ⟨l, hl⟩ := hes y hy; rw [hl]; trivial
    rcases findNow_spec (d := .string) (k := .string s) (by trivial) es 0 hks with ⟨h1, h2⟩ | ⟨j, e0, h1, h2, h3⟩
    · exact .inl ⟨run_findKey hk h1, h2⟩
    · exact .inr ⟨j, e0, by simpa using run_findKey hk h1, h2, h3⟩
  stays {v} h := by obtain ⟨s, rfl⟩ := h; exact run_keyThatStays (d := .string) (by trivial)

/-- Nil, or a pointer to a whole block of cells, none of them frozen. -/
def okPtr (w : World) (v : Value) : Prop := v = .pointer none ∨ ∃ b cs t, v = .pointer (some ⟨b, 0, none⟩) ∧ w.heap[b]? = some (.cells cs t (0, 0))

section
variable {P : Program} {k e : TypeId} {j : TypeInfo} {w : World}
theorem run_equalIn_ptr (d : Nat) (hk : P.underlying k = some (.pointer e)) (he : P.info? e = some j) (hj : j.size ≠ 0) {x y : Value} (hx : okPtr w x) (hy : okPtr w y) :
    ∃ r : Bool, (Op.equalIn (d + 1) k x y).run P w = .ok r w ∧ (r = true ↔ x = y) := by
  rcases hx with rfl | ⟨b, cs, t, rfl, hb⟩
  · rcases hy with rfl | ⟨c, cs', t', rfl, hc⟩
    · exact ⟨true, by simp [Op.equalIn, run_underlying hk], by simp⟩
    · exact ⟨false, by simp [Op.equalIn, run_underlying hk], by simp⟩
  · rcases hy with rfl | ⟨c, cs', t', rfl, hc⟩
    · exact ⟨false, by simp [Op.equalIn, run_underlying hk], by simp⟩
    · by_cases hbc : b = c
      · subst hbc
        exact ⟨true, by simp [Op.equalIn, run_underlying hk, sizeOf, typeInfo, he, hj, run_sameAddr_same], by simp⟩
      · refine ⟨false, by simp [Op.equalIn, run_underlying hk, sizeOf, typeInfo, he, hj, run_sameAddr_other w (a := ⟨b, 0, none⟩) (b := ⟨c, 0, none⟩) (fun e => hbc (congrArg Addr.block e)) hb hc], ?_⟩
        refine ⟨fun e => (by cases e), fun e => ?_⟩
        injection e with e
        injection e with e
        exact absurd (congrArg Addr.block e) hbc
theorem run_equal_ptr (hk : P.underlying k = some (.pointer e)) (he : P.info? e = some j) (hj : j.size ≠ 0) {x y : Value} (hx : okPtr w x) (hy : okPtr w y) :
    ∃ r : Bool, (Op.equal k x y).run P w = .ok r w ∧ (r = true ↔ x = y) := run_equalIn_ptr 9999 hk he hj hx hy

theorem find_ptr (hk : P.underlying k = some (.pointer e)) (he : P.info? e = some j) (hj : j.size ≠ 0) {x : Value} (hx : okPtr w x) : ∀ (es : List MapEntry) (i : Nat), (∀ e ∈ es, okPtr w e.key) →
    ((Instr.findAsking k x es i).run P w = .ok none w ∧ ∀ e ∈ es, e.key ≠ x) ∨ ∃ (n : Nat) (e : MapEntry), (Instr.findAsking k x es i).run P w = .ok (some (i + n, e.val)) w ∧ es[n]? = some e ∧ e.key = x
  | [], i, _ => .inl ⟨by simp [Instr.findAsking], by simp⟩
  | a :: r, i, h => by
    obtain ⟨c, h1, h2⟩ := run_equal_ptr hk he hj hx (h a (by simp))
    cases c with
    | true => exact .inr ⟨0, a, by simp [Instr.findAsking, h1, Result.andThen], by simp, (h2.1 rfl).symm⟩
    | false =>
      have hne : a.key ≠ x := fun e => by have := h2.2 e.symm; cases this
      rcases find_ptr hk he hj hx r (i + 1) (fun e he => h e (by simp [he])) with ⟨g1, g2⟩ | ⟨n, e, g1, g2, g3⟩
      · refine .inl ⟨by simp [Instr.findAsking, h1, Result.andThen, g1], fun e he => ?_⟩
        rcases List.mem_cons.1 he with rfl | he
        · exact hne
        · exact g2 e he
      · exact .inr ⟨n + 1, e, by simp [Instr.findAsking, h1, Result.andThen, g1]; omega, by simpa using g2, g3⟩

theorem findNow_ptr (x : Value) (a : MapEntry) (r : List MapEntry) (i : Nat) : Instr.findNow (.pointer e) x (a :: r) i = none := by
  simp [Instr.findNow, Instr.sameNow]

theorem check_ptr (hk : P.underlying k = some (.pointer e)) (d : Nat) (em : Bool) {v : Value} (h : okPtr w v) : (Instr.checkKey em (d + 1) k v).run P w = .ok () w := by
  rcases h with rfl | ⟨b, cs, t, rfl, hb⟩ <;> simp [Instr.checkKey, run_underlying hk]
theorem same_ptr (d : Nat) {v : Value} (h : okPtr w v) : Instr.sameBits d v v = true := by rcases h with rfl | ⟨b, cs, t, rfl, hb⟩ <;> cases d <;> simp [Instr.sameBits]
theorem keyOk_ptr (hk : P.underlying k = some (.pointer e)) (he : P.info? e = some j) (hj : j.size ≠ 0) (w : World) : KeyOk P k w (okPtr w) where
  check em v h := check_ptr hk 9999 em h
  find {x} hx es hes := by
    cases es with
    | nil => exact .inl ⟨by simp [Instr.findKey, run_underlying hk, Instr.findNow], by simp⟩
    | cons a r =>
      have e1 : (Instr.findKey k x (a :: r)).run P w = (Instr.findAsking k x (a :: r)).run P w := by
        simp [Instr.findKey, run_underlying hk, findNow_ptr, Result.andThen]
      rw [e1]
      rcases find_ptr hk he hj hx (a :: r) 0 hes with h | ⟨n, e, h1, h2, h3⟩
      · exact .inl h
      · exact .inr ⟨n, e, by simpa using h1, h2, h3⟩
  stays {v} h := by
    have e1 : Instr.keyThatStays v v = (if Instr.sameBits 10000 v v then pure v else do pure (if (← choose (.extern "map.whichKeyStays" 2)) = 0 then v else v)) := rfl
    rw [e1]
    rw [same_ptr 10000 h]
    rfl
end

/-- An entry's key and value. -/
def kvOf (e : MapEntry) : Value × Value := (e.key, e.val)
/-- Block b is a map that has just the entries l. -/
structure MapIs (w : World) (b : Nat) (l : List (Value × Value)) : Prop where
  out : ∃ es clock, w.heap[b]? = some (.map es clock) ∧ Stamped es clock ∧ (es.toList.map kvOf).Perm l

theorem kv_pairwise {es : Array MapEntry} {clock : Nat} (h : Stamped es clock) : (es.toList.map kvOf).Pairwise (fun p q => p.1 ≠ q.1) := by
  rw [List.pairwise_map]
  exact ((stamped_iff es clock).1 h).2.2
theorem nodup_of_keys {l : List (Value × Value)} (h : l.Pairwise (fun p q => p.1 ≠ q.1)) : l.Nodup := h.imp fun hp e => hp (by rw [e])
theorem key_one {l : List (Value × Value)} (h : l.Pairwise (fun p q => p.1 ≠ q.1)) {x y : Value × Value} (hx : x ∈ l) (hy : y ∈ l) (e : x.1 = y.1) : x = y := by
  induction l with
  | nil => cases hx
  | cons a r ih =>
    obtain ⟨h1, h2⟩ := List.pairwise_cons.1 h
    rcases List.mem_cons.1 hx with ex | hx
    · rcases List.mem_cons.1 hy with ey | hy
      · rw [ex, ey]
      · exact absurd (ex ▸ e) (h1 y hy)
    · rcases List.mem_cons.1 hy with ey | hy
      · exact absurd (ey ▸ e).symm (h1 x hx)
      · exact ih h2 hx hy
theorem perm_of_mem {l l' : List (Value × Value)} (h : l.Pairwise (fun p q => p.1 ≠ q.1)) (h' : l'.Pairwise (fun p q => p.1 ≠ q.1)) (hm : ∀ p, p ∈ l ↔ p ∈ l') : l.Perm l' :=
  (List.perm_ext_iff_of_nodup (nodup_of_keys h) (nodup_of_keys h')).2 hm

section
variable {P : Program} {w w' : World} {b : Nat} {l l' : List (Value × Value)} {ok : Value → Prop} {k e t : TypeId}
theorem MapIs.keys (h : MapIs w b l) : l.Pairwise (fun p q => p.1 ≠ q.1) := by
  obtain ⟨es, clock, -, h2, h3⟩ := h.out
  exact (h3.pairwise_iff (fun {_ _} hne => Ne.symm hne)).1 (kv_pairwise h2)
theorem MapIs.lt (h : MapIs w b l) : b < w.heap.size := by
  obtain ⟨es, clock, h1, -⟩ := h.out
  exact (Array.getElem?_eq_some_iff.1 h1).1
theorem MapIs.keep (h : MapIs w b l) (hk : w'.heap[b]? = w.heap[b]?) : MapIs w' b l := by
  obtain ⟨es, clock, h1, h2⟩ := h.out
  exact ⟨es, clock, hk.trans h1, h2⟩
theorem MapIs.perm (h : MapIs w b l) (hp : l.Perm l') : MapIs w b l' := by
  obtain ⟨es, clock, h1, h2, h3⟩ := h.out
  exact ⟨es, clock, h1, h2, h3.trans hp⟩
theorem MapIs.new (w : World) : MapIs (w.alloc (.map #[] 0)) w.heap.size [] := ⟨#[], 0, (MapKept.heap_alloc w _).1, stamped_empty 0, by simp⟩
theorem MapIs.clone (w : World) {b : Nat} {es : Array MapEntry} {clock : Nat} (hb : w.heap[b]? = some (.map es clock)) (h : MapIs w b l) : MapIs (w.alloc (.map es clock)) w.heap.size l := by
  obtain ⟨es', clock', h1, h2, h3⟩ := h.out
  rw [hb] at h1
  cases h1
  exact ⟨es, clock, (MapKept.heap_alloc w _).1, h2, h3⟩
/-- 'm[k]' at a key that is there. -/
theorem MapIs.look (h : MapIs w b l) (K : KeyOk P k w ok) (ht : P.underlying t = some (.map k e)) (hok : ∀ p ∈ l, ok p.1) {x v : Value} (hx : (x, v) ∈ l) (c : Bool) :
    (Instr.lookup t (.map (some b)) x c).run P w = .ok (if c then .tuple #[v, .bool true] else v) w := by
  have hkeys := h.keys
  obtain ⟨es, clock, hb, h2, h3⟩ := h.out
  have hek : ∀ y ∈ es.toList, ok y.key := fun y hy => hok _ (h3.mem_iff.1 (List.mem_map_of_mem (f := kvOf) hy))
  rcases K.find (hok _ hx) es.toList hek with ⟨g1, g2⟩ | ⟨j, a, g1, g2, g3⟩
  · obtain ⟨y, hy, e1⟩ := List.mem_map.1 (h3.mem_iff.2 hx)
    exact absurd (congrArg Prod.fst e1) (g2 y hy)
  · have e1 : kvOf a = (x, v) := key_one hkeys (h3.mem_iff.1 (List.mem_map_of_mem (f := kvOf) (List.mem_of_getElem? g2))) hx g3
    have e2 : a.val = v := congrArg Prod.snd e1
    simp [Instr.lookup, run_underlying ht, MapKept.run_getObj_map hb, K.check _ (hok _ hx), g1, Result.andThen, e2]
/-- .. that isn't there. -/
theorem MapIs.look_out (h : MapIs w b l) (K : KeyOk P k w ok) (ht : P.underlying t = some (.map k e)) (hok : ∀ p ∈ l, ok p.1) {x z : Value} (hz : (zeroValue e).run P w = .ok z w) (hxo : ok x) (hx : ∀ p ∈ l, p.1 ≠ x) (c : Bool) :
    (Instr.lookup t (.map (some b)) x c).run P w = .ok (if c then .tuple #[z, .bool false] else z) w := by
  obtain ⟨es, clock, hb, h2, h3⟩ := h.out
  have hek : ∀ y ∈ es.toList, ok y.key := fun y hy => hok _ (h3.mem_iff.1 (List.mem_map_of_mem (f := kvOf) hy))
  rcases K.find hxo es.toList hek with ⟨g1, g2⟩ | ⟨j, a, g1, g2, g3⟩
  · simp [Instr.lookup, run_underlying ht, MapKept.run_getObj_map hb, K.check _ hxo, g1, hz, Result.andThen]
  · exact absurd g3 (hx _ (h3.mem_iff.1 (List.mem_map_of_mem (f := kvOf) (List.mem_of_getElem? g2))))
/-- 'm[k] = v'. -/
theorem MapIs.store (h : MapIs w b l) (K : KeyOk P k w ok) (ht : P.underlying t = some (.map k e)) (hok : ∀ p ∈ l, ok p.1) {x v : Value} (hx : ok x)
    (hl' : l'.Pairwise (fun p q => p.1 ≠ q.1)) (hm : ∀ p, p ∈ l' ↔ p = (x, v) ∨ (p ∈ l ∧ p.1 ≠ x)) :
    ∃ w', (Instr.mapUpdate t (.map (some b)) x v).run P w = .ok () w' ∧ MapIs w' b l' ∧ w.grownBy w' (some b) ∧ w'.heap.size = w.heap.size := by
  have hkeys := h.keys
  obtain ⟨es, clock, hb, h2, h3⟩ := h.out
  have hek : ∀ y ∈ es.toList, ok y.key := fun y hy => hok _ (h3.mem_iff.1 (List.mem_map_of_mem (f := kvOf) hy))
  have fin : ∀ o : Obj, w.grownBy (setBlock w b o) (some b) ∧ (setBlock w b o).heap.size = w.heap.size := fun o =>
    ⟨⟨rfl, rfl, rfl, by simp [setBlock], fun i _ hi => heap_setBlock_other hb _ (fun e => hi (by rw [e]))⟩, by simp [setBlock]⟩
  rcases K.find hx es.toList hek with ⟨g1, g2⟩ | ⟨j, a, g1, g2, g3⟩
  · refine ⟨setBlock w b (.map (es.push ⟨x, v, clock⟩) (clock + 1)), ?_, ⟨_, _, heap_setBlock_same hb _, stamped_push h2 g2, ?_⟩, fin _⟩
    · simp [Instr.mapUpdate, run_underlying ht, MapKept.run_getObj_map hb, K.check _ hx, g1, MapKept.run_setObj_map _ hb, Result.andThen, setBlock]
    · refine perm_of_mem (kv_pairwise (stamped_push h2 g2)) hl' fun p => ?_
      rw [hm p]
      simp only [Array.toList_push, List.map_append, List.map_cons, List.map_nil, List.mem_append, List.mem_singleton]
      rw [h3.mem_iff]
      constructor
      · rintro (hp | rfl)
        · refine .inr ⟨hp, fun e1 => ?_⟩
          obtain ⟨y, hy, e2⟩ := List.mem_map.1 (h3.mem_iff.2 hp)
          exact g2 y hy (by rw [← e1, ← e2]; rfl)
        · exact .inl rfl
      · rintro (rfl | ⟨hp, -⟩)
        · exact .inr rfl
        · exact .inl hp
  · have hj : es[j]? = some a := by simpa using g2
    have hjl : j < es.toList.length := (List.getElem?_eq_some_iff.1 g2).1
    have hst : Stamped (es.modify j fun e' => { e' with key := x, val := v }) clock := stamped_modify h2 _ _ (fun _ _ => rfl) fun e' _ he' => by rw [hj] at he'; cases he'; exact g3.symm
    refine ⟨setBlock w b (.map (es.modify j fun e' => { e' with key := x, val := v }) clock), ?_, ⟨_, _, heap_setBlock_same hb _, hst, ?_⟩, fin _⟩
    · simp [Instr.mapUpdate, run_underlying ht, MapKept.run_getObj_map hb, K.check _ hx, g1, hj, g3, K.stays hx, MapKept.run_setObj_map _ hb, Result.andThen, setBlock]
    · refine perm_of_mem (kv_pairwise hst) hl' fun p => ?_
      rw [hm p, Array.toList_modify, ChangeMaps.modify_eq_set _ _ _ _ g2, List.map_set]
      have hnew : kvOf { a with key := x, val := v } = (x, v) := rfl
      rw [hnew]
      have hjm : j < (es.toList.map kvOf).length := by simpa using hjl
      constructor
      · intro hp
        obtain ⟨i, hi, e1⟩ := List.getElem_of_mem hp
        rw [List.getElem_set] at e1
        split at e1
        · exact .inl e1.symm
        · rename_i hne
          have hi' : i < es.toList.length := by simpa using hi
          have hpm : p ∈ es.toList.map kvOf := e1 ▸ List.getElem_mem _
          refine .inr ⟨h3.mem_iff.1 hpm, fun e2 => hne ?_⟩
          have e3 : p = kvOf a := key_one (kv_pairwise h2) hpm (List.mem_map_of_mem (f := kvOf) (List.mem_of_getElem? g2)) (by rw [e2]; exact g3.symm)
          have hnd := nodup_of_keys (kv_pairwise h2)
          refine (List.getElem_inj (i := j) (j := i) (h₀ := hjm) (h₁ := by simpa using hi') hnd).1 ?_
          rw [e1, e3, List.getElem_map]
          congr 1
          have := List.getElem?_eq_some_iff.1 g2
          exact this.2
      · rintro (rfl | ⟨hp, hne⟩)
        · exact List.mem_iff_getElem.2 ⟨j, by simpa using hjl, by simp⟩
        · obtain ⟨i, hi, e1⟩ := List.getElem_of_mem (h3.mem_iff.2 hp)
          have hne' : j ≠ i := fun e2 => hne (by
            subst e2
            rw [← e1, List.getElem_map]
            have := (List.getElem?_eq_some_iff.1 g2).2
            rw [this]
            exact g3)
          exact List.mem_iff_getElem.2 ⟨i, by simpa using hi, by rw [List.getElem_set_ne hne', e1]⟩
/-- 'delete(m, k)'. -/
theorem MapIs.drop (h : MapIs w b l) (K : KeyOk P k w ok) (ht : P.underlying t = some (.map k e)) (hok : ∀ p ∈ l, ok p.1) {x : Value} (hx : ok x)
    (hl' : l'.Pairwise (fun p q => p.1 ≠ q.1)) (hm : ∀ p, p ∈ l' ↔ p ∈ l ∧ p.1 ≠ x) (ty : TypeId) :
    ∃ w', (Builtin.delete_ #[t, k] ty #[.map (some b), x]).run P w = .ok (.tuple #[]) w' ∧ MapIs w' b l' ∧ w.grownBy w' (some b) ∧ w'.heap.size = w.heap.size := by
  obtain ⟨es, clock, hb, h2, h3⟩ := h.out
  have hek : ∀ y ∈ es.toList, ok y.key := fun y hy => hok _ (h3.mem_iff.1 (List.mem_map_of_mem (f := kvOf) hy))
  have fin : ∀ o : Obj, w.grownBy (setBlock w b o) (some b) ∧ (setBlock w b o).heap.size = w.heap.size := fun o =>
    ⟨⟨rfl, rfl, rfl, by simp [setBlock], fun i _ hi => heap_setBlock_other hb _ (fun e => hi (by rw [e]))⟩, by simp [setBlock]⟩
  rcases K.find hx es.toList hek with ⟨g1, g2⟩ | ⟨j, a, g1, g2, g3⟩
  · refine ⟨setBlock w b (.map es clock), ?_, ⟨_, _, heap_setBlock_same hb _, h2, ?_⟩, fin _⟩
    · simp [Builtin.delete_, run_underlying ht, MapKept.run_getObj_map hb, K.check _ hx, g1, MapKept.run_setObj_map _ hb, Result.andThen, setBlock]
    · refine perm_of_mem (kv_pairwise h2) hl' fun p => ?_
      rw [hm p, h3.mem_iff]
      refine ⟨fun hp => ⟨hp, fun e1 => ?_⟩, fun hp => hp.1⟩
      obtain ⟨y, hy, e2⟩ := List.mem_map.1 (h3.mem_iff.2 hp)
      exact g2 y hy (by rw [← e1, ← e2]; rfl)
  · have hjl : j < es.toList.length := (List.getElem?_eq_some_iff.1 g2).1
    have hsub : (es.eraseIdxIfInBounds j).toList = es.toList.eraseIdx j := by
      unfold Array.eraseIdxIfInBounds
      rw [dif_pos (by simpa using hjl)]
      simp
    refine ⟨setBlock w b (.map (es.eraseIdxIfInBounds j) clock), ?_, ⟨_, _, heap_setBlock_same hb _, stamped_erase h2 j, ?_⟩, fin _⟩
    · simp [Builtin.delete_, run_underlying ht, MapKept.run_getObj_map hb, K.check _ hx, g1, MapKept.run_setObj_map _ hb, Result.andThen, setBlock]
    · refine perm_of_mem (kv_pairwise (stamped_erase h2 j)) hl' fun p => ?_
      rw [hm p, hsub]
      constructor
      · intro hp
        obtain ⟨y, hy, e1⟩ := List.mem_map.1 hp
        obtain ⟨i, hne, hi⟩ := List.mem_eraseIdx_iff_getElem?.1 hy
        have hym := List.mem_of_getElem? hi
        refine ⟨h3.mem_iff.1 (e1 ▸ List.mem_map_of_mem (f := kvOf) hym), fun e2 => hne ?_⟩
        have hnd : (es.toList.map (·.key)).Nodup := h2.2.2
        have e3 : y.key = a.key := by rw [g3, ← e2, ← e1]; rfl
        have hi' := (List.getElem?_eq_some_iff.1 hi).1
        refine (List.getElem_inj (i := i) (j := j) (h₀ := by simpa using hi') (h₁ := by simpa using hjl) hnd).1 ?_
        rw [List.getElem_map, List.getElem_map, (List.getElem?_eq_some_iff.1 hi).2, (List.getElem?_eq_some_iff.1 g2).2]
        exact e3
      · rintro ⟨hp, hne⟩
        obtain ⟨y, hy, e1⟩ := List.mem_map.1 (h3.mem_iff.2 hp)
        obtain ⟨i, hi⟩ := List.getElem?_of_mem hy
        refine List.mem_map.2 ⟨y, List.mem_eraseIdx_iff_getElem?.2 ⟨i, fun e2 => hne ?_, hi⟩, e1⟩
        subst e2
        rw [g2] at hi
        cases hi
        rw [← e1]
        exact g3
/-- 'len(m)'. -/
theorem MapIs.len (h : MapIs w b l) (ht : P.underlying t = some (.map k e)) (ty : TypeId) : (Builtin.len_ #[t] ty #[.map (some b)]).run P w = .ok (.int .i64 l.length) w := by
  obtain ⟨es, clock, hb, h2, h3⟩ := h.out
  have := h3.length_eq
  simp at this
  simp [Builtin.len_, run_underlying ht, MapKept.run_getObj_map hb, goInt, Result.andThen, this]
end

/-- 'for k, v := range m' under way: the entries 'left' are still to come. -/
structure MapRng (w : World) (b r : Nat) (l left : List (Value × Value)) : Prop where
  out : ∃ es clock since seen c0, w.heap[b]? = some (.map es clock) ∧ Stamped es clock ∧ (es.toList.map kvOf).Perm l ∧ w.heap[r]? = some (.mapIter (some b) since seen c0) ∧ (∀ x ∈ es.toList, x.born < since) ∧ since ≤ c0 ∧ since ≤ clock ∧
    ((leftOf es seen).toList.map kvOf).Perm left

section
variable {P : Program} {w w' : World} {b r : Nat} {l left : List (Value × Value)} {k e t : TypeId}
theorem MapRng.is (h : MapRng w b r l left) : MapIs w b l := by
  obtain ⟨es, clock, since, seen, c0, h1, h2, h3, -⟩ := h.out
  exact ⟨es, clock, h1, h2, h3⟩
theorem MapRng.lt (h : MapRng w b r l left) : r < w.heap.size := by
  obtain ⟨es, clock, since, seen, c0, h1, h2, h3, h4, -⟩ := h.out
  exact (Array.getElem?_eq_some_iff.1 h4).1
theorem MapRng.ne (h : MapRng w b r l left) : r ≠ b := by
  obtain ⟨es, clock, since, seen, c0, h1, h2, h3, h4, -⟩ := h.out
  intro e
  rw [e, h1] at h4
  cases h4
theorem MapRng.keep (h : MapRng w b r l left) (hb : w'.heap[b]? = w.heap[b]?) (hr : w'.heap[r]? = w.heap[r]?) : MapRng w' b r l left := by
  obtain ⟨es, clock, since, seen, c0, h1, h2, h3, h4, h5⟩ := h.out
  exact ⟨es, clock, since, seen, c0, hb.trans h1, h2, h3, hr.trans h4, h5⟩
theorem MapRng.perm {left' : List (Value × Value)} (h : MapRng w b r l left) (hp : left.Perm left') : MapRng w b r l left' := by
  obtain ⟨es, clock, since, seen, c0, h1, h2, h3, h4, h5, h6, h7, h8⟩ := h.out
  exact ⟨es, clock, since, seen, c0, h1, h2, h3, h4, h5, h6, h7, h8.trans hp⟩
/-- 'range m'. -/
theorem MapIs.range (h : MapIs w b l) (ht : P.underlying t = some (.map k e)) :
    ∃ w', (Instr.range t (.map (some b))).run P w = .ok (.pointer (some ⟨w.heap.size, 0, none⟩)) w' ∧ MapRng w' b w.heap.size l l ∧ Below w.heap.size w w' ∧ w'.heap.size = w.heap.size + 1 := by
  have hlt := h.lt
  obtain ⟨es, clock, hb, h2, h3⟩ := h.out
  refine ⟨_, run_range_map w t k e b es clock ht hb, ⟨es, clock, clock, #[], clock, ((MapKept.heap_alloc w _).2 b hlt).trans hb, h2, h3, (MapKept.heap_alloc w _).1, h2.1, Nat.le_refl _, Nat.le_refl _, ?_⟩, (Below.refl _ w).alloc (Nat.le_refl _) _, by simp⟩
  have e1 : leftOf es #[] = es := by simp [leftOf]
  rw [e1]
  exact h3
/-- The step: nothing is left; or one entry that is left. -/
theorem MapRng.next (h : MapRng w b r l left) (ty : TypeId) :
    (left = [] ∧ (Instr.next (.pointer (some ⟨r, 0, none⟩)) false ty).run P w = .ok (.tuple #[.bool false]) w) ∨
    ∃ key v left' w', left.Perm ((key, v) :: left') ∧ (Instr.next (.pointer (some ⟨r, 0, none⟩)) false ty).run P w = .ok (.tuple #[.bool true, key, v]) w' ∧
      MapRng w' b r l left' ∧ w.grownBy w' (some r) ∧ w'.heap.size = w.heap.size ∧ (Instr.entry (.pointer (some ⟨r, 0, none⟩))).run P w' = .ok (.tuple #[key, v]) w' := by
  have hne := h.ne
  obtain ⟨es, clock, since, seen, c0, hb, h2, h3, hr, hold, hsc, hsk, hl⟩ := h.out
  rcases run_next_at (P := P) w ty r b since c0 seen es clock hr hb hold hsc with ⟨h0, hrun⟩ | ⟨e, he, w1, hal, hrun⟩
  · refine .inl ⟨?_, hrun⟩
    have : leftOf es seen = #[] := Array.eq_empty_of_size_eq_zero h0
    rw [this] at hl
    simpa using hl.symm.eq_nil
  · obtain ⟨hem, hes⟩ := mem_left he
    have hr1 : w1.heap[r]? = some (.mapIter (some b) since seen c0) := by rcases hal with rfl | rfl <;> exact hr
    have hb1 : w1.heap[b]? = some (.map es clock) := by rcases hal with rfl | rfl <;> exact hb
    have hset := heap_set (o' := .mapIter (some b) since (seen.push e.born) clock) hr1
    have hb' : (setBlock w1 r (.mapIter (some b) since (seen.push e.born) clock)).heap[b]? = some (.map es clock) := (hset.2 b (fun e1 => hne e1.symm)).trans hb1
    refine .inr ⟨e.key, e.val, ((leftOf es (seen.push e.born)).toList.map kvOf), _, ?_, hrun, ⟨es, clock, since, seen.push e.born, clock, hb', h2, h3, hset.1, hold, hsk, hsk, List.Perm.refl _⟩, ?_, ?_,
      run_entry_at _ r b since seen es clock e hset.1 hb' hem h2.2.1⟩
    · refine hl.symm.trans ?_
      have e1 : (e.key, e.val) = kvOf e := rfl
      rw [e1, ← List.map_cons]
      refine List.Perm.map _ ?_
      have hnd : es.toList.Nodup := (List.Pairwise.of_map _ (fun _ _ hne e1 => hne (by rw [e1])) h2.2.1 : es.toList.Pairwise (· ≠ ·))
      have hf : ∀ s : Array Nat, (leftOf es s).toList = es.toList.filter fun e => !s.contains e.born := fun s => by unfold leftOf; rw [Array.toList_filter]
      rw [hf, hf]
      have hlf : (es.toList.filter fun e => !(seen.push e.born).contains e.born) = es.toList.filter fun e => !(seen.push e.born).contains e.born := rfl
      refine (List.perm_ext_iff_of_nodup (hnd.filter _) (List.nodup_cons.2 ⟨fun hm => ?_, hnd.filter _⟩)).2 fun x => ?_
      · have := (List.mem_filter.1 hm).2
        rw [contains_push] at this
        simp at this
      · simp only [List.mem_filter, List.mem_cons, contains_push]
        constructor
        · rintro ⟨hx1, hx2⟩
          by_cases e2 : x = e
          · exact .inl e2
          · refine .inr ⟨hx1, ?_⟩
            have : (x.born == e.born) = false := by
              cases hc : x.born == e.born with
              | false => rfl
              | true => exact absurd (born_inj h2.2.1 hx1 hem (beq_iff_eq.1 hc)) e2
            rw [this, Bool.or_false]
            exact hx2
        · rintro (rfl | ⟨hx1, hx2⟩)
          · exact ⟨hem, by rw [hes]; rfl⟩
          · refine ⟨hx1, ?_⟩
            cases hc : seen.contains x.born with
            | false => rfl
            | true => rw [hc] at hx2; simp at hx2
    · rcases hal with rfl | rfl <;> exact ⟨rfl, rfl, rfl, by simp [setBlock], fun i _ hi => hset.2 i (fun e1 => hi (by rw [e1]))⟩
    · rcases hal with rfl | rfl <;> simp [setBlock]
theorem MapRng.left_of (h : MapRng w b r l left) : ∀ p ∈ left, p ∈ l := by
  obtain ⟨es, clock, since, seen, c0, hb, h2, h3, hr, hold, hsc, hsk, hl⟩ := h.out
  intro p hp
  obtain ⟨x, hx, rfl⟩ := List.mem_map.1 (hl.mem_iff.2 hp)
  exact h3.mem_iff.1 (List.mem_map_of_mem (f := kvOf) (mem_left hx).1)
theorem MapRng.left_keys (h : MapRng w b r l left) : left.Pairwise (fun p q => p.1 ≠ q.1) := by
  obtain ⟨es, clock, since, seen, c0, hb, h2, h3, hr, hold, hsc, hsk, hl⟩ := h.out
  refine (hl.pairwise_iff (fun {_ _} hne => Ne.symm hne)).1 ?_
  have hs : ((leftOf es seen).toList.map kvOf).Sublist (es.toList.map kvOf) := by
    unfold leftOf
    rw [Array.toList_filter]
    exact List.filter_sublist.map _
  exact (kv_pairwise h2).sublist hs
end
end Go.Proofs.YteidkmiladkoiaaDoor
