/-
  A map from strings that is a set of items: a look-up, a store, how many, none left.
-/
import Derived.Test.YtadakaenbemedaaGreatDoorTgSet
import Derived.Maps.OwnSet
import Derived.StringKeys
import Derived.Sort.KeysCollected
namespace Go.Proofs.YtadakaenbemedaaGreatDoor
open Go.RowKit Go.Maps Go.ChangeMaps

/-- How an element of the map reads. -/
def boolEl : Value → Option (DataW Unit × List MemPlace)
  | .bool x => some (.lit (.bool x), [])
  | _ => none
abbrev litB (b : Bool) : DataW Unit := .lit (.bool b)
abbrev strK (l : Item) : Lit := .string l
theorem litB_inj {a b : Bool} (h : litB a = litB b) : a = b := by simpa [litB] using h
/-- Block b is a map that has just the items mem. -/
structure MemAt (w : World) (b : Nat) (mem : List Item) : Prop where
  out : ∃ D, w.ownsMap Tryz.prog 9 boolEl b mem.length D ∧ (∀ l, Maps.has D (strK l) = decide (l ∈ mem)) ∧ (∀ l, l ∈ mem → D.atKey (strK l) (litB false) = litB true) ∧ Maps.size D = mem.length
  nodup : mem.Nodup

theorem law_str : Keyed Tryz.prog 9 := string_keyed Tryz.underlying9
theorem zero_bool (w : World) : (zeroValue 4).run Tryz.prog w = .ok (.bool false) w := by kernel_rfl
theorem key_str {s : ByteArray} (h : s.size ≤ maxLen) : keyOf Tryz.prog 9 (.string s) = some (.string s.data.toList) := WideMaps.keyOf_string_mk Tryz.underlying9 h
theorem boolEl_inv {v : Value} {z : DataW Unit × List MemPlace} (h : boolEl v = some z) : ∃ b, v = .bool b ∧ z = (litB b, []) := by
  unfold boolEl at h
  split at h
  · exact ⟨_, rfl, (Option.some.inj h).symm⟩
  · cases h

section
variable {w w' : World} {b : Nat} {mem : List Item}
theorem MemAt.lt (h : MemAt w b mem) : b < w.heap.size := by obtain ⟨D, h1, -⟩ := h.out; exact h1.lt
theorem MemAt.keep (h : MemAt w b mem) (hk : w'.heap[b]? = w.heap[b]?) : MemAt w' b mem := by
  obtain ⟨D, ⟨es, clock, hb, r⟩, h2⟩ := h.out
  exact ⟨⟨D, ⟨es, clock, hk.trans hb, r⟩, h2⟩, h.nodup⟩
theorem MemAt.drewN (h : MemAt w b mem) (q : Nat) : MemAt (w.drewN q) b mem := h.keep rfl
theorem MemAt.perm {mem' : List Item} (h : MemAt w b mem) (hp : mem.Perm mem') : MemAt w b mem' := by
  obtain ⟨D, h1, h2, h3, h4⟩ := h.out
  refine ⟨⟨D, by rw [← hp.length_eq]; exact h1, fun l => ?_, fun l hl => h3 l (hp.mem_iff.2 hl), by rw [← hp.length_eq]; exact h4⟩, hp.nodup_iff.1 h.nodup⟩
  rw [h2 l, decide_eq_decide]
  exact hp.mem_iff
/-- The map's keys. -/
theorem MemAt.keys (h : MemAt w b mem) : ∃ D, w.ownsMap Tryz.prog 9 boolEl b mem.length D ∧ mem.Perm (strKeys D) ∧ Maps.size D = mem.length := by
  obtain ⟨D, h1, h2, h3, h4⟩ := h.out
  refine ⟨D, h1, ?_, h4⟩
  obtain ⟨es, rfl, hpw, -⟩ := h1.entries law_str
  obtain ⟨es', e, hko⟩ := h1.keysOf
  obtain rfl : es = es' := by simpa using e
  exact perm_strKeys hpw (fun p hp => by
    obtain ⟨v, hv⟩ := hko p hp
    obtain ⟨x, -, hx, -⟩ := Maps.keyOf_str Tryz.underlying9 hv
    exact ⟨x, hx⟩) h.nodup fun x => by rw [h2 x, decide_eq_true_eq]
theorem MemAt.short (h : MemAt w b mem) : ∀ x ∈ mem, x.length ≤ maxLen := fun x hx => by
  obtain ⟨D, h1, h2, -⟩ := h.keys
  exact strKeys_le h1 Tryz.underlying9 x (h2.mem_iff.1 hx)
/-- 'm[k]'. -/
theorem MemAt.look (h : MemAt w b mem) (t : TypeId) (ht : Tryz.prog.underlying t = some (.map 9 4)) {s : ByteArray} (hs : s.size ≤ maxLen) :
    (Instr.lookup t (.map (some b)) (.string s) false).run Tryz.prog w = .ok (.bool (decide (s.data.toList ∈ mem))) w := by
  obtain ⟨D, h1, h2, h3, h4⟩ := h.out
  obtain ⟨v, ps, hrun, hv⟩ := h1.lookup law_str ht (zero_bool w) (zd := litB false) (zp := []) (rfl) (key_str hs)
  obtain ⟨c, rfl, e⟩ := boolEl_inv hv
  have e1 : D.atKey (strK s.data.toList) (litB false) = litB c := congrArg Prod.fst e
  have hc : decide (s.data.toList ∈ mem) = c := by
    by_cases hx : s.data.toList ∈ mem
    · rw [h3 _ hx] at e1
      rw [decide_eq_true hx]
      exact litB_inj e1
    · have h5 := h2 s.data.toList
      rw [decide_eq_false hx] at h5
      rw [Maps.atKey_of_not_has h5] at e1
      rw [decide_eq_false hx]
      exact litB_inj e1
  rw [hc]
  exact hrun
/-- 'len(m)'. -/
theorem MemAt.len (h : MemAt w b mem) (t : TypeId) (ht : Tryz.prog.underlying t = some (.map 9 4)) (ty : TypeId) : (Builtin.len_ #[t] ty #[.map (some b)]).run Tryz.prog w = .ok (.int .i64 mem.length) w := by
  obtain ⟨D, h1, h2, h3, h4⟩ := h.out
  rw [h1.len ht ty, h4]
/-- 'm[k] = true' at a key that isn't there. -/
theorem MemAt.store (h : MemAt w b mem) (t : TypeId) (ht : Tryz.prog.underlying t = some (.map 9 4)) (hn : mem.length < 100000) {s : ByteArray} (hs : s.size ≤ maxLen) (hx : s.data.toList ∉ mem) :
    ∃ w', (Instr.mapUpdate t (.map (some b)) (.string s) (.bool true)).run Tryz.prog w = .ok () w' ∧ MemAt w' b (mem ++ [s.data.toList]) ∧ w.grownBy w' (some b) ∧ w'.heap.size = w.heap.size := by
  obtain ⟨D, h1, h2, h3, h4⟩ := h.out
  obtain ⟨w', hrun, r1, r2⟩ := h1.store law_str ht (by simp only [maxLen]; omega) (key_str hs) ((rfl : boolEl (.bool true) = some (litB true, [])))
  have hkl : WideAt.IsKeyLit (strK s.data.toList) := by trivial
  have h5 := h2 s.data.toList
  rw [decide_eq_false hx] at h5
  have hD := h1.isMap
  refine ⟨w', hrun, ⟨⟨_, by rw [List.length_append]; exact r1, fun l => ?_, fun l hl => ?_, ?_⟩, ?_⟩, r2.grown, ?_⟩
  · by_cases e : l = s.data.toList
    · subst e
      rw [Maps.has_put_same hD hkl, decide_eq_true (by simp)]
    · rw [Maps.has_put_other (by intro e2; injection e2 with e2; exact e e2), h2 l, decide_eq_decide]
      simp [e]
  · by_cases e : l = s.data.toList
    · subst e
      exact Maps.atKey_put_same hD hkl _ _
    · rw [Maps.atKey_put_other (by intro e2; injection e2 with e2; exact e e2)]
      refine h3 l ?_
      rcases List.mem_append.1 hl with hl | hl
      · exact hl
      · exact absurd (List.mem_singleton.1 hl) e
  · rw [Maps.size_put (h1.tidy law_str), h5]
    simp [h4]
  · refine List.nodup_append.2 ⟨h.nodup, by simp, fun a ha c hc => ?_⟩
    rw [List.mem_singleton.1 hc]
    exact fun e => hx (e ▸ ha)
  · obtain ⟨es, clock, es', clock', -, rfl⟩ := r2
    simp [setBlock]
/-- 'clear(m)'. -/
theorem MemAt.clear (h : MemAt w b mem) (t : TypeId) (ht : Tryz.prog.underlying t = some (.map 9 4)) (ty : TypeId) :
    ∃ w', (Builtin.clear_ #[t] ty #[.map (some b)]).run Tryz.prog w = .ok (.tuple #[]) w' ∧ MemAt w' b [] ∧ w.grownBy w' (some b) ∧ w'.heap.size = w.heap.size := by
  obtain ⟨D, ⟨es, clock, hb, F, hs, rfl⟩, -⟩ := h.out
  refine ⟨setBlock w b (.map #[] clock), ?_, ⟨⟨.map [], ⟨#[], clock, heap_setBlock_same hb _, ⟨by simp, ?_, by simp⟩, by simp, rfl⟩, fun l => by simp [Maps.has_eq], by simp, rfl⟩, by simp⟩, ?_, by simp [setBlock]⟩
  · simp [Builtin.clear_, run_underlying ht, MapKept.run_getObj_map hb, MapKept.run_setObj_map _ hb, Result.andThen, setBlock]
  · exact ⟨by simp, by simp⟩
  · exact ⟨rfl, rfl, rfl, by simp [setBlock], fun i _ hi => heap_setBlock_other hb _ (fun e => hi (by rw [e]))⟩
theorem MemAt.clear' (h : MemAt w b mem) (t : TypeId) (ht : Tryz.prog.underlying t = some (.map 9 4)) {n : Nat} (hn : w.heap.size = n) :
    ∃ w', (∀ ty, (Builtin.clear_ #[t] ty #[.map (some b)]).run Tryz.prog w = .ok (.tuple #[]) w') ∧ Hid (MemAt w' b [] ∧ w.grownBy w' (some b) ∧ w'.heap.size = n) := by
  obtain ⟨D, ⟨es, clock, hb, F, hs, rfl⟩, -⟩ := h.out
  have hrun : ∀ ty, (Builtin.clear_ #[t] ty #[.map (some b)]).run Tryz.prog w = .ok (.tuple #[]) (setBlock w b (.map #[] clock)) := fun ty => by
    simp [Builtin.clear_, run_underlying ht, MapKept.run_getObj_map hb, MapKept.run_setObj_map _ hb, Result.andThen, setBlock]
  obtain ⟨w', h1, h2, h3, h4⟩ := h.clear t ht t
  have e : w' = setBlock w b (.map #[] clock) := by
    have := h1.symm.trans (hrun t)
    injection this
  exact ⟨w', fun ty => by rw [e]; exact hrun ty, h2, h3, by rw [h4]; exact hn⟩
theorem MemAt.new (w : World) : MemAt (w.alloc (.map #[] 0)) w.heap.size [] :=
  ⟨⟨.map [], World.ownsMap_made w _ _ _, fun l => by simp [Maps.has_eq], by simp, rfl⟩, by simp⟩
end
end Go.Proofs.YtadakaenbemedaaGreatDoor
