/-
  Clone's twins of files, walked.
-/
import Derived.Test.YteidkmiladkoiaaDoorSmCrash
namespace Go.Proofs.YteidkmiladkoiaaDoor
open Go.RowKit

set_option maxRecDepth 100000 in
set_option maxHeartbeats 400000 in
theorem slicesClone_any (A : Option Addr) (n c : Nat) (l : List UInt8) (hn : l.length = n) (w : World) (h : Sees w w.heap.size A (bv l)) (hlen : l.length ≤ 1099511627776) :
    Calls Tryd.prog 27 #[.slice A n c] w (RetB w w.heap.size (.slice none 0 0) l) := by
  subst hn
  have he := fun (W : World) (a : Option Addr) (n c : Nat) => Lib.run_eql_slice_nil (P := Tryd.prog) W 28 5 a n c 0 0 Tryd.underlying28
  cases A with
  | none =>
    have hn : l = [] := by
      rcases h.out with h | ⟨ad, h, _⟩
      · simpa [bv] using h
      · cases h
    subst hn
    go_enter Tryd.func27, Tryd.ntmps27
    go_wp2
    go_ret
    exact ⟨_, rfl, OwnB.nil _ _, Onto.refl _ _⟩
  | some ad =>
    go_enter Tryd.func27, Tryd.ntmps27
    go_wp2_with (at_builtin; refine wpList_append_b rfl (.tmp 5) (.tmp 6) rfl w.heap.size (.slice (some ⟨w.heap.size, 0, none⟩) 0 0) [] (by rfl) (OwnB.new _ _ (Nat.le_refl _) [] 0 rfl _ rfl (by simp [maxLen])) w.heap.size (some ad) l.length c l (by rfl) rfl (h.alloc (Nat.le_refl _) _) (by simp; omega) (by simp) ?_; intro v1 w1 hown1 hon1)
    go_ret
    exact ⟨v1, rfl, hown1, (Onto.new _ _ _ _ _).trans hon1⟩

/-- The twins that are there. -/
def twV (F G : Nat → Nat) (D : List Nat) : List (Value × Value) := (.pointer none, .pointer none) :: D.map fun n => (ptr (F n), ptr (G n))
structure TwAt (c F : Nat → Nat) (S : FsM) (c2 G : Nat → Nat) (D : List Nat) (w : World) (B3 bt : Nat) : Prop where
  box : Box1 w B3 62 (.map (some bt))
  map : MapIs w bt (twV F G D)
  nd : D.Nodup
  file : ∀ n ∈ D, S.reach n ∧ FileAt c2 w n (G n) (S.file n)
  ne : bt ≠ B3
  off : c B3 = 0 ∧ c bt = 0 ∧ c2 B3 = 0 ∧ c2 bt = 0
  lt : ∀ k, c2 k ≠ 0 → k < w.heap.size
/-- What is behind a call of twin. -/
structure TwStep (c F : Nat → Nat) (S : FsM) (c2 G : Nat → Nat) (D : List Nat) (w : World) (B3 bt : Nat) (o : Option Nat) (c2' G' : Nat → Nat) (D' : List Nat) (w' : World) : Prop where
  at_ : TwAt c F S c2' G' D' w' B3 bt
  has : ∀ n, o = some n → n ∈ D'
  old : ∀ n ∈ D, n ∈ D' ∧ G' n = G n
  col : ∀ k, c2 k ≠ 0 → c2' k = c2 k
  new : ∀ k, c2' k ≠ 0 → c2 k ≠ 0 ∨ (w.heap.size ≤ k ∧ k < w'.heap.size)
  turn : Turn (fun k => k = bt) w w'
def TwinIs (c F : Nat → Nat) (S : FsM) (c2 G : Nat → Nat) (D : List Nat) (w : World) (B3 bt : Nat) (o : Option Nat) (e : Ending) (w' : World) : Prop :=
  ∃ c2' G' D', e = .returned (optV G' o) ∧ TwStep c F S c2 G D w B3 bt o c2' G' D' w'

section
variable {c F c2 G : Nat → Nat} {S : FsM} {D : List Nat} {w : World} {f B3 bt n : Nat}
theorem tw_ok (h : FsAt c F w f S) (ht : TwAt c F S c2 G D w B3 bt) : ∀ p ∈ twV F G D, okPtr w p.1 := fun p hp => by
  rcases List.mem_cons.1 hp with rfl | hp
  · exact .inl rfl
  · obtain ⟨n, hn, rfl⟩ := List.mem_map.1 hp
    exact (h.files n (ht.file n hn).1).okPtr
theorem tw_keys (h : FsAt c F w f S) (hD : D.Nodup) (hr : ∀ n ∈ D, S.reach n) : (twV F G D).Pairwise fun p q => p.1 ≠ q.1 := by
  refine List.pairwise_cons.2 ⟨fun q hq => ?_, ?_⟩
  · obtain ⟨n, -, rfl⟩ := List.mem_map.1 hq
    simp [ptr]
  · rw [List.pairwise_map]
    exact List.Pairwise.imp_of_mem (fun {a b} ha hb hne => fun e => hne (h.inj (hr a ha) (hr b hb) (ptr_inj e))) hD
theorem tw_in (h : FsAt c F w f S) (ht : TwAt c F S c2 G D w B3 bt) (o : Option Nat) (ho : ∀ n, o = some n → n ∈ D) (b : Bool) :
    (Instr.lookup 62 (.map (some bt)) (optV F o) b).run Tryd.prog w = .ok (if b then .tuple #[optV G o, .bool true] else optV G o) w := by
  refine ht.map.look (law_ptr w) Tryd.underlying62 (tw_ok h ht) (x := optV F o) (v := optV G o) ?_ b
  cases o with
  | none => exact List.mem_cons_self
  | some n => exact List.mem_cons_of_mem _ (List.mem_map.2 ⟨n, ho n rfl, rfl⟩)
theorem tw_out (h : FsAt c F w f S) (ht : TwAt c F S c2 G D w B3 bt) (hr : S.reach n) (hn : n ∉ D) :
    (Instr.lookup 62 (.map (some bt)) (.pointer (some ⟨F n, 0, none⟩)) true).run Tryd.prog w = .ok (.tuple #[.pointer none, .bool false]) w := by
  refine ht.map.look_out (law_ptr w) Tryd.underlying62 (tw_ok h ht) (x := ptr (F n)) (zero_ptr w) (h.files n hr).okPtr (fun p hp => ?_) true
  rcases List.mem_cons.1 hp with rfl | hp
  · simp [ptr]
  · obtain ⟨m, hm, rfl⟩ := List.mem_map.1 hp
    exact fun e => hn (by rw [← h.inj (ht.file m hm).1 hr (ptr_inj e)]; exact hm)
/-- One more twin. -/
theorem tw_put {w1 w2 w3 : World} (h : FsAt c F w f S) (ht : TwAt c F S c2 G D w B3 bt) (hr : S.reach n) (hn : n ∉ D) {v : Value} (hown : OwnB w1 w.heap.size v (S.file n).b) (hb1 : Below w.heap.size w w1)
    (hw2 : w2 = w1.alloc (.cells #[v, .int .i64 ((S.file n).stays : Int)] 54)) (hm : MapIs w3 bt (twV F (upd G n w1.heap.size) (n :: D))) (ht3 : Turn (fun k => k = bt) w2 w3) :
    TwStep c F S c2 G D w B3 bt (some n) (upd (updO c2 v.ownBlock (2 * n + 7)) w1.heap.size (2 * n + 6)) (upd G n w1.heap.size) (n :: D) w3 := by
  have hs1 := hb1.size
  have hs3 := ht3.size
  have hz2 : w2.heap.size = w1.heap.size + 1 := by rw [hw2]; simp
  have hb2 : Below w.heap.size w w2 := by rw [hw2]; exact hb1.alloc hs1 _
  have hbt := ht.map.lt
  have hB3 := ht.box.lt
  have hvl := World.ownsRow.lt hown
  have hcol : ∀ k, k < w.heap.size → upd (updO c2 v.ownBlock (2 * n + 7)) w1.heap.size (2 * n + 6) k = c2 k := fun k hk => by
    rw [upd_ne _ _ (by omega), updO_ne (fun e => by have := (hvl k e).1; omega)]
  have htt : Turn (fun k => k = bt) w w3 := (Turn.of_new hb2).trans ht3
  have hne : ∀ m ∈ D, upd G n w1.heap.size m = G m := fun m hm => upd_ne G _ (fun e => hn (e ▸ hm))
  refine ⟨⟨⟨?_⟩, hm, List.nodup_cons.2 ⟨hn, ht.nd⟩, fun m hm => ?_, ht.ne, ⟨ht.off.1, ht.off.2.1, (hcol _ hB3).trans ht.off.2.2.1, (hcol _ hbt).trans ht.off.2.2.2⟩, fun k hk => ?_⟩, fun m e => by injection e with e; rw [e]; exact List.mem_cons_self, fun m hm => ⟨List.mem_cons_of_mem _ hm, hne m hm⟩, fun k hk => hcol k (ht.lt k hk), fun k hk => ?_, htt⟩
  · exact (htt.block B3 hB3 (fun e => ht.ne e.symm)).trans ht.box.out
  · rcases List.mem_cons.1 hm with rfl | hm
    · refine ⟨hr, ⟨v, ?_, ?_, fun k e => ?_⟩, ?_⟩
      · rw [upd_same]
        have := Blk.new w1 #[v, .int .i64 ((S.file m).stays : Int)] 54
        rw [← hw2] at this
        exact this.keep (ht3.block _ (by omega) (by omega))
      · have h1 : OwnB w1 0 v (S.file m).b := OwnB.base_le hown (Nat.zero_le _)
        have h2 : OwnB w2 0 v (S.file m).b := by rw [hw2]; exact OwnB.alloc h1 _
        exact ownsRow_kept h2 fun k e => ht3.block k (by have := (hvl k e).2; omega) (by have := (hvl k e).1; omega)
      · rw [upd_ne _ _ (by have := (hvl k e).2; omega), updO_same e]
      · rw [upd_same, upd_same]
    · obtain ⟨g1, g2⟩ := ht.file m hm
      rw [hne m hm]
      refine ⟨g1, (g2.keep (Kept.of_turn htt fun k e => ⟨ht.lt k (by omega), fun e2 => ?_⟩)).recol fun k e => hcol k (ht.lt k (by omega))⟩
      have := ht.off.2.2.2
      rw [e2] at e
      omega
  · by_cases e : k = w1.heap.size
    · omega
    · rw [upd_ne _ _ e] at hk
      by_cases e2 : v.ownBlock = some k
      · have := (hvl k e2).2; omega
      · rw [updO_ne e2] at hk
        have := ht.lt k hk; omega
  · by_cases e : k = w1.heap.size
    · exact .inr (by omega)
    · rw [upd_ne _ _ e] at hk
      by_cases e2 : v.ownBlock = some k
      · exact .inr (by have := hvl k e2; omega)
      · rw [updO_ne e2] at hk
        exact .inl hk
theorem tw_store (h : FsAt c F w f S) (hD : D.Nodup) (hDr : ∀ m ∈ D, S.reach m) (hm : MapIs w bt (twV F G D)) (hr : S.reach n) (hn : n ∉ D) (q : Nat) :
    ∃ w', (Instr.mapUpdate 62 (.map (some bt)) (.pointer (some ⟨F n, 0, none⟩)) (.pointer (some ⟨q, 0, none⟩))).run Tryd.prog w = .ok () w' ∧ MapIs w' bt (twV F (upd G n q) (n :: D)) ∧ Turn (fun k => k = bt) w w' := by
  have hne : ∀ m ∈ D, upd G n q m = G m := fun m hm => upd_ne G _ (fun e => hn (e ▸ hm))
  have hfn : ∀ m ∈ D, ptr (F m) ≠ ptr (F n) := fun m hm e => hn (by rw [← h.inj (hDr m hm) hr (ptr_inj e)]; exact hm)
  have hok : ∀ p ∈ twV F G D, okPtr w p.1 := fun p hp => by
    rcases List.mem_cons.1 hp with rfl | hp
    · exact .inl rfl
    · obtain ⟨m, hm, rfl⟩ := List.mem_map.1 hp
      exact (h.files m (hDr m hm)).okPtr
  obtain ⟨w', g1, g2, g3, -⟩ := hm.store (law_ptr w) Tryd.underlying62 hok (x := ptr (F n)) (v := ptr q) (h.files n hr).okPtr
    (tw_keys (G := upd G n q) h (List.nodup_cons.2 ⟨hn, hD⟩) (fun m hm => by rcases List.mem_cons.1 hm with rfl | hm; exact hr; exact hDr m hm)) (fun p => by
      unfold twV
      rw [List.map_cons, upd_same, List.mem_cons, List.mem_cons, List.mem_cons]
      constructor
      · rintro (rfl | rfl | hp)
        · exact .inr ⟨.inl rfl, by simp [ptr]⟩
        · exact .inl rfl
        · obtain ⟨m, hm, rfl⟩ := List.mem_map.1 hp
          exact .inr ⟨.inr (List.mem_map.2 ⟨m, hm, by rw [hne m hm]⟩), hfn m hm⟩
      · rintro (rfl | ⟨rfl | hp, hne2⟩)
        · exact .inr (.inl rfl)
        · exact .inl rfl
        · obtain ⟨m, hm, rfl⟩ := List.mem_map.1 hp
          exact .inr (.inr (List.mem_map.2 ⟨m, hm, by rw [hne m hm]⟩)))
  exact ⟨w', g1, g2, .of_grown g3 fun k e => (Option.some.inj e).symm⟩
theorem TwStep.refl (ht : TwAt c F S c2 G D w B3 bt) (o : Option Nat) (ho : ∀ n, o = some n → n ∈ D) : TwStep c F S c2 G D w B3 bt o c2 G D w := ⟨ht, ho, fun n hn => ⟨hn, rfl⟩, fun _ _ => rfl, fun _ hk => .inl hk, Turn.refl _ _⟩
theorem TwAt.keep {w' : World} (ht : TwAt c F S c2 G D w B3 bt) (hk : Kept (fun k => 6 ≤ c2 k ∨ k = B3 ∨ k = bt) w w') (hs : w.heap.size ≤ w'.heap.size) : TwAt c F S c2 G D w' B3 bt :=
  ⟨⟨(hk B3 (.inr (.inl rfl))).trans ht.box.out⟩, ht.map.keep (hk bt (.inr (.inr rfl))), ht.nd, fun n hn => ⟨(ht.file n hn).1, (ht.file n hn).2.keep (hk.mono fun k e => .inl (by omega))⟩, ht.ne, ht.off, fun k e => Nat.lt_of_lt_of_le (ht.lt k e) hs⟩
end

set_option maxRecDepth 100000 in
set_option maxHeartbeats 1600000 in
theorem twin_any {N : Nat} {c F c2 G : Nat → Nat} {S : FsM} {D : List Nat} {w : World} {f B3 bt : Nat} (h : FsAt c F w f S) (hO : FsOk N S) (ht : TwAt c F S c2 G D w B3 bt) (o : Option Nat) (ho : ∀ n, o = some n → S.reach n) :
    Calls Tryd.prog 26 #[optV F o, .pointer (some ⟨B3, 0, none⟩)] w (TwinIs c F S c2 G D w B3 bt o) := by
  have hbox := ht.box.cell
  by_cases hin : ∀ n, o = some n → n ∈ D
  · have hl1 := tw_in h ht o hin true
    have hl0 := tw_in h ht o hin false
    have HP := Lib.hid (TwStep.refl ht o hin)
    clear h hO ht
    cases o with
    | none =>
      simp only [optV] at hl1 hl0 ⊢
      go_enter Tryd.func26, Tryd.ntmps26
      go_wp2
      go_ret
      exact ⟨c2, G, D, rfl, HP.out⟩
    | some n =>
      simp only [optV, ptr] at hl1 hl0 ⊢
      go_enter Tryd.func26, Tryd.ntmps26
      go_wp2
      go_ret
      exact ⟨c2, G, D, rfl, HP.out⟩
  · cases o with
    | none => exact absurd (fun n e => by cases e) hin
    | some n =>
      have hr := ho n rfl
      have hnD : n ∉ D := fun e => hin fun m em => by injection em with em; rw [← em]; exact e
      have hl1 := tw_out h ht hr hnD
      obtain ⟨A, cap, p0, p1, -, -, -, hS, -, -, -⟩ := (h.files n hr).open_
      have hlm := (hO.fileOk n).2
      have hFl : F n < w.heap.size := (h.files n hr).lt
      have hBl := ht.box.lt
      obtain ⟨len, hlen⟩ : ∃ len, (S.file n).b.length = len := ⟨_, rfl⟩
      obtain ⟨st, hst⟩ : ∃ st, (S.file n).stays = st := ⟨_, rfl⟩
      have hcl := Lib.hid (slicesClone_any A len cap (S.file n).b hlen w.drew hS.drew (by omega))
      rw [hlen] at p0
      rw [hst] at p1
      have HST := Lib.hid hst
      have HX := Lib.hid (And.intro h (And.intro ht (And.intro hr hnD)))
      simp only [optV, ptr]
      clear h hO ht hr hnD hS hlm hlen hst ho hin
      go_enter Tryd.func26, Tryd.ntmps26
      go_wp2_with fail
      refine wp_region_noPanic ?_
      refine wp_region_held_drew (S := fun w' => w'.cell? ⟨B3, 0, none⟩ = some (.map (some bt)) ∧ w'.cell? ⟨F n, 0, none⟩ = some (.slice A len cap) ∧ w'.cell? ⟨F n, 1, none⟩ = some (.int .i64 (st : Int))) (by kernel_rfl) ?_ (fun hHeld => ?_)
      · (exact ⟨hbox, p0, p1⟩)
      refine wpAnyH_take (i := 0) (oi := { dst := some 14, op := Op.load 62 (Operand.tmp 1), type := 62, pos := "simfs.go:290", after := #[], guard := none }) (v := ?_) rfl (by kernel_rfl) (by kernel_rfl) (by kernel_rfl) (fun _ _ _ h => h) (Or.inl ⟨by rfl, ?_⟩) hHeld ?_
      rotate_left
      · (intro w' hSw; (try dsimp only at hSw); go_split_ands; go_simp; first | done | with_reducible rfl)
      try simp only [Act.put, List.setIfInBounds_toArray, List.set_cons_zero, List.set_cons_succ]
      refine wpAnyH_take (i := 1) (oi := { dst := some 15, op := Op.move (Operand.tmp 0), type := 48, pos := "simfs.go:290", after := #[], guard := none }) (v := ?_) rfl (by kernel_rfl) (by kernel_rfl) (by kernel_rfl) (fun _ _ _ h => h) (Or.inl ⟨by rfl, ?_⟩) hHeld ?_
      rotate_left
      · (intro w' hSw; (try dsimp only at hSw); go_split_ands; go_simp; first | done | with_reducible rfl)
      try simp only [Act.put, List.setIfInBounds_toArray, List.set_cons_zero, List.set_cons_succ]
      refine wpAnyH_take (i := 2) (oi := { dst := some 16, op := Op.move (Operand.tmp 0), type := 48, pos := "simfs.go:290", after := #[], guard := none }) (v := ?_) rfl (by kernel_rfl) (by kernel_rfl) (by kernel_rfl) (fun _ _ _ h => h) (Or.inl ⟨by rfl, ?_⟩) hHeld ?_
      rotate_left
      · (intro w' hSw; (try dsimp only at hSw); go_split_ands; go_simp; first | done | with_reducible rfl)
      try simp only [Act.put, List.setIfInBounds_toArray, List.set_cons_zero, List.set_cons_succ]
      refine wpAnyH_take (i := 3) (oi := { dst := some 17, op := Op.nilCheck (Operand.tmp 16), type := 0, pos := "simfs.go:290", after := #[{ on := 2, ground := Ground.data }], guard := none }) (v := ?_) rfl (by kernel_rfl) (by kernel_rfl) (by kernel_rfl) (fun _ _ _ h => h) (Or.inl ⟨by rfl, ?_⟩) hHeld ?_
      rotate_left
      · (intro w' hSw; (try dsimp only at hSw); go_split_ands; go_simp; first | done | with_reducible rfl)
      try simp only [Act.put, List.setIfInBounds_toArray, List.set_cons_zero, List.set_cons_succ]
      refine wpAnyH_take (i := 4) (oi := { dst := some 18, op := Op.fieldAddr 54 (Operand.tmp 17) 0, type := 0, pos := "simfs.go:290", after := #[{ on := 3, ground := Ground.data }], guard := none }) (v := ?_) rfl (by kernel_rfl) (by kernel_rfl) (by kernel_rfl) (fun _ _ _ h => h) (Or.inl ⟨by rfl, ?_⟩) hHeld ?_
      rotate_left
      · (intro w' hSw; (try dsimp only at hSw); go_split_ands; go_simp; first | done | with_reducible rfl)
      try simp only [Act.put, List.setIfInBounds_toArray, List.set_cons_zero, List.set_cons_succ]
      refine wpAnyH_take (i := 5) (oi := { dst := some 19, op := Op.load 28 (Operand.tmp 18), type := 28, pos := "simfs.go:290", after := #[{ on := 4, ground := Ground.data }], guard := none }) (v := ?_) rfl (by kernel_rfl) (by kernel_rfl) (by kernel_rfl) (fun _ _ _ h => h) (Or.inl ⟨by rfl, ?_⟩) hHeld ?_
      rotate_left
      · (intro w' hSw; (try dsimp only at hSw); go_split_ands; go_simp; first | done | with_reducible rfl)
      try simp only [Act.put, List.setIfInBounds_toArray, List.set_cons_zero, List.set_cons_succ]
      refine wpAnyH_take (i := 7) (oi := { dst := some 21, op := Op.move (Operand.tmp 0), type := 48, pos := "simfs.go:290", after := #[], guard := none }) (v := ?_) rfl (by kernel_rfl) (by kernel_rfl) (by kernel_rfl) (fun _ _ _ h => h) (Or.inl ⟨by rfl, ?_⟩) hHeld ?_
      rotate_left
      · (intro w' hSw; (try dsimp only at hSw); go_split_ands; go_simp; first | done | with_reducible rfl)
      try simp only [Act.put, List.setIfInBounds_toArray, List.set_cons_zero, List.set_cons_succ]
      refine wpAnyH_take (i := 8) (oi := { dst := some 22, op := Op.nilCheck (Operand.tmp 21), type := 0, pos := "simfs.go:290", after := #[{ on := 7, ground := Ground.data }], guard := none }) (v := ?_) rfl (by kernel_rfl) (by kernel_rfl) (by kernel_rfl) (fun _ _ _ h => h) (Or.inl ⟨by rfl, ?_⟩) hHeld ?_
      rotate_left
      · (intro w' hSw; (try dsimp only at hSw); go_split_ands; go_simp; first | done | with_reducible rfl)
      try simp only [Act.put, List.setIfInBounds_toArray, List.set_cons_zero, List.set_cons_succ]
      refine wpAnyH_take (i := 9) (oi := { dst := some 23, op := Op.fieldAddr 54 (Operand.tmp 22) 1, type := 0, pos := "simfs.go:290", after := #[{ on := 8, ground := Ground.data }], guard := none }) (v := ?_) rfl (by kernel_rfl) (by kernel_rfl) (by kernel_rfl) (fun _ _ _ h => h) (Or.inl ⟨by rfl, ?_⟩) hHeld ?_
      rotate_left
      · (intro w' hSw; (try dsimp only at hSw); go_split_ands; go_simp; first | done | with_reducible rfl)
      try simp only [Act.put, List.setIfInBounds_toArray, List.set_cons_zero, List.set_cons_succ]
      refine wpAnyH_take (i := 10) (oi := { dst := some 24, op := Op.load 3 (Operand.tmp 23), type := 3, pos := "simfs.go:290", after := #[{ on := 9, ground := Ground.data }], guard := none }) (v := ?_) rfl (by kernel_rfl) (by kernel_rfl) (by kernel_rfl) (fun _ _ _ h => h) (Or.inl ⟨by rfl, ?_⟩) hHeld ?_
      rotate_left
      · (intro w' hSw; (try dsimp only at hSw); go_split_ands; go_simp; first | done | with_reducible rfl)
      try simp only [Act.put, List.setIfInBounds_toArray, List.set_cons_zero, List.set_cons_succ]
      refine wpAnyH_ready (rs := [6]) (by kernel_rfl) (by simp) ?_
      refine AllReadyH.cons (o := { dst := some 20, op := Op.call { callee := Callee.value (Operand.func 27), args := #[Operand.tmp 19], argTypes := #[28] }, type := 28, pos := "simfs.go:290", after := #[{ on := 5, ground := Ground.data }], guard := none }) rfl (fun K hK => ?_) AllReadyH.nil
      go_simp
      refine hcl.out.mono ?_
      rintro e w1 ⟨v, rfl, hown, hon⟩
      have hb1 : Below w.heap.size w w1 := below_undrew hon.below_nil
      have q1 := (hb1.cell (p := ⟨B3, 0, none⟩) hBl).trans hbox
      have q2 := (hb1.cell (p := ⟨F n, 0, none⟩) hFl).trans p0
      have q3 := (hb1.cell (p := ⟨F n, 1, none⟩) hFl).trans p1
      obtain ⟨Av, cv, hv, -, -⟩ := row_open hown
      subst hv
      go_wp2_with fail
      refine hK.out _ _ ?_ ?_
      · (exact ⟨q1, q2, q3⟩)
      clear hK K hHeld; intro hHeld
      try simp only [Act.put, List.setIfInBounds_toArray, List.set_cons_zero, List.set_cons_succ]
      refine wpAnyH_take (i := 11) (oi := { dst := some 25, op := Op.build 54 #[(0, Operand.tmp 20), (1, Operand.tmp 24)], type := 54, pos := "simfs.go:290", after := #[{ on := 6, ground := Ground.data }, { on := 10, ground := Ground.data }], guard := none }) (v := ?_) rfl (by kernel_rfl) (by kernel_rfl) (by kernel_rfl) (fun _ _ _ h => h) (Or.inl ⟨by rfl, ?_⟩) hHeld ?_
      rotate_left
      · (intro w' hSw; (try dsimp only at hSw); go_split_ands; go_simp; first | done | with_reducible rfl)
      try simp only [Act.put, List.setIfInBounds_toArray, List.set_cons_zero, List.set_cons_succ]
      refine wpAnyH_ready (rs := [12]) (by kernel_rfl) (by simp) ?_
      refine AllReadyH.cons (o := { dst := some 26, op := Op.box 54 (Operand.tmp 25), type := 48, pos := "simfs.go:290", after := #[{ on := 11, ground := Ground.data }], guard := none }) rfl (fun K hK => ?_) AllReadyH.nil
      go_simp
      have hb2 : Below w1.heap.size w1 (w1.alloc (.cells #[.slice Av (S.file n).b.length cv, .int .i64 (st : Int)] 54)) := (Below.refl _ w1).alloc (Nat.le_refl _) _
      obtain ⟨w2, hw2⟩ : ∃ w2, w1.alloc (.cells #[.slice Av (S.file n).b.length cv, .int .i64 (st : Int)] 54) = w2 := ⟨_, rfl⟩
      rw [hw2] at hb2 ⊢
      have s1 := (hb2.cell (p := ⟨B3, 0, none⟩) (Nat.lt_of_lt_of_le hBl hb1.size)).trans q1
      have s2 := (hb2.cell (p := ⟨F n, 0, none⟩) (Nat.lt_of_lt_of_le hFl hb1.size)).trans q2
      have s3 := (hb2.cell (p := ⟨F n, 1, none⟩) (Nat.lt_of_lt_of_le hFl hb1.size)).trans q3
      refine hK.out _ _ ?_ ?_
      · (exact ⟨s1, s2, s3⟩)
      clear hK K hHeld; intro hHeld
      try simp only [Act.put, List.setIfInBounds_toArray, List.set_cons_zero, List.set_cons_succ]
      refine wpAnyH_ready (rs := [13]) (by kernel_rfl) (by simp) ?_
      refine AllReadyH.cons (o := { dst := none, op := Op.mapUpdate 62 (Operand.tmp 14) (Operand.tmp 15) (Operand.tmp 26), type := 0, pos := "simfs.go:290", after := #[{ on := 0, ground := Ground.data }, { on := 1, ground := Ground.data }, { on := 12, ground := Ground.data }, { on := 6, ground := Ground.chain }, { on := 0, ground := Ground.phase }, { on := 1, ground := Ground.phase }, { on := 2, ground := Ground.phase }, { on := 3, ground := Ground.phase }, { on := 4, ground := Ground.phase }, { on := 5, ground := Ground.phase }, { on := 6, ground := Ground.phase }, { on := 7, ground := Ground.phase }, { on := 8, ground := Ground.phase }, { on := 9, ground := Ground.phase }, { on := 10, ground := Ground.phase }, { on := 11, ground := Ground.phase }, { on := 12, ground := Ground.phase }], guard := none }) rfl (fun K hK => ?_) AllReadyH.nil
      obtain ⟨h, ht, hr, hnD⟩ := HX.out
      have hbb := hb1.trans (hb2.mono hb1.size)
      obtain ⟨w3, hrun, hm3, ht3⟩ := tw_store (h.below hbb) ht.nd (fun m hm => (ht.file m hm).1) (ht.map.keep (hbb.block bt ht.map.lt)) hr hnD w1.heap.size
      have hkt : ∀ p : Addr, p.block < w.heap.size → p.block ≠ bt → w3.cell? p = w2.cell? p := fun p e1 e2 => ht3.keep (Nat.lt_of_lt_of_le e1 hbb.size) e2
      have t1 := (hkt ⟨B3, 0, none⟩ hBl (fun e => ht.ne e.symm)).trans s1
      have hFb : F n ≠ bt := fun e => by have h1 := (h.files n hr).col; have h2 := ht.off.2.1; rw [e] at h1; omega
      have t2 := (hkt ⟨F n, 0, none⟩ hFl hFb).trans s2
      have t3 := (hkt ⟨F n, 1, none⟩ hFl hFb).trans s3
      have HSTEP := Lib.hid (tw_put h ht hr hnD (hown.base_le (Nat.le_refl _)) hb1 (by rw [HST.out]; exact hw2.symm) hm3 ht3)
      have hAt3 := h.below hbb |>.turn ht3 (fun k e => by rw [e]; exact ht.off.2.1)
      have hlast := Lib.hid (tw_in hAt3 HSTEP.out.at_ (some n) (fun m e => by injection e with e; rw [← e]; exact List.mem_cons_self) false)
      clear hkt hbb hm3 ht3 h ht hr hnD hAt3
      go_simp
      refine hK.out _ _ ?_ ?_
      · (exact ⟨t1, t2, t3⟩)
      clear hK K hHeld; intro hHeld
      try simp only [Act.put, List.setIfInBounds_toArray, List.set_cons_zero, List.set_cons_succ]
      refine wpAnyH_done (by kernel_rfl) ?_ _
      refine NoPanic.normal ?_
      have hl := hlast.out
      simp only [optV, ptr] at hl
      have HB := Lib.hid hlast
      clear hlast
      go_wp2
      go_ret
      exact ⟨_, _, _, rfl, HSTEP.out⟩
end Go.Proofs.YteidkmiladkoiaaDoor
