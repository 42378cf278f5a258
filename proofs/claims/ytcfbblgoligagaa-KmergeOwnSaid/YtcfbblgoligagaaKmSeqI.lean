/-
  All things of some rows, rising: the iterator, walked.
-/
import Derived.Test.YtcfbblgoligagaaKmAllI
import Derived.Sort.LoopGhostIn
import Derived.Sort.CutIn
namespace Go.Proofs.Ytcfbblgoligagaa.KI
open Go.RowKit Go.Shelf

attribute [local go_sem] Oper.semAt_some

/-- What is known of a thing that is told. -/
def AllOk (n0 : Nat) (K : List Key) (_ : Nat → Prop) (pre : List El) (x : El) (W : World) : Prop :=
  EOk (fun k => k < n0) W x ∧ (pre.map key ++ [key x]) <+: K ∧ n0 ≤ W.heap.size

theorem rowinfo : (Try.prog.info? 30).map (fun i => (i.zero, i.size, i.bytes)) = some (some (.slice none 0 0), 1, 24) := by kernel_rfl
theorem told_lt {pre : List El} {x : El} {K : List Key} (h : (pre.map key ++ [key x]) <+: K) : pre.length < K.length := by
  have := h.length_le
  rw [List.length_append, List.length_map, List.length_singleton] at this
  omega

set_option maxRecDepth 100000 in
set_option maxHeartbeats 3200000 in
theorem all1_seq {w : World} {ll : List (List El)} {A : Option Addr} {n c : Nat} (n0 : Nat) (hR : RowsIn (fun k => k < n0) w A ll) (hn : ll.length = n) (hn6 : n ≤ 100000) (hl : ∀ r ∈ ll, r.length ≤ 1000000) (B2 B3 : Nat)
    (h2 : w.cell? ⟨B2, 0, none⟩ = some (.slice A n c)) (h3 : w.cell? ⟨B3, 0, none⟩ = some (.func (.func cmpF) #[] #[])) (hB2 : B2 < w.heap.size) (hB3 : B3 < w.heap.size) (hn0 : n0 ≤ w.heap.size) (nf : Nat) :
    SeqT Fence.wide nf Try.prog 49 #[.pointer (some ⟨B3, 0, none⟩), .pointer (some ⟨B2, 0, none⟩)] (fun x : El => #[val x]) (fun k => k < n0 ∨ k = B2 ∨ k = B3) (fun _ => False) (AllOk n0 (sortK lt (ll.flatten.map key))) (fun xs => xs.map key = sortK lt (ll.flatten.map key)) (fun pre => pre.map key <+: sortK lt (ll.flatten.map key)) (sortK lt (ll.flatten.map key)).length w := by
  intro l J Jx W hW hJ hJx hY h0
  have hkR : Kept (fun k => k < n0 ∨ k = B2 ∨ k = B3) w W := Kept.of_below hW (fun k hk => by rcases hk with hk | rfl | rfl <;> omega)
  have hRW := hR.keep (hkR.mono fun k hk => .inl hk)
  have h2W := (hkR.cell (p := ⟨B2, 0, none⟩) (.inr (.inl rfl))).trans h2
  have h3W := (hkR.cell (p := ⟨B3, 0, none⟩) (.inr (.inr rfl))).trans h3
  have hnW : n0 ≤ W.heap.size := Nat.le_trans hn0 hW.size
  have hB2W : B2 < W.heap.size := Nat.lt_of_lt_of_le hB2 hW.size
  have hB3W : B3 < W.heap.size := Nat.lt_of_lt_of_le hB3 hW.size
  obtain ⟨K, hK⟩ : ∃ K, sortK lt (ll.flatten.map key) = K := ⟨_, rfl⟩
  rw [hK] at hY ⊢
  have HK := Lib.hid hK
  have HN := Lib.hid hn
  have HL := Lib.hid hl
  have hst := RowsAt.start W n0 hnW
  have hJ0 := hJ _ _ _ _ h0 (Turn.alloc W (.cells #[.slice none 0 0, .func (.func cmpF) #[] #[]] 80))
  have hk0 : Kept (fun k => k < W.heap.size) W (W.alloc (.cells #[.slice none 0 0, .func (.func cmpF) #[] #[]] 80)) := fun k hk => Below.heap_alloc _ _ _ hk
  have HK0 := Lib.hid hk0
  have hsub : ∀ k, grown (fun _ => False) W (W.alloc (.cells #[.slice none 0 0, .func (.func cmpF) #[] #[]] 80)) k ↔ own W.heap.size (W.alloc (.cells #[.slice none 0 0, .func (.func cmpF) #[] #[]] 80)) k := fun k => by
    unfold grown own
    simp
  have HSUB := Lib.hid hsub
  generalize hgen : grown (fun _ => False) W (W.alloc (.cells #[.slice none 0 0, .func (.func cmpF) #[] #[]] 80)) = s0 at hJ0 HSUB
  clear hR h2 h3 hK hn hl hkR h0 hW hB2 hB3 hn0 hk0 hsub hgen
  obtain ⟨ti, hi, hz0, hz1, hz2⟩ := info_parts rowinfo
  have HI := Lib.hid hi
  have HZ0 := Lib.hid hz0
  have HZ1 := Lib.hid hz1
  have HZ2 := Lib.hid hz2
  clear hi hz0 hz1 hz2
  refine callsIn_of_wp Try.func49 rfl trivial ?_ rfl
  simp only [Try.ntmps49, List.size_toArray, List.length_cons, List.length_nil, Nat.reduceAdd, Nat.reduceSub, Array.replicate_succ, Array.replicate_zero, List.push_toArray, List.append_toArray, List.nil_append, List.cons_append]
  gi_wp2_with fail
  gi_loopg [12] n (fun g i wr => ∃ (k : Nat) (s : Nat → Prop) (L : List (List El)), k + g = n ∧ i = .int .i64 k ∧ J s [] wr ∧ RowsAt (fun k => k < n0) (own W.heap.size wr) wr W.heap.size W.heap.size L ∧ L.length ≤ k ∧ Hid ((∀ r ∈ L, r ≠ [] ∧ Wk lt (r.map key)) ∧ L.flatten.Perm (ll.take k).flatten) ∧ Kept (fun k => k < W.heap.size) W wr ∧ W.heap.size < wr.heap.size ∧ Hid (∀ k, s k ↔ own W.heap.size wr k))
  case atStart => exact ⟨0, s0, [], by omega, rfl, hJ0, hst, Nat.le_refl _, ⟨by simp, by simp⟩, HK0.out, by simp, HSUB.out⟩
  case round =>
    obtain ⟨k, s, L, hk, rfl, hJs, hrows, hLk, hrel, hkept, hsz, hs⟩ := hrel
    clear hJ0 hst HK0 HSUB
    by_cases hlt : k < n
    · have hRr := (hRW.keep (hkept.mono fun k e => Nat.lt_of_lt_of_le e hnW)).mono (m' := fun k => k < wr.heap.size) (fun k e => by omega)
      obtain ⟨ad, Ak, ck, rfl, hadm, hcell, hck, hsee, hxs⟩ := (hRW.keep (hkept.mono fun k e => Nat.lt_of_lt_of_le e hnW)).out k (by have := HN.out; omega)
      have h3r : wr.cell? ⟨B3, 0, none⟩ = some (.func (.func cmpF) #[] #[]) := (hkept.cell (p := ⟨B3, 0, none⟩) hB3W).trans h3W
      have hlen := HL.out _ (List.getElem_mem (by have := HN.out; omega : k < ll.length))
      have htk := List.take_succ_eq_append_getElem (by have := HN.out; omega : k < ll.length)
      obtain ⟨xs, hxs2⟩ : ∃ xs, ll[k]'(by have := HN.out; omega) = xs := ⟨_, rfl⟩
      rw [hxs2] at hcell hck hsee hxs hlen htk
      obtain ⟨lk, hlk⟩ : ∃ lk, xs.length = lk := ⟨_, rfl⟩
      rw [hlk] at hcell hck hlen
      have HTK := Lib.hid htk
      have HLK := Lib.hid hlk
      have HXS := Lib.hid hxs
      clear hRr htk hlk hxs2 hxs
      by_cases hl0 : lk = 0
      · have hz : ¬ (0 : Int) < (lk : Int) := by omega
        have hx0 : Hid (xs = []) := List.eq_nil_of_length_eq_zero (by rw [HLK.out]; exact hl0)
        clear hl0
        gi_wp2_with fail
        gi_roundg (n - (k + 1))
        case measure => omega
        case rel => exact ⟨k + 1, s, L, by omega, by go_num, hJs, hrows, by omega, ⟨hrel.out.1, by rw [HTK.out, hx0.out, List.flatten_append]; simpa using hrel.out.2⟩, hkept, hsz, hs⟩
      · have hpos : (0 : Int) < (lk : Int) := by omega
        have hcl := Lib.hid (Clone_any Ak lk ck xs HLK.out wr (hsee.sees fun k e => by omega) hlen)
        clear hsee
        gi_wp2_with fail
        refine ⟨trivial, fun h => absurd h (by simp [Fence.wide]), (callsIn_wide.2 hcl.out).mono ?_⟩
        rintro e w1 ⟨v1, rfl, hown1, hb1⟩
        rw [HLK.out] at hown1
        have hs1 := hb1.size
        obtain ⟨g1, c1, rfl⟩ : ∃ g1 c1, v1 = .slice (some ⟨g1, 0, none⟩) lk c1 := by
          obtain ⟨g1, c1, e⟩ := ownsRow_succ (k := lk - 1) (by rw [show lk - 1 + 1 = lk from by omega]; exact hown1)
          exact ⟨g1, c1, by rw [e, show lk - 1 + 1 = lk from by omega]⟩
        have hg1 := World.ownsRow.lt hown1 g1 rfl
        have h31 : w1.cell? ⟨B3, 0, none⟩ = some (.func (.func cmpF) #[] #[]) := (hb1.cell (p := ⟨B3, 0, none⟩) (by simp only; omega)).trans h3r
        have hso := Lib.hid (SortFunc_any (fun k => k < n0) wr.heap.size g1 c1 lk xs (fun e => by have := HLK.out; rw [e] at this; simp at this; omega) HLK.out w1 hown1 (fun x hx => (HXS.out x hx).keep (Kept.of_below hb1 fun k e => by omega)) (fun k e => ⟨by omega, by omega⟩) hlen)
        clear hcl h3r
        gi_wp2_with fail
        refine ⟨trivial, fun h => absurd h (by simp [Fence.wide]), (callsIn_wide.2 hso.out).mono ?_⟩
        rintro e w2 ⟨rfl, ls, hperm, hwk, hown2, ht2⟩
        have hs2 := ht2.size
        have htr2 : Turn (fun k => wr.heap.size ≤ k) wr w2 := (Turn.of_new hb1).trans (ht2.mono fun k _ e => by omega)
        obtain ⟨v, vs, r1, r2, r3, r4⟩ := hrows.out
        have hP2 : w2.heap[W.heap.size]? = some (.cells #[v, .func (.func cmpF) #[] #[]] 80 (0, 0)) := (htr2.block _ hsz (by omega)).trans r1
        have hro2 : w2.ownsRow W.heap.size 30 1 v L.length vs := ownsRow_kept r2 fun k e => htr2.block _ (r3 k e).1.2 (by have := (r3 k e).1.2; omega)
        have hvP : v.ownBlock ≠ some W.heap.size := fun e => (r3 _ e).2 rfl
        obtain ⟨Av, cv, rfl⟩ : ∃ Av cv, v = .slice Av L.length cv := by
          rcases r2.2 with ⟨rfl, hn⟩ | ⟨g, cap, cur, rfl, -⟩
          · exact ⟨none, 0, by rw [hn]⟩
          · exact ⟨_, cap, rfl⟩
        have p0 := (cells_of hP2 0).1
        have f0 := (cells_of hP2 0).2
        simp only [List.getElem?_toArray, List.getElem?_cons_zero] at p0
        have hlsl : ls.length = lk := by rw [hperm.length_eq]; exact HLK.out
        have hnew : ∀ (j : Nat) (u : Value), [Value.slice (some ⟨g1, 0, none⟩) lk c1][j]? = some u → (w2.alloc (.cells #[.slice (some ⟨g1, 0, none⟩) lk c1] 30)).cell? ((⟨w2.heap.size, 0, none⟩ : Addr).add j) = some u := fun j u hu => by
          match j, hu with
          | 0, hu => (simp at hu; subst hu; rw [Addr.add_lit, World.cell?_alloc_at _ _ _ _ rfl]; rfl)
        have HNEW := Lib.hid hnew
        have hro3 : (w2.alloc (.cells #[.slice (some ⟨g1, 0, none⟩) lk c1] 30)).ownsRow W.heap.size 30 1 (.slice Av L.length cv) L.length vs := hro2.alloc _
        have hpst : w2.heap.size ≠ W.heap.size := by omega
        have hown2' := Lib.hid hown2
        have htr3 : Turn (fun k => wr.heap.size ≤ k) wr (w2.alloc (.cells #[.slice (some ⟨g1, 0, none⟩) lk c1] 30)) := htr2.trans (Turn.alloc _ _)
        have HLSL := Lib.hid hlsl
        clear hso hown1 hnew hlsl hown2
        gi_wp2_with ((with_reducible refine wpListIn_append_own_at _ (o := { dst := some 31, op := Op.call { callee := Callee.builtin Builtin.append, args := #[Operand.tmp 28, Operand.tmp 30], argTypes := #[29, 29] }, type := 29, pos := "kmerge.go:41", after := #[{ on := 4, ground := Ground.data }, { on := 6, ground := Ground.data }], guard := none }) ?_ (.tmp 28) (.tmp 30) 29 ?_ W.heap.size 30 ti (.slice none 0 0) 1 24 ?_ HI.out HZ0.out HZ1.out HZ2.out ?_ ?_ (.slice Av L.length cv) L.length vs ?_ hro3 ⟨w2.heap.size, 0, none⟩ 1 1 [.slice (some ⟨g1, 0, none⟩) lk c1] ?_ ?_ HNEW.out ?_ ?_ ?_ ?_ ?_); exact rfl; exact rfl; exact Try.underlying29; exact rfl; omega; exact rfl; exact rfl; exact rfl; (exact fun u hu => by simp at hu; subst hu; rfl); (simp only [maxLen]; omega); omega; (simp; omega); intro v' w3 hown3 hg3 _ hat3; obtain ⟨gv, cv', rfl⟩ := ownsRow_succ hown3; have hp3 : w3.heap[W.heap.size]? = some (.cells #[.slice Av L.length cv, .func (.func cmpF) #[] #[]] 80 (0, 0)) := ((hg3.block W.heap.size (by simp; omega) (fun e => hvP e.symm)).trans (Below.heap_alloc _ _ _ (by omega))).trans hP2; have hp3c := (cells_of hp3 0).1; have hp3f := (cells_of hp3 0).2; simp only [List.getElem?_toArray, List.getElem?_cons_zero] at hp3c)
        have hon3 : Onto (w2.alloc (.cells #[.slice (some ⟨g1, 0, none⟩) lk c1] 30)) w3 (.slice Av L.length cv) (.slice (some ⟨gv, 0, none⟩) (L.length + 1) cv') := ⟨hg3, by rcases hat3 with e | e; exact .inl e; exact .inr ⟨_, e, Nat.le_refl _⟩⟩
        have hsx : SeesM (fun k => wr.heap.size ≤ k ∧ k < (w2.alloc (.cells #[.slice (some ⟨g1, 0, none⟩) lk c1] 30)).heap.size) (w2.alloc (.cells #[.slice (some ⟨g1, 0, none⟩) lk c1] 30)) (some ⟨g1, 0, none⟩) (ls.map val) :=
          ⟨.inr ⟨⟨g1, 0, none⟩, rfl, ⟨hg1.1, by simp; omega⟩, World.ownsRow.cells (hown2'.out.alloc _) (g := g1) rfl⟩⟩
        have hcap1 : lk ≤ c1 := by
          rcases hown2'.out.2 with ⟨h0, -⟩ | ⟨_, _, _, hv, -, -, hnc, -⟩
          · cases h0
          · injection hv with _ _ h3; omega
        obtain ⟨hrows2, hturn⟩ := push_done (x := ls) hrows hnW htr3 hsx (by rw [HLSL.out]; exact hcap1) (fun y hy => HXS.out y (hperm.mem_iff.1 hy)) r1 r2 r3 r4 (by rw [HLSL.out]; exact hown3) hon3 (by omega)
        have hJ2 := hJ _ _ _ _ hJs (hturn.mono fun j hj e => hs.out j |>.2 ⟨e, hj⟩)
        have hsz2 := hturn.size
        have hk2 : Kept (fun k => k < W.heap.size) W (w3.setCell ⟨W.heap.size, 0, none⟩ (.slice (some ⟨gv, 0, none⟩) (L.length + 1) cv')) := hkept.trans (Kept.of_turn hturn fun k e => ⟨by omega, by omega⟩)
        gi_wp2_with fail
        gi_roundg (n - (k + 1))
        case measure => omega
        case rel => exact ⟨k + 1, _, L ++ [ls], by omega, by go_num, hJ2, hrows2, by simpa using hLk, ⟨fun r hr => by rcases List.mem_append.1 hr with hr | hr; exact hrel.out.1 r hr; (simp only [List.mem_singleton] at hr; subst hr; exact ⟨fun e => by have := HLSL.out; rw [e] at this; simp at this; omega, hwk⟩), by rw [HTK.out, List.flatten_append, List.flatten_append]; exact hrel.out.2.append (by simpa using hperm)⟩, hk2, by omega, fun j => by unfold grown; rw [hs.out j]; unfold own; omega⟩
    · have hkn : k = n := by omega
      have hperm : Hid (L.flatten.Perm ll.flatten) := by
        have := hrel.out.2
        rw [List.take_of_length_le (by have := HN.out; omega)] at this
        exact this
      have hinit := Lib.hid (Init_any (heapI (fun k => k < n0) (own W.heap.size wr) W.heap.size W.heap.size wr) L wr ⟨hrows, Turn.refl _ _⟩ (fun r hr => (hrel.out.1 r hr).1))
      clear hrows
      gi_wp2_with fail
      refine ⟨trivial, fun h => absurd h (by simp [Fence.wide]), (callsIn_wide.2 hinit.out).mono ?_⟩
      rintro e w1 ⟨vi, M, rfl, ⟨hrows1, hturn1⟩, hhp, hpm⟩
      have hJ1 := hJ _ _ _ _ hJs (hturn1.mono fun j hj e => (hs.out j).2 e)
      have hM := Lib.hid (MergeI.start (lt := lt) (key := key) hpm hperm.out (fun r hr => (hrel.out.1 r hr).1) (fun r hr => (hrel.out.1 r hr).2) hhp)
      have hqs : ∀ k, own W.heap.size wr k → grown s wr w1 k := fun k e => .inl ((hs.out k).2 e)
      have hsl : ∀ k, grown s wr w1 k → k < w1.heap.size := fun k e => by
        have := hturn1.size
        rcases e with e | e
        · have := ((hs.out k).1 e).2; omega
        · exact e.2
      have HQS := Lib.hid hqs
      have HSL := Lib.hid hsl
      have hn1 : n0 ≤ w1.heap.size := by have := hturn1.size; omega
      obtain ⟨q, hq⟩ : ∃ q, own W.heap.size wr = q := ⟨_, rfl⟩
      rw [hq] at hrows1 HQS
      generalize grown s wr w1 = s1 at hJ1 HQS HSL
      clear hinit hturn1 hhp hpm hJs hs hkept hperm hrel hqs hsl hq h3W h2W hRW
      gi_wp2_with fail
      gi_loopg [38] M.flatten.length (fun g _ wr => ∃ (L : List (List El)) (pre : List El) (s : Nat → Prop), Hid (L.flatten.length = g) ∧ J s pre wr ∧ RowsAt (fun k => k < n0) q wr W.heap.size W.heap.size L ∧ Hid (MergeI lt key ll.flatten pre L) ∧ Hid (∀ k, q k → s k) ∧ Hid (∀ k, s k → k < wr.heap.size) ∧ n0 ≤ wr.heap.size)
      case atStart => exact ⟨M, [], s1, rfl, hJ1, hrows1, hM.out, HQS.out, HSL.out, hn1⟩
      case round =>
        obtain ⟨L, pre, s, hg, hJs, hrows, hm, hqs, hsl, hn1⟩ := hrel
        clear hJ1 hrows1 hM HQS HSL
        cases L with
        | nil =>
          obtain ⟨v, vs, r1, r2, r3, r4⟩ := hrows.out
          obtain ⟨Av, cv, rfl⟩ : ∃ Av cv, v = .slice Av 0 cv := by
            rcases r2.2 with ⟨rfl, hn⟩ | ⟨g, cap, cur, rfl, -⟩
            · exact ⟨none, 0, rfl⟩
            · exact ⟨_, cap, rfl⟩
          have p0 := (cells_of r1 0).1
          simp only [List.getElem?_toArray, List.getElem?_cons_zero] at p0
          clear r1 r2 r3 r4
          gi_wp2_with fail
          go_end0
          exact ⟨⟨_, rfl⟩, .inl ⟨s, pre, hm.out.done ordr |>.trans HK.out, hJs⟩⟩
        | cons L0 T =>
          cases L0 with
          | nil => exact absurd rfl (hm.out.some [] (by simp))
          | cons x r =>
            obtain ⟨g, cap, vs, r1, r2, r3, r4, r5, r6⟩ := hrows.some (by simp)
            obtain ⟨A0, c0, i1, i2, i3⟩ := r6 0 (by simp)
            simp only [List.getElem_cons_zero] at i1 i2 i3
            have ei := World.ownsRow.cellAt r2 0 (by simp)
            rw [i1] at ei
            have p0 := (cells_of r1 0).1
            simp only [List.getElem?_toArray, List.getElem?_cons_zero] at p0
            obtain ⟨ad0, hA0, hx0⟩ : ∃ ad, A0 = some ad ∧ wr.cell? ad = some (val x) := by
              rcases i3.out with e | ⟨ad, e1, -, e2⟩
              · simp at e
              · exact ⟨ad, e1, by have := e2 0 (val x) (by simp); simpa [Addr.add] using this⟩
            obtain rfl := hA0
            have htold := hm.out.told ordr rfl
            rw [HK.out] at htold
            have hxok := hrows.ok (x :: r) (by simp) x (by simp)
            have hY1 := hY s pre x wr hJs (told_lt htold) ⟨hxok, htold, hn1⟩
            have HTOLD := Lib.hid htold
            obtain ⟨fn, tmps, assign, body, hyy, hR⟩ := hY1
            have hHp := hm.out.hp
            obtain ⟨vx, hvx⟩ : ∃ vx, val x = vx := ⟨_, rfl⟩
            have hmN := fun (M : List (List El)) => hm.out.next ordr (x := x) (r := r) (T := T) (M := M) rfl
            have HMN := Lib.hid hmN
            rw [hvx] at hx0 hyy
            simp only [List.length_cons] at p0 r1 r2 r5 ei i2 hHp
            obtain ⟨nT, hnT⟩ : ∃ nT, T.length = nT := ⟨_, rfl⟩
            obtain ⟨nr, hnr⟩ : ∃ nr, r.length = nr := ⟨_, rfl⟩
            have HNT := Lib.hid hnT
            have HNR := Lib.hid hnr
            have hT6 := hrows.few
            simp only [List.length_cons] at hT6
            rw [hnT] at p0 r5 hT6
            rw [hnr] at ei i2
            have HHP := Lib.hid hHp
            clear hmN htold hvx hHp hnT hnr
            gi_wp2_with fail
            refine ⟨fun h => absurd h (by simp [Fence.wide]), hR.mono ?_⟩
            rintro e w4 (⟨rfl, hJ4, ht4⟩ | ⟨rfl, hJx4, -⟩)
            · have hk4 : Kept (fun k => q k ∨ k < n0) wr w4 := Kept.of_turn ht4 (fun k hk => ⟨by rcases hk with hk | hk; exact hsl.out k (hqs.out k hk); omega, fun e => by rcases hk with hk | hk; exact e.1 (hqs.out k hk); exact e.2 (.inl hk)⟩)
              have hrows4 := hrows.keep hk4 ht4.size
              have r14 := (hk4 _ (.inl hrows.at_)).trans r1
              have r24 := ownsRow_kept r2 fun k e => hk4 k (.inl (by obtain rfl : g = k := Option.some.inj e; exact r3))
              have p04 := (cells_of r14 0).1
              simp only [List.getElem?_toArray, List.getElem?_cons_zero] at p04
              rw [HNT.out] at p04
              have ei4 := (World.ownsRow.cellAt r24 0 (by simp)).trans i1
              simp only [List.length_cons] at ei4
              rw [HNR.out] at ei4
              have f04 := World.ownsRow.frozenAt r24 0
              have r64 : ∀ i (hi : i < ((x :: r) :: T).length), ∃ Ai ci, vs[i]? = some (.slice Ai (((x :: r) :: T)[i]).length ci) ∧ (((x :: r) :: T)[i]).length ≤ ci ∧ SeesM (fun k => q k ∧ k ≠ W.heap.size ∧ k ≠ g) w4 Ai ((((x :: r) :: T)[i]).map val) := fun i hi => by
                obtain ⟨Ai, ci, j1, j2, j3⟩ := r6 i hi
                exact ⟨Ai, ci, j1, j2, j3.keep (hk4.mono fun k e => .inl e.1)⟩
              have hsl4 : ∀ k, s k → k < w4.heap.size := fun k e => Nat.lt_of_lt_of_le (hsl.out k e) ht4.size
              have hn4 : n0 ≤ w4.heap.size := Nat.le_trans hn1 ht4.size
              have i34 := i3.keep (hk4.mono fun k e => .inl e.1)
              have R64 := Lib.hid r64
              have HSL4 := Lib.hid hsl4
              have hrr := Lib.hid hrows4
              have hcut : ∀ (c1 : c0 = 1), nr = 0 := fun c1 => by omega
              clear hrows r1 r2 r6 i3 hk4 r64 hsl4 hrows4
              by_cases hc1 : c0 = 1
              · have hnr0 : nr = 0 := hcut hc1
                subst hc1 hnr0
                gi_wp2_with fail
                refine wpIn_wide.2 ?_
                go_region
                obtain ⟨w5, hw5⟩ : ∃ w5, (w4.setCell ⟨g, 0, none⟩ (.slice (some ad0) 0 0)).drew = w5 := ⟨_, rfl⟩
                rw [hw5]
                have hal : Alk w5 (w4.setCell ⟨g, 0, none⟩ (.slice (some ad0) r.length (1 - 1))) := by rw [← hw5, HNR.out]; exact ⟨rfl, rfl, rfl, rfl⟩
                obtain ⟨hrows5, hturn5⟩ := tail_done hrr.out r14 r24 r3 r4 R64.out i1 (by rw [HNR.out]; exact i2) i34 (some ad0) (by rw [if_pos rfl]) hal
                clear hw5 hal p04 ei4 f04
                obtain rfl : r = [] := List.eq_nil_of_length_eq_zero HNR.out
                obtain ⟨g5, cap5, vs5, t1, t2, t3, t4, t5, t6⟩ := hrows5.some (by simp)
                obtain ⟨A5, c5, j1, j2, j3⟩ := t6 0 (by simp)
                simp only [List.getElem_cons_zero] at j1 j2
                have ei5 := (World.ownsRow.cellAt t2 0 (by simp)).trans j1
                have p05 := (cells_of t1 0).1
                simp only [List.getElem?_toArray, List.getElem?_cons_zero, List.length_cons, List.length_nil] at p05 ei5
                rw [HNT.out] at p05
                have hne5 : ∀ s ∈ T, s ≠ [] := fun s hs => hm.out.some s (by simp [hs])
                have hcall := Lib.hid (Pop_any (heapI (fun k => k < n0) q W.heap.size W.heap.size w5) [] T w5 ⟨hrows5, Turn.refl _ _⟩ (HHP.out.set0 ([] : List El)) hne5)
                clear t1 t2 t3 t4 t5 t6 j1 j2 j3 hne5 hrows5 r14 r24 i34 i1
                gi_wp2_with fail
                refine ⟨trivial, fun h => absurd h (by simp [Fence.wide]), (callsIn_wide.2 hcall.out).mono ?_⟩
                rintro e w6 ⟨v6, M6, rfl, ⟨hrows6, hturn6⟩, hhp6, hpm6⟩
                have ht46 : Turn s w4 w6 := (hturn5.trans hturn6).mono fun j _ e => hqs.out j e
                have hJ6 := hJ _ _ _ _ hJ4 ht46
                have hM6 := HMN.out M6 (by simpa using hpm6) hhp6
                have hfl6 := hpm6.flatten.length_eq
                have hgg := hg.out
                clear hcall hturn5 hturn6 hhp6 hpm6
                gi_wp2_with fail
                gi_roundg M6.flatten.length
                case measure => (rw [hfl6, ← hgg]; simp)
                case rel => exact ⟨M6, pre ++ [x], _, rfl, hJ6, hrows6, hM6, fun k e => .inl (hqs.out k e), fun k e => by have := ht46.size; (rcases e with e | e; (have := HSL4.out k e; omega); exact e.2), by have := ht46.size; omega⟩
              · by_cases hnr0 : nr = 0
                · subst hnr0
                  gi_wp2_with fail
                  refine wpIn_wide.2 ?_
                  go_region
                  obtain ⟨w5, hw5⟩ : ∃ w5, (w4.setCell ⟨g, 0, none⟩ (.slice (some ⟨ad0.block, ad0.off + 1, none⟩) 0 (c0 - 1))).drew = w5 := ⟨_, rfl⟩
                  rw [hw5]
                  have hal : Alk w5 (w4.setCell ⟨g, 0, none⟩ (.slice (some ⟨ad0.block, ad0.off + 1, none⟩) r.length (c0 - 1))) := by rw [← hw5, HNR.out]; exact ⟨rfl, rfl, rfl, rfl⟩
                  obtain ⟨hrows5, hturn5⟩ := tail_done hrr.out r14 r24 r3 r4 R64.out i1 (by rw [HNR.out]; exact i2) i34 (some ⟨ad0.block, ad0.off + 1, none⟩) (by rw [if_neg hc1]; rfl) hal
                  clear hw5 hal p04 ei4 f04
                  obtain rfl : r = [] := List.eq_nil_of_length_eq_zero HNR.out
                  obtain ⟨g5, cap5, vs5, t1, t2, t3, t4, t5, t6⟩ := hrows5.some (by simp)
                  obtain ⟨A5, c5, j1, j2, j3⟩ := t6 0 (by simp)
                  simp only [List.getElem_cons_zero] at j1 j2
                  have ei5 := (World.ownsRow.cellAt t2 0 (by simp)).trans j1
                  have p05 := (cells_of t1 0).1
                  simp only [List.getElem?_toArray, List.getElem?_cons_zero, List.length_cons, List.length_nil] at p05 ei5
                  rw [HNT.out] at p05
                  have hne5 : ∀ s ∈ T, s ≠ [] := fun s hs => hm.out.some s (by simp [hs])
                  have hcall := Lib.hid (Pop_any (heapI (fun k => k < n0) q W.heap.size W.heap.size w5) [] T w5 ⟨hrows5, Turn.refl _ _⟩ (HHP.out.set0 ([] : List El)) hne5)
                  clear t1 t2 t3 t4 t5 t6 j1 j2 j3 hne5 hrows5 r14 r24 i34 i1
                  gi_wp2_with fail
                  refine ⟨trivial, fun h => absurd h (by simp [Fence.wide]), (callsIn_wide.2 hcall.out).mono ?_⟩
                  rintro e w6 ⟨v6, M6, rfl, ⟨hrows6, hturn6⟩, hhp6, hpm6⟩
                  have ht46 : Turn s w4 w6 := (hturn5.trans hturn6).mono fun j _ e => hqs.out j e
                  have hJ6 := hJ _ _ _ _ hJ4 ht46
                  have hM6 := HMN.out M6 (by simpa using hpm6) hhp6
                  have hfl6 := hpm6.flatten.length_eq
                  have hgg := hg.out
                  clear hcall hturn5 hturn6 hhp6 hpm6
                  gi_wp2_with fail
                  gi_roundg M6.flatten.length
                  case measure => (rw [hfl6, ← hgg]; simp)
                  case rel => exact ⟨M6, pre ++ [x], _, rfl, hJ6, hrows6, hM6, fun k e => .inl (hqs.out k e), fun k e => by have := ht46.size; (rcases e with e | e; (have := HSL4.out k e; omega); exact e.2), by have := ht46.size; omega⟩
                · have hnr1 : ¬ ((nr : Int) + 1 < 1) := by omega
                  gi_wp2_with fail
                  refine wpIn_wide.2 ?_
                  go_region
                  obtain ⟨w5, hw5⟩ : ∃ w5, (w4.setCell ⟨g, 0, none⟩ (.slice (some ⟨ad0.block, ad0.off + 1, none⟩) nr (c0 - 1))).drew = w5 := ⟨_, rfl⟩
                  rw [hw5]
                  have hal : Alk w5 (w4.setCell ⟨g, 0, none⟩ (.slice (some ⟨ad0.block, ad0.off + 1, none⟩) r.length (c0 - 1))) := by rw [← hw5, HNR.out]; exact ⟨rfl, rfl, rfl, rfl⟩
                  obtain ⟨hrows5, hturn5⟩ := tail_done hrr.out r14 r24 r3 r4 R64.out i1 (by rw [HNR.out]; exact i2) i34 (some ⟨ad0.block, ad0.off + 1, none⟩) (by rw [if_neg hc1]; rfl) hal
                  clear hw5 hal p04 ei4 f04
                  obtain ⟨g5, cap5, vs5, t1, t2, t3, t4, t5, t6⟩ := hrows5.some (by simp)
                  obtain ⟨A5, c5, j1, j2, j3⟩ := t6 0 (by simp)
                  simp only [List.getElem_cons_zero] at j1 j2
                  have ei5 := (World.ownsRow.cellAt t2 0 (by simp)).trans j1
                  have p05 := (cells_of t1 0).1
                  simp only [List.getElem?_toArray, List.getElem?_cons_zero, List.length_cons] at p05 ei5
                  rw [HNT.out] at p05
                  rw [HNR.out] at ei5
                  have hnrz : ((nr : Int) == 0) = false := by rw [beq_eq_false_iff_ne]; omega
                  have hne5 : ∀ s ∈ (r :: T), s ≠ [] := fun s hs => by rcases List.mem_cons.1 hs with rfl | hs; (intro e; have := HNR.out; rw [e] at this; simp at this; omega); exact hm.out.some s (by simp [hs])
                  have hcall := Lib.hid (Fix_any (heapI (fun k => k < n0) q W.heap.size W.heap.size w5) (r :: T) w5 ⟨hrows5, Turn.refl _ _⟩ (HHP.out.set0 r) hne5)
                  clear t1 t2 t3 t4 t5 t6 j1 j2 j3 hne5 hrows5 r14 r24 i34 i1
                  gi_wp2_with fail
                  refine ⟨trivial, fun h => absurd h (by simp [Fence.wide]), (callsIn_wide.2 hcall.out).mono ?_⟩
                  rintro e w6 ⟨v6, M6, rfl, ⟨hrows6, hturn6⟩, hhp6, hpm6⟩
                  have ht46 : Turn s w4 w6 := (hturn5.trans hturn6).mono fun j _ e => hqs.out j e
                  have hJ6 := hJ _ _ _ _ hJ4 ht46
                  have hM6 := HMN.out M6 (by rw [if_neg (fun e => by have := HNR.out; rw [e] at this; simp at this; omega)]; exact hpm6) hhp6
                  have hfl6 := hpm6.flatten.length_eq
                  have hgg := hg.out
                  clear hcall hturn5 hturn6 hhp6 hpm6
                  gi_wp2_with fail
                  gi_roundg M6.flatten.length
                  case measure => (rw [hfl6, ← hgg]; simp)
                  case rel => exact ⟨M6, pre ++ [x], _, rfl, hJ6, hrows6, hM6, fun k e => .inl (hqs.out k e), fun k e => by have := ht46.size; (rcases e with e | e; (have := HSL4.out k e; omega); exact e.2), by have := ht46.size; omega⟩
            · gi_wp2_with fail
              refine bodyPost_ret (results_none rfl _ _ _) rfl ?_
              exact ⟨⟨_, rfl⟩, .inr ⟨s, _, by rw [List.map_append]; exact HTOLD.out, hJx4⟩⟩
end Go.Proofs.Ytcfbblgoligagaa.KI
