/-
  kmerge.Ints, walked: the numbers of all rows, rising, each once.
-/
import Derived.Test.YtcfbblgoligagaaKmIntsP
namespace Go.Proofs.Ytcfbblgoligagaa.KI
open Go.RowKit Go.Shelf

attribute [local go_sem] Oper.semAt_some

set_option maxRecDepth 100000 in
set_option maxHeartbeats 3200000 in
theorem Ints_any (A : Option Addr) (n c : Nat) (ll : List (List El)) (w : World) (hR : RowsIn (fun k => k < w.heap.size) w A ll) (hn : ll.length = n) (hn6 : n ≤ 100000) (hl : ∀ r ∈ ll, r.length ≤ 1000000) (hK12 : ll.flatten.length ≤ 1000000000) :
    Calls Try.prog 16 #[.slice A n c] w (RowVal w (uniqL lt ll.flatten)) := by
  have hU : (runs (sortK lt (ll.flatten.map key))).map (·.1) = uniqL lt ll.flatten := by unfold uniqL; rw [show ll.flatten.map key = ll.flatten from List.map_id _]
  have hUl := uniqL_len ordr ll.flatten
  obtain ⟨U, hUU⟩ : ∃ U, uniqL lt ll.flatten = U := ⟨_, rfl⟩
  rw [hUU] at hU hUl ⊢
  have HU := Lib.hid hU
  clear hU hUU
  refine (callsIn_wide (n := 12)).1 ?_
  have hF := fun W => counted_any A n c W
  unfold cmpF at hF
  have HF := fun W => Lib.hid (hF W)
  clear hF
  refine callsIn_of_wp_marks Try.func16 rfl trivial ?_ rfl
  simp only [Try.ntmps16, List.size_toArray, List.length_cons, List.length_nil, Nat.reduceAdd, Nat.reduceSub, Array.replicate_succ, Array.replicate_zero, List.push_toArray, List.append_toArray, List.nil_append, List.cons_append]
  gi_wp2_with fail
  refine ⟨trivial, (callsIn_wide.2 (HF _).out).mono ?_⟩
  rintro e w1 ⟨rfl, hw1⟩
  have b0 := Box1.new w 30 (.slice none 0 0)
  have hb0 : Below w.heap.size w (w.alloc (.cells #[.slice none 0 0] 30)) := (Below.refl _ w).alloc (Nat.le_refl _) _
  have hz0 : (w.alloc (.cells #[.slice none 0 0] 30)).heap.size = w.heap.size + 1 := by simp
  generalize w.alloc (.cells #[.slice none 0 0] 30) = Wa at b0 hb0 hz0 hw1 ⊢
  have b2 := (Box1.new Wa 29 (.slice A n c)).alloc (.cells #[.func (.func 29) #[] #[]] 53)
  have b3 := Box1.new (Wa.alloc (.cells #[.slice A n c] 29)) 53 (.func (.func 29) #[] #[])
  rw [World.size_alloc] at b3
  rw [← hw1, hz0] at b2 b3
  have hb1 : Below Wa.heap.size Wa w1 := by rw [hw1]; exact ((Below.refl _ Wa).alloc (Nat.le_refl _) _).alloc (by simp) _
  have hz1 : w1.heap.size = w.heap.size + 1 + 1 + 1 := by rw [hw1]; simp [hz0]
  have c0 := b0.turn (Turn.of_new (T := fun _ => False) hb1) id
  have hbw : Below w.heap.size w w1 := hb0.trans (hb1.mono (by omega))
  have hD := counted1_seq (w := w1) (c := c) w.heap.size (hR.keep (Kept.of_below hbw fun k e => e)) hn hn6 hl (w.heap.size + 1) (w.heap.size + 1 + 1) b2.cell b3.cell (by omega) (by omega) (by omega) (by omega) 11
  have hKl : (sortK lt (ll.flatten.map key)).length ≤ 1000000000 := by rw [(sortK_perm _).length_eq, List.length_map]; exact hK12
  have hU := HU.out
  obtain ⟨K, hK⟩ : ∃ K, sortK lt (ll.flatten.map key) = K := ⟨_, rfl⟩
  rw [hK] at hD hKl hU
  clear HU
  have HU := Lib.hid hU
  have HKL := Lib.hid hKl
  obtain ⟨ti, hi, hy0, hy1, hy2⟩ := info_parts iinfo
  clear HF hw1 b0 hb0 hb1 b2 b3 hR hn hl hK12 hK hKl hU
  rw [hz0]
  gi_wp2_with fail
  refine wpIn_rangeFunc_T (F := Fence.wide) (n := 12) rfl (by omega) (gf := 37) (lb := #[.pointer (some ⟨w.heap.size + 1, 0, none⟩), .pointer (some ⟨w.heap.size + 1 + 1, 0, none⟩)]) rfl trivial (enters_of Try.func37 (by kernel_rfl) rfl)
    hD (Below.refl _ _) (fun _ => rfl) (fun k hk => by rcases hk with (hk | rfl | rfl) | hk <;> first | omega | exact hk.elim)
    (fun s pre x A B h hR ht => cntOk_keep h (by omega) ht)
    (fun s pre wr => IntsSt w w.heap.size (w.heap.size + 1 + 1 + 1) (w.heap.size + 1 + 1 + 1) s (pre.map (·.1)) wr)
    (fun c s pre wr => False)
    ?hI ?hIx ?hI2 ?hIx2 ?h0 (fun y => { tmps := #[.slice A n c, undef, .slice none 0 0, .pointer (some ⟨w.heap.size, 0, none⟩), .int .i64 y.1, .slice A n c, .func (.func 37) #[] #[.pointer (some ⟨w.heap.size + 1, 0, none⟩), .pointer (some ⟨w.heap.size + 1 + 1, 0, none⟩)], .int .i64 y.1, .int .i64 (y.2 : Nat), undef, undef, undef, undef, undef], defers := [] }) ?assign ?body ?done ?stop
  case hI => exact fun s pre A B h ht => h.step (by omega) (Nat.le_refl _) (by omega) ht (fun k e => .inl e) (fun k e => e)
  case hIx => exact fun c s pre A B h ht => h
  case hI2 => exact fun s pre A B h ht => h.step (by omega) (Nat.le_refl _) (by omega) ht (fun k e => .inr (by omega)) (fun k e => .inl e)
  case hIx2 => exact fun c s pre A B h ht => h
  case h0 => exact ⟨fun k e => e.elim, hbw, by omega, _, c0, World.ownsRow_nil _ _ _ _, fun k e => by simp [Value.ownBlock] at e⟩
  case assign =>
    intro l y W K hK
    dsimp only [val]
    gi_wp2
    exact hK
  case body =>
    rintro l s pre y W hSt hlt ⟨k1, k2, k3, k4⟩ hdW
    obtain ⟨v, hbox, hrow, hblk⟩ := hSt.out
    have hpl : (pre.map (·.1)).length ≤ 1000000000 := by
      have h1 := runs_len K
      have h2 := HKL.out
      rw [List.length_map]; omega
    obtain ⟨ln, hln⟩ : ∃ ln, (pre.map (·.1)).length = ln := ⟨_, rfl⟩
    rw [hln] at hpl hrow
    obtain ⟨Av, cv, rfl⟩ : ∃ Av cv, v = .slice Av ln cv := by
      rcases hrow.2 with ⟨rfl, hn⟩ | ⟨g, cap, cur, rfl, -⟩
      · exact ⟨none, 0, by rw [hn]⟩
      · exact ⟨_, cap, rfl⟩
    have c7 := hbox.cell
    have hobv : (Value.slice Av ln cv).ownBlock ≠ some w.heap.size := fun e => by have := (hblk _ e).1; omega
    have hdl : w.heap.size + 1 + 1 + 1 + 2 ≤ W.heap.size := by omega
    have hnb : Below W.heap.size W (W.alloc (.cells #[.int .i64 y.1] 3)) := (Below.refl _ _).alloc (Nat.le_refl _) _
    have hsee : Sees (W.alloc (.cells #[.int .i64 y.1] 3)) (W.heap.size + 1) (some ⟨W.heap.size, 0, none⟩) [.int .i64 y.1] := ⟨.inr ⟨_, rfl, by simp, fun j u hu => by match j, hu with | 0, hu => (simp at hu; subst hu; rw [Addr.add_lit, World.cell?_alloc_at _ _ _ _ rfl]; rfl)⟩⟩
    have hrow2 := hrow.alloc (.cells #[.int .i64 y.1] 3)
    have HLN := Lib.hid hln
    have HZ1 := Lib.hid hz1
    clear hln hz1 hD c0 hbw
    gi_wp2_with ((with_reducible refine wpListIn_append_v (o := { dst := some 12, op := Op.call { callee := Callee.builtin Builtin.append, args := #[Operand.tmp 9, Operand.tmp 11], argTypes := #[30, 30] }, type := 30, pos := "kmerge.go:92", after := #[{ on := 0, ground := Ground.data }, { on := 2, ground := Ground.data }], guard := none }) ?_ (.tmp 9) (.tmp 11) 30 ?_ 3 ti _ 1 8 ?_ hi hy0 hy1 hy2 ?_ ?_ (w.heap.size + 1 + 1 + 1 + 2) (.slice Av ln cv) ln _ ?_ hrow2 _ (some ⟨W.heap.size, 0, none⟩) 1 1 [.int .i64 y.1] ?_ ?_ hsee ?_ ?_ ?_ ?_ ?_); exact rfl; exact rfl; exact Try.underlying30; exact rfl; omega; exact rfl; exact rfl; exact rfl; (exact fun u hu => by simp at hu; subst hu; rfl); (simp only [maxLen]; omega); omega; (simp; omega); intro v' wn hown hon; obtain ⟨gv, cv', rfl⟩ := ownsRow_succ hown; have b3 := (hbox.below hnb hbox.lt).turn (Turn.onto (T := fun k => (Value.slice Av ln cv).ownBlock = some k) hon fun k e => e) hobv; have c3 := b3.cell; have f3 := b3.frozen)
    have hput := ints_put hSt (by omega) (Nat.le_refl _) (Nat.le_refl _) hdl hbox (by rw [HLN.out]; exact hrow) hblk hnb (by rw [HLN.out]; exact hown) hon
    refine ⟨hput.2.mono fun j _ e => ?_, by show IntsSt _ _ _ _ s ((pre ++ [y]).map (·.1)) _; rw [List.map_append]; exact hput.1⟩
    rcases e with rfl | e
    · exact ⟨fun e => by have := (hSt.sep _ e).1; omega, by omega, by have := HZ1.out; omega, by have := HZ1.out; omega⟩
    · have h1 := hblk j e
      exact ⟨h1.2, by omega, by have := HZ1.out; omega, by have := HZ1.out; omega⟩
  case done =>
    rintro s xs W hS hSt hK
    obtain ⟨v, hbox, hrow, hblk⟩ := hSt.out
    have hxs : xs.map (·.1) = U := by rw [← HU.out, ← show xs.map (tk key) = runs K from hS, List.map_map]; rfl
    rw [hxs] at hrow
    obtain ⟨ln, hln⟩ : ∃ ln, U.length = ln := ⟨_, rfl⟩
    rw [hln] at hrow
    obtain ⟨Av, cv, rfl⟩ : ∃ Av cv, v = .slice Av ln cv := by
      rcases hrow.2 with ⟨rfl, hn⟩ | ⟨g, cap, cur, rfl, -⟩
      · exact ⟨none, 0, by rw [hn]⟩
      · exact ⟨_, cap, rfl⟩
    have c7 := hbox.cell
    have hpt := Turn.putObj W w1.heap.size (.deferred none) (T := fun k => k = w1.heap.size) rfl
    have hrow2 := ownsRow_kept (w' := W.putObj w1.heap.size (.deferred none)) hrow fun k e => hpt.block k (World.ownsRow.lt hrow k e).2 (by have := (hblk k e).1; omega)
    have hbel := hSt.below.trans (hpt.below (b := w.heap.size) (fun j hj => by omega) hSt.below.size)
    have hrow3 := owns_le hrow2 (b := w.heap.size) (by omega)
    have HLN := Lib.hid hln
    have hbel' := Lib.hid hbel
    clear hln hz1 hD c0 hbw hxs
    gi_wp2_with fail
    refine ⟨by simp, .inl ⟨_, _, rfl, run_takeDeferred hK, ?_⟩⟩
    refine ⟨_, results_tmp rfl _ _ _, .slice Av ln cv, rfl, ?_, hbel'.out⟩
    rw [HLN.out]
    exact hrow3
  case stop => exact fun c s pre W h1 h2 h3 => h2.elim
end Go.Proofs.Ytcfbblgoligagaa.KI
