/-
  Clone, walked.
-/
import Derived.Test.YteidkmiladkoiaaDoorSmCloneP
namespace Go.Proofs.YteidkmiladkoiaaDoor
open Go.RowKit

theorem clone_nil (w : World) : Calls Tryd.prog 17 #[.pointer none] w fun e w' => e = .returned (.pointer none) ∧ w = w' := by
  go_enter Tryd.func17, Tryd.ntmps17
  go_wp2
  go_ret
  exact ⟨rfl, rfl⟩

/-- The step of a range over paths. -/
theorem pv_next {w : World} {F : Nat → Nat} {b r : Nat} {d ls : Dir} (h : MapRng w b r (d.map (pv F)) (ls.map (pv F))) :
    (ls = [] ∧ (Instr.next (.pointer (some ⟨r, 0, none⟩)) false 0).run Tryd.prog w = .ok (.tuple #[.bool false]) w) ∨
    ∃ x ls' w', ls.Perm (x :: ls') ∧ (Instr.next (.pointer (some ⟨r, 0, none⟩)) false 0).run Tryd.prog w = .ok (.tuple #[.bool true, .string (strOf x.1), .pointer (some ⟨F x.2, 0, none⟩)]) w' ∧
      MapRng w' b r (d.map (pv F)) (ls'.map (pv F)) ∧ Turn (fun k => k = r) w w' ∧ w'.heap.size = w.heap.size ∧ (Instr.entry (.pointer (some ⟨r, 0, none⟩))).run Tryd.prog w' = .ok (.tuple #[.string (strOf x.1), .pointer (some ⟨F x.2, 0, none⟩)]) w' := by
  rcases h.next (P := Tryd.prog) 0 with ⟨h0, hnx⟩ | ⟨key, v, left', w2, hperm, hnx, hrng2, hgr, hz2, hen⟩
  · exact .inl ⟨by simpa using h0, hnx⟩
  · obtain ⟨x, hn, hne⟩ := List.mem_map.1 (hperm.mem_iff.2 (List.mem_cons_self (a := (key, v)) (l := left')))
    obtain ⟨rfl, rfl⟩ : key = .string (strOf x.1) ∧ v = ptr (F x.2) := ⟨(congrArg Prod.fst hne).symm, (congrArg Prod.snd hne).symm⟩
    have hp := List.perm_cons_erase hn
    refine .inr ⟨x, ls.erase x, w2, hp, hnx, hrng2.perm ?_, .of_grown hgr fun k e => (Option.some.inj e).symm, hz2, hen⟩
    have h1 := hp.map (pv F)
    rw [List.map_cons] at h1
    exact (hperm.symm.trans h1).cons_inv

theorem keys_of_perm {Kd ls : Dir} {d : Dir} (h : (Kd ++ ls).Perm d) (hd : RiD d) : (Kd ++ ls).Pairwise fun p q => p.1 ≠ q.1 :=
  (h.pairwise_iff (fun {_ _} hne => Ne.symm hne)).2 (hd.imp fun {a b} e => lt_ne e)
theorem Tryd.givinfo : (Tryd.prog.info? 56).map (fun i => (i.zero, i.size, i.bytes)) = some (some (.agg #[.string ⟨#[]⟩, .pointer none]), 2, 24) := by kernel_rfl
/-- A clone before anything is in it. -/
def cl0 (S : FsM) : FsM := { FsM.new S.room with files := S.files }
/-- .. with so many changes. -/
def clk (S : FsM) (k : Nat) : FsM := { cl0 S with kept := S.kept, now := (S.chg.take k).foldl againD S.kept, chg := S.chg.take k }

set_option maxRecDepth 100000 in
set_option maxHeartbeats 6400000 in
theorem clone_any {N : Nat} {c F : Nat → Nat} {w : World} {f : Nat} {S : FsM} (h : FsAt c F w f S) (hO : FsOk N S) (hN : N ≤ 10000) :
    Calls Tryd.prog 17 #[.pointer (some ⟨f, 0, none⟩)] w fun e w' => ∃ g c2 G, e = .returned (.pointer (some ⟨g, 0, none⟩)) ∧ FsAt c2 G w' g S ∧ (∀ k, k < w.heap.size → c2 k = 0) ∧ Below w.heap.size w w' := by
  obtain ⟨bn, bk, A0, n0, d0, -, d2, d3, d4, -, hbn, hbk, -, hmk, hch, hn0, -⟩ := h.open_
  obtain ⟨L, hL⟩ : ∃ L, S.chg.length = L := ⟨_, rfl⟩
  rw [hL] at d3 hn0
  have hfl : f < w.heap.size := h.lt f (by have := h.col; omega)
  have hmake := @run_makeMap Tryd.prog
  -- the twins' map
  have hm1 := MapIs.new w
  obtain ⟨W1, hW1⟩ : ∃ W1, w.alloc (.map #[] 0) = W1 := ⟨_, rfl⟩
  rw [hW1] at hm1
  obtain ⟨W2, hins, hm2, hg2, hz2'⟩ := hm1.store (law_ptr W1) Tryd.underlying62 (by simp) (x := .pointer none) (v := .pointer none) (.inl rfl) (l' := twV F F []) (by simp [twV]) (by simp [twV])
  have hb1 : Below w.heap.size w W1 := by rw [← hW1]; exact (Below.refl _ w).alloc (Nat.le_refl _) _
  have hz1 : W1.heap.size = w.heap.size + 1 := by rw [← hW1]; simp
  have hb2 : Below w.heap.size w W2 := hb1.grown hg2 hb1.size (fun g e => by injection e with e; omega)
  have hz2 : W2.heap.size = w.heap.size + 1 := by omega
  obtain ⟨W3, hW3⟩ : ∃ W3, W2.alloc (.cells #[.map (some w.heap.size)] 62) = W3 := ⟨_, rfl⟩
  have hb3 : Below w.heap.size w W3 := by rw [← hW3]; exact hb2.alloc hb2.size _
  have hx3 : Box1 W3 (w.heap.size + 1) 62 (.map (some w.heap.size)) := by
    have := Box1.new W2 62 (.map (some w.heap.size))
    rw [hW3, hz2] at this
    exact this
  have hm3 : MapIs W3 w.heap.size (twV F F []) := by rw [← hW3]; exact hm2.keep (Below.heap_alloc _ _ _ (by omega))
  have hz3 : W3.heap.size = w.heap.size + 2 := by rw [← hW3]; simp [hz2]
  have hnw := Lib.hid (new_any (S.room : Int) W3)
  have HZ2 := Lib.hid hz2
  have d03 := (hb3.cell (p := ⟨f, 0, none⟩) hfl).trans d0
  have HX := Lib.hid (And.intro h (And.intro hO (And.intro hb3 (And.intro hx3 (And.intro hm3 (And.intro hz3 (And.intro hmk (And.intro hL hch))))))))
  have hL5 : L ≤ 10000 := by rw [← hL]; have := hO.many; omega
  clear hm1 hm2 hg2 hb1 hb2 hb3 hx3 hm3 hz1 hz3 h hO hmk hL hch hz2' d0
  go_enter Tryd.func17, Tryd.ntmps17
  go_wp2_with fail
  refine hnw.out.mono ?_
  rintro e w4 ⟨g, c0, F0, rfl, hAt0, hc0, hb4⟩
  obtain ⟨h, hO, hb3, hx3, hm3, hz3, hmk, hL, hch⟩ := HX.out
  have hroom : (min (max (S.room : Int) 0) 16777216).toNat = S.room := by have := hO.roomOk; omega
  rw [hroom] at hAt0
  have hbw := hb3.trans (hb4.mono hb3.size)
  have hs4 := hb4.size
  have e2 := (hbw.cell (p := ⟨f, 2, none⟩) hfl).trans d2
  obtain ⟨w5, hrg, hR5, hb5, hz5⟩ := (hmk.keep (hbw.block bk hmk.lt)).range (P := Tryd.prog) Tryd.underlying44
  have hcl4 : ClI c F S w g (w.heap.size + 1) w.heap.size c0 F0 [] { cl0 S with kept := [] } w4 := by
    refine ⟨hAt0.same rfl rfl rfl rfl rfl fun i hi => ?_, ⟨hx3.below hb4 hx3.lt, ?_, List.nodup_nil, by simp, by omega, ⟨?_, ?_, hc0 _ (by omega), hc0 _ (by omega)⟩, hAt0.lt⟩, hbw, fun k hk => ?_, ⟨by omega, by omega⟩, fun n hn => ?_, rfl⟩
    · rcases hi with ⟨p, e⟩ | ⟨p, e⟩ | ⟨l, e, -⟩ <;> simp [FsM.new] at e
    · have := hm3.keep (hb4.block w.heap.size (by omega))
      simpa [twV] using this
    · by_cases e : c (w.heap.size + 1) = 0
      · exact e
      · have := h.lt _ e; omega
    · by_cases e : c w.heap.size = 0
      · exact e
      · have := h.lt _ e; omega
    · by_cases e : k < w.heap.size
      · exact absurd (hc0 k (by omega)) hk
      · omega
    · rcases hn with ⟨p, e⟩ | ⟨p, e⟩ | ⟨l, e, -⟩ <;> simp [cl0, FsM.new] at e
  have hcl5 := hcl4.newB hb5
  have hc0r : c0 w4.heap.size = 0 := by
    by_cases e : c0 w4.heap.size = 0
    · exact e
    · have := hAt0.lt _ e; omega
  have HCL5 := Lib.hid hcl5
  have HR5 := Lib.hid hR5
  have HC0R := Lib.hid hc0r
  have hw42 : w.heap.size + 2 ≤ w4.heap.size := by omega
  have hw54 : w4.heap.size < w5.heap.size := by omega
  clear hnw hAt0 hc0 hb4 hb3 hx3 hm3 hz3 hmk hroom hbw hR5 hb5 hcl4 hcl5 hc0r h hO hch d03 d2 hs4 hins hz5 hL hW1 hW3
  go_wp2
  go_loopg [6] S.kept.length (fun g6 u wr => ∃ (c2 G : Nat → Nat) (D : List Nat) (Kd ls : Dir), ls.length = g6 ∧ MapRng wr bk w4.heap.size (S.kept.map (pv F)) (ls.map (pv F)) ∧ ClI c F S w g (w.heap.size + 1) w.heap.size c2 G D { cl0 S with kept := Kd } wr ∧ Hid ((Kd ++ ls).Perm S.kept) ∧ w5.heap.size ≤ wr.heap.size ∧ c2 w4.heap.size = 0)
  case atStart => exact ⟨c0, F0, [], [], S.kept, rfl, HR5.out, HCL5.out, List.Perm.refl _, Nat.le_refl _, HC0R.out⟩
  case round =>
    obtain ⟨c2, G, D, Kd, ls, hg6, hrng, hcl, hperm, hsz, hcr⟩ := hrel
    clear HCL5 HR5 HC0R
    rcases pv_next hrng with ⟨h0, hnx⟩ | ⟨x, ls', w6, hpx, hnx, hrng6, ht6, hz6, hen⟩
    · subst h0
      have hKp : Kd.Perm S.kept := by have := hperm.out; rwa [List.append_nil] at this
      obtain ⟨bn2, bk2, A2, n2, -, -, k2, -, -, kf, -, -, -, k9, -, -, -⟩ := hcl.fs.open_
      obtain ⟨es, clock, q1, q2, q3⟩ := k9.out
      have hCl := Lib.hid (AnyW.maps_Clone Tryd.cloneM bk2 es clock wr q1)
      change Hid (Calls Tryd.prog 28 _ _ _) at hCl
      obtain ⟨Wa, hWa⟩ : ∃ W, wr.alloc (.map es clock) = W := ⟨_, rfl⟩
      rw [hWa] at hCl
      obtain ⟨Wb, hWb⟩ : ∃ W, Wa.setCell ⟨g, 1, none⟩ (.map (some wr.heap.size)) = W := ⟨_, rfl⟩
      have hclb := Lib.hid (ClI.now hcl rfl k2 q1 hKp hWa.symm hWb.symm rfl rfl)
      have hgl := hcl.fs.lt g (by have := hcl.fs.col; omega)
      have hba : Below wr.heap.size wr Wa := by rw [← hWa]; exact (Below.refl _ wr).alloc (Nat.le_refl _) _
      obtain ⟨bn3, bk3, A3, n3, -, z1, -, -, -, zf, -, -, -, -, -, -, zb⟩ := (hcl.fs.below hba).open_
      have zf1 := zf 1
      have hCK : ({ { cl0 S with kept := Kd } with kept := S.kept, now := S.kept } : FsM) = clk S 0 := rfl
      rw [hCK] at hclb
      obtain ⟨h, hO, hb3, hx3, hm3, hz3, hmk, hL, hch⟩ := HX.out
      have y3 := (hclb.out.below.cell (p := ⟨f, 3, none⟩) hfl).trans d3
      obtain ⟨vs, r1, r2, r3⟩ := hch.out
      have HROW := Lib.hid (And.intro r1 (And.intro r2 r3))
      clear hcl hKp hperm kf k9 q1 q2 q3 hrng hsz hcr hg6 hba zf zb hCK h hO hb3 hx3 hm3 hz3 hmk hL hch r1 r2 r3 hWa
      go_wp2_with fail
      refine hCl.out.mono ?_
      rintro e w6 ⟨rfl, rfl⟩
      clear hCl
      go_wp2
      go_loopg [54] L (fun g7 i wr => ∃ (k : Nat) (c2 G : Nat → Nat) (D : List Nat), k + g7 = L ∧ i = .int .i64 k ∧ ClI c F S w g (w.heap.size + 1) w.heap.size c2 G D (clk S k) wr)
      case atStart => exact ⟨0, _, _, _, by omega, rfl, hclb.out⟩
      case round =>
        obtain ⟨k, c4, G4, D4, hk, rfl, hcl⟩ := hrel
        clear hclb
        by_cases hlt : k < L
        · obtain ⟨r1, r2, r3⟩ := HROW.out
          obtain ⟨h, hO, hb3, hx3, hm3, hz3, hmk, hL, hch⟩ := HX.out
          have hkl : k < S.chg.length := by rw [hL]; exact hlt
          obtain ⟨Ak, nk, e1, e2', e3⟩ := r3 k hkl
          have r1r := ownsRow_kept r1 (w' := wr) fun k e => hcl.below.block k (World.ownsRow.lt r1 k e).2
          obtain ⟨ad, hA, hc⟩ : ∃ ad, A0 = some ad ∧ wr.cell? (ad.add k) = some (.slice Ak (S.chg[k]).length nk) := by
            rcases (Sees.of_own r1r).out with e | ⟨ad, ea, -, ec⟩
            · rw [e] at e1; simp at e1
            · exact ⟨ad, ea, ec k _ e1⟩
          subst hA
          obtain ⟨ck, hck⟩ : ∃ ck, S.chg[k] = ck := ⟨_, rfl⟩
          have hl2 := hO.chg2 _ (List.getElem_mem hkl)
          have hnm : ∀ p n, (p, some n) ∈ ck → S.reach n := fun p n hp => .inr (.inr ⟨ck, by rw [← hck]; exact List.getElem_mem hkl, p, hp⟩)
          have hT := Lib.hid (show clk S (k + 1) = (clk S k).change ck by
            unfold clk FsM.change
            rw [List.take_succ_eq_append_getElem hkl, List.foldl_append, hck]
            rfl)
          rw [hck] at hc e2' e3 hl2
          obtain ⟨lk, hlk⟩ : ∃ lk, ck.length = lk := ⟨_, rfl⟩
          rw [hlk] at hc e2' hl2
          have HLK := Lib.hid hlk
          have HNM := Lib.hid hnm
          have HSEE := Lib.hid (e3.keep (Kept.of_below hcl.below fun k e => h.lt k (by omega)))
          have hq5 : ∀ j, c j = 5 → j < w.heap.size := fun j e => h.lt j (by omega)
          have HQ5 := Lib.hid hq5
          have HRI := Lib.hid (show RiD (clk S k).now from ri_fold _ hO.keptR)
          have HCN : Hid ((clk S k).chg.length ≤ 100000) := by unfold Hid; show (S.chg.take k).length ≤ _; rw [List.length_take]; have := hO.many; omega
          have hsw := hcl.below.size
          have HCL := Lib.hid hcl
          clear r1 r2 r3 h hO hb3 hx3 hm3 hz3 hmk hL hch e1 e3 r1r hck hnm hlk hq5 hcl hkl
          obtain ⟨wo, rfl⟩ : ∃ W, W = wr := ⟨_, rfl⟩
          go_wp2
          go_loopg [10, 60] lk (fun g8 v i2 wz => ∃ (j : Nat) (c3 G3 : Nat → Nat) (D3 : List Nat), j + g8 = lk ∧ i2 = .int .i64 j ∧ ClI c F S w g (w.heap.size + 1) w.heap.size c3 G3 D3 (clk S k) wz ∧ wz.ownsRow (w.heap.size + 2) 56 2 v j (givV G3 (ck.take j)) ∧
            Hid ((∀ p n, (p, some n) ∈ ck.take j → n ∈ D3) ∧ (∀ b, v.ownBlock = some b → c3 b = 0) ∧ Kept (fun k => c k = 5) wo wz) ∧ w.heap.size + 2 ≤ wz.heap.size)
          case atStart => exact ⟨0, c4, G4, D4, by omega, rfl, HCL.out, World.ownsRow_nil _ _ _ _, ⟨by simp, fun b hb => by simp [Value.ownBlock] at hb, Kept.refl _ _⟩, by have := HCL.out.tw.box.lt; omega⟩
          case round =>
            obtain ⟨j, c3, G3, D3, hj, rfl, hclz, hown, hst, hzs⟩ := hrel
            clear HCL
            by_cases hlt2 : j < lk
            · have hjl : j < ck.length := by rw [HLK.out]; exact hlt2
              obtain ⟨ad2, hA2, hq2, g1, g2⟩ := (HSEE.out.keep hst.out.2.2).giv hjl
              subst hA2
              obtain ⟨Av, cv, hv, -, -⟩ := row_open hown
              subst hv
              have hTK := Lib.hid (show ck.take (j + 1) = ck.take j ++ [ck[j]] from List.take_succ_eq_append_getElem hjl)
              obtain ⟨gj, hgj⟩ : ∃ gj, ck[j] = gj := ⟨_, rfl⟩
              have hmem : gj ∈ ck := by rw [← hgj]; exact List.getElem_mem hjl
              rw [hgj] at g1 g2 hTK
              obtain ⟨p, o⟩ := gj
              obtain ⟨po, hpo⟩ : ∃ po, optV F o = .pointer po := by cases o <;> exact ⟨_, rfl⟩
              simp only at g1 g2
              rw [hpo] at g2
              have ho : ∀ n, o = some n → S.reach n := fun n e => HNM.out p n (by rw [← e]; exact hmem)
              obtain ⟨h, hO, -⟩ := HX.out
              obtain ⟨wv, hwv⟩ : ∃ W, wr.alloc (.cells #[.string (strOf p), .pointer po] 56) = W := ⟨_, rfl⟩
              have hbv : Below wr.heap.size wr wv := by rw [← hwv]; exact (Below.refl _ wr).alloc (Nat.le_refl _) _
              have hzv : wv.heap.size = wr.heap.size + 1 := by rw [← hwv]; simp
              have bv0 : Blk wv wr.heap.size #[.string (strOf p), .pointer po] 56 := by rw [← hwv]; exact Blk.new _ _ _
              have b0 : wv.cell? ⟨wr.heap.size, 0, none⟩ = some (.string (strOf p)) := bv0.cell 0 rfl
              have b1 : wv.cell? ⟨wr.heap.size, 1, none⟩ = some (.pointer po) := bv0.cell 1 rfl
              have hclv := hclz.newB hbv
              have htw := Lib.hid (twin_any (h.below (below_drew hclv.below)) hO (hclv.tw.keep (w' := wv.drew) (fun _ _ => rfl) (Nat.le_refl _)) o ho)
              rw [hpo] at htw
              have HCV := Lib.hid hclv
              have HBV := Lib.hid hbv
              have HOW := Lib.hid hown
              have HZV := Lib.hid hzv
              have hbtl := hclz.tw.map.lt
              obtain ⟨ti, hti, hi0, hi1, hi2⟩ := info_parts Tryd.givinfo
              have HTI := Lib.hid hti
              have HI0 := Lib.hid hi0
              have HI1 := Lib.hid hi1
              have HI2 := Lib.hid hi2
              clear hown hclz hclv bv0 hbv hzv h hO ho hmem hgj hjl hti hi0 hi1 hi2 hpo
              go_wp2_with fail
              clear hwv
              refine wp_region_noPanic ?_
              refine wp_region_held_drew (S := fun w' => w'.cell? ⟨wr.heap.size, 0, none⟩ = some (.string (strOf p)) ∧ w'.cell? ⟨wr.heap.size, 1, none⟩ = some (.pointer po)) (by kernel_rfl) ?_ (fun hHeld => ?_)
              · (exact ⟨b0, b1⟩)
              refine wpAnyH_take (i := 0) (oi := { dst := some 64, op := Op.move (Operand.tmp 10), type := 59, pos := "simfs.go:302", after := #[], guard := none }) (v := ?_) rfl (by kernel_rfl) (by kernel_rfl) (by kernel_rfl) (fun _ _ _ h => h) (Or.inl ⟨by rfl, ?_⟩) hHeld ?_
              rotate_left
              · (intro w' hSw; (try dsimp only at hSw); go_split_ands; go_simp; first | done | with_reducible rfl)
              try simp only [Act.put, List.setIfInBounds_toArray, List.set_cons_zero, List.set_cons_succ]
              refine wpAnyH_take (i := 1) (oi := { dst := some 65, op := Op.fieldAddr 56 (Operand.tmp 12) 0, type := 0, pos := "simfs.go:302", after := #[], guard := none }) (v := ?_) rfl (by kernel_rfl) (by kernel_rfl) (by kernel_rfl) (fun _ _ _ h => h) (Or.inl ⟨by rfl, ?_⟩) hHeld ?_
              rotate_left
              · (intro w' hSw; (try dsimp only at hSw); go_split_ands; go_simp; first | done | with_reducible rfl)
              try simp only [Act.put, List.setIfInBounds_toArray, List.set_cons_zero, List.set_cons_succ]
              refine wpAnyH_take (i := 2) (oi := { dst := some 66, op := Op.load 9 (Operand.tmp 65), type := 9, pos := "simfs.go:302", after := #[{ on := 1, ground := Ground.data }], guard := none }) (v := ?_) rfl (by kernel_rfl) (by kernel_rfl) (by kernel_rfl) (fun _ _ _ h => h) (Or.inl ⟨by rfl, ?_⟩) hHeld ?_
              rotate_left
              · (intro w' hSw; (try dsimp only at hSw); go_split_ands; go_simp; first | done | with_reducible rfl)
              try simp only [Act.put, List.setIfInBounds_toArray, List.set_cons_zero, List.set_cons_succ]
              refine wpAnyH_take (i := 3) (oi := { dst := some 67, op := Op.move (Operand.tmp 4), type := 65, pos := "simfs.go:302", after := #[], guard := none }) (v := ?_) rfl (by kernel_rfl) (by kernel_rfl) (by kernel_rfl) (fun _ _ _ h => h) (Or.inl ⟨by rfl, ?_⟩) hHeld ?_
              rotate_left
              · (intro w' hSw; (try dsimp only at hSw); go_split_ands; go_simp; first | done | with_reducible rfl)
              try simp only [Act.put, List.setIfInBounds_toArray, List.set_cons_zero, List.set_cons_succ]
              refine wpAnyH_take (i := 4) (oi := { dst := some 68, op := Op.fieldAddr 56 (Operand.tmp 12) 1, type := 0, pos := "simfs.go:302", after := #[], guard := none }) (v := ?_) rfl (by kernel_rfl) (by kernel_rfl) (by kernel_rfl) (fun _ _ _ h => h) (Or.inl ⟨by rfl, ?_⟩) hHeld ?_
              rotate_left
              · (intro w' hSw; (try dsimp only at hSw); go_split_ands; go_simp; first | done | with_reducible rfl)
              try simp only [Act.put, List.setIfInBounds_toArray, List.set_cons_zero, List.set_cons_succ]
              refine wpAnyH_take (i := 5) (oi := { dst := some 69, op := Op.load 48 (Operand.tmp 68), type := 48, pos := "simfs.go:302", after := #[{ on := 4, ground := Ground.data }], guard := none }) (v := ?_) rfl (by kernel_rfl) (by kernel_rfl) (by kernel_rfl) (fun _ _ _ h => h) (Or.inl ⟨by rfl, ?_⟩) hHeld ?_
              rotate_left
              · (intro w' hSw; (try dsimp only at hSw); go_split_ands; go_simp; first | done | with_reducible rfl)
              try simp only [Act.put, List.setIfInBounds_toArray, List.set_cons_zero, List.set_cons_succ]
              refine wpAnyH_ready (rs := [6]) (by kernel_rfl) (by simp) ?_
              refine AllReadyH.cons (o := { dst := some 70, op := Op.call { callee := Callee.value (Operand.tmp 67), args := #[Operand.tmp 69], argTypes := #[48] }, type := 48, pos := "simfs.go:302", after := #[{ on := 3, ground := Ground.data }, { on := 5, ground := Ground.data }], guard := none }) rfl (fun K hK => ?_) AllReadyH.nil
              go_simp
              refine htw.out.mono ?_
              rintro e w7 ⟨c5, G5, D5, rfl, hst5'⟩
              obtain ⟨pr, hpr⟩ : ∃ pr, optV G5 o = .pointer pr := by cases o <;> exact ⟨_, rfl⟩
              rw [hpr]
              have hst5 : TwStep c F S c3 G3 D3 wv (w.heap.size + 1) w.heap.size o c5 G5 D5 w7 := ⟨hst5'.at_, hst5'.has, hst5'.old, hst5'.col, hst5'.new, ⟨hst5'.turn.os, hst5'.turn.tape, hst5'.turn.output, hst5'.turn.size, hst5'.turn.block⟩⟩
              have x0 := (hst5.turn.keep (p := ⟨wr.heap.size, 0, none⟩) (by show wr.heap.size < _; have := HZV.out; omega) (by show wr.heap.size ≠ _; omega)).trans b0
              have x1 := (hst5.turn.keep (p := ⟨wr.heap.size, 1, none⟩) (by show wr.heap.size < _; have := HZV.out; omega) (by show wr.heap.size ≠ _; omega)).trans b1
              have HST5 := Lib.hid hst5
              have HPR := Lib.hid hpr
              clear hst5 hst5' hpr
              refine hK.out _ _ ?_ ?_
              · (exact ⟨x0, x1⟩)
              clear hK K hHeld; intro hHeld
              try simp only [Act.put, List.setIfInBounds_toArray, List.set_cons_zero, List.set_cons_succ]
              refine wpAnyH_take (i := 7) (oi := { dst := some 71, op := Op.build 56 #[(0, Operand.tmp 66), (1, Operand.tmp 70)], type := 56, pos := "simfs.go:302", after := #[{ on := 2, ground := Ground.data }, { on := 6, ground := Ground.data }], guard := none }) (v := ?_) rfl (by kernel_rfl) (by kernel_rfl) (by kernel_rfl) (fun _ _ _ h => h) (Or.inl ⟨by rfl, ?_⟩) hHeld ?_
              rotate_left
              · (intro w' hSw; (try dsimp only at hSw); go_split_ands; go_simp; first | done | with_reducible rfl)
              try simp only [Act.put, List.setIfInBounds_toArray, List.set_cons_zero, List.set_cons_succ]
              refine wpAnyH_ready (rs := [8]) (by kernel_rfl) (by simp) ?_
              refine AllReadyH.cons (o := { dst := some 72, op := Op.buildSlice 59 1 #[(0, Operand.tmp 71)], type := 59, pos := "simfs.go:302", after := #[{ on := 7, ground := Ground.data }], guard := none }) rfl (fun K hK => ?_) AllReadyH.nil
              go_simp
              have hb8 : Below w7.heap.size w7 (w7.alloc (.cells #[.string (strOf p), .pointer pr] 56)) := (Below.refl _ w7).alloc (Nat.le_refl _) _
              have hsee8 := Lib.hid (sees_cells w7 _ rfl [.string (strOf p), .pointer pr] 56 #[.string (strOf p), .pointer pr] rfl)
              have hzz : wr.heap.size < w7.heap.size := by have := HZV.out; have := HST5.out.turn.size; omega
              have hz8 : (w7.alloc (.cells #[.string (strOf p), .pointer pr] 56)).heap.size = w7.heap.size + 1 := by simp
              obtain ⟨w8, hw8⟩ : ∃ W, w7.alloc (.cells #[.string (strOf p), .pointer pr] 56) = W := ⟨_, rfl⟩
              rw [hw8] at hb8 hsee8 hz8 ⊢
              have y0 := (hb8.cell (p := ⟨wr.heap.size, 0, none⟩) hzz).trans x0
              have y1 := (hb8.cell (p := ⟨wr.heap.size, 1, none⟩) hzz).trans x1
              have HZ8 := Lib.hid hz8
              have HB8 := Lib.hid hb8
              have hown8 : w8.ownsRow (w.heap.size + 2) 56 2 (.slice Av j cv) j (givV G3 (ck.take j)) := ownsRow_kept HOW.out fun k e => by
                have hk := World.ownsRow.lt HOW.out k e
                rw [hb8.block k (by omega), HST5.out.turn.block k (by have := HZV.out; omega) (by omega), HBV.out.block k hk.2]
              refine hK.out _ _ ?_ ?_
              · (exact ⟨y0, y1⟩)
              clear hK K hHeld; intro hHeld
              try simp only [Act.put, List.setIfInBounds_toArray, List.set_cons_zero, List.set_cons_succ]
              refine wpAnyH_ready (rs := [9]) (by kernel_rfl) (by simp) ?_
              refine AllReadyH.cons (o := { dst := some 73, op := Op.call { callee := Callee.builtin Builtin.append, args := #[Operand.tmp 64, Operand.tmp 72], argTypes := #[59, 59] }, type := 59, pos := "simfs.go:302", after := #[{ on := 0, ground := Ground.data }, { on := 8, ground := Ground.data }, { on := 6, ground := Ground.chain }], guard := none }) rfl (fun K hK => ?_) AllReadyH.nil
              refine step_append_v (by rfl) (.tmp 64) (.tmp 72) 59 (by rfl) 56 ti _ 2 24 Tryd.underlying59 HTI.out HI0.out HI1.out HI2.out rfl (by omega) (w.heap.size + 2) _ j (givV G3 (ck.take j)) (by rfl) hown8 (w7.heap.size + 1) (some ⟨w7.heap.size, 0, none⟩) 1 1 [.string (strOf p), .pointer pr] (by rfl) rfl hsee8.out (fun u hu => by simp at hu; rcases hu with rfl | rfl <;> rfl) (by simp only [maxLen]; omega) (by omega) (by have := HZ8.out; omega) ?_
              intro v9 w9 hown9 hon9
              obtain ⟨A9, c9, hv9, -, -⟩ := row_open hown9
              subst hv9
              have hne9 : (Value.slice Av j cv).ownBlock ≠ some wr.heap.size := fun e => by have := (World.ownsRow.lt HOW.out _ e).2; omega
              have hbl9 := hon9.grown.block wr.heap.size (by have := HZ8.out; omega) (fun e => hne9 e.symm)
              have u0 := (World.cell?_of_block (a := ⟨wr.heap.size, 0, none⟩) hbl9).trans y0
              have u1 := (World.cell?_of_block (a := ⟨wr.heap.size, 1, none⟩) hbl9).trans y1
              have HOWN9 := Lib.hid hown9
              have HON9 := Lib.hid hon9
              clear hown9 hon9 hown8 hne9 hbl9 hb8 hz8
              refine hK.out _ _ ?_ ?_
              · (exact ⟨u0, u1⟩)
              clear hK K hHeld; intro hHeld
              try simp only [Act.put, List.setIfInBounds_toArray, List.set_cons_zero, List.set_cons_succ]
              refine wpAnyH_take (i := 10) (oi := { dst := some 10, op := Op.assign (Operand.tmp 73), type := 59, pos := "simfs.go:302", after := #[{ on := 9, ground := Ground.data }, { on := 9, ground := Ground.chain }, { on := 0, ground := Ground.phase }, { on := 1, ground := Ground.phase }, { on := 2, ground := Ground.phase }, { on := 3, ground := Ground.phase }, { on := 4, ground := Ground.phase }, { on := 5, ground := Ground.phase }, { on := 6, ground := Ground.phase }, { on := 7, ground := Ground.phase }, { on := 8, ground := Ground.phase }, { on := 9, ground := Ground.phase }], guard := none }) (v := ?_) rfl (by kernel_rfl) (by kernel_rfl) (by kernel_rfl) (fun _ _ _ h => h) (Or.inl ⟨by rfl, ?_⟩) hHeld ?_
              rotate_left
              · (intro w' hSw; (try dsimp only at hSw); go_split_ands; go_simp; first | done | with_reducible rfl)
              try simp only [Act.put, List.setIfInBounds_toArray, List.set_cons_zero, List.set_cons_succ]
              refine wpAnyH_done (by kernel_rfl) ?_ _
              refine NoPanic.normal ?_
              have HQ := Lib.hid (show ∃ (c3 G3 : Nat → Nat) (D3 : List Nat), ClI c F S w g (w.heap.size + 1) w.heap.size c3 G3 D3 (clk S k) w9 ∧ w9.ownsRow (w.heap.size + 2) 56 2 (.slice A9 (j + 1) c9) (j + 1) (givV G3 (ck.take (j + 1))) ∧
                  Hid ((∀ p n, (p, some n) ∈ ck.take (j + 1) → n ∈ D3) ∧ (∀ b, (Value.slice A9 (j + 1) c9).ownBlock = some b → c3 b = 0) ∧ Kept (fun k => c k = 5) wo w9) ∧ w.heap.size + 2 ≤ w9.heap.size from by
                have hs7 := HST5.out.turn.size
                have hs9 := HON9.out.size
                have hz8 := HZ8.out
                have hzv := HZV.out
                have hvl := World.ownsRow.lt HOW.out
                have hfree5 : ∀ b, (Value.slice Av j cv).ownBlock = some b → c5 b = 0 := fun b e => by
                  by_cases e2 : c5 b = 0
                  · exact e2
                  · rcases HST5.out.new b e2 with e3 | e3
                    · exact absurd (hst.out.2.1 b e) e3
                    · have := (hvl b e).2; omega
                have hcl7 := HCV.out.twin HST5.out
                have hcl9 := (hcl7.newB HB8.out).turn (Turn.onto (T := fun k => (Value.slice Av j cv).ownBlock = some k) HON9.out fun k e => e) fun k e => ⟨hfree5 k e, by have := (hvl k e).1; omega, by have := (hvl k e).1; omega, by have := (hvl k e).1; omega⟩
                have hgv : givV G5 (ck.take (j + 1)) = givV G3 (ck.take j) ++ [.string (strOf p), .pointer pr] := by
                  rw [hTK.out, givV_append, givV_congr (F := G3) fun p n hp => (HST5.out.old n (hst.out.1 p n hp)).2]
                  rw [← HPR.out]
                  rfl
                refine ⟨c5, G5, D5, hcl9, by rw [hgv]; exact HOWN9.out, ⟨fun p' n hp => ?_, fun b e => ?_, ?_⟩, by omega⟩
                · rw [hTK.out] at hp
                  rcases List.mem_append.1 hp with hp | hp
                  · exact (HST5.out.old n (hst.out.1 p' n hp)).1
                  · simp only [List.mem_singleton, Prod.mk.injEq] at hp
                    exact HST5.out.has n hp.2.symm
                · rcases HON9.out.at_ with e2 | ⟨q, e2, hq⟩
                  · exact hfree5 b (e2 ▸ e)
                  · rw [e2] at e
                    injection e with e
                    by_cases e3 : c5 b = 0
                    · exact e3
                    · have := HST5.out.at_.lt b e3; omega
                · refine (((hst.out.2.2.trans (Kept.of_below HBV.out fun k e => ?_)).trans (Kept.of_turn HST5.out.turn fun k e => ⟨?_, ?_⟩)).trans (Kept.of_below HB8.out fun k e => ?_)).trans fun k e => HON9.out.grown.block k ?_ fun e2 => ?_
                  · have := HQ5.out k e; omega
                  · have := HQ5.out k e; omega
                  · have := HQ5.out k e; omega
                  · have := HQ5.out k e; omega
                  · have := HQ5.out k e; omega
                  · have h1 := HQ5.out k e
                    have := (hvl k e2.symm).1
                    omega)
              clear HOWN9 HON9 HZ8 HB8 HST5 HPR htw HCV HBV HOW HZV hst hsee8 hTK
              go_wp2
              go_roundg (lk - (j + 1))
              case measure => omega
              case rel =>
                obtain ⟨c6, G6, D6, q1, q2, q3, q4⟩ := HQ.out
                exact ⟨j + 1, c6, G6, D6, by omega, by go_num, q1, q2, q3, q4⟩
            · obtain rfl : j = lk := by omega
              obtain ⟨Av, cv, hv, hvc, -⟩ := row_open hown
              subst hv
              have htk : ck.take j = ck := by rw [List.take_of_length_le (by rw [HLK.out]; omega)]
              rw [htk] at hown hst
              have hvl := World.ownsRow.lt hown
              have hchg := Lib.hid (clI_change hclz rfl hvc HLK.out (by omega) hown (by omega) (fun b e => ⟨hst.out.2.1 b e, by have := (hvl b e).1; omega, by have := (hvl b e).1; omega⟩) hst.out.1 HRI.out HCN.out)
              clear hown hclz hst htk hvl HSEE HNM
              go_wp2_with fail
              refine hchg.out.mono ?_
              rintro e w7 ⟨rfl, c6, hcl6⟩
              have HC6 := Lib.hid hcl6
              clear hcl6 hchg
              go_wp2
              go_roundg (L - (k + 1))
              case measure => omega
              case rel => exact ⟨k + 1, c6, G3, D3, by omega, by go_num, by rw [hT.out]; exact HC6.out⟩
        · obtain rfl : k = L := by omega
          have y4 := (hcl.below.cell (p := ⟨f, 4, none⟩) hfl).trans d4
          obtain ⟨bn3, bk3, A3, n3, -, -, -, -, z4, zf, -⟩ := hcl.fs.open_
          have zf4 := zf 4
          have hfin := Lib.hid (show FsAt c4 G4 (wr.setCell ⟨g, 4, none⟩ (.int .i64 (S.fuse : Int))) g S ∧ (∀ k, k < w.heap.size → c4 k = 0) ∧ Below w.heap.size w (wr.setCell ⟨g, 4, none⟩ (.int .i64 (S.fuse : Int))) from by
            obtain ⟨h, hO, hb3, hx3, hm3, hz3, hmk, hL, hch⟩ := HX.out
            have hgw : w.heap.size ≤ g := hcl.new g (by have := hcl.fs.col; omega)
            refine ⟨(hcl.fs.setFuse S.fuse).same rfl ?_ rfl ?_ rfl fun i _ => rfl, fun k hk => ?_, hcl.below.setCell hgw _⟩
            · show S.now = (S.chg.take k).foldl againD S.kept
              rw [hO.again, List.take_of_length_le (by omega)]
            · show S.chg = S.chg.take k
              rw [List.take_of_length_le (by omega)]
            · by_cases e : c4 k = 0
              · exact e
              · have := hcl.new k e; omega)
          clear hcl zf HROW HX
          go_wp2
          go_ret
          exact ⟨g, c4, G4, rfl, hfin.out⟩
    · have HG6 := Lib.hid hg6
      have hcl6 := hcl.turn ht6 (fun k e => ⟨by rw [e]; exact hcr, by omega, by omega, by omega⟩)
      obtain ⟨h, hO, -⟩ := HX.out
      have hxk : x ∈ S.kept := (hperm.out.mem_iff).1 (List.mem_append_right _ (hpx.mem_iff.2 (by simp)))
      have htw := Lib.hid (twin_any (h.below (below_drew hcl6.below)) hO (hcl6.tw.keep (w' := w6.drew) (fun _ _ => rfl) (Nat.le_refl _)) (some x.2) (fun n e => by injection e with e; rw [← e]; exact .inr (.inl ⟨x.1, hxk⟩)))
      simp only [optV, ptr] at htw
      obtain ⟨bn2, bk2, A2, n2, -, -, k2, -, -, kf, -, -, -, -, -, -, -⟩ := hcl6.fs.open_
      have hgl := hcl6.fs.lt g (by have := hcl6.fs.col; omega)
      have hgb : g ≠ w.heap.size := fun e => by have h1 := hcl6.fs.col; have h2 := hcl6.tw.off.2.2.2; rw [e] at h1; omega
      have HC6 := Lib.hid hcl6
      have HPX := Lib.hid (And.intro hperm.out (And.intro hpx (And.intro hcr (And.intro hrng6 (And.intro ht6.size hsz)))))
      clear hcl hrng hperm hg6 hcl6 h hO hxk hrng6 ht6 hpx kf hcr
      go_wp2_with fail
      refine wp_region_noPanic ?_
      refine wp_region_held_drew (S := fun w' => w'.cell? ⟨g, 2, none⟩ = some (.map (some bk2))) (by kernel_rfl) ?_ (fun hHeld => ?_)
      · (exact k2)
      refine wpAnyH_take (i := 0) (oi := { dst := some 33, op := Op.move (Operand.tmp 5), type := 25, pos := "simfs.go:296", after := #[], guard := none }) (v := ?_) rfl (by kernel_rfl) (by kernel_rfl) (by kernel_rfl) (fun _ _ _ h => h) (Or.inl ⟨by rfl, ?_⟩) hHeld ?_
      rotate_left
      · (intro w' hSw; (try dsimp only at hSw); go_split_ands; go_simp; first | done | with_reducible rfl)
      try simp only [Act.put, List.setIfInBounds_toArray, List.set_cons_zero, List.set_cons_succ]
      refine wpAnyH_take (i := 1) (oi := { dst := some 34, op := Op.nilCheck (Operand.tmp 33), type := 0, pos := "simfs.go:296", after := #[{ on := 0, ground := Ground.data }], guard := none }) (v := ?_) rfl (by kernel_rfl) (by kernel_rfl) (by kernel_rfl) (fun _ _ _ h => h) (Or.inl ⟨by rfl, ?_⟩) hHeld ?_
      rotate_left
      · (intro w' hSw; (try dsimp only at hSw); go_split_ands; go_simp; first | done | with_reducible rfl)
      try simp only [Act.put, List.setIfInBounds_toArray, List.set_cons_zero, List.set_cons_succ]
      refine wpAnyH_take (i := 2) (oi := { dst := some 35, op := Op.fieldAddr 47 (Operand.tmp 34) 2, type := 0, pos := "simfs.go:296", after := #[{ on := 1, ground := Ground.data }], guard := none }) (v := ?_) rfl (by kernel_rfl) (by kernel_rfl) (by kernel_rfl) (fun _ _ _ h => h) (Or.inl ⟨by rfl, ?_⟩) hHeld ?_
      rotate_left
      · (intro w' hSw; (try dsimp only at hSw); go_split_ands; go_simp; first | done | with_reducible rfl)
      try simp only [Act.put, List.setIfInBounds_toArray, List.set_cons_zero, List.set_cons_succ]
      refine wpAnyH_take (i := 3) (oi := { dst := some 36, op := Op.load 44 (Operand.tmp 35), type := 44, pos := "simfs.go:296", after := #[{ on := 2, ground := Ground.data }], guard := none }) (v := ?_) rfl (by kernel_rfl) (by kernel_rfl) (by kernel_rfl) (fun _ _ _ h => h) (Or.inl ⟨by rfl, ?_⟩) hHeld ?_
      rotate_left
      · (intro w' hSw; (try dsimp only at hSw); go_split_ands; go_simp; first | done | with_reducible rfl)
      try simp only [Act.put, List.setIfInBounds_toArray, List.set_cons_zero, List.set_cons_succ]
      refine wpAnyH_take (i := 4) (oi := { dst := some 37, op := Op.move (Operand.tmp 6), type := 9, pos := "simfs.go:296", after := #[], guard := none }) (v := ?_) rfl (by kernel_rfl) (by kernel_rfl) (by kernel_rfl) (fun _ _ _ h => h) (Or.inl ⟨by rfl, ?_⟩) hHeld ?_
      rotate_left
      · (intro w' hSw; (try dsimp only at hSw); go_split_ands; go_simp; first | done | with_reducible rfl)
      try simp only [Act.put, List.setIfInBounds_toArray, List.set_cons_zero, List.set_cons_succ]
      refine wpAnyH_take (i := 5) (oi := { dst := some 38, op := Op.move (Operand.tmp 4), type := 65, pos := "simfs.go:296", after := #[], guard := none }) (v := ?_) rfl (by kernel_rfl) (by kernel_rfl) (by kernel_rfl) (fun _ _ _ h => h) (Or.inl ⟨by rfl, ?_⟩) hHeld ?_
      rotate_left
      · (intro w' hSw; (try dsimp only at hSw); go_split_ands; go_simp; first | done | with_reducible rfl)
      try simp only [Act.put, List.setIfInBounds_toArray, List.set_cons_zero, List.set_cons_succ]
      refine wpAnyH_take (i := 6) (oi := { dst := some 39, op := Op.move (Operand.tmp 7), type := 48, pos := "simfs.go:296", after := #[], guard := none }) (v := ?_) rfl (by kernel_rfl) (by kernel_rfl) (by kernel_rfl) (fun _ _ _ h => h) (Or.inl ⟨by rfl, ?_⟩) hHeld ?_
      rotate_left
      · (intro w' hSw; (try dsimp only at hSw); go_split_ands; go_simp; first | done | with_reducible rfl)
      try simp only [Act.put, List.setIfInBounds_toArray, List.set_cons_zero, List.set_cons_succ]
      refine wpAnyH_ready (rs := [7]) (by kernel_rfl) (by simp) ?_
      refine AllReadyH.cons (o := { dst := some 40, op := Op.call { callee := Callee.value (Operand.tmp 38), args := #[Operand.tmp 39], argTypes := #[48] }, type := 48, pos := "simfs.go:296", after := #[{ on := 5, ground := Ground.data }, { on := 6, ground := Ground.data }], guard := none }) rfl (fun K hK => ?_) AllReadyH.nil
      go_simp
      refine htw.out.mono ?_
      rintro e w7 ⟨c3, G3, D3, rfl, hst⟩
      have hst6 : TwStep c F S c2 G D w6 (w.heap.size + 1) w.heap.size (some x.2) c3 G3 D3 w7 := ⟨hst.at_, hst.has, hst.old, hst.col, hst.new, ⟨hst.turn.os, hst.turn.tape, hst.turn.output, hst.turn.size, hst.turn.block⟩⟩
      have k7 : w7.cell? ⟨g, 2, none⟩ = some (.map (some bk2)) := (hst6.turn.keep (p := ⟨g, 2, none⟩) hgl hgb).trans k2
      have HST := Lib.hid hst6
      simp only [optV, ptr]
      clear hst hst6
      refine hK.out _ _ ?_ ?_
      · (exact k7)
      clear hK K hHeld; intro hHeld
      try simp only [Act.put, List.setIfInBounds_toArray, List.set_cons_zero, List.set_cons_succ]
      refine wpAnyH_ready (rs := [8]) (by kernel_rfl) (by simp) ?_
      refine AllReadyH.cons (o := { dst := none, op := Op.mapUpdate 44 (Operand.tmp 36) (Operand.tmp 37) (Operand.tmp 40), type := 0, pos := "simfs.go:296", after := #[{ on := 3, ground := Ground.data }, { on := 4, ground := Ground.data }, { on := 7, ground := Ground.data }, { on := 7, ground := Ground.chain }, { on := 0, ground := Ground.phase }, { on := 1, ground := Ground.phase }, { on := 2, ground := Ground.phase }, { on := 3, ground := Ground.phase }, { on := 4, ground := Ground.phase }, { on := 5, ground := Ground.phase }, { on := 6, ground := Ground.phase }, { on := 7, ground := Ground.phase }], guard := none }) rfl (fun K hK => ?_) AllReadyH.nil
      obtain ⟨hperm, hpx, hcr, hrng6, hs6, hsz6⟩ := HPX.out
      obtain ⟨h, hO, -⟩ := HX.out
      have hcl7 := HC6.out.twin HST.out
      obtain ⟨w8, hrun, hcl8, ht8, hb3⟩ := hcl7.kept rfl k7 (x := x) (HST.out.has x.2 rfl) (by
        have h1 := keys_of_perm ((List.Perm.append_left Kd hpx.symm).trans hperm) hO.keptR
        rw [List.append_cons] at h1
        exact (List.pairwise_append.1 h1).1)
      have hgk : g ≠ bk2 := fun e => by have h1 := hcl7.fs.col; rw [e] at h1; omega
      have k8 : w8.cell? ⟨g, 2, none⟩ = some (.map (some bk2)) := (ht8.keep (p := ⟨g, 2, none⟩) (Nat.lt_of_lt_of_le hgl HST.out.turn.size) hgk).trans k7
      have HC8 := Lib.hid hcl8
      have HT8 := Lib.hid (And.intro ht8 hb3)
      clear hperm hpx hcr hrng6 hs6 hsz6 h hO hcl7 hcl8 ht8 hb3
      go_simp
      refine hK.out _ _ ?_ ?_
      · (exact k8)
      clear hK K hHeld; intro hHeld
      try simp only [Act.put, List.setIfInBounds_toArray, List.set_cons_zero, List.set_cons_succ]
      refine wpAnyH_done (by kernel_rfl) ?_ _
      refine NoPanic.normal ?_
      have HQ := Lib.hid (show ∀ g', ls'.length = g' → ∃ (c2 G : Nat → Nat) (D : List Nat) (Kd ls : Dir), ls.length = g' ∧ MapRng w8 bk w4.heap.size (S.kept.map (pv F)) (ls.map (pv F)) ∧ ClI c F S w g (w.heap.size + 1) w.heap.size c2 G D { cl0 S with kept := Kd } w8 ∧ Hid ((Kd ++ ls).Perm S.kept) ∧ w5.heap.size ≤ w8.heap.size ∧ c2 w4.heap.size = 0 from fun g' hg' => by
        obtain ⟨hperm, hpx, hcr, hrng6, hs6, hsz6⟩ := HPX.out
        obtain ⟨h, hO, -, -, -, -, hmk, -⟩ := HX.out
        have s7 := HST.out.turn.size
        have s8 := HT8.out.1.size
        have hbkl : bk < w.heap.size := hmk.lt
        have hb2n : w.heap.size ≤ bk2 := (HC6.out.twin HST.out).new bk2 (by rw [HT8.out.2]; omega)
        have hc3r : c3 w4.heap.size = 0 := by
          by_cases e : c3 w4.heap.size = 0
          · exact e
          · rcases HST.out.new _ e with e2 | e2
            · exact absurd hcr e2
            · omega
        refine ⟨c3, G3, D3, Kd ++ [x], ls', hg', hrng6.keep ?_ ?_, HC8.out, ?_, by omega, hc3r⟩
        · rw [HT8.out.1.block bk (by omega) (by omega), HST.out.turn.block bk (by omega) (by omega)]
        · rw [HT8.out.1.block _ (by omega) (fun e => by rw [e, HT8.out.2] at hc3r; omega), HST.out.turn.block _ (by omega) (by omega)]
        · show (Kd ++ [x] ++ ls').Perm S.kept
          rw [← List.append_cons]
          exact (List.Perm.append_left Kd hpx.symm).trans hperm)
      have HLEN := Lib.hid HPX.out.2.1.length_eq
      clear HPX HC8 HT8 htw
      go_wp2
      go_roundg ls'.length
      case measure => have := HLEN.out; have := HG6.out; simp only [List.length_cons] at *; omega
      case rel => exact HQ.out _ rfl
end Go.Proofs.YteidkmiladkoiaaDoor
