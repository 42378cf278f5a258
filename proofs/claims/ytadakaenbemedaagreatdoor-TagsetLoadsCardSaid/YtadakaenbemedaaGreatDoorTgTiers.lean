/-
  The tiers of a set; what each of them tells.
-/
import Derived.Test.YtadakaenbemedaaGreatDoorTgMemP
import Derived.Test.YtadakaenbemedaaGreatDoorIpE
namespace Go.Proofs.YtadakaenbemedaaGreatDoor
open Go.RowKit Go.Maps

theorem Tryz.tierinfo : (Tryz.prog.info? 70).map (fun i => (i.zero, i.size, i.bytes)) = some (some .nilIface, 1, 16) := by kernel_rfl
theorem ownsRow_one (w : World) (b : Nat) (hb : w.heap.size = b) (u : Value) (t : TypeId) : (w.alloc (.cells #[u] t)).ownsRow b t 1 (.slice (some ⟨b, 0, none⟩) 1 1) 1 [u] := by
  subst hb
  exact World.ownsRow_lit (e := t) (size := 1) (base := w.heap.size) w #[u] 1 (Nat.le_refl _) (by simp [maxLen]) (by simp)

def TiersIs (w : World) (ts : List (List Item)) (e : Ending) (w' : World) : Prop := ∃ A c, e = .returned (.slice A ts.length c) ∧ TiersAt w' A ts ∧ Below w.heap.size w w'

set_option maxRecDepth 100000 in
set_option maxHeartbeats 1600000 in
theorem tiers_any (m : Nat → Prop) (w : World) (S : Nat) (s : SetM) (h : SetAt m w S s) (hr : Ri ahead s.mem) (hn : s.fs.length ≤ 1000) :
    Calls Tryz.prog 38 #[.pointer (some ⟨S, 0, none⟩)] w (TiersIs w s.tiers) := by
  obtain ⟨bm, v, h1, h2, h3, h4, h5, h6, h7, h8⟩ := h.out
  obtain ⟨ps, g1, g2, g3⟩ := h8.out
  have hlt := h.lt
  obtain ⟨A, c, rfl, hc⟩ : ∃ A c, v = .slice A s.fs.length c ∧ s.fs.length ≤ c := by obtain ⟨A, c, e, hc, -⟩ := h8.open_; exact ⟨A, c, e, hc⟩
  have hS : Sees w w.heap.size A ps := Sees.of_own g1
  have hpl : ps.length = s.fs.length := by have := g1.1; omega
  obtain ⟨TV, hTV⟩ : ∃ TV : List Value, Value.iface 60 (.map (some bm)) :: ps.map (Value.iface 65) = TV := ⟨_, rfl⟩
  have hTl : TV.length = s.fs.length + 1 := by rw [← hTV]; simp [hpl]
  have hfin : ∀ (w' : World) (g : Nat) (cap : Nat), w'.ownsRow w.heap.size 70 1 (.slice (some ⟨g, 0, none⟩) (s.fs.length + 1) cap) (s.fs.length + 1) TV → Below w.heap.size w w' → TiersAt w' (some ⟨g, 0, none⟩) s.tiers := fun w' g cap hown hb => ⟨fun i hi => by
    have hlt2 := World.ownsRow.lt hown g rfl
    have hi2 : i < s.fs.length + 1 := by simpa [SetM.tiers] using hi
    refine ⟨⟨g, 0, none⟩, TV[i]'(by omega), rfl, hlt2.2, World.ownsRow.cells hown (g := g) rfl i _ (List.getElem?_eq_getElem (by omega)), ?_⟩
    subst hTV
    cases i with
    | zero => exact ⟨.inl ⟨bm, rfl, h7.keep (hb.block bm h7.lt), hr⟩⟩
    | succ j =>
      have hj : j < s.fs.length := by omega
      obtain ⟨P, e1, e2⟩ := g3 j hj
      rw [List.getElem?_eq_getElem (by omega)] at e1
      have e1 := Option.some.inj e1
      refine ⟨.inr ⟨P, ?_, ?_⟩⟩
      · simp only [List.getElem_cons_succ, List.getElem_map]
        rw [e1]
      · have : s.tiers[j + 1]'hi = s.fs[j] := rfl
        rw [this]
        exact (e2.keep (Kept.of_below hb fun k e => hlt k e.1.1)).mono fun k e => Nat.lt_of_lt_of_le (hlt k e.1.1) hb.size⟩
  obtain ⟨n, hn'⟩ : ∃ n, s.fs.length = n := ⟨_, rfl⟩
  have htl : s.tiers.length = n + 1 := by simp [SetM.tiers, hn']
  unfold TiersIs
  rw [htl]
  rw [hn'] at hc h2 hpl hTl hn hfin
  have HF := Lib.hid hfin
  have HTL := Lib.hid hTl
  have HPL := Lib.hid hpl
  have HTV := Lib.hid hTV
  obtain ⟨ti, hi, hz0, hz1, hz2⟩ := info_parts Tryz.tierinfo
  have hSlt : S < w.heap.size := hlt S h4
  clear h8 g1 g2 g3 h3 h4 h5 h6 h7 hlt hr h hfin hTl hpl hn' htl hTV
  go_enter Tryz.func38, Tryz.ntmps38
  go_wp2
  go_loopg [3, 19] n (fun g u i wr => ∃ k : Nat, k + g = n ∧ i = .int .i64 k ∧ wr.ownsRow w.heap.size 70 1 u (k + 1) (TV.take (k + 1)) ∧ Below w.heap.size w wr)
  case atStart =>
    refine ⟨0, by omega, rfl, ?_, (Below.refl _ w).alloc (Nat.le_refl _) _⟩
    rw [← HTV.out]
    exact ownsRow_one w _ rfl _ _
  case round =>
    obtain ⟨k, hk, rfl, hown, hb⟩ := hrel
    have hbs := hb.size
    by_cases hlt : k < n
    · obtain ⟨ad, rfl, hadB, hcell0⟩ := hS.at_ (k := k) (by rw [HPL.out]; exact hlt)
      have hT : Hid (TV.take (k + 1 + 1) = TV.take (k + 1) ++ [Value.iface 65 (ps[k]'(by rw [HPL.out]; exact hlt))]) := by
        unfold Hid
        rw [List.take_succ_eq_append_getElem (by rw [HTL.out]; omega)]
        congr 2
        simp [← HTV.out]
      obtain ⟨p, hp⟩ : ∃ p, ps[k]'(by rw [HPL.out]; exact hlt) = p := ⟨_, rfl⟩
      rw [hp] at hcell0 hT
      have hcell : wr.cell? (ad.add k) = some p := (hb.cell (by rw [add_block]; exact hadB)).trans hcell0
      obtain ⟨tk, htk⟩ : ∃ tk, TV.take (k + 1) = tk := ⟨_, rfl⟩
      rw [htk] at hown hT
      clear hp hcell0 htk
      go_wp2_with (at_builtin; (refine wpList_append_v rfl (.tmp 23) (.tmp 26) 80 rfl 70 ti _ 1 16 Tryz.underlying80 hi hz0 hz1 hz2 rfl (by omega) w.heap.size _ (k + 1) tk (by rfl) (World.ownsRow.alloc hown _) (wr.heap.size + 1) (some ⟨wr.heap.size, 0, none⟩) 1 1 [.iface 65 p] (by rfl) rfl (sees_cell wr _ rfl _ _) (fun u hu => by simp at hu; subst hu; rfl) (by simp only [maxLen]; omega) (by omega) (by simp; omega) ?_; intro v2 w4 hown4 hon4))
      go_roundg (n - (k + 1))
      case measure => omega
      case rel =>
        refine ⟨k + 1, by omega, by go_num, by rw [hT.out]; exact hown4, hb.trans (((Below.refl _ wr).alloc hbs _).trans (hon4.below (by simp; omega) fun g e => (World.ownsRow.lt hown g e).1))⟩
    · obtain rfl : k = n := by omega
      have hE : Hid (TV.take (k + 1) = TV) := by unfold Hid; rw [← HTL.out]; exact List.take_length
      rw [hE.out] at hown
      go_wp2
      go_ret
      rcases hown.2 with ⟨-, h0⟩ | ⟨g, cap, cur, rfl, -, -, -, -⟩
      · omega
      · exact ⟨_, cap, rfl, HF.out _ g cap hown hb, hb⟩

theorem tiers_nil (w : World) : Calls Tryz.prog 38 #[.pointer none] w (TiersIs w []) := by
  go_enter Tryz.func38, Tryz.ntmps38
  go_wp2
  go_ret
  exact ⟨none, 0, rfl, ⟨fun i hi => absurd hi (by simp)⟩, Below.refl _ _⟩

/-! each tier's methods -/
theorem mHasM (b : Option Nat) (w : World) : (method 313 60 (.map b) "Has").run Tryz.prog w = .ok (171, .map b) w := by kernel_rfl
theorem mFromM (b : Option Nat) (w : World) : (method 313 60 (.map b) "From").run Tryz.prog w = .ok (170, .map b) w := by kernel_rfl
theorem mPreM (b : Option Nat) (w : World) : (method 313 60 (.map b) "Prefix").run Tryz.prog w = .ok (172, .map b) w := by kernel_rfl
theorem mHasP (a : Addr) (w : World) : (method 313 65 (.pointer (some a)) "Has").run Tryz.prog w = .ok (177, .pointer (some a)) w := by kernel_rfl
theorem mFromP (a : Addr) (w : World) : (method 313 65 (.pointer (some a)) "From").run Tryz.prog w = .ok (41, .pointer (some a)) w := by kernel_rfl
theorem mPreP (a : Addr) (w : World) : (method 313 65 (.pointer (some a)) "Prefix").run Tryz.prog w = .ok (178, .pointer (some a)) w := by kernel_rfl

/-- What the calls ask of a tier's items. -/
structure TierOk (ls : List Item) : Prop where
  few : ls.length ≤ 1000
  short : ∀ x ∈ ls, x.length ≤ 1000

section
variable {v : Value} {ls : List Item} {w : World} {Pb Pm : Nat} {Bx : Option Addr} {lx dx : Nat} {x : Item}
set_option maxRecDepth 100000 in
set_option maxHeartbeats 800000 in
theorem has1_any (hT : TierAt w v ls) (hxl : x.length = lx) (hlx : lx ≤ 1000000) (hcell : w.cell? ⟨Pb, 0, none⟩ = some (.slice Bx lx dx)) (hx : Sees w w.heap.size Bx (bv x)) :
    Calls Tryz.prog 39 #[v, .pointer (some ⟨Pb, 0, none⟩)] w (Gives w (.bool (decide (x ∈ ls)))) := by
  rcases hT.out with ⟨b, rfl, hM, -⟩ | ⟨P, rfl, hP⟩
  · have hC := Lib.hid (memHas_any b ls w hM Bx lx dx x hx hxl hlx)
    have hm := mHasM (some b)
    have he := fun args w => enters_of Tryz.func171 (by kernel_rfl) rfl args w
    clear hT hM hx hxl
    go_enter Tryz.func39, Tryz.ntmps39
    go_wp2_with fail
    refine hC.out.mono ?_
    rintro e w1 ⟨rfl, hb⟩
    go_wp2
    go_ret
    exact ⟨rfl, hb⟩
  · have hC := Lib.hid (Has_part (x := x) hP hx hxl (dx := dx))
    have hm := mHasP ⟨P, 0, none⟩
    have he := fun args w => enters_of Tryz.func177 (by kernel_rfl) rfl args w
    clear hT hP hx hxl
    go_enter Tryz.func39, Tryz.ntmps39
    go_wp2_with fail
    refine hC.out.mono ?_
    rintro e w1 ⟨rfl, hb⟩
    go_wp2
    go_ret
    exact ⟨rfl, hb⟩
set_option maxRecDepth 100000 in
set_option maxHeartbeats 800000 in
theorem from1t_any (hT : TierAt w v ls) (hO : TierOk ls) (hxl : x.length = lx) (most : Int) (hcell : w.cell? ⟨Pb, 0, none⟩ = some (.slice Bx lx dx)) (hcell2 : w.cell? ⟨Pm, 0, none⟩ = some (.int .i64 most)) (hx : Sees w w.heap.size Bx (bv x)) :
    Calls Tryz.prog 32 #[v, .pointer (some ⟨Pb, 0, none⟩), .pointer (some ⟨Pm, 0, none⟩)] w (RowS w ((fromL ls x).take most.toNat)) := by
  rcases hT.out with ⟨b, rfl, hM, hr⟩ | ⟨P, rfl, hP⟩
  · have hC := Lib.hid (memFrom_any b ls w hM hr hO.few hO.short Bx lx dx x hx hxl most)
    have hm := mFromM (some b)
    have he := fun args w => enters_of Tryz.func170 (by kernel_rfl) rfl args w
    clear hT hM hx hxl
    go_enter Tryz.func32, Tryz.ntmps32
    go_wp2_with fail
    refine hC.out.mono ?_
    rintro e w1 ⟨A, c, rfl, h1, h2, hb⟩
    go_wp2
    go_ret
    exact ⟨A, c, by rw [List.length_take]; rfl, h1, h2, hb⟩
  · have hC := Lib.hid (From_part (x := x) hP hx hxl (dx := dx) most)
    have hm := mFromP ⟨P, 0, none⟩
    have he := fun args w => enters_of Tryz.func41 (by kernel_rfl) rfl args w
    clear hT hP hx hxl
    go_enter Tryz.func32, Tryz.ntmps32
    go_wp2_with fail
    refine hC.out.mono ?_
    rintro e w1 hI
    obtain ⟨A, c, rfl, h1, h2, hb⟩ := hI.rowS
    go_wp2
    go_ret
    exact ⟨A, c, by rw [List.length_take]; rfl, h1, h2, hb⟩
set_option maxRecDepth 100000 in
set_option maxHeartbeats 800000 in
theorem prefix1t_any (hT : TierAt w v ls) (hO : TierOk ls) (hxl : x.length = lx) (hcell : w.cell? ⟨Pb, 0, none⟩ = some (.slice Bx lx dx)) (hx : Sees w w.heap.size Bx (bv x)) :
    Calls Tryz.prog 40 #[v, .pointer (some ⟨Pb, 0, none⟩)] w (RowS w (ls.filter (preB x))) := by
  rcases hT.out with ⟨b, rfl, hM, hr⟩ | ⟨P, rfl, hP⟩
  · have hC := Lib.hid (memPrefix_any b ls w hM hr hO.few hO.short Bx lx dx x hx hxl)
    have hm := mPreM (some b)
    have he := fun args w => enters_of Tryz.func172 (by kernel_rfl) rfl args w
    clear hT hM hx hxl
    go_enter Tryz.func40, Tryz.ntmps40
    go_wp2_with fail
    refine hC.out.mono ?_
    rintro e w1 ⟨A, c, rfl, h1, h2, hb⟩
    go_wp2
    go_ret
    exact ⟨A, c, rfl, h1, h2, hb⟩
  · have hC := Lib.hid (Prefix_part (x := x) hP hx hxl (dx := dx))
    have hm := mPreP ⟨P, 0, none⟩
    have he := fun args w => enters_of Tryz.func178 (by kernel_rfl) rfl args w
    clear hT hP hx hxl
    go_enter Tryz.func40, Tryz.ntmps40
    go_wp2_with fail
    refine hC.out.mono ?_
    rintro e w1 hI
    obtain ⟨A, c, rfl, h1, h2, hb⟩ := hI.rowS
    go_wp2
    go_ret
    exact ⟨A, c, rfl, h1, h2, hb⟩
end
end Go.Proofs.YtadakaenbemedaaGreatDoor
