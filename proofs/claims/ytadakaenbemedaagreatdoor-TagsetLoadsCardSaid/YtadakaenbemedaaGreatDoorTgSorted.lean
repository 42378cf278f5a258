/-
  memory.sorted, Has, walked.
-/
import Derived.Test.YtadakaenbemedaaGreatDoorTgIter
import Derived.Lib.ConvBytes
namespace Go.Proofs.YtadakaenbemedaaGreatDoor
open Go.RowKit Go.Maps

theorem strOf_data (l : List UInt8) : (strOf l).data.toList = l := rfl
theorem strOf_size (l : List UInt8) : (strOf l).size = l.length := by simp [strOf, ByteArray.size]
/-- Bytes out of a string: a new row. -/
theorem str_bytes (W : World) (l : Item) : ∃ (W' : World) (c : Nat), (convert 9 27 (.string (strOf l))).run Tryz.prog W = .ok (.slice (some ⟨W.heap.size, 0, none⟩) l.length c) W' ∧ l.length ≤ c ∧ W'.heap.size = W.heap.size + 1 ∧ Below W.heap.size W W' ∧
    ∀ j u, (bv l)[j]? = some u → W'.cell? ⟨W.heap.size, j, none⟩ = some u := by
  refine ⟨Lib.bytesWorld W 5 (strOf l), grownCap W (strOf l).size 0 5, ?_, ?_, Lib.bytesWorld_size _ _ _, ⟨rfl, rfl, rfl, by rw [Lib.bytesWorld_size]; omega, fun k hk => Lib.bytesWorld_at_old _ _ _ _ hk⟩, fun j u hu => ?_⟩
  · rw [Lib.run_convert_string_bytes (P := Tryz.prog) W 9 27 5 (strOf l) Tryz.underlying9 Tryz.underlying27 Tryz.underlying5, strOf_size]
  · rw [← strOf_size l]
    exact grownCap_ge W (strOf l).size 0 5
  · have hj : j < l.length := by
      have := (List.getElem?_eq_some_iff.1 hu).1
      rwa [bv_length] at this
    rw [Lib.bytesWorld_cell W _ (strOf l) j (by rw [strOf_size]; exact hj), strOf_data]
    rw [bv_at l j hj] at hu
    rw [← hu, List.getD_eq_getElem?_getD, List.getElem?_eq_getElem hj]
    rfl

set_option maxRecDepth 100000 in
set_option maxHeartbeats 800000 in
theorem sorted_any (b : Nat) (mem : List Item) (w : World) (hM : MemAt w b mem) (hr : Ri ahead mem) (hn : mem.length ≤ 1000) (hy : ∀ x ∈ mem, x.length ≤ 1000) :
    Calls Tryz.prog 29 #[.map (some b)] w (RowIs w mem) := by
  have hK := Lib.hid (callsIn_wide.1 (maps_Keys_M (some b) w))
  have hS := Lib.hid (Sorted_mem hM hr hn)
  obtain ⟨n, hln⟩ : ∃ n, mem.length = n := ⟨_, rfl⟩
  rw [hln] at hS hn
  have HLN := Lib.hid hln
  have HY := Lib.hid hy
  clear hln hy hM hr
  go_enter Tryz.func29, Tryz.ntmps29
  go_wp2_with fail
  refine hK.out.mono ?_
  rintro e w1 ⟨rfl, rfl⟩
  go_wp2_with fail
  refine hS.out.mono ?_
  rintro e w2 ⟨A, c, rfl, hA, hb2⟩
  have hs2 := hb2.size
  clear hK hS
  go_wp2
  go_loopg [3, 10] n (fun g u i wr => ∃ k : Nat, k + g = n ∧ i = .int .i64 k ∧ OwnS wr w2.heap.size u (mem.take k) ∧ Below w2.heap.size w2 wr)
  case atStart => exact ⟨0, by omega, rfl, OwnS.nil _ _, Below.refl _ _⟩
  case round =>
    obtain ⟨k, hk, rfl, hown, hb⟩ := hrel
    have hbs := hb.size
    have hAr := hA.below hb
    by_cases hlt : k < n
    · obtain ⟨ad, rfl, -, hcell⟩ := hAr.at_ (k := k) (by rw [List.length_map, HLN.out]; exact hlt)
      have hT := Lib.hid (take_snoc (l := mem) (k := k) (by rw [HLN.out]; exact hlt))
      have hY := HY.out (mem[k]'(by rw [HLN.out]; exact hlt)) (List.getElem_mem _)
      rw [List.getElem_map] at hcell
      obtain ⟨L, hL⟩ : ∃ L, mem[k]'(by rw [HLN.out]; exact hlt) = L := ⟨_, rfl⟩
      rw [hL] at hcell hT hY
      have hcell' : wr.cell? (ad.add k) = some (.string (strOf L)) := hcell
      clear hL hcell
      obtain ⟨W3, cL, hconv, hcl, hz3', hb3, hc3⟩ := str_bytes wr L
      have HZ3 := Lib.hid hz3'
      clear hz3'
      obtain ⟨tk, htk⟩ : ∃ tk, mem.take k = tk := ⟨_, rfl⟩
      rw [htk] at hown hT
      have htl : tk.length ≤ 1000 := by rw [← htk, List.length_take]; omega
      have hvl : ∀ g, u3.ownBlock = some g → g < wr.heap.size := fun g e => by
        obtain ⟨vs, h1, -⟩ := hown.out
        exact (World.ownsRow.lt h1 g e).2
      clear htk
      have hSN : SeesN (W3.alloc (.cells #[.slice (some ⟨wr.heap.size, 0, none⟩) L.length cL] 27)) w2.heap.size u3.ownBlock (some ⟨wr.heap.size, 0, none⟩) (bv L) :=
        ⟨.inr ⟨_, rfl, hbs, by have := HZ3.out; simp; omega, fun e => by have := hvl _ e.symm; simp at this, fun j u hu => by
          rw [Addr.add_lit, World.cell?_alloc_lt _ _ _ (by have := HZ3.out; simp; omega)]
          simpa using hc3 j u hu⟩⟩
      go_wp2_with (at_builtin; (refine wpList_append_s rfl (.tmp 14) (.tmp 17) rfl w2.heap.size _ tk (by rfl) ((hown.below hb3).below ((Below.refl _ _).alloc (Nat.le_refl _) _)) ⟨W3.heap.size, 0, none⟩ 1 L (some ⟨wr.heap.size, 0, none⟩) cL (by rfl) (by rw [World.cell?_alloc_at _ _ _ _ rfl]; rfl) hcl hSN (by omega) (by have := HZ3.out; simp; omega) ?_; intro v2 w4 hown4 hg4 hl4))
      have hb4 : Below w2.heap.size w2 w4 := by
        refine (hb.trans (hb3.mono hbs)).trans (((Below.refl _ W3).alloc (by have := HZ3.out; omega) _).trans ((Below.refl _ _).grown hg4 (by have := HZ3.out; simp; omega) (fun g e => ?_)))
        obtain ⟨vs, h1, -⟩ := hown.out
        exact (World.ownsRow.lt h1 g e).1
      go_roundg (n - (k + 1))
      case measure => omega
      case rel =>
        exact ⟨k + 1, by omega, by go_num, by rw [hT.out]; exact hown4, hb4⟩
    · obtain rfl : k = n := by omega
      have hE : Hid (mem.take k = mem) := by unfold Hid; rw [← HLN.out]; exact List.take_length
      go_wp2
      go_ret
      exact ⟨_, rfl, by rw [← hE.out]; exact hown.base_le hs2, hb2.trans (hb.mono hs2)⟩
end Go.Proofs.YtadakaenbemedaaGreatDoor
