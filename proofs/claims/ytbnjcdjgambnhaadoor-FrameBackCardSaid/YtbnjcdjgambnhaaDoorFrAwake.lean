/-
  The document's examples of frames: the laws' own first call.
-/
import Derived.Test.YtbnjcdjgambnhaaDoorFrOnly
import Derived.Lib.SlBytesConst
namespace Go.Proofs.YtbnjcdjgambnhaaDoor
open Go.RowKit

def strOf (l : List UInt8) : ByteArray := ⟨l.toArray⟩
theorem run_str (w : World) (B : Nat) (A : Option Addr) (n c : Nat) (l : List UInt8) (hs : Sees w B A (bv l)) (hn : l.length = n) :
    (convert 22 9 (.slice A n c)).run Tryd.prog w = .ok (.string (strOf l)) w := by
  subst hn
  cases A with
  | none =>
    rcases hs.out with h | ⟨ad, h, _⟩
    · have : l = [] := by simpa [bv] using h
      subst this
      exact run_convert_bytes_nil w _ _ Tryd.underlying22 Tryd.underlying5 _ _ _ Tryd.underlying9
    · cases h
  | some a =>
    have hc : ∀ j u, (bv l)[j]? = some u → w.cell? (a.add j) = some u := by
      intro j u hu
      rcases hs.out with h | ⟨ad, h, _, hc⟩
      · rw [h] at hu; simp at hu
      · injection h with h
        subst h
        exact hc j u hu
    have hl := run_loadCells_list (P := Tryd.prog) w a (bv l) hc
    rw [run_convert_bytes_string w 22 9 5 _ l.length c Tryd.underlying22 Tryd.underlying5 Tryd.underlying9]
    have hb : bv l = (l.map fun b => (b.toNat : Int)).map (Value.int .u8) := by simp [bv]
    rw [hb, List.length_map, List.length_map] at hl
    rw [run_bytesToString w _ l.length c _ hl, foldl_push_bytes]
    have hm : l.map ((fun n : Int => UInt8.ofNat n.toNat) ∘ fun b : UInt8 => (b.toNat : Int)) = l := by
      have : ((fun n : Int => UInt8.ofNat n.toNat) ∘ fun b : UInt8 => (b.toNat : Int)) = id := by funext b; simp
      rw [this, List.map_id]
    rw [List.map_map, hm]
    simp [strOf, ByteArray.empty, ByteArray.emptyWithCapacity]
    rfl

/-- A call that answers true and leaves what was there. -/
def IsTrue (w : World) (e : Ending) (w' : World) : Prop := e = .returned (.bool true) ∧ Below w.heap.size w w'

theorem ex_make : makeErr 3 1 = 0 ∧ makeB 3 [97] = sealB [3, 1, 97] := by
  refine ⟨by decide, ?_⟩
  unfold makeB frameOf
  rw [if_pos (by decide), show [(97 : UInt8)].length = 1 from rfl, venc_small (by omega)]
  rfl
theorem ex_facts : (sealB [3, 1, 97]).length = 7 ∧ fnext (sealB [3, 1, 97] ++ [1, 2]) = (3, [97], [1, 2], 0) ∧ fonly (sealB [3, 1, 97]) 3 = ([97], 0) ∧ crc [49, 50, 51, 52, 53, 54, 55, 56, 57] = 3421780262 := by decide +kernel

theorem Mine.sees {w : World} {b : Nat} {A : Option Addr} {l : List UInt8} (h : Mine w b A l) : Sees w w.heap.size A (bv l) := by
  rcases h.out with h | ⟨g, o, rfl, hb, hc⟩
  · subst h; exact ⟨.inl rfl⟩
  · by_cases h0 : l = []
    · subst h0; exact ⟨.inl rfl⟩
    · have hl : 0 < l.length := List.length_pos_iff.2 h0
      refine ⟨.inr ⟨_, rfl, ?_, fun j u hu => ?_⟩⟩
      · have := (hc 0 hl).1
        exact World.block_lt_of_cell? w _ this
      · rw [Addr.add_lit]
        rcases Nat.lt_or_ge j l.length with hj | hj
        · rw [bv_at l j hj] at hu
          injection hu with hu
          rw [← hu]
          exact (hc j hj).1
        · rw [List.getElem?_eq_none (by rw [bv_length]; exact hj)] at hu
          cases hu

theorem Make_ex (F : List UInt8) (hF : sealB [3, 1, 97] = F) (A : Option Addr) (c : Nat) (w : World) (hS : Sees w w.heap.size A (bv [97])) (hH : Halves w) :
    Calls Tryd.prog 9 #[.int .i64 3, .slice A 1 c] w (Ret2B w F 0) := by
  have h := Make_any 3 A 1 c [97] rfl w hS hH (by simp)
  rw [ex_make.2, hF, show ([97] : List UInt8).length = 1 from rfl, ex_make.1] at h
  exact h

set_option maxRecDepth 100000 in
set_option maxHeartbeats 800000 in
theorem awake_any (w : World) (hH : Halves w) : Calls Tryd.prog 8 #[] w (IsTrue w) := by
  have kc := fun (w : World) (C : Array Value) (n c : Nat) => Lib.run_convert_bytes_const (P := Tryd.prog) w 22 5 C n c Tryd.underlying22 Tryd.underlying5
  have hX := Lib.hid ex_facts
  obtain ⟨F, hF⟩ : ∃ F, sealB [3, 1, 97] = F := ⟨_, rfl⟩
  have HF := Lib.hid hF
  rw [hF] at hX
  clear hF
  go_enter Tryd.func8, Tryd.ntmps8
  go_wp2_with fail
  have hs0 : Sees (w.alloc (.cells #[.int .u8 97] 5 (1, 2))) (w.heap.size + 1) (some ⟨w.heap.size, 0, none⟩) (bv [97]) := by
    refine ⟨.inr ⟨_, rfl, by simp, fun j u hu => ?_⟩⟩
    rw [Addr.add_lit, World.cell?_alloc_mark]
    simpa [bv] using hu
  refine (Make_ex F HF.out _ 1 _ (hs0.more (by simp)) (hH.alloc _)).mono ?_
  rintro e w1 ⟨v1, rfl, hown, hb⟩
  have hb1 : Below w.heap.size w w1 := ((Below.refl _ _).alloc (Nat.le_refl _) _).trans (hb.mono (by simp))
  have hown1 := hown.base_le (b := w.heap.size) (by simp)
  clear hown hb
  obtain ⟨A1, c1, rfl, hc1, -, hown1', hsee1⟩ := hown1.open_
  have HF7 := Lib.hid hX.out.1
  go_wp2_with (first
    | (at_builtin
       refine wpList_append_b rfl (.tmp 16) (.tmp 17) rfl w1.heap.size (.slice (some ⟨w1.heap.size, 0, none⟩) 0 0) [] (by rfl) (OwnB.new _ _ (Nat.le_refl _) [] 0 rfl _ rfl (by simp [maxLen])) w1.heap.size A1 F.length c1 F (by rfl) rfl (hsee1.alloc (Nat.le_refl _) _) (by have := HF7.out; simp; omega) (by simp) ?_
       intro v2 w2 hown2 hon2
       have hb2 : Below w1.heap.size w1 w2 := ((Onto.new w1 (.cells #[] 5) (.slice none 0 0) 0 0).trans hon2).below_nil)
    | (at_builtin
       refine wpList_append_b rfl (.tmp 18) (.tmp 19) rfl w1.heap.size v2 F (by rfl) (hown2.alloc _) (w2.heap.size + 1) _ 2 _ [1, 2] (by rfl) rfl (sees_new _ _ _ _ (by simp [bv])) (by have := HF7.out; simp; omega) (by have := hb2.size; simp; omega) ?_
       intro v3 w3 hown3 hon3
       have hb3 : Below w1.heap.size w1 w3 := hb2.trans (((Onto.of_alloc _ _ _).trans hon3).below hb2.size (hown2.block))))
  obtain ⟨G, hG⟩ : ∃ G, F ++ [1, 2] = G := ⟨_, rfl⟩
  have hGl : G.length = 9 := by rw [← hG]; have := HF7.out; simp; omega
  rw [hG] at hown3
  have HG := Lib.hid hG
  have HGl := Lib.hid hGl
  clear hG hGl
  obtain ⟨A3, c3, rfl, hc3, -, -, hsee3⟩ := hown3.open_
  have hs3 := hb3.size
  have hH3 := (hH.below hb1 hH.1).below hb3 (by have := hH.1; have := hb1.size; omega)
  refine (Next_any A3 _ c3 G rfl hc3 w3 hsee3 hH3 (by have := HGl.out; omega)).mono ?_
  have hN : fnext G = (3, [97], [1, 2], 0) := by rw [← HG.out]; exact hX.out.2.1
  rw [hN]
  clear hN
  rintro e w4 ⟨A4, n4, c4, v4, rfl, hn4, -, hm4, hown4, hb4⟩
  simp only at hm4 hn4 hown4
  obtain rfl : n4 = 1 := hn4.symm
  obtain ⟨A5, c5, rfl, -, -, -, -⟩ := hown4.open_
  have hs4 := hb4.size
  have hsee1' := (hsee1.below (hb3.trans (hb4.mono hs3))).more (Nat.le_trans hs3 hs4)
  go_wp2_with fail
  refine (Only_any A1 _ c1 F 3 rfl hc1 w4 hsee1' (hH3.below hb4 hH3.1) (by have := HF7.out; omega)).mono ?_
  have hO : fonly F 3 = ([97], 0) := hX.out.2.2.1
  rw [hO]
  clear hO
  rintro e w5 ⟨A6, n6, c6, rfl, hn6, -, hm6, hb5⟩
  simp only at hm6 hn6
  obtain rfl : n6 = 1 := hn6.symm
  go_wp2_with fail
  have hs9 : Sees (w5.alloc (.cells #[.int .u8 49, .int .u8 50, .int .u8 51, .int .u8 52, .int .u8 53, .int .u8 54, .int .u8 55, .int .u8 56, .int .u8 57] 5 (9, 10))) (w5.heap.size + 1) (some ⟨w5.heap.size, 0, none⟩) (bv [49, 50, 51, 52, 53, 54, 55, 56, 57]) := by
    refine ⟨.inr ⟨_, rfl, by simp, fun j u hu => ?_⟩⟩
    rw [Addr.add_lit, World.cell?_alloc_mark]
    simpa [bv] using hu
  have hH5 := (hH3.below hb4 hH3.1).below hb5 (by have := hH3.1; omega)
  refine (Sum_any _ 9 9 [49, 50, 51, 52, 53, 54, 55, 56, 57] rfl _ (hs9.more (by simp)) (hH5.alloc _) (by simp)).mono ?_
  rw [hX.out.2.2.2]
  rintro e w6 ⟨rfl, rfl⟩
  have cv1 := run_str (w5.alloc (.cells #[.int .u8 49, .int .u8 50, .int .u8 51, .int .u8 52, .int .u8 53, .int .u8 54, .int .u8 55, .int .u8 56, .int .u8 57] 5 (9, 10))) _ A4 1 c4 [97] ((hm4.sees.below hb5).alloc hb5.size _) rfl
  have cv2 := run_str (w5.alloc (.cells #[.int .u8 49, .int .u8 50, .int .u8 51, .int .u8 52, .int .u8 53, .int .u8 54, .int .u8 55, .int .u8 56, .int .u8 57] 5 (9, 10))) _ A6 1 c6 [97] (hm6.sees.alloc (Nat.le_refl _) _) rfl
  rw [show strOf [97] = ⟨#[97]⟩ from rfl] at cv1 cv2
  have hF7b : ((F.length : Int) == 7) = true := by rw [HF7.out]; rfl
  go_wp2
  go_ret
  have hb15 : Below w.heap.size w w5 := ((hb1.trans (hb3.mono hb1.size)).trans (hb4.mono (Nat.le_trans hb1.size hs3))).trans (hb5.mono (Nat.le_trans (Nat.le_trans hb1.size hs3) hs4))
  exact ⟨rfl, hb15.alloc hb15.size _⟩
end Go.Proofs.YtbnjcdjgambnhaaDoor
