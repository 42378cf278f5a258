/-
  The walks of frame.seal, frame.Make and the document's own tail and Make.
-/
import Derived.Test.YtbnjcdjgambnhaaDoorFrRef
namespace Go.Proofs.YtbnjcdjgambnhaaDoor
open Go.RowKit

theorem OwnB.block {w : World} {base : Nat} {v : Value} {l : List UInt8} (h : OwnB w base v l) : ∀ k, v.ownBlock = some k → base ≤ k := fun k hk => (World.ownsRow.lt h k hk).1
theorem OwnB.onto {w w' : World} {base : Nat} {v u u' : Value} {l : List UInt8} (h : OwnB w base v l) (ho : Onto w w' u u') (hne : v.ownBlock = none ∨ v.ownBlock ≠ u.ownBlock) : OwnB w' base v l := World.ownsRow.kept h ho.grown hne

/-- The four bytes, as the walk has them. -/
theorem tail4_cells (s : Nat) (t : TypeId) (w : World) (x1 x2 x3 x4 : Int) (h1 : x1 = (s / 16777216 : Nat) % 256) (h2 : x2 = (s / 65536 : Nat) % 256) (h3 : x3 = (s / 256 : Nat) % 256) (h4 : x4 = (s : Int) % 256) :
    Sees (w.alloc (.cells #[.int .u8 x1, .int .u8 x2, .int .u8 x3, .int .u8 x4] t)) (w.heap.size + 1) (some ⟨w.heap.size, 0, none⟩) (bv (tail4 s)) :=
  sees_new w _ t _ (by subst h1; subst h2; subst h3; subst h4; simp [bv, tail4])

theorem tail4_arr (s : Nat) (x1 x2 x3 x4 : Int) (h1 : x1 = (s / 16777216 : Nat) % 256) (h2 : x2 = (s / 65536 : Nat) % 256) (h3 : x3 = (s / 256 : Nat) % 256) (h4 : x4 = (s : Int) % 256) :
    #[Value.int .u8 x1, .int .u8 x2, .int .u8 x3, .int .u8 x4] = (bv (tail4 s)).toArray := by subst h1; subst h2; subst h3; subst h4; simp [bv, tail4]

set_option maxRecDepth 100000 in
set_option maxHeartbeats 400000 in
theorem seal_any (base : Nat) (v : Value) (l : List UInt8) (w : World) (hown : OwnB w base v l) (hbase : base ≤ w.heap.size) (hH : Halves w) (hlen : l.length ≤ 1099511627776) :
    Calls Tryd.prog 16 #[v] w (RetB w base v (sealB l)) := by
  obtain ⟨A, c, rfl, hcl, hcm, hown', hsee⟩ := hown.open_
  clear hown
  go_enter Tryd.func16, Tryd.ntmps16
  go_wp2_with fail
  refine (Sum_any A _ c l rfl w hsee hH hlen).mono ?_
  rintro e w' ⟨rfl, rfl⟩
  have hs32 := Is32.crc l
  have HS : Hid (sealB l = l ++ tail4 (crc l)) := rfl
  generalize crc l = s at hs32 HS ⊢
  have hsb : (s : Int) < 4294967296 := by unfold Is32 at hs32; omega
  go_wp2_with (at_builtin; refine wpList_append_b rfl (.tmp 6) (.tmp 18) rfl base (.slice A l.length c) l (by rfl) (hown'.alloc _) (w.heap.size + 1) _ 4 _ (tail4 s) (by rfl) rfl (tail4_cells s _ _ _ _ _ _ (by omega) (by omega) (by omega) (by omega)) (by simp [tail4]; omega) (by simp; omega) ?_; intro v1 w1 hown1 hon1)
  go_ret
  exact ⟨v1, rfl, by rw [HS.out]; exact hown1, (Onto.of_alloc _ _ _).trans hon1⟩

set_option maxRecDepth 100000 in
set_option maxHeartbeats 400000 in
theorem refTail_any (A : Option Addr) (n c : Nat) (l : List UInt8) (hn : l.length = n) (w : World) (hS : Sees w w.heap.size A (bv l)) (hlen : l.length ≤ 1099511627776) :
    Calls Tryd.prog 18 #[.slice A n c] w (NewB w (tail4 (crc l))) := by
  have HT := Lib.hid (refSum_any A n c l hn w hS hlen)
  have hs32 := Is32.crc l
  generalize crc l = s at hs32 HT ⊢
  go_enter Tryd.func18, Tryd.ntmps18
  go_wp2_with fail
  refine HT.out.mono ?_
  rintro e w' ⟨rfl, rfl⟩
  have hsb : (s : Int) < 4294967296 := by unfold Is32 at hs32; omega
  go_wp2
  go_ret
  refine ⟨_, rfl, OwnB.new _ _ (Nat.le_refl _) (tail4 s) 4 rfl _ ?_ (by simp [tail4, maxLen]), (Below.refl _ _).alloc (Nat.le_refl _) _⟩
  exact tail4_arr s _ _ _ _ (by omega) (by omega) (by omega) (by omega)

/-- What Make gives. -/
def makeErr (kind : Int) (n : Nat) : Int := if kind < 0 ∨ 255 < kind then 1 else if 65535 < n then 2 else 0
def frameOf (kind : Int) (l : List UInt8) : List UInt8 := sealB (UInt8.ofNat kind.toNat :: (venc l.length ++ l))
def makeB (kind : Int) (l : List UInt8) : List UInt8 := if makeErr kind l.length = 0 then frameOf kind l else []
def Ret2B (w : World) (l : List UInt8) (e : Int) (en : Ending) (w' : World) : Prop := ∃ v', en = .returned (.tuple #[v', .int .i64 e]) ∧ OwnB w' w.heap.size v' l ∧ Below w.heap.size w w'

set_option maxRecDepth 100000 in
set_option maxHeartbeats 400000 in
theorem Make_any (kind : Int) (A : Option Addr) (n c : Nat) (l : List UInt8) (hn : l.length = n) (w : World) (hS : Sees w w.heap.size A (bv l)) (hH : Halves w) (hlen : l.length ≤ 1099511627776) :
    Calls Tryd.prog 9 #[.int .i64 kind, .slice A n c] w (Ret2B w (makeB kind l) (makeErr kind l.length)) := by
  have hnb : n ≤ 1099511627776 := by omega
  by_cases hk : kind < 0 ∨ 255 < kind
  · have HE : Hid (makeErr kind l.length = 1) := by unfold Hid makeErr; rw [if_pos hk]
    have HB : Hid (makeB kind l = []) := by unfold Hid makeB; rw [HE.out]; rfl
    rw [HB.out, HE.out]
    rcases hk with hk | hk
    all_goals
      go_enter Tryd.func9, Tryd.ntmps9
      go_wp2
      go_ret2
      exact ⟨_, rfl, OwnB.nil _ _, Below.refl _ _⟩
  by_cases hl : 65535 < n
  · have HE : Hid (makeErr kind l.length = 2) := by unfold Hid makeErr; rw [if_neg hk, if_pos (by omega)]
    have HB : Hid (makeB kind l = []) := by unfold Hid makeB; rw [HE.out]; rfl
    rw [HB.out, HE.out]
    have hk1 : 0 ≤ kind := by omega
    have hk2 : kind ≤ 255 := by omega
    clear hk
    go_enter Tryd.func9, Tryd.ntmps9
    go_wp2
    go_ret2
    exact ⟨_, rfl, OwnB.nil _ _, Below.refl _ _⟩
  · have HE : Hid (makeErr kind l.length = 0) := by unfold Hid makeErr; rw [if_neg hk, if_neg (by omega)]
    have HB : Hid (makeB kind l = sealB (UInt8.ofNat kind.toNat :: (venc l.length ++ l))) := by unfold Hid makeB; rw [HE.out]; rfl
    rw [HB.out, HE.out]
    have hk1 : 0 ≤ kind := by omega
    have hk2 : kind ≤ 255 := by omega
    have hn' := Lib.hid hn
    have hlen' := Lib.hid hlen
    have hv10 := Lib.hid (venc_len (u := n) (by unfold Is64; omega))
    clear hk hn hlen
    go_enter Tryd.func9, Tryd.ntmps9
    go_wp2_with fail
    refine (Put_any _ 1 1 [UInt8.ofNat kind.toNat] rfl n (by unfold Is64; omega) _ (Sees.more (sees_one _ _ _ _ (by omega)) (by simp)) (by simp)).mono ?_
    rintro e w1 ⟨v1, rfl, hown, hon⟩
    have hb1 : Below w.heap.size w w1 := ((Below.refl _ _).alloc (Nat.le_refl _) _).trans ((hon.below_nil).mono (by simp))
    have hs1 := hb1.size
    have hown1 := hown.base_le (b := w.heap.size) (by simp)
    clear hown hon
    go_wp2_with (at_builtin; refine wpList_append_b rfl (.tmp 25) (.tmp 26) rfl w.heap.size v1 _ (by rfl) hown1 w.heap.size A n c l (by rfl) hn'.out (hS.below hb1) (by have := hv10.out; have := hn'.out; simp; omega) hs1 ?_; intro v2 w2 hown2 hon2)
    have hH2 := (hH.below hb1 hH.1).onto hon2 (fun k hk => Nat.le_trans hH.1 (hown1.block k hk))
    have hs2 := hon2.size
    refine (seal_any w.heap.size v2 _ w2 hown2 (by omega) hH2 (by have := hv10.out; have := hn'.out; simp; omega)).mono ?_
    rintro e w3 ⟨v3, rfl, hown3, hon3⟩
    go_wp2_with fail
    go_ret2
    refine ⟨v3, rfl, ?_, (hb1.trans (hon2.below hs1 hown1.block)).trans (hon3.below (by omega) hown2.block)⟩
    rw [hn'.out]
    simpa using hown3

set_option maxRecDepth 100000 in
set_option maxHeartbeats 400000 in
theorem refMake_any (kind : Int) (A : Option Addr) (n c : Nat) (l : List UInt8) (hn : l.length = n) (w : World) (hS : Sees w w.heap.size A (bv l)) (hlen : l.length ≤ 1099511627776) :
    Calls Tryd.prog 10 #[.int .i64 kind, .slice A n c] w (Ret2B w (makeB kind l) (makeErr kind l.length)) := by
  have hnb : n ≤ 1099511627776 := by omega
  by_cases hk : kind < 0 ∨ 255 < kind
  · have HE : Hid (makeErr kind l.length = 1) := by unfold Hid makeErr; rw [if_pos hk]
    have HB : Hid (makeB kind l = []) := by unfold Hid makeB; rw [HE.out]; rfl
    rw [HB.out, HE.out]
    rcases hk with hk | hk
    all_goals
      go_enter Tryd.func10, Tryd.ntmps10
      go_wp2
      go_ret2
      exact ⟨_, rfl, OwnB.nil _ _, Below.refl _ _⟩
  by_cases hl : 65535 < n
  · have HE : Hid (makeErr kind l.length = 2) := by unfold Hid makeErr; rw [if_neg hk, if_pos (by omega)]
    have HB : Hid (makeB kind l = []) := by unfold Hid makeB; rw [HE.out]; rfl
    rw [HB.out, HE.out]
    have hk1 : 0 ≤ kind := by omega
    have hk2 : kind ≤ 255 := by omega
    clear hk
    go_enter Tryd.func10, Tryd.ntmps10
    go_wp2
    go_ret2
    exact ⟨_, rfl, OwnB.nil _ _, Below.refl _ _⟩
  · have HE : Hid (makeErr kind l.length = 0) := by unfold Hid makeErr; rw [if_neg hk, if_neg (by omega)]
    have HB : Hid (makeB kind l = sealB (UInt8.ofNat kind.toNat :: (venc l.length ++ l))) := by unfold Hid makeB; rw [HE.out]; rfl
    rw [HB.out, HE.out]
    have hk1 : 0 ≤ kind := by omega
    have hk2 : kind ≤ 255 := by omega
    have hn' := Lib.hid hn
    have hlen' := Lib.hid hlen
    have hv10 := Lib.hid (venc_len (u := n) (by unfold Is64; omega))
    clear hk hn hlen
    go_enter Tryd.func10, Tryd.ntmps10
    go_wp2_with fail
    refine (refBytes_any n (by unfold Is64; omega) _).mono ?_
    rintro e w1 ⟨v1, rfl, hown, hb⟩
    obtain ⟨A1, c1, rfl, -, -, -, hsee1⟩ := hown.open_
    have hout := (OwnB.new w w.heap.size (Nat.le_refl _) [UInt8.ofNat kind.toNat] 1 rfl #[.int .u8 kind] (by simp [bv]; omega) (by simp [maxLen])).below hb
    have hb1 : Below w.heap.size w w1 := ((Below.refl _ _).alloc (Nat.le_refl _) _).trans (hb.mono (by simp))
    have hs1 := hb1.size
    clear hown hb
    go_wp2_with (first
      | (at_builtin
         refine wpList_append_b rfl (.tmp 19) (.tmp 23) rfl w.heap.size (.slice (some ⟨w.heap.size, 0, none⟩) 1 1) _ (by rfl) hout w1.heap.size A1 _ c1 (venc n) (by rfl) rfl hsee1 (by have := hv10.out; simp; omega) hs1 ?_
         intro v2 w2 hown2 hon2
         have hb2 : Below w.heap.size w w2 := hb1.trans (hon2.below hs1 hout.block))
      | (at_builtin
         refine wpList_append_b rfl (.tmp 25) (.tmp 26) rfl w.heap.size v2 _ (by rfl) hown2 w.heap.size A n c l (by rfl) hn'.out (hS.below hb2) (by have := hv10.out; have := hn'.out; simp; omega) hb2.size ?_
         intro v3 w3 hown3 hon3))
    have hb3 : Below w.heap.size w w3 := hb2.trans (hon3.below hb2.size hown2.block)
    have hLl : ([UInt8.ofNat kind.toNat] ++ venc n ++ l).length ≤ 70000 := by have := hv10.out; have := hn'.out; simp; omega
    generalize hL : [UInt8.ofNat kind.toNat] ++ venc n ++ l = L at hown3 hLl
    have HL := Lib.hid hL
    clear hL
    obtain ⟨A3, c3, rfl, -, -, -, hsee3⟩ := hown3.open_
    refine (refTail_any A3 _ c3 L rfl w3 hsee3 (by omega)).mono ?_
    rintro e w4 ⟨v4, rfl, hown4, hb4⟩
    have hb5 : Below w.heap.size w w4 := hb3.trans (hb4.mono hb3.size)
    obtain ⟨A4, c4, rfl, -, -, -, hsee4⟩ := hown4.open_
    have hown3' := hown3.below hb4
    go_wp2_with (at_builtin; refine wpList_append_b rfl (.tmp 28) (.tmp 30) rfl w.heap.size (.slice A3 L.length c3) L (by rfl) hown3' w4.heap.size A4 _ c4 (tail4 _) (by rfl) rfl hsee4 (by simp [tail4]; omega) hb5.size ?_; intro v5 w5 hown5 hon5)
    go_ret2
    refine ⟨v5, rfl, ?_, hb5.trans (hon5.below hb5.size hown3'.block)⟩
    rw [hn'.out]
    have h9 : UInt8.ofNat kind.toNat :: (venc n ++ l) = L := by rw [← HL.out]; simp
    rw [h9]
    exact hown5
end Go.Proofs.YtbnjcdjgambnhaaDoor
