/-
  A set that is loaded from files, walked.
-/
import Derived.Test.YtalmnodgjjcefaaGreatDoorJTgC
namespace Go.Proofs.YtalmnodgjjcefaaGreatDoor
open Go.RowKit Go.Maps

/-- What files hold, each opened. -/
structure OpensTo (bs : List (List UInt8)) (F : List (List Item)) : Prop where
  len : F.length = bs.length
  at_ : ∀ i (h : i < bs.length) (h' : i < F.length), openB bs[i] = some F[i]
theorem OpensTo.push {bs : List (List UInt8)} {F : List (List Item)} {k : Nat} (h : OpensTo (bs.take k) F) (hk : k < bs.length) {ls : List Item} (hl : openB bs[k] = some ls) : OpensTo (bs.take (k + 1)) (F ++ [ls]) := by
  have h1 := h.len
  rw [List.length_take] at h1
  refine ⟨by rw [List.length_append, List.length_take, h1]; simp; omega, fun i h2 h3 => ?_⟩
  rw [List.length_take] at h2
  by_cases hi : i < k
  · have := h.at_ i (by rw [List.length_take]; omega) (by omega)
    rw [List.getElem_take] at this ⊢
    rw [List.getElem_append_left (by omega)]
    exact this
  · obtain rfl : i = k := by omega
    rw [List.getElem_take, List.getElem_append_right (by omega)]
    simpa using hl
/-- What a load gives. -/
def LoadIs (w : World) (bs : List (List UInt8)) (e : Ending) (w' : World) : Prop := Below w.heap.size w w' ∧ ((∃ F, OpensTo bs F ∧ ∃ S, e = .returned (.tuple #[.pointer (some ⟨S, 0, none⟩), .int .i64 0]) ∧ SetAt (fun k => w.heap.size ≤ k ∧ k < w'.heap.size) w' S ⟨[], F⟩) ∨ ((∃ i, ∃ hi : i < bs.length, openB bs[i] = none) ∧ e = .returned (.tuple #[.pointer none, .int .i64 170])))
theorem SetAt.put {m : Nat → Prop} {w w3 w4 w5 : World} {S bm P k : Nat} {v v' : Value} {F : List (List Item)} {ls : List Item} {ps : List Value} (hm : ∀ j, m j → j < w.heap.size) (hF : F.length = k) (g1 : w.cell? ⟨S, 0, none⟩ = some (.map (some bm))) (d1 : w5.cell? ⟨S, 1, none⟩ = some v) (f1 : w5.frozen? ⟨S, 1, none⟩ = false) (g4 : m S) (g5 : m bm) (g6 : bm ≠ S)
    (g7 : MemAt w bm []) (o1 : w.ownsRow 0 160 1 v k ps) (o2 : ∀ j, v.ownBlock = some j → m j ∧ j ≠ S ∧ j ≠ bm) (o3 : ∀ i (hi : i < F.length), ∃ P, ps[i]? = some (.pointer (some ⟨P, 0, none⟩)) ∧ PartAt (fun j => (m j ∧ j ≠ S ∧ j ≠ bm) ∧ v.ownBlock ≠ some j) w P F[i])
    (hb3 : Below w.heap.size w w3) (hb4 : Below w3.heap.size w3 w4) (hP : PartAt (fun j => w.heap.size ≤ j ∧ j < w3.heap.size) w3 P ls) (hown : w5.ownsRow 0 160 1 v' (k + 1) (ps ++ [.pointer (some ⟨P, 0, none⟩)])) (hon : Onto w4 w5 v v') :
    SetAt (fun j => m j ∨ (w.heap.size ≤ j ∧ j < (w5.setCell ⟨S, 1, none⟩ v').heap.size)) (w5.setCell ⟨S, 1, none⟩ v') S ⟨[], F ++ [ls]⟩ ∧ Turn m w (w5.setCell ⟨S, 1, none⟩ v') := by
  have s3 := hb3.size
  have s4 := hb4.size
  have s5 := hon.size
  have hz : (w5.setCell ⟨S, 1, none⟩ v').heap.size = w5.heap.size := World.size_setCell _ _ _
  have hSl := hm S g4
  have hbl := hm bm g5
  have hb4' : Below w.heap.size w w4 := hb3.trans (hb4.mono s3)
  have hnS : v.ownBlock ≠ some S := fun e => (o2 S e).2.1 rfl
  have hnb : v.ownBlock ≠ some bm := fun e => (o2 bm e).2.2 rfl
  have hk5 : Kept (fun j => j < w.heap.size ∧ v.ownBlock ≠ some j) w w5 := fun j hj => (hon.grown.block j (by omega) (fun e => hj.2 e.symm)).trans (hb4'.block j hj.1)
  have hput := PartsAt.put (w := w) (w2 := w4) (w3 := w5) (f := ls) (P := P) (by rw [hF]; exact o1) o2 o3 (fun j e => hm j e.1) hb4' ((hP.keep (Kept.of_below hb4 fun j e => e.2)).mono fun j e => ⟨e.1, by omega⟩) (by rw [hF]; exact hown) hon
  have hset : ∀ j, j ≠ S → (w5.setCell ⟨S, 1, none⟩ v').heap[j]? = w5.heap[j]? := fun j hj => Below.heap_setCell _ _ _ _ hj
  refine ⟨⟨⟨bm, v', ?_, World.cell?_setCell_same _ _ _ d1, ?_, .inl g4, .inl g5, g6, ?_, ?_⟩, fun j e => by rcases e with e | e; have := hm j e; omega; exact e.2⟩, ?_⟩
  · rw [World.cell?_setCell_other _ _ _ _ (by simp)]
    exact (hk5.cell (p := ⟨S, 0, none⟩) ⟨hSl, hnS⟩).trans g1
  · rw [World.frozen?_setCell]
    exact f1
  · exact (g7.keep (hk5 bm ⟨hbl, hnb⟩)).keep (hset bm g6)
  · refine (hput.keep fun j e => hset j ?_).mono fun j e => ?_
    · rcases e with e | e
      · exact e.2.1
      · omega
    · rcases e with e | e
      · exact ⟨.inl e.1, e.2⟩
      · exact ⟨.inr ⟨e.1, by omega⟩, by omega, by omega⟩
  · exact ((Turn.of_new hb4').trans' (Turn.onto hon fun j e => (o2 j e).1) fun _ _ e => e).trans (Turn.setCell _ ⟨S, 1, none⟩ _ g4)

set_option maxRecDepth 100000 in
set_option maxHeartbeats 3200000 in
theorem load_any (A : Option Addr) (n c : Nat) (bs : List (List UInt8)) (hn : bs.length = n) (hn1 : n ≤ 100) (hlen : ∀ b ∈ bs, b.length ≤ 1000000) (hgood : ∀ b ∈ bs, openB b ≠ none) (w : World) (hS : Sees2 w w.heap.size A bs) (hH : Halves w) :
    Calls Tryz.prog 67 #[.slice A n c] w (LoadIs w bs) := by
  obtain ⟨ti, hti, hz0, hz1, hz2⟩ := info_parts Tryz.partinfo
  have hn1' : (n : Int) ≤ 100 := by omega
  have HN := Lib.hid hn
  have HLEN := Lib.hid hlen
  have HGOOD := Lib.hid hgood
  have HH := Lib.hid hH
  clear hn hlen hH hgood
  go_enter Tryz.func67, Tryz.ntmps67
  go_wp2_with fail
  refine (new_any w).mono ?_
  rintro e w1 ⟨rfl, hA1, hb1⟩
  obtain ⟨S, hS1⟩ : ∃ S, w.heap.size + 1 = S := ⟨_, rfl⟩
  rw [hS1] at hA1 ⊢
  have HA1 := Lib.hid hA1
  clear hA1 hS1
  go_wp2
  go_loopg [15] n (fun g i wr => ∃ (k : Nat) (F : List (List Item)), k + g = n ∧ i = .int .i64 k ∧ Hid (OpensTo (bs.take k) F) ∧ Hid (SetAt (fun j => w.heap.size ≤ j ∧ j < wr.heap.size) wr S ⟨[], F⟩) ∧ Below w.heap.size w wr)
  case atStart => exact ⟨0, [], by omega, rfl, ⟨rfl, fun i h => by simp at h⟩, HA1.out, hb1⟩
  case round =>
    obtain ⟨k, F, hk, rfl, HOp, HSet, hb⟩ := hrel
    have hbs := hb.size
    by_cases hlt : k < n
    · have hkl : k < bs.length := by have := HN.out; omega
      obtain ⟨ad, Ai, ci, rfl, had, hcell, hci, hsee⟩ := hS.out k hkl
      obtain ⟨b, hbk⟩ : ∃ b, bs[k] = b := ⟨_, rfl⟩
      have hbl : b.length ≤ 1000000 := hbk ▸ HLEN.out _ (List.getElem_mem hkl)
      rw [hbk] at hcell hci hsee
      obtain ⟨lb, hlb⟩ : ∃ l, b.length = l := ⟨_, rfl⟩
      rw [hlb] at hcell hci hbl
      have HLB := Lib.hid hlb
      have HBK := Lib.hid hbk
      replace hcell := (hb.cell (p := ad.add k) (by rw [add_block]; exact had)).trans hcell
      have hsr : Sees wr wr.heap.size Ai (bv b) := (hsee.below hb).more hbs
      cases hop : openB b with
      | none => exact absurd hop (HGOOD.out b (hbk ▸ List.getElem_mem hkl))
      | some ls =>
        have hO := Lib.hid (Open_good Ai lb ci b HLB.out hci hbl wr hsr (HH.out.below hb HH.out.1) ls hop)
        have HPU := Lib.hid (HOp.out.push hkl (by rw [HBK.out]; exact hop))
        have hFk : F.length = k := by have := HOp.out.len; rw [List.length_take] at this; omega
        have HFK := Lib.hid hFk
        obtain ⟨bm, v, g1, g2, g3, g4, g5, g6, g7, g8⟩ := HSet.out.out
        obtain ⟨A', c', hv, hc', -⟩ := g8.open_
        obtain ⟨ps, o1, o2, o3⟩ := g8.out
        rw [hFk] at hv hc' o1
        subst hv
        have HG1 := Lib.hid g1
        have HG7 := Lib.hid g7
        have HO2 := Lib.hid o2
        have HO3 := Lib.hid o3
        have HO1 := Lib.hid o1
        clear hop hsr hbk hlb hsee hFk g7 g8 o1 o2 o3
        go_wp2_with fail
        refine hO.out.mono ?_
        rintro e w3 ⟨P, rfl, hP, hb3⟩
        have hs3 := hb3.size
        have hk3 : Kept (fun j => w.heap.size ≤ j ∧ j < wr.heap.size) wr w3 := Kept.of_below hb3 fun j e => e.2
        have c1 := (hk3.cell (p := ⟨S, 1, none⟩) g4).trans g2
        have f1 := (frozen_of_block (a := ⟨S, 1, none⟩) (hk3 S g4)).trans g3
        have hSl3 : S < w3.heap.size := Nat.lt_of_lt_of_le g4.2 hs3
        have o4 := own_below HO1.out hb3
        have HP := Lib.hid hP
        clear hO hP g1 g2 g3
        go_wp2_with (at_builtin; (refine wpList_append_v rfl (.tmp 31) (.tmp 33) 132 rfl 160 ti _ 1 8 Tryz.underlying132 hti hz0 hz1 hz2 rfl (by omega) 0 _ k ps (by rfl) (World.ownsRow.alloc o4 _) (w3.heap.size + 1) (some ⟨w3.heap.size, 0, none⟩) 1 1 [.pointer (some ⟨P, 0, none⟩)] (by rfl) rfl (sees_cell w3 _ rfl _ _) (fun u hu => by simp at hu; subst hu; rfl) (by simp only [maxLen]; omega) (by omega) (by omega) ?_; intro v5 w5 hown5 hon5; obtain ⟨gv, cv, rfl⟩ := ownsRow_succ hown5; have hk5 : Kept (fun j => j < w3.heap.size ∧ (Value.slice A' k c').ownBlock ≠ some j) w3 w5 := (fun j hj => (hon5.grown.block j (by simp; omega) (fun e => hj.2 e.symm)).trans (Below.heap_alloc _ _ j hj.1)); have hnS : (Value.slice A' k c').ownBlock ≠ some S := (fun e => (HO2.out S e).2.1 rfl); have hs5 : w3.heap.size ≤ w5.heap.size := (by have := hon5.size; simp at this; omega); have d1 := (hk5.cell (p := ⟨S, 1, none⟩) ⟨hSl3, hnS⟩).trans c1; have e1 := (frozen_of_block (a := ⟨S, 1, none⟩) (hk5 S ⟨hSl3, hnS⟩)).trans f1))
        obtain ⟨hset, hturn⟩ := SetAt.put (w := wr) (fun j e => e.2) HFK.out HG1.out d1 e1 g4 g5 g6 HG7.out HO1.out HO2.out HO3.out hb3 ((Below.refl _ w3).alloc (Nat.le_refl _) _) HP.out hown5 hon5
        go_roundg (n - (k + 1))
        case measure => omega
        case rel => exact ⟨k + 1, F ++ [ls], by omega, by go_num, HPU.out, hset.mono (fun j e => by rcases e with e | e; exact ⟨e.1, by have := hset.lt j (.inl e); omega⟩; exact ⟨by omega, e.2⟩) (fun j e => e.2), hb.trans (hturn.below (fun j e => e.1) hbs)⟩
    · obtain rfl : k = n := by omega
      have hop := HOp.out
      rw [List.take_of_length_le (by have := HN.out; omega)] at hop
      have HOP := Lib.hid hop
      clear hop hlt
      go_wp2
      go_ret2
      exact ⟨hb, .inl ⟨F, HOP.out, S, rfl, HSet.out⟩⟩
end Go.Proofs.YtalmnodgjjcefaaGreatDoor
