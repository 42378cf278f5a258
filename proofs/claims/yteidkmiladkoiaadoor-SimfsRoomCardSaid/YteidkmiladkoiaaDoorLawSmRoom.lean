/-
  The law SimfsRoom, walked.
-/
import Derived.Test.YteidkmiladkoiaaDoorSmOwn2
import Derived.Test.YteidkmiladkoiaaDoorSmRoomP
import Derived.Test.YteidkmiladkoiaaDoorWords
import Derived.Laws.OwnMore
namespace Go.Proofs.YteidkmiladkoiaaDoor
open Go.RowKit

theorem and1 (x : Int) : bits .and .i64 x 1 = x % 2 := by
  have e1 : (BitVec.ofInt 64 x).toNat % 2 = (x % 2).toNat := by
    rw [BitVec.toNat_ofInt]
    omega
  have hn : (BitVec.ofInt 64 x &&& BitVec.ofInt 64 1).toNat = (x % 2).toNat := by
    rw [BitVec.toNat_and, show (BitVec.ofInt 64 1).toNat = 1 from by decide, show (1 : Nat) = 2 ^ 1 - 1 from by omega, Nat.and_two_pow_sub_one_eq_mod]
    exact e1
  show IntKind.i64.wrap ((BitVec.ofInt 64 x &&& BitVec.ofInt 64 1).toNat : Int) = _
  rw [hn, IntKind.wrap_i64]
  omega
/-- 'make([]byte, n)'. -/
theorem make_zeros (w : World) (n : Nat) (hn : n ≤ 1048576) :
    ∃ W1, (Instr.makeSlice 28 (.int .i64 (n : Int)) (.int .i64 (n : Int))).run Tryd.prog w = .ok (.slice (some ⟨w.heap.size, 0, none⟩) n n) W1 ∧ Hid (Below w.heap.size w W1 ∧ Sees W1 W1.heap.size (some ⟨w.heap.size, 0, none⟩) (bv (List.replicate n 0))) := by
  obtain ⟨i, hi, hz0, hz1, hz2⟩ := info_parts Tryd.binfo
  have hr := run_make (P := Tryd.prog) w 28 5 i _ Tryd.underlying28 hi hz0 .i64 .i64 (n : Int) (n : Int) (by omega) (Int.le_refl _) (by rw [hz2]; omega) (by omega)
  simp only [Int.toNat_natCast, hz1, Nat.mul_one] at hr
  refine ⟨_, hr, (Below.refl _ w).alloc (Nat.le_refl _) _, ?_⟩
  have hcs : madeCells (Value.int .u8 0).cells n = (bv (List.replicate n 0)).toArray := by
    rw [bv_zeros]
    exact Array.toList_inj.1 (by rw [show (Value.int .u8 0).cells = #[.int .u8 0] from rfl, toList_madeCells_one])
  rw [hcs]
  have := sees_mark w (List.replicate n 0) 5 (0, 0) _ rfl
  simpa using this

set_option maxRecDepth 100000 in
set_option maxHeartbeats 3200000 in
theorem SimfsRoom_any (room : Int) (A : Option Addr) (n c : Nat) (ls : List Txt) (hn : ls.length = n) (w : World) (hS : Sees2 w w.heap.size A ls) :
    Calls Tryd.prog 3 #[.int .i64 room, .slice A n c] w (Gives w (.bool true)) := by
  have hA := Lib.hid (awake_any w)
  have HN := Lib.hid hn
  clear hn
  by_cases hbad : room < 0 ∨ 3000 < room ∨ 20 < n
  · have hb3 : 0 ≤ room → room ≤ (3000 : Int) → (20 : Int) < n := by omega
    have hfin : ∀ w2, Below w.heap.size w w2 → Hid (Calls Tryd.prog 6 #[.int .i64 (-7)] w2 fun e w3 => ∃ f m, e = .returned (.pointer (some ⟨f, 0, none⟩)) ∧ OwnE w2 w3 f (FsM.new 0) m) := fun w2 _ => new_own (-7) w2
    have hcr : ∀ w2 w3 f m, Below w.heap.size w w2 → OwnE w2 w3 f (FsM.new 0) m → Hid (Calls Tryd.prog 7 #[.pointer (some ⟨f, 0, none⟩), .string (strOf [97])] w3 fun e w' => e = .returned (.int .i64 0) ∧ Below w.heap.size w w') := fun w2 w3 f m hb o => by
      have k := create_own o (FsOk.new (by omega)) (by omega) [97] (by simp)
      rw [rme_0] at k
      refine k.mono ?_
      rintro e w' ⟨rfl, m', o', -⟩
      exact ⟨rfl, hb.trans (o'.below.mono hb.size)⟩
    go_enter Tryd.func3, Tryd.ntmps3
    go_wp2_with fail
    refine hA.out.mono ?_
    rintro en w2 ⟨rfl, hb2⟩
    have hf2 := hfin w2 hb2
    clear hA
    by_cases g1 : room < 0
    · clear hb3
      go_wp2_with fail
      refine hf2.out.mono ?_
      rintro e w3 ⟨f, m, rfl, o3⟩
      have hc := hcr w2 w3 f m hb2 o3
      clear o3 hf2
      go_wp2_with fail
      refine hc.out.mono ?_
      rintro e w4 ⟨rfl, hb4⟩
      go_wp2
      go_ret
      exact ⟨rfl, hb4⟩
    · by_cases g2 : (3000 : Int) < room
      · clear hb3
        go_wp2_with fail
        refine hf2.out.mono ?_
        rintro e w3 ⟨f, m, rfl, o3⟩
        have hc := hcr w2 w3 f m hb2 o3
        clear o3 hf2
        go_wp2_with fail
        refine hc.out.mono ?_
        rintro e w4 ⟨rfl, hb4⟩
        go_wp2
        go_ret
        exact ⟨rfl, hb4⟩
      · have g3 := hb3 (by omega) (by omega)
        clear hb3
        go_wp2_with fail
        refine hf2.out.mono ?_
        rintro e w3 ⟨f, m, rfl, o3⟩
        have hc := hcr w2 w3 f m hb2 o3
        clear o3 hf2
        go_wp2_with fail
        refine hc.out.mono ?_
        rintro e w4 ⟨rfl, hb4⟩
        go_wp2
        go_ret
        exact ⟨rfl, hb4⟩
  · obtain ⟨r, rfl⟩ : ∃ r : Nat, room = r := ⟨room.toNat, by omega⟩
    have g1 : ¬ (r : Int) < 0 := by omega
    have g2 : ¬ (3000 : Int) < r := by omega
    have g3 : ¬ (20 : Int) < n := by omega
    have hr : r ≤ 3000 := by omega
    have HR := Lib.hid hr
    clear hbad hr
    go_enter Tryd.func3, Tryd.ntmps3
    go_wp2_with fail
    refine hA.out.mono ?_
    rintro en w2 ⟨rfl, hb2⟩
    clear hA
    have hS2 : Sees2 w2 w.heap.size A ls := hS.below hb2
    have hnw := Lib.hid (new_own (r : Int) w2)
    go_wp2_with fail
    refine hnw.out.mono ?_
    rintro e w3 ⟨f, m3, rfl, o3⟩
    have er : (min (max (r : Int) 0) 16777216).toNat = r := by have := HR.out; omega
    rw [er] at o3
    have k3 := create_own o3 (FsOk.new (by have := HR.out; omega)) (by omega) [97] (by simp)
    rw [rme_1] at k3
    have K3 := Lib.hid k3
    clear hnw o3 k3 er
    go_wp2_with fail
    refine K3.out.mono ?_
    rintro e w4 ⟨rfl, m4, o4, -⟩
    have k4 := create_own o4 (rmo_1 HR.out) (by omega) [98] (by simp)
    rw [rme_2] at k4
    have K4 := Lib.hid k4
    clear K3 o4 k4
    go_wp2_with fail
    refine K4.out.mono ?_
    rintro e w5 ⟨rfl, m5, o5, -⟩
    have O5 := Lib.hid o5
    clear K4 o5
    go_wp2
    go_loopg [7, 8] n (fun g u i wr => ∃ (k : Nat) (a b : Txt) (m : Nat → Prop) (t : Nat), k + g = n ∧ u = .int .i64 (t : Int) ∧ i = .int .i64 (k : Int) ∧ Hid (OwnE w2 wr f (rm r a b) m) ∧ Hid (a.length + b.length = t) ∧ t ≤ r)
    case atStart => exact ⟨0, [], [], m5, 0, by omega, rfl, rfl, O5, rfl, by omega⟩
    case round =>
      obtain ⟨k, a, b, m, t, hk, rfl, rfl, o, ht, htr⟩ := hrel
      have hbr := o.out.below
      have hb : Below w.heap.size w wr := hb2.trans (hbr.mono hb2.size)
      have HO := Lib.hid (rmo_3 (r := r) (a := a) (b := b) HR.out (by have := HR.out; have := ht.out; omega) (by have := HR.out; have := ht.out; omega))
      by_cases hlt : k < n
      · have hkl : k < ls.length := by have := HN.out; omega
        obtain ⟨ad, Ai, ci, rfl, had, g4, hci, hsee⟩ := (hS.below hb).out k hkl
        obtain ⟨x, hx⟩ : ∃ x, ls[k] = x := ⟨_, rfl⟩
        rw [hx] at g4 hci hsee
        obtain ⟨lx, hlx⟩ : ∃ l, x.length = l := ⟨_, rfl⟩
        rw [hlx] at g4 hci
        have HLX := Lib.hid hlx
        have hsee' := Lib.hid (Hold.of_old (m := m) (hsee.more (Nat.le_trans hb2.size (Nat.le_refl _))) hbr.size o.out.lt)
        have had' : (ad.add k).block < w.heap.size := by rw [add_block]; exact had
        clear hx hlx hsee
        by_cases g300 : (300 : Int) < lx
        · go_wp2_with fail
          go_ret
          exact ⟨rfl, hb⟩
        · have hand := and1 (k : Int)
          have step : ∀ odd : Bool, ∃ (a' b' : Txt) (e t' : Nat), Hid (Calls Tryd.prog 8 #[.pointer (some ⟨f, 0, none⟩), .string (strOf (pth odd)), .slice Ai lx ci] wr fun e1 w' => e1 = .returned (.int .i64 (e : Int)) ∧ Steps w2 wr f (rm r a' b') m w') ∧ Hid (a'.length + b'.length = t') ∧ t' ≤ r ∧
              (((t + lx ≤ r ∨ lx = 0) ∧ e = 0 ∧ t' = t + lx) ∨ (¬ t + lx ≤ r ∧ ¬ lx = 0 ∧ e = 62 ∧ t' = t)) := fun odd => by
            obtain ⟨a', b', e, h1, h2, h3⟩ := rm_app r a b x odd (by have := ht.out; omega) HR.out (by have := HLX.out; omega)
            have kk := append_own o.out HO.out (by omega) (pth odd) Ai lx ci x HLX.out hci (by omega) hsee'.out
            rw [h1] at kk
            refine ⟨a', b', e, a'.length + b'.length, kk, rfl, h2, ?_⟩
            have e1 := ht.out
            have e2 := HLX.out
            rw [e1, e2] at h3
            exact h3
          obtain ⟨odd, hodd⟩ : ∃ odd : Bool, Hid (decide ((k : Int) % 2 = 1) = odd) := ⟨_, rfl⟩
          obtain ⟨a', b', e, t', K1, ht', htr', hcase⟩ := step odd
          clear step
          have goOn : ∀ w' m', OwnE w2 w' f (rm r a' b') m' → Hid (Calls Tryd.prog 9 #[.pointer (some ⟨f, 0, none⟩)] w' fun e w9 => e = .returned (.int .i64 (t' : Int)) ∧ OwnE w2 w9 f (rm r a' b') m') := fun w' m' o1 => by
            have kk := used_own o1 (rmo_3 (r := r) (a := a') (b := b') HR.out (by have := HR.out; have := ht'.out; omega) (by have := HR.out; have := ht'.out; omega)) (by omega)
            rw [rm_used, ht'.out] at kk
            refine kk.mono ?_
            rintro e w9 ⟨rfl, hb9⟩
            exact ⟨rfl, o1.newB hb9⟩
          cases odd with
          | false =>
            have hne : ¬ (k : Int) % 2 = 1 := by simpa using hodd.out
            clear hodd
            by_cases hfit1 : (t : Int) + lx ≤ r
            · obtain ⟨rfl, rfl⟩ : e = 0 ∧ t' = t + lx := by rcases hcase with ⟨-, e1, e2⟩ | ⟨e1, -⟩; exact ⟨e1, e2⟩; omega
              clear hcase
              go_wp2_with fail
              refine K1.out.mono ?_
              rintro e1 w6 ⟨rfl, m6, o6, st6⟩
              have hb6 : Below w.heap.size w w6 := hb2.trans (o6.below.mono hb2.size)
              have q6 := (hb6.cell had').trans ((hb.cell had').symm.trans g4)
              have G := goOn w6 m6 o6
              clear K1 o6 st6 g4 goOn
              go_wp2_with fail
              refine G.out.mono ?_
              rintro e9 w9 ⟨rfl, o9⟩
              have O9 := Lib.hid o9
              clear G o9 hb6 q6
              go_wp2_with fail
              go_roundg (n - (k + 1))
              case measure => omega
              case rel => exact ⟨k + 1, a', b', m6, _, by omega, by go_num, by go_num, O9, ht', htr'⟩
            · by_cases hl0 : lx = 0
              · omega
              · obtain ⟨rfl, rfl⟩ : e = 62 ∧ t' = t := by rcases hcase with ⟨e1, -, -⟩ | ⟨-, -, e1, e2⟩; rcases e1 with e1 | e1; omega; exact absurd e1 hl0; exact ⟨e1, e2⟩
                have hfb : decide ((t' : Int) + (lx : Int) ≤ (r : Int)) = false := decide_eq_false hfit1
                have hlb : ((lx : Int) == 0) = false := by simpa using hl0
                clear hfit1
                clear hcase
                go_wp2_with fail
                refine K1.out.mono ?_
                rintro e1 w6 ⟨rfl, m6, o6, st6⟩
                have hb6 : Below w.heap.size w w6 := hb2.trans (o6.below.mono hb2.size)
                have q6 := (hb6.cell had').trans ((hb.cell had').symm.trans g4)
                have G := goOn w6 m6 o6
                clear K1 o6 st6 g4 goOn
                go_wp2_with fail
                refine G.out.mono ?_
                rintro e9 w9 ⟨rfl, o9⟩
                have O9 := Lib.hid o9
                clear G o9 hb6 q6
                go_wp2_with fail
                go_roundg (n - (k + 1))
                case measure => omega
                case rel => exact ⟨k + 1, a', b', m6, _, by omega, by go_num, by go_num, O9, ht', htr'⟩
          | true =>
            have hne : (k : Int) % 2 = 1 := by simpa using hodd.out
            clear hodd
            by_cases hfit1 : (t : Int) + lx ≤ r
            · obtain ⟨rfl, rfl⟩ : e = 0 ∧ t' = t + lx := by rcases hcase with ⟨-, e1, e2⟩ | ⟨e1, -⟩; exact ⟨e1, e2⟩; omega
              clear hcase
              go_wp2_with fail
              refine K1.out.mono ?_
              rintro e1 w6 ⟨rfl, m6, o6, st6⟩
              have hb6 : Below w.heap.size w w6 := hb2.trans (o6.below.mono hb2.size)
              have q6 := (hb6.cell had').trans ((hb.cell had').symm.trans g4)
              have G := goOn w6 m6 o6
              clear K1 o6 st6 g4 goOn
              go_wp2_with fail
              refine G.out.mono ?_
              rintro e9 w9 ⟨rfl, o9⟩
              have O9 := Lib.hid o9
              clear G o9 hb6 q6
              go_wp2_with fail
              go_roundg (n - (k + 1))
              case measure => omega
              case rel => exact ⟨k + 1, a', b', m6, _, by omega, by go_num, by go_num, O9, ht', htr'⟩
            · by_cases hl0 : lx = 0
              · omega
              · obtain ⟨rfl, rfl⟩ : e = 62 ∧ t' = t := by rcases hcase with ⟨e1, -, -⟩ | ⟨-, -, e1, e2⟩; rcases e1 with e1 | e1; omega; exact absurd e1 hl0; exact ⟨e1, e2⟩
                have hfb : decide ((t' : Int) + (lx : Int) ≤ (r : Int)) = false := decide_eq_false hfit1
                have hlb : ((lx : Int) == 0) = false := by simpa using hl0
                clear hfit1
                clear hcase
                go_wp2_with fail
                refine K1.out.mono ?_
                rintro e1 w6 ⟨rfl, m6, o6, st6⟩
                have hb6 : Below w.heap.size w w6 := hb2.trans (o6.below.mono hb2.size)
                have q6 := (hb6.cell had').trans ((hb.cell had').symm.trans g4)
                have G := goOn w6 m6 o6
                clear K1 o6 st6 g4 goOn
                go_wp2_with fail
                refine G.out.mono ?_
                rintro e9 w9 ⟨rfl, o9⟩
                have O9 := Lib.hid o9
                clear G o9 hb6 q6
                go_wp2_with fail
                go_roundg (n - (k + 1))
                case measure => omega
                case rel => exact ⟨k + 1, a', b', m6, _, by omega, by go_num, by go_num, O9, ht', htr'⟩
      · have hkn : k = n := by omega
        subst hkn
        have kk := remove_own o.out HO.out (by omega) [97]
        rw [rme_3] at kk
        have KK := Lib.hid kk
        clear kk
        go_wp2_with fail
        refine KK.out.mono ?_
        rintro e w6 ⟨rfl, m6, o6, st6⟩
        have HO6 := Lib.hid (rmo_4 (r := r) (a := a) (b := b) HR.out (by have := HR.out; have := ht.out; omega) (by have := HR.out; have := ht.out; omega))
        have kk := read_own o6 HO6.out [98]
        rw [rme_4] at kk
        have K6 := Lib.hid kk
        have O6 := Lib.hid o6
        clear KK kk o6 st6
        go_wp2_with fail
        refine K6.out.mono ?_
        rintro e w7 ⟨v7, rfl, hown7, hb7⟩
        dsimp only at hown7
        obtain ⟨A7, c7, rfl, hc7, -, -, -⟩ := hown7.open_
        dsimp only at hc7 ⊢
        obtain ⟨lb, hlb⟩ : ∃ l, b.length = l := ⟨_, rfl⟩
        have o7 := O6.out.newB hb7
        have hlr : lb ≤ r := by have := ht.out; omega
        obtain ⟨z, hz⟩ : ∃ z, r - lb = z := ⟨_, rfl⟩
        obtain ⟨W8, hmk, hmk2⟩ := make_zeros w7 z (by have := HR.out; omega)
        have hzi : (r : Int) - (lb : Int) = (z : Int) := by omega
        have o8 := o7.newB hmk2.out.1
        have hs8 : Hold m6 W8 (some ⟨w7.heap.size, 0, none⟩) (bv (List.replicate z 0)) := by
          rcases hmk2.out.2.out with e | ⟨ad, e1, e2, e3⟩
          · exact ⟨⟨.inl e⟩⟩
          · injection e1 with e1
            subst e1
            refine ⟨⟨.inr ⟨_, rfl, ⟨?_, fun e => by have := (o7.lt _ e).2; simp at this⟩, e3⟩⟩⟩
            exact e2
        have kk := append_own o8 HO6.out (by omega) [98] _ z z (List.replicate z 0) (by simp) (Nat.le_refl _) (by have := HR.out; omega) hs8
        rw [rme_5 HR.out _ (by simp; omega)] at kk
        have K8 := Lib.hid kk
        have HLB := Lib.hid hlb
        rw [hlb]
        clear K6 O6 kk o7 o8 hs8 hown7 hb7 hc7 hlb hlr hmk2
        go_wp2_with fail
        refine K8.out.mono ?_
        rintro e w9 ⟨rfl, m9, o9, st9⟩
        have kk := used_own o9 (rmo_5 (r := r) (a := a) (b := b) (z := List.replicate z 0) HR.out (by have := HR.out; have := ht.out; omega) (by have := HR.out; have := HLB.out; simp; omega)) (by omega)
        have eu : (rz r a (b ++ List.replicate z 0)).used = r := by rw [rz_used]; have := HLB.out; simp; omega
        rw [eu] at kk
        have K9 := Lib.hid kk
        have HB9 := Lib.hid (hb2.trans (o9.below.mono hb2.size))
        clear K8 kk o9 st9 eu
        go_wp2_with fail
        refine K9.out.mono ?_
        rintro e w10 ⟨rfl, hb10⟩
        go_wp2
        go_ret
        exact ⟨rfl, HB9.out.trans (hb10.mono HB9.out.size)⟩
end Go.Proofs.YteidkmiladkoiaaDoor
