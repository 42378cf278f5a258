/-
  container/heap over a value that has its methods, walked: down, up, Init, Fix, Pop.
-/
import Derived.Test.YtcfbblgoligagaaMem
import Derived.Test.YtcfbblgoligagaaRises
import Derived.Test.YtcfbblgoligagaaKmHeap
namespace Go.Proofs.Ytcfbblgoligagaa
open Go.RowKit

/-- A value with the methods that heap asks for; St: the rows that it holds, in their order. -/
structure HeapI {γ : Type} [Inhabited γ] (τ : TypeId) (a : Addr) (fN fL fS fP : FuncId) (less : γ → γ → Bool) (Ne : γ → Prop) (St : List γ → World → Prop) : Prop where
  wo : Wo less
  mN : ∀ w, (method 236 τ (.pointer (some a)) "Len").run Try.prog w = .ok (fN, .pointer (some a)) w
  mL : ∀ w, (method 236 τ (.pointer (some a)) "Less").run Try.prog w = .ok (fL, .pointer (some a)) w
  mS : ∀ w, (method 236 τ (.pointer (some a)) "Swap").run Try.prog w = .ok (fS, .pointer (some a)) w
  mP : ∀ w, (method 236 τ (.pointer (some a)) "Pop").run Try.prog w = .ok (fP, .pointer (some a)) w
  eN : ∀ args w, (callFunc fN args).run Try.prog w = .ok (.enter fN args) w
  eL : ∀ args w, (callFunc fL args).run Try.prog w = .ok (.enter fL args) w
  eS : ∀ args w, (callFunc fS args).run Try.prog w = .ok (.enter fS args) w
  eP : ∀ args w, (callFunc fP args).run Try.prog w = .ok (.enter fP args) w
  drew : ∀ L w q, St L w → St L (w.drewN q)
  few : ∀ L w, St L w → L.length ≤ 1000000
  len : ∀ L w, St L w → Calls Try.prog fN #[.pointer (some a)] w fun e w' => e = .returned (.int .i64 (L.length : Nat)) ∧ w = w'
  lss : ∀ L w (i j : Int), St L w → 0 ≤ i → i < (L.length : Nat) → 0 ≤ j → j < (L.length : Nat) → Ne (atG L i.toNat) → Ne (atG L j.toNat) → Calls Try.prog fL #[.pointer (some a), .int .i64 i, .int .i64 j] w (BoolIs w (less (atG L i.toNat) (atG L j.toNat)))
  swp : ∀ L w (i j : Int), St L w → 0 ≤ i → i < (L.length : Nat) → 0 ≤ j → j < (L.length : Nat) → Calls Try.prog fS #[.pointer (some a), .int .i64 i, .int .i64 j] w fun e w' => e = .returned (.tuple #[]) ∧ St (swapG L i.toNat j.toNat) w'
  pop : ∀ L w, St L w → L ≠ [] → Calls Try.prog fP #[.pointer (some a)] w fun e w' => (∃ v, e = .returned v) ∧ St L.dropLast w'

/-- What one that went down leaves. -/
def DownIs {γ : Type} [Inhabited γ] (less : γ → γ → Bool) (St : List γ → World → Prop) (L0 : List γ) (s n : Nat) (e : Ending) (w' : World) : Prop :=
  ∃ (b : Bool) (L : List γ), e = .returned (.bool b) ∧ St L w' ∧ Hp less s n L ∧ L.Perm L0 ∧ ∀ k, n ≤ k → L[k]? = L0[k]?

set_option maxRecDepth 100000 in
set_option maxHeartbeats 1600000 in
theorem down_any {γ : Type} [Inhabited γ] {τ : TypeId} {a : Addr} {fN fL fS fP : FuncId} {less : γ → γ → Bool} {Ne : γ → Prop} {St : List γ → World → Prop} (H : HeapI τ a fN fL fS fP less Ne St)
    (L0 : List γ) (w : World) (hSt : St L0 w) (s n : Nat) (hn : n ≤ L0.length) (hs : s ≤ n) (hHp : Hp less (s + 1) n L0) (hNe : ∀ k, k < n → Ne (atG L0 k)) :
    Calls Try.prog 54 #[.iface τ (.pointer (some a)), .int .i64 s, .int .i64 n] w (DownIs less St L0 s n) := by
  have hn6 : n ≤ 1000000 := Nat.le_trans hn (H.few _ _ hSt)
  have mL := H.mL
  have mS := H.mS
  have eL := H.eL
  have eS := H.eS
  have hD := DownI.start hHp
  go_enter Try.func54, Try.ntmps54
  go_wp2_with fail
  go_loopg [7] (n - s) (fun g i wr => ∃ (k : Nat) (L : List γ), k + g = n ∧ i = .int .i64 k ∧ St L wr ∧ DownI less s n L0 L k ∧ ∀ k, k < n → Ne (atG L k))
  case atStart => exact ⟨s, L0, by omega, rfl, hSt, hD, hNe⟩
  case round =>
    obtain ⟨k, L, hk, rfl, hst, hd, hne'⟩ := hrel
    have hne := Lib.hid hne'
    clear hHp hSt hD hNe hne'
    have hlen : L.length = L0.length := hd.perm.length_eq
    have hLn : n ≤ L.length := by omega
    clear hlen
    by_cases h1 : 2 * k + 1 < n
    · by_cases h2 : 2 * k + 2 < n
      · obtain ⟨b1, hb1⟩ : ∃ b1, less (atG L (2 * k + 2)) (atG L (2 * k + 1)) = b1 := ⟨_, rfl⟩
        have hC1 := Lib.hid (H.lss L wr (2 * (k : Int) + 1 + 1) (2 * (k : Int) + 1) hst (by omega) (by omega) (by omega) (by omega) (hne.out _ (by omega)) (hne.out _ (by omega)))
        rw [show (2 * (k : Int) + 1 + 1).toNat = 2 * k + 2 from by omega, show (2 * (k : Int) + 1).toNat = 2 * k + 1 from by omega, hb1] at hC1
        have HB1 := Lib.hid hb1
        clear hb1
        go_wp2_with fail
        refine hC1.out.mono ?_
        rintro e w1 ⟨rfl, q1, rfl⟩
        have hst1 := H.drew _ _ q1 hst
        clear hC1 hst
        cases b1 with
        | true =>
          have hkid : kid less n L k = 2 * k + 2 := by unfold kid; rw [if_pos ⟨h2, HB1.out⟩]
          obtain ⟨b2, hb2⟩ : ∃ b2, less (atG L (2 * k + 2)) (atG L k) = b2 := ⟨_, rfl⟩
          have hC2 := Lib.hid (H.lss L _ (2 * (k : Int) + 1 + 1) (k : Int) hst1 (by omega) (by omega) (by omega) (by omega) (hne.out _ (by omega)) (hne.out _ (by omega)))
          rw [show (2 * (k : Int) + 1 + 1).toNat = 2 * k + 2 from by omega, show ((k : Int)).toNat = k from by omega, hb2] at hC2
          have HB2 := Lib.hid hb2
          have HKID := Lib.hid hkid
          clear hb2 HB1 hkid
          go_wp2_with fail
          refine hC2.out.mono ?_
          rintro e w2 ⟨rfl, q2, rfl⟩
          have hst2 := H.drew _ _ q2 hst1
          rw [World.drewN_drewN] at hst2
          clear hC2 hst1
          cases b2 with
          | true =>
            have hd2 := hd.step H.wo hLn h1 (by rw [HKID.out]; exact HB2.out)
            rw [HKID.out] at hd2
            have hne2 : Hid (∀ j, j < n → Ne (atG (swapG L k (2 * k + 2)) j)) := fun j hj => by rw [swapG_at (by omega) (by omega) j]; split; exact hne.out _ (by omega); split; exact hne.out _ (by omega); exact hne.out _ hj
            have hC3 := Lib.hid (H.swp L _ (k : Int) (2 * (k : Int) + 1 + 1) hst2 (by omega) (by omega) (by omega) (by omega))
            rw [show (2 * (k : Int) + 1 + 1).toNat = 2 * k + 2 from by omega, show ((k : Int)).toNat = k from by omega] at hC3
            clear HKID HB2 hd hst2
            go_wp2_with fail
            refine hC3.out.mono ?_
            rintro e w3 ⟨rfl, hst3⟩
            clear hC3
            go_wp2_with fail
            go_roundg (n - (2 * k + 2))
            case measure => omega
            case rel => exact ⟨2 * k + 2, _, by omega, by go_num, hst3, hd2, hne2.out⟩
          | false =>
            have hp := hd.stop2 H.wo (by rw [HKID.out]; exact HB2.out)
            have hpm := hd.perm
            have hout := Lib.hid hd.out
            clear HKID HB2 hd
            go_wp2_with fail
            go_ret
            exact ⟨_, L, rfl, hst2, hp, hpm, hout.out⟩
        | false =>
          have hkid : kid less n L k = 2 * k + 1 := by unfold kid; rw [if_neg (fun e => by have := e.2; rw [HB1.out] at this; cases this)]
          obtain ⟨b2, hb2⟩ : ∃ b2, less (atG L (2 * k + 1)) (atG L k) = b2 := ⟨_, rfl⟩
          have hC2 := Lib.hid (H.lss L _ (2 * (k : Int) + 1) (k : Int) hst1 (by omega) (by omega) (by omega) (by omega) (hne.out _ (by omega)) (hne.out _ (by omega)))
          rw [show (2 * (k : Int) + 1).toNat = 2 * k + 1 from by omega, show ((k : Int)).toNat = k from by omega, hb2] at hC2
          have HB2 := Lib.hid hb2
          have HKID := Lib.hid hkid
          clear hb2 HB1 hkid
          go_wp2_with fail
          refine hC2.out.mono ?_
          rintro e w2 ⟨rfl, q2, rfl⟩
          have hst2 := H.drew _ _ q2 hst1
          rw [World.drewN_drewN] at hst2
          clear hC2 hst1
          cases b2 with
          | true =>
            have hd2 := hd.step H.wo hLn h1 (by rw [HKID.out]; exact HB2.out)
            rw [HKID.out] at hd2
            have hne2 : Hid (∀ j, j < n → Ne (atG (swapG L k (2 * k + 1)) j)) := fun j hj => by rw [swapG_at (by omega) (by omega) j]; split; exact hne.out _ (by omega); split; exact hne.out _ (by omega); exact hne.out _ hj
            have hC3 := Lib.hid (H.swp L _ (k : Int) (2 * (k : Int) + 1) hst2 (by omega) (by omega) (by omega) (by omega))
            rw [show (2 * (k : Int) + 1).toNat = 2 * k + 1 from by omega, show ((k : Int)).toNat = k from by omega] at hC3
            clear HKID HB2 hd hst2
            go_wp2_with fail
            refine hC3.out.mono ?_
            rintro e w3 ⟨rfl, hst3⟩
            clear hC3
            go_wp2_with fail
            go_roundg (n - (2 * k + 1))
            case measure => omega
            case rel => exact ⟨2 * k + 1, _, by omega, by go_num, hst3, hd2, hne2.out⟩
          | false =>
            have hp := hd.stop2 H.wo (by rw [HKID.out]; exact HB2.out)
            have hpm := hd.perm
            have hout := Lib.hid hd.out
            clear HKID HB2 hd
            go_wp2_with fail
            go_ret
            exact ⟨_, L, rfl, hst2, hp, hpm, hout.out⟩
      · have hkid : kid less n L k = 2 * k + 1 := by unfold kid; rw [if_neg (fun e => h2 e.1)]
        obtain ⟨b2, hb2⟩ : ∃ b2, less (atG L (2 * k + 1)) (atG L k) = b2 := ⟨_, rfl⟩
        have hC2 := Lib.hid (H.lss L wr (2 * (k : Int) + 1) (k : Int) hst (by omega) (by omega) (by omega) (by omega) (hne.out _ (by omega)) (hne.out _ (by omega)))
        rw [show (2 * (k : Int) + 1).toNat = 2 * k + 1 from by omega, show ((k : Int)).toNat = k from by omega, hb2] at hC2
        have HB2 := Lib.hid hb2
        have HKID := Lib.hid hkid
        clear hb2 hkid
        go_wp2_with fail
        refine hC2.out.mono ?_
        rintro e w2 ⟨rfl, q2, rfl⟩
        have hst2 := H.drew _ _ q2 hst
        clear hC2 hst
        cases b2 with
        | true =>
          have hd2 := hd.step H.wo hLn h1 (by rw [HKID.out]; exact HB2.out)
          rw [HKID.out] at hd2
          have hne2 : Hid (∀ j, j < n → Ne (atG (swapG L k (2 * k + 1)) j)) := fun j hj => by rw [swapG_at (by omega) (by omega) j]; split; exact hne.out _ (by omega); split; exact hne.out _ (by omega); exact hne.out _ hj
          have hC3 := Lib.hid (H.swp L _ (k : Int) (2 * (k : Int) + 1) hst2 (by omega) (by omega) (by omega) (by omega))
          rw [show (2 * (k : Int) + 1).toNat = 2 * k + 1 from by omega, show ((k : Int)).toNat = k from by omega] at hC3
          clear HKID HB2 hd hst2
          go_wp2_with fail
          refine hC3.out.mono ?_
          rintro e w3 ⟨rfl, hst3⟩
          clear hC3
          go_wp2_with fail
          go_roundg (n - (2 * k + 1))
          case measure => omega
          case rel => exact ⟨2 * k + 1, _, by omega, by go_num, hst3, hd2, hne2.out⟩
        | false =>
          have hp := hd.stop2 H.wo (by rw [HKID.out]; exact HB2.out)
          have hpm := hd.perm
          have hout := Lib.hid hd.out
          clear HKID HB2 hd
          go_wp2_with fail
          go_ret
          exact ⟨_, L, rfl, hst2, hp, hpm, hout.out⟩
    · have hp := hd.stop1 (by omega)
      have hpm := hd.perm
      have hout := Lib.hid hd.out
      clear hd
      go_wp2_with fail
      go_ret
      exact ⟨_, L, rfl, hst, hp, hpm, hout.out⟩
end Go.Proofs.Ytcfbblgoligagaa
