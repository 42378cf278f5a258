/-
  container/heap over a value that has its methods: up, Init, Fix, Pop.
-/
import Derived.Test.YtcfbblgoligagaaKmDown
namespace Go.Proofs.Ytcfbblgoligagaa
open Go.RowKit

/-- What heap leaves: the rows in another order, a heap. -/
def HeapIs {γ : Type} [Inhabited γ] (less : γ → γ → Bool) (St : List γ → World → Prop) (L0 : List γ) (e : Ending) (w' : World) : Prop :=
  ∃ (v : Value) (L : List γ), e = .returned v ∧ St L w' ∧ Hp less 0 L.length L ∧ L.Perm L0

section
variable {γ : Type} [Inhabited γ] {τ : TypeId} {a : Addr} {fN fL fS fP : FuncId} {less : γ → γ → Bool} {Ne : γ → Prop} {St : List γ → World → Prop}

set_option maxRecDepth 100000 in
set_option maxHeartbeats 400000 in
theorem up0_any (w : World) : Calls Try.prog 55 #[.iface τ (.pointer (some a)), .int .i64 0] w fun e w' => e = .returned (.tuple #[]) ∧ w = w' := by
  have hq : IntKind.i64.wrap (Int.tdiv (-1) 2) = 0 := by decide
  go_enter Try.func55, Try.ntmps55
  go_wp2_with fail
  go_loop [1] (fun i => i = .int .i64 0) (fun _ => 0)
  case atStart => rfl
  case round =>
    subst hrel
    go_wp2_with fail
    go_end0
    exact ⟨rfl, rfl⟩

set_option maxRecDepth 100000 in
set_option maxHeartbeats 400000 in
theorem Fix_any (H : HeapI τ a fN fL fS fP less Ne St) (L0 : List γ) (w : World) (hSt : St L0 w) (hHp : Hp less 1 L0.length L0) (hNe : ∀ r ∈ L0, Ne r) :
    Calls Try.prog 48 #[.iface τ (.pointer (some a)), .int .i64 0] w (HeapIs less St L0) := by
  have mN := H.mN
  have eN := H.eN
  have hN := Lib.hid (H.len _ _ hSt)
  have hD := Lib.hid (down_any H L0 w hSt 0 L0.length (Nat.le_refl _) (Nat.zero_le _) hHp (fun k hk => by rw [atG_eq hk]; exact hNe _ (List.getElem_mem hk)))
  obtain ⟨n, hn⟩ : ∃ n, L0.length = n := ⟨_, rfl⟩
  rw [hn] at hN hD
  have HN := Lib.hid hn
  clear hHp hn hSt hNe
  go_enter Try.func48, Try.ntmps48
  go_wp2_with fail
  refine hN.out.mono ?_
  rintro e w' ⟨rfl, rfl⟩
  go_wp2_with fail
  refine hD.out.mono ?_
  rintro e w' ⟨b, L, rfl, hst, hp, hperm, -⟩
  rw [← HN.out, ← hperm.length_eq] at hp
  clear hN hD mN eN
  cases b with
  | true =>
    go_wp2_with fail
    go_end0
    exact ⟨_, L, rfl, hst, hp, hperm⟩
  | false =>
    go_wp2_with fail
    refine (up0_any _).mono ?_
    rintro e w2 ⟨rfl, rfl⟩
    go_wp2_with fail
    go_end0
    exact ⟨_, L, rfl, hst, hp, hperm⟩

set_option maxRecDepth 100000 in
set_option maxHeartbeats 400000 in
theorem Init_any (H : HeapI τ a fN fL fS fP less Ne St) (L0 : List γ) (w : World) (hSt : St L0 w) (hNe : ∀ r ∈ L0, Ne r) :
    Calls Try.prog 46 #[.iface τ (.pointer (some a))] w (HeapIs less St L0) := by
  have mN := H.mN
  have eN := H.eN
  have hN := Lib.hid (H.len _ _ hSt)
  have h6 := H.few _ _ hSt
  have hlv := Hp.leaves (less := less) L0.length L0
  have HNE := Lib.hid hNe
  clear hNe
  obtain ⟨n, hn⟩ : ∃ n, L0.length = n := ⟨_, rfl⟩
  rw [hn] at hN h6 hlv
  have HN := Lib.hid hn
  clear hn
  go_enter Try.func46, Try.ntmps46
  go_wp2_with fail
  refine hN.out.mono ?_
  rintro e w' ⟨rfl, rfl⟩
  go_wp2_with fail
  go_loopg [3] (n / 2) (fun g i wr => ∃ (L : List γ), i = .int .i64 ((g : Int) - 1) ∧ g ≤ n / 2 ∧ St L wr ∧ Hp less g n L ∧ L.Perm L0)
  case atStart => exact ⟨L0, by first | rfl | (congr 1; omega), Nat.le_refl _, hSt, hlv, .refl _⟩
  case round =>
    obtain ⟨L, rfl, hg, hst, hp, hperm⟩ := hrel
    clear hN hSt hlv mN eN
    have hlen : L.length = n := by rw [hperm.length_eq]; exact HN.out
    by_cases h0 : 1 ≤ gk
    · have hD := Lib.hid (down_any H L wr hst (gk - 1) n (by omega) (by omega) (by rw [show gk - 1 + 1 = gk from by omega]; exact hp) (fun k hk => by rw [atG_eq (by omega)]; exact HNE.out _ (hperm.mem_iff.1 (List.getElem_mem _))))
      have hc : (((gk - 1 : Nat) : Int)) = (gk : Int) - 1 := by omega
      rw [hc] at hD
      clear hc hst hlen
      go_wp2_with fail
      refine hD.out.mono ?_
      rintro e w' ⟨b, L2, rfl, hst2, hp2, hperm2, -⟩
      clear hD
      go_wp2_with fail
      go_roundg (gk - 1)
      case measure => omega
      case rel => exact ⟨L2, by congr 1; omega, by omega, hst2, hp2, hperm2.trans hperm⟩
    · have hg0 : gk = 0 := by omega
      have hp0 : Hp less 0 L.length L := by rw [hlen]; rw [hg0] at hp; exact hp
      clear hlen hg0 hp
      go_wp2_with fail
      go_end0
      exact ⟨_, L, rfl, hst, hp0, hperm⟩

set_option maxRecDepth 100000 in
set_option maxHeartbeats 400000 in
theorem Pop_any (H : HeapI τ a fN fL fS fP less Ne St) (x : γ) (T : List γ) (w : World) (hSt : St (x :: T) w) (hHp : Hp less 1 (x :: T).length (x :: T)) (hNe : ∀ r ∈ T, Ne r) :
    Calls Try.prog 47 #[.iface τ (.pointer (some a))] w (HeapIs less St T) := by
  have mN := H.mN
  have eN := H.eN
  have mS := H.mS
  have eS := H.eS
  have mP := H.mP
  have eP := H.eP
  have hN := Lib.hid (H.len _ _ hSt)
  have h6 := H.few _ _ hSt
  obtain ⟨n, hn⟩ : ∃ n, T.length = n := ⟨_, rfl⟩
  have hlen : (x :: T).length = n + 1 := by simp [hn]
  have hS := Lib.hid (H.swp _ _ 0 (n : Int) hSt (by omega) (by omega) (by omega) (by omega))
  rw [show (0 : Int).toNat = 0 from rfl, Int.toNat_natCast] at hS
  obtain ⟨M, hM⟩ : ∃ M, swapG (x :: T) 0 n = M := ⟨_, rfl⟩
  have hpm : M.Perm (x :: T) := by rw [← hM]; exact swapG_perm (by omega) (by omega)
  have hlast : M[n]? = some x := by
    have h1 := swapG_at (L := x :: T) (i := 0) (j := n) (by omega) (by omega) n
    rw [hM, if_pos rfl] at h1
    have h2 : n < M.length := by rw [hpm.length_eq]; omega
    rw [List.getElem?_eq_getElem h2, ← atG_eq h2, h1]
    rfl
  have hp1 : Hp less 1 n M := by rw [← hM]; rw [hlen] at hHp; exact hHp.swap0 hlen
  have hneM : ∀ k, k < n → Ne (atG M k) := fun k hk => by
    rw [← hM, swapG_at (by omega) (by omega) k, if_neg (by omega)]
    have hT : ∀ j, j < T.length → Ne (atG (x :: T) (j + 1)) := fun j hj => by
      rw [atG_eq (by simp; omega)]; exact hNe _ (by simp)
    split
    · have := hT (n - 1) (by omega)
      rwa [show n - 1 + 1 = n from by omega] at this
    · have := hT (k - 1) (by omega)
      rwa [show k - 1 + 1 = k from by omega] at this
  have HNEM := Lib.hid hneM
  clear hneM hNe
  rw [hM] at hS
  rw [hlen] at hN h6
  have hML : M.length = n + 1 := by rw [hpm.length_eq]; exact hlen
  have HML := Lib.hid hML
  have HLAST := Lib.hid hlast
  have hcast : (((n + 1 : Nat) : Int)) - 1 = (n : Int) := by omega
  clear hHp hn hM hSt hlen hML hlast
  go_enter Try.func47, Try.ntmps47
  go_wp2_with fail
  refine hN.out.mono ?_
  rintro e w' ⟨rfl, rfl⟩
  go_wp2_with fail
  refine hS.out.mono ?_
  rintro e w1 ⟨rfl, hst1⟩
  have hD := Lib.hid (down_any H M w1 hst1 0 n (by have := HML.out; omega) (by omega) hp1 HNEM.out)
  clear hN hS hst1 hp1
  go_wp2_with fail
  refine hD.out.mono ?_
  rintro e w2 ⟨b, L, rfl, hst2, hp2, hperm2, hout2⟩
  have hL1 : L.length = n + 1 := by rw [hperm2.length_eq]; exact HML.out
  have hlx : L[n]? = some x := (hout2 n (Nat.le_refl _)).trans HLAST.out
  have hLe : L = L.dropLast ++ [x] := by
    have hne : L ≠ [] := fun e => by rw [e] at hL1; simp at hL1
    have h1 := (List.dropLast_concat_getLast hne).symm
    have h2 : L.getLast hne = x := by
      rw [List.getLast_eq_getElem]
      have h3 : L[n]? = some (L[n]'(by omega)) := List.getElem?_eq_getElem _
      rw [hlx] at h3
      have h4 := Option.some.inj h3
      rw [h4]
      congr 1
      omega
    rw [h2] at h1
    exact h1
  have hT : L.dropLast.Perm T := by
    have h1 : (L.dropLast ++ [x]).Perm (x :: T) := by rw [← hLe]; exact hperm2.trans hpm
    have h2 : (x :: L.dropLast).Perm (L.dropLast ++ [x]) := (List.perm_append_singleton x L.dropLast).symm
    exact (h2.trans h1).cons_inv
  have hp3 : Hp less 0 L.dropLast.length L.dropLast := by
    have h3 : L.dropLast.length = n := by rw [List.length_dropLast]; omega
    rw [h3]
    exact hp2.congr fun k hk => by rw [List.getElem?_dropLast, if_pos (by omega)]
  have hP := Lib.hid (H.pop _ _ hst2 (fun e => by rw [e] at hL1; simp at hL1))
  clear hD hout2 hL1 hlx hLe hp2 hst2
  go_wp2_with fail
  refine hP.out.mono ?_
  rintro e w3 ⟨⟨v, rfl⟩, hst3⟩
  clear hP
  go_wp2_with fail
  go_ret
  exact ⟨_, _, rfl, hst3, hp3, hT⟩
end
end Go.Proofs.Ytcfbblgoligagaa
