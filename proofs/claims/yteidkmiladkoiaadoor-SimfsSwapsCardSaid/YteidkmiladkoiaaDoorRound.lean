/-
  A region that draws its order, in a round of a loop over an iterator: by the laws of a plain frame. No program in sight.
-/
import Derived.Test.YteidkmiladkoiaaDoorRange
import Derived.Test.YteidkmiladkoiaaDoorAppend
namespace Go.Proofs.YteidkmiladkoiaaDoor
open Go.RowKit

/-- Q where a statement ends normally; nothing else. -/
def Only (Q : Exit → Act → World → Prop) : Exit → Act → World → Prop
  | .normal, a, w => Q .normal a w
  | _, _, _ => False
theorem Only.normal {Q : Exit → Act → World → Prop} {a : Act} {w : World} (h : Q .normal a w) : Only Q .normal a w := h
theorem Only.stays (Q : Exit → Act → World → Prop) : ¬ LetsOut (Only Q) := fun ⟨_, _, h⟩ => h

variable {l n : Nat} {P : Program} {Q : Exit → Act → World → Prop}

theorem wpIn_of_wp_round {o : Oper} {a : Act} {w : World} {K K' : Act → World → Prop} (hnd : ∀ c, o.op ≠ .defer c) (hK : ∀ a w, K a w → K' a w) (h : o.wp P a w K (Only Q)) : o.wpIn (Fence.wide.inRound l) n P a w K' Q := by
  refine ⟨fun _ _ => trivial, ?_⟩
  rw [show (Fence.wide.inRound l).round = some l from rfl, Oper.semAt_eq _ _ _ hnd]
  unfold Oper.wp at h
  generalize (execOp a.eval o).run P w = r at h ⊢
  cases r with
  | ok x w' =>
    cases x with
    | value v => exact hK _ _ h
    | skip => exact hK _ _ h
    | defer d => exact hK _ _ h
    | enter f args =>
      refine ⟨fun h => absurd h (by simp [Fence.inRound, Fence.wide]), ?_⟩
      have h' : Calls P f args w' (fun | .returned v, w'' => K (a.put o.dst v) w'' | .panicked chain, w'' => Only Q (.panic chain) a w'' | .outgrown, _ => LetsOut (Only Q)) := h
      refine (CallsIn.inRound l (callsIn_wide.2 h')).mono fun e w'' he => ?_
      cases e with
      | returned v => exact hK _ _ he
      | panicked c => exact he.elim
      | outgrown => exact absurd he (Only.stays Q)
    | row row args =>
      refine ⟨fun h => absurd h (by simp [Fence.inRound, Fence.wide]), ?_⟩
      have h' : Rows P row args w' (fun v w'' => K (a.put o.dst v) w'') := h
      intro c cs _
      obtain ⟨v, w'', hr, hs⟩ := h' c cs
      exact ⟨v, w'', hK _ _ hr, stepsIn_wide.2 hs⟩
    | round => exact h.elim
    | _ => exact h.elim
  | halt x w' =>
    cases x <;> exact h.elim

theorem wpAnyIn_of_wpAny {md : Region.Mode} {ops : Array Oper} (hnd : ∀ (i : Nat) (o : Oper), ops[i]? = some o → ∀ c : Call, o.op ≠ .defer c) : ∀ (fuel : Nat) (listed : Array Bool) (a : Act) (w : World), wpAny P md ops (Only Q) fuel listed a w → wpAnyIn (Fence.wide.inRound l) n P md ops Q fuel listed a w
  | 0, _, _, _, h => h
  | fuel + 1, listed, a, w, h => by
    refine ⟨h.1, fun i hi => ?_⟩
    have hop := h.2 i hi
    unfold wpOp at hop
    unfold wpOpIn
    cases ho : ops[i]? with
    | none =>
      rw [ho] at hop
      exact wpAnyIn_of_wpAny hnd fuel _ _ _ hop
    | some o =>
      rw [ho] at hop
      simp only at hop ⊢
      split
      · rename_i hw
        rw [if_pos hw] at hop
        rcases hop with hop | ⟨_, hop⟩
        · exact wpIn_of_wp_round (hnd i o ho) (fun a w => wpAnyIn_of_wpAny hnd fuel _ a w) hop
        · exact absurd hop (Only.stays Q)
      · rename_i hw
        rw [if_neg hw] at hop
        exact ⟨fun _ _ => trivial, wpAnyIn_of_wpAny hnd fuel _ _ _ hop⟩

/-- A region that draws its order, in a round. -/
theorem wpIn_round_held {S : World → Prop} {id : Nat} {ops : Array Oper} {a : Act} {w : World} (hnd : ops.all (fun o => match o.op with | .defer _ => false | _ => true) = true) (hm : P.follows .mixedOrders = true) (hS : S w.drew)
    (h : S w.drew → wpAnyH P .any ops (Only Q) S ops.size (Array.replicate ops.size false) a w.drew) : (Code.region id ops true).wpIn (Fence.wide.inRound l) n P Q a w := by
  refine wpIn_region_any hm (wpAnyIn_of_wpAny (fun i o ho c e => ?_) _ _ _ _ (wpAny_of_held _ _ _ _ (h hS)))
  rw [Array.all_eq_true] at hnd
  obtain ⟨hi, he⟩ := Array.getElem?_eq_some_iff.1 ho
  have := hnd i hi
  rw [he, e] at this
  exact absurd this (by simp)
/-- append onto a row of the call's own, at an operation of a plain region in a round. -/
theorem wpListIn_append_v {w : World} {ops : Array Oper} {rest : List Oper} {o : Oper} {a : Act} (hgd : o.guard = none) (s x : Operand) (t : TypeId)
    (ho : o.op = .call { callee := .builtin .append, args := #[s, x], argTypes := #[t, t] })
    (e : TypeId) (i : TypeInfo) (z : Value) (size bytes : Nat) (ht : P.underlying t = some (.slice e)) (hi : P.info? e = some i) (hz : i.zero = some z)
    (hsize : i.size = size) (hby : i.bytes = bytes) (hzs : z.cells.size = size) (hsz : 0 < size)
    (base : Nat) (v : Value) (k : Nat) (xs : List Value) (hs : a.eval s = v) (hown : w.ownsRow base e size v k xs) (B : Nat) (A : Option Addr) (m c : Nat) (news : List Value) (hx : a.eval x = .slice A m c) (hm : news.length = m * size) (hsee : Sees w B A news)
    (h1 : ∀ u ∈ news, u.oneCell' = true) (h63 : k + m ≤ maxLen) (hbytes : (k + m) * bytes ≤ 140737488355328) (hbase : base ≤ w.heap.size)
    (h : ∀ v' w', w'.ownsRow base e size v' (k + m) (xs ++ news) → Onto w w' v v' → wpListIn (Fence.wide.inRound l) n P ops Q rest (a.put o.dst v') w') : wpListIn (Fence.wide.inRound l) n P ops Q (o :: rest) a w := by
  unfold wpListIn
  rw [if_pos (by simp [Region.wanted, hgd])]
  exact wpIn_of_wp_round (fun c e => by rw [ho] at e; cases e) (fun _ _ h => h) (wp_append_v s x t ho e i z size bytes ht hi hz hsize hby hzs hsz base v k xs hs hown B A m c news hx hm hsee h1 h63 hbytes hbase h)
end Go.Proofs.YteidkmiladkoiaaDoor
