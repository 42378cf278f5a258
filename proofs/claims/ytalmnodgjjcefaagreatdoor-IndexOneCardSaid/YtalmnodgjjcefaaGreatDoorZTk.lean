/- A step of a region whose operations stand in no order, in few words. -/
import Derived.Test.YtalmnodgjjcefaaGreatDoorZLow
import Derived.Shelf.Abstract
import Derived.Shelf.RegionOpen
import Derived.OwnWalkIn
import Derived.TacticsInMore
namespace Go.Proofs.YtalmnodgjjcefaaGreatDoor
section
section
open Go.RowKit
theorem S0{α:Type}(l:List α)(i:Nat)(a:α):l.toArray.setIfInBounds i a=(l.set i a).toArray:=by simp
theorem S1{α:Type}(x:α)(l:List α)(a:α):(x::l).set 0 a=a::l:=rfl
theorem S2{α:Type}(x:α)(l:List α)(i:Nat)(a:α):(x::l).set (i+1) a=x::l.set i a:=rfl
theorem cV{l:List Oper}{i:Nat}{o:Oper}(h:l[i]?=some o):l.toArray[i]?=some o:=by rw[List.getElem?_toArray];exact h
section
variable {P : Program} {l : List Oper} {Q : Exit -> Act -> World -> Prop} {md : Region.Mode} {S : World -> Prop}
theorem aB(i:Nat){oi:Oper}{v:Value}{fuel:Nat}{listed:Array Bool}{a:Act}{w:World}(hS:S w)
  (h:wpAnyH P md l.toArray Q S fuel (listed.setIfInBounds i true) (a.put oi.dst v) w) (hi:l[i]?=some oi:=by rfl)
  (hs:Region.noSelect l.toArray=true:=by kernel_rfl) (hf:Region.free md l.toArray listed i=true:=by kernel_rfl) (hr:(Region.ready md l.toArray listed).contains i=true:=by kernel_rfl)
  (hw:Region.wanted oi (yielded l.toArray a.tmps)=true:=by rfl)
  (hy:∀w',S w'->(execOp a.eval oi).run P w'=.ok (.value v) w':=by(intro w' a7;(try dsimp only at a7);go_split_ands;go_simp;first|done|with_reducible rfl))
  (hQ:∀c a w,Q (.panic c) (a.put oi.dst v) w->Q (.panic c) a w:=by exact λ_ _ _ h=>h):wpAnyH P md l.toArray Q S (fuel+1) listed a w:=
 wpAnyH_take (cV hi) hs hf hr hQ (Or.inl ⟨hw,hy⟩) hS h
theorem fp(i:Nat){oi:Oper}{fuel:Nat}{listed:Array Bool}{a:Act}{w:World}(hS:S w)
  (h:wpAnyH P md l.toArray Q S fuel (listed.setIfInBounds i true) (a.put oi.dst undef) w) (hi:l[i]?=some oi:=by rfl)
  (hs:Region.noSelect l.toArray=true:=by kernel_rfl) (hf:Region.free md l.toArray listed i=true:=by kernel_rfl) (hr:(Region.ready md l.toArray listed).contains i=true:=by kernel_rfl)
  (hw:Region.wanted oi (yielded l.toArray a.tmps)=false:=by rfl)
  (hQ:∀c a w,Q (.panic c) (a.put oi.dst undef) w->Q (.panic c) a w:=by exact λ_ _ _ h=>h):wpAnyH P md l.toArray Q S (fuel+1) listed a w:=
 wpAnyH_take (cV hi) hs hf hr hQ (Or.inr ⟨hw,rfl⟩) hS h
end
end
end
end Go.Proofs.YtalmnodgjjcefaaGreatDoor
