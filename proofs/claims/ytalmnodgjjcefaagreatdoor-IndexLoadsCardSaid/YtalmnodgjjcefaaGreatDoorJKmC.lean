/- Several texts in one: KmSees3 KmPileB KmRefP KmOneB KmPutM. -/
import Derived.Test.YtalmnodgjjcefaaGreatDoorJKmB
import Derived.Test.YtalmnodgjjcefaaGreatDoorJKmA
import Derived.Test.YtalmnodgjjcefaaGreatDoorJItm
namespace Go.Proofs.YtalmnodgjjcefaaGreatDoor
section
open Go.RowKit
structure Sees3 (w:World) (B:Nat) (A:Option Addr) (ll:List (List Item)):Prop where
 out:∀i (hi:i<ll.length),∃ad Ai ci,A=some ad∧ad.block<B∧w.cell? (ad.add i)=some (.slice Ai (ll[i]).length ci)∧(ll[i]).length≤ci∧Sees2 w B Ai ll[i]
theorem Sees3.more {w:World}{B B' : Nat}{A:Option Addr}{ll:List (List Item)}(h:Sees3 w B A ll) (hb:B≤B'):Sees3 w B' A ll:=⟨fun i hi=>by
 obtain ⟨ad,Ai,ci,h1,h2,h3,h4,h5⟩:=h.out i hi
 exact ⟨ad,Ai,ci,h1,Nat.lt_of_lt_of_le h2 hb,h3,h4,h5.more hb⟩⟩
namespace KB
theorem els_of {w:World}{B:Nat}{A:Option Addr}{ls:List Item}(h:Sees2 w B A ls):∃xs:List El,xs.map key=ls∧SeesM (fun k=>k<B) w A (xs.map val)∧∀x∈xs,EOk (fun k=>k<B) w x:=by
 cases ls with
 | nil=>exact ⟨[],rfl,⟨.inl rfl⟩,by simp⟩
 | cons y t =>
  obtain ⟨ad, -, -,rfl,hB, -⟩:=h.out 0 (by simp)
  generalize hL:y :: t=L at h
  have hk:∀k,k≤L.length→∃xs:List El,xs.length=k∧xs.map key=L.take k∧∀j (hj:j<xs.length),w.cell? (ad.add j)=some (val xs[j])∧EOk (fun k=>k<B) w xs[j]:=fun k=>by
   induction k with
   | zero=>intro _;exact ⟨[],rfl,by simp,fun j hj=>absurd hj (by simp)⟩
   | succ k ih =>
    intro hk
    obtain ⟨xs,h1,h2,h3⟩:=ih (by omega)
    obtain ⟨ad',Ai,ci,e,g1,g2,g3,g4⟩:=h.out k (by omega)
    obtain rfl:=Option.some.inj e
    refine ⟨xs ++ [(L[k],Ai,ci)],by simp[h1],by rw[List.map_append,h2,List.take_succ_eq_append_getElem (by omega)];rfl,fun j hj => ?_⟩
    by_cases hlt:j<xs.length
    ·rw[List.getElem_append_left hlt];exact h3 j hlt
    ·have:j=xs.length:=by simp at hj;omega
     subst this
     rw[List.getElem_append_right (Nat.le_refl _)]
     simp only[Nat.sub_self,List.getElem_cons_zero]
     exact ⟨by rw[h1];exact g2,⟨g4.toM,g3⟩⟩
  obtain ⟨xs,h1,h2,h3⟩:=hk L.length (Nat.le_refl _)
  refine ⟨xs,by rw[h2,List.take_length],⟨.inr ⟨ad,rfl,hB,fun j u hu => ?_⟩⟩,fun x hx => ?_⟩
  ·rw[List.getElem?_map] at hu
   obtain ⟨x,hx,rfl⟩:=Option.map_eq_some_iff.1 hu
   obtain ⟨hj,rfl⟩:=List.getElem?_eq_some_iff.1 hx
   exact (h3 j hj).1
  ·obtain ⟨j,hj,rfl⟩:=List.mem_iff_getElem.1 hx
   exact (h3 j hj).2
theorem rows_of {w:World}{B:Nat}{A:Option Addr}{ll:List (List Item)}(h:Sees3 w B A ll):∃LL:List (List El),keysOf LL=ll∧RowsIn (fun k=>k<B) w A LL:=by
 cases ll with
 | nil=>exact ⟨[],rfl,⟨fun i hi=>absurd hi (by simp)⟩⟩
 | cons y t =>
  obtain ⟨ad, -, -,rfl,hB, -⟩:=h.out 0 (by simp)
  generalize hL:y :: t=L at h
  have hk:∀k,k≤L.length→∃LL:List (List El),LL.length=k∧keysOf LL=L.take k∧RowsIn (fun k=>k<B) w (some ad) LL:=fun k=>by
   induction k with
   | zero=>intro _;exact ⟨[],rfl,by simp[keysOf],⟨fun i hi=>absurd hi (by simp)⟩⟩
   | succ k ih =>
    intro hk
    obtain ⟨LL,h1,h2,h3⟩:=ih (by omega)
    obtain ⟨ad',Ai,ci,e,g1,g2,g3,g4⟩:=h.out k (by omega)
    obtain rfl:=Option.some.inj e
    obtain ⟨xs,e1,e2,e3⟩:=els_of g4
    have exl:xs.length=(L[k]).length:=by rw[←e1,List.length_map]
    refine ⟨LL ++ [xs],by simp[h1],?_,⟨fun j hj => ?_⟩⟩
    ·rw[List.take_succ_eq_append_getElem (by omega), ←h2, ←e1]
     simp[keysOf]
    ·by_cases hlt:j<LL.length
     ·rw[List.getElem_append_left hlt];exact h3.out j hlt
     ·have:j=LL.length:=by simp at hj;omega
      subst this
      rw[List.getElem_append_right (Nat.le_refl _)]
      simp only[Nat.sub_self,List.getElem_cons_zero]
      exact ⟨ad,Ai,ci,rfl,g1,by rw[h1,exl];exact g2,by rw[exl];exact g3,e2,e3⟩
  obtain ⟨LL,h1,h2,h3⟩:=hk L.length (Nat.le_refl _)
  exact ⟨LL,by rw[h2,List.take_length],h3⟩
end KB
end
namespace KB
open Go.RowKit
structure Pile (m:Nat→Prop) (n1:Nat) (w:World) (v:Value) (L:List (List El)):Prop where
 out:∃vs:List Value,w.ownsRow n1 47 1 v L.length vs ∧
  ∀i (hi:i<L.length),∃Ai ci,vs[i]?=some (.slice Ai (L[i]).length ci)∧(L[i]).length≤ci∧SeesM (fun k=>m k∨(n1≤k∧k<w.heap.size∧v.ownBlock≠some k)) w Ai ((L[i]).map val)
 ok:∀r∈L,∀x∈r,EOk m w x
 apart:∀k,m k→k<n1
 low:n1≤w.heap.size
section
variable {m : Nat → Prop} {n1 : Nat} {w w' w2 w3 : World} {v v' : Value} {L : List (List El)} {x : List El}
theorem Pile.nil (w:World) (m:Nat→Prop) (n1:Nat) (ha:∀k,m k→k<n1) (hl:n1≤w.heap.size):Pile m n1 w (.slice none 0 0) [] :=
 ⟨⟨[],World.ownsRow_nil _ _ _ _,fun i hi=>absurd hi (by simp)⟩,by simp,ha,hl⟩
theorem Pile.push {A1:Option Addr}{c1:Nat}(h:Pile m n1 w v L) (hb:Below w.heap.size w w2)
  (hx:SeesM (fun k=>m k∨(w.heap.size≤k∧k<w2.heap.size)) w2 A1 (x.map val)) (hxc:x.length≤c1) (hxo:∀y∈x,EOk m w y)
  (vs:List Value) (hvs:w.ownsRow n1 47 1 v L.length vs)
  (hvs2:∀i (hi:i<L.length),∃Ai ci,vs[i]?=some (.slice Ai (L[i]).length ci)∧(L[i]).length≤ci∧SeesM (fun k=>m k∨(n1≤k∧k<w.heap.size∧v.ownBlock≠some k)) w Ai ((L[i]).map val))
  (hown:w3.ownsRow n1 47 1 v' (L.length+1) (vs ++ [.slice A1 x.length c1])) (hon:Onto w2 w3 v v'):Pile m n1 w3 v' (L ++ [x]):=by
 have hs:=hb.size
 have hs3:=hon.size
 have hlow:=h.low
 have hlen:vs.length=L.length:=by have:=hvs.1;omega
 have hvl:=World.ownsRow.lt hvs
 have hv' : ∀k,k<w2.heap.size→v.ownBlock≠some k→v'.ownBlock≠some k:=fun k hk hne e=>by
  rcases hon.at_ with e2|⟨g,e2,hg⟩
  ·exact hne (e2 ▸ e)
  ·rw[e2] at e;injection e with e;omega
 have hmv:∀k,m k→v.ownBlock≠some k:=fun k e e2=>by have:=h.apart k e;have:=(hvl k e2).1;omega
 have hk23:∀k,k<w2.heap.size→v.ownBlock≠some k→w3.heap[k]?=w2.heap[k]?:=fun k a b=>hon.grown.block k a (fun e=>b e.symm)
 have hkr:Kept (fun k=>m k∨(n1≤k∧k<w.heap.size∧v.ownBlock≠some k)) w w3:=fun k hk=>by
  have hk1:k<w.heap.size∧v.ownBlock≠some k:=by
   rcases hk with e|e
   ·exact ⟨by have:=h.apart k e;omega,hmv k e⟩
   ·exact e.2
  exact (hk23 k (by omega) hk1.2).trans (hb.block k hk1.1)
 refine ⟨⟨vs ++ [.slice A1 x.length c1],by rw[List.length_append];exact hown,fun i hi => ?_⟩,fun r hr y hy => ?_,h.apart,by omega⟩
 ·by_cases hlt:i<L.length
  ·obtain ⟨Ai,ci,g1,g2,g3⟩:=hvs2 i hlt
   rw[List.getElem_append_left hlt,List.getElem?_append_left (by omega)]
   exact ⟨Ai,ci,g1,g2,(g3.keep hkr).mono fun k e=>by
    rcases e with e|e
    ·exact .inl e
    ·exact .inr ⟨e.1,by omega,hv' k (by omega) e.2.2⟩⟩
  ·have he:i=L.length:=by simp at hi;omega
   subst he
   rw[List.getElem_append_right (Nat.le_refl _),List.getElem?_append_right (by omega)]
   refine ⟨A1,c1,by simp[hlen],by simpa using hxc,?_⟩
   simp only[Nat.sub_self,List.getElem_cons_zero]
   have hne:∀k,w.heap.size≤k→v.ownBlock≠some k:=fun k hk e=>by have:=(hvl k e).2;omega
   refine (hx.keep fun k e => ?_).mono fun k e => ?_
   ·rcases e with e|e
    ·exact hk23 k (by have:=h.apart k e;omega) (hmv k e)
    ·exact hk23 k e.2 (hne k e.1)
   ·rcases e with e|e
    ·exact .inl e
    ·exact .inr ⟨by omega,by omega,hv' k e.2 (hne k e.1)⟩
 ·rcases List.mem_append.1 hr with hr|hr
  ·exact (h.ok r hr y hy).keep (hkr.mono fun k e => .inl e)
  ·simp only[List.mem_singleton] at hr;subst hr
   exact (hxo y hy).keep (hkr.mono fun k e => .inl e)
theorem Pile.slice (h:Pile m n1 w v L):∃A c,v = .slice A L.length c∧L.length≤c:=by
 obtain ⟨vs,h1,h2⟩:=h.out
 rcases h1.2 with ⟨rfl,hn⟩|⟨g,cap,cur,rfl, -, -,hc, -⟩
 ·exact ⟨none,0,by rw[hn],by omega⟩
 ·exact ⟨_,cap,rfl,hc⟩
theorem Pile.rowsIn {A:Option Addr}{c:Nat}(h:Pile m n1 w (.slice A L.length c) L):RowsIn (fun k=>k<w.heap.size) w A L:=⟨fun i hi=>by
 obtain ⟨vs,h1,h2⟩:=h.out
 have hlow:=h.low
 obtain ⟨Ai,ci,g1,g2,g3⟩:=h2 i hi
 rcases h1.2 with ⟨e,hn⟩|⟨g,cap,cur,e,hg,hcur,hc, -⟩
 ·omega
 ·have hlt:=World.ownsRow.lt h1 g (by rw[e];rfl)
  have hcl:=World.ownsRow.cells h1 (g:=g) (by rw[e];rfl) i _ g1
  injection e with e1 e2 e3
  refine ⟨⟨g,0,none⟩,Ai,ci,e1,hlt.2,hcl,g2,g3.mono fun k e => ?_,fun x hx=>(h.ok _ (List.getElem_mem hi) x hx).mono fun k e => ?_⟩
  ·rcases e with e|e
   ·have:=h.apart k e;omega
   ·exact e.2.1
  ·have:=h.apart k e;omega⟩
end
end KB
section
open Go.RowKit
theorem below_newB (w:World) (o:Obj):Below w.heap.size w (w.alloc o):=(Below.refl _ w).alloc (Nat.le_refl _) _
theorem Sees2.alloc {w:World}{B:Nat}{A:Option Addr}{ls:List (List UInt8)}(h:Sees2 w B A ls) (hB:B≤w.heap.size) (o:Obj):Sees2 (w.alloc o) B A ls :=
 h.below ((Below.refl B w).alloc hB o)
theorem Sees3.new (W:World) (b:Nat) (hb:W.heap.size=b) (cs:Array Value) (t:TypeId) (ll:List (List Item))
  (h:∀i (hi:i<ll.length),∃Ai ci,cs[i]?=some (.slice Ai (ll[i]).length ci)∧(ll[i]).length≤ci∧Sees2 W b Ai ll[i]):Sees3 (W.alloc (.cells cs t)) (b+1) (some ⟨b,0,none⟩) ll:=by
 subst hb
 refine ⟨fun i hi => ?_⟩
 obtain ⟨Ai,ci,h1,h2,h3⟩:=h i hi
 exact ⟨_,Ai,ci,rfl,by simp,by rw[Addr.add_lit,World.cell?_alloc_at _ _ _ _ rfl];simpa using h1,h2,(h3.alloc (Nat.le_refl _) _).more (by omega)⟩
open KB
structure BRow (w:World) (A:Option Addr) (n c:Nat) (ls:List Item):Prop where
 len:ls.length=n
 cap:n≤c
 few:n≤10000
 short:∀x∈ls,x.length≤1000
 sees:Sees2 w w.heap.size A ls
theorem wpList_append_p {w:World}{ops:Array Oper}{rest:List Oper}{o:Oper}{a:Act}{Q:Exit→Act→World→Prop}(hgd:o.guard=none) (s x:Operand)
  (ho:o.op = .call { callee := .builtin .append,args := #[s,x],argTypes := #[72,72] })
  (base:Nat) (v:Value) (n:Nat) (vs:List Value) (hs:a.eval s=v) (hown:w.ownsRow base 47 1 v n vs) (B:Nat) (A:Option Addr) (u:Value) (hx:a.eval x = .slice A 1 1) (hsee:Sees w B A [u]) (hu:u.oneCell'=true)
  (hlen:n≤100000) (hbase:base≤w.heap.size)
  (h:∀v' w',w'.ownsRow base 47 1 v' (n+1) (vs ++ [u])→Onto w w' v v'→wpList Tryz.prog ops Q rest (a.put o.dst v') w'):wpList Tryz.prog ops Q (o :: rest) a w:=by
 obtain ⟨ti,hi,hy0,hy1,hy2⟩:=info_parts KB.rowinfo
 exact wpList_append_v hgd s x 72 ho 47 ti _ 1 24 Tryz.underlying72 hi hy0 hy1 hy2 rfl (by omega) base v n vs hs hown B A 1 1 [u] hx rfl hsee (fun y hy=>by simp at hy;subst hy;exact hu) (by simp only[maxLen];omega) (by omega) hbase h
theorem sees_cell (w:World) (bb:Nat) (hbb:w.heap.size=bb) (u:Value) (t:TypeId):Sees (w.alloc (.cells #[u] t)) (bb+1) (some ⟨bb,0,none⟩) [u]:=by
 subst hbb
 exact ⟨.inr ⟨_,rfl,by simp,fun j x hx=>by match j,hx with|0,hx=>(simp at hx;subst hx;rw[Addr.add_lit,World.cell?_alloc_at _ _ _ _ rfl];rfl)⟩⟩
end
end Go.Proofs.YtalmnodgjjcefaaGreatDoor
