/- Several texts in one: KmSees3 KmPileB KmRefP KmOneB KmPutM. -/
import Derived.Test.YtalmnodgjjcefaaGreatDoorZKmB
import Derived.Test.YtalmnodgjjcefaaGreatDoorZKmA
import Derived.Test.YtalmnodgjjcefaaGreatDoorZItm
namespace Go.Proofs.YtalmnodgjjcefaaGreatDoor
section
section
open Go.RowKit
structure lN(w:World)(B:Nat)(A:Option Addr)(ll:List (List Item)):Prop where
 out:∀i(hi:i<ll.length),∃ad Ai ci,A=some ad/\ad.block<B/\w.cell? (ad.add i)=some (.slice Ai (ll[i]).length ci)/\(ll[i]).length<=ci/\bj w B Ai ll[i]
theorem lN.more{w:World}{B B':Nat}{A:Option Addr}{ll:List (List Item)}(h:lN w B A ll)(hb:B<=B'):lN w B' A ll:=⟨λi hi=>by
 obtain⟨ad,Ai,ci,h1,h2,h3,h4,h5⟩:=h.out i hi
 exact⟨ad,Ai,ci,h1,Nat.lt_of_lt_of_le h2 hb,h3,h4,h5.more hb⟩⟩
namespace KB
theorem Kt{w:World}{B:Nat}{A:Option Addr}{ls:List Item}(h:bj w B A ls):∃xs:List El,xs.map key=ls/\ag (λk=>k<B) w A (xs.map val)/\∀x∈xs,gp (λk=>k<B) w x:=by cases ls with|nil=>exact⟨[],rfl,⟨.inl rfl⟩,zs⟩|cons y t=>(obtain⟨ad,-,-,rfl,hB,-⟩:=h.out 0 zs;generalize hL:y::t=L at h;(have hk:∀k,k<=L.length->∃xs:List El,xs.length=k/\xs.map key=L.take k/\∀j(hj:j<xs.length),w.cell? (ad.add j)=some (val xs[j])/\gp (λk=>k<B) w xs[j]:=λk=>by induction k with|zero=>intro _;exact⟨[],rfl,zs,λj hj=>absurd hj zs⟩|succ k ih=>(intro hk;obtain⟨xs,h1,h2,h3⟩:=ih zo;obtain⟨ah,Ai,ci,e,g1,g2,g3,g4⟩:=h.out k zo;obtain rfl:=Option.some.inj e;refine⟨xs++[(L[k],Ai,ci)],by simp[h1],by rw[List.map_append,h2,List.take_succ_eq_append_getElem zo];rfl,λj hj=>?_⟩;by_cases a6:j<xs.length;rw[List.getElem_append_left a6];exact h3 j a6;(have:j=xs.length:=by simp at hj;omega);subst this;rw[List.getElem_append_right (Nat.le_refl _)];simp only[Nat.sub_self,List.getElem_cons_zero];exact⟨by rw[h1];exact g2,⟨g4.yr,g3⟩⟩));obtain⟨xs,h1,h2,h3⟩:=hk L.length (Nat.le_refl _);refine⟨xs,by rw[h2,List.take_length],⟨.inr ⟨ad,rfl,hB,λj u hu=>?_⟩⟩,λx hx=>?_⟩;rw[List.getElem?_map]at hu;obtain⟨x,hx,rfl⟩:=Option.map_eq_some_iff.1 hu;obtain⟨hj,rfl⟩:=List.getElem?_eq_some_iff.1 hx;exact(h3 j hj).1;obtain⟨j,hj,rfl⟩:=List.mem_iff_getElem.1 hx;exact(h3 j hj).2)
theorem GQ{w:World}{B:Nat}{A:Option Addr}{ll:List (List Item)}(h:lN w B A ll):∃LL:List (List El),keysOf LL=ll/\RowsIn (λk=>k<B) w A LL:=by cases ll with|nil=>exact⟨[],rfl,⟨λi hi=>absurd hi zs⟩⟩|cons y t=>(obtain⟨ad,-,-,rfl,hB,-⟩:=h.out 0 zs;generalize hL:y::t=L at h;(have hk:∀k,k<=L.length->∃LL:List (List El),LL.length=k/\keysOf LL=L.take k/\RowsIn (λk=>k<B) w (some ad) LL:=λk=>by induction k with|zero=>intro _;exact⟨[],rfl,by simp[keysOf],⟨λi hi=>absurd hi zs⟩⟩|succ k ih=>(intro hk;obtain⟨LL,h1,h2,h3⟩:=ih zo;obtain⟨ah,Ai,ci,e,g1,g2,g3,g4⟩:=h.out k zo;obtain rfl:=Option.some.inj e;obtain⟨xs,e1,e2,e3⟩:=Kt g4;(have aa:xs.length=(L[k]).length:=by rw[<-e1,List.length_map]);refine⟨LL++[xs],by simp[h1],?_,⟨λj hj=>?_⟩⟩;rw[List.take_succ_eq_append_getElem zo,<-h2,<-e1];simp[keysOf];·by_cases a6:j<LL.length;rw[List.getElem_append_left a6];exact h3.out j a6;(have:j=LL.length:=by simp at hj;omega);subst this;rw[List.getElem_append_right (Nat.le_refl _)];simp only[Nat.sub_self,List.getElem_cons_zero];exact⟨ad,Ai,ci,rfl,g1,by rw[h1,aa];exact g2,by rw[aa];exact g3,e2,e3⟩));obtain⟨LL,h1,h2,h3⟩:=hk L.length (Nat.le_refl _);exact⟨LL,by rw[h2,List.take_length],h3⟩)
end KB
end
namespace KB
open Go.RowKit
structure iz(m:Nat->Prop)(n1:Nat)(w:World)(v:Value)(L:List (List El)):Prop where
 out:∃vs:List Value,w.ownsRow n1 47 1 v L.length vs/\
  ∀i(hi:i<L.length),∃Ai ci,vs[i]?=some (.slice Ai (L[i]).length ci)/\(L[i]).length<=ci/\ag (λk=>m k\/(n1<=k/\k<w.1.size/\v.ownBlock≠some k)) w Ai ((L[i]).map val)
 ok:∀r∈L,∀x∈r,gp m w x
 apart:∀k,m k->k<n1
 low:n1<=w.1.size
section
variable {m : Nat -> Prop} {n1 : Nat} {w w' w2 w3 : World} {v v' : Value} {L : List (List El)} {x : List El}
theorem iz.nil(w:World)(m:Nat->Prop)(n1:Nat)(ha:∀k,m k->k<n1)(hl:n1<=w.1.size):iz m n1 w (.slice none 0 0) []:=
 ⟨⟨[],World.ownsRow_nil _ _ _ _,λi hi=>absurd hi zs⟩,zs,ha,hl⟩
theorem iz.push{A1:Option Addr}{c1:Nat}(h:iz m n1 w v L)(hb:Below w.1.size w w2)(hx:ag (λk=>m k\/(w.1.size<=k/\k<w2.1.size)) w2 A1 (x.map val))(c7:x.length<=c1)(an:∀y∈x,gp m w y)(vs:List Value)(bd:w.ownsRow n1 47 1 v L.length vs)(bu:∀i(hi:i<L.length),∃Ai ci,vs[i]?=some (.slice Ai (L[i]).length ci)/\(L[i]).length<=ci/\ag (λk=>m k\/(n1<=k/\k<w.1.size/\v.ownBlock≠some k)) w Ai ((L[i]).map val))(ah:w3.ownsRow n1 47 1 v' (L.length+1) (vs++[.slice A1 x.length c1]))(bc:Onto w2 w3 v v'):iz m n1 w3 v' (L++[x]):=by have hs:=hb.size;have cL:=bc.size;have ad:=h.low;have hlen:vs.length=L.length:=zu bd.1;have cF:=World.ownsRow.lt bd;(have aj:∀k,k<w2.1.size->v.ownBlock≠some k->v'.ownBlock≠some k:=λk hk a8 e=>by rcases bc.at_ with e2|⟨g,e2,hg⟩;exact a8 (e2▸e);rw[e2]at e;exact AQ);(have aG:∀k,m k->v.ownBlock≠some k:=λk e e2=>by have:=h.apart k e;have:=(cF k e2).1;omega);have aa:∀k,k<w2.1.size->v.ownBlock≠some k->w3.heap[k]?=w2.heap[k]?:=λk a b=>bc.grown.block k a (λe=>b e.symm);(have ai:Kept (λk=>m k\/(n1<=k/\k<w.1.size/\v.ownBlock≠some k)) w w3:=λk hk=>by(have bm:k<w.1.size/\v.ownBlock≠some k:=by rcases hk with e|e;exact⟨by have:=h.apart k e;omega,aG k e⟩;exact e.2);exact(aa k zo bm.2).trans (hb.block k bm.1));refine⟨⟨vs++[.slice A1 x.length c1],MA,λi hi=>?_⟩,λr hr y hy=>?_,h.apart,zo⟩;(·by_cases a6:i<L.length;obtain⟨Ai,ci,g1,g2,g3⟩:=bu i a6;exact pQ;·(have he:i=L.length:=tc);subst he;rw[List.getElem_append_right (Nat.le_refl _),List.getElem?_append_right zo];refine⟨A1,c1,by simp[hlen],by simpa using c7,?_⟩;simp only[Nat.sub_self,List.getElem_cons_zero];(have a8:∀k,w.1.size<=k->v.ownBlock≠some k:=λk hk e=>by have:=(cF k e).2;omega);refine(hx.keep λk e=>?_).mono λk e=>?_;(·rcases e with e|e;exact aa k (zu (h.apart k e)) (aG k e);exact aa k e.2 (a8 k e.1));·rcases e with e|e;exact .inl e;exact .inr ⟨zo,zo,aj k e.2 (a8 k e.1)⟩);·rcases List.mem_append.1 hr with hr|hr;exact(h.ok r hr y hy).keep (ai.mono λk e=>.inl e);simp only[List.mem_singleton]at hr;subst hr;exact(an y hy).keep (ai.mono λk e=>.inl e)
theorem iz.slice(h:iz m n1 w v L):∃A c,v=.slice A L.length c/\L.length<=c:=by obtain⟨vs,h1,h2⟩:=h.out;rcases h1.2 with⟨rfl,hn⟩|⟨g,cap,cur,rfl,-,-,hc,-⟩;exact⟨none,0,by rw[hn],zo⟩;exact⟨_,cap,rfl,hc⟩
theorem iz.E6{A:Option Addr}{c:Nat}(h:iz m n1 w (.slice A L.length c) L):RowsIn (λk=>k<w.1.size) w A L:=⟨λi hi=>by
 obtain⟨vs,h1,h2⟩:=h.out
 have ad:=h.low
 obtain⟨Ai,ci,g1,g2,g3⟩:=h2 i hi
 rcases h1.2 with⟨e,hn⟩|⟨g,cap,cur,e,hg,aa,hc,-⟩
 ·omega
 ·have a6:=World.ownsRow.lt h1 g (by rw[e];rfl)
  have bY:=World.ownsRow.cells h1 (g:=g) (by rw[e];rfl) i _ g1
  injection e with e1 e2 e3
  refine⟨⟨g,0,none⟩,Ai,ci,e1,a6.2,bY,g2,g3.mono λk e=>?_,λx hx=>(h.ok _ (List.getElem_mem hi) x hx).mono λk e=>?_⟩
  ·rcases e with e|e
   ·have:=h.apart k e;omega
   ·exact e.2.1
  ·have:=h.apart k e;omega⟩
end
end KB
section
open Go.RowKit
theorem yO(w:World)(o:Obj):Below w.1.size w (w.alloc o):=(Below.refl _ w).alloc (Nat.le_refl _) _
theorem bj.alloc{w:World}{B:Nat}{A:Option Addr}{ls:List (List UInt8)}(h:bj w B A ls)(hB:B<=w.1.size)(o:Obj):bj (w.alloc o) B A ls:=
 h.below ((Below.refl B w).alloc hB o)
theorem lN.new(W:World)(b:Nat)(hb:W.1.size=b)(cs:Array Value)(t:TypeId)(ll:List (List Item))(h:∀i(hi:i<ll.length),∃Ai ci,cs[i]?=some (.slice Ai (ll[i]).length ci)/\(ll[i]).length<=ci/\bj W b Ai ll[i]):lN (W.alloc (.cells cs t)) (b+1) (some ⟨b,0,none⟩) ll:=by subst hb;refine⟨λi hi=>?_⟩;obtain⟨Ai,ci,h1,h2,h3⟩:=h i hi;exact⟨_,Ai,ci,rfl,zs,by rw[Addr.add_lit,World.cell?_alloc_at _ _ _ _ rfl];exact N6,h2,(h3.alloc (Nat.le_refl _) _).more zo⟩
open KB
structure Mt(w:World)(A:Option Addr)(n c:Nat)(ls:List Item):Prop where
 len:ls.length=n
 cap:n<=c
 eH:n<=10000
 short:∀x∈ls,x.length<=1000
 aD:bj w w.1.size A ls
theorem jK{w:World}{ops:Array Oper}{rest:List Oper}{o:Oper}{a:Act}{Q:Exit->Act->World->Prop}(aj:o.guard=none)(s x:Operand)(ho:o.op=.call {callee:=.builtin .append,args:=#[s,x],argTypes:=#[72,72]})(base:Nat)(v:Value)(n:Nat)(vs:List Value)(hs:a.eval s=v)(ah:w.ownsRow base 47 1 v n vs)(B:Nat)(A:Option Addr)(u:Value)(hx:a.eval x=.slice A 1 1)(a7:ae w B A [u])(hu:u.oneCell'=true)(hlen:n<=100000)(aa:base<=w.1.size)(h:∀v' w',w'.ownsRow base 47 1 v' (n+1) (vs++[u])->Onto w w' v v'->wpList Tryz.prog ops Q rest (a.put o.dst v') w'):wpList Tryz.prog ops Q (o::rest) a w:=by obtain⟨ti,hi,df,cY,dd⟩:=info_parts KB.np;exact bE aj s x 72 ho 47 ti _ 1 24 Tryz.underlying72 hi df cY dd rfl zo base v n vs hs ah B A 1 1 [u] hx rfl a7 (λy hy=>by simp at hy;subst hy;exact hu) fB zo aa h
theorem iL(w:World)(bb:Nat)(bz:w.1.size=bb)(u:Value)(t:TypeId):ae (w.alloc (.cells #[u] t)) (bb+1) (some ⟨bb,0,none⟩) [u]:=by subst bz;exact⟨.inr ⟨_,rfl,zs,λj x hx=>by match j,hx with|0,hx=>(simp at hx;subst hx;exact sd)⟩⟩
end
end
theorem It{p:Prop}(h:p:=by rw[<-bN];exact av.new w _ _):p:=h
end Go.Proofs.YtalmnodgjjcefaaGreatDoor
