/- An index as a row of series: a series is put in, or dropped: plain lists. -/
import Derived.Test.YtalmnodgjjcefaaGreatDoorZTgA
import Derived.Test.YtalmnodgjjcefaaGreatDoorZRwE
import Derived.Test.YtalmnodgjjcefaaGreatDoorZRwC
import Derived.Test.YtalmnodgjjcefaaGreatDoorZRwB
import Derived.Test.YtalmnodgjjcefaaGreatDoorZLbD
import Derived.Test.YtalmnodgjjcefaaGreatDoorZFlA
import Derived.Test.YtalmnodgjjcefaaGreatDoorZKmK
namespace Go.Proofs.YtalmnodgjjcefaaGreatDoor
section
section
open Go.RowKit
open Classical in
noncomputable def jO(b:Item):Option aI:=if h:∃r,bA r/\ak r.labels=r.labels/\ar r=b then some h.choose else none
theorem pn{r:aI}(h:ak r.labels=r.labels):eI r=r:=by unfold eI;rw[h]
theorem tW{r s:aI}(hr:bA r)(h1:ak r.labels=r.labels)(hs:bA s)(h2:ak s.labels=s.labels)(h:ar r=ar s):r=s:=by rw[<-pn h1,<-pn h2];exact Gn hr hs h
theorem oN{b:Item}{r:aI}(h:jO b=some r):bA r/\ak r.labels=r.labels/\ar r=b:=by unfold jO at h;split at h;rename_i hx;(injection h with h);subst h;exact hx.choose_spec;cases h
theorem B7{r:aI}(h:bA r)(hs:ak r.labels=r.labels):jO (ar r)=some r:=by have hx:∃s,bA s/\ak s.labels=s.labels/\ar s=ar r:=⟨r,h,hs,rfl⟩;unfold jO;rw[dif_pos hx];obtain⟨h1,h2,h3⟩:=hx.choose_spec;rw[tW h1 h2 h hs h3]
theorem DK{b:Item}(h:gV b):jO b=none:=by cases e:jO b with|none=>rfl|some r=>exact absurd (oN e).2.2 (h r (oN e).1)
noncomputable def bK(A:List Item)(x:Item):List aI:=(A.filter (preB x)).filterMap jO
theorem kV{A:List Item}{x:Item}{r:aI}:r∈bK A x↔bA r/\ak r.labels=r.labels/\ar r∈A/\preB x (ar r)=true:=by unfold bK;rw[List.mem_filterMap];constructor;rintro⟨b,hb,e⟩;obtain⟨h1,h2,rfl⟩:=oN e;obtain⟨h3,h4⟩:=List.mem_filter.1 hb;exact⟨h1,h2,h3,h4⟩;rintro⟨h1,h2,h3,h4⟩;exact⟨_,List.mem_filter.2 ⟨h3,h4⟩,B7 h1 h2⟩
theorem mO{x y:Item}:preB x y=true↔∃t,y=x++t:=by unfold preB;rw[decide_eq_true_eq];constructor;rintro⟨t,ht⟩;exact⟨t,ht.symm⟩;rintro⟨t,ht⟩;exact⟨t,ht.symm⟩
theorem q7:∀{s t p q:List UInt8},(∀c∈s,1<=c.toNat)->(∀c∈t,1<=c.toNat)->s++0::p=t++0::q->s=t/\p=q
 |[],[],_,_,_,_,h=>⟨rfl,by simpa using h⟩
 |[],d::t,_,_,_,ht,h=>by have:=ht d zs;simp at h;rw[<-h.1]at this;exact absurd this (by decide)
 |c::s,[],_,_,hs,_,h=>by have:=hs c zs;simp at h;rw[h.1]at this;exact absurd this (by decide)
 |c::s,d::t,p,q,hs,ht,h=>by simp only[List.cons_append,List.cons.injEq]at h;obtain⟨h1,h2⟩:=q7 (λx hx=>hs x (by simp[hx])) (λx hx=>ht x (by simp[hx])) h.2;exact⟨by rw[h.1,h1],h2⟩
theorem vL(l:List UInt8):∀c∈gY l,1<=c.toNat:=by intro c hc;unfold gY at hc;rcases List.mem_append.1 hc with hc|hc;(·obtain⟨d,_,hd⟩:=List.mem_flatMap.1 hc;unfold iB at hd;split at hd;(·simp at hd;rcases hd with rfl|rfl;decide;rw[UInt8.toNat_add,show(3:UInt8).toNat=3 from rfl];omega);simp at hd;subst hd;omega);simp at hc;subst hc;decide
theorem tF(l:List Lb):∀c∈bw l,1<=c.toNat:=by intro c hc;unfold bw at hc;obtain⟨x,_,hx⟩:=List.mem_flatMap.1 hc;rcases List.mem_append.1 hx with h|h;exact vL _ _ h;exact vL _ _ h
theorem lB{r:aI}(h:bA r){k:UInt8}{t:List UInt8}(_:1<=k.toNat)(e:ar r=k::t):r.kind=(k.toNat:Int):=by obtain⟨u,hu,h1,h5⟩:=iP h;rw[hu]at e;(injection e with e _);(have:k.toNat=r.kind.toNat:=by rw[<-e,iS,Nat.mod_eq_of_lt zo]);omega
theorem mW{r:aI}(h:bA r){k:UInt8}(hk:1<=k.toNat):preB [k] (ar r)=true↔r.kind=(k.toNat:Int):=by rw[mO];constructor;rintro⟨t,ht⟩;exact lB h hk ht;intro e;obtain⟨u,hu,h1,h5⟩:=iP h;refine⟨u,?_⟩;rw[hu,e,Int.toNat_natCast,UInt8.ofNat_toNat];rfl
theorem rQ{r:aI}(h:bA r)(c:List Lb):preB ([1]++bw c++[0]) (ar r)=true↔r.kind=1/\ak r.labels=c:=by rw[mO];constructor;rintro⟨t,ht⟩;have hk:r.kind=1:=lB h (k:=1) (t:=bw c++[0]++t) (by decide) (by rw[ht];simp);refine⟨hk,?_⟩;rw[lS hk]at ht;(have:bw (ak r.labels)++0::four r.id.toNat=bw c++0::t:=by simpa using ht);exact ov (q7 (tF _) (tF _) this).1;rintro⟨hk,e⟩;exact⟨four r.id.toNat,by rw[lS hk,e]⟩
theorem qv{r:aI}(h:bA r){i:Nat}(hi:i<4294967296):preB ([2]++four i) (ar r)=true↔r.kind=2/\r.id=(i:Int):=by have h1:=h.Bo;have h2:=h.Bn;rw[mO];constructor;rintro⟨t,ht⟩;have hk:r.kind=2:=lB h (k:=2) (t:=four i++t) (by decide) (by rw[ht];simp);refine⟨hk,?_⟩;rw[oX hk,List.append_assoc,List.append_assoc]at ht;have h3:=List.append_inj_left (List.append_cancel_left ht) (by rw[cd,cd]);have:=gT zo hi h3;omega;rintro⟨hk,e⟩;exact⟨bw (ak r.labels),by rw[oX hk,e,Int.toNat_natCast]⟩
theorem Bw{r:aI}(h:bA r)(x:Lb):preB ([3]++fH x) (ar r)=true↔r.kind=3/\r.label=x:=by rw[mO];constructor;rintro⟨t,ht⟩;have hk:r.kind=3:=lB h (k:=3) (t:=fH x++t) (by decide) (by rw[ht];simp);refine⟨hk,?_⟩;rw[nh hk,List.append_assoc,List.append_assoc]at ht;exact(iZ (List.append_cancel_left ht)).1;rintro⟨hk,e⟩;exact⟨four r.id.toNat,by rw[nh hk,e]⟩
theorem F8{l:List Lb}{i:Int}:bA ⟨1,l,eE,0,i⟩↔1<=i/\i<=1073741824/\aV l:=by constructor;(·intro h;refine⟨h.Bo,h.Bn,?_⟩;rcases h.kinds with⟨_,b,_⟩|⟨a,_⟩|⟨a,_⟩|⟨a,_⟩;exact b;all_goals(simp at a));rintro⟨h1,h2,h3⟩;exact⟨h1,h2,zs,zs,.inl ⟨.inl rfl,h3,rfl,rfl⟩⟩
theorem sU{i:Int}:bA ⟨5,[],eE,0,i⟩↔1<=i/\i<=1073741824:=
 ⟨λh=>⟨h.Bo,h.Bn⟩,λh=>⟨h.1,h.2,zs,zs,.inr (.inr (.inr ⟨rfl,rfl,rfl,rfl⟩))⟩⟩
theorem Fc{x:Lb}{i d:Int}(hx:lI x=true)(h1:1<=i)(h2:i<=1073741824)(h3:0<=d)(h4:d<=2147483647):bA ⟨4,[],x,d,i⟩:=⟨h1,h2,h3,h4,.inr (.inr (.inl ⟨rfl,rfl,hx⟩))⟩
theorem Dd{l:List Lb}(h:aV l)(i:Int):JF ⟨1,l,eE,0,i⟩=[1]++bw (ak l)++[0]/\KH ⟨1,l,eE,0,i⟩=0:=by have hm:bA {(⟨1,l,eE,0,i⟩:aI)with id:=1}/\(⟨1,l,eE,0,i⟩:aI).kind≠2:=⟨F8.2 ⟨zs,zs,h⟩,zs⟩;unfold JF KH;rw[if_pos hm,if_pos hm];refine⟨?_,rfl⟩;rw[lS (r:={(⟨1,l,eE,0,i⟩:aI)with id:=1}) rfl,List.length_append,cd];exact List.take_left' zo
theorem Kz{l:List Lb}(h:¬aV l)(i:Int):KH ⟨1,l,eE,0,i⟩=120:=by unfold KH;rw[if_neg];intro hm;exact h (F8.1 hm.1).2.2
theorem Kl{x:Lb}(h:lI x=true)(i:Int):JF ⟨3,[],x,0,i⟩=[3]++fH x:=by have hm:bA {(⟨3,[],x,0,i⟩:aI)with id:=1}/\(⟨3,[],x,0,i⟩:aI).kind≠2:=⟨⟨zs,zs,zs,zs,.inr (.inl ⟨rfl,rfl,h,rfl⟩)⟩,zs⟩;unfold JF;rw[if_pos hm];rw[nh (r:={(⟨3,[],x,0,i⟩:aI)with id:=1}) rfl,List.length_append,cd];exact List.take_left' zo
end
section
open Go.RowKit
def af.gone(s:af)(id:Int):Bool:=decide (1<=id/\id<=1073741824)&&s.has (ar ⟨5,[],eE,0,id⟩)
def mU(s:af)(L:List aI):Int:=L.foldl (λb r=>if s.gone r.id=true then b else max b r.id) 0
open Classical in
noncomputable def af.eR(s:af)(l:List Lb):Int:=if aV l then mU s (bK s.all ([1]++bw (ak l)++[0]))else 0
noncomputable def af.dL(s:af)(id:Int):Option (List Lb):=if 1<=id/\id<=1073741824 then(bK s.all ([2]++four id.toNat)).head?.map (·.labels)else none
noncomputable def af.next(s:af):Int:=(bK s.all [2]).foldl (λn r=>max n (r.id+1)) 1
def af.ez(s:af)(l:List Item):af:=l.foldl (λs b=>(s.add b).1) s
open Classical in
noncomputable def af.de(s:af)(l:List Lb)(day:Int):List Item:=
 if s.eR l=0 then aM ahead (dz (ak l) s.next (ed (ak l) [day]))else(ak l).map λx=>ar ⟨4,[],x,day,s.eR l⟩
noncomputable def af.wK(s:af)(l:List Lb):Int:=if s.eR l=0 then s.next else s.eR l
open Classical in
noncomputable def af.qM(s:af)(l:List Lb)(day:Int):af×Int×Nat:=
 if¬aV l then(s,0,70)else if day<0\/2147483647<day then(s,0,1)else(s.ez (s.de l day),s.wK l,0)
noncomputable def af.iD(s:af)(id:Int):af×Nat:=if(s.dL id).isSome=true then(s.ez [ar ⟨5,[],eE,0,id⟩],0)else(s,60)
def lG(L:List aI)(p:aI->Bool):List Int:=aM KI.lt ((L.filter p).map (·.id))
def af.yu(s:af)(fs:List gZ)(r:aI):Bool:=mo fs r.labels&&!s.gone r.id
noncomputable def af.zB(s:af)(fs:List gZ)(r:aI):Bool:=(s.dL r.id).isSome&&(mo fs ((s.dL r.id).getD [])&&!s.gone r.id)
noncomputable def af.find(s:af)(fs:List gZ):List Int:=
 if h:aR fs<fs.length then lG (bK s.all ([3]++fH (fs[aR fs].name,fs[aR fs].value))) (s.zB fs)else lG (bK s.all [2]) (s.yu fs)
def DT(a b:Int)(r:aI):Bool:=decide (a<=r.day/\r.day<=b)
noncomputable def af.on(s:af)(fs:List gZ)(a b:Int):List Int:=KI.jZ [s.find fs,lG (bK s.all [4]) (DT a b)]
theorem af.qb(s:af)(x:Item):s.has x=true↔x∈s.all:=by rw[af.has_eq,decide_eq_true_eq]
theorem B8{s:af}{x:Item}(h:s.has x=true):(s.add x).1=s:=by unfold af.add;rw[if_pos h];split<;>rfl
theorem Ia{s:af}{x:Item}(hb:da x=false)(hn:s.has x=false)(hl:s.mem.length<500):s.add x=(⟨aM ahead (s.mem++[x]),s.fs⟩,0):=by unfold af.add;rw[if_neg (by rw[hb];simp),if_neg (by rw[hn];simp),if_neg zo]
theorem zM{s:af}{x:Item}(hb:da x=false)(hl:s.mem.length<500):(s.add x).2=0/\∀y,y∈(s.add x).1.all↔y∈s.all\/y=x:=by cases h:s.has x with|true=>(rw[B8 h];refine⟨?_,λy=>⟨.inl,?_⟩⟩;unfold af.add;rw[if_neg (by rw[hb];simp),if_pos h];·rintro(e|rfl);exact e;exact(s.qb _).1 h)|false=>(rw[Ia hb h hl];refine⟨rfl,λy=>?_⟩;rw[nE,nE];simp only[aZ rh,List.mem_append,List.mem_singleton];constructor;(·rintro(e|e|e);exact .inl (.inl e);exact .inl (.inr e);exact .inr e);·rintro((e|e)|e);exact .inl e;exact .inr (.inl e);exact .inr (.inr e))
theorem jT(s:af)(x:Item):(s.add x).1.mem.length<=s.mem.length+1:=by unfold af.add;split;simp;·split;simp;·split;simp;have:=cZ rh (s.mem++[x]);exact N7
theorem FM(s:af):s.ez []=s:=rfl
theorem gC(s:af)(x:Item)(l:List Item):s.ez (x::l)=(s.add x).1.ez l:=rfl
theorem xB(s:af)(l m:List Item):s.ez (l++m)=(s.ez l).ez m:=List.foldl_append
theorem uj{l:List Item}:∀{s:af}{n:Nat},ft s->s.total<=n->ft (s.ez l)/\(s.ez l).total<=n+l.length:=by induction l with|nil=>intro s n h ht;exact⟨h,ht⟩|cons x l ih=>intro s n h ht;have h1:=C4 s x;have:=ih (n:=n+1) (h.add x) zo;rw[gC,List.length_cons];exact⟨this.1,zo⟩
theorem uo(l:List Item):∀s:af,(s.ez l).mem.length<=s.mem.length+l.length:=by induction l with|nil=>intro s;exact Nat.le_refl _|cons x l ih=>intro s;have h1:=jT s x;have h2:=ih (s.add x).1;rw[gC,List.length_cons];omega
theorem wM{l:List Item}(hl:∀x∈l,da x=false):∀{s:af},s.mem.length+l.length<=500->∀y,y∈(s.ez l).all↔y∈s.all\/y∈l:=by induction l with|nil=>intro s _ y;simp[FM]|cons x l ih=>(intro s hn y;rw[List.length_cons]at hn;have h1:=jT s x;have h2:=(zM (s:=s) (hl x zs) zo).2 y;rw[gC,ih (λz hz=>hl z (by simp[hz])) zo,h2,List.mem_cons];constructor;(·rintro((e|e)|e);exact .inl e;exact .inr (.inl e);exact .inr (.inr e));·rintro(e|e|e);exact .inl (.inl e);exact .inl (.inr e);exact .inr e)
theorem wD(t:af)(l:List Item):∀s:af,(∀x,t.has x=true->s.has x=true)->(hl:∀x∈l,da x=false)->s.mem.length+l.length<=500->s.ez (l.filter λx=>!t.has x)=s.ez l:=by induction l with|nil=>intro s _ _ _;rfl|cons x l ih=>(intro s be hl hn;rw[List.length_cons]at hn;have h1:=jT s x;(have cr:∀y,t.has y=true->(s.add x).1.has y=true:=λy hy=>by rw[af.qb,(zM (hl x zs) zo).2 y];exact .inl ((s.qb y).1 (be y hy)));have h2:=ih (s.add x).1 cr (λz hz=>hl z (by simp[hz])) zo;cases hx:t.has x with|true=>rw[List.filter_cons_of_neg (by rw[hx];simp),gC,<-h2,B8 (be x hx)]|false=>rw[List.filter_cons_of_pos (by rw[hx];rfl),gC,gC,h2])
theorem mI{r:aI}(h:bA r):da (ar r)=false:=by have:=kN h;unfold da;rw[decide_eq_false zo,decide_eq_false zo];rfl
end
section
open Go.RowKit
structure dC where
 dm:List Lb
 gone:Bool
 days:List Int
def gq(X:List dC)(r:aI):Prop:=∃(i:Nat)(t:dC),X[i]?=some t/\r.id=((i+1:Nat):Int)/\
 (((r.kind=1\/r.kind=2)/\r.labels=t.dm/\r.label=eE/\r.day=0)\/(r.kind=3/\r.labels=[]/\r.label∈t.dm/\r.day=0)\/
  (r.kind=4/\r.labels=[]/\r.label∈t.dm/\r.day∈t.days)\/(r.kind=5/\r.labels=[]/\r.label=eE/\r.day=0/\t.gone=true))
structure Inv(A:List Item)(X:List dC):Prop where
 dm:∀t∈X,aV t.dm/\ak t.dm=t.dm
 day:∀t∈X,∀d∈t.days,0<=d/\d<=2147483647
 eH:X.length<=1000
 item:∀b,b∈A↔∃r,gq X r/\ar r=b
 live:∀(i j:Nat)(t u:dC),X[i]?=some t->X[j]?=some u->t.dm=u.dm->t.gone=false->u.gone=false->i=j
theorem Inv.new:Inv af.new.all []:=by refine⟨zs,zs,zs,λb=>?_,zs⟩;rw[nE];simp[af.new,gq]
section
variable {A : List Item} {X : List dC} {r : aI}
theorem Inv.may(h:Inv A X)(hr:gq X r):bA r/\ak r.labels=r.labels:=by obtain⟨i,t,ht,hid,hk⟩:=hr;have aa:=List.mem_of_getElem? ht;have hi:=(List.getElem?_eq_some_iff.1 ht).1;have hl:=h.dm t aa;have hf:=h.eH;(have h1:1<=r.id:=by omega);(have h2:r.id<=1073741824:=by omega);rcases hk with⟨a,b,c,d⟩|⟨a,b,c,d⟩|⟨a,b,c,d⟩|⟨a,b,c,d,_⟩;exact⟨⟨h1,h2,zo,zo,.inl ⟨a,by rw[b];exact hl.1,c,d⟩⟩,by rw[b];exact hl.2⟩;exact⟨⟨h1,h2,zo,zo,.inr (.inl ⟨a,b,hl.1.ok _ c,d⟩)⟩,by rw[b];rfl⟩;have:=h.day t aa _ d;exact⟨⟨h1,h2,this.1,this.2,.inr (.inr (.inl ⟨a,b,hl.1.ok _ c⟩))⟩,by rw[b];rfl⟩;exact⟨⟨h1,h2,zo,zo,.inr (.inr (.inr ⟨a,b,c,d⟩))⟩,by rw[b];rfl⟩
theorem Inv.make(h:Inv A X)(h1:bA r)(h2:ak r.labels=r.labels):ar r∈A↔gq X r:=by rw[h.item];constructor;rintro⟨q,hq,e⟩;obtain⟨g1,g2⟩:=h.may hq;rw[<-tW g1 g2 h1 h2 e];exact hq;exact λhr=>⟨r,hr,rfl⟩
theorem Inv.row(h:Inv A X){x:Item}:r∈bK A x↔gq X r/\preB x (ar r)=true:=by rw[kV];constructor;rintro⟨h1,h2,h3,h4⟩;exact⟨(h.make h1 h2).1 h3,h4⟩;rintro⟨h1,h2⟩;obtain⟨g1,g2⟩:=h.may h1;exact⟨g1,g2,(h.make g1 g2).2 h1,h2⟩
def lD(X:List dC)(id:Int):Option dC:=if 1<=id then X[(id-1).toNat]?else none
theorem bT{id:Int}{t:dC}:lD X id=some t↔∃i:Nat,X[i]?=some t/\id=((i+1:Nat):Int):=by unfold lD;constructor;(·intro h;split at h;exact⟨_,h,zo⟩;cases h);rintro⟨i,h,rfl⟩;rw[if_pos zo,show(((i+1:Nat):Int)-1).toNat=i from zo];exact h
theorem AV{id:Int}{t:dC}(h:lD X id=some t):t∈X:=by obtain⟨i,h,_⟩:=bT.1 h;exact List.mem_of_getElem? h
theorem uL{id:Int}{t:dC}(h:lD X id=some t):1<=id/\id<=X.length:=by obtain⟨i,h2,rfl⟩:=bT.1 h;have:=(List.getElem?_eq_some_iff.1 h2).1;omega
theorem KZ:gq X r/\r.kind=1↔∃t,lD X r.id=some t/\r=⟨1,t.dm,eE,0,r.id⟩:=by constructor;(·rintro⟨⟨i,t,ht,hid,hk⟩,h1⟩;refine⟨t,bT.2 ⟨i,ht,hid⟩,?_⟩;rcases hk with⟨a,b,c,d⟩|⟨a,b,c,d⟩|⟨a,b,c,d⟩|⟨a,b,c,d,_⟩;exact dD h1 b c d rfl;all_goals omega);rintro⟨t,ht,e⟩;obtain⟨i,ht,hid⟩:=bT.1 ht;rw[e];exact⟨⟨i,t,ht,by rw[<-hid],.inl ⟨.inl rfl,rfl,rfl,rfl⟩⟩,rfl⟩
theorem J5:gq X r/\r.kind=2↔∃t,lD X r.id=some t/\r=⟨2,t.dm,eE,0,r.id⟩:=by constructor;(·rintro⟨⟨i,t,ht,hid,hk⟩,h1⟩;refine⟨t,bT.2 ⟨i,ht,hid⟩,?_⟩;rcases hk with⟨a,b,c,d⟩|⟨a,b,c,d⟩|⟨a,b,c,d⟩|⟨a,b,c,d,_⟩;exact dD h1 b c d rfl;all_goals omega);rintro⟨t,ht,e⟩;obtain⟨i,ht,hid⟩:=bT.1 ht;rw[e];exact⟨⟨i,t,ht,by rw[<-hid],.inl ⟨.inr rfl,rfl,rfl,rfl⟩⟩,rfl⟩
theorem MF:gq X r/\r.kind=3↔∃t,lD X r.id=some t/\r.label∈t.dm/\r=⟨3,[],r.label,0,r.id⟩:=by constructor;(·rintro⟨⟨i,t,ht,hid,hk⟩,h1⟩;refine⟨t,bT.2 ⟨i,ht,hid⟩,?_⟩;rcases hk with⟨a,b,c,d⟩|⟨a,b,c,d⟩|⟨a,b,c,d⟩|⟨a,b,c,d,_⟩;omega;exact⟨c,dD h1 b rfl d rfl⟩;all_goals omega);rintro⟨t,ht,hl,e⟩;obtain⟨i,ht,hid⟩:=bT.1 ht;rw[e];exact⟨⟨i,t,ht,by rw[<-hid],.inr (.inl ⟨rfl,rfl,hl,rfl⟩)⟩,rfl⟩
theorem Nj:gq X r/\r.kind=4↔∃t,lD X r.id=some t/\r.label∈t.dm/\r.day∈t.days/\r=⟨4,[],r.label,r.day,r.id⟩:=by constructor;(·rintro⟨⟨i,t,ht,hid,hk⟩,h1⟩;refine⟨t,bT.2 ⟨i,ht,hid⟩,?_⟩;rcases hk with⟨a,b,c,d⟩|⟨a,b,c,d⟩|⟨a,b,c,d⟩|⟨a,b,c,d,_⟩;omega;omega;exact⟨c,d,dD h1 b rfl rfl rfl⟩;omega);rintro⟨t,ht,hl,hd,e⟩;obtain⟨i,ht,hid⟩:=bT.1 ht;rw[e];exact⟨⟨i,t,ht,by rw[<-hid],.inr (.inr (.inl ⟨rfl,rfl,hl,hd⟩))⟩,rfl⟩
theorem LN:gq X r/\r.kind=5↔∃t,lD X r.id=some t/\t.gone=true/\r=⟨5,[],eE,0,r.id⟩:=by constructor;(·rintro⟨⟨i,t,ht,hid,hk⟩,h1⟩;refine⟨t,bT.2 ⟨i,ht,hid⟩,?_⟩;rcases hk with⟨a,b,c,d⟩|⟨a,b,c,d⟩|⟨a,b,c,d⟩|⟨a,b,c,d,g⟩;omega;omega;omega;exact⟨g,dD h1 b c d rfl⟩);rintro⟨t,ht,hg,e⟩;obtain⟨i,ht,hid⟩:=bT.1 ht;rw[e];exact⟨⟨i,t,ht,by rw[<-hid],.inr (.inr (.inr ⟨rfl,rfl,rfl,rfl,hg⟩))⟩,rfl⟩
end
section
variable {s : af} {X : List dC}
def nZ(X:List dC)(id:Int):Bool:=(lD X id).any (·.gone)
theorem Inv.gone(h:Inv s.all X)(id:Int):s.gone id=nZ X id:=by rw[Bool.eq_iff_iff];unfold af.gone nZ;rw[Bool.and_eq_true,decide_eq_true_eq,af.qb,Option.any_eq_true];constructor;rintro⟨h1,h2⟩;have h3:=(h.make (r:=⟨5,[],eE,0,id⟩) (sU.2 h1) rfl).1 h2;obtain⟨t,g1,g2,-⟩:=(LN (r:=⟨5,[],eE,0,id⟩)).1 ⟨h3,rfl⟩;exact⟨t,g1,g2⟩;rintro⟨t,g1,g2⟩;have h3:=(LN (r:=⟨5,[],eE,0,id⟩)).2 ⟨t,g1,g2,rfl⟩;have h4:=h.may h3.1;exact⟨sU.1 h4.1,(h.make h4.1 h4.2).2 h3.1⟩
theorem Inv.FU(h:Inv s.all X)(c:List Lb)(r:aI):r∈bK s.all ([1]++bw c++[0])↔∃t,lD X r.id=some t/\t.dm=c/\r=⟨1,t.dm,eE,0,r.id⟩:=by rw[h.row];constructor;rintro⟨h1,h2⟩;obtain⟨g1,g2⟩:=h.may h1;obtain⟨h3,h4⟩:=(rQ g1 c).1 h2;obtain⟨t,ht,e⟩:=KZ.1 ⟨h1,h3⟩;refine⟨t,ht,?_,e⟩;rw[g2]at h4;rw[<-h4,e];rintro⟨t,ht,hc,e⟩;obtain⟨h1,h2⟩:=KZ.2 ⟨t,ht,e⟩;obtain⟨g1,g2⟩:=h.may h1;refine⟨h1,(rQ g1 c).2 ⟨h2,?_⟩⟩;rw[g2,<-hc,e]
theorem Inv.BH(h:Inv s.all X)(r:aI):r∈bK s.all [2]↔∃t,lD X r.id=some t/\r=⟨2,t.dm,eE,0,r.id⟩:=by rw[h.row,<-J5];constructor;rintro⟨h1,h2⟩;exact⟨h1,(mW (k:=2) (h.may h1).1 (by decide)).1 h2⟩;rintro⟨h1,h2⟩;exact⟨h1,(mW (k:=2) (h.may h1).1 (by decide)).2 h2⟩
theorem Inv.IA(h:Inv s.all X)(r:aI):r∈bK s.all [4]↔∃t,lD X r.id=some t/\r.label∈t.dm/\r.day∈t.days/\r=⟨4,[],r.label,r.day,r.id⟩:=by rw[h.row,<-Nj];constructor;rintro⟨h1,h2⟩;exact⟨h1,(mW (k:=4) (h.may h1).1 (by decide)).1 h2⟩;rintro⟨h1,h2⟩;exact⟨h1,(mW (k:=4) (h.may h1).1 (by decide)).2 h2⟩
theorem Inv.Iu(h:Inv s.all X){id:Int}(h1:1<=id)(h2:id<=1073741824)(r:aI):r∈bK s.all ([2]++four id.toNat)↔r.id=id/\∃t,lD X id=some t/\r=⟨2,t.dm,eE,0,id⟩:=by rw[h.row];constructor;rintro⟨h3,h4⟩;obtain⟨h5,h6⟩:=(qv (h.may h3).1 zo).1 h4;(have h7:r.id=id:=by omega);obtain⟨t,ht,e⟩:=J5.1 ⟨h3,h5⟩;rw[h7]at ht e;exact⟨h7,t,ht,e⟩;rintro⟨h3,t,ht,e⟩;rw[<-h3]at ht e;obtain⟨h5,h6⟩:=J5.2 ⟨t,ht,e⟩;exact⟨h5,(qv (h.may h5).1 zo).2 ⟨h6,zo⟩⟩
theorem Inv.Jm(h:Inv s.all X)(x:Lb)(r:aI):r∈bK s.all ([3]++fH x)↔r.label=x/\∃t,lD X r.id=some t/\x∈t.dm/\r=⟨3,[],x,0,r.id⟩:=by rw[h.row];constructor;rintro⟨h1,h2⟩;obtain⟨h3,rfl⟩:=(Bw (h.may h1).1 x).1 h2;obtain⟨t,g1,g2,g3⟩:=MF.1 ⟨h1,h3⟩;exact⟨rfl,t,g1,g2,g3⟩;rintro⟨rfl,t,g1,g2,g3⟩;obtain⟨h1,h2⟩:=MF.2 ⟨t,g1,g2,g3⟩;exact⟨h1,(Bw (h.may h1).1 _).2 ⟨h2,rfl⟩⟩
theorem Inv.dL(h:Inv s.all X)(id:Int):s.dL id=(lD X id).map (·.dm):=by unfold af.dL;have hf:=h.eH;by_cases h1:1<=id/\id<=1073741824;(·rw[if_pos h1];cases e:bK s.all ([2]++four id.toNat)with|nil=>(cases e2:lD X id with|none=>rfl|some t=>have:=(h.Iu h1.1 h1.2 ⟨2,t.dm,eE,0,id⟩).2 ⟨rfl,t,e2,rfl⟩;rw[e]at this;cases this)|cons r l=>(obtain⟨_,t,ht,er⟩:=(h.Iu h1.1 h1.2 r).1 (by rw[e];simp);rw[ht,er];rfl));·rw[if_neg h1];cases e2:lD X id with|none=>rfl|some t=>have:=uL e2;omega
theorem Fu(L:List aI):∀(n m:Int),n<=m->(∀r∈L,r.id+1<=m)->(n=m\/∃r∈L,r.id+1=m)->L.foldl (λn r=>max n (r.id+1)) n=m:=by induction L with|nil=>(intro n m _ _ h;rcases h with h|⟨r,hr,_⟩;exact h;cases hr)|cons x L ih=>(intro n m hn hm h;rw[List.foldl_cons];have hx:=hm x zs;refine ih _ m zo (λr hr=>hm r (by simp[hr])) ?_;rcases h with h|⟨r,hr,e⟩;exact .inl zo;·rcases List.mem_cons.1 hr with rfl|hr;exact .inl zo;exact .inr ⟨r,hr,e⟩)
theorem Inv.next(h:Inv s.all X):s.next=((X.length+1:Nat):Int):=by unfold af.next;refine Fu _ _ _ zo (λr hr=>?_) ?_;obtain⟨t,ht,_⟩:=(h.BH r).1 hr;have:=uL ht;omega;·rcases Nat.eq_zero_or_pos X.length with h0|h0;exact .inl zo;obtain⟨t,ht⟩:∃t,X[X.length-1]?=some t:=⟨_,List.getElem?_eq_getElem zo⟩;exact .inr ⟨⟨2,t.dm,eE,0,(X.length:Nat)⟩,(h.BH _).2 ⟨t,bT.2 ⟨X.length-1,ht,by show((X.length:Nat):Int)=_;omega⟩,rfl⟩,by show((X.length:Nat):Int)+1=_;omega⟩
def BX(X:List dC)(c:List Lb):Int:=match X.findIdx? (λt=>decide (t.dm=c)&&!t.gone)with
 |some i=>((i+1:Nat):Int)
 |none=>0
theorem kR{c:List Lb}{i:Nat}(h:X.findIdx? (λt=>decide (t.dm=c)&&!t.gone)=some i):∃t,X[i]?=some t/\t.dm=c/\t.gone=false:=by obtain⟨h1,h2,-⟩:=List.findIdx?_eq_some_iff_getElem.1 h;rw[Bool.and_eq_true,decide_eq_true_eq,Bool.not_eq_true']at h2;exact⟨_,List.getElem?_eq_getElem h1,h2.1,h2.2⟩
theorem qO{c:List Lb}(h:X.findIdx? (λt=>decide (t.dm=c)&&!t.gone)=none){t:dC}(ht:t∈X)(hc:t.dm=c):t.gone=true:=by have:=List.findIdx?_eq_none_iff.1 h t ht;rw[Bool.and_eq_false_iff,decide_eq_false_iff_not,Bool.not_eq_false']at this;exact this.resolve_left (λe=>e hc)
theorem DR(s:af)(L:List aI)(h:∀r∈L,s.gone r.id=true):∀b:Int,L.foldl (λb r=>if s.gone r.id=true then b else max b r.id) b=b:=by induction L with|nil=>intro b;rfl|cons x L ih=>intro b;rw[List.foldl_cons,if_pos (h x zs)];exact ih (λr hr=>h r (by simp[hr])) b
theorem Dh(s:af)(L:List aI)(v:Int)(h:∀r∈L,s.gone r.id=true\/r.id=v):∀b:Int,b<=v->(b=v\/∃r∈L,s.gone r.id=false)->L.foldl (λb r=>if s.gone r.id=true then b else max b r.id) b=v:=by induction L with|nil=>(intro b _ h;rcases h with h|⟨r,hr,_⟩;exact h;cases hr)|cons x L ih=>(intro b hb hx;rw[List.foldl_cons];have h':∀r∈L,s.gone r.id=true\/r.id=v:=λr hr=>h r (by simp[hr]);by_cases hg:s.gone x.id=true;(·rw[if_pos hg];refine ih h' b hb ?_;rcases hx with hx|⟨r,hr,e⟩;exact .inl hx;·rcases List.mem_cons.1 hr with rfl|hr;rw[hg]at e;(cases e);exact .inr ⟨r,hr,e⟩);rw[if_neg hg];have:=(h x zs).resolve_left hg;exact ih h' _ zo (.inl zo))
theorem Inv.eR(h:Inv s.all X){l:List Lb}(hl:aV l):s.eR l=BX X (ak l):=by unfold af.eR;rw[if_pos hl];unfold mU BX;cases e:X.findIdx? (λt=>decide (t.dm=ak l)&&!t.gone)with|none=>(refine DR s _ (λr hr=>?_) 0;obtain⟨t,ht,hc,-⟩:=(h.FU _ r).1 hr;rw[h.gone];unfold nZ;rw[ht,Option.any_some];exact qO e (AV ht) hc)|some i=>(obtain⟨t,ht,hc,hg⟩:=kR e;refine Dh s _ _ (λr hr=>?_) 0 (by show(0:Int)<=((i+1:Nat):Int);omega) (.inr ⟨⟨1,t.dm,eE,0,((i+1:Nat):Int)⟩,(h.FU _ _).2 ⟨t,bT.2 ⟨i,ht,rfl⟩,hc,rfl⟩,?_⟩);(·obtain⟨u,hu,ad,-⟩:=(h.FU _ r).1 hr;cases aa:u.gone with|true=>exact .inl (by rw[h.gone];unfold nZ;rw[hu,Option.any_some,aa])|false=>(obtain⟨j,hj,hid⟩:=bT.1 hu;have:=h.live j i u t hj ht (by rw[ad,hc]) aa hg;subst this;exact .inr hid));rw[h.gone];unfold nZ;rw[show lD X (⟨1,t.dm,eE,0,((i+1:Nat):Int)⟩:aI).id=some t from bT.2 ⟨i,ht,rfl⟩,Option.any_some,hg])
end
def kt(p:dC->Bool):Nat->List dC->List Int
 |_,[]=>[]
 |i,t::X=>if p t=true then(i:Int)::kt p (i+1) X else kt p (i+1) X
def ic(X:List dC)(p:dC->Bool):List Int:=kt p 1 X
theorem oB(p:dC->Bool)(v:Int):∀(X:List dC)(i:Nat),v∈kt p i X↔∃(k:Nat)(t:dC),X[k]?=some t/\v=((i+k:Nat):Int)/\p t=true
 |[],i=>by simp[kt]
 |t::X,i=>by have ih:=oB p v X (i+1);unfold kt;(have hs:(∃(k:Nat)(u:dC),(t::X)[k]?=some u/\v=((i+k:Nat):Int)/\p u=true)↔(v=(i:Int)/\p t=true)\/∃(k:Nat)(u:dC),X[k]?=some u/\v=((i+1+k:Nat):Int)/\p u=true:=by constructor;(·rintro⟨k,u,h1,h2,h3⟩;cases k with|zero=>(rw[List.getElem?_cons_zero]at h1;injection h1 with h1;subst h1;exact .inl ⟨zo,h3⟩)|succ k=>rw[List.getElem?_cons_succ]at h1;exact .inr ⟨k,u,h1,zo,h3⟩);·rintro(⟨h1,h2⟩|⟨k,u,h1,h2,h3⟩);exact⟨0,t,zs,zo,h2⟩;exact⟨k+1,u,by rw[List.getElem?_cons_succ];exact h1,zo,h3⟩);rw[hs];split;(·rename_i hp;rw[List.mem_cons,ih];constructor;(·rintro(h|h);exact .inl ⟨h,hp⟩;exact .inr h);·rintro(h|h);exact .inl h.1;exact .inr h);·rename_i hp;rw[ih];constructor;exact .inr;·rintro(h|h);exact absurd h.2 hp;exact h
theorem nI{X:List dC}{p:dC->Bool}{v:Int}:v∈ic X p↔∃t,lD X v=some t/\p t=true:=by unfold ic;rw[oB];constructor;rintro⟨k,t,h1,h2,h3⟩;exact⟨t,bT.2 ⟨k,h1,zo⟩,h3⟩;rintro⟨t,h1,h3⟩;obtain⟨k,h1,h2⟩:=bT.1 h1;exact⟨k,t,h1,zo,h3⟩
theorem qC(p:dC->Bool):∀(X:List dC)(i:Nat),Ri KI.lt (kt p i X)
 |[],_=>List.Pairwise.nil
 |t::X,i=>by unfold kt;split;refine List.pairwise_cons.2 ⟨λv hv=>?_,qC p X (i+1)⟩;obtain⟨k,_,_,h2,_⟩:=(oB p v X (i+1)).1 hv;show decide ((i:Int)<v)=true;rw[decide_eq_true_eq];omega;exact qC p X (i+1)
theorem uw{X:List dC}{p:dC->Bool}{l:List Int}(h:∀v,v∈l↔∃t,lD X v=some t/\p t=true):aM KI.lt l=ic X p:=
 qm KI.ordr (qC p X 1) λv=>by rw[h];exact nI
theorem q4{L:List aI}{p:aI->Bool}{v:Int}:v∈(L.filter p).map (·.id)↔∃r∈L,r.id=v/\p r=true:=by rw[List.mem_map];constructor;rintro⟨r,hr,e⟩;obtain⟨h1,h2⟩:=List.mem_filter.1 hr;exact⟨r,h1,e,h2⟩;rintro⟨r,hr,e,h2⟩;exact⟨r,List.mem_filter.2 ⟨hr,h2⟩,e⟩
theorem wV:∀(ls:List Lb)(n:ByteArray),jN ls n≠⟨#[]⟩->(n,jN ls n)∈ls
 |[],n,h=>absurd rfl h
 |x::t,n,h=>by unfold jN at h⊢;split at h;rename_i e;rw[if_pos e];have:x.1=n:=dV (eq_of_beq e);rw[<-this];exact List.mem_cons_self;rename_i e;rw[if_neg e];exact List.mem_cons_of_mem _ (wV t n h)
theorem yn:∀(fs:List gZ)(h:aR fs<fs.length),gW fs[aR fs]=true
 |f::t,h=>by by_cases e:gW f=true;(have:aR (f::t)=0:=by unfold aR;rw[if_pos e]);simp only[this,List.getElem_cons_zero];exact e;(have h2:aR (f::t)=aR t+1:=by rw[aR,if_neg e]);(have h':aR t<t.length:=by rw[h2]at h;simpa using h);simp only[h2,List.getElem_cons_succ];exact yn t h'
theorem Cl{f:gZ}(h:gW f=true){ls:List Lb}(ho:xD f ls=true):(f.name,f.value)∈ls:=by unfold gW at h;rw[Bool.and_eq_true,Bool.and_eq_true,Bool.not_eq_true',Bool.not_eq_true',Bool.not_eq_true']at h;obtain⟨h1,h2,h3⟩:=h;unfold xD NA at ho;rw[h1,h2]at ho;simp only[Bool.bne_false,Bool.false_eq_true,if_false]at ho;have e:jN ls f.name=f.value:=dV (eq_of_beq ho);(have a8:jN ls f.name≠⟨#[]⟩:=λx=>by rw[e]at x;rw[x,Lib.toList_data]at h3;simp at h3);have:=wV ls f.name a8;rw[e]at this;exact this
def ib(fs:List gZ)(t:dC):Bool:=mo fs t.dm&&!t.gone
def Gt(a b:Int)(t:dC):Bool:=t.days.any λd=>decide (a<=d/\d<=b)
section
variable {s : af} {X : List dC}
theorem mX{id:Int}{t:dC}(h:lD X id=some t):nZ X id=t.gone:=by unfold nZ;rw[h];rfl
theorem Inv.find(h:Inv s.all X)(fs:List gZ):s.find fs=ic X (ib fs):=by unfold af.find;split;(·rename_i hk;refine uw λv=>?_;rw[q4];constructor;rintro⟨r,hr,rfl,hp⟩;obtain⟨-,t,ht,hx,-⟩:=(h.Jm _ r).1 hr;refine⟨t,ht,?_⟩;unfold af.zB at hp;rw[h.dL,ht,h.gone,mX ht]at hp;exact hp;rintro⟨t,ht,hp⟩;have aa:=hp;unfold ib at aa;rw[Bool.and_eq_true]at aa;have ho:xD fs[aR fs] t.dm=true:=List.all_eq_true.1 aa.1 _ (List.getElem_mem hk);have hx:=Cl (yn fs hk) ho;refine⟨⟨3,[],(fs[aR fs].name,fs[aR fs].value),0,v⟩,(h.Jm _ _).2 ⟨rfl,t,ht,hx,rfl⟩,rfl,?_⟩;unfold af.zB;show((s.dL v).isSome&&(mo fs ((s.dL v).getD [])&&!s.gone v))=true;rw[h.dL,ht,h.gone,mX ht];exact hp);·refine uw λv=>?_;rw[q4];constructor;rintro⟨r,hr,rfl,hp⟩;obtain⟨t,ht,e⟩:=(h.BH r).1 hr;refine⟨t,ht,?_⟩;unfold af.yu at hp;rw[h.gone,mX ht,e]at hp;exact hp;rintro⟨t,ht,hp⟩;refine⟨⟨2,t.dm,eE,0,v⟩,(h.BH _).2 ⟨t,ht,rfl⟩,rfl,?_⟩;unfold af.yu;show(mo fs t.dm&&!s.gone v)=true;rw[h.gone,mX ht];exact hp
theorem Inv.on(h:Inv s.all X)(fs:List gZ)(a b:Int):s.on fs a b=ic X λt=>ib fs t&&Gt a b t:=by unfold af.on KI.jZ;rw[h.find];(have hq:∀v,v∈lG (bK s.all [4]) (DT a b)↔∃t,lD X v=some t/\Gt a b t=true:=λv=>by unfold lG;rw[aZ KI.ordr,q4];constructor;rintro⟨r,hr,rfl,hp⟩;obtain⟨t,ht,-,hd,-⟩:=(h.IA r).1 hr;exact⟨t,ht,List.any_eq_true.2 ⟨r.day,hd,hp⟩⟩;rintro⟨t,ht,hp⟩;obtain⟨d,hd,hp⟩:=List.any_eq_true.1 hp;obtain⟨x,hx⟩:=List.exists_mem_of_length_pos (show 0<t.dm.length from(h.dm t (AV ht)).1.some);exact⟨⟨4,[],x,d,v⟩,(h.IA _).2 ⟨t,ht,hx,hd,rfl⟩,rfl,hp⟩);rw[<-uw (l:=(aM KI.lt [ic X (ib fs),lG (bK s.all [4]) (DT a b)].flatten).filter λx=>[ic X (ib fs),lG (bK s.all [4]) (DT a b)].all λr=>decide (x∈r)) (X:=X) (p:=λt=>ib fs t&&Gt a b t) ?_];exact(qm KI.ordr ((eK KI.ordr _).filter _) λx=>Iff.rfl).symm;·intro v;rw[List.mem_filter,aZ KI.ordr];simp only[List.flatten_cons,List.flatten_nil,List.append_nil,List.mem_append,List.all_cons,List.all_nil,Bool.and_true,Bool.and_eq_true,decide_eq_true_eq];constructor;rintro⟨-,h1,h2⟩;obtain⟨t,ht,hp⟩:=nI.1 h1;obtain⟨u,hu,an⟩:=(hq v).1 h2;rw[ht]at hu;(injection hu with hu);subst hu;exact⟨t,ht,hp,an⟩;rintro⟨t,ht,hp,an⟩;have h1:=nI.2 ⟨t,ht,hp⟩;exact⟨.inl h1,h1,(hq v).2 ⟨t,ht,an⟩⟩
end
end
section
open Go.RowKit
def iA(X:List dC)(c:List Lb)(day:Int):List dC:=match X.findIdx? (λt=>decide (t.dm=c)&&!t.gone)with
 |some i=>X.modify i λt=>⟨t.dm,t.gone,day::t.days⟩
 |none=>X++[⟨c,false,[day]⟩]
def lM(X:List dC)(id:Int):List dC:=X.modify (id-1).toNat λt=>⟨t.dm,true,t.days⟩
theorem fw{X:List dC}{f:dC->dC}{i j:Nat}{t:dC}:(X.modify i f)[j]?=some t↔∃u,X[j]?=some u/\t=if i=j then f u else u:=by rw[List.getElem?_modify];cases X[j]?with|none=>simp|some u=>simp[eq_comm]
theorem pY{X:List dC}{f:dC->dC}{i:Nat}{t:dC}(h:t∈X.modify i f):∃u∈X,t=f u\/t=u:=by obtain⟨j,hj⟩:=List.getElem?_of_mem h;obtain⟨u,hu,e⟩:=fw.1 hj;refine⟨u,List.mem_of_getElem? hu,?_⟩;split at e;exact .inl e;exact .inr e
section
variable {X : List dC} {r : aI}
theorem og{i:Nat}{t:dC}(ht:X[i]?=some t)(day:Int):gq (X.modify i λt=>⟨t.dm,t.gone,day::t.days⟩) r↔gq X r\/∃x∈t.dm,r=⟨4,[],x,day,((i+1:Nat):Int)⟩:=by constructor;(·rintro⟨j,u,hu,hid,hk⟩;obtain⟨v,hv,e⟩:=fw.1 hu;by_cases an:i=j;(·subst an;rw[if_pos rfl]at e;rw[ht]at hv;(injection hv with hv);subst hv e;rcases hk with hk|hk|⟨a,b,c,d⟩|hk;exact .inl ⟨i,t,ht,hid,.inl hk⟩;exact .inl ⟨i,t,ht,hid,.inr (.inl hk)⟩;(·rcases List.mem_cons.1 d with d|d;exact .inr ⟨r.label,c,dD a b rfl d hid⟩;exact .inl ⟨i,t,ht,hid,.inr (.inr (.inl ⟨a,b,c,d⟩))⟩);exact .inl ⟨i,t,ht,hid,.inr (.inr (.inr hk))⟩);rw[if_neg an]at e;subst e;exact .inl ⟨j,u,hv,hid,hk⟩);·rintro(⟨j,u,hu,hid,hk⟩|⟨x,hx,rfl⟩);(·refine⟨j,_,fw.2 ⟨u,hu,rfl⟩,hid,?_⟩;split;(·rcases hk with hk|hk|⟨a,b,c,d⟩|hk;exact .inl hk;exact .inr (.inl hk);exact .inr (.inr (.inl ⟨a,b,c,List.mem_cons_of_mem _ d⟩));exact .inr (.inr (.inr hk)));exact hk);refine⟨i,_,fw.2 ⟨t,ht,rfl⟩,rfl,?_⟩;rw[if_pos rfl];exact .inr (.inr (.inl ⟨rfl,rfl,hx,List.mem_cons_self⟩))
theorem mq{i:Nat}{t:dC}(ht:X[i]?=some t):gq (X.modify i λt=>⟨t.dm,true,t.days⟩) r↔gq X r\/r=⟨5,[],eE,0,((i+1:Nat):Int)⟩:=by constructor;(·rintro⟨j,u,hu,hid,hk⟩;obtain⟨v,hv,e⟩:=fw.1 hu;by_cases an:i=j;(·subst an;rw[if_pos rfl]at e;rw[ht]at hv;(injection hv with hv);subst hv e;rcases hk with hk|hk|hk|⟨a,b,c,d,_⟩;exact .inl ⟨i,t,ht,hid,.inl hk⟩;exact .inl ⟨i,t,ht,hid,.inr (.inl hk)⟩;exact .inl ⟨i,t,ht,hid,.inr (.inr (.inl hk))⟩;exact .inr (dD a b c d hid));rw[if_neg an]at e;subst e;exact .inl ⟨j,u,hv,hid,hk⟩);·rintro(⟨j,u,hu,hid,hk⟩|rfl);(·refine⟨j,_,fw.2 ⟨u,hu,rfl⟩,hid,?_⟩;split;(·rcases hk with hk|hk|hk|⟨a,b,c,d,_⟩;exact .inl hk;exact .inr (.inl hk);exact .inr (.inr (.inl hk));exact .inr (.inr (.inr ⟨a,b,c,d,rfl⟩)));exact hk);refine⟨i,_,fw.2 ⟨t,ht,rfl⟩,rfl,?_⟩;rw[if_pos rfl];exact .inr (.inr (.inr ⟨rfl,rfl,rfl,rfl,rfl⟩))
theorem lF(c:List Lb)(day:Int):gq (X++[⟨c,false,[day]⟩]) r↔gq X r\/∃q∈ed c [day],r=rowOf c ((X.length+1:Nat):Int) q:=by(have hw:(∃q∈ed c [day],r=rowOf c ((X.length+1:Nat):Int) q)↔r=⟨1,c,eE,0,((X.length+1:Nat):Int)⟩\/r=⟨2,c,eE,0,((X.length+1:Nat):Int)⟩\/∃x∈c,r=⟨3,[],x,0,((X.length+1:Nat):Int)⟩\/r=⟨4,[],x,day,((X.length+1:Nat):Int)⟩:=by unfold ed;simp only[List.mem_append,List.mem_cons,List.not_mem_nil,or_false,List.mem_flatMap,lH,List.map_cons,List.map_nil];constructor;(·rintro⟨q,((rfl|rfl)|⟨x,hx,rfl|rfl⟩),rfl⟩;exact .inl rfl;exact .inr (.inl rfl);exact .inr (.inr ⟨x,hx,.inl rfl⟩);exact .inr (.inr ⟨x,hx,.inr rfl⟩));·rintro(rfl|rfl|⟨x,hx,rfl|rfl⟩);exact⟨_,.inl (.inl rfl),rfl⟩;exact⟨_,.inl (.inr rfl),rfl⟩;exact⟨_,.inr ⟨x,hx,.inl rfl⟩,rfl⟩;exact⟨_,.inr ⟨x,hx,.inr rfl⟩,rfl⟩);rw[hw];constructor;(·rintro⟨j,u,hu,hid,hk⟩;rcases Nat.lt_or_ge j X.length with hj|hj;rw[List.getElem?_append_left hj]at hu;exact .inl ⟨j,u,hu,hid,hk⟩;·rw[List.getElem?_append_right hj]at hu;(have eg:j-X.length=0:=by rcases Nat.eq_zero_or_pos (j-X.length)with h|h;exact h;rw[List.getElem?_eq_none zt]at hu;cases hu);(have b8:j=X.length:=by omega);rw[eg,List.getElem?_cons_zero]at hu;(injection hu with hu);subst hu b8;rcases hk with⟨a|a,b,c,d⟩|⟨a,b,c,d⟩|⟨a,b,c,d⟩|⟨a,b,c,d,g⟩;exact .inr (.inl (dD a b c d hid));exact .inr (.inr (.inl (dD a b c d hid)));exact .inr (.inr (.inr ⟨r.label,c,.inl (dD a b rfl d hid)⟩));exact .inr (.inr (.inr ⟨r.label,c,.inr (dD a b rfl (by simpa using d) hid)⟩));cases g);·(have hl:(X++[(⟨c,false,[day]⟩:dC)])[X.length]?=some ⟨c,false,[day]⟩:=by simp);rintro(⟨j,u,hu,hid,hk⟩|rfl|rfl|⟨x,hx,rfl|rfl⟩);exact⟨j,u,by rw[List.getElem?_append_left (List.getElem?_eq_some_iff.1 hu).1];exact hu,hid,hk⟩;exact⟨_,_,hl,rfl,.inl ⟨.inl rfl,rfl,rfl,rfl⟩⟩;exact⟨_,_,hl,rfl,.inl ⟨.inr rfl,rfl,rfl,rfl⟩⟩;exact⟨_,_,hl,rfl,.inr (.inl ⟨rfl,rfl,hx,rfl⟩)⟩;exact⟨_,_,hl,rfl,.inr (.inr (.inl ⟨rfl,rfl,hx,zs⟩))⟩
end
section
variable {s : af} {X : List dC} {l : List Lb} {day : Int}
theorem Inv.re(h:Inv s.all X)(hl:aV l)(he:X.findIdx? (λt=>decide (t.dm=ak l)&&!t.gone)=none):s.de l day=aM ahead (dz (ak l) ((X.length+1:Nat):Int) (ed (ak l) [day]))/\s.wK l=((X.length+1:Nat):Int):=by(have h0:s.eR l=0:=by rw[h.eR hl];unfold BX;rw[he]);unfold af.de af.wK;rw[if_pos h0,if_pos h0,h.next];exact⟨rfl,rfl⟩
theorem Inv.rG(h:Inv s.all X)(hl:aV l){i:Nat}(he:X.findIdx? (λt=>decide (t.dm=ak l)&&!t.gone)=some i):s.de l day=((ak l).map λx=>ar ⟨4,[],x,day,((i+1:Nat):Int)⟩)/\s.wK l=((i+1:Nat):Int):=by(have h0:s.eR l=((i+1:Nat):Int):=by rw[h.eR hl];unfold BX;rw[he]);unfold af.de af.wK;rw[if_neg zo,if_neg zo,h0];exact⟨rfl,rfl⟩
theorem pF{c:List Lb}{i:Int}{w:List RQ}{b:Item}:b∈dz c i w↔∃q∈w,ar (rowOf c i q)=b:=by unfold dz;rw[List.mem_map]
theorem Inv.nG(h:Inv s.all X)(hl:aV l):(s.de l day).length<=14:=by have h6:=hl.eH;have hs:=dQ l;cases he:X.findIdx? (λt=>decide (t.dm=ak l)&&!t.gone)with|none=>rw[(h.re hl he).1];refine Nat.le_trans (cZ rh _) ?_;unfold dz;rw[List.length_map,oI,hs];simp only[List.length_cons,List.length_nil];omega|some i=>rw[(h.rG hl he).1,List.length_map,hs];omega
theorem Inv.wB(_:Inv s.all X)(hf:X.length<1000)(hl:aV l)(h0:0<=day)(h1:day<=2147483647):∀q∈ed (ak l) [day],bA (rowOf (ak l) ((X.length+1:Nat):Int) q):=by have hs:=hl.sort;intro q hq;have hr:=(lF (X:=X) (r:=rowOf (ak l) ((X.length+1:Nat):Int) q) (ak l) day).2 (.inr ⟨q,hq,rfl⟩);obtain⟨j,u,hu,hid,hk⟩:=hr;unfold ed at hq;simp only[List.mem_append,List.mem_cons,List.not_mem_nil,or_false,List.mem_flatMap,lH,List.map_cons,List.map_nil]at hq;rcases hq with((rfl|rfl)|⟨x,hx,rfl|rfl⟩);exact F8.2 ⟨zo,zo,hs⟩;exact⟨by show(1:Int)<=((X.length+1:Nat):Int);omega,by show((X.length+1:Nat):Int)<=1073741824;omega,by simp[rowOf],by simp[rowOf],.inl ⟨.inr rfl,hs,rfl,rfl⟩⟩;exact⟨by show(1:Int)<=((X.length+1:Nat):Int);omega,by show((X.length+1:Nat):Int)<=1073741824;omega,by simp[rowOf],by simp[rowOf],.inr (.inl ⟨rfl,rfl,hs.ok x hx,rfl⟩)⟩;exact Fc (hs.ok x hx) zo zo h0 h1
theorem Inv.qB(h:Inv s.all X)(hf:X.length<1000)(hl:aV l)(h0:0<=day)(h1:day<=2147483647):∀b∈s.de l day,da b=false:=by have hs:=hl.sort;intro b hb;cases he:X.findIdx? (λt=>decide (t.dm=ak l)&&!t.gone)with|none=>(rw[(h.re hl he).1,aZ rh,pF]at hb;obtain⟨q,hq,rfl⟩:=hb;exact mI (h.wB hf hl h0 h1 q hq))|some i=>(have hi:=(List.getElem?_eq_some_iff.1 (kR he).choose_spec.1).1;rw[(h.rG hl he).1,List.mem_map]at hb;obtain⟨x,hx,rfl⟩:=hb;exact mI (Fc (hs.ok x hx) zo zo h0 h1))
theorem Inv.add(h:Inv s.all X)(hf:X.length<1000)(hl:aV l)(h0:0<=day)(h1:day<=2147483647)(hm:s.mem.length+14<=500):Inv (s.ez (s.de l day)).all (iA X (ak l) day):=by have hs:=hl.sort;have aj:=qx hl.vE;have b3:=h.nG (day:=day) hl;have bs:=wM (h.qB hf hl h0 h1) (s:=s) zo;unfold iA;cases he:X.findIdx? (λt=>decide (t.dm=ak l)&&!t.gone)with|none=>(have hw:=(h.re (day:=day) hl he).1;refine⟨λt ht=>?_,λt ht d hd=>?_,by simp;omega,λb=>?_,λi j t u ht hu ad cp bh=>?_⟩;(·rcases List.mem_append.1 ht with ht|ht;exact h.dm t ht;rw[List.mem_singleton.1 ht];exact⟨hs,aj⟩);(·rcases List.mem_append.1 ht with ht|ht;exact h.day t ht d hd;rw[List.mem_singleton.1 ht]at hd;rw[List.mem_singleton.1 hd];exact⟨h0,h1⟩);(·rw[bs,h.item,hw,aZ rh,pF];constructor;(·rintro(⟨r,hr,e⟩|⟨q,hq,e⟩);exact⟨r,(lF _ _).2 (.inl hr),e⟩;exact⟨_,(lF _ _).2 (.inr ⟨q,hq,rfl⟩),e⟩);·rintro⟨r,hr,e⟩;rcases(lF _ _).1 hr with hr|⟨q,hq,rfl⟩;exact .inl ⟨r,hr,e⟩;exact .inr ⟨q,hq,e⟩);·(have aa:∀(k:Nat)(v:dC),(X++[(⟨ak l,false,[day]⟩:dC)])[k]?=some v->X[k]?=some v\/(k=X.length/\v=⟨ak l,false,[day]⟩):=λk v hv=>by rcases Nat.lt_or_ge k X.length with hk|hk;rw[List.getElem?_append_left hk]at hv;exact .inl hv;rw[List.getElem?_append_right hk]at hv;(have cc:k-X.length=0:=by rcases Nat.eq_zero_or_pos (k-X.length)with g|g;exact g;rw[List.getElem?_eq_none zt]at hv;cases hv);rw[cc,List.getElem?_cons_zero]at hv;(injection hv with hv);exact .inr ⟨zo,hv.symm⟩);rcases aa i t ht with ht|⟨ei,et⟩<;>rcases aa j u hu with hu|⟨ej,eu⟩;exact h.live i j t u ht hu ad cp bh;rw[eu]at ad;have:=qO he (List.mem_of_getElem? ht) ad;rw[this]at cp;(cases cp);rw[et]at ad;have:=qO he (List.mem_of_getElem? hu) ad.symm;rw[this]at bh;(cases bh);omega)|some i=>(obtain⟨t0,ai,hc0,e8⟩:=kR he;have hw:=(h.rG (day:=day) hl he).1;refine⟨λt ht=>?_,λt ht d hd=>?_,by simp;exact h.eH,λb=>?_,λj k t u ht hu ad cp bh=>?_⟩;(·obtain⟨v,hv,e|e⟩:=pY ht;rw[e];exact h.dm v hv;rw[e];exact h.dm v hv);(·obtain⟨v,hv,e|e⟩:=pY ht;(·rw[e]at hd;rcases List.mem_cons.1 hd with rfl|hd;exact⟨h0,h1⟩;exact h.day v hv d hd);rw[e]at hd;exact h.day v hv d hd);(·rw[bs,h.item,hw,List.mem_map];constructor;(·rintro(⟨r,hr,e⟩|⟨x,hx,e⟩);exact⟨r,(og ai day).2 (.inl hr),e⟩;exact⟨_,(og ai day).2 (.inr ⟨x,by rw[hc0];exact hx,rfl⟩),e⟩);·rintro⟨r,hr,e⟩;rcases(og ai day).1 hr with hr|⟨x,hx,rfl⟩;exact .inl ⟨r,hr,e⟩;exact .inr ⟨x,by rw[<-hc0];exact hx,e⟩);obtain⟨v,hv,et⟩:=fw.1 ht;obtain⟨v2,ah,eu⟩:=fw.1 hu;(have f1:t.dm=v.dm/\t.gone=v.gone:=by rw[et];split<;>exact⟨rfl,rfl⟩);(have f2:u.dm=v2.dm/\u.gone=v2.gone:=by rw[eu];split<;>exact⟨rfl,rfl⟩);exact h.live j k v v2 hv ah (by rw[<-f1.1,<-f2.1];exact ad) (by rw[<-f1.2];exact cp) (by rw[<-f2.2];exact bh))
theorem Inv.drop(h:Inv s.all X){id:Int}{t:dC}(ht:lD X id=some t)(hm:s.mem.length+1<=500):Inv (s.ez [ar ⟨5,[],eE,0,id⟩]).all (lM X id):=by obtain⟨i,hi,rfl⟩:=bT.1 ht;have a6:=(List.getElem?_eq_some_iff.1 hi).1;have aa:=h.eH;have ai:da (ar ⟨5,[],eE,0,((i+1:Nat):Int)⟩)=false:=mI (sU.2 zo);have bs:=wM (l:=[ar ⟨5,[],eE,0,((i+1:Nat):Int)⟩]) (s:=s) (λx hx=>by rw[List.mem_singleton.1 hx];exact ai) (by simpa using hm);unfold lM;rw[show(((i+1:Nat):Int)-1).toNat=i from zo];refine⟨λt ht=>?_,λt ht d hd=>?_,by simp;exact h.eH,λb=>?_,λj k t u ht hu ad cp bh=>?_⟩;(·obtain⟨v,hv,e|e⟩:=pY ht;rw[e];exact h.dm v hv;rw[e];exact h.dm v hv);(·obtain⟨v,hv,e|e⟩:=pY ht;rw[e]at hd;exact h.day v hv d hd;rw[e]at hd;exact h.day v hv d hd);(·rw[bs,h.item,List.mem_singleton];constructor;(·rintro(⟨r,hr,e⟩|e);exact⟨r,(mq hi).2 (.inl hr),e⟩;exact⟨_,(mq hi).2 (.inr rfl),e.symm⟩);·rintro⟨r,hr,e⟩;rcases(mq hi).1 hr with hr|rfl;exact .inl ⟨r,hr,e⟩;exact .inr e.symm);obtain⟨v,hv,et⟩:=fw.1 ht;obtain⟨v2,ah,eu⟩:=fw.1 hu;(have f1:t.dm=v.dm/\v.gone=false:=by rw[et]at cp⊢;split at cp;(cases cp);rename_i a8;rw[if_neg a8];exact⟨rfl,cp⟩);(have f2:u.dm=v2.dm/\v2.gone=false:=by rw[eu]at bh⊢;split at bh;(cases bh);rename_i a8;rw[if_neg a8];exact⟨rfl,bh⟩);exact h.live j k v v2 hv ah (by rw[<-f1.1,<-f2.1];exact ad) f1.2 f2.2
theorem Inv.flush(h:Inv s.all X):Inv s.flush.1.all X:=by rw[Db];exact h
theorem Inv.merge(h:Inv s.all X)(a b:Int):Inv (s.merge a b).1.all X:=by rw[C5];exact h
end
end
end
end Go.Proofs.YtalmnodgjjcefaaGreatDoor
