/- Several texts in one: LbCmp LbCmp2 LbCmp3 LbSort LbRow LbSortF. -/
import Derived.Test.YtalmnodgjjcefaaGreatDoorZLbA
import Derived.Test.YtalmnodgjjcefaaGreatDoorZIpA
import Derived.Shelf.SlSortCmp.WholeK
set_option maxRecDepth 100000
namespace Go.Proofs.YtalmnodgjjcefaaGreatDoor
set_option maxRecDepth 100000
set_option maxHeartbeats 400000
section
section
open Go.RowKit
def mC(x y:ByteArray):Int:=if Op.bytesLess x.toList y.toList=true then-1 else if(x.toList==y.toList)=true then 0 else 1
theorem BF{x y:ByteArray}(h:Op.bytesLess x.toList y.toList=true):mC x y=-1:=if_pos h
theorem BS{x y:ByteArray}(h:Op.bytesLess x.toList y.toList=false)(h2:(x.toList==y.toList)=true):mC x y=0:=by unfold mC;rw[h,if_neg zs,if_pos h2]
theorem Bm{x y:ByteArray}(h:Op.bytesLess x.toList y.toList=false)(h2:(x.toList==y.toList)=false):mC x y=1:=by unfold mC;rw[h,if_neg zs,h2,if_neg zs]
def Lk(w:World)(i:Int)(e:Ending)(w':World):Prop:=e=.returned (.int .i64 i)/\w=w'
theorem iY(x:ByteArray)(w:World):Calls Tryz.prog 131 #[.string x] w λe w'=>e=.returned (.bool false)/\w=w':=by go_enter Tryz.func131,Tryz.ntmps131;go_wp2;go_ret;exact⟨zs,rfl⟩
theorem rR{p:Prop}(h:p:=by go_enter Tryz.func86,Tryz.ntmps86;go_wp2_with fail;refine hx.mono ?_;rintro e w1 ⟨rfl,rfl⟩;go_wp2_with fail;refine hy.mono ?_;rintro e w1 ⟨rfl,rfl⟩;exact KN):p:=h
theorem qR(x y:ByteArray)(w:World):Calls Tryz.prog 86 #[.string x,.string y] w (Lk w (mC x y)):=by have hx:=iY x w;have hy:=iY y w;rcases hb:Op.bytesLess x.toList y.toList with _|_;(·rcases he:(x.toList==y.toList)with _|_;rw[Bm hb he];(have hn:(!(x.toList==y.toList))=true:=by rw[he];rfl);clear he;exact rR;rw[BS hb he];(have hn:(!(x.toList==y.toList))=false:=by rw[he];rfl);clear he;exact rR);rw[BF hb];exact rR
end
section
open Go.RowKit
theorem dV{a b:ByteArray}(h:a.toList=b.toList):a=b:=by apply ByteArray.ext;apply Array.toList_inj.1;rw[<-Lib.toList_data,<-Lib.toList_data];exact h
theorem cC(l:List UInt8):Op.bytesLess l l=false:=by induction l with|nil=>rfl|cons a t ih=>simp[Op.bytesLess,ih]
end
section
open Go.RowKit
def dA:List Lb->List Lb->Bool
 |x::a,y::b=>x.1.toList==y.1.toList&&x.2.toList==y.2.toList&&dA a b
 |[],[]=>true
 |_,_=>false
theorem pI(a:List Lb):dA a a=true:=by induction a with|nil=>rfl|cons x a ih=>unfold dA;rw[ih];simp
theorem kP:∀{a b:List Lb},dA a b=true->a=b
 |[],[],_=>rfl
 |(a1,a2)::a,(b1,b2)::b,h=>by unfold dA at h;simp only[Bool.and_eq_true,beq_iff_eq]at h;rw[dV h.1.1,dV h.1.2,kP h.2]
 |[],_::_,h=>by simp[dA]at h
 |_::_,[],h=>by simp[dA]at h
theorem ru:∀{a b:List Lb},a.length≠b.length->dA a b=false:=by intro a b h;cases hs:dA a b with|false=>rfl|true=>exact absurd (congrArg List.length (kP hs)) h
theorem DG{a b:List Lb}{k:Nat}(h:k<a.length)(h2:k<b.length):dA (a.drop k) (b.drop k)=(a[k].1.toList==b[k].1.toList&&a[k].2.toList==b[k].2.toList&&dA (a.drop (k+1)) (b.drop (k+1))):=by rw[List.drop_eq_getElem_cons h,List.drop_eq_getElem_cons h2];rfl
theorem sb{a b:List Lb}{k:Nat}(h:a.length<=k)(h2:b.length<=k):dA (a.drop k) (b.drop k)=true:=by rw[List.drop_eq_nil_of_le h,List.drop_eq_nil_of_le h2];rfl
def ji(w:World)(b:Bool)(e:Ending)(w':World):Prop:=e=.returned (.bool b)/\∃q,w'=w.drewN q
end
section
open Go.RowKit
theorem js:∀{a b c:List UInt8},Op.bytesLess a b=true->Op.bytesLess b c=true->Op.bytesLess a c=true
 |_,_,[],_,h=>by simp[Op.bytesLess]at h
 |_,[],_::_,h,_=>by simp[Op.bytesLess]at h
 |[],_::_,_::_,_,_=>rfl
 |x::a,y::b,z::c,h1,h2=>by simp only[Op.bytesLess,Bool.or_eq_true,Bool.and_eq_true,decide_eq_true_eq,beq_iff_eq]at*;rcases h1 with h1|⟨h1,ai⟩;(·rcases h2 with h2|⟨h2,ad⟩;exact .inl (UInt8.lt_trans h1 h2);exact .inl (h2▸h1));·rcases h2 with h2|⟨h2,ad⟩;exact .inl (h1▸h2);exact .inr ⟨h1.trans h2,js ai ad⟩
theorem l4:∀{a b:List UInt8},Op.bytesLess a b=false->Op.bytesLess b a=false->a=b
 |[],[],_,_=>rfl
 |[],_::_,h,_=>by simp[Op.bytesLess]at h
 |_::_,[],_,h=>by simp[Op.bytesLess]at h
 |x::a,y::b,h1,h2=>by simp only[Op.bytesLess,Bool.or_eq_false_iff,Bool.and_eq_false_iff,decide_eq_false_iff_not,beq_eq_false_iff_ne]at h1 h2;(have e:x=y:=by have a1:=h1.1;have a2:=h2.1;rw[UInt8.lt_iff_toNat_lt]at a1 a2;exact UInt8.toNat_inj.1 zo);subst e;have b1:=h1.2.resolve_left zs;have b2:=h2.2.resolve_left zs;rw[l4 b1 b2]
theorem mx{a b:List UInt8}(h:Op.bytesLess a b=true):Op.bytesLess b a=false:=by cases h2:Op.bytesLess b a with|false=>rfl|true=>have:=js h h2;rw[cC]at this;exact absurd this zs
def pR(x y:Lb):Bool:=Op.bytesLess x.1.toList y.1.toList
theorem qV(x:Lb):pR x x=false:=cC _
theorem lA{x y z:Lb}(h:pR x y=true)(h2:pR y z=true):pR x z=true:=js h h2
theorem oJ{x y:Lb}(h:pR x y=false)(h2:pR y x=false):x.1=y.1:=dV (l4 h h2)
theorem KR{x y:Lb}(h:pR x y=true):x.1≠y.1:=λe=>by unfold pR at h;rw[e,cC]at h;exact absurd h zs
theorem tB{x y:Lb}(h:pR x y=true):pR y x=false:=mx h
theorem rL{x y z:Lb}(h:pR x y=false)(h2:pR y z=false):pR x z=false:=by cases h3:pR x z with|false=>rfl|true=>(cases h4:pR y x with|true=>have:=lA h4 h3;rw[h2]at this;exact absurd this zs|false=>have e:=oJ h h4;unfold pR at*;rw[e]at h3;rw[h3]at h2;exact absurd h2 zs)
def yQ(x:Lb):List Lb->List Lb
 |[]=>[x]
 |y::t=>if pR x y=true then x::y::t else y::yQ x t
def ak:List Lb->List Lb
 |[]=>[]
 |x::t=>yQ x (ak t)
theorem oT(x:Lb):∀l,(yQ x l).Perm (x::l)
 |[]=>.refl _
 |y::t=>by unfold yQ;split;exact .refl _;exact((oT x t).cons y).trans (.swap x y t)
theorem eW:∀l,(ak l).Perm l
 |[]=>.refl _
 |x::t=>(oT x _).trans ((eW t).cons x)
def Up(l:List Lb):Prop:=l.Pairwise λx y=>pR x y=true
def oU(l:List Lb):Prop:=l.Pairwise λx y=>pR y x=false
def sH(l:List Lb):Prop:=l.Pairwise λx y=>x.1≠y.1
theorem td(x:Lb):∀l,oU l->oU (yQ x l)
 |[],_=>by simp[yQ,oU]
 |y::t,h=>by unfold oU at h;rw[List.pairwise_cons]at h;unfold yQ;split;(·rename_i hx;unfold oU;rw[List.pairwise_cons];refine⟨λz hz=>?_,List.pairwise_cons.2 h⟩;rcases List.mem_cons.1 hz with rfl|hz;exact tB hx;exact rL (h.1 z hz) (tB hx));·rename_i hx;rw[Bool.not_eq_true]at hx;unfold oU;rw[List.pairwise_cons];refine⟨λz hz=>?_,td x t h.2⟩;rcases List.mem_cons.1 ((oT x t).mem_iff.1 hz)with rfl|hz;exact hx;exact h.1 z hz
theorem rP:∀l,oU (ak l)
 |[]=>List.Pairwise.nil
 |x::t=>td x _ (rP t)
theorem sH.perm{l m:List Lb}(h:sH l)(p:m.Perm l):sH m:=(p.pairwise_iff (R:=λx y:Lb=>x.1≠y.1) (λh e=>h e.symm)).2 h
theorem Mr{l:List Lb}(hw:oU l)(hd:sH l):Up l:=by unfold Up oU sH at*;refine(List.pairwise_and_iff.2 ⟨hw,hd⟩).imp ?_;intro x y ⟨h1,h2⟩;cases h:pR x y with|true=>rfl|false=>exact absurd (oJ h h1) h2
theorem Up.vE{l:List Lb}(h:Up l):sH l:=h.imp λhx=>KR hx
theorem tE:∀{l m:List Lb},l.Perm m->Up l->Up m->l=m
 |[],m,p,_,_=>p.nil_eq
 |x::l,[],p,_,_=>absurd p.length_eq zs
 |x::l,y::m,p,hl,hm=>by unfold Up at hl hm;rw[List.pairwise_cons]at hl hm;(have e:x=y:=by rcases List.mem_cons.1 (p.mem_iff.1 (List.mem_cons_self))with h|h;exact h;·rcases List.mem_cons.1 (p.mem_iff.2 (List.mem_cons_self))with h2|h2;exact h2.symm;have:=lA (hl.1 y h2) (hm.1 x h);rw[qV]at this;exact absurd this zs);subst e;rw[tE p.cons_inv hl.2 hm.2]
theorem rU{l:List Lb}(h:sH l):Up (ak l):=Mr (rP l) (h.perm (eW l))
theorem qt:∀{l:List Lb},oU l->(∀i(h:i+1<l.length),l[i].1≠l[i+1].1)->Up l
 |[],_,_=>List.Pairwise.nil
 |[x],_,_=>by simp[Up]
 |x::y::t,hw,hn=>by have aa:=hw;unfold oU at hw;rw[List.pairwise_cons]at hw;have ih:=qt (l:=y::t) hw.2 (λi h=>by have:=hn (i+1) (by simpa using h);exact Ig);(have bc:pR x y=true:=by cases h:pR x y with|true=>rfl|false=>exact absurd (oJ h (hw.1 y zs)) (by have:=hn 0 zs;exact Ig));have ad:=ih;unfold Up at ih⊢;rw[List.pairwise_cons]at ih⊢;refine⟨λz hz=>?_,ad⟩;rcases List.mem_cons.1 hz with rfl|hz;exact bc;exact lA bc (ih.1 z hz)
def lI(x:Lb):Bool:=ig x.1&&decide (1<=x.2.size)&&decide (x.2.size<=16)
structure aV(l:List Lb):Prop where
 some:1<=l.length
 eH:l.length<=6
 ok:∀x∈l,lI x=true
 vE:sH l
theorem aV.perm{l m:List Lb}(h:aV l)(p:m.Perm l):aV m:=⟨by rw[p.length_eq];exact h.some,by rw[p.length_eq];exact h.eH,λx hx=>h.ok x (p.mem_iff.1 hx),h.vE.perm p⟩
theorem dQ(l:List Lb):(ak l).length=l.length:=(eW l).length_eq
theorem aV.sort{l:List Lb}(h:aV l):aV (ak l):=h.perm (eW l)
theorem lW{l m:List Lb}(p:m.Perm l)(h:Up m):ak l=m:=tE ((eW l).trans p.symm) (rU (h.vE.perm p.symm)) h
theorem qx{l:List Lb}(h:sH l):ak (ak l)=ak l:=lW (.refl _) (rU h)
end
section
open Go.RowKit
theorem CX(l m:List Lb):lv (l++m)=lv l++lv m:=by simp[lv]
theorem J2(l:List Lb):∀u∈lv l,u.oneCell'=true:=by intro u hu;simp only[lv,List.mem_flatMap,List.mem_cons,List.not_mem_nil,or_false]at hu;obtain⟨x,-,hu⟩:=hu;rcases hu with rfl|rfl<;>rfl
theorem Tryz.linfo:(Tryz.prog.info? 83).map (λi=>(i.zero,i.size,i.bytes))=some (some (.agg #[.string ⟨#[]⟩,.string ⟨#[]⟩]),2,32):=by kernel_rfl
theorem oY{o:Option TypeInfo}{z:Option Value}{s b:Nat}(h:o.map (λi=>(i.zero,i.size,i.bytes))=some (z,s,b)):∃i,o=some i/\i.zero=z/\i.size=s/\i.bytes=b:=by cases o with|none=>simp at h|some i=>simp only[Option.map_some,Option.some.injEq,Prod.mk.injEq]at h;exact⟨i,rfl,h.1,h.2.1,h.2.2⟩
def cS(w:World)(base:Nat)(v:Value)(ls:List Lb):Prop:=w.ownsRow base 83 2 v ls.length (lv ls)
theorem cS.nil(w:World)(base:Nat):cS w base (.slice none 0 0) []:=World.ownsRow_nil w base _ 2
theorem cS.open_{w:World}{base:Nat}{v:Value}{ls:List Lb}(h:cS w base v ls):∃A c,v=.slice A ls.length c/\ls.length<=c/\c<=maxLen/\ae w w.1.size A (lv ls):=vH h
theorem cS.below{w w':World}{base:Nat}{v:Value}{ls:List Lb}(h:cS w base v ls)(hb:Below w.1.size w w'):cS w' base v ls:=own_below h hb
theorem cS.alloc{w:World}{base:Nat}{v:Value}{ls:List Lb}(h:cS w base v ls)(o:Obj):cS (w.alloc o) base v ls:=World.ownsRow.alloc h o
theorem cS.aP{w:World}{base b:Nat}{v:Value}{ls:List Lb}(h:cS w base v ls)(hb:b<=base):cS w b v ls:=by refine⟨h.1,?_⟩;rcases h.2 with h|⟨g,cap,cur,rfl,hg,r⟩;exact .inl h;exact .inr ⟨g,cap,cur,rfl,Nat.le_trans hb hg,r⟩
theorem cS.block{w:World}{base:Nat}{v:Value}{ls:List Lb}(h:cS w base v ls):∀k,v.ownBlock=some k->base<=k:=Ch h
theorem cS.drewN{w:World}{base:Nat}{v:Value}{ls:List Lb}(h:cS w base v ls)(k:Nat):cS (w.drewN k) base v ls:=h
theorem cS.new(w:World)(base:Nat)(hb:base<=w.1.size)(ls:List Lb)(n:Nat)(hn:n=ls.length)(cs:Array Value)(h:cs=(lv ls).toArray)(hm:ls.length<=maxLen):cS (w.alloc (.cells cs 83)) base (.slice (some ⟨w.1.size,0,none⟩) n n) ls:=by subst hn;exact qc w base hb _ 2 _ _ (by rw[gB,Nat.mul_comm]) hm cs h
theorem gD(w:World)(ls:List Lb)(t:TypeId)(cs:Array Value)(h:cs=(lv ls).toArray):ae (w.alloc (.cells cs t)) (w.1.size+1) (some ⟨w.1.size,0,none⟩) (lv ls):=by subst h;refine⟨.inr ⟨_,rfl,zs,λj x hj=>?_⟩⟩;have:=World.cell?_alloc_at (w:=w) (lv ls).toArray t w.1.size j rfl;unfold Addr.add;by_cases h0:j=0;subst h0;rw[if_pos rfl,this];exact JA;rw[if_neg h0];simp only[Nat.zero_add];rw[this];exact JA
theorem eQ{w:World}{ops:Array Oper}{rest:List Oper}{o:Oper}{a:Act}{Q:Exit->Act->World->Prop}(aj:o.guard=none)(s x:Operand)(ho:o.op=.call {callee:=.builtin .append,args:=#[s,x],argTypes:=#[22,22]})(base:Nat)(v:Value)(l:List Lb)(hs:a.eval s=v)(ah:cS w base v l)(B:Nat)(A:Option Addr)(m c:Nat)(news:List Lb)(hx:a.eval x=.slice A m c)(hm:news.length=m)(a7:ae w B A (lv news))(a6:l.length+m<=1099511627776)(aa:base<=w.1.size)(h:∀v' w',cS w' base v' (l++news)->Onto w w' v v'->wpList Tryz.prog ops Q rest (a.put o.dst v') w'):wpList Tryz.prog ops Q (o::rest) a w:=by obtain⟨i0,bh,bR,bs,cb⟩:=oY Tryz.linfo;refine bE aj s x _ ho 83 i0 _ 2 32 Tryz.underlying22 bh bR bs cb rfl zo base v l.length (lv l) hs ah B A m c (lv news) hx (by rw[gB,hm,Nat.mul_comm]) a7 (J2 _) fB zo aa λv' w' h2 h3=>h v' w' ?_ h3;unfold cS;rw[CX,List.length_append,hm];exact h2
def Nl(w:World)(base:Nat)(v0:Value)(ls:List Lb)(e:Ending)(w':World):Prop:=∃v,e=.returned v/\cS w' base v ls/\Onto w w' v0 v
theorem zK(A:Option Addr)(n c:Nat)(l:List Lb)(hn:l.length=n)(w:World)(h:ae w w.1.size A (lv l))(hlen:l.length<=1099511627776):Calls Tryz.prog 83 #[.slice A n c] w (Nl w w.1.size (.slice none 0 0) l):=by subst hn;have he:=λ(W:World)(a:Option Addr)(n c:Nat)=>Lib.run_eql_slice_nil (P:=Tryz.prog) W 22 83 a n c 0 0 Tryz.underlying22;cases A with|none=>((have hn:l=[]:=by rcases h.out with h|⟨ad,h,_⟩;(·cases l with|nil=>rfl|cons x t=>simp[lv]at h);cases h);subst hn;go_enter Tryz.func83,Tryz.ntmps83;go_wp2;go_ret;exact⟨_,rfl,cS.nil _ _,Onto.refl _ _⟩)|some ad=>go_enter Tryz.func83,Tryz.ntmps83;go_wp2_with (at_builtin;refine eQ rfl (.tmp 5) (.tmp 6) rfl w.1.size (.slice (some ⟨w.1.size,0,none⟩) 0 0) [] zr (cS.new _ _ (Nat.le_refl _) [] 0 rfl _ rfl (by simp[maxLen])) w.1.size (some ad) l.length c l zr rfl (h.alloc (Nat.le_refl _) _) zt zs ?_;intro v1 w1 an bk);go_ret;exact⟨v1,rfl,an,(Onto.new _ _ _ _ _).trans bk⟩
end
section
open Go.RowKit Go.Shelf Go.Sort
def my(x:Lb):List Value:=[.string x.1,.string x.2]
theorem Ae(d:Array Lb):(flatK my 2 d).toList=lv d.toList:=by apply List.ext_getElem?;intro t;by_cases ht:t<d.size*2;(·have h1:=get_flatK my 2 d t ht;(have hs:t<(flatK my 2 d).size:=by rw[size_flatK];exact ht);rw[getElem!_pos _ t hs]at h1;obtain⟨q,hq⟩:∃q,t/2=q:=⟨_,rfl⟩;(have hk:q<d.size:=by omega);(have an:q<d.toList.length:=by rw[Array.length_toList];exact hk);have h2:=Gd d.toList q an;rw[hq,getElem!_pos d q hk]at h1;rw[List.getElem?_eq_getElem (by rw[Array.length_toList];exact hs),Array.getElem_toList,h1];rcases Nat.mod_two_eq_zero_or_one t with hm|hm;rw[hm];(have e:t=2*q:=by omega);subst e;rw[h2.1];simp[my];rw[hm];(have e:t=2*q+1:=by omega);subst e;rw[h2.2];simp[my]);rw[List.getElem?_eq_none (by rw[Array.length_toList,size_flatK];omega),List.getElem?_eq_none (by rw[gB,Array.length_toList];omega)]
theorem oa(x y:Lb):ltOf (λx y:Lb=>mC x.1 y.1) x y=pR x y:=by unfold ltOf pR;cases h:Op.bytesLess x.1.toList y.1.toList with|true=>show decide (mC x.1 y.1<0)=_;rw[BF h];rfl|false=>(cases h2:(x.1.toList==y.1.toList)with|true=>show decide (mC x.1 y.1<0)=_;rw[BS h h2];rfl|false=>show decide (mC x.1 y.1<0)=_;rw[Bm h h2];rfl)
theorem MO:SWO (ltOf λx y:Lb=>mC x.1 y.1) where
 irrefl x:=by rw[oa];exact qV x
 trans x y z h1 h2:=by rw[oa]at*;exact lA h1 h2
 ntrans x y z h1 h2:=by rw[oa]at*;exact rL h1 h2
theorem xe(x y:Lb)(W:World):Calls Tryz.prog 85 #[.agg #[.string x.1,.string x.2],.agg #[.string y.1,.string y.2]] W λe w'=>e=.returned (.int .i64 (mC x.1 y.1))/\∃q aa,w'=grow (W.drewN q) aa:=by have hC:∀W,Hid (Calls Tryz.prog 86 #[.string x.1,.string y.1] W _):=λW=>Lib.hid (qR x.1 y.1 W);generalize mC x.1 y.1=r at hC⊢;go_enter Tryz.func85,Tryz.ntmps85;go_wp2_with fail;refine(hC _).out.mono ?_;rintro e w1 ⟨rfl,rfl⟩;go_wp2;go_ret;exact⟨rfl,0,_,by rw[alloc_eq_grow,alloc_eq_grow,grow_grow];rfl⟩
theorem xT(w:World)(g m:Nat)(F:Array Value)(os:Array Obj)(k:Nat)(hk:k<w.1.size):(grow (putRow id (Sort.ahead w m) g 0 F) os).heap[k]?=if g=k then(w.heap[k]?).map (onCells (putCells id 0 F))else w.heap[k]?:=by show((w.heap.modify g (onCells (putCells id 0 F)))++os)[k]?=_;rw[Array.getElem?_append_left (by simpa using hk),Array.getElem?_modify]
theorem E9(w:World)(g m:Nat)(F:Array Value)(os:Array Obj):w.1.size<=(grow (putRow id (Sort.ahead w m) g 0 F) os).1.size:=by show _<=((w.heap.modify g (onCells (putCells id 0 F)))++os).size;simp
theorem CN(F cur:Array Value)(h:F.size<=cur.size):(putCells id 0 F cur).toList.take F.size=F.toList:=by apply List.ext_getElem?;intro t;by_cases ht:t<F.size;rw[List.getElem?_take,if_pos ht];(have hs:t<(putCells id 0 F cur).size:=by unfold putCells;simp;omega);rw[List.getElem?_eq_getElem (by rw[Array.length_toList];exact hs),List.getElem?_eq_getElem (by rw[Array.length_toList];exact ht),Array.getElem_toList,Array.getElem_toList];unfold putCells;rw[Array.getElem_mapIdx,if_pos ⟨Nat.zero_le _,zo⟩];simp[getElem!_pos,ht];rw[List.getElem?_eq_none J6,List.getElem?_eq_none (by rw[Array.length_toList];omega)]
theorem fu(base g cap:Nat)(n:Nat)(ls:List Lb)(hn:ls.length=n)(w:World)(ah:cS w base (.slice (some ⟨g,0,none⟩) n cap) ls)(hlen:n<=1099511627776):Calls Tryz.prog 84 #[.slice (some ⟨g,0,none⟩) n cap,.func (.func 85) #[] #[]] w λe w'=>e=.returned (.tuple #[])/\∃ad,ad.Perm ls/\oU ad/\cS w' base (.slice (some ⟨g,0,none⟩) n cap) ad/\Below g w w':=by have bz:=ah;rcases ah.2 with⟨h,_⟩|⟨g',ba,cur,he,cr,hh,bu,bL,bk,bn⟩;(cases h);(injection he with h1 h2 h3);(injection h1 with h1);(injection h1 with h1);subst h1;subst h3;(have bs:g<w.1.size:=by rcases Nat.lt_or_ge g w.1.size with h|h;exact h;rw[Array.getElem?_eq_none h]at hh;cases hh);(have bd:ls.toArray.size=n:=by simpa using hn);have hF:(flatK my 2 ls.toArray).toList=lv ls:=Ae ls.toArray;(have hH:HoldsK my 2 w g 0 ls.toArray:=by intro j hj;have aG:=hj;rw[size_flatK,bd]at aG;(have c7:j<cur.size:=by omega);constructor;unfold World.cell?;rw[hh];simp only[Nat.zero_add,Option.isSome_none,Bool.false_eq_true,if_false];(have e1:(lv ls)[j]?=(flatK my 2 ls.toArray)[j]?:=by rw[<-hF,Array.getElem?_toList]);rw[<-bn,List.getElem?_take,if_pos (by rw[hn];exact aG),Array.getElem?_toList]at e1;rw[e1,Array.getElem?_eq_getElem hj,getElem!_pos _ j hj];rfl;unfold World.frozen?;rw[hh];simp);have eg:∀args w,(callFunc 85 args).run Tryz.prog w=.ok (.enter 85 args) w:=enters_of Tryz.func85 zk rfl;have aa:=AnyQ.slices_SortFunc Tryz.sortLb 2 Tryz.isAgg83 Tryz.sizeOf83 my (λ_=>rfl) (λx v hv=>by simp[my]at hv;rcases hv with rfl|rfl<;>rfl) (λx y=>mC x.1 y.1) MO 85 #[] g 0 cap ls.toArray w eg (λ_ _ _ _ x y=>xe x y _) hH bs (by rw[bd];omega);change Calls Tryz.prog 84 _ _ _ at aa;rw[bd]at aa;refine aa.mono ?_;rintro e w' ⟨rfl,d',m,os,hp,hs,rfl⟩;obtain⟨ai,-,aj⟩:=hp;rw[bd]at ai;(have cn:d'.toList.Perm ls:=by(have e1:d'.extract 0 n=d':=by rw[<-ai];exact Array.extract_size);(have e2:ls.toArray.extract 0 n=ls.toArray:=by rw[<-bd];exact Array.extract_size);rw[e1,e2]at aj;exact aj);(have a6:(flatK my 2 d').size=n*2:=by rw[size_flatK,ai]);refine⟨rfl,d'.toList,cn,?_,⟨by rw[gB,Nat.mul_comm],.inr ⟨g,cap,putCells id 0 (flatK my 2 d') cur,?_,cr,?_,?_,bL,?_,?_⟩⟩,rfl,rfl,rfl,E9 _ _ _ _ _,?_⟩;refine List.pairwise_iff_getElem.2 λi j hi hj an=>?_;have:=hs i j (Nat.zero_le _) an (by rw[Array.length_toList,ai]at hj;exact hj);rw[Array.length_toList]at hi hj;rw[getElem!_pos d' i hi,getElem!_pos d' j hj,oa]at this;exact Ig;rw[cn.length_eq,hn];show(grow (putRow id (Sort.ahead w m) g 0 (flatK my 2 d')) os).heap[g]?=_;rw[xT w g m _ os g bs,if_pos rfl,hh];rfl;rw[cn.length_eq];exact bu;unfold putCells;rw[Array.size_mapIdx];exact bk;have:=CN (flatK my 2 d') cur (by rw[a6,bk];rw[hn]at bu;omega);rw[Ae,a6]at this;rw[cn.length_eq,hn];exact this;intro k hk;show(grow (putRow id (Sort.ahead w m) g 0 (flatK my 2 d')) os).heap[k]?=_;rw[xT w g m _ os k zo,if_neg zo]
end
end
end Go.Proofs.YtalmnodgjjcefaaGreatDoor
