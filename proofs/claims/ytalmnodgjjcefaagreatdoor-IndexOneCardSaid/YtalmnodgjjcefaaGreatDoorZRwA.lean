/- Several texts in one: RwPlain RwNum RwMay RwMake. -/
import Derived.Test.YtalmnodgjjcefaaGreatDoorZTk
import Derived.Test.YtalmnodgjjcefaaGreatDoorZLbD
import Derived.Test.YtalmnodgjjcefaaGreatDoorZLbA
import Derived.Test.YtalmnodgjjcefaaGreatDoorZLbC
import Derived.Test.YtalmnodgjjcefaaGreatDoorZItm
import Derived.Test.YtalmnodgjjcefaaGreatDoorZLow
set_option maxRecDepth 100000
namespace Go.Proofs.YtalmnodgjjcefaaGreatDoor
set_option maxRecDepth 100000
set_option maxHeartbeats 6400000
section
section
open Go.RowKit
def four(n:Nat):List UInt8:=[UInt8.ofNat (n/16777216),UInt8.ofNat (n/65536),UInt8.ofNat (n/256),UInt8.ofNat n]
theorem cd(n:Nat):(four n).length=4:=rfl
def num(b:List UInt8):Nat:=(b[0]?.getD 0).toNat*16777216+(b[1]?.getD 0).toNat*65536+(b[2]?.getD 0).toNat*256+(b[3]?.getD 0).toNat
theorem iS(n:Nat):(UInt8.ofNat n).toNat=n%256:=by simp
theorem fW(n:Nat)(r:List UInt8)(h:n<4294967296):num (four n++r)=n:=by simp only[four,num,List.cons_append,List.nil_append,List.getElem?_cons_zero,List.getElem?_cons_succ,Option.getD_some,iS];omega
theorem gT{n m:Nat}(hn:n<4294967296)(hm:m<4294967296)(h:four n=four m):n=m:=by have h1:=fW n [] hn;have h2:=fW m [] hm;rw[List.append_nil]at h1 h2;rw[<-h1,<-h2,h]
structure aI where
 kind:Int
 labels:List Lb
 label:Lb
 day:Int
 id:Int
def eE:Lb:=(⟨#[]⟩,⟨#[]⟩)
structure bA(r:aI):Prop where
 Bo:1<=r.id
 Bn:r.id<=1073741824
 DD:0<=r.day
 Dj:r.day<=2147483647
 kinds:((r.kind=1\/r.kind=2)/\aV r.labels/\r.label=eE/\r.day=0)\/(r.kind=3/\r.labels=[]/\lI r.label=true/\r.day=0)\/
  (r.kind=4/\r.labels=[]/\lI r.label=true)\/(r.kind=5/\r.labels=[]/\r.label=eE/\r.day=0)
def fH(x:Lb):List UInt8:=gY x.1.data.toList++gY x.2.data.toList
def ar(r:aI):List UInt8:=
 if r.kind=1 then[1]++bw (ak r.labels)++[0]++four r.id.toNat
 else if r.kind=2 then[2]++four r.id.toNat++bw (ak r.labels)
 else if r.kind=3 then[3]++fH r.label++four r.id.toNat
 else if r.kind=4 then[4]++four r.day.toNat++fH r.label++four r.id.toNat
 else[5]++four r.id.toNat
def eI(r:aI):aI:={r with labels:=ak r.labels}
theorem yY{r:aI}(h:bA r):bA (eI r):=by refine⟨h.Bo,h.Bn,h.DD,h.Dj,?_⟩;rcases h.kinds with⟨a,b,c,d⟩|⟨a,b,c,d⟩|⟨a,b,c⟩|⟨a,b,c,d⟩;exact .inl ⟨a,b.sort,c,d⟩;exact .inr (.inl ⟨a,by show ak r.labels=[];rw[b];rfl,c,d⟩);exact .inr (.inr (.inl ⟨a,by show ak r.labels=[];rw[b];rfl,c⟩));exact .inr (.inr (.inr ⟨a,by show ak r.labels=[];rw[b];rfl,c,d⟩))
theorem bA.Fe{r:aI}(h:bA r):ak (ak r.labels)=ak r.labels:=by rcases h.kinds with⟨a,b,c,d⟩|⟨a,b,c,d⟩|⟨a,b,c⟩|⟨a,b,c,d⟩;exact qx b.vE;rw[b];rfl;rw[b];rfl;rw[b];rfl
theorem lS{r:aI}(h:r.kind=1):ar r=[1]++bw (ak r.labels)++[0]++four r.id.toNat:=by unfold ar;rw[if_pos h]
theorem oX{r:aI}(h:r.kind=2):ar r=[2]++four r.id.toNat++bw (ak r.labels):=by unfold ar;rw[if_neg zo,if_pos h]
theorem nh{r:aI}(h:r.kind=3):ar r=[3]++fH r.label++four r.id.toNat:=by unfold ar;rw[if_neg zo,if_neg zo,if_pos h]
theorem tX{r:aI}(h:r.kind=4):ar r=[4]++four r.day.toNat++fH r.label++four r.id.toNat:=by unfold ar;rw[if_neg zo,if_neg zo,if_neg zo,if_pos h]
theorem tY{r:aI}(h:r.kind=5):ar r=[5]++four r.id.toNat:=by unfold ar;rw[if_neg zo,if_neg zo,if_neg zo,if_neg zo]
theorem yp{r:aI}(h:bA r):ar (eI r)=ar r:=by have:=h.Fe;unfold ar eI;simp only;rw[this]
theorem Lz{x:Lb}:aV [x]↔lI x=true:=by constructor;intro h;exact h.ok x zs;intro h;exact⟨zs,zs,by simpa using h,by simp[sH]⟩
theorem Fq{p:Prop}(h:p:=by exact⟨_,rfl,by decide,by decide⟩):p:=h
theorem iP{r:aI}(h:bA r):∃t,ar r=UInt8.ofNat r.kind.toNat::t/\1<=r.kind/\r.kind<=5:=by rcases h.kinds with⟨a|a,b,c,d⟩|⟨a,b,c,d⟩|⟨a,b,c⟩|⟨a,b,c,d⟩;rw[lS a,a];exact Fq;rw[oX a,a];exact Fq;rw[nh a,a];exact Fq;rw[tX a,a];exact Fq;rw[tY a,a];exact Fq
theorem dS:∀(m:List Lb),(∀x∈m,1<=x.1.size/\x.1.size<=12/\1<=x.2.size/\x.2.size<=16)->(bw m).length<=58*m.length/\(m≠[]->4<=(bw m).length)
 |[],_=>by simp[bw]
 |x::t,h=>by have h1:=h x zs;have h2:=(dS t λy hy=>h y (by simp[hy])).1;have e1:=ir x.1.data.toList;have e2:=ir x.2.data.toList;have g1:=jC x.1.data.toList;have g2:=jC x.2.data.toList;have l1:x.1.data.toList.length=x.1.size:=Array.length_toList;have l2:x.2.data.toList.length=x.2.size:=Array.length_toList;rw[qi,List.length_append,List.length_append,List.length_cons];refine⟨zo,λ_=>zo⟩
where
 jC (l:List UInt8):l.length+1<=(gY l).length:=by
  unfold gY
  rw[List.length_append]
  have h2:∀l:List UInt8,l.length<=(l.flatMap iB).length:=by
   intro l
   induction l with
   |nil=>simp
   |cons c t ih=>
    have:1<=(iB c).length:=by unfold iB;split<;>simp
    rw[List.flatMap_cons,List.length_append,List.length_cons];omega
  have:=h2 l
  rw[List.length_cons,List.length_nil];omega
theorem mK{x:Lb}(h:lI x=true):4<=(fH x).length/\(fH x).length<=58:=by have h1:=gK h;have e1:=ir x.1.data.toList;have e2:=ir x.2.data.toList;have g1:=dS.jC x.1.data.toList;have g2:=dS.jC x.2.data.toList;have l1:x.1.data.toList.length=x.1.size:=Array.length_toList;have l2:x.2.data.toList.length=x.2.size:=Array.length_toList;unfold fH;rw[List.length_append];omega
theorem aV.dS{l:List Lb}(h:aV l):4<=(bw (ak l)).length/\(bw (ak l)).length<=348:=by have h1:=Go.Proofs.YtalmnodgjjcefaaGreatDoor.dS (ak l) λx hx=>gK (h.sort.ok x hx);have h2:=h.sort.eH;have h3:=h.sort.some;have h4:=h1.2 (λe=>by rw[e]at h3;simp at h3);omega
theorem Dy{p:Prop}(h:p:=by simp only[List.length_append,List.length_cons,List.length_nil,cd];omega):p:=h
theorem kN{r:aI}(h:bA r):5<=(ar r).length/\(ar r).length<=354:=by rcases h.kinds with⟨e|e,b,c,d⟩|⟨a,b,c,d⟩|⟨a,b,c⟩|⟨a,b,c,d⟩;rw[lS e];have:=b.dS;exact Dy;rw[oX e];have:=b.dS;exact Dy;rw[nh a];have:=mK c;exact Dy;rw[tX a];have:=mK c;exact Dy;rw[tY a];simp[cd]
theorem Km{x y:Lb}(h1:x.1.data.toList=y.1.data.toList)(h2:x.2.data.toList=y.2.data.toList):x=y:=by(have e1:x.1=y.1:=by rw[<-dW x.1,<-dW y.1,h1]);(have e2:x.2=y.2:=by rw[<-dW x.2,<-dW y.2,h2]);exact Prod.ext e1 e2
theorem pC{s t p q:List UInt8}(h:gY s++p=gY t++q):s=t/\p=q:=by have h1:=jU s p;rw[h,jU t q]at h1;have e:s=t:=(Prod.ext_iff.1 h1).1.symm;subst e;exact⟨rfl,List.append_cancel_left h⟩
theorem iZ{x y:Lb}{p q:List UInt8}(h:fH x++p=fH y++q):x=y/\p=q:=by unfold fH at h;rw[List.append_assoc,List.append_assoc]at h;obtain⟨h1,h⟩:=pC h;obtain⟨h2,h⟩:=pC h;exact⟨Km h1 h2,h⟩
theorem Gn{r s:aI}(hr:bA r)(hs:bA s)(h:ar r=ar s):eI r=eI s:=by obtain⟨t,e,k1,k2⟩:=iP hr;obtain⟨u,f,g1,g2⟩:=iP hs;(have hk:r.kind=s.kind:=by rw[e,f]at h;have:=congrArg UInt8.toNat (List.cons_eq_cons.1 h).1;rw[iS,iS]at this;omega);clear e f t u;have cu:=hr.Bo;have cf:=hr.Bn;have bc:=hs.Bo;have b6:=hs.Bn;have ck:=hr.DD;have bb:=hr.Dj;have aa:=hs.DD;have cA:=hs.Dj;(have ext:r.day=s.day->r.id=s.id->ak r.labels=ak s.labels->r.label=s.label->eI r=eI s:=λh1 h2 h3 h4=>by unfold eI;rw[hk,h1,h2,h3,h4]);(rcases hr.kinds with⟨e|e,b,c,d1⟩|⟨a,b,c,d1⟩|⟨a,b,c⟩|⟨a,b,c,d1⟩<;>rcases hs.kinds with⟨e'|e',b',c',ad⟩|⟨a',b',c',ad⟩|⟨a',b',c'⟩|⟨a',b',c',ad⟩<;>try(exfalso;omega));rw[lS e,lS e']at h;(have h1:(bw (ak r.labels)++([0]:List UInt8)).length=(bw (ak s.labels)++([0]:List UInt8)).length:=by have:=congrArg List.length h;simp only[List.length_append,List.length_cons,List.length_nil,cd]at this⊢;omega);rw[List.append_assoc,List.append_assoc,List.append_assoc,List.append_assoc]at h;have h2:=List.append_cancel_left h;rw[<-List.append_assoc,<-List.append_assoc]at h2;obtain⟨h3,h4⟩:=List.append_inj h2 h1;have h5:=ov (List.append_inj' h3 rfl).1;have h6:=gT zo zo h4;exact ext zo zo h5 (c.trans c'.symm);rw[oX e,oX e']at h;rw[List.append_assoc,List.append_assoc]at h;obtain⟨h3,h4⟩:=List.append_inj (List.append_cancel_left h) rfl;have h5:=ov h4;have h6:=gT zo zo h3;exact ext zo zo h5 (c.trans c'.symm);rw[nh a,nh a']at h;rw[List.append_assoc,List.append_assoc]at h;obtain⟨h3,h4⟩:=iZ (List.append_cancel_left h);have h6:=gT zo zo h4;exact ext zo zo (by rw[b,b']) h3;rw[tX a,tX a']at h;rw[List.append_assoc,List.append_assoc,List.append_assoc,List.append_assoc]at h;obtain⟨h2,h⟩:=List.append_inj (List.append_cancel_left h) rfl;obtain⟨h3,h4⟩:=iZ h;have h5:=gT zo zo h2;have h6:=gT zo zo h4;exact ext zo zo (by rw[b,b']) h3;rw[tY a,tY a']at h;have h6:=gT zo zo (List.append_cancel_left h);exact ext zo zo (by rw[b,b']) (c.trans c'.symm)
def gV(b:List UInt8):Prop:=∀r,bA r->ar r≠b
end
section
open Go.RowKit
theorem yG(s:Nat)(t:TypeId)(w:World)(x1 x2 x3 x4:Int)(h1:x1=(s/16777216:Nat)%256)(h2:x2=(s/65536:Nat)%256)(h3:x3=(s/256:Nat)%256)(h4:x4=(s:Int)%256):
  ae (w.alloc (.cells #[.int .u8 x1,.int .u8 x2,.int .u8 x3,.int .u8 x4] t)) (w.1.size+1) (some ⟨w.1.size,0,none⟩) (bv (four s)):=
 dE w _ t _ (by subst h1;subst h2;subst h3;subst h4;simp[bv,four])
theorem fI(base:Nat)(v:Value)(l:List UInt8)(s:Nat)(w:World)(ah:aN w base v l)(aa:base<=w.1.size)(hs:s<4294967296)(hlen:l.length<=1099511627776):Calls Tryz.prog 91 #[v,.int .i64 s] w (sA w base v (l++four s)):=by(have cq:(s:Int)<4294967296:=by omega);clear hs;go_enter Tryz.func91,Tryz.ntmps91;go_wp2_with (at_builtin;refine aA rfl (.tmp 5) (.tmp 17) rfl base v l zr (ah.alloc _) (w.1.size+1) _ 4 _ (four s) zr rfl (yG s _ _ _ _ _ _ zo zo zo zo) (by simp[four];omega) zt ?_;intro v1 w1 an bk);go_ret;exact⟨v1,rfl,an,(Onto.gG _ _ _).trans bk⟩
def M7(w:World)(l:List UInt8)(e:Ending)(w':World):Prop:=∃v,e=.returned v/\aN w' w.1.size v l/\Below w.1.size w w'
theorem uC(w:World)(A1 A2 A3:Option Addr)(n1 n2 n3 c1 c2 c3:Nat)(l1 l2 l3:List UInt8)(h1:l1.length=n1)(h2:l2.length=n2)(h3:l3.length=n3)(hc1:n1<=c1)(bh:n2<=c2)(b4:n3<=c3)(bL:ae w w.1.size A1 (bv l1))(bW:ae w w.1.size A2 (bv l2))(cL:ae w w.1.size A3 (bv l3))(t:TypeId):bj (w.alloc (.cells #[.slice A1 n1 c1,.slice A2 n2 c2,.slice A3 n3 c3] t)) (w.alloc (.cells #[.slice A1 n1 c1,.slice A2 n2 c2,.slice A3 n3 c3] t)).1.size (some ⟨w.1.size,0,none⟩) [l1,l2,l3]:=by subst h1;subst h2;subst h3;refine⟨λi hi=>?_⟩;match i,hi with|0,_=>exact⟨_,A1,c1,rfl,zs,sd,hc1,(bL.alloc (Nat.le_refl _) _).more zs⟩|1,_=>exact⟨_,A2,c2,rfl,zs,sd,bh,(bW.alloc (Nat.le_refl _) _).more zs⟩|2,_=>exact⟨_,A3,c3,rfl,zs,sd,b4,(cL.alloc (Nat.le_refl _) _).more zs⟩
theorem B4(A:Option Addr)(n c:Nat)(l:List UInt8)(x1 x2:ByteArray)(hn:l.length=n)(bu:n<=c)(w:World)(hS:ae w w.1.size A (bv l))(hl:n<=1000000)(cj:x1.size<=400000)(b3:x2.size<=400000):Calls Tryz.prog 92 #[.slice A n c,.agg #[.string x1,.string x2]] w (M7 w (l++fH (x1,x2))):=by have HN:=Lib.hid hn;have a6:=λW=>Lib.hid (rV x1 W zo);have ai:=λW=>Lib.hid (rV x2 W zo);have cu:=ir x1.data.toList;have cw:=ir x2.data.toList;have l1:x1.data.toList.length=x1.size:=Array.length_toList;have l2:x2.data.toList.length=x2.size:=Array.length_toList;obtain⟨F,hF⟩:∃F,l++fH (x1,x2)=F:=⟨_,rfl⟩;rw[hF];unfold fH at hF;simp only at hF;obtain⟨X,hX⟩:∃X,gY x1.data.toList=X:=⟨_,rfl⟩;obtain⟨Y,hY⟩:∃Y,gY x2.data.toList=Y:=⟨_,rfl⟩;rw[hX]at a6 hF cu;rw[hY]at ai hF cw;(have cO:X.length<=1000000:=by omega);(have cx:Y.length<=1000000:=by omega);have HX:=Lib.hid cO;have HY:=Lib.hid cx;have HF:=Lib.hid hF;clear hn hF hX hY cu cw l1 l2 cj b3 cO cx;go_enter Tryz.func92,Tryz.ntmps92;go_wp2_with fail;(have f0:(w.alloc (.cells #[.string x1,.string x2] 83)).cell? ⟨w.1.size,0,none⟩=some (.string x1):=fM);(have f1:(w.alloc (.cells #[.string x1,.string x2] 83)).cell? ⟨w.1.size,1,none⟩=some (.string x2):=fM);have hW:Below w.1.size w (w.alloc (.cells #[.string x1,.string x2] 83)):=(Below.refl _ _).alloc (Nat.le_refl _) _;(have b8:w.1.size<(w.alloc (.cells #[.string x1,.string x2] 83)).1.size:=by simp);generalize w.alloc (.cells #[.string x1,.string x2] 83)=W1 at f0 f1 hW b8⊢;refine wp_region_noPanic ?_;refine wp_region_held_drew (S:=λw'=>w'.cell? ⟨w.1.size,0,none⟩=some (.string x1)/\w'.cell? ⟨w.1.size,1,none⟩=some (.string x2)) zk ?_ (λaa=>?_);exact⟨f0,f1⟩;refine aB 0 aa ?_;(try go_frame);refine aB 1 aa ?_;(try go_frame);refine aB 2 aa ?_;(try go_frame);refine aB 4 aa ?_;(try go_frame);refine aB 5 aa ?_;(try go_frame);refine wpAnyH_ready (rs:=[3]) zk zs ?_;refine AllReadyH.cons (cV rfl) (λK hK=>?_) AllReadyH.nil;go_simp;refine(a6 W1.drew).out.mono ?_;rintro en wa ⟨v1,rfl,an,bk⟩;have cn:Below W1.1.size W1 wa:=aW bk.aK;have er:=cn.size;obtain⟨Aa,ca,rfl,nj,-,-,aj⟩:=an.open_;go_wp2_with fail;refine hK.out _ _ ?_ ?_;exact⟨(cn.cell b8).trans f0,(cn.cell b8).trans f1⟩;clear hK K aa;intro aa;(try go_frame);refine wpAnyH_ready (rs:=[6]) zk zs ?_;refine AllReadyH.cons (cV rfl) (λK hK=>?_) AllReadyH.nil;go_simp;refine(ai wa).out.mono ?_;rintro en wb ⟨v2,rfl,ba,bb⟩;have bz:Below wa.1.size wa wb:=bb.aK;have cq:=bz.size;obtain⟨Ab,cb,rfl,aG,-,-,ah⟩:=ba.open_;go_wp2_with fail;refine hK.out _ _ ?_ ?_;exact⟨((cn.trans (bz.mono er)).cell b8).trans f0,((cn.trans (bz.mono er)).cell b8).trans f1⟩;clear hK K aa;intro aa;(try go_frame);refine wpAnyH_ready (rs:=[7]) zk zs ?_;refine AllReadyH.cons (cV rfl) (λK hK=>?_) AllReadyH.nil;have bn:Below W1.1.size W1 wb:=cn.trans (bz.mono er);have bf:Below wb.1.size wb (wb.alloc (.cells #[.slice A n c,.slice Aa X.length ca,.slice Ab Y.length cb] 48)):=(Below.refl _ wb).alloc (Nat.le_refl _) _;go_simp;go_wp2_with fail;refine hK.out _ _ ?_ ?_;exact⟨((bn.trans (bf.mono bn.size)).cell b8).trans f0,((bn.trans (bf.mono bn.size)).cell b8).trans f1⟩;clear hK K aa;intro aa;(try go_frame);refine wpAnyH_ready (rs:=[8]) zk zs ?_;refine AllReadyH.cons (cV rfl) (λK hK=>?_) AllReadyH.nil;have b9:=hW.trans (bn.mono hW.size);have h3:=uC wb A Aa Ab n X.length Y.length c ca cb l X Y HN.out rfl rfl bu nj aG ((hS.below b9).more b9.size) ((aj.below bz).more cq) ah 48;(have b7:∀i(hi:i<[l,X,Y].length),([l,X,Y][i]).length<=1000000:=by intro i hi;match i,hi with|0,_=>show l.length<=_;rw[HN.out];omega|1,_=>exact HX.out|2,_=>exact HY.out);have j0:=Lib.hid (mf (some ⟨wb.1.size,0,none⟩) 3 3 [l,X,Y] rfl _ h3 zo b7);rw[show[l,X,Y].flatten=l++(X++Y)from zs,HF.out]at j0;clear h3 b7;go_simp;refine j0.out.mono ?_;rintro en wc ⟨vc,rfl,ad,ck⟩;have bh:=ck.aK;go_wp2_with fail;refine hK.out _ _ ?_ ?_;exact⟨((bn.trans ((bf.trans (bh.mono bf.size)).mono bn.size)).cell b8).trans f0,((bn.trans ((bf.trans (bh.mono bf.size)).mono bn.size)).cell b8).trans f1⟩;clear hK K aa;intro aa;(try go_frame);refine aB 9 aa ?_;(try go_frame);refine wpAnyH_done zk ?_ _;refine NoPanic.normal ?_;go_wp2_with fail;go_ret;exact⟨vc,rfl,ad.aP (Nat.le_trans b9.size bf.size),b9.trans ((bf.trans (bh.mono bf.size)).mono b9.size)⟩
end
section
open Go.RowKit
theorem yF(w:World)(b:Nat)(hb:w.1.size=b)(ls:List Lb)(t:TypeId)(cs:Array Value)(h:cs=(lv ls).toArray):ae (w.alloc (.cells cs t)) (b+1) (some ⟨b,0,none⟩) (lv ls):=by subst hb;exact gD w ls t cs h
theorem Dv(x1 x2:ByteArray)(w:World)(h1:x1.size<=9223372036854775807):Calls Tryz.prog 135 #[.agg #[.string x1,.string x2]] w (cJ w (.bool (lI (x1,x2)))):=by obtain⟨o,ho⟩:∃o,lI (x1,x2)=o:=⟨_,rfl⟩;have hm:=Lz (x:=(x1,x2));rw[ho]at hm⊢;have HM:=Lib.hid hm;have hC:=λW A(hS:ae W W.1.size A (lv [(x1,x2)]))=>Lib.hid (fJ A 1 1 [(x1,x2)] rfl W hS zo (λx hx=>by simp at hx;subst hx;exact h1));clear ho hm h1;go_enter Tryz.func135,Tryz.ntmps135;go_wp2_with fail;have hb:Below w.1.size w ((w.alloc (.cells #[.string x1,.string x2] 83)).alloc (.cells #[.string x1,.string x2] 83)):=((Below.refl _ _).alloc (Nat.le_refl _) _).alloc zs _;refine(hC _ _ ((yF _ (w.1.size+1) zs [(x1,x2)] _ _ rfl).more zs)).out.mono ?_;rintro en w2 ⟨v,k,rfl,aG,bc⟩;have bf:Below w.1.size w w2:=hb.trans (aG.mono hb.size);clear hC hb aG;rcases bc with⟨ai,rfl,-⟩|⟨ai,rfl,-⟩;(·obtain rfl:o=true:=HM.out.1 ai;go_wp2;go_ret;exact⟨rfl,bf⟩);·have:¬o=true:=λe=>ai (HM.out.2 e);(obtain rfl:o=false:=by cases o;rfl;exact absurd rfl this);go_wp2;go_ret;exact⟨rfl,bf⟩
def o7(w:World)(r:aI)(e:Ending)(w':World):Prop:=∃b:Bool,(b=true↔bA r)/\e=.returned (.bool b)/\Below w.1.size w w'
theorem o7.no{w w':World}{r:aI}(h:¬bA r)(hb:Below w.1.size w w'):o7 w r (.returned (.bool false)) w':=⟨false,⟨λe=>absurd e zs,λe=>absurd e h⟩,rfl,hb⟩
def JL(x1 x2:ByteArray):Bool:=x1.toList==[]&&x2.toList==[]
theorem BP{α:Type}(x1 x2:ByteArray)(f:Bool->α):(if x1.toList=[]then if x2.toList=[]then f true else f false else f false)=f (JL x1 x2):=by unfold JL;by_cases h:x1.toList=[];(·by_cases h2:x2.toList=[];rw[if_pos h,if_pos h2,h,h2];rfl;rw[if_pos h,if_neg h2,beq_eq_false_iff_ne.2 h2,Bool.and_false]);rw[if_neg h,beq_eq_false_iff_ne.2 h,Bool.false_and]
def Ep(k d:Int)(ba bs o bn:Bool):Prop:=((k=1\/k=2)/\ba=true/\bn=true/\d=0)\/(k=3/\bs=false/\o=true/\d=0)\/(k=4/\bs=false/\o=true)\/(k=5/\bs=false/\bn=true/\d=0)
theorem F9{k d i:Int}{ls:List Lb}{x:Lb}{ba bs o bn:Bool}(cu:1<=i)(cf:i<=1073741824)(ck:0<=d)(bb:d<=2147483647)(ha:ba=true↔aV ls)(hs:bs=false↔ls=[])(ho:lI x=o)(hn:bn=true↔x=eE):bA ⟨k,ls,x,d,i⟩↔Ep k d ba bs o bn:=by unfold Ep;rw[ha,hs,<-ho,hn];exact⟨λh=>h.kinds,λh=>⟨cu,cf,ck,bb,h⟩⟩
theorem GV{x1 x2:ByteArray}:JL x1 x2=true↔(x1,x2)=eE:=by unfold JL eE;rw[Bool.and_eq_true,beq_iff_eq,beq_iff_eq];(have h:∀x:ByteArray,x.toList=[]↔x=⟨#[]⟩:=λx=>by constructor;intro h;apply dV;rw[h,Lib.toList_data];rintro rfl;rw[Lib.toList_data]);rw[h,h];constructor;rintro⟨rfl,rfl⟩;rfl;intro h;exact⟨(Prod.ext_iff.1 h).1,(Prod.ext_iff.1 h).2⟩
theorem kS{p:Prop}(h:p:=by go_ret;refine HF.out _ _ bm ?_;unfold Ep;simp;try omega):p:=h
theorem yb{p:Prop}(h:p:=by obtain rfl:d=0:=zo;(go_wp2;exact kS)):p:=h
theorem Gx(A:Option Addr)(n c:Nat)(ls:List Lb)(hn:ls.length=n)(k d i:Int)(x1 x2:ByteArray)(w:World)(hS:ae w w.1.size A (lv ls))(hlen:n<=1099511627776)(bd:∀x∈ls,x.1.size<=9223372036854775807)(h1:x1.size<=9223372036854775807):Calls Tryz.prog 89 #[.agg #[.int .i64 k,.slice A n c,.string x1,.string x2,.int .i64 d,.int .i64 i]] w (o7 w ⟨k,ls,(x1,x2),d,i⟩):=by obtain⟨W1,bN⟩:∃W1,w.alloc (.cells #[.int .i64 k,.slice A n c,.string x1,.string x2,.int .i64 d,.int .i64 i] 92)=W1:=⟨_,rfl⟩;have aj:Below w.1.size w W1:=bN▸(Below.refl _ _).alloc (Nat.le_refl _) _;(have ai:∀j,j<6->W1.cell? ⟨w.1.size,j,none⟩=#[.int .i64 k,.slice A n c,.string x1,.string x2,.int .i64 d,.int .i64 i][j]?:=λj hj=>by rw[<-bN,World.cell?_alloc_at _ _ _ _ rfl]);have c3:=ai 4 zo;have c4:=ai 5 zo;simp only[List.getElem?_toArray,List.getElem?_cons_zero,List.getElem?_cons_succ]at c3 c4;by_cases cu:i<1;(·go_enter Tryz.func89,Tryz.ntmps89;go_wp2;go_ret;exact o7.no (λh=>by have:=h.Bo;exact Ca) aj);by_cases cf:1073741824<i;(·go_enter Tryz.func89,Tryz.ntmps89;go_wp2;go_ret;exact o7.no (λh=>by have:=h.Bn;exact Ca) aj);by_cases ck:d<0;(·go_enter Tryz.func89,Tryz.ntmps89;go_wp2;go_ret;exact o7.no (λh=>by have:=h.DD;exact Ca) aj);by_cases bb:2147483647<d;(·go_enter Tryz.func89,Tryz.ntmps89;go_wp2;go_ret;exact o7.no (λh=>by have:=h.Dj;exact Ca) aj);(have bL:w.1.size<W1.1.size:=by rw[<-bN];simp);have hC:=Lib.hid (fJ A n c ls hn W1 ((hS.below aj).more aj.size) hlen bd);have hR:=λW=>Lib.hid (Dv x1 x2 W h1);have hN:=GV (x1:=x1) (x2:=x2);obtain⟨o,ho⟩:∃o,lI (x1,x2)=o:=⟨_,rfl⟩;rw[ho]at hR;have HO:=Lib.hid ho;have HN:=Lib.hid hn;have c0:=ai 0 zo;have c1:=ai 1 zo;have c2:=ai 2 zo;have b9:=ai 3 zo;simp only[List.getElem?_toArray,List.getElem?_cons_zero,List.getElem?_cons_succ]at c0 c1 c2 b9;clear hn ho ai;go_enter Tryz.func89,Tryz.ntmps89;go_wp2_with fail;refine hC.out.mono ?_;rintro en w2 ⟨v,kk,rfl,aG,bc⟩;replace c0:=(aG.cell bL).trans c0;replace c1:=(aG.cell bL).trans c1;replace c2:=(aG.cell bL).trans c2;replace b9:=(aG.cell bL).trans b9;replace c3:=(aG.cell bL).trans c3;replace c4:=(aG.cell bL).trans c4;have bW:w.1.size<w2.1.size:=Nat.lt_of_lt_of_le bL aG.size;clear hC bN;go_wp2_with fail;refine wp_region_noPanic ?_;refine wp_region_held_drew (S:=λw'=>w'.cell? ⟨w.1.size,1,none⟩=some (.slice A n c)/\w'.cell? ⟨w.1.size,2,none⟩=some (.string x1)/\w'.cell? ⟨w.1.size,3,none⟩=some (.string x2)) zk ?_ (λaa=>?_);exact⟨c1,c2,b9⟩;refine aB 0 aa ?_;(try go_frame);refine aB 1 aa ?_;(try go_frame);refine aB 2 aa ?_;(try go_frame);refine aB 3 aa ?_;(try go_frame);refine aB 4 aa ?_;(try go_frame);refine aB 5 aa ?_;(try go_frame);refine aB 6 aa ?_;(try go_frame);refine aB 7 aa ?_;(try go_frame);refine aB 9 aa ?_;(try go_frame);refine aB 10 aa ?_;(try go_frame);refine aB 11 aa ?_;(try go_frame);refine wpAnyH_take (i:=12) (oi:={dst:=some 45,op:=Op.binOp BinOp.eql 83 (Operand.tmp 43) (Operand.tmp 44) 83,type:=4,pos:= "rows.go:58",after:=#[{on:=10,ground:=Ground.data},{on:=11,ground:=Ground.data},{on:=15,ground:=Ground.gcOnly Departure.lateStores}],guard:=none}) (v:=.bool (JL x1 x2)) rfl zk zk zk (λ_ _ _ h=>h) (Or.inl ⟨by rfl,?_⟩) aa ?_;(·intro w' a7;(try dsimp only at a7);go_split_ands;go_simp;first|done|with_reducible rfl|exact BP x1 x2 (λb=>Result.ok (Next.value (.bool b)) w'));(try go_frame);refine wpAnyH_ready (rs:=[8]) zk zs ?_;refine AllReadyH.cons (cV rfl) (λK hK=>?_) AllReadyH.nil;go_simp;refine(hR w2.drew).out.mono ?_;rintro en w3 ⟨rfl,ad⟩;have bf:Below w2.1.size w2 w3:=aW ad;go_wp2_with fail;refine hK.out _ _ ?_ ?_;exact⟨(bf.cell bW).trans c1,(bf.cell bW).trans c2,(bf.cell bW).trans b9⟩;clear hK K aa;intro aa;(try go_frame);refine aB 13 aa ?_;(try go_frame);refine aB 14 aa ?_;(try go_frame);refine aB 15 aa ?_;(try go_frame);refine aB 16 aa ?_;(try go_frame);refine wpAnyH_done zk ?_ _;refine NoPanic.normal ?_;have bm:Below w.1.size w w3:=aj.trans ((aG.trans (bf.mono aG.size)).mono aj.size);(have cn:((kk:Int)==0)=true↔aV ls:=by rcases bc with⟨h,rfl,-⟩|⟨h,rfl,-⟩;exact⟨λ_=>h,λ_=>rfl⟩;exact⟨λe=>absurd e (by decide),λe=>absurd e h⟩);(have b7:decide (0<n)=false↔ls=[]:=by rw[decide_eq_false_iff_not,<-List.length_eq_zero_iff,HN.out];omega);have bo:=λk=>F9 (k:=k) cu cf ck bb cn b7 HO.out hN;replace c0:=(bf.cell bW).trans c0;replace c3:=(bf.cell bW).trans c3;clear bc cn b7 hN aG bf ad c1 c2 b9 c4;generalize((kk:Int)==0)=ba at bo⊢;generalize decide (0<n)=bs at bo⊢;generalize JL x1 x2=bn at bo⊢;have HF:Hid (∀(b:Bool)(W:World),Below w.1.size w W->(b=true↔Ep k d ba bs o bn)->o7 w ⟨k,ls,(x1,x2),d,i⟩ (.returned (.bool b)) W):=λb W hb he=>⟨b,he.trans (bo k).symm,rfl,hb⟩;clear bo;by_cases k1:k<=0;(·go_wp2;exact kS);by_cases k2:k<=1;(·(have cz:1<=k:=by omega);cases ba with|false=>(go_wp2;exact kS)|true=>cases bn with|false=>(go_wp2;exact kS)|true=>(by_cases d0:0<d;(case pos=>(go_wp2;exact kS));exact yb));by_cases k3:k<=2;(·(have cz:2<=k:=by omega);cases ba with|false=>(go_wp2;exact kS)|true=>cases bn with|false=>(go_wp2;exact kS)|true=>(by_cases d0:0<d;(case pos=>(go_wp2;exact kS));exact yb));by_cases k4:k<=3;(·(have cz:3<=k:=by omega);cases bs with|true=>(go_wp2;exact kS)|false=>cases o with|false=>(go_wp2;exact kS)|true=>(by_cases d0:0<d;(case pos=>(go_wp2;exact kS));exact yb));by_cases k5:k<=4;(·(have cz:4<=k:=by omega);cases bs with|true=>(go_wp2;exact kS)|false=>cases o with|false=>(go_wp2;exact kS)|true=>(go_wp2;exact kS));by_cases k6:k<=5;(·(obtain rfl:k=5:=by omega);cases bs with|true=>(go_wp2;exact kS)|false=>cases bn with|false=>(go_wp2;exact kS)|true=>(by_cases d0:0<d;(case pos=>(go_wp2;exact kS));exact yb));go_wp2;go_ret;refine HF.out _ _ bm ?_;unfold Ep;simp;try omega
end
section
open Go.RowKit
def lg(w:World)(r:aI)(e:Ending)(w':World):Prop:=
 ∃(v:Value)(k:Nat),e=.returned (.tuple #[v,.int .i64 k])/\Below w.1.size w w'/\((bA r/\k=0/\aN w' w.1.size v (ar r))\/(¬bA r/\k=120/\v=.slice none 0 0))
theorem bA.nat{r:aI}(h:bA r):∃i d:Nat,r.id=(i:Int)/\r.day=(d:Int)/\r.id.toNat=i/\r.day.toNat=d/\i<4294967296/\d<4294967296:=by have h1:=h.Bo;have h2:=h.Bn;have h3:=h.DD;have h4:=h.Dj;exact⟨r.id.toNat,r.day.toNat,zo,zo,rfl,rfl,zo,zo⟩
theorem eJ(w:World)(o:Obj):Below w.1.size w (w.alloc o):=(Below.refl _ w).alloc (Nat.le_refl _) _
theorem NY{p:Prop}(h:p:=by have:=bY.out;simp;omega):p:=h
theorem bS(A:Option Addr)(n c:Nat)(ls:List Lb)(hn:ls.length=n)(k d i:Int)(x1 x2:ByteArray)(w:World)(hS:ae w w.1.size A (lv ls))(hlen:n<=1099511627776)(bd:∀x∈ls,x.1.size<=9223372036854775807)(h1:x1.size<=9223372036854775807):
  Calls Tryz.prog 47 #[.agg #[.int .i64 k,.slice A n c,.string x1,.string x2,.int .i64 d,.int .i64 i]] w (lg w ⟨k,ls,(x1,x2),d,i⟩):=by
 obtain⟨W1,bN⟩:∃W1,w.alloc (.cells #[.int .i64 k,.slice A n c,.string x1,.string x2,.int .i64 d,.int .i64 i] 92)=W1:=⟨_,rfl⟩
 have aj:Below w.1.size w W1:=bN▸(Below.refl _ _).alloc (Nat.le_refl _) _
 have ai:∀j,j<6->W1.cell? ⟨w.1.size,j,none⟩=#[.int .i64 k,.slice A n c,.string x1,.string x2,.int .i64 d,.int .i64 i][j]?:=λj hj=>by
  rw[<-bN,World.cell?_alloc_at _ _ _ _ rfl]
 have c0:=ai 0 zo
 have c1:=ai 1 zo
 have c2:=ai 2 zo
 have b9:=ai 3 zo
 have c3:=ai 4 zo
 have c4:=ai 5 zo
 simp only[List.getElem?_toArray,List.getElem?_cons_zero,List.getElem?_cons_succ]at c0 c1 c2 b9 c3 c4
 have bL:w.1.size<W1.1.size:=by rw[<-bN];simp
 have hM:=Lib.hid (Gx A n c ls hn k d i x1 x2 W1 ((hS.below aj).more aj.size) hlen bd h1)
 have HN:=Lib.hid hn
 have cx:=Lib.hid bd
 clear ai hn bd
 go_enter Tryz.func47,Tryz.ntmps47
 go_wp2_with fail
 refine hM.out.mono ?_
 rintro en w2 ⟨b,hb,rfl,aG⟩
 clear hM
 cases b with
 |false=>
  have cB:Hid (¬bA ⟨k,ls,(x1,x2),d,i⟩):=λh=>absurd (hb.2 h) zs
  clear hb
  go_wp2_with fail
  go_ret2
  exact⟨_,120,rfl,aj.trans (aG.mono aj.size),.inr ⟨cB.out,rfl,rfl⟩⟩
 |true=>
  have bo:=hb.1 rfl
  clear hb
  have bW:=aG.size
  replace c0:=(aG.cell bL).trans c0
  replace c1:=(aG.cell bL).trans c1
  replace c2:=(aG.cell bL).trans c2
  replace b9:=(aG.cell bL).trans b9
  replace c3:=(aG.cell bL).trans c3
  replace c4:=(aG.cell bL).trans c4
  have a8:=aj.trans (aG.mono aj.size)
  have cv:=Lib.hid (wR A n c ls HN.out w2 ((hS.below a8).more a8.size) hlen cx.out)
  obtain⟨id,dn,hi,hd,cF,cO,b6,cA⟩:=bo.nat
  simp only at hi hd cF cO
  obtain rfl:=hi
  obtain rfl:=hd
  have a7:w.1.size<w2.1.size:=by omega
  have b8:=Lib.hid bo
  have cW:=Lib.hid bN
  clear bo bN aj aG cF cO
  go_wp2_with fail
  refine cv.out.mono ?_
  rintro en w3 ⟨v3,k3,rfl,bf,bc⟩
  clear cv
  have cL:=bf.size
  replace c0:=(bf.cell a7).trans c0
  replace c1:=(bf.cell a7).trans c1
  replace c2:=(bf.cell a7).trans c2
  replace b9:=(bf.cell a7).trans b9
  replace c3:=(bf.cell a7).trans c3
  replace c4:=(bf.cell a7).trans c4
  have bm:=a8.trans (bf.mono a8.size)
  have bb:=Lib.hid bc
  clear bc bf a8
  have aa:w.1.size<w3.1.size:=by omega
  have b5:∀(kb:UInt8)(x:Int),x=(kb.toNat:Int)->∃W4,w3.alloc (.cells #[.int .u8 x] 5)=W4/\aN W4 w3.1.size (.slice (some ⟨w3.1.size,0,none⟩) 1 1) [kb]/\Below w3.1.size w3 W4:=λkb x hx=>by
   subst hx
   exact⟨_,rfl,aN.new w3 w3.1.size (Nat.le_refl _) [kb] 1 rfl _ rfl (by simp[maxLen]),eJ w3 _⟩
  rcases b8.out.kinds with⟨hk|hk,bp,hx,cr⟩|⟨hk,hl,hx,cr⟩|⟨hk,hl,hx⟩|⟨hk,hl,hx,cr⟩
  ·simp only at hk bp hx cr
   obtain rfl:=hk
   rcases bb.out with⟨-,-,ah⟩|⟨bR,-,-⟩
   rotate_left
   ·exact absurd bp bR
   have cm:=bp.dS
   have hE:=lS (r:=⟨1,ls,(x1,x2),(dn:Int),(id:Int)⟩) rfl
   simp only[Int.toNat_natCast]at hE
   obtain⟨M,hM⟩:∃M,bw (ak ls)=M:=⟨_,rfl⟩
   rw[hM]at ah hE cm
   have HE:=Lib.hid hE
   obtain⟨A3,cz,rfl,b4,-,ba,be⟩:=ah.open_
   have bY:=Lib.hid cm
   clear hM cm hx cr bp bb hE
   obtain⟨W4,cN,a6,bh⟩:=b5 1 1 rfl
   have e0:=(bh.cell aa).trans c0
   have e2:=(bh.cell aa).trans c2
   have bF:=(bh.cell aa).trans b9
   have e3:=(bh.cell aa).trans c3
   have e4:=(bh.cell aa).trans c4
   have cu:=bh.size
   have an:Hid (∀(v:Value)(W:World),Below w3.1.size W4 W->aN W w3.1.size v (ar ⟨1,ls,(x1,x2),dn,id⟩)->lg w ⟨1,ls,(x1,x2),dn,id⟩ (.returned (.tuple #[v,.int .i64 0])) W):=λv W hb ho=>
    ⟨v,0,rfl,bm.trans ((bh.trans hb).mono (Nat.le_of_lt aa)),.inl ⟨b8.out,rfl,ho.aP (Nat.le_of_lt aa)⟩⟩
   have cy:=(be.below bh).more cu
   go_wp2_with (first
    |(at_builtin;refine aA rfl (.tmp 36) (.tmp 37) rfl w3.1.size (.slice (some ⟨w3.1.size,0,none⟩) 1 1) [1] zr a6 W4.1.size A3 M.length cz M zr rfl cy NY cu ?_;intro va wa b3 bn;have cn:Below w3.1.size W4 wa:=bn.below cu a6.block;have er:=cn.size;replace e4:=(cn.cell aa).trans e4)
    |(at_builtin;refine aA rfl (.tmp 38) (.tmp 39) rfl w3.1.size va ([1]++M) zr (b3.alloc _) (wa.1.size+1) _ 1 _ [0] zr rfl (dE _ [0] _ _ rfl) NY zt ?_;intro vb wb cb bs;have bz:Below w3.1.size wa wb:=((Below.refl _ wa).alloc zo _).trans (bs.below zt b3.block);have cq:=bz.size;replace e4:=(bz.cell aa).trans e4)
    |fail)
   refine(fI w3.1.size vb _ id wb cb zo b6 NY).mono ?_
   rintro en wc ⟨vc,rfl,ad,ck⟩
   go_wp2_with fail
   go_ret2
   exact an.out _ _ (cn.trans (bz.trans (ck.below zo cb.block))) (by rw[HE.out];exact ad)
  ·simp only at hk bp hx cr
   obtain rfl:=hk
   rcases bb.out with⟨-,-,ah⟩|⟨bR,-,-⟩
   rotate_left
   ·exact absurd bp bR
   have cm:=bp.dS
   have hE:=oX (r:=⟨2,ls,(x1,x2),(dn:Int),(id:Int)⟩) rfl
   simp only[Int.toNat_natCast]at hE
   obtain⟨M,hM⟩:∃M,bw (ak ls)=M:=⟨_,rfl⟩
   rw[hM]at ah hE cm
   have HE:=Lib.hid hE
   obtain⟨A3,cz,rfl,b4,-,ba,be⟩:=ah.open_
   have bY:=Lib.hid cm
   clear hM cm hx cr bp bb hE
   obtain⟨W4,cN,a6,bh⟩:=b5 2 2 rfl
   have e0:=(bh.cell aa).trans c0
   have e2:=(bh.cell aa).trans c2
   have bF:=(bh.cell aa).trans b9
   have e3:=(bh.cell aa).trans c3
   have e4:=(bh.cell aa).trans c4
   have cu:=bh.size
   have an:Hid (∀(v:Value)(W:World),Below w3.1.size W4 W->aN W w3.1.size v (ar ⟨2,ls,(x1,x2),dn,id⟩)->lg w ⟨2,ls,(x1,x2),dn,id⟩ (.returned (.tuple #[v,.int .i64 0])) W):=λv W hb ho=>
    ⟨v,0,rfl,bm.trans ((bh.trans hb).mono (Nat.le_of_lt aa)),.inl ⟨b8.out,rfl,ho.aP (Nat.le_of_lt aa)⟩⟩
   have cy:=(be.below bh).more cu
   go_wp2_with fail
   refine(fI w3.1.size _ _ id W4 a6 zo b6 zs).mono ?_
   rintro en wa ⟨va,rfl,b3,bn⟩
   have cn:Below w3.1.size W4 wa:=bn.below cu a6.block
   have er:=cn.size
   go_wp2_with (at_builtin;refine aA rfl (.tmp 33) (.tmp 34) rfl w3.1.size va _ zr b3 wa.1.size A3 M.length cz M zr rfl (((be.below bh).below cn).more zo) (by have:=bY.out;simp[cd];omega) zo ?_;intro vb wb cb bs)
   go_ret2
   exact an.out _ _ (cn.trans (bs.below zo b3.block)) (by rw[HE.out];exact cb)
  ·simp only at hk hl hx
   obtain rfl:=hk
   have b7:=mK hx
   have hE:=nh (r:=⟨3,ls,(x1,x2),(dn:Int),(id:Int)⟩) rfl
   simp only[Int.toNat_natCast]at hE
   obtain⟨cj,cc⟩:x1.size<=400000/\x2.size<=400000:=by have:=gK hx;exact Ca
   obtain⟨M,hM⟩:∃M,fH (x1,x2)=M:=⟨_,rfl⟩
   rw[hM]at hE b7
   have HE:=Lib.hid hE
   have bY:=Lib.hid b7
   have HT:=λA n c l hn bu W hS hl=>Lib.hid (B4 A n c l x1 x2 hn bu W hS hl cj cc)
   rw[hM]at HT
   clear hM b7 hx hl bb hE cj cc
   obtain⟨W4,cN,a6,bh⟩:=b5 3 3 rfl
   have e0:=(bh.cell aa).trans c0
   have e2:=(bh.cell aa).trans c2
   have bF:=(bh.cell aa).trans b9
   have e3:=(bh.cell aa).trans c3
   have e4:=(bh.cell aa).trans c4
   have cu:=bh.size
   have an:Hid (∀(v:Value)(W:World),Below w3.1.size W4 W->aN W w3.1.size v (ar ⟨3,ls,(x1,x2),dn,id⟩)->lg w ⟨3,ls,(x1,x2),dn,id⟩ (.returned (.tuple #[v,.int .i64 0])) W):=λv W hb ho=>
    ⟨v,0,rfl,bm.trans ((bh.trans hb).mono (Nat.le_of_lt aa)),.inl ⟨b8.out,rfl,ho.aP (Nat.le_of_lt aa)⟩⟩
   go_wp2_with fail
   refine(HT _ 1 1 [3] rfl (Nat.le_refl _) W4 (ae.fK a6) zo).out.mono ?_
   rintro en wa ⟨va,rfl,b3,bk⟩
   have cn:Below w3.1.size W4 wa:=bk.mono cu
   have er:=cn.size
   replace e4:=(cn.cell aa).trans e4
   go_wp2_with fail
   refine(fI w3.1.size va _ id wa (b3.aP cu) zo b6 NY).mono ?_
   rintro en wc ⟨vc,rfl,ad,ck⟩
   go_wp2_with fail
   go_ret2
   exact an.out _ _ (cn.trans (ck.below zo (b3.aP cu).block)) (by rw[HE.out];exact ad)
  ·simp only at hk hl hx
   obtain rfl:=hk
   have b7:=mK hx
   have hE:=tX (r:=⟨4,ls,(x1,x2),(dn:Int),(id:Int)⟩) rfl
   simp only[Int.toNat_natCast]at hE
   obtain⟨cj,cc⟩:x1.size<=400000/\x2.size<=400000:=by have:=gK hx;exact Ca
   obtain⟨M,hM⟩:∃M,fH (x1,x2)=M:=⟨_,rfl⟩
   rw[hM]at hE b7
   have HE:=Lib.hid hE
   have bY:=Lib.hid b7
   have HT:=λA n c l hn bu W hS hl=>Lib.hid (B4 A n c l x1 x2 hn bu W hS hl cj cc)
   rw[hM]at HT
   clear hM b7 hx hl bb hE cj cc
   obtain⟨W4,cN,a6,bh⟩:=b5 4 4 rfl
   have e0:=(bh.cell aa).trans c0
   have e2:=(bh.cell aa).trans c2
   have bF:=(bh.cell aa).trans b9
   have e3:=(bh.cell aa).trans c3
   have e4:=(bh.cell aa).trans c4
   have cu:=bh.size
   have an:Hid (∀(v:Value)(W:World),Below w3.1.size W4 W->aN W w3.1.size v (ar ⟨4,ls,(x1,x2),dn,id⟩)->lg w ⟨4,ls,(x1,x2),dn,id⟩ (.returned (.tuple #[v,.int .i64 0])) W):=λv W hb ho=>
    ⟨v,0,rfl,bm.trans ((bh.trans hb).mono (Nat.le_of_lt aa)),.inl ⟨b8.out,rfl,ho.aP (Nat.le_of_lt aa)⟩⟩
   go_wp2_with fail
   refine(fI w3.1.size _ _ dn W4 a6 zo cA zs).mono ?_
   rintro en w5 ⟨v5,rfl,cf,cw⟩
   have ca:Below w3.1.size W4 w5:=cw.below cu a6.block
   have cP:=ca.size
   replace e0:=(ca.cell aa).trans e0
   replace e2:=(ca.cell aa).trans e2
   replace bF:=(ca.cell aa).trans bF
   replace e4:=(ca.cell aa).trans e4
   obtain⟨A5,c5,rfl,cp,-,-,ei⟩:=cf.open_
   go_wp2_with fail
   refine(HT A5 _ c5 _ rfl cp w5 ei (by simp[cd])).out.mono ?_
   rintro en wa ⟨va,rfl,b3,bk⟩
   have cn:Below w3.1.size W4 wa:=ca.trans (bk.mono zo)
   have er:=cn.size
   replace e4:=(bk.cell (by show w.1.size<w5.1.size;omega)).trans e4
   go_wp2_with fail
   refine(fI w3.1.size va _ id wa (b3.aP zo) zo b6 (by have:=bY.out;simp[cd];omega)).mono ?_
   rintro en wc ⟨vc,rfl,ad,ck⟩
   go_wp2_with fail
   go_ret2
   exact an.out _ _ (cn.trans (ck.below zo (b3.aP zo).block)) (by rw[HE.out];exact ad)
  ·simp only at hk hl hx cr
   obtain rfl:=hk
   have hE:=tY (r:=⟨5,ls,(x1,x2),(dn:Int),(id:Int)⟩) rfl
   simp only[Int.toNat_natCast]at hE
   have HE:=Lib.hid hE
   clear hx hl bb hE cr
   obtain⟨W4,cN,a6,bh⟩:=b5 5 5 rfl
   have e0:=(bh.cell aa).trans c0
   have e2:=(bh.cell aa).trans c2
   have bF:=(bh.cell aa).trans b9
   have e3:=(bh.cell aa).trans c3
   have e4:=(bh.cell aa).trans c4
   have cu:=bh.size
   have an:Hid (∀(v:Value)(W:World),Below w3.1.size W4 W->aN W w3.1.size v (ar ⟨5,ls,(x1,x2),dn,id⟩)->lg w ⟨5,ls,(x1,x2),dn,id⟩ (.returned (.tuple #[v,.int .i64 0])) W):=λv W hb ho=>
    ⟨v,0,rfl,bm.trans ((bh.trans hb).mono (Nat.le_of_lt aa)),.inl ⟨b8.out,rfl,ho.aP (Nat.le_of_lt aa)⟩⟩
   go_wp2_with fail
   refine(fI w3.1.size _ _ id W4 a6 zo b6 zs).mono ?_
   rintro en wc ⟨vc,rfl,ad,ck⟩
   go_wp2_with fail
   go_ret2
   exact an.out _ _ (ck.below cu a6.block) (by rw[HE.out];exact ad)
end
end
end Go.Proofs.YtalmnodgjjcefaaGreatDoor
