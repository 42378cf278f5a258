/- An index's Names and Values, walked. -/
import Derived.Test.YtalmnodgjjcefaaGreatDoorZTgC
import Derived.Test.YtalmnodgjjcefaaGreatDoorZIxE
import Derived.Test.YtalmnodgjjcefaaGreatDoorZIxC
import Derived.Test.YtalmnodgjjcefaaGreatDoorZKmJ
import Derived.Test.YtalmnodgjjcefaaGreatDoorZRwE
import Derived.Test.YtalmnodgjjcefaaGreatDoorZTgA
import Derived.Test.YtalmnodgjjcefaaGreatDoorZIpB
set_option maxRecDepth 100000
namespace Go.Proofs.YtalmnodgjjcefaaGreatDoor
set_option maxRecDepth 100000
set_option maxHeartbeats 6400000
section
section
open Go.RowKit Go.Maps
structure wH(m:Nat->Prop)(w w':World)(P:Nat)(s':af)(A:Option Addr)(c:Nat)(b:List UInt8):Prop where
 cap:b.length<=c
 out:∃m',dK m' w' P s'/\ab m w w'/\(∀k,m' k->m k\/(w.1.size<=k/\k<w'.1.size))/\ag (λk=>w.1.size<=k/\k<w'.1.size/\¬m' k) w' A (bv b)
theorem wH.of{m:Nat->Prop}{w w':World}{P S:Nat}{s s':af}{A:Option Addr}{c:Nat}{b:List UInt8}(h:dK m w P s)(hS:av w P 87 (.pointer (some ⟨S,0,none⟩)))(hf:rO (λk=>m k/\k≠P) w w' S s' A c b):wH m w w' P s' A c b:=by(have aa:m P:=by obtain⟨_,_,h2,_⟩:=h.out;exact h2);have hh:=h.lt P aa;obtain⟨m',st,hb⟩:=hf.out;have hz:=st.turn.size;(have ad:∀k,m' k->k≠P:=λk e e2=>by rcases st.new k e with g|g;exact g.2 e2;omega);refine⟨hf.cap,λk=>m' k\/k=P,⟨⟨S,hS.turn st.turn λe=>e.2 rfl,.inr rfl,st.set.mono (λk e=>⟨.inl e,ad k e⟩) λk e=>e.1.elim (λg=>st.set.lt k g) λg=>absurd g e.2⟩,λk e=>?_⟩,st.turn.mono λk _ e=>e.1,λk e=>?_,hb.mono λk e=>⟨e.1,e.2.1,λg=>g.elim e.2.2 λg2=>zo⟩⟩;(·rcases e with g|g;exact st.set.lt k g;omega);·rcases e with g|g;exact(st.new k g).imp (λe=>e.1) id;exact .inl (g▸aa)
theorem wI{m:Nat->Prop}{w:World}{P:Nat}{s:af}(h:dK m w P s)(hF:aU s)(hH:bO w):Calls Tryz.prog 24 #[.pointer (some ⟨P,0,none⟩)] w λe w'=>∃A c,e=.returned (.tuple #[.slice A s.flush.2.1.length c,.bool s.flush.2.2])/\wH m w w' P s.flush.1 A c s.flush.2.1:=by obtain⟨S,h1,h2,h3⟩:=h.out;have hf:=Lib.hid (C7 _ w S s h3 hF hH);have HI:=Lib.hid h;have HB:=Lib.hid h1;have hc:=h1.cell;clear h h1 h2 h3 hF hH;go_enter Tryz.func24,Tryz.ntmps24;go_wp2_with fail;refine hf.out.mono ?_;rintro e w1 ⟨A,c,rfl,hs⟩;have HS:=Lib.hid (wH.of HI.out HB.out hs);clear hs hf;go_wp2;go_ret2;exact⟨A,c,rfl,HS.out⟩
def Gv(m:Nat->Prop)(w:World)(P:Nat)(s:af)(a b:Int)(e:Ending)(w':World):Prop:=
 ∃A n c er,e=.returned (.tuple #[.slice A n c,.int .i64 er])/\∃m',dK m' w' P (s.merge a b).1/\ab m w w'/\(∀k,m' k->m k\/(w.1.size<=k/\k<w'.1.size))
theorem vG{m:Nat->Prop}{w:World}{S:Nat}{s:af}(h:dy m w S s)(hF:aU s)(hH:bO w)(a b:Int):Calls Tryz.prog 73 #[.pointer (some ⟨S,0,none⟩),.int .i64 a,.int .i64 b] w λe w'=>∃A n c er,e=.returned (.tuple #[.slice A n c,.int .i64 er])/\∃m',ju m m' w w' S (s.merge a b).1:=by by_cases hm:ny s.fs.length a b=true;obtain⟨g1,g2,g3,g4⟩:=vu.1 hm;(have e1:(s.merge a b).1=⟨s.mem,s.fs.take a.toNat++s.join a.toNat b.toNat::s.fs.drop (a.toNat+b.toNat)⟩:=by unfold af.merge;rw[if_pos hm]);obtain⟨i,rfl⟩:∃i:Nat,a=i:=⟨a.toNat,zo⟩;obtain⟨k,rfl⟩:∃k:Nat,b=k:=⟨b.toNat,zo⟩;rw[e1];(exact(zx m w S s h hF hH i k zo zo).mono λe w' ⟨A,c,he,fs⟩=>by obtain⟨m',st,-⟩:=fs.out;exact⟨_,_,_,_,he,m',st⟩);(have e1:(s.merge a b).1=s:=by unfold af.merge;rw[if_neg hm]);rw[e1];exact(DI m w S s h hF a b (λe=>hm (vu.2 e))).mono λe w' ⟨he,hw⟩=>by subst hw;exact⟨_,_,_,_,he,m,h,ab.refl _ _,λk e=>.inl e⟩
theorem wT{m:Nat->Prop}{w:World}{P:Nat}{s:af}(h:dK m w P s)(hF:aU s)(hH:bO w)(a b:Int):Calls Tryz.prog 35 #[.pointer (some ⟨P,0,none⟩),.int .i64 a,.int .i64 b] w (Gv m w P s a b):=by obtain⟨S,h1,h2,h3⟩:=h.out;have hf:=Lib.hid (vG h3 hF hH a b);have HI:=Lib.hid h;have HB:=Lib.hid h1;have hc:=h1.cell;clear h h1 h2 h3 hF hH;go_enter Tryz.func35,Tryz.ntmps35;go_wp2_with fail;refine hf.out.mono ?_;rintro e w1 ⟨A,n,c,er,rfl,m',st⟩;have hF:=wH.of (A:=none) (c:=0) (b:=[]) HI.out HB.out ⟨Nat.le_refl _,m',st,⟨.inl rfl⟩⟩;obtain⟨m2,j1,j2,j3,-⟩:=hF.out;have HJ:=Lib.hid (show dK m2 w1 P (s.merge a b).1/\ab m w w1/\(∀k,m2 k->m k\/(w.1.size<=k/\k<w1.1.size))from⟨j1,j2,j3⟩);clear st hf hF j1 j2 j3;go_wp2;go_ret2;exact⟨A,n,c,er,rfl,m2,HJ.out⟩
section
variable {N : Nat} {m : Nat -> Prop} {w : World} {P : Nat} {s : af} {X : List dC}
theorem rD(h:Live N m w P s X)(hN:N<=900)(hH:bO w):Calls Tryz.prog 24 #[.pointer (some ⟨P,0,none⟩)] w λe w'=>∃A c,e=.returned (.tuple #[.slice A s.flush.2.1.length c,.bool s.flush.2.2])/\s.flush.2.1.length<=c/\∃m',Live N m' w' P s.flush.1 X/\ab m w w'/\(∀k,m' k->m k\/(w.1.size<=k/\k<w'.1.size))/\ag (λk=>w.1.size<=k/\k<w'.1.size/\¬m' k) w' A (bv s.flush.2.1):=(wI h.ix (h.fit hN) hH).mono λe w' ⟨A,c,he,hf⟩=>by obtain⟨m',j1,j2,j3,j4⟩:=hf.out;exact⟨A,c,he,hf.cap,m',⟨j1,h.ok.flush,by rw[yh];exact h.oe,h.inv.flush,h.eH⟩,j2,j3,j4⟩
theorem zG(h:Live N m w P s X)(hN:N<=900)(hH:bO w)(a b:Int):
  Calls Tryz.prog 35 #[.pointer (some ⟨P,0,none⟩),.int .i64 a,.int .i64 b] w λe w'=>∃A n c er,e=.returned (.tuple #[.slice A n c,.int .i64 er])/\∃m',Live N m' w' P (s.merge a b).1 X/\ab m w w'/\(∀k,m' k->m k\/(w.1.size<=k/\k<w'.1.size)):=
 (wT h.ix (h.fit hN) hH a b).mono λe w' ⟨A,n,c,er,he,m',j1,j2,j3⟩=>
  ⟨A,n,c,er,he,m',⟨j1,h.ok.merge (zu h.oe) a b,by have:=yq s a b;have:=h.oe;omega,h.inv.merge a b,h.eH⟩,j2,j3⟩
theorem Ek{p:Prop}(h:p:=by exact this.mono λe w' hA=>⟨hA.1,⟨hA.2.ix,h.ok,h.oe,h.inv,h.eH⟩,hA.2.turn⟩):p:=h
theorem oW(h:Live N m w P s X)(hN:N+1<=500)(id:Int)(ht:lD X id=none):Calls Tryz.prog 18 #[.pointer (some ⟨P,0,none⟩),.int .i64 id] w λe w'=>e=.returned (.int .i64 60)/\Live N m w' P s X/\ab m w w':=by have ai:=h.mem;(have hd:s.iD id=(s,60):=by unfold af.iD;rw[h.inv.dL,ht];rfl);have:=wm h.ix (h.fit zo) id zo (zu h.oe);rw[hd]at this;exact Ek
end
end
section
open Go.RowKit Go.Shelf
structure D3(w:World)(ob lo z:Nat)(s:Nat->Prop)(out:List Item)(W:World):Prop where
 sep:∀k,s k->lo<=k/\k<W.1.size
 below:Below w.1.size w W
 size:z<=W.1.size
 out:∃v q,av W ob 47 v/\cT q W (z+2) v out/\∀k,q k->z+2<=k/\k<W.1.size/\¬s k
section
variable {w A B : World} {ob lo z : Nat} {s s' T : Nat -> Prop} {out : List Item}
theorem D3.step(h:D3 w ob lo z s out A)(b9:ob<lo)(ba:lo<=z)(hw:w.1.size<=lo)(ht:ab T A B)(hT:∀k,T k->s k\/k=z\/k=z+1)(hs:∀k,s' k->s k\/(A.1.size<=k/\k<B.1.size)):D3 w ob lo z s' out B:=by obtain⟨v,q,h1,h2,h3⟩:=h.out;have hz:=ht.size;(have aj:∀k,T k->lo<=k:=λk e=>by rcases hT k e with e|e|e;exact(h.sep k e).1;omega;omega);(have aa:∀k,q k->¬T k:=λk e e2=>by have:=h3 k e;rcases hT k e2 with e3|e3|e3;exact this.2.2 e3;omega;omega);refine⟨λk e=>?_,h.below.trans (ht.below (λk e=>Nat.le_trans hw (aj k e)) h.below.size),Nat.le_trans h.size hz,v,q,h1.turn ht (λe=>by have:=aj _ e;omega),h2.keep (Kept.ay ht λk e=>⟨(h3 k e).2.1,aa k e⟩),λk e=>⟨(h3 k e).1,Nat.lt_of_lt_of_le (h3 k e).2.1 hz,λe2=>?_⟩⟩;(·rcases hs k e with e|e;exact⟨(h.sep k e).1,Nat.lt_of_lt_of_le (h.sep k e).2 hz⟩;have:=h.size;have:=h.below.size;have h4:=h.below;omega);·rcases hs k e2 with e2|e2;exact(h3 k e).2.2 e2;have:=(h3 k e).2.1;omega
end
end
section
open Go.RowKit Go.Shelf
attribute [local go_sem] Oper.semAt_some
theorem sinfo2:(Tryz.prog.info? 9).map (λi=>(i.zero,i.size,i.bytes))=some (some (.string ⟨#[]⟩),1,16):=by kernel_rfl
def sv(l:List Item):List Value:=l.map λt=>.string (strOf t)
def Ky(w:World)(l:List Item)(e:Ending)(w':World):Prop:=∃A c,e=.returned (.slice A l.length c)/\l.length<=c/\l.length<=6000/\ag (λk=>w.1.size<=k/\k<w'.1.size) w' A (sv l)/\Below w.1.size w w'
end
section
open Go.RowKit Go.Shelf
theorem Ky.fG{w w1 w':World}{l:List Item}{e:Ending}(hb:Below w.1.size w w1)(h:Ky w1 l e w'):Ky w l e w':=by obtain⟨A,c,he,hc,hl,hs,aG⟩:=h;exact⟨A,c,he,hc,hl,hs.mono λk e=>⟨Nat.le_trans hb.size e.1,e.2⟩,hb.trans (aG.mono hb.size)⟩
end
end
end Go.Proofs.YtalmnodgjjcefaaGreatDoor
