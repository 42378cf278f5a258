/- The document's sets, by how many items they have: Flush, Merge. -/
import Derived.Test.YtalmnodgjjcefaaGreatDoorZWkA
set_option maxRecDepth 100000
set_option maxHeartbeats 3200000
namespace Go.Proofs.YtalmnodgjjcefaaGreatDoor
section
open Go.RowKit Go.Maps
def IW(k:IntKind)(w:World)(n:Nat)(e:Ending)(w':World):Prop:=(∃i:Nat,e=.returned (.int k (i:Int))/\i<=n)/\∃p,w'=w.drewN p
def Nq(w:World)(n:Nat)(e:Ending)(w':World):Prop:=∃v m,e=.returned v/\m<=n/\Co w.1.size 5 (al dB) w' v m/\Below w.1.size w w'
def M5(w:World)(e:Ending)(w':World):Prop:=(∃b,e=.returned (.bool b))/\Below w.1.size w w'
theorem rk(u:Nat)(hu:u<=100000000)(w:World):Calls Tryz.prog 166 #[.int .u64 u] w (Nq w (u+1)):=by go_enter Tryz.func166,Tryz.ntmps166;go_wp2;go_loopg [0,3] u (λg n b wr=>∃(k lo:Nat),k<=g/\n=.int .u64 k/\lo+k<=u/\Co w.1.size 5 (al dB) wr b lo/\Below w.1.size w wr);(case atStart=>exact⟨u,0,Nat.le_refl _,rfl,zo,.nil al.nil,Below.refl _ _⟩);case round=>obtain⟨k,lo,cY,rfl,cP,hl,hb⟩:=hrel;have b7:=hb.size;by_cases hc:128<=k;(·(have cW:IntKind.u64.wrap ((k:Int)/128)=(k:Int)/128:=by rw[IntKind.wrap_u64];omega);go_wp2_with (at_builtin;refine dh mr dB.one al.app rfl (.tmp 6) (.tmp 11) rfl rfl hl rfl rfl (al.one (dB.of zo zo)) zo b7 ?_;intro v1 w1 o1 b1);go_roundg (k/128);(case measure=>omega);case rel=>exact⟨k/128,lo+1,Nat.le_refl _,by go_num,zo,o1,hb.trans b1⟩);·go_wp2_with (at_builtin;refine dh mr dB.one al.app rfl (.tmp 15) (.tmp 18) rfl rfl hl rfl rfl (al.one (dB.of zo zo)) zo b7 ?_;intro v1 w1 o1 b1);go_ret;exact⟨v1,_,rfl,zo,o1,hb.trans b1⟩
theorem Jj{p:Prop}(h:p:=by ·go_wp2;go_quiet (fail);go_wp2;go_ret;exact⟨⟨k,rfl,zo⟩,_,World.drewN_drewN _ _ _⟩):p:=h
theorem Hy{q q2:Nat->Prop}(A B:Option Addr)(n c m d:Nat)(w:World)(h:Cs q (al dB) w A n)(h2:Cs q2 (al dB) w B m)(_:n<=1000000)(hm:m<=1000000):Calls Tryz.prog 221 #[.slice A n c,.slice B m d] w (IW .i64 w m):=by have HA:=Lib.hid h;have HB:=Lib.hid h2;clear h h2;go_enter Tryz.func221,Tryz.ntmps221;go_wp2;go_loopg [5] n (λg i wr=>∃k:Nat,k+g=n/\k<=m/\i=.int .i64 k/\∃p,wr=w.drewN p);(case atStart=>exact⟨0,zo,zo,rfl,0,rfl⟩);case round=>obtain⟨k,hk,bf,rfl,p,rfl⟩:=hrel;by_cases bz:k<n;(·by_cases bk:k<m;(·obtain⟨ad,x,rfl,-,hc1,x,rfl⟩:=HA.out.at_ bz;obtain⟨cb,y,rfl,-,bh,y,rfl⟩:=HB.out.at_ bk;(cases hb:((x.toNat:Int)==(y.toNat:Int)));(all_goals(go_wp2;go_quiet (fail);go_wp2));(·go_ret;exact⟨⟨k,rfl,zo⟩,_,World.drewN_drewN _ _ _⟩);·go_roundg (n-(k+1));(case measure=>omega);case rel=>exact⟨k+1,zo,zo,by go_num,_,rfl⟩);exact Jj);exact Jj
theorem Kw{q q2:Nat->Prop}{B:Nat}(A:Option Addr)(n c:Nat)(w:World)(h:Cs q (al (fO q2 B w)) w A n)(hn:n<=1000000):Calls Tryz.prog 219 #[.slice A n c] w (M5 w):=by have HA:=Lib.hid h;clear h;go_enter Tryz.func219,Tryz.ntmps219;go_wp2;go_loopg [3] n (λg i wr=>∃k:Nat,k+g=n+1/\1<=k/\i=.int .i64 k/\∃p,wr=w.drewN p);(case atStart=>exact⟨1,zo,zo,rfl,0,rfl⟩);case round=>obtain⟨k,hk,bm,rfl,p,rfl⟩:=hrel;by_cases a6:k<n;(·obtain⟨j,hj⟩:∃j,k-1=j:=⟨_,rfl⟩;(have cF:j<n:=by omega);obtain⟨ad,u,rfl,-,ai,y,A1,c1,rfl,-,-,s1⟩:=HA.out.at_ (k:=j) zo;obtain⟨cb,u,he,-,ah,z,A2,c2,rfl,-,-,s2⟩:=HA.out.at_ a6;(injection he with he);subst he;have an:=λp=>cK (w.drewN p) _ A1 y.length c1 y (s1.all.drewN p) rfl;have b9:=λp=>cK (w.drewN p) _ A2 z.length c2 z (s2.all.drewN p) rfl;(have bz:IntKind.i64.wrap ((k:Int)-1)=(j:Int):=gb);clear s1 s2 hj;(cases hb:Op.bytesLess (strOf y).toList (strOf z).toList);(all_goals(go_wp2;go_quiet (fail);go_wp2));(·go_ret;exact⟨⟨_,rfl⟩,ax (ax (Below.refl _ _) _) _⟩);·go_roundg (n-k);(case measure=>omega);case rel=>exact⟨k+1,zo,zo,by go_num,_,rfl⟩);·go_wp2;go_ret;exact⟨⟨_,rfl⟩,ax (Below.refl _ _) _⟩
theorem GC{q q2:Nat->Prop}(A:Option Addr)(n c:Nat)(w:World)(h:Cs q (al (fO q2 400 w)) w A n)(hn:n<=1000000):Calls Tryz.prog 220 #[.slice A n c] w (IW .i64 w 2):=by have HA:=Lib.hid h;clear h;go_enter Tryz.func220,Tryz.ntmps220;by_cases h8:8<n;(·go_wp2;go_ret;exact⟨⟨2,rfl,zo⟩,0,rfl⟩);go_wp2;go_loopg [3] n (λg i wr=>∃k:Nat,k+g=n/\i=.int .i64 k/\∃p,wr=w.drewN p);(case atStart=>exact⟨0,zo,rfl,0,rfl⟩);case round=>obtain⟨k,hk,rfl,p,rfl⟩:=hrel;by_cases a6:k<n;(·obtain⟨ad,u,rfl,-,ai,y,A1,c1,rfl,-,h4,s1⟩:=HA.out.at_ a6;have d4:decide ((400:Int)<(y.length:Int))=false:=decide_eq_false zo;by_cases h1:y.length<1;(·have d1:decide ((y.length:Int)<1)=true:=decide_eq_true zo;go_wp2;go_quiet (fail);go_wp2;go_ret;exact⟨⟨1,rfl,zo⟩,_,World.drewN_drewN _ _ _⟩);have d1:decide ((y.length:Int)<1)=false:=decide_eq_false zo;by_cases h0:k<=0;(·have d0:decide (0<k)=false:=decide_eq_false zo;go_wp2;go_quiet (fail);go_wp2;go_roundg (n-(k+1));(case measure=>omega);case rel=>exact⟨k+1,zo,by go_num,_,rfl⟩);obtain⟨j,hj⟩:∃j,k-1=j:=⟨_,rfl⟩;(have cF:j<n:=by omega);(have bm:(0:Int)<(k:Int):=by omega);obtain⟨cb,u,he,-,ah,z,A2,c2,rfl,-,-,s2⟩:=HA.out.at_ (k:=j) zo;(injection he with he);subst he;have an:=λp=>cK (w.drewN p) _ A1 y.length c1 y (s1.all.drewN p) rfl;have b9:=λp=>cK (w.drewN p) _ A2 z.length c2 z (s2.all.drewN p) rfl;(have bz:IntKind.i64.wrap ((k:Int)-1)=(j:Int):=gb);have d0:decide (0<k)=true:=decide_eq_true zo;clear s1 s2 hj;(cases hb:Op.bytesLess (strOf z).toList (strOf y).toList);(all_goals(go_wp2;go_quiet (fail);go_wp2));(·go_ret;exact⟨⟨1,rfl,zo⟩,_,World.drewN_drewN _ _ _⟩);·go_roundg (n-(k+1));(case measure=>omega);case rel=>exact⟨k+1,zo,by go_num,_,rfl⟩);·go_wp2;all_goals(go_ret;first|exact⟨⟨1,rfl,zo⟩,_,rfl⟩|exact⟨⟨0,rfl,zo⟩,_,rfl⟩)
end
section
open Go.RowKit Go.Maps
theorem Co.beside{w w':World}{b n:Nat}{e:TypeId}{S:List Value->Prop}{v v' x:Value}(h:Co b e S w x n)(bc:Onto w w' v v')(ha:bq v x):Co b e S w' x n/\bq v' x:=by obtain⟨xs,h1,h2⟩:=h;refine⟨⟨xs,World.ownsRow.kept h1 bc.grown ?_,h2⟩,λk hk=>?_⟩;(·cases hx:x.ownBlock with|none=>exact .inl rfl|some k=>exact .inr (λe=>ha k e.symm hx));·rcases bc.at_ with e|⟨g,e,hg⟩;exact ha k (e▸hk);intro hx;have:=(World.ownsRow.lt h1 k hx).2;rw[e]at hk;injection hk with hk;omega
theorem bq.of{w w':World}{b b' n m:Nat}{e e':TypeId}{S S':List Value->Prop}{v x:Value}(hv:Co b e S w v n)(hx:Co b' e' S' w' x m)(hb:w.1.size<=b'):bq v x:=λk hk e=>by obtain⟨xs,h1,-⟩:=hv;obtain⟨ys,g1,-⟩:=hx;have:=(World.ownsRow.lt h1 k hk).2;have:=(World.ownsRow.lt g1 k e).1;omega
def MI(w:World)(n:Nat)(e:Ending)(w':World):Prop:=∃v m er,e=.returned (.tuple #[v,.int .i64 er])/\m<=n/\Co w.1.size 5 (al dB) w' v m/\Below w.1.size w w'
theorem Li{q:Nat->Prop}(kind:Int)(h0:0<=kind)(h1:kind<=255)(A:Option Addr)(n c:Nat)(w:World)(h:Cs q (al dB) w A n)(hn:n<=500000000):
  Calls Tryz.prog 165 #[.int .i64 kind,.slice A n c] w (MI w (2*n+6)):=by
 have HC:=Lib.hid h
 clear h
 go_enter Tryz.func165,Tryz.ntmps165
 by_cases hl:65535<n
 ·go_wp2
  go_ret2
  exact⟨_,0,_,rfl,zo,.nil al.nil,Below.refl _ _⟩
 go_wp2_with fail
 refine(rk n zo _).mono ?_
 rintro e w1 ⟨v1,m1,rfl,bp,k1,aj⟩
 obtain⟨A1,c1,rfl,hc1,a7⟩:=k1.open_ (q:=λ_=>True) λ_ _=>trivial
 have o1:Co w.1.size 5 (al dB) w1 (.slice (some ⟨w.1.size,0,none⟩) 1 1) 1:=(Co.lit w [.int .u8 kind] (al.one (dB.of h0 zo)) _ (Nat.le_refl _) zs).az aj
 have b9:Below w.1.size w w1:=((Below.refl _ w).alloc (Nat.le_refl _) _).trans (aj.mono zs)
 have bs:=b9.size
 go_wp2_with (first
  |(at_builtin;refine bH mr dB.one al.app rfl (.tmp 19) (.tmp 23) rfl o1 ⟨_,_,rfl,a7⟩ zo bs ?_;intro v2 w2 o2 b2;have aG:=b9.trans b2;have cb:=aG.size)
  |(at_builtin;refine bH mr dB.one al.app rfl (.tmp 25) (.tmp 26) rfl o2 ⟨_,_,rfl,HC.out.az aG⟩ zo cb ?_;intro v3 w3 o3 b3))
 have bf:=aG.trans b3
 have cA:=bf.size
 obtain⟨A3,c3,rfl,b4,an⟩:=o3.open_ (q:=λ_=>True) λ_ _=>trivial
 refine(Ms A3 _ c3 w3 an zo).mono ?_
 rintro e w4 ⟨rfl,bb,bh⟩
 have ca:=bf.trans (bh.mono cA)
 have o4:=o3.az bh
 go_wp2_with (at_builtin;refine bH mr dB.one al.app rfl (.tmp 28) (.tmp 30) rfl o4 ⟨_,_,rfl,bb⟩ zo ca.size ?_;intro v5 w5 o5 b5)
 go_ret2
 exact⟨v5,_,_,rfl,zo,o5,ca.trans b5⟩
theorem fO.cs{q:Nat->Prop}{B:Nat}{w:World}{x:Value}(h:fO q B w x):∃A n c,x=.slice A n c/\n<=c/\n<=B/\Cs q (al dB) w A n:=by obtain⟨y,A,c,rfl,h1,h2,h3⟩:=h;exact⟨A,_,c,rfl,h1,h2,h3.ys⟩
theorem LZ{q q2:Nat->Prop}(A:Option Addr)(n c:Nat)(w:World)(h:Cs q (al (fO q2 400 w)) w A n)(hn:n<=8):
  Calls Tryz.prog 164 #[.slice A n c] w (MI w 10000):=by
 have hk:=Lib.hid (GC A n c w h zo)
 have HC:=Lib.hid h
 clear h
 go_enter Tryz.func164,Tryz.ntmps164
 go_wp2_with fail
 refine hk.out.mono ?_
 rintro e w1 ⟨⟨i,rfl,hi⟩,p,rfl⟩
 clear hk
 by_cases h0:i=0
 rotate_left
 ·have hz:((i:Int) !=0)=true:=iE
  go_wp2
  go_ret2
  exact⟨_,0,_,rfl,zo,.nil al.nil,ax (Below.refl _ _) _⟩
 subst h0
 go_wp2_with fail
 refine(rk n zo _).mono ?_
 rintro e w2 ⟨v2,m2,rfl,dc,o2,aG⟩
 have a8:=(ax (Below.refl w.1.size w) p).trans aG
 go_wp2
 go_loopg [5,6,7] n (λg o ah iv wr=>∃(k lo na ca:Nat)(Aa:Option Addr),k+g=n/\iv=.int .i64 k/\ah=.slice Aa na ca/\Co w.1.size 5 (al dB) wr o lo/\lo<=10+1210*k/\na<=400/\Cs q2 (al dB) w Aa na/\Below w.1.size w wr)
 case atStart=>exact⟨0,m2,0,0,none,zo,rfl,rfl,o2,zo,zo,.nil al.nil,a8⟩
 case round=>
  obtain⟨k,lo,na,ca,Aa,hk,rfl,rfl,an,ba,eu,bm,HB⟩:=hrel
  by_cases a6:k<n
  ·obtain⟨ad,x,rfl,bL,a7,hx⟩:=HC.out.at_ a6
   obtain⟨Ai,li,ci,rfl,ck,bR,bn⟩:=hx.cs
   have aa:=Lib.hid (λW(h:Below w.1.size w W)=>(h.cell mG).trans a7)
   have bs:=Lib.hid bn
   have aj:=Lib.hid bm
   have ai:=aa.out _ HB
   clear bn bm hx
   cases Ai
   all_goals go_wp2_with (first
    |(go_at_call 221;refine(Hy Aa _ na ca li ci _ (aj.out.az HB) (bs.out.az HB) zo zo).mono ?_;rintro e w3 ⟨⟨X,rfl,hX⟩,p3,rfl⟩;replace HB:=ax HB p3;replace an:=an.az (ax (Below.refl _ _) p3);have bz:IntKind.i64.wrap ((li:Int)-(X:Int))=((li-X:Nat):Int):=gb;have bF:X<=ci:=zo;by_cases l7:ci=X)
    |(go_at_call 166;refine(rk _ zo _).mono ?_;rintro e w4 ⟨v4,m4,rfl,ea,k4,bh⟩;obtain⟨A4,c4,rfl,hr,bb⟩:=k4.open_ (q:=λ_=>True) λ_ _=>trivial;have HB:=HB.trans (bh.mono HB.size);have an:=an.az bh;have ai:=aa.out _ HB)
    |(at_builtin;(first|refine bH mr dB.one al.app rfl (.tmp 30) (.tmp 33) rfl an ⟨_,_,rfl,bb⟩ zo HB.size ?_|refine bH mr dB.one al.app rfl (.tmp 35) (.tmp 44) rfl an ⟨_,_,rfl,bb⟩ zo HB.size ?_|refine bH mr dB.one al.app rfl (.tmp 46) (.tmp 52) rfl (m:=li-X) an ⟨_,_,rfl,(bs.out.az HB).drop X⟩ zo HB.size ?_|refine bH mr dB.one al.app rfl (.tmp 46) (.tmp 52) rfl (m:=li-X) an ⟨_,_,rfl,(by rw[show li-X=0 from zo];exact .nil (q:=λ_=>True) al.nil)⟩ zo HB.size ?_);intro v5 w5 an b5;have HB:=HB.trans b5;have ai:=aa.out _ HB))
   all_goals
    go_roundg (n-(k+1))
    case measure=>omega
    case rel=>exact⟨k+1,_,li,_,_,zo,by go_num,rfl,an,zo,bR,bs.out,HB⟩
  ·go_wp2
   go_ret2
   exact⟨_,lo,0,rfl,zo,an,HB⟩
theorem BO{p:Prop}(h:p:=by go_roundg (n-(k+1));(case measure=>omega);case rel=>exact⟨k+1,zo,by go_num,rfl⟩):p:=h
theorem Gb{q q2:Nat->Prop}(A:Option Addr)(n c:Nat)(w:World)(h:Cs q (al (fO q2 400 w)) w A n)(hn:n<=1000):Calls Tryz.prog 163 #[.slice A n c] w λe w'=>(∃i:Nat,e=.returned (.int .i64 (i:Int)))/\Below w.1.size w w':=by have hR:=Lib.hid (Kw A n c w h zo);have HC:=Lib.hid h;clear h;go_enter Tryz.func163,Tryz.ntmps163;go_wp2_with fail;refine hR.out.mono ?_;rintro e w1 ⟨⟨b,rfl⟩,aj⟩;clear hR;go_wp2;go_loopg [4] n (λg i wr=>∃k:Nat,k+g=n/\i=.int .i64 k/\wr=w1);(case atStart=>exact⟨0,zo,rfl,rfl⟩);case round=>obtain⟨k,hk,rfl,rfl⟩:=hrel;by_cases a6:k<n;(·obtain⟨ad,x,rfl,bL,a7,hx⟩:=HC.out.at_ a6;obtain⟨Ai,li,ci,rfl,-,bR,-⟩:=hx.cs;have ai:=(aj.cell mG).trans a7;by_cases h1:li<1;(·go_wp2;go_ret;exact⟨⟨1,rfl⟩,aj⟩);·(have h2:(li:Int)<=400:=by omega);go_wp2;exact BO);·(cases b);all_goals(go_wp2;all_goals(go_ret;first|exact⟨⟨1,rfl⟩,aj⟩|exact⟨⟨0,rfl⟩,aj⟩))
end
section
open Go.RowKit Go.Maps
def NK(w:World)(e:Ending)(w':World):Prop:=(∃x er,e=.returned (.tuple #[x,.int .i64 er]))/\Below w.1.size w w'
theorem Co.src{w:World}{b n:Nat}{e:TypeId}{S:List Value->Prop}{v:Value}(h:Co b e S w v n):∃A c,v=.slice A n c/\Cs (λ_=>True) S w A n:=
 let⟨A,c,h1,_,h2⟩:=h.open_ (q:=λ_=>True) λ_ _=>trivial
 ⟨A,c,h1,h2⟩
theorem EB{q q2:Nat->Prop}(A:Option Addr)(n c:Nat)(bu:n<=c)(w:World)(h:Cs q (al (fO q2 400 w)) w A n)(hn:n<=1000):
  Calls Tryz.prog 121 #[.slice A n c] w (NK w):=by
 have hk:=Lib.hid (Gb A n c w h hn)
 have HC:=Lib.hid h
 clear h
 go_enter Tryz.func121,Tryz.ntmps121
 go_wp2_with fail
 refine hk.out.mono ?_
 rintro e w1 ⟨⟨i,rfl⟩,aj⟩
 clear hk
 by_cases h0:i=0
 rotate_left
 ·have hz:((i:Int) !=0)=true:=iE
  go_wp2
  go_ret2
  exact⟨⟨_,_,rfl⟩,aj⟩
 subst h0
 go_wp2
 go_loopg [5,6,7,8] n (λg o x mv iv wr=>∃k m lo lx:Nat,n<=m+8*g/\Hid (m=8*k)/\m<=1008/\iv=.int .i64 m/\mv=.int .i64 k/\Co w.1.size 5 (al dB) wr o lo/\Co w.1.size 5 (al dB) wr x lx/\lo<=20100*k/\lx<=2600000*k/\bq x o/\Below w.1.size w wr)
 case atStart=>exact⟨0,0,0,0,zo,rfl,zo,rfl,rfl,.nil al.nil,.nil al.nil,zo,zo,bq.nil _,aj⟩
 case round=>
  obtain⟨k,m,lo,lx,hg,bk,bp,rfl,rfl,an,ah,ba,bc,AP,HB⟩:=hrel
  have b3:k<=126:=zu bk.out
  obtain⟨Ab,cb,rfl,-⟩:=an.src
  by_cases a6:m<n
  ·obtain⟨ad,x,rfl,bL,a7,hx⟩:=HC.out.at_ a6
   obtain⟨Ai,li,ci,rfl,ck,bR,bn⟩:=hx.cs
   obtain⟨te,bN⟩:∃te,min (m+8) n=te:=⟨_,rfl⟩
   have aa:=Lib.hid (λW(h:Below w.1.size w W)=>(h.cell mG).trans a7)
   have bs:=Lib.hid bn
   have df:=Lib.hid (λW(h:Below w.1.size w W)=>((((HC.out.drop m).take (k:=te-m) zo).az h).imp λxs hx x g=>(hx x g).az h:Cs q (al (fO q2 400 W)) W (some (ad.add m)) (te-m)))
   have ai:=aa.out _ HB
   have cx:(c=m)=False:=by simp;omega
   have bY:IntKind.i64.wrap ((m:Int)+8)=((m+8:Nat):Int):=gb
   obtain⟨m8,bf⟩:∃m8,m+8=m8:=⟨_,rfl⟩
   rw[bf]at bY bN
   have b9:(m:Int)<=(te:Int):=by omega
   have b6:(te:Int)<=(n:Int):=by omega
   have b8:te<=c:=by omega
   have b4:te-m<=8:=by omega
   have bd:min (m8:Int) (n:Int)=(te:Int):=by omega
   have bF:=Lib.hid bf
   have il:(m:Int)<(n:Int):=by omega
   clear bn hx a7 bN bf
   go_wp2_with (first
    |(go_at_call 164;refine(LZ _ (te-m) _ _ (df.out _ HB) b4).mono ?_;rintro e wa ⟨vp,lp,ep,rfl,ev,kp,cn⟩;obtain⟨Ap,cp,rfl,b5⟩:=kp.src;have an:=an.az cn;have ah:=ah.az cn;have HB:=HB.trans (cn.mono HB.size);have ai:=aa.out _ HB)
    |(go_at_call 165;refine(Li 1 zo zo Ap lp cp _ b5 zo).mono ?_;rintro e wf ⟨vf,lf,ef,rfl,e3,FR,bm⟩;have AF:=bq.of ah FR (Nat.le_refl _);obtain⟨Af,cf,rfl,-⟩:=FR.src;have an:=an.az bm;have ah:=ah.az bm;have HB:=HB.trans (bm.mono HB.size);have ai:=aa.out _ HB)
    |(go_at_call 166;refine(rk _ zo _).mono ?_;rintro e wy ⟨vy,ly,rfl,bW,ky,aG⟩;obtain⟨Ay,cy,rfl,bb⟩:=ky.src;have FR:=FR.az aG;have an:=an.az aG;have ah:=ah.az aG;have HB:=HB.trans (aG.mono HB.size);have ai:=aa.out _ HB)
    |(at_builtin;(first|refine bQ mr dB.one al.app rfl (.tmp 47) (.tmp 51) rfl ah ⟨_,_,rfl,bb⟩ zo HB.size ?_|refine bQ mr dB.one al.app rfl (.tmp 53) (.tmp 60) rfl ah ⟨_,_,rfl,bb⟩ zo HB.size ?_|refine bQ mr dB.one al.app rfl (.tmp 62) (.tmp 66) rfl ah ⟨_,_,rfl,bs.out.az HB⟩ zo HB.size ?_);intro vx wx ah bx ox;obtain⟨an,AP⟩:=an.beside ox AP;obtain⟨FR,AF⟩:=FR.beside ox AF;have HB:=HB.trans bx;have ai:=aa.out _ HB)
    |(at_builtin;refine bQ mr dB.one al.app rfl (.tmp 68) (.tmp 69) rfl an FR.src zo HB.size ?_;intro vo wo an bo oo;obtain⟨ah,AP⟩:=ah.beside oo AP.symm;have HB:=HB.trans bo))
   go_roundg (gk-1)
   case measure=>omega
   case rel=>exact⟨k+1,m8,_,_,by have:=bF.out;omega,by unfold Hid;have:=bF.out;have:=bk.out;omega,by have:=bF.out;omega,by go_num,by go_num,an,ah,zo,zo,AP.symm,HB⟩
  ·have be:=HB.size
   go_wp2_with (first
    |(go_at_call 166;refine(rk k zo _).mono ?_;rintro e wy ⟨vy,ly,rfl,bW,HD,aG⟩;have AH:=(bq.of an HD (Nat.le_refl _)).symm;have AI:=(bq.of ah HD (Nat.le_refl _)).symm;have an:=an.az aG;have ah:=ah.az aG;have HB:=HB.trans (aG.mono HB.size);have a8:=aG.size)
    |(at_builtin;refine bQ mr dB.one al.app rfl (.tmp 78) (.tmp 79) rfl HD ah.src zo a8 ?_;intro vh wh HD bh oh;obtain⟨an,AH⟩:=an.beside oh AH;have HB:=HB.trans (bh.mono be);obtain⟨Ah,ch,rfl,b7⟩:=HD.src)
    |(go_at_call 165;refine(Li 2 zo zo Ah _ ch _ b7 zo).mono ?_;rintro e wf ⟨vf,lf,ef,rfl,e3,FR,bm⟩;obtain⟨Af,cf,rfl,-⟩:=FR.src;have an:=an.az bm;have HB:=HB.trans (bm.mono HB.size);cases ca:ef !=0)
    |(at_builtin;refine bQ mr dB.one al.app rfl (.tmp 88) (.tmp 89) rfl an FR.src zo HB.size ?_;intro vo wo an bo _;have HB:=HB.trans bo)
    |(at_builtin;refine dh mr dB.one al.app rfl (.tmp 91) (.tmp 106) rfl rfl an rfl rfl (by intro x hx;simp only[List.mem_cons,List.not_mem_nil,or_false]at hx;rcases hx with rfl|rfl|rfl|rfl<;>first|exact dB.wrap _|exact dB.of zo zo) zo HB.size ?_;intro vz wz _ bz;have HB:=HB.trans bz))
   all_goals
    go_ret2
    exact⟨⟨_,_,rfl⟩,HB⟩
end
section
open Go.RowKit Go.Maps
def NP(q:Nat->Prop)(M:Nat)(w:World)(e:Ending)(w':World):Prop:=∃v' x b,e=.returned (.tuple #[v',x,.bool b])/\WS q M w' v'/\Below w.1.size w w'
theorem IE{p:Prop}(h:p:=by simp[results,Tryz.results76,go_sem,z0,z1]):p:=h
theorem J3{q:Nat->Prop}{M:Nat}{w:World}{v:Value}(h:WS q M w v)(hq:∀k,w.1.size<=k->q k)(hM:M<=1000):
  Calls Tryz.prog 76 #[v] w (NP q M w):=by
 obtain⟨A,n,c,F,k,d,T,rfl,h1,h2,h3,h4,h5,h6⟩:=h.but.out
 obtain⟨wa,bn⟩:∃wa,w.alloc (.cells #[.slice A n c,.slice F k d] 74)=wa:=⟨_,rfl⟩
 obtain⟨wb,bN⟩:∃wb,wa.alloc (.cells #[.slice none 0 0,.slice none 0 0] 74)=wb:=⟨_,rfl⟩
 obtain⟨tw,hz⟩:=fh.new bn bN
 have be:wa.1.size=w.1.size+1:=by rw[<-bn];simp
 obtain⟨c0,c1,r0,r1,f0,f1,f2,f3⟩:=tw.facts
 have ba:∀k,wb.1.size<=k->but q w.1.size k:=λk e=>⟨hq k zo,zo,zo⟩
 have hm:=(h5.step (.az tw.below)).imp λxs hx x h=>(hx x h).step (.az tw.below)
 have HB:=Lib.hid (EB A n c h1 wb hm zo)
 have HM:=Lib.hid hm
 have HF:=Lib.hid ((h6.step (.az tw.below)).imp λxs hx=>⟨λx h=>(hx.1 x h).step (.az tw.below),hx.2⟩:Cs (but q w.1.size) (sm (pU (but q w.1.size) 400 wb) T) wb F k)
 have HW:=Lib.hid (h.but.az tw.below)
 have HQ:=Lib.hid ba
 have TW:=Lib.hid tw
 clear h hq ba tw h5 h6 hm
 go_enter Tryz.func76,Tryz.ntmps76
 by_cases h0:n=0
 ·have l6:((n:Int)==0)=true:=by simp[h0]
  clear h0
  go_wp2
  obtain⟨z0,z1,hb,hs⟩:=TW.out.end_ (q:=q) (.slice A n c) (.slice F k d)
  refine bodyPost_ret (v:=.tuple #[.agg #[.slice A n c,.slice F k d],.slice none 0 0,.bool false]) IE rfl ?_
  exact⟨_,_,_,rfl,HW.out.step hs,hb⟩
 have l6:((n:Int)==0)=false:=by simp;omega
 clear h0
 by_cases bz:100<=k
 ·go_wp2
  obtain⟨z0,z1,hb,hs⟩:=TW.out.end_ (q:=q) (.slice A n c) (.slice F k d)
  refine bodyPost_ret (v:=.tuple #[.agg #[.slice A n c,.slice F k d],.slice none 0 0,.bool false]) IE rfl ?_
  exact⟨_,_,_,rfl,HW.out.step hs,hb⟩
 go_wp2_with fail
 refine HB.out.mono ?_
 rintro e w1 ⟨⟨x,er,rfl⟩,aj⟩
 replace TW:=Lib.hid (TW.out.az aj)
 have bs:=aj.size
 have HR:Hid (pU (but q w.1.size) 400 w1 (.slice A n c)):=⟨A,n,c,rfl,h1,(HM.out.step (.az aj)).imp λxs hx x h=>(hx x h).step (.az aj)⟩
 replace HF:=Lib.hid ((HF.out.step (.az aj)).imp λxs hx=>⟨λx h=>(hx.1 x h).step (.az aj),hx.2⟩:Cs (but q w.1.size) (sm (pU (but q w.1.size) 400 w1) T) w1 F k)
 clear c0 c1 r0 r1 f0 f1 f2 f3
 obtain⟨c0,c1,r0,r1,f0,f1,f2,f3⟩:=TW.out.facts
 go_wp2_with (first
  |(at_builtin;refine oq JV pU.one rfl (.tmp 25) (.tmp 27) rfl rfl ⟨_,_,rfl,HF.out⟩ zo ?_;intro v2 w2 o2 b2;have t2:=TW.out.az b2;have ad:=t2.b1.cell0)
  |(at_builtin;refine dh JV pU.one sm.app rfl (.tmp 29) (.tmp 32) rfl rfl o2 rfl rfl (sm.one HR.out) zo b2.size ?_;intro v3 w3 o3 b3;have bf:=b2.trans b3;obtain⟨F3,d3,rfl,aa,an⟩:=o3.open_ (q:=but q w.1.size) λj e=>HQ.out j zo;have t3:=TW.out.az bf;have k1:=t3.b1.cell1;have k2:=t3.b1.frozen 1;obtain⟨w4,ah⟩:∃w4,w3.setCell ⟨w.1.size,1,none⟩ (.slice F3 (k+1) d3)=w4:=⟨_,rfl⟩;have t4:fh w w4 74 (.slice A n c) (.slice F3 (k+1) d3):=(by rw[<-ah];exact t3.set1 _);have k3:=t4.b1.cell0;have k4:=t4.b1.frozen 0;obtain⟨w5,cw⟩:∃w5,w4.setCell ⟨w.1.size,0,none⟩ (.slice none 0 0)=w5:=⟨_,rfl⟩;have t5:fh w w5 74 (.slice none 0 0) (.slice F3 (k+1) d3):=(by rw[<-cw];exact t4.set0 _);obtain⟨p0,p1,p2,p3,p4,p5,p6,p7⟩:=t5.facts))
 have s4:Stp (but q w.1.size) (but q w.1.size) w3 w4:=by rw[<-ah];exact but.set w3 w.1.size (a:=⟨w.1.size,1,none⟩) (.inl rfl) _
 have s5:Stp (but q w.1.size) (but q w.1.size) w4 w5:=BL
 obtain⟨z0,z1,hb,hs⟩:=t5.end_ (q:=q) (.slice none 0 0) (.slice F3 (k+1) d3)
 refine bodyPost_ret (v:=.tuple #[.agg #[.slice none 0 0,.slice F3 (k+1) d3],x,.bool true]) IE rfl ?_
 have hW:WS (but q w.1.size) M w5 (.agg #[.slice none 0 0,.slice F3 (k+1) d3]):=⟨⟨none,0,0,F3,k+1,d3,T+n,rfl,zo,aa,zo,zo,.nil al.nil,((an.step s4).step s5).imp λxs hx=>⟨λx h=>(((hx.1 x h).step (.az bf)).step s4).step s5,hx.2⟩⟩⟩
 exact⟨_,_,_,rfl,hW.step hs,hb⟩
def NO(q:Nat->Prop)(M:Nat)(w:World)(e:Ending)(w':World):Prop:=∃v' x er,e=.returned (.tuple #[v',x,.int .i64 er])/\WS q M w' v'/\Below w.1.size w w'
theorem MZ{q:Nat->Prop}{w w':World}{A:Option Addr}{n T:Nat}(h:Cs q (sm (pU q 400 w) T) w A n)(hb:Below w.1.size w w'):Cs q (sm (pU q 400 w') T) w' A n:=(h.step (.az hb)).imp λ_ hx=>⟨λx h=>(hx.1 x h).step (.az hb),hx.2⟩
theorem Jn{p:Prop}(h:p:=by simp[results,Tryz.results77,go_sem,z0,z1]):p:=h
theorem JI{q:Nat->Prop}{M:Nat}{w:World}{v:Value}(h:WS q M w v)(hq:∀k,w.1.size<=k->q k)(hM:M<=1000)(f m:Int):
  Calls Tryz.prog 77 #[v,.int .i64 f,.int .i64 m] w (NO q M w):=by
 obtain⟨A,n,c,F,k,d,T,rfl,h1,h2,h3,h4,h5,h6⟩:=h.but.out
 obtain⟨wa,bn⟩:∃wa,w.alloc (.cells #[.slice A n c,.slice F k d] 74)=wa:=⟨_,rfl⟩
 obtain⟨wb,bN⟩:∃wb,wa.alloc (.cells #[.slice none 0 0,.slice none 0 0] 74)=wb:=⟨_,rfl⟩
 obtain⟨tw,hz⟩:=fh.new bn bN
 have be:wa.1.size=w.1.size+1:=by rw[<-bn];simp
 obtain⟨c0,c1,r0,r1,f0,f1,f2,f3⟩:=tw.facts
 have ba:∀k,wb.1.size<=k->but q w.1.size k:=λk e=>⟨hq k zo,zo,zo⟩
 have HM:=Lib.hid h5
 have HF:=Lib.hid (MZ h6 tw.below)
 have HW:=Lib.hid (h.but.az tw.below)
 have HQ:=Lib.hid ba
 have TW:=Lib.hid tw
 have aa:(∃i y j r:Nat,f=(i:Int)/\m=(y:Int)/\2<=y/\i+y=j/\j<=k/\k-i=r)\/m<2\/(2<=m/\f<0)\/(2<=m/\0<=f/\(k:Int)<f)\/(2<=m/\0<=f/\f<=(k:Int)/\IntKind.i64.wrap ((k:Int)-f)=(k:Int)-f/\(k:Int)-f<m):=by
  by_cases g1:m<2
  ·exact .inr (.inl g1)
  by_cases g2:f<0
  ·exact .inr (.inr (.inl ⟨zo,g2⟩))
  by_cases g3:(k:Int)<f
  ·exact .inr (.inr (.inr (.inl ⟨zo,zo,g3⟩)))
  by_cases g4:(k:Int)-f<m
  ·exact .inr (.inr (.inr (.inr ⟨zo,zo,zo,gb,g4⟩)))
  ·exact .inl ⟨f.toNat,m.toNat,_,_,zo,zo,zo,rfl,zo,rfl⟩
 clear h hq ba tw h5 h6
 go_enter Tryz.func77,Tryz.ntmps77
 rcases aa with⟨i,y,j,r,rfl,rfl,hy,an,b6,hr⟩|g1|⟨g1,g2⟩|⟨g1,g2,g3⟩|⟨g1,g2,g3,g4,g5⟩
 rotate_left
 all_goals try
  go_wp2
  obtain⟨z0,z1,hb,hs⟩:=TW.out.end_ (q:=q) (.slice A n c) (.slice F k d)
  refine bodyPost_ret (v:=.tuple #[.agg #[.slice A n c,.slice F k d],.slice none 0 0,.int .i64 1]) Jn rfl ?_
  exact⟨_,_,_,rfl,HW.out.step hs,hb⟩
 obtain⟨ad,u0,rfl,-,-,-⟩:=(HF.out.imp λxs hx=>hx.1).at_ (k:=0) zo
 obtain⟨T1,T2,T3,hT,G1,G2,G3⟩:=HF.out.three (i:=i) (j:=y) zo
 rw[an]at G3
 have hI:=Lib.hid (vr (some (ad.add i)) y (d-i) wb HQ.out G2 zo zo)
 have ai:=Lib.hid G1
 have ah:=Lib.hid G3
 have b8:IntKind.i64.wrap ((i:Int)+(y:Int))=(j:Int):=gb
 have eu:IntKind.i64.wrap ((k:Int)-(i:Int))=(r:Int):=gb
 have bu:j-i=y:=by omega
 have dc:¬r<y:=by omega
 have ev:¬k<i:=by omega
 have bh:(y:Int)<=(r:Int):=by omega
 have bc:(i:Int)<=(k:Int):=by omega
 have dd:(2:Int)<=(y:Int):=by omega
 have bs:(i:Int)<=(j:Int):=by omega
 have c7:(j:Int)<=(d:Int):=by omega
 have a6:(j:Int)<=(k:Int):=by omega
 have bo:(d=i)=False:=by simp;omega
 obtain⟨t,ht⟩:∃t,k-j=t:=⟨_,rfl⟩
 obtain⟨Fj,bf⟩:∃Fj,(if d=j then some ad else some (ad.add j))=Fj:=⟨_,rfl⟩
 have ah:Hid (Cs (but q w.1.size) (sm (pU (but q w.1.size) 400 wb) T3) wb Fj t):=by
  unfold Hid
  rw[<-bf,<-ht]
  by_cases e:d=j
  ·rw[if_pos e,show k-j=0 from zo];exact .nil ⟨al.nil,Nat.zero_le _⟩
  ·rw[if_neg e];exact G3
 have HT:=Lib.hid ht
 have bp:=Lib.hid an
 clear G1 G2 G3 hr an
 go_wp2_with fail
 refine hI.out.mono ?_
 rintro e w1 ⟨A1,u,cj,rfl,hu,bF,a7,aj⟩
 have HU:=Lib.hid ((a7.imp λxs hx x h=>(hx x h).az aj:Cs (but q w.1.size) (al (fO (but q w.1.size) 400 w1)) w1 A1 u))
 have hB:=Lib.hid (EB A1 u cj bF w1 HU.out zo)
 replace TW:=Lib.hid (TW.out.az aj)
 clear c0 c1 r0 r1 f0 f1 f2 f3 hI a7
 obtain⟨c0,c1,r0,r1,f0,f1,f2,f3⟩:=TW.out.facts
 go_wp2_with fail
 refine hB.out.mono ?_
 rintro e w2 ⟨⟨x,er,rfl⟩,aG⟩
 have bm:=aj.trans (aG.mono aj.size)
 have cb:=bm.size
 replace TW:=Lib.hid (TW.out.az aG)
 replace HW:=Lib.hid (HW.out.az bm)
 replace ai:=Lib.hid (MZ ai.out bm)
 replace ah:=Lib.hid (MZ ah.out bm)
 replace HM:=Lib.hid (((HM.out.step (.az (TW.out.below))).imp λxs hx x h=>(hx x h).step (.az TW.out.below):Cs (but q w.1.size) (al (fO (but q w.1.size) 400 w2)) w2 A n))
 have HX:Hid (pU (but q w.1.size) 400 w2 (.slice A1 u cj)):=⟨A1,u,cj,rfl,bF,(HU.out.az aG).imp λxs hx x h=>(hx x h).az aG⟩
 clear c0 c1 r0 r1 f0 f1 f2 f3 hB
 obtain⟨c0,c1,r0,r1,f0,f1,f2,f3⟩:=TW.out.facts
 cases bb:er !=0 with
 |true=>
  go_wp2
  obtain⟨z0,z1,hb,hs⟩:=TW.out.end_ (q:=q) (.slice A n c) (.slice (some ad) k d)
  refine bodyPost_ret (v:=.tuple #[.agg #[.slice A n c,.slice (some ad) k d],.slice none 0 0,.int .i64 er]) Jn rfl ?_
  exact⟨_,_,_,rfl,HW.out.step hs,hb⟩
 |false=>
  go_wp2_with (first
   |(at_builtin;refine oq JV pU.one rfl (.tmp 53) (.tmp 57) rfl rfl ⟨_,_,rfl,ai.out⟩ zo ?_;intro v3 w3 o3 b3;have t3:=TW.out.az b3;have bd:=t3.b1.cell1)
   |(at_builtin;refine dh JV pU.one sm.app rfl (.tmp 59) (.tmp 61) rfl rfl o3 rfl rfl (sm.one HX.out) zo b3.size ?_;intro v4 w4 o4 b4;have b4:=b3.trans b4;have t4:=TW.out.az b4;have bd:=t4.b1.cell1)
   |(at_builtin;refine bH JV pU.one sm.app rfl (.tmp 63) (.tmp 69) rfl o4 ⟨_,_,rfl,ah.out.az b4⟩ zo b4.size ?_;intro v5 w5 o5 b5;have ca:=b4.trans b5;obtain⟨F5,d5,rfl,cc,bk⟩:=o5.open_ (q:=but q w.1.size) λj e=>HQ.out j zo;have t5:=TW.out.az ca;have bd:=t5.b1.cell1;have k2:=t5.b1.frozen 1;obtain⟨w6,a8⟩:∃w6,w5.setCell ⟨w.1.size,1,none⟩ (.slice F5 (i+1+t) d5)=w6:=⟨_,rfl⟩;have t6:fh w w6 74 (.slice A n c) (.slice F5 (i+1+t) d5):=(by rw[<-a8];exact t5.set1 _);obtain⟨p0,p1,p2,p3,p4,p5,p6,p7⟩:=t6.facts))
  have s6:Stp (but q w.1.size) (but q w.1.size) w5 w6:=by rw[<-a8];exact but.set w5 w.1.size (a:=⟨w.1.size,1,none⟩) (.inl rfl) _
  obtain⟨z0,z1,hb,hs⟩:=t6.end_ (q:=q) (.slice A n c) (.slice F5 (i+1+t) d5)
  refine bodyPost_ret (v:=.tuple #[.agg #[.slice A n c,.slice F5 (i+1+t) d5],x,.int .i64 0]) Jn rfl ?_
  have hW:WS (but q w.1.size) M w6 (.agg #[.slice A n c,.slice F5 (i+1+t) d5]):=⟨⟨A,n,c,F5,i+1+t,d5,T1+u+T3,rfl,h1,cc,by have:=HT.out;have:=bp.out;omega,zo,((HM.out.az ca).step s6).imp λxs hx x h=>((hx x h).az ca).step s6,(bk.step s6).imp λxs hx=>⟨λx h=>((hx.1 x h).step (.az ca)).step s6,hx.2⟩⟩⟩
  exact⟨_,_,_,rfl,hW.step hs,hb⟩
end
end Go.Proofs.YtalmnodgjjcefaaGreatDoor
