/- Several texts in one: RwRefMay RwRefMake RwBox RwAhead RwMk. -/
import Derived.Test.YtalmnodgjjcefaaGreatDoorZRwA
set_option maxRecDepth 100000
namespace Go.Proofs.YtalmnodgjjcefaaGreatDoor
set_option maxRecDepth 100000
set_option maxHeartbeats 1600000
section
section
open Go.RowKit
structure aC(w:World)(H:Nat)(v0 v1 v2 v3 v4 v5:Value):Prop where
 c0:w.cell? ⟨H,0,none⟩=some v0
 c1:w.cell? ⟨H,1,none⟩=some v1
 c2:w.cell? ⟨H,2,none⟩=some v2
 c3:w.cell? ⟨H,3,none⟩=some v3
 c4:w.cell? ⟨H,4,none⟩=some v4
 c5:w.cell? ⟨H,5,none⟩=some v5
 f0:w.frozen? ⟨H,0,none⟩=false
 f1:w.frozen? ⟨H,1,none⟩=false
 f2:w.frozen? ⟨H,2,none⟩=false
 f3:w.frozen? ⟨H,3,none⟩=false
 f4:w.frozen? ⟨H,4,none⟩=false
 f5:w.frozen? ⟨H,5,none⟩=false
section
variable {w w' : World} {H : Nat} {v0 v1 v2 v3 v4 v5 : Value}
theorem aC.new(w:World)(v0 v1 v2 v3 v4 v5:Value)(t:TypeId):aC (w.alloc (.cells #[v0,v1,v2,v3,v4,v5] t)) w.1.size v0 v1 v2 v3 v4 v5:=by(have hh:(w.alloc (.cells #[v0,v1,v2,v3,v4,v5] t)).heap[w.1.size]?=some (.cells #[v0,v1,v2,v3,v4,v5] t (0,0)):=by show(w.heap.push _)[w.1.size]?=_;simp);refine⟨?_,?_,?_,?_,?_,?_,?_,?_,?_,?_,?_,?_⟩;rw[World.cell?_alloc_at _ _ _ _ rfl];rfl;rw[World.cell?_alloc_at _ _ _ _ rfl];rfl;rw[World.cell?_alloc_at _ _ _ _ rfl];rfl;rw[World.cell?_alloc_at _ _ _ _ rfl];rfl;rw[World.cell?_alloc_at _ _ _ _ rfl];rfl;rw[World.cell?_alloc_at _ _ _ _ rfl];rfl;all_goals(unfold World.frozen?;rw[hh];simp)
theorem aC.below(h:aC w H v0 v1 v2 v3 v4 v5){B:Nat}(hb:Below B w w')(hH:H<B):aC w' H v0 v1 v2 v3 v4 v5:=
 ⟨(hb.cell (p:=⟨H,0,none⟩) hH).trans h.c0,(hb.cell (p:=⟨H,1,none⟩) hH).trans h.c1,(hb.cell (p:=⟨H,2,none⟩) hH).trans h.c2,(hb.cell (p:=⟨H,3,none⟩) hH).trans h.c3,(hb.cell (p:=⟨H,4,none⟩) hH).trans h.c4,(hb.cell (p:=⟨H,5,none⟩) hH).trans h.c5,
  (hb.frozen (p:=⟨H,0,none⟩) hH).trans h.f0,(hb.frozen (p:=⟨H,1,none⟩) hH).trans h.f1,(hb.frozen (p:=⟨H,2,none⟩) hH).trans h.f2,(hb.frozen (p:=⟨H,3,none⟩) hH).trans h.f3,(hb.frozen (p:=⟨H,4,none⟩) hH).trans h.f4,(hb.frozen (p:=⟨H,5,none⟩) hH).trans h.f5⟩
theorem Dw{p:Prop}(h:p:=by obtain⟨c0,c1,c2,c3,c4,c5,f0,f1,f2,f3,f4,f5⟩:=h;constructor<;>simp[go_sem,c0,c1,c2,c3,c4,c5,f0,f1,f2,f3,f4,f5]):p:=h
theorem aC.set0(h:aC w H v0 v1 v2 v3 v4 v5)(v:Value):aC (w.setCell ⟨H,0,none⟩ v) H v v1 v2 v3 v4 v5:=Dw
theorem aC.set1(h:aC w H v0 v1 v2 v3 v4 v5)(v:Value):aC (w.setCell ⟨H,1,none⟩ v) H v0 v v2 v3 v4 v5:=Dw
theorem aC.set2(h:aC w H v0 v1 v2 v3 v4 v5)(v:Value):aC (w.setCell ⟨H,2,none⟩ v) H v0 v1 v v3 v4 v5:=Dw
theorem aC.sw(h:aC w H v0 v1 v2 v3 v4 v5)(v:Value):aC (w.setCell ⟨H,3,none⟩ v) H v0 v1 v2 v v4 v5:=Dw
theorem aC.Ku(h:aC w H v0 v1 v2 v3 v4 v5)(v:Value):aC (w.setCell ⟨H,4,none⟩ v) H v0 v1 v2 v3 v v5:=Dw
theorem aC.wj(h:aC w H v0 v1 v2 v3 v4 v5)(v:Value):aC (w.setCell ⟨H,5,none⟩ v) H v0 v1 v2 v3 v4 v:=Dw
end
theorem aC.store{W:World}{H B:Nat}{v0 v1 v2 v3 v4 v5:Value}(h:aC W H v0 v1 v2 v3 v4 v5)(hB:B<=H)(u0 u1 u2 u3 u4 u5:Value):∃WF,((((((W.setCell ⟨H,0,none⟩ u0).setCell ⟨H,1,none⟩ u1).setCell ⟨H,2,none⟩ u2).setCell ⟨H,3,none⟩ u3).setCell ⟨H,4,none⟩ u4).setCell ⟨H,5,none⟩ u5)=WF/\aC WF H u0 u1 u2 u3 u4 u5/\Below B W WF/\(∀j,j≠H->WF.heap[j]?=W.heap[j]?)/\WF.1.size=W.1.size:=by refine⟨_,rfl,(((((h.set0 u0).set1 u1).set2 u2).sw u3).Ku u4).wj u5,((((((Below.refl B W).setCell hB _).setCell hB _).setCell hB _).setCell hB _).setCell hB _).setCell hB _,λj hj=>?_,zs⟩;rw[Below.heap_setCell _ _ _ _ hj,Below.heap_setCell _ _ _ _ hj,Below.heap_setCell _ _ _ _ hj,Below.heap_setCell _ _ _ _ hj,Below.heap_setCell _ _ _ _ hj,Below.heap_setCell _ _ _ _ hj]
structure dp(w:World)(H:Nat)(v:Value):Prop where
 c:w.cell? ⟨H,0,none⟩=some v
 f:w.frozen? ⟨H,0,none⟩=false
section
variable {w w' : World} {H : Nat} {v : Value}
theorem dp.new(w:World)(v:Value)(t:TypeId):dp (w.alloc (.cells #[v] t)) w.1.size v:=by(have hh:(w.alloc (.cells #[v] t)).heap[w.1.size]?=some (.cells #[v] t (0,0)):=by show(w.heap.push _)[w.1.size]?=_;simp);refine⟨fM,?_⟩;unfold World.frozen?;rw[hh];simp
theorem dp.below(h:dp w H v){B:Nat}(hb:Below B w w')(hH:H<B):dp w' H v:=⟨(hb.cell (p:=⟨H,0,none⟩) hH).trans h.c,(hb.frozen (p:=⟨H,0,none⟩) hH).trans h.f⟩
theorem dp.set(h:dp w H v)(u:Value):dp (w.setCell ⟨H,0,none⟩ u) H u:=by obtain⟨c,f⟩:=h;constructor<;>simp[go_sem,c,f]
theorem dp.ey(h:dp w H v){p:Addr}(hp:p.block≠H)(u:Value):dp (w.setCell p u) H v:=by obtain⟨c,f⟩:=h;obtain⟨pb,po,pc⟩:=p;simp only at hp;constructor;rw[<-c];simp[go_sem];rw[<-f];simp[go_sem]
end
end
section
open Go.RowKit
def gM(w:World)(r:aI)(e:Ending)(w':World):Prop:=
 ∃(A:Option Addr)(n c k:Nat)(l:List UInt8),e=.returned (.tuple #[.slice A n c,.int .i64 k])/\Below w.1.size w w'/\l.length=n/\n<=c/\ae w' w'.1.size A (bv l)/\
  ((bA {r with id:=1}/\r.kind≠2/\k=0/\l=(ar {r with id:=1}).take ((ar {r with id:=1}).length-4))\/(¬(bA {r with id:=1}/\r.kind≠2)/\k=120/\l=[]))
theorem gM.bad{w w':World}{r:aI}(h:¬(bA {r with id:=1}/\r.kind≠2))(hb:Below w.1.size w w'):gM w r (.returned (.tuple #[.slice none 0 0,.int .i64 120])) w':=
 ⟨none,0,0,120,[],rfl,hb,rfl,Nat.le_refl _,ae.nil _ _ _,.inr ⟨h,rfl,rfl⟩⟩
theorem sX(A:Option Addr)(n c:Nat)(ls:List Lb)(hn:ls.length=n)(k d i:Int)(x1 x2:ByteArray)(w:World)(hS:ae w w.1.size A (lv ls))(hlen:n<=1099511627776)(bd:∀x∈ls,x.1.size<=9223372036854775807)(h1:x1.size<=9223372036854775807):Calls Tryz.prog 57 #[.agg #[.int .i64 k,.slice A n c,.string x1,.string x2,.int .i64 d,.int .i64 i]] w (gM w ⟨k,ls,(x1,x2),d,i⟩):=by obtain⟨W1,bN⟩:∃W1,(w.alloc (.cells #[.int .i64 k,.slice A n c,.string x1,.string x2,.int .i64 d,.int .i64 i] 92)).setCell ⟨w.1.size,5,none⟩ (.int .i64 1)=W1:=⟨_,rfl⟩;have aj:Below w.1.size w W1:=bN▸((Below.refl _ _).alloc (Nat.le_refl _) _).setCell (Nat.le_refl _) _;have six:aC W1 w.1.size (.int .i64 k) (.slice A n c) (.string x1) (.string x2) (.int .i64 d) (.int .i64 1):=bN▸(aC.new w _ _ _ _ _ _ _).wj _;(have bL:w.1.size<W1.1.size:=by rw[<-bN];simp);have hM:=Lib.hid (bS A n c ls hn k d 1 x1 x2 W1 ((hS.below aj).more aj.size) hlen bd h1);have HX:=Lib.hid six;obtain⟨g0,g1,g2,g3,g4,g5,-,-,-,-,-,-⟩:=six;clear bd hn hS;go_enter Tryz.func57,Tryz.ntmps57;go_wp2_with fail;refine hM.out.mono ?_;rintro en w2 ⟨v,kk,rfl,aG,bc⟩;have six:=HX.out.below aG bL;have c0:=six.c0;have bW:=aG.size;have a8:=aj.trans (aG.mono aj.size);clear hM HX six bN aj aG g0 g1 g2 g3 g4 g5;have HK:Hid (({(⟨k,ls,(x1,x2),d,i⟩:aI)with id:=1}:aI)=⟨k,ls,(x1,x2),d,1⟩):=rfl;rcases bc with⟨bp,rfl,ah⟩|⟨bR,rfl,rfl⟩;(·have bh:=Lib.hid bp;have hlen:=kN bp;obtain⟨L,hL⟩:∃L,ar ⟨k,ls,(x1,x2),d,1⟩=L:=⟨_,rfl⟩;rw[hL]at ah hlen;have HL:=Lib.hid hL;obtain⟨A3,c3,rfl,b4,-,-,cL⟩:=ah.open_;obtain⟨m,hm⟩:∃m,L.length=m:=⟨_,rfl⟩;rw[hm]at hlen b4;simp only[hm];have ad:=Lib.hid hm;clear bp hL ah hm;(have bz:IntKind.i64.wrap ((m:Int)-4)=((m-4:Nat):Int):=gb);obtain⟨q,hq⟩:∃q,m-4=q:=⟨_,rfl⟩;rw[hq]at bz;(have aa:q<=c3:=by omega);(have df:q+4=m:=by omega);clear hq;have HQ:=Lib.hid df;clear df;by_cases k2:k=2;(·obtain rfl:=k2;go_wp2;go_ret2;exact gM.bad (λh=>h.2 rfl) a8);·(have dd:(k==2)=false:=by rw[beq_eq_false_iff_ne];exact k2);go_wp2;go_ret2;refine⟨A3,q,c3,0,L.take q,rfl,a8,?_,aa,?_,.inl ⟨bh.out,k2,rfl,?_⟩⟩;rw[List.length_take,ad.out];have:=HQ.out;omega;rw[jw];exact cL.take _;·show L.take q=(ar ⟨k,ls,(x1,x2),d,1⟩).take ((ar ⟨k,ls,(x1,x2),d,1⟩).length-4);rw[HL.out,ad.out];congr 1;have:=HQ.out;omega);·have cB:Hid (¬(bA ({(⟨k,ls,(x1,x2),d,i⟩:aI)with id:=1})/\(⟨k,ls,(x1,x2),d,i⟩:aI).kind≠2)):=λh=>bR h.1;clear bR;go_wp2;go_ret2;exact gM.bad cB.out a8
end
section
open Go.RowKit
def Fp(w:World)(L:List UInt8)(E:Nat)(e:Ending)(w':World):Prop:=∃A n c,e=.returned (.tuple #[.slice A n c,.int .i64 (E:Nat)])/\Below w.1.size w w'/\L.length=n/\n<=c/\ae w' w'.1.size A (bv L)
open Classical in
noncomputable def JF(r:aI):List UInt8:=if bA {r with id:=1}/\r.kind≠2 then(ar {r with id:=1}).take ((ar {r with id:=1}).length-4)else[]
open Classical in
noncomputable def KH(r:aI):Nat:=if bA {r with id:=1}/\r.kind≠2 then 0 else 120
theorem gM.same{w w':World}{r:aI}{e:Ending}(h:gM w r e w'):Fp w (JF r) (KH r) e w':=by obtain⟨A,n,c,k,l,rfl,hb,hl,hc,hs,⟨h1,h2,rfl,rfl⟩|⟨h1,rfl,rfl⟩⟩:=h;unfold JF KH;rw[if_pos ⟨h1,h2⟩,if_pos ⟨h1,h2⟩];exact⟨A,n,c,rfl,hb,hl,hc,hs⟩;unfold JF KH;rw[if_neg h1,if_neg h1];exact⟨A,n,c,rfl,hb,hl,hc,hs⟩
end
end
end Go.Proofs.YtalmnodgjjcefaaGreatDoor
