/- Several texts in one: RwComp RwClos RwPst RwPre. -/
import Derived.Test.YtalmnodgjjcefaaGreatDoorJRwA
import Derived.Test.YtalmnodgjjcefaaGreatDoorJLbD
import Derived.Test.YtalmnodgjjcefaaGreatDoorJRwB
import Derived.Test.YtalmnodgjjcefaaGreatDoorJIpA
set_option maxRecDepth 100000
set_option maxHeartbeats 800000
namespace Go.Proofs.YtalmnodgjjcefaaGreatDoor
section
open Go.RowKit
theorem ext_row {r s:RowP}(h1:r.kind=s.kind) (h2:r.labels=s.labels) (h3:r.label=s.label) (h4:r.day=s.day) (h5:r.id=s.id):r=s:=by
 obtain ⟨a,b,c,d,e⟩:=r
 obtain ⟨a',b',c',d',e'⟩:=s
 simp only at h1 h2 h3 h4 h5
 subst h1;subst h2;subst h3;subst h4;subst h5;rfl
theorem comp_kind {r:RowP}(h:MayR r) {b:List UInt8}(e:makeR r=b) (h0:0<b.length):r.kind=(b[0].toNat:Int)∧1≤r.kind∧r.kind≤5:=by
 obtain ⟨t,e1,k1,k2⟩:=make_head h
 rw[e1] at e
 subst e
 refine ⟨?_,k1,k2⟩
 simp only[List.getElem_cons_zero]
 rw[ofNat_nat]
 omega
theorem comp1 {r:RowP}(h:MayR r) {b:List UInt8}(e:makeR r=b) (hk:r.kind=1) {m:Nat}(hm:b.length=m+6) :
  parse ((b.drop 1).take m)=(sortN r.labels,0)∧MayL (sortN r.labels)∧sortN (sortN r.labels)=sortN r.labels∧canonR r=⟨1,sortN r.labels,lb0,0,(num ((b.drop 1).drop (m+1)):Nat)⟩:=by
 rcases h.kinds with ⟨-,hl,hx,hd⟩|⟨a,_⟩|⟨a,_⟩|⟨a,_⟩
 ·rw[make1 hk] at e
  have hlen:=congrArg List.length e
  simp only[List.length_append,List.length_cons,List.length_nil,four_len] at hlen
  have e1:b.drop 1=marsh (sortN r.labels)++([0]++four r.id.toNat):=by rw[←e];simp
  have hm1:(marsh (sortN r.labels)).length=m:=by omega
  have h1:=h.id1
  have h2:=h.id2
  rw[e1]
  refine ⟨by rw[List.take_left' hm1,parse_marsh],hl.sort,h.sorts,?_⟩
  have e2:(marsh (sortN r.labels)++([0]++four r.id.toNat)).drop (m+1)=four r.id.toNat:=by
   rw[←List.append_assoc];exact List.drop_left' (by rw[List.length_append,hm1];rfl)
  rw[e2]
  have e3:=num_four r.id.toNat [] (by omega)
  rw[List.append_nil] at e3
  rw[e3]
  exact ext_row hk rfl hx hd (by show r.id=((r.id.toNat:Nat):Int);omega)
 ·omega
 ·omega
 ·omega
theorem comp1_len {r:RowP}(h:MayR r) {b:List UInt8}(e:makeR r=b) (hk:r.kind=1):10≤b.length:=by
 rcases h.kinds with ⟨-,hl,hx,hd⟩|⟨a,_⟩|⟨a,_⟩|⟨a,_⟩
 ·rw[make1 hk] at e
  have hlen:=congrArg List.length e
  have:=hl.marsh_len
  simp only[List.length_append,List.length_cons,List.length_nil,four_len] at hlen
  omega
 ·omega
 ·omega
 ·omega
theorem comp2 {r:RowP}(h:MayR r) {b:List UInt8}(e:makeR r=b) (hk:r.kind=2) :
  4≤(b.drop 1).length∧parse ((b.drop 1).drop 4)=(sortN r.labels,0)∧MayL (sortN r.labels)∧sortN (sortN r.labels)=sortN r.labels∧canonR r=⟨2,sortN r.labels,lb0,0,(num (b.drop 1):Nat)⟩:=by
 rcases h.kinds with ⟨-,hl,hx,hd⟩|⟨a,_⟩|⟨a,_⟩|⟨a,_⟩
 ·rw[make2 hk] at e
  have e1:b.drop 1=four r.id.toNat++marsh (sortN r.labels):=by rw[←e];simp
  have h1:=h.id1
  have h2:=h.id2
  rw[e1]
  refine ⟨by rw[List.length_append,four_len];omega,by rw[List.drop_left' (four_len _),parse_marsh],hl.sort,h.sorts,?_⟩
  rw[num_four r.id.toNat _ (by omega)]
  exact ext_row hk rfl hx hd (by show r.id=((r.id.toNat:Nat):Int);omega)
 ·omega
 ·omega
 ·omega
theorem comp5 {r:RowP}(h:MayR r) {b:List UInt8}(e:makeR r=b) (hk:r.kind=5):4≤(b.drop 1).length∧canonR r=⟨5, [],lb0,0,(num (b.drop 1):Nat)⟩:=by
 rcases h.kinds with ⟨a,_⟩|⟨a,_⟩|⟨a,_⟩|⟨-,hl,hx,hd⟩
 ·omega
 ·omega
 ·omega
 ·rw[make5 hk] at e
  have e1:b.drop 1=four r.id.toNat ++ []:=by rw[←e];simp
  have h1:=h.id1
  have h2:=h.id2
  rw[e1]
  refine ⟨by simp[four_len],?_⟩
  rw[num_four r.id.toNat _ (by omega)]
  exact ext_row hk (by show sortN r.labels = [];rw[hl];rfl) hx hd (by show r.id=((r.id.toNat:Nat):Int);omega)
def left (l:List UInt8):List UInt8:=if (cutR l).2.2=0 then l.drop (cutR l).2.1 else []
theorem left_len (l:List UInt8):(left l).length≤l.length:=by unfold left;split<;>simp
theorem cut_esc (s r:List UInt8):(cutR (esc s++r)).1=s∧(cutR (esc s++r)).2.2=0∧left (esc s++r)=r:=by
 have h:=cutR_esc s r
 refine ⟨by rw[h],by rw[h],?_⟩
 unfold left
 rw[h]
 simp
theorem comp34 {x:Lb}{r:List UInt8}{R:List UInt8}(e:R=escL x++r):(cutR R).2.2=0∧(cutR (left R)).2.2=0∧left (left R)=r∧(strOf (cutR R).1,strOf (cutR (left R)).1)=x:=by
 unfold escL at e
 rw[List.append_assoc] at e
 obtain ⟨h1,h2,h3⟩:=cut_esc x.1.data.toList (esc x.2.data.toList++r)
 obtain ⟨g1,g2,g3⟩:=cut_esc x.2.data.toList r
 rw[←e] at h1 h2 h3
 rw[h3]
 refine ⟨h2,g2,g3,?_⟩
 rw[h1,g1,strOf_list,strOf_list]
theorem comp3 {r:RowP}(h:MayR r) {b:List UInt8}(e:makeR r=b) (hk:r.kind=3):(cutR (b.drop 1)).2.2=0∧(cutR (left (b.drop 1))).2.2=0∧4≤(left (left (b.drop 1))).length ∧
  canonR r=⟨3, [],(strOf (cutR (b.drop 1)).1,strOf (cutR (left (b.drop 1))).1),0,(num (left (left (b.drop 1))):Nat)⟩:=by
 rcases h.kinds with ⟨a,_⟩|⟨-,hl,hx,hd⟩|⟨a,_⟩|⟨a,_⟩
 ·omega
 ·rw[make3 hk] at e
  have e1:b.drop 1=escL r.label++four r.id.toNat:=by rw[←e];simp
  obtain ⟨h1,h2,h3,h4⟩:=comp34 e1
  have g1:=h.id1
  have g2:=h.id2
  rw[h3,h4]
  refine ⟨h1,h2,by simp[four_len],?_⟩
  have e3:=num_four r.id.toNat [] (by omega)
  rw[List.append_nil] at e3
  rw[e3]
  exact ext_row hk (by show sortN r.labels = [];rw[hl];rfl) rfl hd (by show r.id=((r.id.toNat:Nat):Int);omega)
 ·omega
 ·omega
theorem comp4 {r:RowP}(h:MayR r) {b:List UInt8}(e:makeR r=b) (hk:r.kind=4):4≤(b.drop 1).length∧(cutR ((b.drop 1).drop 4)).2.2=0∧(cutR (left ((b.drop 1).drop 4))).2.2=0∧4≤(left (left ((b.drop 1).drop 4))).length ∧
  canonR r=⟨4, [],(strOf (cutR ((b.drop 1).drop 4)).1,strOf (cutR (left ((b.drop 1).drop 4))).1),(num (b.drop 1):Nat),(num (left (left ((b.drop 1).drop 4))):Nat)⟩:=by
 rcases h.kinds with ⟨a,_⟩|⟨a,_⟩|⟨-,hl,hx⟩|⟨a,_⟩
 ·omega
 ·omega
 ·rw[make4 hk] at e
  have e1:b.drop 1=four r.day.toNat++(escL r.label++four r.id.toNat):=by rw[←e];simp
  have e2:(b.drop 1).drop 4=escL r.label++four r.id.toNat:=by rw[e1];exact List.drop_left' (four_len _)
  obtain ⟨h1,h2,h3,h4⟩:=comp34 e2
  have g1:=h.id1
  have g2:=h.id2
  have g3:=h.day1
  have g4:=h.day2
  rw[h3,h4]
  refine ⟨by rw[e1,List.length_append,four_len];omega,h1,h2,by simp[four_len],?_⟩
  have e3:=num_four r.id.toNat [] (by omega)
  rw[List.append_nil] at e3
  rw[e3,e1,num_four r.day.toNat _ (by omega)]
  exact ext_row hk (by show sortN r.labels = [];rw[hl];rfl) rfl (by show r.day=((r.day.toNat:Nat):Int);omega) (by show r.id=((r.id.toNat:Nat):Int);omega)
 ·omega
def OnlyR (b:List UInt8) (ok:Bool) (r:RowP):Prop:=∀s,MayR s→makeR s=b→ok=true∧canonR s=r
theorem OnlyR.none_ok {b:List UInt8}{r:RowP}(h:OnlyR b false r):NoRow b:=fun s hs e=>absurd (h s hs e).1 (by simp)
theorem OnlyR.none_may {b:List UInt8}{r:RowP}{ok:Bool}(h:OnlyR b ok r) (hn:¬ MayR r):NoRow b:=fun s hs e=>hn ((h s hs e).2 ▸ canonR_may hs)
theorem OnlyR.none_make {b:List UInt8}{r:RowP}{ok:Bool}(h:OnlyR b ok r) (hn:makeR r≠b):NoRow b:=fun s hs e=>hn (by rw[← (h s hs e).2,canonR_make hs,e])
theorem cut_text_len (b:List UInt8):(strOf (cutR b).1).size≤b.length:=by
 rw[strOf_size]
 by_cases h:(cutR b).2.2=0
 ·have:=cutR_ok h;omega
 ·have:=(cutF_le b [] 0).2 h
  have e:(cutR b).1 = []:=this.1
  rw[e];simp
end
section
open Go.RowKit
def TakeOut (W:World) (po pr:Nat) (A:Option Addr) (n c:Nat) (l:List UInt8) (e:Ending) (W' : World):Prop :=
 (4≤n∧e = .returned (.int .i64 (num l:Nat))∧∃q A',W'=(W.drewN q).setCell ⟨pr,0,none⟩ (.slice A' (n - 4) (c - 4))∧A'=(if c=4 then A else A.map fun x=>x.add 4)) ∨
 (n<4∧e = .returned (.int .i64 0)∧W'=W.setCell ⟨po,0,none⟩ (.bool false))
theorem or_i64 (a b:Nat) (ha:a<4611686018427387904) (hb:b<4611686018427387904):bits .or .i64 (a:Int) (b:Int)=((a ||| b:Nat):Int):=by
 have hx:a ||| b<2 ^ 62:=Nat.or_lt_two_pow (by omega) (by omega)
 have h1:(BitVec.ofInt 64 (a:Int)).toNat=a:=by
  rw[BitVec.ofInt_natCast,BitVec.toNat_ofNat];exact Nat.mod_eq_of_lt (by omega)
 have h2:(BitVec.ofInt 64 (b:Int)).toNat=b:=by
  rw[BitVec.ofInt_natCast,BitVec.toNat_ofNat];exact Nat.mod_eq_of_lt (by omega)
 show IntKind.i64.wrap ((BitVec.ofInt 64 (a:Int) ||| BitVec.ofInt 64 (b:Int)).toNat:Int)=_
 rw[BitVec.toNat_or,h1,h2,IntKind.wrap_i64]
 omega
theorem or_join (x i b:Nat) (h:b<2 ^ i):x*2 ^ i ||| b=x*2 ^ i+b:=by
 rw[←Nat.shiftLeft_eq,Nat.shiftLeft_add_eq_or_of_lt h]
theorem or_four (z0 z1 z2 z3:Nat) (h0:z0<256) (h1:z1<256) (h2:z2<256) (h3:z3<256) :
  bits .or .i64 (bits .or .i64 (bits .or .i64 ((z0:Int)*16777216) ((z1:Int)*65536)) ((z2:Int)*256)) (z3:Int)=((z0*16777216+z1*65536+z2*256+z3:Nat):Int):=by
 have e0:((z0:Int)*16777216)=((z0*16777216:Nat):Int):=by omega
 have e1:((z1:Int)*65536)=((z1*65536:Nat):Int):=by omega
 have e2:((z2:Int)*256)=((z2*256:Nat):Int):=by omega
 have j1:=or_join z0 24 (z1*65536) (by omega)
 have j2:=or_join (z0*256+z1) 16 (z2*256) (by omega)
 have j3:=or_join (z0*65536+z1*256+z2) 8 z3 (by omega)
 rw[e0,e1,e2,or_i64 _ _ (by omega) (by omega)]
 rw[show z0*16777216 ||| z1*65536=(z0*256+z1)*2 ^ 16 from by rw[show z0*16777216=z0*2 ^ 24 from rfl,j1];omega]
 rw[or_i64 _ _ (by omega) (by omega),j2]
 rw[show (z0*256+z1)*2 ^ 16+z2*256=(z0*65536+z1*256+z2)*2 ^ 8 from by omega]
 rw[or_i64 _ _ (by omega) (by omega),j3]
 omega
theorem num_four' {l:List UInt8}(h0:0<l.length) (h1:1<l.length) (h2:2<l.length) (h3:3<l.length):num l=l[0].toNat*16777216+l[1].toNat*65536+l[2].toNat*256+l[3].toNat:=by
 unfold num
 rw[List.getElem?_eq_getElem h0,List.getElem?_eq_getElem h1,List.getElem?_eq_getElem h2,List.getElem?_eq_getElem h3]
 rfl
theorem takeR_any (po pr:Nat) (ok:Bool) (A:Option Addr) (n c:Nat) (l:List UInt8) (hn:l.length=n) (hnc:n≤c) (W:World) (hO:OneAt W po (.bool ok)) (hR:OneAt W pr (.slice A n c)) (hS:Sees W W.heap.size A (bv l)) (hlen:n≤1000000) :
  Calls Tryz.prog 109 #[.pointer (some ⟨pr,0,none⟩),.pointer (some ⟨po,0,none⟩)] W (TakeOut W po pr A n c l):=by
 obtain ⟨oc,of⟩:=hO
 obtain ⟨rc,rf⟩:=hR
 by_cases h4:n<4
 ·have HN:=Lib.hid hn
  clear hn
  go_enter Tryz.func109,Tryz.ntmps109
  go_wp2
  go_ret
  exact .inr ⟨h4,rfl,rfl⟩
 ·have b0:0<l.length:=by omega
  have b1:1<l.length:=by omega
  have b2:2<l.length:=by omega
  have b3:3<l.length:=by omega
  obtain ⟨ad,rfl,hadB,hcell⟩:∃ad:Addr,A=some ad∧ad.block<W.heap.size∧∀j u,(bv l)[j]?=some u→W.cell? (ad.add j)=some u:=by
   rcases hS.out with h|h
   ·have:=congrArg List.length h;rw[bv_length,List.length_nil] at this;omega
   ·exact h
  have q0:=hcell 0 _ (bv_at l 0 b0)
  have q1:=hcell 1 _ (bv_at l 1 b1)
  have q2:=hcell 2 _ (bv_at l 2 b2)
  have q3:=hcell 3 _ (bv_at l 3 b3)
  have hE:=num_four' b0 b1 b2 b3
  have y0:=l[0].toNat_lt
  have y1:=l[1].toNat_lt
  have y2:=l[2].toNat_lt
  have y3:=l[3].toNat_lt
  generalize l[0].toNat=z0 at q0 hE y0
  generalize l[1].toNat=z1 at q1 hE y1
  generalize l[2].toNat=z2 at q2 hE y2
  generalize l[3].toNat=z3 at q3 hE y3
  have HE:=Lib.hid hE
  have h4' : (4:Int)≤(n:Int):=by omega
  have i0:0<n:=by omega
  have i1:(1:Int)<(n:Int):=by omega
  have i2:(2:Int)<(n:Int):=by omega
  have i3:(3:Int)<(n:Int):=by omega
  have q0' : W.cell? ad=some (.int .u8 (z0:Int)):=q0
  have q1' : W.cell? ⟨ad.block,ad.off+1,none⟩=some (.int .u8 (z1:Int)):=by have h:=q1;unfold Addr.add at h;rw[if_neg (by omega)] at h;exact h
  have q2' : W.cell? ⟨ad.block,ad.off+2,none⟩=some (.int .u8 (z2:Int)):=by have h:=q2;unfold Addr.add at h;rw[if_neg (by omega)] at h;exact h
  have q3' : W.cell? ⟨ad.block,ad.off+3,none⟩=some (.int .u8 (z3:Int)):=by have h:=q3;unfold Addr.add at h;rw[if_neg (by omega)] at h;exact h
  have hsub:n - 4+4=n:=by omega
  have HSUB:=Lib.hid hsub
  clear hE hn hcell b0 b1 b2 b3 hsub
  go_enter Tryz.func109,Tryz.ntmps109
  go_wp2_with fail
  go_quiet (fail)
  rw[or_four z0 z1 z2 z3 y0 y1 y2 y3, ←HE.out]
  have hc4:4≤c:=by omega
  go_wp2_with fail
  all_goals go_ret
  all_goals refine .inl ⟨by omega,rfl,nq,_,rfl,?_⟩
  ·rw[if_pos rfl]
  ·by_cases e:c=4
   ·rw[if_pos e];first|rfl|(exfalso;omega)
   ·rw[if_neg e];first|(simp[Addr.add];done)|(exfalso;omega)
def TextOut (W:World) (po pr:Nat) (ok:Bool) (l:List UInt8) (e:Ending) (W' : World):Prop :=
 ∃W2 A m c,e = .returned (.string (strOf (cutR l).1))∧Below W.heap.size W W2∧OwnB W2 W.heap.size (.slice A m c) (if (cutR l).2.2=0 then l.drop (cutR l).2.1 else [])∧m=(if (cutR l).2.2=0 then l.drop (cutR l).2.1 else []).length∧m≤c ∧
  W'=(W2.setCell ⟨po,0,none⟩ (.bool (ok && decide ((cutR l).2.2=0)))).setCell ⟨pr,0,none⟩ (.slice A m c)
theorem text_any (po pr:Nat) (hne:po≠pr) (ok:Bool) (A:Option Addr) (n c:Nat) (l:List UInt8) (hn:l.length=n) (hnc:n≤c) (W:World) (hO:OneAt W po (.bool ok)) (hR:OneAt W pr (.slice A n c)) (hS:Sees W W.heap.size A (bv l)) (hlen:n≤1000000) (hpo:po<W.heap.size) (hpr:pr<W.heap.size) :
  Calls Tryz.prog 110 #[.pointer (some ⟨pr,0,none⟩),.pointer (some ⟨po,0,none⟩)] W (TextOut W po pr ok l):=by
 have hC:=Lib.hid (Cut_any A n c l hn hnc W hS (by omega))
 obtain ⟨t,k,er,hcr⟩:∃t k er,cutR l=(t,k,er):=⟨_,_,_,rfl⟩
 rw[hcr] at hC
 have HCR:=Lib.hid hcr
 have hO':=fun W2 (hb:Below W.heap.size W W2)=>hO.below hb hpo
 have hR':=fun W2 (hb:Below W.heap.size W W2)=>hR.below hb hpr
 have HO':=Lib.hid hO'
 have HR':=Lib.hid hR'
 obtain ⟨oc,of⟩:=hO
 obtain ⟨rc,rf⟩:=hR
 clear hcr hO' hR' hn
 go_enter Tryz.func110,Tryz.ntmps110
 go_wp2_with fail
 refine hC.out.mono ?_
 rintro en W2 ⟨v,rfl,hown,hb⟩
 simp only at hown
 obtain ⟨L2,hL2⟩:∃L2,(if er=0 then l.drop k else [])=L2:=⟨_,rfl⟩
 rw[hL2] at hown
 obtain ⟨A2,c2,rfl,hc2, -,hown', -⟩:=hown.open_
 obtain ⟨m,hm⟩:∃m,L2.length=m:=⟨_,rfl⟩
 rw[hm] at hown' hc2
 simp only[hm]
 have HF:Hid (∀b W',b=(ok && decide (er=0))→W'=(W2.setCell ⟨po,0,none⟩ (.bool b)).setCell ⟨pr,0,none⟩ (.slice A2 m c2)→TextOut W po pr ok l (.returned (.string (strOf t))) W'):=fun b W' hb1 hb2 =>
  ⟨W2,A2,m,c2,by rw[HCR.out],hb,by rw[HCR.out];show OwnB _ _ _ (if er=0 then l.drop k else []);rw[hL2];exact hown',by rw[HCR.out];show m=(if er=0 then l.drop k else []).length;rw[hL2];exact hm.symm,hc2,by rw[HCR.out,hb2,hb1]⟩
 have HR2:=fun b=>Lib.hid ((HR'.out W2 hb).set_ne (p:=⟨po,0,none⟩) hne (.bool b))
 clear hC hown hm hL2 hown' hc2
 obtain ⟨oc2,of2⟩:=HO'.out W2 hb
 clear oc of rc rf
 cases ok with
 | false =>
  obtain ⟨rc2,rf2⟩:=(HR2 false).out
  go_wp2
  go_ret
  exact HF.out _ _ rfl rfl
 | true =>
  by_cases he:er=0
  ·obtain ⟨rc2,rf2⟩:=(HR2 true).out
   have HE:=Lib.hid he
   have he' : ((er:Int)==0)=true:=by rw[he];rfl
   clear he
   go_wp2
   go_ret
   exact HF.out _ _ (by rw[HE.out];rfl) rfl
  ·obtain ⟨rc2,rf2⟩:=(HR2 false).out
   have he' : ((er:Int)==0)=false:=by rw[beq_eq_false_iff_ne];omega
   have HE:=Lib.hid he
   clear he
   go_wp2
   go_ret
   exact HF.out _ _ (by rw[decide_eq_false HE.out];rfl) rfl
def AllOut (W:World) (po:Nat) (ok:Bool) (b:List UInt8) (e:Ending) (W' : World):Prop :=
  ∃W2 v,e = .returned v∧Below W.heap.size W W2 ∧
    (((parse b).2=0∧MayL (parse b).1∧sortN (parse b).1=(parse b).1∧OwnL W2 W.heap.size v (parse b).1∧W'=W2.setCell ⟨po,0,none⟩ (.bool ok)) ∨
     (¬ ((parse b).2=0∧MayL (parse b).1∧sortN (parse b).1=(parse b).1)∧v = .slice none 0 0∧W'=W2.setCell ⟨po,0,none⟩ (.bool false)))
theorem parse_err {b:List UInt8}{k:Nat}(h:(parse b).2≠0) (e:k=(parse b).2):(0:Int)<(k:Int):=by omega
theorem all_any (po:Nat) (ok:Bool) (A:Option Addr) (n c:Nat) (l:List UInt8) (hn:l.length=n) (hnc:n≤c) (W:World) (hO:OneAt W po (.bool ok)) (hS:Sees W W.heap.size A (bv l)) (hlen:n≤1000000) (hpo:po<W.heap.size) :
  Calls Tryz.prog 112 #[.slice A n c,.pointer (some ⟨po,0,none⟩)] W (AllOut W po ok l):=by
 have hC:=Lib.hid (Unmarshal_any A n c l hn hnc W hS (by omega))
 have HO':=Lib.hid (fun W2 (hb:Below W.heap.size W W2)=>hO.below hb hpo)
 obtain ⟨oc,of⟩:=hO
 clear hn
 go_enter Tryz.func112,Tryz.ntmps112
 go_wp2_with fail
 refine hC.out.mono ?_
 rintro en W2 ⟨v,k,rfl,hb,hres⟩
 obtain ⟨oc2,of2⟩:=HO'.out W2 hb
 clear hC oc of
 rcases hres with ⟨r1,r2,r3,rfl,hown⟩|⟨r1,r2,rfl,rfl⟩|⟨r1,r2,rfl⟩
 ·have R:=Lib.hid (And.intro r1 (And.intro r2 (And.intro r3 hown)))
  clear r1 r2 r3 hown
  cases ok<;>(go_wp2;go_ret;exact ⟨W2,v,rfl,hb,.inl ⟨R.out.1,R.out.2.1,R.out.2.2.1,R.out.2.2.2,rfl⟩⟩)
 ·have R:Hid (¬ ((parse l).2=0∧MayL (parse l).1∧sortN (parse l).1=(parse l).1)):=fun h=>r2 h.2
  clear r1 r2
  cases ok<;>(go_wp2;go_ret;exact ⟨W2,_,rfl,hb,.inr ⟨R.out,rfl,rfl⟩⟩)
 ·have R:Hid (¬ ((parse l).2=0∧MayL (parse l).1∧sortN (parse l).1=(parse l).1)):=fun h=>r1 h.1
  have hk:((k:Int)==0)=false:=by rw[beq_eq_false_iff_ne];have:=parse_err r1 r2;omega
  clear r1 r2
  cases ok<;>(go_wp2;go_ret;exact ⟨W2,_,rfl,hb,.inr ⟨R.out,rfl,rfl⟩⟩)
end
section
open Go.RowKit
structure PSt (w0:World) (Hr Ho Hs Hx:Nat) (W:World) (ok:Bool) (A:Option Addr) (n c:Nat) (r:List UInt8) (k d i:Int) (x1 x2:ByteArray) (vl:Value):Prop where
 bel:Below w0.heap.size w0 W
 ord:w0.heap.size≤Hr∧Hr<Ho∧Ho<Hs∧Hs<Hx∧Hx<W.heap.size
 okc:OneAt W Ho (.bool ok)
 rst:OneAt W Hs (.slice A n c)
 six:SixAt W Hx (.int .i64 k) vl (.string x1) (.string x2) (.int .i64 d) (.int .i64 i)
 res:SixAt W Hr (.int .i64 0) (.slice none 0 0) (.string ⟨#[]⟩) (.string ⟨#[]⟩) (.int .i64 0) (.int .i64 0)
 len:r.length=n
 cap:n≤c
 row:SeesM (fun j=>(j<Hr∨Hx<j)∧j<W.heap.size) W A (bv r)
theorem SixAt.set_ne {w:World}{H:Nat}{v0 v1 v2 v3 v4 v5:Value}(h:SixAt w H v0 v1 v2 v3 v4 v5) {p:Addr}(hp:p.block≠H) (u:Value):SixAt (w.setCell p u) H v0 v1 v2 v3 v4 v5:=by
 obtain ⟨c0,c1,c2,c3,c4,c5,f0,f1,f2,f3,f4,f5⟩:=h
 obtain ⟨pb,po,pc⟩:=p
 simp only at hp
 constructor
 ·rw[←c0];simp[go_sem]
 ·rw[←c1];simp[go_sem]
 ·rw[←c2];simp[go_sem]
 ·rw[←c3];simp[go_sem]
 ·rw[←c4];simp[go_sem]
 ·rw[←c5];simp[go_sem]
 ·rw[←f0];simp[go_sem]
 ·rw[←f1];simp[go_sem]
 ·rw[←f2];simp[go_sem]
 ·rw[←f3];simp[go_sem]
 ·rw[←f4];simp[go_sem]
 ·rw[←f5];simp[go_sem]
theorem keep_set {m:Nat→Prop}(W:World) (p:Addr) (u:Value) (h:¬ m p.block):Kept m W (W.setCell p u):=fun j hj=>Below.heap_setCell _ _ _ _ (fun e=>h (by rw[e] at hj;exact hj))
section
variable {w0 W W' : World} {Hr Ho Hs Hx n c : Nat} {ok : Bool} {A : Option Addr} {r : List UInt8} {k d i : Int} {x1 x2 : ByteArray} {vl : Value}
theorem PSt.below (h:PSt w0 Hr Ho Hs Hx W ok A n c r k d i x1 x2 vl) (hb:Below W.heap.size W W'):PSt w0 Hr Ho Hs Hx W' ok A n c r k d i x1 x2 vl:=by
 obtain ⟨o0,o1,o2,o3,o4⟩:=h.ord
 have hs:=hb.size
 exact ⟨h.bel.trans (hb.mono h.bel.size),⟨o0,o1,o2,o3,by omega⟩,h.okc.below hb (by omega),h.rst.below hb (by omega),h.six.below hb o4,h.res.below hb (by omega),h.len,h.cap,
  (h.row.keep (Kept.of_below hb fun j hj=>hj.2)).mono fun j hj=>⟨hj.1,by have:=hj.2;omega⟩⟩
theorem PSt.drewN (h:PSt w0 Hr Ho Hs Hx W ok A n c r k d i x1 x2 vl) (q:Nat):PSt w0 Hr Ho Hs Hx (W.drewN q) ok A n c r k d i x1 x2 vl:=h.below (below_d (Below.refl _ _) q)
theorem PSt.sees (h:PSt w0 Hr Ho Hs Hx W ok A n c r k d i x1 x2 vl):Sees W W.heap.size A (bv r):=h.row.sees fun _ hj=>hj.2
theorem size_set (w:World) (p:Addr) (u:Value):(w.setCell p u).heap.size=w.heap.size:=by simp
theorem PSt.setOk (h:PSt w0 Hr Ho Hs Hx W ok A n c r k d i x1 x2 vl) (b:Bool):PSt w0 Hr Ho Hs Hx (W.setCell ⟨Ho,0,none⟩ (.bool b)) b A n c r k d i x1 x2 vl:=by
 obtain ⟨o0,o1,o2,o3,o4⟩:=h.ord
 exact ⟨h.bel.setCell (by show _≤Ho;omega) _,⟨o0,o1,o2,o3,by rw[size_set];exact o4⟩,h.okc.set _,h.rst.set_ne (by show Ho≠Hs;omega) _,h.six.set_ne (by show Ho≠Hx;omega) _,h.res.set_ne (by show Ho≠Hr;omega) _,h.len,h.cap,
  by rw[size_set];exact h.row.keep (keep_set W _ _ fun hj=>by have h1:=hj.1;simp only at h1;omega)⟩
theorem PSt.setRest (h:PSt w0 Hr Ho Hs Hx W ok A n c r k d i x1 x2 vl) {A' : Option Addr}{n' c' : Nat}{r' : List UInt8}(hl:r'.length=n') (hc:n'≤c') (hr:SeesM (fun j=>(j<Hr∨Hx<j)∧j<W.heap.size) W A' (bv r')) :
  PSt w0 Hr Ho Hs Hx (W.setCell ⟨Hs,0,none⟩ (.slice A' n' c')) ok A' n' c' r' k d i x1 x2 vl:=by
 obtain ⟨o0,o1,o2,o3,o4⟩:=h.ord
 exact ⟨h.bel.setCell (by show _≤Hs;omega) _,⟨o0,o1,o2,o3,by rw[size_set];exact o4⟩,h.okc.set_ne (by show Hs≠Ho;omega) _,h.rst.set _,h.six.set_ne (by show Hs≠Hx;omega) _,h.res.set_ne (by show Hs≠Hr;omega) _,hl,hc,
  by rw[size_set];exact hr.keep (keep_set W _ _ fun hj=>by have h1:=hj.1;simp only at h1;omega)⟩
theorem PSt.setX (h:PSt w0 Hr Ho Hs Hx W ok A n c r k d i x1 x2 vl) {j:Nat}{u:Value}{k' d' i' : Int}{x1' x2' : ByteArray}{vl' : Value}(hs:SixAt (W.setCell ⟨Hx,j,none⟩ u) Hx (.int .i64 k') vl' (.string x1') (.string x2') (.int .i64 d') (.int .i64 i')) :
  PSt w0 Hr Ho Hs Hx (W.setCell ⟨Hx,j,none⟩ u) ok A n c r k' d' i' x1' x2' vl':=by
 obtain ⟨o0,o1,o2,o3,o4⟩:=h.ord
 exact ⟨h.bel.setCell (by show _≤Hx;omega) _,⟨o0,o1,o2,o3,by rw[size_set];exact o4⟩,h.okc.set_ne (by show Hx≠Ho;omega) _,h.rst.set_ne (by show Hx≠Hs;omega) _,hs,h.res.set_ne (by show Hx≠Hr;omega) _,h.len,h.cap,
  by rw[size_set];exact h.row.keep (keep_set W _ _ fun hj=>by have h1:=hj.1;simp only at h1;omega)⟩
theorem seesM_cut {m:Nat→Prop}{xs:List Value}(h:SeesM m W A xs) {q cap:Nat}(hc:xs.length≤cap):SeesM m W (if cap=q then A else A.map (fun x=>x.add q)) (xs.drop q):=by
 rcases h.out with h|⟨ad,e,h1,h2⟩
 ·exact ⟨.inl (by rw[h];simp)⟩
 ·by_cases hq:cap=q
  ·exact ⟨.inl (List.drop_eq_nil_of_le (by omega))⟩
  ·rw[if_neg hq]
   refine ⟨.inr ⟨ad.add q,by rw[e];rfl,by rw[add_block];exact h1,fun j u hu => ?_⟩⟩
   rw[add_add']
   exact h2 _ u (by rw[←hu,List.getElem?_drop])
theorem PSt.take (h:PSt w0 Hr Ho Hs Hx W ok A n c r k d i x1 x2 vl) {e:Ending}(ht:TakeOut W Ho Hs A n c r e W') :
  ∃(z:Nat) (ok' : Bool) (A' : Option Addr) (n' c' : Nat) (r' : List UInt8),e = .returned (.int .i64 (z:Nat))∧n'≤n∧PSt w0 Hr Ho Hs Hx W' ok' A' n' c' r' k d i x1 x2 vl∧((4≤r.length∧z=num r∧ok'=ok∧r'=r.drop 4)∨(r.length<4∧ok'=false)):=by
 have hl:=h.len
 have hc:=h.cap
 rcases ht with ⟨h4,rfl,q,A',rfl,rfl⟩|⟨h4,rfl,rfl⟩
 ·refine ⟨num r,ok,(if c=4 then A else A.map fun x=>x.add 4),n - 4,c - 4,r.drop 4,rfl,by omega,?_,.inl ⟨by omega,rfl,rfl,rfl⟩⟩
  refine (h.drewN q).setRest (by rw[List.length_drop,hl]) (by omega) ?_
  rw[bv_drop]
  exact seesM_cut (h.drewN q).row (by rw[bv_length];omega)
 ·exact ⟨0,false,A,n,c,r,rfl,Nat.le_refl _,h.setOk false,.inr ⟨by omega,rfl⟩⟩
theorem PSt.text (h:PSt w0 Hr Ho Hs Hx W ok A n c r k d i x1 x2 vl) {e:Ending}(ht:TextOut W Ho Hs ok r e W') :
  ∃(A' : Option Addr) (n' c' : Nat),e = .returned (.string (strOf (cutR r).1))∧n'≤n∧PSt w0 Hr Ho Hs Hx W' (ok && decide ((cutR r).2.2=0)) A' n' c' (left r) k d i x1 x2 vl:=by
 obtain ⟨W2,A',m,c',rfl,hb,hown,hm,hc,rfl⟩:=ht
 have hl:=h.len
 have h2:=(h.below hb).setOk (ok && decide ((cutR r).2.2=0))
 have ho:=h.ord
 refine ⟨A',m,c',rfl,?_,h2.setRest hm.symm hc ?_⟩
 ·have:=left_len r;unfold left at this;omega
 ·have h3:SeesM (fun j=>W.heap.size≤j∧j<W2.heap.size) W2 A' (bv (left r)):=ownB_seesM hown
  exact (h3.mono fun j hj=>(⟨.inr (by omega),by rw[size_set];exact hj.2⟩:(j<Hr∨Hx<j)∧j<(W2.setCell ⟨Ho,0,none⟩ (.bool (ok && decide ((cutR r).2.2=0)))).heap.size)) |>.keep (keep_set W2 _ _ fun hj=>by have h1:=hj.1;simp only at h1;omega)
def LabAt (W:World) (_ Hx:Nat) (vl:Value) (ls:List Lb):Prop:=∃A n c,vl = .slice A n c∧ls.length=n∧n≤c∧SeesM (fun j=>Hx<j∧j<W.heap.size) W A (lv ls)
theorem LabAt.nil (W:World) (Hr Hx:Nat):LabAt W Hr Hx (.slice none 0 0) []:=⟨none,0,0,rfl,rfl,Nat.le_refl _,⟨.inl rfl⟩⟩
theorem LabAt.keep {ls:List Lb}(h:LabAt W Hr Hx vl ls) (hs:W.heap.size≤W'.heap.size) (hk:Kept (fun j=>Hx<j∧j<W.heap.size) W W'):LabAt W' Hr Hx vl ls:=by
 obtain ⟨A,n,c,h1,h2,h3,h4⟩:=h
 exact ⟨A,n,c,h1,h2,h3,(h4.keep hk).mono fun j hj=>⟨hj.1,by have:=hj.2;omega⟩⟩
theorem LabAt.set {ls:List Lb}(h:LabAt W Hr Hx vl ls) {p:Addr}(hp:Hr≤p.block∧p.block≤Hx) (u:Value):LabAt (W.setCell p u) Hr Hx vl ls :=
 h.keep (by rw[size_set];exact Nat.le_refl _) (keep_set W p u fun hj=>by have h1:=hj.1;omega)
theorem LabAt.below {ls:List Lb}(h:LabAt W Hr Hx vl ls) (hb:Below W.heap.size W W'):LabAt W' Hr Hx vl ls:=h.keep hb.size (Kept.of_below hb fun _ hj=>hj.2)
theorem LabAt.take {ls:List Lb}(lab:LabAt W Hr Hx vl ls) {vx:Value}(h:PSt w0 Hr Ho Hs Hx W ok A n c r k d i x1 x2 vx) {e:Ending}(ht:TakeOut W Ho Hs A n c r e W'):LabAt W' Hr Hx vl ls:=by
 have ho:=h.ord
 rcases ht with ⟨-, -,q,A',rfl, -⟩|⟨-, -,rfl⟩
 ·exact (lab.below (below_d (Below.refl _ _) q)).set ⟨by show Hr≤Hs;omega,by show Hs≤Hx;omega⟩ _
 ·exact lab.set ⟨by show Hr≤Ho;omega,by show Ho≤Hx;omega⟩ _
theorem seesM_take {m:Nat→Prop}{l:List UInt8}(h:SeesM m W A (bv l)) (q:Nat):SeesM m W A (bv (l.take q)):=by
 rw[bv_take]
 rcases h.out with h|⟨ad,e,h1,h2⟩
 ·exact ⟨.inl (by rw[h];simp)⟩
 ·refine ⟨.inr ⟨ad,e,h1,fun j u hu=>h2 j u ?_⟩⟩
  rw[List.getElem?_take] at hu
  split at hu
  ·exact hu
  ·cases hu
theorem PSt.all (h:PSt w0 Hr Ho Hs Hx W ok A n c r k d i x1 x2 vl) {b:List UInt8}{e:Ending}(ht:AllOut W Ho ok b e W') :
  ∃(v:Value) (ls:List Lb) (ok' : Bool),e = .returned v∧PSt w0 Hr Ho Hs Hx W' ok' A n c r k d i x1 x2 vl∧LabAt W' Hr Hx v ls∧ls.length≤6∧(∀x∈ls,x.1.size≤9223372036854775807)∧sortN ls=ls ∧
   ((parse b).2=0→MayL (parse b).1→sortN (parse b).1=(parse b).1→ok'=ok∧ls=(parse b).1):=by
 obtain ⟨W2,v,rfl,hb,⟨r1,r2,r3,hown,rfl⟩|⟨hno,rfl,rfl⟩⟩:=ht
 ·have ho:=h.ord
  obtain ⟨A1,c1,rfl,h1, -,h2⟩:=hown.open_
  have hown':=hown
  refine ⟨_,(parse b).1,ok,rfl,(h.below hb).setOk ok,?_,r2.few,fun x hx=>by have:=okL_size (r2.ok x hx);omega,r3,fun _ _ _=>⟨rfl,rfl⟩⟩
  refine LabAt.set ⟨A1,_,c1,rfl,rfl,h1,?_⟩ ⟨by show Hr≤Ho;omega,by show Ho≤Hx;omega⟩ _
  exact (ownL_seesM hown).mono fun j hj=>⟨by omega,hj.2⟩
 ·exact ⟨_, [],false,rfl,(h.below hb).setOk false,LabAt.nil _ _ _,by simp,by simp,rfl,fun g1 g2 g3=>absurd ⟨g1,g2,g3⟩ hno⟩
where
 ownL_seesM {w:World}{base n c:Nat}{A:Option Addr}{l:List Lb}(h:OwnL w base (.slice A n c) l):SeesM (fun k=>base≤k∧k<w.heap.size) w A (lv l):=by
  rcases h.2 with ⟨h0,h1⟩|⟨g,cap,cur,hv,hg,hh,hcap,hm,hx⟩
  ·refine ⟨.inl ?_⟩
   have:=h.1
   rw[h1,Nat.zero_mul] at this
   exact List.eq_nil_of_length_eq_zero this
  ·injection hv with hv
   exact ⟨.inr ⟨⟨g,0,none⟩,hv,⟨hg,(Array.getElem?_eq_some_iff.1 hh).1⟩,World.ownsRow.cells h (g:=g) (by simp[Value.ownBlock,hv])⟩⟩
end
end
end Go.Proofs.YtalmnodgjjcefaaGreatDoor
