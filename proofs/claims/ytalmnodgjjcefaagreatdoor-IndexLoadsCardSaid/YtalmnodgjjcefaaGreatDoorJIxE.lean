/- The document's example of an index, walked. -/
import Derived.Test.YtalmnodgjjcefaaGreatDoorJIxD
set_option maxRecDepth 100000
set_option maxHeartbeats 3200000
namespace Go.Proofs.YtalmnodgjjcefaaGreatDoor
section
open Go.RowKit
structure ActI where
 kind:Int
 labels:List Lb
 day:Int
 a:Int
 b:Int
structure ActsI (m:Nat→Prop) (w:World) (A:Option Addr) (ls:List ActI):Prop where
 out:∀i (hi:i<ls.length),∃ad Ai ci,A=some ad∧m ad.block∧w.cell? (ad.add (i*5))=some (.int .i64 ls[i].kind)∧w.cell? ⟨(ad.add (i*5)).block,(ad.add (i*5)).off+1,none⟩=some (.slice Ai ls[i].labels.length ci) ∧
  w.cell? ⟨(ad.add (i*5)).block,(ad.add (i*5)).off+2,none⟩=some (.int .i64 ls[i].day)∧w.cell? ⟨(ad.add (i*5)).block,(ad.add (i*5)).off+3,none⟩=some (.int .i64 ls[i].a)∧w.cell? ⟨(ad.add (i*5)).block,(ad.add (i*5)).off+4,none⟩=some (.int .i64 ls[i].b) ∧
  ls[i].labels.length≤ci∧SeesM m w Ai (lv ls[i].labels)
theorem ActsI.keep {m:Nat→Prop}{w w' : World}{A:Option Addr}{ls:List ActI}(h:ActsI m w A ls) (hk:Kept m w w'):ActsI m w' A ls:=⟨fun i hi=>by
 obtain ⟨ad,Ai,ci,e,h1,h2,h3,h4,h5,h6,h7,h8⟩:=h.out i hi
 have hc:∀o,w'.cell? ⟨(ad.add (i*5)).block,o,none⟩=w.cell? ⟨(ad.add (i*5)).block,o,none⟩:=fun o=>hk.cell (p:=⟨(ad.add (i*5)).block,o,none⟩) (by show m (ad.add (i*5)).block;rw[add_block];exact h1)
 exact ⟨ad,Ai,ci,e,h1,(hk.cell (by rw[add_block];exact h1)).trans h2,(hc _).trans h3,(hc _).trans h4,(hc _).trans h5,(hc _).trans h6,h7,h8.keep hk⟩⟩
theorem ActsI.below {b:Nat}{w w' : World}{A:Option Addr}{ls:List ActI}(h:ActsI (fun k=>k<b) w A ls) (hb:Below b w w'):ActsI (fun k=>k<b) w' A ls:=h.keep (Kept.of_below hb fun _ e=>e)
def FewL (l:List Lb):Prop:=l.length≤8∧∀y∈l,y.1.size≤30∧y.2.size≤30
structure FewI (ls:List ActI):Prop where
 len:ls.length≤25
 all:∀x∈ls,FewL x.labels
def FewIs (w:World) (ls:List ActI) (e:Ending) (w' : World):Prop:=∃b:Bool,(b=true→FewI ls)∧e = .returned (.bool b)∧w=w'
theorem FewIs.no {w:World}{ls:List ActI} : FewIs w ls (.returned (.bool false)) w:=⟨false,fun e=>absurd e (by simp),rfl,rfl⟩
def FewTill (l:List Lb) (k:Nat):Prop:=∀j (h:j<l.length),j<k→l[j].1.size≤30∧l[j].2.size≤30
theorem few_any (m:Nat→Prop) (A:Option Addr) (n c:Nat) (ls:List ActI) (hn:ls.length=n) (w:World) (hS:ActsI m w A ls) :
  Calls Tryz.prog 10 #[.slice A n c] w (FewIs w ls):=by
 by_cases h25:n≤25
 ·have i25:(n:Int)≤25:=by omega
  have HN:=Lib.hid hn
  clear hn
  go_enter Tryz.func10,Tryz.ntmps10
  go_wp2
  go_loopg [3] n (fun g i wr=>∃k:Nat,k+g=n∧i = .int .i64 k∧Hid (∀j (hj:j<ls.length),j<k→FewL ls[j].labels)∧wr=w)
  case atStart=>exact ⟨0,by omega,rfl,fun j _ h=>absurd h (by omega),rfl⟩
  case round =>
   obtain ⟨k,hk,rfl,hfew,rfl⟩:=hrel
   by_cases hlt:k<n
   ·have hkl:k<ls.length:=by have:=HN.out;omega
    obtain ⟨ad,Ai,ci,rfl,hadm, -,hc1, -, -, -,hci,hsl⟩:=hS.out k hkl
    obtain ⟨L,hL⟩:∃L,ls[k].labels=L:=⟨_,rfl⟩
    rw[hL] at hc1 hsl
    have HL:=Lib.hid hL
    obtain ⟨nl,hnl⟩:∃nl,L.length=nl:=⟨_,rfl⟩
    rw[hnl] at hc1
    have HNL:=Lib.hid hnl
    clear hL hnl hci
    by_cases h8:nl≤8
    ·have i8:(nl:Int)≤8:=by omega
     obtain ⟨wo,rfl⟩:∃wo,wo=wr:=⟨_,rfl⟩
     go_wp2
     go_loopg [4] nl (fun g i wr=>∃j:Nat,j+g=nl∧i = .int .i64 j∧Hid (FewTill L j)∧wr=wo)
     case atStart=>exact ⟨0,by omega,rfl,fun j _ h=>absurd h (by omega),rfl⟩
     case round =>
      obtain ⟨j,hj,rfl,hft,rfl⟩:=hrel
      by_cases hjl:j<nl
      ·have hjL:j<L.length:=by have:=HNL.out;omega
       obtain ⟨al,rfl,halB,p0,p1⟩:∃al,Ai=some al∧m al.block∧wr.cell? (al.add (j*2))=some (.string L[j].1)∧wr.cell? ⟨(al.add (j*2)).block,(al.add (j*2)).off+1,none⟩=some (.string L[j].2):=by
        rcases hsl.out with h|⟨al,e,hm,hc⟩
        ·have:=congrArg List.length h
         rw[lv_length] at this
         simp at this;omega
        ·have:=lv_at L j hjL
         rw[Nat.mul_comm] at this
         refine ⟨al,e,hm,hc _ _ this.1,?_⟩
         rw[←add_field al (j*2) 1 (by omega)]
         exact hc _ _ this.2
       obtain ⟨x,hx⟩:∃x,L[j]=x:=⟨_,rfl⟩
       rw[hx] at p0 p1
       have HX:=Lib.hid hx
       clear hx
       by_cases s1:x.1.size≤30
       ·have s1' : (x.1.size:Int)≤30:=by omega
        by_cases s2:x.2.size≤30
        ·have s2' : (x.2.size:Int)≤30:=by omega
         go_wp2
         go_roundg (nl - (j+1))
         case measure=>omega
         case rel =>
          refine ⟨j+1,by omega,by go_num,fun i hi hij => ?_,rfl⟩
          by_cases e:i=j
          ·subst e;rw[HX.out];exact ⟨s1,s2⟩
          ·exact hft.out i hi (by omega)
        ·have s2' : (30:Int)<(x.2.size:Int):=by omega
         go_wp2
         go_ret
         exact FewIs.no
       ·have s1' : (30:Int)<(x.1.size:Int):=by omega
        go_wp2
        go_ret
        exact FewIs.no
      ·have hjn:j=nl:=by omega
       have hfl:Hid (FewL L):=⟨by rw[HNL.out];exact h8,fun y hy=>by obtain ⟨i,hi,e⟩:=List.mem_iff_getElem.1 hy;rw[←e];exact hft.out i hi (by have:=HNL.out;omega)⟩
       subst hjn
       go_wp2
       go_roundg (n - (k+1))
       case measure=>omega
       case rel =>
        refine ⟨k+1,by omega,by go_num,fun i hi hij => ?_,rfl⟩
        by_cases e:i=k
        ·subst e;rw[HL.out];exact hfl.out
        ·exact hfew.out i hi (by omega)
    ·have i8:(8:Int)<(nl:Int):=by omega
     go_wp2
     go_ret
     exact FewIs.no
   ·have hkn:k=n:=by omega
    have HF:Hid (FewI ls):=⟨by rw[HN.out];exact h25,fun x hx=>by obtain ⟨j,hj,e⟩:=List.mem_iff_getElem.1 hx;rw[←e];exact hfew.out j hj (by have:=HN.out;omega)⟩
    clear HN
    subst hkn
    go_wp2
    go_ret
    exact ⟨true,fun _=>HF.out,rfl,rfl⟩
 ·have i25:(25:Int)<(n:Int):=by omega
  clear hn
  go_enter Tryz.func10,Tryz.ntmps10
  go_wp2
  go_ret
  exact FewIs.no
end
section
open Go.RowKit
def newX (X:List Ser) (c:List Lb):Int:=if idX X c=0 then ((X.length+1:Nat):Int) else idX X c
theorem addX_len (X:List Ser) (c:List Lb) (d:Int):(addX X c d).length≤X.length+1:=by
 unfold addX
 split
 ·simp
 ·simp
section
variable {N : Nat} {m : Nat → Prop} {w : World} {P : Nat} {s : SetM} {X : List Ser}
theorem add_live (h:Live N m w P s X) (hN:N+14≤500) (A:Option Addr) (n c:Nat) (ls:List Lb) (hn:ls.length=n) (hS:Sees w w.heap.size A (lv ls)) (hlen:n≤1000) (hsz:∀x∈ls,x.1.size≤9223372036854775807) (day:Int) (hm:MayL ls) (hd0:0≤day) (hd1:day≤2147483647) :
  Calls Tryz.prog 12 #[.pointer (some ⟨P,0,none⟩),.slice A n c,.int .i64 day] w fun e w'=>e = .returned (.tuple #[.int .i64 (newX X (sortN ls)),.int .i64 0])∧Live (N+14) m w' P (s.adds (s.wantOf ls day)) (addX X (sortN ls) day)∧Turn m w w':=by
 have hmem:=h.mem
 have hfew:=h.few
 have hX:X.length<1000:=by omega
 have hid:=h.inv.idOf hm
 have hwl:=h.inv.want_len (day:=day) hm
 have hal:=addX_len X (sortN ls) day
 have hok:=adds_ok (l:=s.wantOf ls day) h.ok h.tot
 have hinv:=h.inv.add hX hm hd0 hd1 (by omega)
 have hL:∀w' e,AddIs m w P (s.adds (s.wantOf ls day)) (newX X (sortN ls)) 0 e w'→e = .returned (.tuple #[.int .i64 (newX X (sortN ls)),.int .i64 0])∧Live (N+14) m w' P (s.adds (s.wantOf ls day)) (addX X (sortN ls) day)∧Turn m w w':=fun w' e hA=>⟨hA.1,⟨hA.2.ix,hok.1,by omega,hinv,by omega⟩,hA.2.turn⟩
 by_cases h0:s.idOf ls=0
 ·have e1:s.next=newX X (sortN ls):=by unfold newX;rw[←hid,if_pos h0];exact h.inv.next
  have:=add_fresh h.ix (h.fit (by omega)) h.inv hX A n c ls hn hS hlen hsz day hm hd0 hd1 h0 (by omega) (by have:=h.tot;omega)
  rw[e1] at this
  exact this.mono fun e w' hA=>hL w' e hA
 ·have e1:s.idOf ls=newX X (sortN ls):=by unfold newX;rw[if_neg (by rw[←hid];exact h0),hid]
  have:=add_old h.ix (h.fit (by omega)) h.inv hX A n c ls hn hS hlen hsz day hm hd0 hd1 h0 (by omega) (by have:=h.tot;omega)
  rw[e1] at this
  exact this.mono fun e w' hA=>hL w' e hA
theorem find_live (h:Live N m w P s X) (hN:N≤900) (A:Option Addr) (n c:Nat) (fs:List Flt) (hn:fs.length=n) (hfit:FitF fs) (hS:Sees w w.heap.size A (fv fs)) (hn4:n≤100) :
  Calls Tryz.prog 16 #[.pointer (some ⟨P,0,none⟩),.slice A n c] w (FindIs w (idsX X (fitX fs)) (checkF fs)):=by
 have:=find_any h.ix (h.fit hN) A n c fs hn hfit hS hn4
 rw[h.inv.find] at this
 exact this
theorem on_live (h:Live N m w P s X) (hN:N≤900) (A:Option Addr) (n c:Nat) (fs:List Flt) (hn:fs.length=n) (hfit:FitF fs) (hS:Sees w w.heap.size A (fv fs)) (hn4:n≤100) (a b:Int) :
  Calls Tryz.prog 14 #[.pointer (some ⟨P,0,none⟩),.slice A n c,.int .i64 a,.int .i64 b] w (FindIs w (idsX X fun t=>fitX fs t && onX a b t) (checkF fs)):=by
 have:=on_any h.ix (h.fit hN) A n c fs hn hfit hS hn4 a b
 rw[h.inv.on] at this
 exact this
theorem drop_live (h:Live N m w P s X) (hN:N+1≤500) (id:Int) {t:Ser}(ht:atX X id=some t) :
  Calls Tryz.prog 18 #[.pointer (some ⟨P,0,none⟩),.int .i64 id] w fun e w'=>e = .returned (.int .i64 0)∧Live (N+1) m w' P (s.adds [makeR ⟨5, [],lb0,0,id⟩]) (dropX X id)∧Turn m w w':=by
 have hmem:=h.mem
 have hd:s.dropOf id=(s.adds [makeR ⟨5, [],lb0,0,id⟩],0):=by unfold SetM.dropOf;rw[h.inv.labOf,ht];rfl
 have:=drop_any h.ix (h.fit (by omega)) id (by omega) (by have:=h.tot;omega)
 rw[hd] at this
 have hok:=adds_ok (l := [makeR ⟨5, [],lb0,0,id⟩]) h.ok h.tot
 exact this.mono fun e w' hA=>⟨hA.1,⟨hA.2.ix,hok.1,hok.2,h.inv.drop ht (by omega),by unfold dropX;simp;have:=h.few;omega⟩,hA.2.turn⟩
theorem gone_live (h:Live N m w P s X) (hN:N≤900) (id:Int):Calls Tryz.prog 19 #[.pointer (some ⟨P,0,none⟩),.int .i64 id] w (Gives w (.bool (goneX X id))):=by
 have:=gone_any h.ix (h.fit hN) id
 rw[h.inv.gone] at this
 exact this
theorem next_live (h:Live N m w P s X) (hN:N≤900):Calls Tryz.prog 17 #[.pointer (some ⟨P,0,none⟩)] w (Gives w (.int .i64 ((X.length+1:Nat):Int))):=by
 have:=next_any h.ix (h.fit hN)
 rw[h.inv.next] at this
 exact this
theorem new_live (w:World):Calls Tryz.prog 11 #[] w fun e w'=>∃P,e = .returned (.pointer (some ⟨P,0,none⟩))∧Live 0 (fun k=>w.heap.size≤k∧k<w'.heap.size) w' P SetM.new []∧Below w.heap.size w w' :=
 (Ix_new w).mono fun e w' ⟨P,h1,h2,h3⟩=>⟨P,h1,⟨h2,SetOk.new,by simp[SetM.total,SetM.new],Inv.new,by simp⟩,h3⟩
theorem Live.turn {T:Nat→Prop}{w' : World}(h:Live N m w P s X) (ht:Turn T w w') (hT:∀k,m k→¬ T k):Live N m w' P s X:=⟨h.ix.turn ht hT,h.ok,h.tot,h.inv,h.few⟩
end
def sJ:ByteArray:=⟨#[106,111,98]⟩
theorem job_any (v:ByteArray) (w:World):Calls Tryz.prog 13 #[.string v] w fun e w'=>e = .returned (.slice (some ⟨w.heap.size,0,none⟩) 1 1)∧Sees w' w'.heap.size (some ⟨w.heap.size,0,none⟩) (lv [(sJ,v)])∧Below w.heap.size w w'∧w'.heap.size=w.heap.size+1:=by
 go_enter Tryz.func13,Tryz.ntmps13
 go_wp2
 go_ret
 exact ⟨rfl,(sees_newL w [(sJ,v)] _ _ rfl).more (by simp),(Below.refl _ w).alloc (Nat.le_refl _) _,by simp⟩
end
section
open Go.RowKit
def vX:ByteArray:=⟨#[120]⟩
def vY:ByteArray:=⟨#[121]⟩
def eX1:List Ser := [⟨[(sJ,vX)],false, [3]⟩]
def eX2:List Ser := [⟨[(sJ,vX)],false, [3]⟩,⟨[(sJ,vY)],false, [3]⟩]
def eX3:List Ser := [⟨[(sJ,vX)],false, [3]⟩,⟨[(sJ,vY)],true, [3]⟩]
def eX4:List Ser := [⟨[(sJ,vX)],false, [3]⟩,⟨[(sJ,vY)],true, [3]⟩,⟨[(sJ,vY)],false, [4]⟩]
def eF:Flt:=⟨sJ,vX,false,true⟩
theorem ev1:addX [] [(sJ,vX)] 3=eX1∧newX [] [(sJ,vX)]=1:=⟨by kernel_rfl,by decide +kernel⟩
theorem ev2:addX eX1 [(sJ,vY)] 3=eX2∧newX eX1 [(sJ,vY)]=2:=⟨by kernel_rfl,by decide +kernel⟩
theorem ev3:idsX eX2 (fitX [eF]) = [2]∧checkF [eF]=0:=by decide +kernel
theorem ev4:dropX eX2 2=eX3:=by kernel_rfl
theorem ev5:addX eX3 [(sJ,vY)] 4=eX4∧newX eX3 [(sJ,vY)]=3:=⟨by kernel_rfl,by decide +kernel⟩
theorem ev6:(idsX eX4 fun t=>fitX [] t && onX 0 3 t) = [1]∧checkF []=0∧goneX eX4 2=true:=by decide +kernel
theorem evm (v:ByteArray) (h:okL (sJ,v)=true):MayL [(sJ,v)]∧sortN [(sJ,v)] = [(sJ,v)]:=⟨may1.2 h,rfl⟩
theorem evx:okL (sJ,vX)=true:=by decide +kernel
theorem evy:okL (sJ,vY)=true:=by decide +kernel
theorem job_sz (v:ByteArray):∀x ∈ [(sJ,v)],x.1.size≤9223372036854775807:=fun x hx=>by rw[List.mem_singleton.1 hx];show sJ.size≤_;decide
theorem sees_flt (w:World) (t:TypeId) (f:Flt):Sees (w.alloc (.cells #[.string f.name,.string f.value,.bool f.pre,.bool f.inv] t)) (w.alloc (.cells #[.string f.name,.string f.value,.bool f.pre,.bool f.inv] t)).heap.size (some ⟨w.heap.size,0,none⟩) (fv [f]):=by
 refine ⟨.inr ⟨_,rfl,by simp,fun j u hu => ?_⟩⟩
 rw[Addr.add_lit,Nat.zero_add,World.cell?_alloc_at _ _ _ _ rfl]
 simpa[fv] using hu
theorem sees_int (w:World) (i:Int) (t:TypeId):Sees (w.alloc (.cells #[.int .i64 i] t)) (w.alloc (.cells #[.int .i64 i] t)).heap.size (some ⟨w.heap.size,0,none⟩) (KI.iv [i]):=by
 refine ⟨.inr ⟨_,rfl,by simp,fun j u hu => ?_⟩⟩
 rw[Addr.add_lit,Nat.zero_add,World.cell?_alloc_at _ _ _ _ rfl]
 simpa[KI.iv] using hu
theorem awake_any (w:World):Calls Tryz.prog 9 #[] w (IsTrue w):=by
 have hN:=Lib.hid (new_live w)
 have hJ:=fun v W=>Lib.hid (job_any v W)
 go_enter Tryz.func9,Tryz.ntmps9
 go_wp2_with fail
 refine hN.out.mono ?_
 rintro e w1 ⟨P,rfl,hL1,hb1⟩
 obtain ⟨m,hm⟩:∃m:Nat→Prop,(fun k=>w.heap.size≤k∧k<w1.heap.size)=m:=⟨_,rfl⟩
 rw[hm] at hL1
 have hlow:∀k,m k→w.heap.size≤k:=fun k e=>by rw[←hm] at e;exact e.1
 have hlt:∀k,m k→k<w1.heap.size:=fun k e=>by rw[←hm] at e;exact e.2
 clear hm hN
 go_wp2_with fail
 refine (hJ _ _).out.mono ?_
 rintro e w2 ⟨rfl,hs2,hb2,hz2⟩
 have hA:=Lib.hid (add_live (hL1.below hb2) (by omega) (some ⟨w1.heap.size,0,none⟩) 1 1 [(sJ,vX)] rfl hs2 (by omega) (job_sz vX) 3 (evm vX evx).1 (by omega) (by omega))
 rw[(evm vX evx).2,ev1.1,ev1.2] at hA
 clear hL1
 go_wp2_with fail
 refine hA.out.mono ?_
 rintro e w3 ⟨rfl,hL3,ht3⟩
 clear hA hs2
 go_wp2_with fail
 refine (hJ _ _).out.mono ?_
 rintro e w4 ⟨rfl,hs4,hb4,hz4⟩
 have hA:=Lib.hid (add_live (hL3.below hb4) (by omega) (some ⟨w3.heap.size,0,none⟩) 1 1 [(sJ,vY)] rfl hs4 (by omega) (job_sz vY) 3 (evm vY evy).1 (by omega) (by omega))
 rw[(evm vY evy).2,ev2.1,ev2.2] at hA
 clear hL3
 go_wp2_with fail
 refine hA.out.mono ?_
 rintro e w5 ⟨rfl,hL5,ht5⟩
 clear hA hs4
 obtain ⟨w6,hw6⟩:∃w6,w5.alloc (.cells #[.string eF.name,.string eF.value,.bool eF.pre,.bool eF.inv] 81)=w6:=⟨_,rfl⟩
 have hs6:=sees_flt w5 81 eF
 rw[hw6] at hs6
 have hb6:Below w5.heap.size w5 w6:=by rw[←hw6];exact (Below.refl _ w5).alloc (Nat.le_refl _) _
 have hFi:=Lib.hid (find_live (hL5.below hb6) (by omega) (some ⟨w5.heap.size,0,none⟩) 1 1 [eF] rfl (fun f hf=>by rw[List.mem_singleton.1 hf];decide) hs6 (by omega))
 rw[ev3.1,ev3.2] at hFi
 have HL5:=Lib.hid hL5
 change w5.alloc (.cells #[.string ⟨#[106,111,98]⟩,.string ⟨#[120]⟩,.bool false,.bool true] 81)=w6 at hw6
 clear hL5 hs6
 go_wp2_with fail
 refine hFi.out.mono ?_
 rintro e w7 ⟨A7,n7,c7,rfl,hb7,⟨-,hn7,hc7,hs7⟩|⟨h0, -⟩⟩
 rotate_left
 ·exact absurd rfl h0
 have hn7' : n7=1:=hn7
 subst hn7'
 have hz3:=ht3.size
 have hz5:=ht5.size
 have hz6:=hb6.size
 have hz7:=hb7.size
 have HS7:=Lib.hid hs7
 have hD:=Lib.hid (drop_live ((HL5.out.below hb6).below hb7) (by omega) 2 (t:=⟨[(sJ,vY)],false, [3]⟩) rfl)
 rw[ev4] at hD
 clear hFi hs7 hn7
 go_wp2_with fail
 refine hD.out.mono ?_
 rintro e w8 ⟨rfl,hL8,ht8⟩
 have hz8:=ht8.size
 clear hD
 go_wp2_with fail
 refine (hJ _ _).out.mono ?_
 rintro e w9 ⟨rfl,hs9,hb9,hz9⟩
 have hA:=Lib.hid (add_live (hL8.below hb9) (by omega) (some ⟨w8.heap.size,0,none⟩) 1 1 [(sJ,vY)] rfl hs9 (by omega) (job_sz vY) 4 (evm vY evy).1 (by omega) (by omega))
 rw[(evm vY evy).2,ev5.1,ev5.2] at hA
 clear hL8
 go_wp2_with fail
 refine hA.out.mono ?_
 rintro e w10 ⟨rfl,hL10,ht10⟩
 have hz10:=ht10.size
 clear hA hs9 hJ
 have hO:=Lib.hid (on_live hL10 (by omega) none 0 0 [] rfl (fun f hf=>by cases hf) ⟨.inl rfl⟩ (by omega) 0 3)
 rw[ev6.1,ev6.2.1] at hO
 have HL10:=Lib.hid hL10
 clear hL10
 go_wp2_with fail
 refine hO.out.mono ?_
 rintro e w11 ⟨A11,n11,c11,rfl,hb11,⟨-,hn11,hc11,hs11⟩|⟨h0, -⟩⟩
 rotate_left
 ·exact absurd rfl h0
 have hn11' : n11=1:=hn11
 subst hn11'
 have hz11:=hb11.size
 have hs7b:SeesM (fun k=>w6.heap.size≤k∧k<w7.heap.size) w11 A7 (KI.iv [2]):=by
  have h1:=HS7.out.keep (Kept.of_turn ht8 fun k e=>⟨e.2,fun e2=>by have:=hlt k e2;omega⟩)
  have h2:=h1.keep (Kept.of_below hb9 fun k e=>by omega)
  have h3:=h2.keep (Kept.of_turn ht10 fun k e=>⟨by omega,fun e2=>by have:=hlt k e2;omega⟩)
  exact h3.keep (Kept.of_below hb11 fun k e=>by omega)
 have hS1:=Lib.hid (KI.SameI_any A7 (some ⟨w11.heap.size,0,none⟩) 1 c7 1 1 [2] [2] rfl rfl (w11.alloc (.cells #[.int .i64 2] 3)) ((hs7b.sees (B:=w11.heap.size) fun k e=>by omega).alloc (Nat.le_refl _) _ |>.more (by simp)) (sees_int w11 2 _) (by omega))
 have HS11:=Lib.hid hs11
 have HB11:=Lib.hid (HL10.out.below hb11)
 clear hO hs11 hs7b hn11
 go_wp2_with fail
 refine hS1.out.mono ?_
 rintro e w12 ⟨rfl,q12,hw12⟩
 have hb12:Below w11.heap.size w11 w12:=by rw[hw12];exact below_d ((Below.refl _ w11).alloc (Nat.le_refl _) _) q12
 have hz12:=hb12.size
 rw[show (([2]:List Int) == [2])=true from by decide]
 have hs11:=HS11.out.keep (w':=w12) (Kept.of_below hb12 fun k e=>e.2)
 have hS2:=Lib.hid (KI.SameI_any A11 (some ⟨w12.heap.size,0,none⟩) 1 c11 1 1 [1] [1] rfl rfl (w12.alloc (.cells #[.int .i64 1] 3)) ((hs11.sees (B:=w12.heap.size) fun k e=>by omega).alloc (Nat.le_refl _) _ |>.more (by simp)) (sees_int w12 1 _) (by omega))
 have HB12:=Lib.hid (HB11.out.below hb12)
 clear hS1 hs11 hw12
 go_wp2_with fail
 refine hS2.out.mono ?_
 rintro e w13 ⟨rfl,q13,hw13⟩
 have hb13:Below w12.heap.size w12 w13:=by rw[hw13];exact below_d ((Below.refl _ w12).alloc (Nat.le_refl _) _) q13
 have hz13:=hb13.size
 rw[show (([1]:List Int) == [1])=true from by decide]
 have hG:=Lib.hid (gone_live (HB12.out.below hb13) (by omega) 2)
 rw[ev6.2.2] at hG
 have HB13:=Lib.hid (HB12.out.below hb13)
 clear hS2 hw13
 go_wp2_with fail
 refine hG.out.mono ?_
 rintro e w14 ⟨rfl,hb14⟩
 have hz14:=hb14.size
 have hX:=Lib.hid (next_live (HB13.out.below hb14) (by omega))
 rw[show ((eX4.length+1:Nat):Int)=4 from rfl] at hX
 clear hG
 go_wp2_with fail
 refine hX.out.mono ?_
 rintro e w15 ⟨rfl,hb15⟩
 go_wp2
 go_ret
 refine ⟨rfl,?_⟩
 have hl:∀ {A B:World},Turn m A B→w.heap.size≤A.heap.size→Below w.heap.size A B:=fun ht h=>ht.below hlow h
 have hz1:=hb1.size
 refine hb1.trans ((hb2.mono hz1).trans ((hl ht3 (by omega)).trans ((hb4.mono (by omega)).trans ((hl ht5 (by omega)).trans ((hb6.mono (by omega)).trans ((hb7.mono (by omega)).trans ((hl ht8 (by omega)).trans ((hb9.mono (by omega)).trans ((hl ht10 (by omega)).trans ((hb11.mono (by omega)).trans ((hb12.mono (by omega)).trans ((hb13.mono (by omega)).trans ((hb14.mono (by omega)).trans (hb15.mono (by omega)))))))))))))))
end
end Go.Proofs.YtalmnodgjjcefaaGreatDoor
