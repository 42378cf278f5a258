/- Several texts in one: RwParse RwParse2. -/
import Derived.Test.YtalmnodgjjcefaaGreatDoorJRwC
import Derived.Test.YtalmnodgjjcefaaGreatDoorJItm
set_option maxRecDepth 100000
set_option maxHeartbeats 6400000
namespace Go.Proofs.YtalmnodgjjcefaaGreatDoor
section
open Go.RowKit
def ParseOut (w:World) (b:List UInt8) (e:Ending) (w' : World):Prop :=
 ∃(A:Option Addr) (n c:Nat) (k d i:Int) (x1 x2:ByteArray) (ls:List Lb) (er:Nat),e = .returned (.tuple #[.agg #[.int .i64 k,.slice A n c,.string x1,.string x2,.int .i64 d,.int .i64 i],.int .i64 er])∧Below w.heap.size w w' ∧
  ls.length=n∧n≤c∧SeesM (fun j=>w.heap.size≤j∧j<w'.heap.size) w' A (lv ls) ∧
  ((er=0∧MayR ⟨k,ls,(x1,x2),d,i⟩∧sortN ls=ls∧makeR ⟨k,ls,(x1,x2),d,i⟩=b)∨(er=120∧NoRow b∧k=0∧ls = []∧(x1,x2)=lb0∧d=0∧i=0))
theorem ParseOut.bad {w w' : World}{b:List UInt8}(h:NoRow b) (hb:Below w.heap.size w w'):ParseOut w b (.returned (.tuple #[.agg #[.int .i64 0,.slice none 0 0,.string ⟨#[]⟩,.string ⟨#[]⟩,.int .i64 0,.int .i64 0],.int .i64 120])) w' :=
 ⟨none,0,0,0,0,0,_,_, [],120,rfl,hb,rfl,Nat.le_refl _,⟨.inl rfl⟩,.inr ⟨rfl,h,rfl,rfl,rfl,rfl,rfl⟩⟩
theorem noRow_short {b:List UInt8}(h:b.length≤4):NoRow b:=fun r hr e=>by have:=(make_len hr).1;rw[e] at this;omega
theorem SixAt.keep {w w' : World}{H:Nat}{v0 v1 v2 v3 v4 v5:Value}(h:SixAt w H v0 v1 v2 v3 v4 v5) (hk:w'.heap[H]?=w.heap[H]?):SixAt w' H v0 v1 v2 v3 v4 v5 :=
 ⟨(World.cell?_of_block (a:=⟨H,0,none⟩) hk).trans h.c0,(World.cell?_of_block (a:=⟨H,1,none⟩) hk).trans h.c1,(World.cell?_of_block (a:=⟨H,2,none⟩) hk).trans h.c2,(World.cell?_of_block (a:=⟨H,3,none⟩) hk).trans h.c3,(World.cell?_of_block (a:=⟨H,4,none⟩) hk).trans h.c4,(World.cell?_of_block (a:=⟨H,5,none⟩) hk).trans h.c5,
  (frozen_of_block (a:=⟨H,0,none⟩) hk).trans h.f0,(frozen_of_block (a:=⟨H,1,none⟩) hk).trans h.f1,(frozen_of_block (a:=⟨H,2,none⟩) hk).trans h.f2,(frozen_of_block (a:=⟨H,3,none⟩) hk).trans h.f3,(frozen_of_block (a:=⟨H,4,none⟩) hk).trans h.f4,(frozen_of_block (a:=⟨H,5,none⟩) hk).trans h.f5⟩
theorem Parse_short (A:Option Addr) (n c:Nat) (b:List UInt8) (hn:b.length=n) (w:World) (h4:n≤4) :
  Calls Tryz.prog 69 #[.slice A n c] w (ParseOut w b):=by
 have hno:=noRow_short (b:=b) (by omega)
 have HNO:=Lib.hid hno
 have hd:decide ((4:Int)<(n:Int))=false:=decide_eq_false (by omega)
 obtain ⟨W1,hW1⟩:∃W1,w.alloc (.cells #[.int .i64 0,.slice none 0 0,.string ⟨#[]⟩,.string ⟨#[]⟩,.int .i64 0,.int .i64 0] 92)=W1:=⟨_,rfl⟩
 obtain ⟨W2,hW2⟩:∃W2,W1.alloc (.cells #[.bool false] 4)=W2:=⟨_,rfl⟩
 have hb1:Below w.heap.size w W1:=hW1 ▸ KI_new w _
 have hb2:Below W1.heap.size W1 W2:=hW2 ▸ KI_new W1 _
 have hs1:w.heap.size<W1.heap.size:=by rw[←hW1];simp
 have one:OneAt W2 W1.heap.size (.bool false):=hW2 ▸ OneAt.new W1 _ _
 have six:SixAt W2 w.heap.size (.int .i64 0) (.slice none 0 0) (.string ⟨#[]⟩) (.string ⟨#[]⟩) (.int .i64 0) (.int .i64 0):=(hW1 ▸ SixAt.new w _ _ _ _ _ _ _:SixAt W1 w.heap.size _ _ _ _ _ _).below hb2 hs1
 have hb02:=hb1.trans (hb2.mono hb1.size)
 obtain ⟨WF,hWF,z,hbF, -⟩:=(six.set_ne (p:=⟨W1.heap.size,0,none⟩) (by show W1.heap.size≠_;omega) (.bool false)).store (Nat.le_refl _) (.int .i64 0) (.slice none 0 0) (.string ⟨#[]⟩) (.string ⟨#[]⟩) (.int .i64 0) (.int .i64 0)
 have hb2F:Below w.heap.size w WF:=hb02.trans (((Below.refl _ _).setCell (by show w.heap.size≤W1.heap.size;omega) _).trans hbF)
 obtain ⟨o0,o1⟩:=one
 have six':=six.set_ne (p:=⟨W1.heap.size,0,none⟩) (by show W1.heap.size≠_;omega) (.bool false)
 obtain ⟨g0,g1,g2,g3,g4,g5,f0,f1,f2,f3,f4,f5⟩:=six
 have HZ:=Lib.hid z
 have HWF:=Lib.hid hWF
 clear hno hn hb1 hb2 hWF z hbF six'
 go_enter Tryz.func69,Tryz.ntmps69
 go_wp2_with fail
 rw[HWF.out]
 obtain ⟨z0,z1,z2,z3,z4,z5, -⟩:=HZ.out
 refine bodyPost_ret (v := .tuple #[.agg #[.int .i64 0,.slice none 0 0,.string ⟨#[]⟩,.string ⟨#[]⟩,.int .i64 0,.int .i64 0],.int .i64 120]) (by simp[results,Tryz.results69,go_sem,z0,z1,z2,z3,z4,z5]) rfl ?_
 exact ParseOut.bad HNO.out hb2F
theorem Parse_start (ad:Addr) (n c:Nat) (b:List UInt8) (hn:b.length=n) (hnc:n≤c) (w:World) (hS:Sees w w.heap.size (some ad) (bv b)) (h4:4<n) (k:Int) :
  ∃W1 W2 V2 W3 V3 W4 W5:World,w.alloc (.cells #[.int .i64 0,.slice none 0 0,.string ⟨#[]⟩,.string ⟨#[]⟩,.int .i64 0,.int .i64 0] 92)=W1∧W1.alloc (.cells #[.bool false] 4)=W2∧W2.setCell ⟨W1.heap.size,0,none⟩ (.bool true)=V2 ∧
   V2.alloc (.cells #[.slice none 0 0] 48)=W3∧W3.setCell ⟨V2.heap.size,0,none⟩ (.slice (some ⟨ad.block,ad.off+1,none⟩) (n - 1) (c - 1))=V3 ∧
   V3.alloc (.cells #[.int .i64 0,.slice none 0 0,.string ⟨#[]⟩,.string ⟨#[]⟩,.int .i64 0,.int .i64 0] 92)=W4 ∧
   ((((((W4.setCell ⟨V3.heap.size,0,none⟩ (.int .i64 k)).setCell ⟨V3.heap.size,1,none⟩ (.slice none 0 0)).setCell ⟨V3.heap.size,2,none⟩ (.string ⟨#[]⟩)).setCell ⟨V3.heap.size,3,none⟩ (.string ⟨#[]⟩)).setCell ⟨V3.heap.size,4,none⟩ (.int .i64 0)).setCell ⟨V3.heap.size,5,none⟩ (.int .i64 0))=W5 ∧
   OneAt W2 W1.heap.size (.bool false)∧OneAt V2 W1.heap.size (.bool true)∧OneAt W3 V2.heap.size (.slice none 0 0)∧SixAt W4 V3.heap.size (.int .i64 0) (.slice none 0 0) (.string ⟨#[]⟩) (.string ⟨#[]⟩) (.int .i64 0) (.int .i64 0)∧Below w.heap.size w V3 ∧
   PSt w w.heap.size W1.heap.size V2.heap.size V3.heap.size W5 true (some ⟨ad.block,ad.off+1,none⟩) (n - 1) (c - 1) (b.drop 1) k 0 0 ⟨#[]⟩ ⟨#[]⟩ (.slice none 0 0):=by
 obtain ⟨W1,hW1⟩:∃W1,w.alloc (.cells #[.int .i64 0,.slice none 0 0,.string ⟨#[]⟩,.string ⟨#[]⟩,.int .i64 0,.int .i64 0] 92)=W1:=⟨_,rfl⟩
 obtain ⟨W2,hW2⟩:∃W2,W1.alloc (.cells #[.bool false] 4)=W2:=⟨_,rfl⟩
 have hb1:Below w.heap.size w W1:=hW1 ▸ KI_new w _
 have hb2:Below W1.heap.size W1 W2:=hW2 ▸ KI_new W1 _
 have hs1:w.heap.size<W1.heap.size:=by rw[←hW1];simp
 have one:OneAt W2 W1.heap.size (.bool false):=hW2 ▸ OneAt.new W1 _ _
 have six:SixAt W2 w.heap.size (.int .i64 0) (.slice none 0 0) (.string ⟨#[]⟩) (.string ⟨#[]⟩) (.int .i64 0) (.int .i64 0):=(hW1 ▸ SixAt.new w _ _ _ _ _ _ _:SixAt W1 w.heap.size _ _ _ _ _ _).below hb2 hs1
 have hb02:=hb1.trans (hb2.mono hb1.size)
 have hs2:W1.heap.size<W2.heap.size:=by rw[←hW2];simp
 obtain ⟨V2,hV2⟩:∃V2,W2.setCell ⟨W1.heap.size,0,none⟩ (.bool true)=V2:=⟨_,rfl⟩
 have hv2:V2.heap.size=W2.heap.size:=by rw[←hV2];simp
 have one2:OneAt V2 W1.heap.size (.bool true):=hV2 ▸ one.set _
 have six2:SixAt V2 w.heap.size (.int .i64 0) (.slice none 0 0) (.string ⟨#[]⟩) (.string ⟨#[]⟩) (.int .i64 0) (.int .i64 0):=hV2 ▸ six.set_ne (p:=⟨W1.heap.size,0,none⟩) (by show W1.heap.size≠_;omega) _
 have hbV2:Below w.heap.size w V2:=hV2 ▸ hb02.setCell (by show _≤W1.heap.size;omega) _
 obtain ⟨W3,hW3⟩:∃W3,V2.alloc (.cells #[.slice none 0 0] 48)=W3:=⟨_,rfl⟩
 have hb3:Below V2.heap.size V2 W3:=hW3 ▸ KI_new V2 _
 have hs3:V2.heap.size<W3.heap.size:=by rw[←hW3];simp
 have one3:OneAt W3 V2.heap.size (.slice none 0 0):=hW3 ▸ OneAt.new V2 _ _
 obtain ⟨V3,hV3⟩:∃V3,W3.setCell ⟨V2.heap.size,0,none⟩ (.slice (some ⟨ad.block,ad.off+1,none⟩) (n - 1) (c - 1))=V3:=⟨_,rfl⟩
 have hv3:V3.heap.size=W3.heap.size:=by rw[←hV3];simp
 have ok3:OneAt V3 W1.heap.size (.bool true):=hV3 ▸ (one2.below hb3 (by omega)).set_ne (p:=⟨V2.heap.size,0,none⟩) (by show V2.heap.size≠_;omega) _
 have six3:SixAt V3 w.heap.size (.int .i64 0) (.slice none 0 0) (.string ⟨#[]⟩) (.string ⟨#[]⟩) (.int .i64 0) (.int .i64 0):=hV3 ▸ (six2.below hb3 (by omega)).set_ne (p:=⟨V2.heap.size,0,none⟩) (by show V2.heap.size≠_;omega) _
 have rst3:OneAt V3 V2.heap.size (.slice (some ⟨ad.block,ad.off+1,none⟩) (n - 1) (c - 1)):=hV3 ▸ one3.set _
 have hbV3:Below w.heap.size w V3:=hV3 ▸ (hbV2.trans (hb3.mono hbV2.size)).setCell (by show _≤V2.heap.size;omega) _
 obtain ⟨W4,hW4⟩:∃W4,V3.alloc (.cells #[.int .i64 0,.slice none 0 0,.string ⟨#[]⟩,.string ⟨#[]⟩,.int .i64 0,.int .i64 0] 92)=W4:=⟨_,rfl⟩
 have hb4:Below V3.heap.size V3 W4:=hW4 ▸ KI_new V3 _
 have hs4:V3.heap.size<W4.heap.size:=by rw[←hW4];simp
 have six4:SixAt W4 V3.heap.size (.int .i64 0) (.slice none 0 0) (.string ⟨#[]⟩) (.string ⟨#[]⟩) (.int .i64 0) (.int .i64 0):=hW4 ▸ SixAt.new V3 _ _ _ _ _ _ _
 obtain ⟨W5,hW5,six5,hb5,hk5,hz5⟩:=six4.store (B:=V3.heap.size) (Nat.le_refl _) (.int .i64 k) (.slice none 0 0) (.string ⟨#[]⟩) (.string ⟨#[]⟩) (.int .i64 0) (.int .i64 0)
 have hb45:Below V3.heap.size V3 W5:=hb4.trans hb5
 refine ⟨W1,W2,V2,W3,V3,W4,W5,hW1,hW2,hV2,hW3,hV3,hW4,hW5,one,one2,one3,six4,hbV3,hbV3.trans (hb45.mono hbV3.size),⟨Nat.le_refl _,hs1,by omega,by omega,by omega⟩,ok3.below hb45 (by omega),rst3.below hb45 (by omega),six5,six3.below hb45 (by omega),by rw[List.length_drop,hn],by omega,?_⟩
 have hc:=seesM_cut hS.toM (q:=1) (cap:=c) (by rw[bv_length];omega)
 rw[if_neg (by omega), ←bv_drop] at hc
 have hbw5:=hbV3.trans (hb45.mono hbV3.size)
 have hA:(some ad).map (fun x=>x.add 1)=some ⟨ad.block,ad.off+1,none⟩:=by simp[Addr.add]
 rw[hA] at hc
 exact (hc.keep (Kept.of_below hbw5 fun j hj=>hj)).mono fun j hj=>⟨.inl hj,by omega⟩
theorem Parse_k0 (ad:Addr) (n c:Nat) (b:List UInt8) (hn:b.length=n) (hnc:n≤c) (w:World) (hS:Sees w w.heap.size (some ad) (bv b)) (hlen:n≤1000000) (h4:4<n) (hadB:ad.block<w.heap.size) (k:Int) (q0:w.cell? ad=some (.int .u8 k)) (hk:k≤0) (HK:Hid (∀s,MayR s→makeR s=b→s.kind=k∧1≤s.kind∧s.kind≤5)) (hk0:0≤k∧k≤255) :
  Calls Tryz.prog 69 #[.slice (some ad) n c] w (ParseOut w b):=by
 obtain ⟨hk00,hk255⟩:=hk0
 have hd:decide ((4:Int)<(n:Int))=true:=decide_eq_true (by omega)
 have i1:(1:Int)≤(n:Int):=by omega
 have i0:0<n:=by omega
 have hc1:1<c:=by omega
 obtain ⟨W1,W2,V2,W3,V3,W4,W5,hW1,hW2,hV2,hW3,hV3,hW4,hW5,one,one2,one3,six4,hbV3,st⟩:=Parse_start ad n c b hn hnc w hS h4 k
 have q3:=(hbV3.cell hadB).trans q0
 obtain ⟨u0,u1⟩:=one
 obtain ⟨u2,u3⟩:=one2
 obtain ⟨u4,u5⟩:=one3
 obtain ⟨s0,s1,s2,s3,s4,s5,p0,p1,p2,p3,p4,p5⟩:=six4
 obtain ⟨m0,m1,m2,m3,m4,m5, -⟩:=st.six
 obtain ⟨y0,y1⟩:=st.rst
 obtain ⟨y2,y3⟩:=st.okc
 have HN:=Lib.hid hn
 have ST:=Lib.hid st
 clear hn hbV3 st q0
 go_enter Tryz.func69,Tryz.ntmps69
 have HG:OnlyR b true ⟨k, [],(⟨#[]⟩,⟨#[]⟩),0,0⟩:=fun s hs e=>by have:=HK.out s hs e;omega
 obtain ⟨hll,hlc,hls⟩:([]:List Lb).length=0∧0≤0∧SeesM (fun j=>(j<w.heap.size∨V3.heap.size<j)∧j<W5.heap.size) W5 none (lv []):=⟨rfl,Nat.le_refl _,⟨.inl rfl⟩⟩
 obtain ⟨okb,A8,n8,c8,r8,st8,hg8⟩:∃(okb:Bool) (A8:Option Addr) (n8 c8:Nat) (r8:List UInt8),PSt w w.heap.size W1.heap.size V2.heap.size V3.heap.size W5 okb A8 n8 c8 r8 k 0 0 ⟨#[]⟩ ⟨#[]⟩ (.slice none 0 0)∧OnlyR b okb ⟨k, [],(⟨#[]⟩,⟨#[]⟩),0,0⟩:=⟨_,_,_,_,_,ST.out,HG⟩
 have HG:=Lib.hid hg8
 have HLL:=Lib.hid hll
 clear hg8
 have hMk:=Lib.hid (MakeRow_any none 0 0 [] HLL.out k 0 0 ⟨#[]⟩ ⟨#[]⟩ W5 (hls.sees fun j hj=>hj.2) (by rw[←HLL.out];simp) (by simp) (by decide))
 have hlsK:=Lib.hid hls
 have STX:=Lib.hid st8
 obtain ⟨c0,c1,c2,c3,c4,c5, -⟩:=st8.six
 obtain ⟨o0,o1⟩:=st8.okc
 have hof:=st8.ord.2.2.2.2
 clear st8 hls hll
 go_wp2_with fail
 refine hMk.out.mono ?_
 rintro en w9 ⟨v9,kk9,rfl,hb9,hres9⟩
 have st9:=STX.out.below hb9
 have ST9:=Lib.hid st9
 clear hMk c0 c1 c2 c3 c4 c5 o0 o1
 obtain ⟨c0,c1,c2,c3,c4,c5, -⟩:=st9.six
 obtain ⟨o0,o1⟩:=st9.okc
 obtain ⟨r0,r1,r2,r3,r4,r5,g0,g1,g2,g3,g4,g5⟩:=st9.res
 obtain ⟨WZ,hWZ,sz,hbz,hkz,hzz⟩:=st9.res.store (Nat.le_refl _) (.int .i64 0) (.slice none 0 0) (.string ⟨#[]⟩) (.string ⟨#[]⟩) (.int .i64 0) (.int .i64 0)
 have HSZ9:=Lib.hid sz
 have HWZ:=Lib.hid hWZ
 have hbwz:=Lib.hid (st9.bel.trans hbz)
 clear hWZ sz hbz hkz hzz st9
 have HBAD:Hid (∀(nr:NoRow b),ParseOut w b (.returned (.tuple #[.agg #[.int .i64 0,.slice none 0 0,.string ⟨#[]⟩,.string ⟨#[]⟩,.int .i64 0,.int .i64 0],.int .i64 120])) WZ):=fun nr=>ParseOut.bad nr hbwz.out
 rcases hres9 with ⟨hmay9,rfl,hown9⟩|⟨hno9,rfl,rfl⟩
 rotate_left
 ·have HNR:=Lib.hid (HG.out.none_may hno9)
  clear hno9
  cases okb<;>(
   go_wp2_with fail
   rw[HWZ.out]
   obtain ⟨zc0,zc1,zc2,zc3,zc4,zc5, -⟩:=HSZ9.out
   refine bodyPost_ret (v := .tuple #[.agg #[.int .i64 0,.slice none 0 0,.string ⟨#[]⟩,.string ⟨#[]⟩,.int .i64 0,.int .i64 0],.int .i64 120]) (by simp[results,Tryz.results69,go_sem,zc0,zc1,zc2,zc3,zc4,zc5]) rfl ?_
   exact HBAD.out HNR.out)
 cases okb with
 | false =>
  have HNR:=Lib.hid HG.out.none_ok
  clear hmay9 hown9
  go_wp2_with fail
  rw[HWZ.out]
  obtain ⟨zc0,zc1,zc2,zc3,zc4,zc5, -⟩:=HSZ9.out
  refine bodyPost_ret (v := .tuple #[.agg #[.int .i64 0,.slice none 0 0,.string ⟨#[]⟩,.string ⟨#[]⟩,.int .i64 0,.int .i64 0],.int .i64 120]) (by simp[results,Tryz.results69,go_sem,zc0,zc1,zc2,zc3,zc4,zc5]) rfl ?_
  exact HBAD.out HNR.out
 | true =>
  have HMAY:=Lib.hid hmay9
  obtain ⟨L9,hL9⟩:∃L9,makeR ⟨k, [],(⟨#[]⟩,⟨#[]⟩),0,0⟩=L9:=⟨_,rfl⟩
  rw[hL9] at hown9
  have HL9:=Lib.hid hL9
  obtain ⟨A9,c9,rfl, -, -, -,hs9⟩:=hown9.open_
  have hE:=Lib.hid (BytesEqual_any A9 (some ad) L9.length n c9 c L9 b rfl HN.out w9 hs9 (((hS.below ST9.out.bel)).more ST9.out.bel.size))
  clear hmay9 hown9 hs9 hL9
  by_cases hLb:L9=b
  ·rw[decide_eq_true hLb] at hE
   have HLB:=Lib.hid hLb
   obtain ⟨WG,hWG,sg,hbg,hkg,hzg⟩:=ST9.out.res.store (Nat.le_refl _) (.int .i64 k) (.slice none 0 0) (.string ⟨#[]⟩) (.string ⟨#[]⟩) (.int .i64 0) (.int .i64 0)
   have HSG:=Lib.hid sg
   have HWG:=Lib.hid hWG
   have hbwg:=Lib.hid (ST9.out.bel.trans hbg)
   have HSEE:Hid (SeesM (fun j=>w.heap.size≤j∧j<WG.heap.size) WG none (lv [])):=by unfold Hid;exact ⟨.inl rfl⟩
   clear hWG sg hbg hkg hzg hLb
   go_wp2_with fail
   refine hE.out.mono ?_
   rintro en w10 ⟨rfl,rfl⟩
   go_wp2_with fail
   rw[HWG.out]
   obtain ⟨zc0,zc1,zc2,zc3,zc4,zc5, -⟩:=HSG.out
   refine bodyPost_ret (v := .tuple #[.agg #[.int .i64 k,.slice none 0 0,.string ⟨#[]⟩,.string ⟨#[]⟩,.int .i64 0,.int .i64 0],.int .i64 0]) (by simp[results,Tryz.results69,go_sem,zc0,zc1,zc2,zc3,zc4,zc5]) rfl ?_
   exact ⟨none,0,0,k,0,0,⟨#[]⟩,⟨#[]⟩, [],0,rfl,hbwg.out,HLL.out,hlc,HSEE.out,.inl ⟨rfl,HMAY.out,rfl,by rw[HL9.out];exact HLB.out⟩⟩
  ·rw[decide_eq_false hLb] at hE
   have HNR:=Lib.hid (HG.out.none_make (by rw[HL9.out];exact hLb))
   clear hLb
   go_wp2_with fail
   refine hE.out.mono ?_
   rintro en w10 ⟨rfl,rfl⟩
   go_wp2_with fail
   rw[HWZ.out]
   obtain ⟨zc0,zc1,zc2,zc3,zc4,zc5, -⟩:=HSZ9.out
   refine bodyPost_ret (v := .tuple #[.agg #[.int .i64 0,.slice none 0 0,.string ⟨#[]⟩,.string ⟨#[]⟩,.int .i64 0,.int .i64 0],.int .i64 120]) (by simp[results,Tryz.results69,go_sem,zc0,zc1,zc2,zc3,zc4,zc5]) rfl ?_
   exact HBAD.out HNR.out
theorem Parse_k3 (ad:Addr) (n c:Nat) (b:List UInt8) (hn:b.length=n) (hnc:n≤c) (w:World) (hS:Sees w w.heap.size (some ad) (bv b)) (hlen:n≤1000000) (h4:4<n) (hadB:ad.block<w.heap.size) (k:Int) (q0:w.cell? ad=some (.int .u8 k)) (hk:k=3) (HK:Hid (∀s,MayR s→makeR s=b→s.kind=k∧1≤s.kind∧s.kind≤5)) (hk0:0≤k∧k≤255) :
  Calls Tryz.prog 69 #[.slice (some ad) n c] w (ParseOut w b):=by
 obtain ⟨hk00,hk255⟩:=hk0
 obtain rfl:=hk
 have hd:decide ((4:Int)<(n:Int))=true:=decide_eq_true (by omega)
 have i1:(1:Int)≤(n:Int):=by omega
 have i0:0<n:=by omega
 have hc1:1<c:=by omega
 obtain ⟨W1,W2,V2,W3,V3,W4,W5,hW1,hW2,hV2,hW3,hV3,hW4,hW5,one,one2,one3,six4,hbV3,st⟩:=Parse_start ad n c b hn hnc w hS h4 3
 have q3:=(hbV3.cell hadB).trans q0
 obtain ⟨u0,u1⟩:=one
 obtain ⟨u2,u3⟩:=one2
 obtain ⟨u4,u5⟩:=one3
 obtain ⟨s0,s1,s2,s3,s4,s5,p0,p1,p2,p3,p4,p5⟩:=six4
 obtain ⟨m0,m1,m2,m3,m4,m5, -⟩:=st.six
 obtain ⟨y0,y1⟩:=st.rst
 obtain ⟨y2,y3⟩:=st.okc
 have HN:=Lib.hid hn
 have ST:=Lib.hid st
 clear hn hbV3 st q0
 have HBNDST:Hid (n - 1≤1000000):=(by omega:n - 1≤1000000)
 go_enter Tryz.func69,Tryz.ntmps69
 go_wp2_with fail
 refine (text_any W1.heap.size V2.heap.size (by have:=ST.out.ord;omega) _ _ _ _ _ ST.out.len ST.out.cap _ ST.out.okc ST.out.rst ST.out.sees (by have:=HBNDST.out;omega) (by have:=ST.out.ord;omega) (by have:=ST.out.ord;omega)).mono ?_
 rintro en w6 ht
 obtain ⟨A6,n6,c6,rfl,hn6,st⟩:=ST.out.text ht
 have HBNDS6T:Hid (n6≤1000000):=Nat.le_trans hn6 HBNDST.out
 have hxl:(strOf (cutR (b.drop 1)).1).size≤9223372036854775807:=by have:=cut_text_len (b.drop 1);have:=ST.out.len;have:=HBNDST.out;omega
 obtain ⟨t6,hx6⟩:∃t,strOf (cutR (b.drop 1)).1=t:=⟨_,rfl⟩
 rw[hx6] at hxl
 simp only[hx6]
 have HX6:=Lib.hid hx6
 have HXL6:=Lib.hid hxl
 obtain ⟨S6,hS6⟩:∃S6,w6.setCell ⟨V3.heap.size,2,none⟩ (.string t6)=S6:=⟨_,rfl⟩
 have stS:=st.setX (st.six.set2 (.string t6))
 rw[hS6] at stS
 have S6T:=Lib.hid stS
 clear m0 m1 m2 m3 m4 m5 y0 y1 y2 y3 u0 u1 u2 u3 u4 u5 s0 s1 s2 s3 s4 s5 p0 p1 p2 p3 p4 p5 q3
 obtain ⟨m0,m1,m2,m3,m4,m5,p0,p1,p2,p3,p4,p5⟩:=st.six
 obtain ⟨y0,y1⟩:=st.rst
 obtain ⟨y2,y3⟩:=st.okc
 clear st stS ht hn6 hxl hx6
 go_wp2_with fail
 refine (text_any W1.heap.size V2.heap.size (by have:=S6T.out.ord;omega) _ _ _ _ _ S6T.out.len S6T.out.cap _ S6T.out.okc S6T.out.rst S6T.out.sees (by have:=HBNDS6T.out;omega) (by have:=S6T.out.ord;omega) (by have:=S6T.out.ord;omega)).mono ?_
 rintro en w7 ht
 obtain ⟨A7,n7,c7,rfl,hn7,st⟩:=S6T.out.text ht
 have HBNDS7T:Hid (n7≤1000000):=Nat.le_trans hn7 HBNDS6T.out
 have hxl:(strOf (cutR (left (b.drop 1))).1).size≤9223372036854775807:=by have:=cut_text_len (left (b.drop 1));have:=S6T.out.len;have:=HBNDS6T.out;omega
 obtain ⟨t7,hx7⟩:∃t,strOf (cutR (left (b.drop 1))).1=t:=⟨_,rfl⟩
 rw[hx7] at hxl
 simp only[hx7]
 have HX7:=Lib.hid hx7
 have HXL7:=Lib.hid hxl
 obtain ⟨S7,hS7⟩:∃S7,w7.setCell ⟨V3.heap.size,3,none⟩ (.string t7)=S7:=⟨_,rfl⟩
 have stS:=st.setX (st.six.set3 (.string t7))
 rw[hS7] at stS
 have S7T:=Lib.hid stS
 clear m0 m1 m2 m3 m4 m5 p0 p1 p2 p3 p4 p5 y0 y1 y2 y3
 obtain ⟨m0,m1,m2,m3,m4,m5,p0,p1,p2,p3,p4,p5⟩:=st.six
 obtain ⟨y0,y1⟩:=st.rst
 obtain ⟨y2,y3⟩:=st.okc
 clear st stS ht hn7 hxl hx7
 go_wp2_with fail
 refine (takeR_any W1.heap.size V2.heap.size _ _ _ _ _ S7T.out.len S7T.out.cap _ S7T.out.okc S7T.out.rst S7T.out.sees (by have:=S7T.out.len;have:=HBNDS7T.out;omega)).mono ?_
 rintro en w8 ht
 obtain ⟨z8,ok8,A8,n8,c8,r8,rfl,hn8,st,htk⟩:=S7T.out.take ht
 have HTK8:=Lib.hid htk
 have HBNDS8:Hid (n8≤1000000):=Nat.le_trans hn8 HBNDS7T.out
 obtain ⟨S8,hS8⟩:∃S8,w8.setCell ⟨V3.heap.size,5,none⟩ (.int .i64 (z8:Nat))=S8:=⟨_,rfl⟩
 have stS:=st.setX (st.six.set5 (.int .i64 (z8:Nat)))
 rw[hS8] at stS
 have S8T:=Lib.hid stS
 have HBNDS8T:=HBNDS8
 clear m0 m1 m2 m3 m4 m5 p0 p1 p2 p3 p4 p5 y0 y1 y2 y3
 obtain ⟨m0,m1,m2,m3,m4,m5,p0,p1,p2,p3,p4,p5⟩:=st.six
 obtain ⟨y0,y1⟩:=st.rst
 obtain ⟨y2,y3⟩:=st.okc
 clear st stS htk ht hn8
 have HGO:OnlyR b ok8 ⟨3, [],(t6,t7),0,(z8:Nat)⟩:=by
  intro s hs e
  have hk:=(HK.out s hs e).1
  obtain ⟨g1,g2,g3,hc⟩:=comp3 hs e hk
  rcases HTK8.out with ⟨_,hz,hok,_⟩|⟨hlt,_⟩
  ·refine ⟨by rw[hok,decide_eq_true g1,decide_eq_true g2];rfl,?_⟩
   rw[hc,hz,HX6.out,HX7.out]
  ·omega
 obtain ⟨hll,hlc,hls⟩:([]:List Lb).length=0∧0≤0∧SeesM (fun j=>(j<w.heap.size∨V3.heap.size<j)∧j<S8.heap.size) S8 none (lv []):=⟨rfl,Nat.le_refl _,⟨.inl rfl⟩⟩
 obtain ⟨okb,A8,n8,c8,r8,st8,hg8⟩:∃(okb:Bool) (A8:Option Addr) (n8 c8:Nat) (r8:List UInt8),PSt w w.heap.size W1.heap.size V2.heap.size V3.heap.size S8 okb A8 n8 c8 r8 3 0 (z8:Nat) t6 t7 (.slice none 0 0)∧OnlyR b okb ⟨3, [],(t6,t7),0,(z8:Nat)⟩:=⟨_,_,_,_,_,S8T.out,HGO⟩
 have HG:=Lib.hid hg8
 have HLL:=Lib.hid hll
 clear hg8
 have hMk:=Lib.hid (MakeRow_any none 0 0 [] HLL.out 3 0 (z8:Nat) t6 t7 S8 (hls.sees fun j hj=>hj.2) (by rw[←HLL.out];simp) (by simp) HXL6.out)
 have hlsK:=Lib.hid hls
 have STX:=Lib.hid st8
 obtain ⟨c0,c1,c2,c3,c4,c5, -⟩:=st8.six
 obtain ⟨o0,o1⟩:=st8.okc
 have hof:=st8.ord.2.2.2.2
 clear st8 hls hll
 go_wp2_with fail
 refine hMk.out.mono ?_
 rintro en w9 ⟨v9,kk9,rfl,hb9,hres9⟩
 have st9:=STX.out.below hb9
 have ST9:=Lib.hid st9
 clear hMk c0 c1 c2 c3 c4 c5 o0 o1
 obtain ⟨c0,c1,c2,c3,c4,c5, -⟩:=st9.six
 obtain ⟨o0,o1⟩:=st9.okc
 obtain ⟨r0,r1,r2,r3,r4,r5,g0,g1,g2,g3,g4,g5⟩:=st9.res
 obtain ⟨WZ,hWZ,sz,hbz,hkz,hzz⟩:=st9.res.store (Nat.le_refl _) (.int .i64 0) (.slice none 0 0) (.string ⟨#[]⟩) (.string ⟨#[]⟩) (.int .i64 0) (.int .i64 0)
 have HSZ9:=Lib.hid sz
 have HWZ:=Lib.hid hWZ
 have hbwz:=Lib.hid (st9.bel.trans hbz)
 clear hWZ sz hbz hkz hzz st9
 have HBAD:Hid (∀(nr:NoRow b),ParseOut w b (.returned (.tuple #[.agg #[.int .i64 0,.slice none 0 0,.string ⟨#[]⟩,.string ⟨#[]⟩,.int .i64 0,.int .i64 0],.int .i64 120])) WZ):=fun nr=>ParseOut.bad nr hbwz.out
 rcases hres9 with ⟨hmay9,rfl,hown9⟩|⟨hno9,rfl,rfl⟩
 rotate_left
 ·have HNR:=Lib.hid (HG.out.none_may hno9)
  clear hno9
  cases okb<;>(
   go_wp2_with fail
   rw[HWZ.out]
   obtain ⟨zc0,zc1,zc2,zc3,zc4,zc5, -⟩:=HSZ9.out
   refine bodyPost_ret (v := .tuple #[.agg #[.int .i64 0,.slice none 0 0,.string ⟨#[]⟩,.string ⟨#[]⟩,.int .i64 0,.int .i64 0],.int .i64 120]) (by simp[results,Tryz.results69,go_sem,zc0,zc1,zc2,zc3,zc4,zc5]) rfl ?_
   exact HBAD.out HNR.out)
 cases okb with
 | false =>
  have HNR:=Lib.hid HG.out.none_ok
  clear hmay9 hown9
  go_wp2_with fail
  rw[HWZ.out]
  obtain ⟨zc0,zc1,zc2,zc3,zc4,zc5, -⟩:=HSZ9.out
  refine bodyPost_ret (v := .tuple #[.agg #[.int .i64 0,.slice none 0 0,.string ⟨#[]⟩,.string ⟨#[]⟩,.int .i64 0,.int .i64 0],.int .i64 120]) (by simp[results,Tryz.results69,go_sem,zc0,zc1,zc2,zc3,zc4,zc5]) rfl ?_
  exact HBAD.out HNR.out
 | true =>
  have HMAY:=Lib.hid hmay9
  obtain ⟨L9,hL9⟩:∃L9,makeR ⟨3, [],(t6,t7),0,(z8:Nat)⟩=L9:=⟨_,rfl⟩
  rw[hL9] at hown9
  have HL9:=Lib.hid hL9
  obtain ⟨A9,c9,rfl, -, -, -,hs9⟩:=hown9.open_
  have hE:=Lib.hid (BytesEqual_any A9 (some ad) L9.length n c9 c L9 b rfl HN.out w9 hs9 (((hS.below ST9.out.bel)).more ST9.out.bel.size))
  clear hmay9 hown9 hs9 hL9
  by_cases hLb:L9=b
  ·rw[decide_eq_true hLb] at hE
   have HLB:=Lib.hid hLb
   obtain ⟨WG,hWG,sg,hbg,hkg,hzg⟩:=ST9.out.res.store (Nat.le_refl _) (.int .i64 3) (.slice none 0 0) (.string t6) (.string t7) (.int .i64 0) (.int .i64 (z8:Nat))
   have HSG:=Lib.hid sg
   have HWG:=Lib.hid hWG
   have hbwg:=Lib.hid (ST9.out.bel.trans hbg)
   have HSEE:Hid (SeesM (fun j=>w.heap.size≤j∧j<WG.heap.size) WG none (lv [])):=by unfold Hid;exact ⟨.inl rfl⟩
   clear hWG sg hbg hkg hzg hLb
   go_wp2_with fail
   refine hE.out.mono ?_
   rintro en w10 ⟨rfl,rfl⟩
   go_wp2_with fail
   rw[HWG.out]
   obtain ⟨zc0,zc1,zc2,zc3,zc4,zc5, -⟩:=HSG.out
   refine bodyPost_ret (v := .tuple #[.agg #[.int .i64 3,.slice none 0 0,.string t6,.string t7,.int .i64 0,.int .i64 (z8:Nat)],.int .i64 0]) (by simp[results,Tryz.results69,go_sem,zc0,zc1,zc2,zc3,zc4,zc5]) rfl ?_
   exact ⟨none,0,0,3,0,(z8:Nat),t6,t7, [],0,rfl,hbwg.out,HLL.out,hlc,HSEE.out,.inl ⟨rfl,HMAY.out,rfl,by rw[HL9.out];exact HLB.out⟩⟩
  ·rw[decide_eq_false hLb] at hE
   have HNR:=Lib.hid (HG.out.none_make (by rw[HL9.out];exact hLb))
   clear hLb
   go_wp2_with fail
   refine hE.out.mono ?_
   rintro en w10 ⟨rfl,rfl⟩
   go_wp2_with fail
   rw[HWZ.out]
   obtain ⟨zc0,zc1,zc2,zc3,zc4,zc5, -⟩:=HSZ9.out
   refine bodyPost_ret (v := .tuple #[.agg #[.int .i64 0,.slice none 0 0,.string ⟨#[]⟩,.string ⟨#[]⟩,.int .i64 0,.int .i64 0],.int .i64 120]) (by simp[results,Tryz.results69,go_sem,zc0,zc1,zc2,zc3,zc4,zc5]) rfl ?_
   exact HBAD.out HNR.out
theorem Parse_k5 (ad:Addr) (n c:Nat) (b:List UInt8) (hn:b.length=n) (hnc:n≤c) (w:World) (hS:Sees w w.heap.size (some ad) (bv b)) (hlen:n≤1000000) (h4:4<n) (hadB:ad.block<w.heap.size) (k:Int) (q0:w.cell? ad=some (.int .u8 k)) (hk:k=5) (HK:Hid (∀s,MayR s→makeR s=b→s.kind=k∧1≤s.kind∧s.kind≤5)) (hk0:0≤k∧k≤255) :
  Calls Tryz.prog 69 #[.slice (some ad) n c] w (ParseOut w b):=by
 obtain ⟨hk00,hk255⟩:=hk0
 obtain rfl:=hk
 have hd:decide ((4:Int)<(n:Int))=true:=decide_eq_true (by omega)
 have i1:(1:Int)≤(n:Int):=by omega
 have i0:0<n:=by omega
 have hc1:1<c:=by omega
 obtain ⟨W1,W2,V2,W3,V3,W4,W5,hW1,hW2,hV2,hW3,hV3,hW4,hW5,one,one2,one3,six4,hbV3,st⟩:=Parse_start ad n c b hn hnc w hS h4 5
 have q3:=(hbV3.cell hadB).trans q0
 obtain ⟨u0,u1⟩:=one
 obtain ⟨u2,u3⟩:=one2
 obtain ⟨u4,u5⟩:=one3
 obtain ⟨s0,s1,s2,s3,s4,s5,p0,p1,p2,p3,p4,p5⟩:=six4
 obtain ⟨m0,m1,m2,m3,m4,m5, -⟩:=st.six
 obtain ⟨y0,y1⟩:=st.rst
 obtain ⟨y2,y3⟩:=st.okc
 have HN:=Lib.hid hn
 have ST:=Lib.hid st
 clear hn hbV3 st q0
 have HBNDST:Hid (n - 1≤1000000):=(by omega:n - 1≤1000000)
 go_enter Tryz.func69,Tryz.ntmps69
 go_wp2_with fail
 refine (takeR_any W1.heap.size V2.heap.size _ _ _ _ _ ST.out.len ST.out.cap _ ST.out.okc ST.out.rst ST.out.sees (by have:=ST.out.len;have:=HBNDST.out;omega)).mono ?_
 rintro en w6 ht
 obtain ⟨z6,ok6,A6,n6,c6,r6,rfl,hn6,st,htk⟩:=ST.out.take ht
 have HTK6:=Lib.hid htk
 have HBNDS6:Hid (n6≤1000000):=Nat.le_trans hn6 HBNDST.out
 obtain ⟨S6,hS6⟩:∃S6,w6.setCell ⟨V3.heap.size,5,none⟩ (.int .i64 (z6:Nat))=S6:=⟨_,rfl⟩
 have stS:=st.setX (st.six.set5 (.int .i64 (z6:Nat)))
 rw[hS6] at stS
 have S6T:=Lib.hid stS
 have HBNDS6T:=HBNDS6
 clear m0 m1 m2 m3 m4 m5 y0 y1 y2 y3 u0 u1 u2 u3 u4 u5 s0 s1 s2 s3 s4 s5 p0 p1 p2 p3 p4 p5 q3
 obtain ⟨m0,m1,m2,m3,m4,m5,p0,p1,p2,p3,p4,p5⟩:=st.six
 obtain ⟨y0,y1⟩:=st.rst
 obtain ⟨y2,y3⟩:=st.okc
 clear st stS htk ht hn6
 have HGO:OnlyR b ok6 ⟨5, [],(⟨#[]⟩,⟨#[]⟩),0,(z6:Nat)⟩:=by
  intro s hs e
  have hk:=(HK.out s hs e).1
  obtain ⟨hl,hc⟩:=comp5 hs e hk
  rcases HTK6.out with ⟨_,hz,hok,_⟩|⟨hlt,_⟩
  ·exact ⟨hok,by rw[hc,hz];rfl⟩
  ·omega
 obtain ⟨hll,hlc,hls⟩:([]:List Lb).length=0∧0≤0∧SeesM (fun j=>(j<w.heap.size∨V3.heap.size<j)∧j<S6.heap.size) S6 none (lv []):=⟨rfl,Nat.le_refl _,⟨.inl rfl⟩⟩
 obtain ⟨okb,A8,n8,c8,r8,st8,hg8⟩:∃(okb:Bool) (A8:Option Addr) (n8 c8:Nat) (r8:List UInt8),PSt w w.heap.size W1.heap.size V2.heap.size V3.heap.size S6 okb A8 n8 c8 r8 5 0 (z6:Nat) ⟨#[]⟩ ⟨#[]⟩ (.slice none 0 0)∧OnlyR b okb ⟨5, [],(⟨#[]⟩,⟨#[]⟩),0,(z6:Nat)⟩:=⟨_,_,_,_,_,S6T.out,HGO⟩
 have HG:=Lib.hid hg8
 have HLL:=Lib.hid hll
 clear hg8
 have hMk:=Lib.hid (MakeRow_any none 0 0 [] HLL.out 5 0 (z6:Nat) ⟨#[]⟩ ⟨#[]⟩ S6 (hls.sees fun j hj=>hj.2) (by rw[←HLL.out];simp) (by simp) (by decide))
 have hlsK:=Lib.hid hls
 have STX:=Lib.hid st8
 obtain ⟨c0,c1,c2,c3,c4,c5, -⟩:=st8.six
 obtain ⟨o0,o1⟩:=st8.okc
 have hof:=st8.ord.2.2.2.2
 clear st8 hls hll
 go_wp2_with fail
 refine hMk.out.mono ?_
 rintro en w9 ⟨v9,kk9,rfl,hb9,hres9⟩
 have st9:=STX.out.below hb9
 have ST9:=Lib.hid st9
 clear hMk c0 c1 c2 c3 c4 c5 o0 o1
 obtain ⟨c0,c1,c2,c3,c4,c5, -⟩:=st9.six
 obtain ⟨o0,o1⟩:=st9.okc
 obtain ⟨r0,r1,r2,r3,r4,r5,g0,g1,g2,g3,g4,g5⟩:=st9.res
 obtain ⟨WZ,hWZ,sz,hbz,hkz,hzz⟩:=st9.res.store (Nat.le_refl _) (.int .i64 0) (.slice none 0 0) (.string ⟨#[]⟩) (.string ⟨#[]⟩) (.int .i64 0) (.int .i64 0)
 have HSZ9:=Lib.hid sz
 have HWZ:=Lib.hid hWZ
 have hbwz:=Lib.hid (st9.bel.trans hbz)
 clear hWZ sz hbz hkz hzz st9
 have HBAD:Hid (∀(nr:NoRow b),ParseOut w b (.returned (.tuple #[.agg #[.int .i64 0,.slice none 0 0,.string ⟨#[]⟩,.string ⟨#[]⟩,.int .i64 0,.int .i64 0],.int .i64 120])) WZ):=fun nr=>ParseOut.bad nr hbwz.out
 rcases hres9 with ⟨hmay9,rfl,hown9⟩|⟨hno9,rfl,rfl⟩
 rotate_left
 ·have HNR:=Lib.hid (HG.out.none_may hno9)
  clear hno9
  cases okb<;>(
   go_wp2_with fail
   rw[HWZ.out]
   obtain ⟨zc0,zc1,zc2,zc3,zc4,zc5, -⟩:=HSZ9.out
   refine bodyPost_ret (v := .tuple #[.agg #[.int .i64 0,.slice none 0 0,.string ⟨#[]⟩,.string ⟨#[]⟩,.int .i64 0,.int .i64 0],.int .i64 120]) (by simp[results,Tryz.results69,go_sem,zc0,zc1,zc2,zc3,zc4,zc5]) rfl ?_
   exact HBAD.out HNR.out)
 cases okb with
 | false =>
  have HNR:=Lib.hid HG.out.none_ok
  clear hmay9 hown9
  go_wp2_with fail
  rw[HWZ.out]
  obtain ⟨zc0,zc1,zc2,zc3,zc4,zc5, -⟩:=HSZ9.out
  refine bodyPost_ret (v := .tuple #[.agg #[.int .i64 0,.slice none 0 0,.string ⟨#[]⟩,.string ⟨#[]⟩,.int .i64 0,.int .i64 0],.int .i64 120]) (by simp[results,Tryz.results69,go_sem,zc0,zc1,zc2,zc3,zc4,zc5]) rfl ?_
  exact HBAD.out HNR.out
 | true =>
  have HMAY:=Lib.hid hmay9
  obtain ⟨L9,hL9⟩:∃L9,makeR ⟨5, [],(⟨#[]⟩,⟨#[]⟩),0,(z6:Nat)⟩=L9:=⟨_,rfl⟩
  rw[hL9] at hown9
  have HL9:=Lib.hid hL9
  obtain ⟨A9,c9,rfl, -, -, -,hs9⟩:=hown9.open_
  have hE:=Lib.hid (BytesEqual_any A9 (some ad) L9.length n c9 c L9 b rfl HN.out w9 hs9 (((hS.below ST9.out.bel)).more ST9.out.bel.size))
  clear hmay9 hown9 hs9 hL9
  by_cases hLb:L9=b
  ·rw[decide_eq_true hLb] at hE
   have HLB:=Lib.hid hLb
   obtain ⟨WG,hWG,sg,hbg,hkg,hzg⟩:=ST9.out.res.store (Nat.le_refl _) (.int .i64 5) (.slice none 0 0) (.string ⟨#[]⟩) (.string ⟨#[]⟩) (.int .i64 0) (.int .i64 (z6:Nat))
   have HSG:=Lib.hid sg
   have HWG:=Lib.hid hWG
   have hbwg:=Lib.hid (ST9.out.bel.trans hbg)
   have HSEE:Hid (SeesM (fun j=>w.heap.size≤j∧j<WG.heap.size) WG none (lv [])):=by unfold Hid;exact ⟨.inl rfl⟩
   clear hWG sg hbg hkg hzg hLb
   go_wp2_with fail
   refine hE.out.mono ?_
   rintro en w10 ⟨rfl,rfl⟩
   go_wp2_with fail
   rw[HWG.out]
   obtain ⟨zc0,zc1,zc2,zc3,zc4,zc5, -⟩:=HSG.out
   refine bodyPost_ret (v := .tuple #[.agg #[.int .i64 5,.slice none 0 0,.string ⟨#[]⟩,.string ⟨#[]⟩,.int .i64 0,.int .i64 (z6:Nat)],.int .i64 0]) (by simp[results,Tryz.results69,go_sem,zc0,zc1,zc2,zc3,zc4,zc5]) rfl ?_
   exact ⟨none,0,0,5,0,(z6:Nat),⟨#[]⟩,⟨#[]⟩, [],0,rfl,hbwg.out,HLL.out,hlc,HSEE.out,.inl ⟨rfl,HMAY.out,rfl,by rw[HL9.out];exact HLB.out⟩⟩
  ·rw[decide_eq_false hLb] at hE
   have HNR:=Lib.hid (HG.out.none_make (by rw[HL9.out];exact hLb))
   clear hLb
   go_wp2_with fail
   refine hE.out.mono ?_
   rintro en w10 ⟨rfl,rfl⟩
   go_wp2_with fail
   rw[HWZ.out]
   obtain ⟨zc0,zc1,zc2,zc3,zc4,zc5, -⟩:=HSZ9.out
   refine bodyPost_ret (v := .tuple #[.agg #[.int .i64 0,.slice none 0 0,.string ⟨#[]⟩,.string ⟨#[]⟩,.int .i64 0,.int .i64 0],.int .i64 120]) (by simp[results,Tryz.results69,go_sem,zc0,zc1,zc2,zc3,zc4,zc5]) rfl ?_
   exact HBAD.out HNR.out
theorem Parse_k6 (ad:Addr) (n c:Nat) (b:List UInt8) (hn:b.length=n) (hnc:n≤c) (w:World) (hS:Sees w w.heap.size (some ad) (bv b)) (hlen:n≤1000000) (h4:4<n) (hadB:ad.block<w.heap.size) (k:Int) (q0:w.cell? ad=some (.int .u8 k)) (hk:6≤k) (HK:Hid (∀s,MayR s→makeR s=b→s.kind=k∧1≤s.kind∧s.kind≤5)) (hk0:0≤k∧k≤255) :
  Calls Tryz.prog 69 #[.slice (some ad) n c] w (ParseOut w b):=by
 obtain ⟨hk00,hk255⟩:=hk0
 have hd:decide ((4:Int)<(n:Int))=true:=decide_eq_true (by omega)
 have i1:(1:Int)≤(n:Int):=by omega
 have i0:0<n:=by omega
 have hc1:1<c:=by omega
 obtain ⟨W1,W2,V2,W3,V3,W4,W5,hW1,hW2,hV2,hW3,hV3,hW4,hW5,one,one2,one3,six4,hbV3,st⟩:=Parse_start ad n c b hn hnc w hS h4 k
 have q3:=(hbV3.cell hadB).trans q0
 obtain ⟨u0,u1⟩:=one
 obtain ⟨u2,u3⟩:=one2
 obtain ⟨u4,u5⟩:=one3
 obtain ⟨s0,s1,s2,s3,s4,s5,p0,p1,p2,p3,p4,p5⟩:=six4
 obtain ⟨m0,m1,m2,m3,m4,m5, -⟩:=st.six
 obtain ⟨y0,y1⟩:=st.rst
 obtain ⟨y2,y3⟩:=st.okc
 have HN:=Lib.hid hn
 have ST:=Lib.hid st
 clear hn hbV3 st q0
 go_enter Tryz.func69,Tryz.ntmps69
 have HG:OnlyR b true ⟨k, [],(⟨#[]⟩,⟨#[]⟩),0,0⟩:=fun s hs e=>by have:=HK.out s hs e;omega
 obtain ⟨hll,hlc,hls⟩:([]:List Lb).length=0∧0≤0∧SeesM (fun j=>(j<w.heap.size∨V3.heap.size<j)∧j<W5.heap.size) W5 none (lv []):=⟨rfl,Nat.le_refl _,⟨.inl rfl⟩⟩
 obtain ⟨okb,A8,n8,c8,r8,st8,hg8⟩:∃(okb:Bool) (A8:Option Addr) (n8 c8:Nat) (r8:List UInt8),PSt w w.heap.size W1.heap.size V2.heap.size V3.heap.size W5 okb A8 n8 c8 r8 k 0 0 ⟨#[]⟩ ⟨#[]⟩ (.slice none 0 0)∧OnlyR b okb ⟨k, [],(⟨#[]⟩,⟨#[]⟩),0,0⟩:=⟨_,_,_,_,_,ST.out,HG⟩
 have HG:=Lib.hid hg8
 have HLL:=Lib.hid hll
 clear hg8
 have hMk:=Lib.hid (MakeRow_any none 0 0 [] HLL.out k 0 0 ⟨#[]⟩ ⟨#[]⟩ W5 (hls.sees fun j hj=>hj.2) (by rw[←HLL.out];simp) (by simp) (by decide))
 have hlsK:=Lib.hid hls
 have STX:=Lib.hid st8
 obtain ⟨c0,c1,c2,c3,c4,c5, -⟩:=st8.six
 obtain ⟨o0,o1⟩:=st8.okc
 have hof:=st8.ord.2.2.2.2
 clear st8 hls hll
 go_wp2_with fail
 refine hMk.out.mono ?_
 rintro en w9 ⟨v9,kk9,rfl,hb9,hres9⟩
 have st9:=STX.out.below hb9
 have ST9:=Lib.hid st9
 clear hMk c0 c1 c2 c3 c4 c5 o0 o1
 obtain ⟨c0,c1,c2,c3,c4,c5, -⟩:=st9.six
 obtain ⟨o0,o1⟩:=st9.okc
 obtain ⟨r0,r1,r2,r3,r4,r5,g0,g1,g2,g3,g4,g5⟩:=st9.res
 obtain ⟨WZ,hWZ,sz,hbz,hkz,hzz⟩:=st9.res.store (Nat.le_refl _) (.int .i64 0) (.slice none 0 0) (.string ⟨#[]⟩) (.string ⟨#[]⟩) (.int .i64 0) (.int .i64 0)
 have HSZ9:=Lib.hid sz
 have HWZ:=Lib.hid hWZ
 have hbwz:=Lib.hid (st9.bel.trans hbz)
 clear hWZ sz hbz hkz hzz st9
 have HBAD:Hid (∀(nr:NoRow b),ParseOut w b (.returned (.tuple #[.agg #[.int .i64 0,.slice none 0 0,.string ⟨#[]⟩,.string ⟨#[]⟩,.int .i64 0,.int .i64 0],.int .i64 120])) WZ):=fun nr=>ParseOut.bad nr hbwz.out
 rcases hres9 with ⟨hmay9,rfl,hown9⟩|⟨hno9,rfl,rfl⟩
 rotate_left
 ·have HNR:=Lib.hid (HG.out.none_may hno9)
  clear hno9
  cases okb<;>(
   go_wp2_with fail
   rw[HWZ.out]
   obtain ⟨zc0,zc1,zc2,zc3,zc4,zc5, -⟩:=HSZ9.out
   refine bodyPost_ret (v := .tuple #[.agg #[.int .i64 0,.slice none 0 0,.string ⟨#[]⟩,.string ⟨#[]⟩,.int .i64 0,.int .i64 0],.int .i64 120]) (by simp[results,Tryz.results69,go_sem,zc0,zc1,zc2,zc3,zc4,zc5]) rfl ?_
   exact HBAD.out HNR.out)
 cases okb with
 | false =>
  have HNR:=Lib.hid HG.out.none_ok
  clear hmay9 hown9
  go_wp2_with fail
  rw[HWZ.out]
  obtain ⟨zc0,zc1,zc2,zc3,zc4,zc5, -⟩:=HSZ9.out
  refine bodyPost_ret (v := .tuple #[.agg #[.int .i64 0,.slice none 0 0,.string ⟨#[]⟩,.string ⟨#[]⟩,.int .i64 0,.int .i64 0],.int .i64 120]) (by simp[results,Tryz.results69,go_sem,zc0,zc1,zc2,zc3,zc4,zc5]) rfl ?_
  exact HBAD.out HNR.out
 | true =>
  have HMAY:=Lib.hid hmay9
  obtain ⟨L9,hL9⟩:∃L9,makeR ⟨k, [],(⟨#[]⟩,⟨#[]⟩),0,0⟩=L9:=⟨_,rfl⟩
  rw[hL9] at hown9
  have HL9:=Lib.hid hL9
  obtain ⟨A9,c9,rfl, -, -, -,hs9⟩:=hown9.open_
  have hE:=Lib.hid (BytesEqual_any A9 (some ad) L9.length n c9 c L9 b rfl HN.out w9 hs9 (((hS.below ST9.out.bel)).more ST9.out.bel.size))
  clear hmay9 hown9 hs9 hL9
  by_cases hLb:L9=b
  ·rw[decide_eq_true hLb] at hE
   have HLB:=Lib.hid hLb
   obtain ⟨WG,hWG,sg,hbg,hkg,hzg⟩:=ST9.out.res.store (Nat.le_refl _) (.int .i64 k) (.slice none 0 0) (.string ⟨#[]⟩) (.string ⟨#[]⟩) (.int .i64 0) (.int .i64 0)
   have HSG:=Lib.hid sg
   have HWG:=Lib.hid hWG
   have hbwg:=Lib.hid (ST9.out.bel.trans hbg)
   have HSEE:Hid (SeesM (fun j=>w.heap.size≤j∧j<WG.heap.size) WG none (lv [])):=by unfold Hid;exact ⟨.inl rfl⟩
   clear hWG sg hbg hkg hzg hLb
   go_wp2_with fail
   refine hE.out.mono ?_
   rintro en w10 ⟨rfl,rfl⟩
   go_wp2_with fail
   rw[HWG.out]
   obtain ⟨zc0,zc1,zc2,zc3,zc4,zc5, -⟩:=HSG.out
   refine bodyPost_ret (v := .tuple #[.agg #[.int .i64 k,.slice none 0 0,.string ⟨#[]⟩,.string ⟨#[]⟩,.int .i64 0,.int .i64 0],.int .i64 0]) (by simp[results,Tryz.results69,go_sem,zc0,zc1,zc2,zc3,zc4,zc5]) rfl ?_
   exact ⟨none,0,0,k,0,0,⟨#[]⟩,⟨#[]⟩, [],0,rfl,hbwg.out,HLL.out,hlc,HSEE.out,.inl ⟨rfl,HMAY.out,rfl,by rw[HL9.out];exact HLB.out⟩⟩
  ·rw[decide_eq_false hLb] at hE
   have HNR:=Lib.hid (HG.out.none_make (by rw[HL9.out];exact hLb))
   clear hLb
   go_wp2_with fail
   refine hE.out.mono ?_
   rintro en w10 ⟨rfl,rfl⟩
   go_wp2_with fail
   rw[HWZ.out]
   obtain ⟨zc0,zc1,zc2,zc3,zc4,zc5, -⟩:=HSZ9.out
   refine bodyPost_ret (v := .tuple #[.agg #[.int .i64 0,.slice none 0 0,.string ⟨#[]⟩,.string ⟨#[]⟩,.int .i64 0,.int .i64 0],.int .i64 120]) (by simp[results,Tryz.results69,go_sem,zc0,zc1,zc2,zc3,zc4,zc5]) rfl ?_
   exact HBAD.out HNR.out
end
section
open Go.RowKit
theorem Parse_k1 (ad:Addr) (n c:Nat) (b:List UInt8) (hn:b.length=n) (hnc:n≤c) (w:World) (hS:Sees w w.heap.size (some ad) (bv b)) (hlen:n≤1000000) (h4:4<n) (hadB:ad.block<w.heap.size) (k:Int) (q0:w.cell? ad=some (.int .u8 k)) (hk:k=1) (HK:Hid (∀s,MayR s→makeR s=b→s.kind=k∧1≤s.kind∧s.kind≤5)) (hk0:0≤k∧k≤255) :
  Calls Tryz.prog 69 #[.slice (some ad) n c] w (ParseOut w b):=by
 obtain ⟨hk00,hk255⟩:=hk0
 obtain rfl:=hk
 have hd:decide ((4:Int)<(n:Int))=true:=decide_eq_true (by omega)
 have i1:(1:Int)≤(n:Int):=by omega
 have i0:0<n:=by omega
 have hc1:1<c:=by omega
 obtain ⟨W1,W2,V2,W3,V3,W4,W5,hW1,hW2,hV2,hW3,hV3,hW4,hW5,one,one2,one3,six4,hbV3,st⟩:=Parse_start ad n c b hn hnc w hS h4 1
 obtain ⟨n1,hn1⟩:∃n1,n - 1=n1:=⟨_,rfl⟩
 obtain ⟨c1,hc1'⟩:∃c1,c - 1=c1:=⟨_,rfl⟩
 obtain ⟨Ar,hAr⟩:∃Ar:Option Addr,(some ⟨ad.block,ad.off+1,none⟩:Option Addr)=Ar:=⟨_,rfl⟩
 rw[hn1,hc1',hAr] at hV3 st
 have q3:=(hbV3.cell hadB).trans q0
 obtain ⟨u0,u1⟩:=one
 obtain ⟨u2,u3⟩:=one2
 obtain ⟨u4,u5⟩:=one3
 obtain ⟨s0,s1,s2,s3,s4,s5,p0,p1,p2,p3,p4,p5⟩:=six4
 obtain ⟨m0,m1,m2,m3,m4,m5, -⟩:=st.six
 obtain ⟨y0,y1⟩:=st.rst
 obtain ⟨y2,y3⟩:=st.okc
 have HN:=Lib.hid hn
 have ST:=Lib.hid st
 clear hn hbV3 st q0
 by_cases h5:n≤5
 ·have hw:IntKind.i64.wrap (IntKind.i64.wrap ((n1:Int) - 4) - 1) = -1:=by rw[IntKind.wrap_i64,IntKind.wrap_i64];omega
  have hNR:NoRow b:=fun s hs e=>by have:=comp1_len hs e (HK.out s hs e).1;have:=HN.out;omega
  have HNR:=Lib.hid hNR
  obtain ⟨r0,r1,r2,r3,r4,r5,g0,g1,g2,g3,g4,g5⟩:=ST.out.res
  obtain ⟨WZ,hWZ,sz,hbz,hkz,hzz⟩:=ST.out.res.store (Nat.le_refl _) (.int .i64 0) (.slice none 0 0) (.string ⟨#[]⟩) (.string ⟨#[]⟩) (.int .i64 0) (.int .i64 0)
  have HSZ9:=Lib.hid sz
  have HWZ:=Lib.hid hWZ
  have hbwz:=Lib.hid (ST.out.bel.trans hbz)
  clear hWZ sz hbz hkz hzz hNR
  go_enter Tryz.func69,Tryz.ntmps69
  go_wp2_with fail
  rw[HWZ.out]
  obtain ⟨z0,z1,z2,z3,z4,z5, -⟩:=HSZ9.out
  refine bodyPost_ret (v := .tuple #[.agg #[.int .i64 0,.slice none 0 0,.string ⟨#[]⟩,.string ⟨#[]⟩,.int .i64 0,.int .i64 0],.int .i64 120]) (by simp[results,Tryz.results69,go_sem,z0,z1,z2,z3,z4,z5]) rfl ?_
  exact ParseOut.bad HNR.out hbwz.out
 obtain ⟨m,hm⟩:∃m,n1=m+5:=⟨n1 - 5,by omega⟩
 have hwi:(n1:Int) - 4 - 1=(m:Int):=by omega
 have hwn:n1 - 4 - 1=m:=by omega
 have hmc:m≤c1:=by omega
 have hmc1:m+1<c1:=by omega
 have hmn1:m+1≤n1:=by omega
 have hq4:n1 - (m+1)=4:=by omega
 obtain ⟨cq,hcq⟩:∃cq,c1 - (m+1)=cq:=⟨_,rfl⟩
 have hcq4:4≤cq:=by omega
 obtain ⟨Ad,hAd⟩:∃Ad,Ar.map (fun x=>(⟨x.block,x.off+(m+1),none⟩:Addr))=Ad:=⟨_,rfl⟩
 have HFUN:Hid ((fun x:Addr=>x.add (m+1))=fun x=>⟨x.block,x.off+(m+1),none⟩):=funext fun x=>add_succ' x m
 have hcut:=seesM_cut ST.out.row (q:=m+1) (cap:=c1) (by rw[bv_length];have:=ST.out.len;omega)
 rw[if_neg (by omega),HFUN.out,hAd, ←bv_drop] at hcut
 have HCUT:=Lib.hid hcut
 have htk:=(seesM_take ST.out.row m)
 have HTAKE:=Lib.hid htk
 have HM5:=Lib.hid hm
 have hml:Hid (((b.drop 1).take m).length=m):=by unfold Hid;rw[List.length_take];have:=ST.out.len;omega
 have HBNDST:Hid (n1≤1000000):=by unfold Hid;omega
 clear hcut htk hm
 go_enter Tryz.func69,Tryz.ntmps69
 go_wp2_with fail
 refine (all_any W1.heap.size _ Ar m c1 ((b.drop 1).take m) hml.out hmc _ ST.out.okc (HTAKE.out.sees fun j hj=>hj.2) (by have:=HBNDST.out;omega) (by have:=ST.out.ord;omega)).mono ?_
 rintro en w6 ht
 obtain ⟨v6,l6,ok6,rfl,st,lab,hl6,hsz,hsrt,himp⟩:=ST.out.all ht
 have HSZL:=Lib.hid hsz
 have HSRT:=Lib.hid hsrt
 have HIMP:=Lib.hid himp
 obtain ⟨S6,hS6⟩:∃S6,w6.setCell ⟨V3.heap.size,1,none⟩ v6=S6:=⟨_,rfl⟩
 have stS:=st.setX (st.six.set1 v6)
 have labS:=lab.set (p:=⟨V3.heap.size,1,none⟩) (by have:=st.ord;exact ⟨by show w.heap.size≤V3.heap.size;omega,Nat.le_refl _⟩) v6
 rw[hS6] at stS labS
 have S6T:=Lib.hid stS
 have LAB6:=Lib.hid labS
 clear m0 m1 m2 m3 m4 m5 y0 y1 y2 y3 u0 u1 u2 u3 u4 u5 s0 s1 s2 s3 s4 s5 p0 p1 p2 p3 p4 p5 q3
 obtain ⟨m0,m1,m2,m3,m4,m5,p0,p1,p2,p3,p4,p5⟩:=st.six
 obtain ⟨y0,y1⟩:=st.rst
 obtain ⟨y2,y3⟩:=st.okc
 clear st stS ht hsz hsrt himp lab labS
 obtain ⟨Av,nv,cv,hvv, -⟩:=LAB6.out
 subst hvv
 have hLr:Hid (Sees S6 S6.heap.size Ar (bv (b.drop 1))):=S6T.out.sees
 obtain ⟨S7,hS7⟩:∃S7,S6.setCell ⟨V2.heap.size,0,none⟩ (.slice Ad 4 cq)=S7:=⟨_,rfl⟩
 have hrow:SeesM (fun j=>(j<w.heap.size∨V3.heap.size<j)∧j<S6.heap.size) S6 Ad (bv ((b.drop 1).drop (m+1))):=by
  have h1:=S6T.out.row
  have h2:=seesM_cut h1 (q:=m+1) (cap:=c1) (by rw[bv_length];have:=ST.out.len;have:=HM5.out;omega)
  rw[if_neg (by omega),HFUN.out,hAd, ←bv_drop] at h2
  exact h2
 have st7:=S6T.out.setRest (r':=(b.drop 1).drop (m+1)) (A':=Ad) (n':=4) (c':=cq) (by rw[List.length_drop];have:=ST.out.len;have:=HM5.out;omega) hcq4 hrow
 have lab7:=LAB6.out.set (p:=⟨V2.heap.size,0,none⟩) (by have:=ST.out.ord;exact ⟨by show w.heap.size≤V2.heap.size;omega,by show V2.heap.size≤V3.heap.size;omega⟩) (.slice Ad 4 cq)
 rw[hS7] at st7 lab7
 have S7T:=Lib.hid st7
 have LAB7:=Lib.hid lab7
 have HBNDS7T:Hid (4≤1000000):=(by omega:4≤1000000)
 obtain ⟨j0,j1,j2,j3,j4,j5,j6,j7,j8,j9,ja,jb⟩:=S6T.out.six
 obtain ⟨i2,i3⟩:=S6T.out.rst
 obtain ⟨k2,k3,k4,k5,k6,k7, -⟩:=S7T.out.six
 obtain ⟨x2,x3⟩:=S7T.out.rst
 clear st7 lab7 hrow
 go_wp2_with fail
 refine (takeR_any W1.heap.size V2.heap.size _ _ _ _ _ S7T.out.len S7T.out.cap _ S7T.out.okc S7T.out.rst S7T.out.sees (by have:=S7T.out.len;have:=HBNDS7T.out;omega)).mono ?_
 rintro en w8 ht
 obtain ⟨z8,ok8,A8,n8,c8,r8,rfl,hn8,st,htk⟩:=S7T.out.take ht
 have HTK8:=Lib.hid htk
 have lab8:=(LAB7.out.take S7T.out ht).set (p:=⟨V3.heap.size,5,none⟩) (by have:=ST.out.ord;exact ⟨by show w.heap.size≤V3.heap.size;omega,Nat.le_refl _⟩) (.int .i64 (z8:Nat))
 have HBNDS8:Hid (n8≤1000000):=Nat.le_trans hn8 HBNDS7T.out
 obtain ⟨S8,hS8⟩:∃S8,w8.setCell ⟨V3.heap.size,5,none⟩ (.int .i64 (z8:Nat))=S8:=⟨_,rfl⟩
 have stS:=st.setX (st.six.set5 (.int .i64 (z8:Nat)))
 rw[hS8] at stS lab8
 have LAB8:=Lib.hid lab8
 have S8T:=Lib.hid stS
 have HBNDS8T:=HBNDS8
 clear m0 m1 m2 m3 m4 m5 p0 p1 p2 p3 p4 p5 y0 y1 y2 y3 j0 j1 j2 j3 j4 j5 j6 j7 j8 j9 ja jb i2 i3 k2 k3 k4 k5 k6 k7 x2 x3
 obtain ⟨m0,m1,m2,m3,m4,m5,p0,p1,p2,p3,p4,p5⟩:=st.six
 obtain ⟨y0,y1⟩:=st.rst
 obtain ⟨y2,y3⟩:=st.okc
 clear st stS htk ht hn8 lab8
 have HGO:OnlyR b ok8 ⟨1,l6,(⟨#[]⟩,⟨#[]⟩),0,(z8:Nat)⟩:=by
  intro s hs e
  have hk:=(HK.out s hs e).1
  obtain ⟨g1,g2,g3,hc⟩:=comp1 hs e hk (m:=m) (by have:=ST.out.len;rw[List.length_drop] at this;have:=HM5.out;have:=HN.out;omega)
  have hi:=HIMP.out
  rw[g1] at hi
  obtain ⟨hi1,hi2⟩:=hi rfl g2 g3
  rcases HTK8.out with ⟨_,hz,hok,hr⟩|⟨hlt,_⟩
  ·exact ⟨by rw[hok,hi1],by rw[hc,hz,hi2];rfl⟩
  ·rw[List.length_drop] at hlt;have:=ST.out.len;have:=HM5.out;omega
 obtain ⟨Al,nl,cl,hvl,hll,hlc,hls⟩:=LAB8.out
 injection hvl with e1 e2 e3
 replace e1:=e1.symm
 replace e2:=e2.symm
 replace e3:=e3.symm
 subst e1
 subst e2
 subst e3
 obtain ⟨okb,A8,n8,c8,r8,st8,hg8⟩:∃(okb:Bool) (A8:Option Addr) (n8 c8:Nat) (r8:List UInt8),PSt w w.heap.size W1.heap.size V2.heap.size V3.heap.size S8 okb A8 n8 c8 r8 1 0 (z8:Nat) ⟨#[]⟩ ⟨#[]⟩ (.slice Al nl cl)∧OnlyR b okb ⟨1,l6,(⟨#[]⟩,⟨#[]⟩),0,(z8:Nat)⟩:=⟨_,_,_,_,_,S8T.out,HGO⟩
 have HG:=Lib.hid hg8
 have HLL:=Lib.hid hll
 clear hg8
 have hMk:=Lib.hid (MakeRow_any Al nl cl l6 HLL.out 1 0 (z8:Nat) ⟨#[]⟩ ⟨#[]⟩ S8 (hls.sees fun j hj=>hj.2) (by rw[←HLL.out];omega) HSZL.out (by decide))
 have hlsK:=Lib.hid hls
 have STX:=Lib.hid st8
 obtain ⟨c0,c1,c2,c3,c4,c5, -⟩:=st8.six
 obtain ⟨o0,o1⟩:=st8.okc
 have hof:=st8.ord.2.2.2.2
 clear st8 hls hll
 go_wp2_with fail
 refine hMk.out.mono ?_
 rintro en w9 ⟨v9,kk9,rfl,hb9,hres9⟩
 have st9:=STX.out.below hb9
 have ST9:=Lib.hid st9
 clear hMk c0 c1 c2 c3 c4 c5 o0 o1
 obtain ⟨c0,c1,c2,c3,c4,c5, -⟩:=st9.six
 obtain ⟨o0,o1⟩:=st9.okc
 obtain ⟨r0,r1,r2,r3,r4,r5,g0,g1,g2,g3,g4,g5⟩:=st9.res
 obtain ⟨WZ,hWZ,sz,hbz,hkz,hzz⟩:=st9.res.store (Nat.le_refl _) (.int .i64 0) (.slice none 0 0) (.string ⟨#[]⟩) (.string ⟨#[]⟩) (.int .i64 0) (.int .i64 0)
 have HSZ9:=Lib.hid sz
 have HWZ:=Lib.hid hWZ
 have hbwz:=Lib.hid (st9.bel.trans hbz)
 clear hWZ sz hbz hkz hzz st9
 have HBAD:Hid (∀(nr:NoRow b),ParseOut w b (.returned (.tuple #[.agg #[.int .i64 0,.slice none 0 0,.string ⟨#[]⟩,.string ⟨#[]⟩,.int .i64 0,.int .i64 0],.int .i64 120])) WZ):=fun nr=>ParseOut.bad nr hbwz.out
 rcases hres9 with ⟨hmay9,rfl,hown9⟩|⟨hno9,rfl,rfl⟩
 rotate_left
 ·have HNR:=Lib.hid (HG.out.none_may hno9)
  clear hno9
  cases okb<;>(
   go_wp2_with fail
   rw[HWZ.out]
   obtain ⟨zc0,zc1,zc2,zc3,zc4,zc5, -⟩:=HSZ9.out
   refine bodyPost_ret (v := .tuple #[.agg #[.int .i64 0,.slice none 0 0,.string ⟨#[]⟩,.string ⟨#[]⟩,.int .i64 0,.int .i64 0],.int .i64 120]) (by simp[results,Tryz.results69,go_sem,zc0,zc1,zc2,zc3,zc4,zc5]) rfl ?_
   exact HBAD.out HNR.out)
 cases okb with
 | false =>
  have HNR:=Lib.hid HG.out.none_ok
  clear hmay9 hown9
  go_wp2_with fail
  rw[HWZ.out]
  obtain ⟨zc0,zc1,zc2,zc3,zc4,zc5, -⟩:=HSZ9.out
  refine bodyPost_ret (v := .tuple #[.agg #[.int .i64 0,.slice none 0 0,.string ⟨#[]⟩,.string ⟨#[]⟩,.int .i64 0,.int .i64 0],.int .i64 120]) (by simp[results,Tryz.results69,go_sem,zc0,zc1,zc2,zc3,zc4,zc5]) rfl ?_
  exact HBAD.out HNR.out
 | true =>
  have HMAY:=Lib.hid hmay9
  obtain ⟨L9,hL9⟩:∃L9,makeR ⟨1,l6,(⟨#[]⟩,⟨#[]⟩),0,(z8:Nat)⟩=L9:=⟨_,rfl⟩
  rw[hL9] at hown9
  have HL9:=Lib.hid hL9
  obtain ⟨A9,c9,rfl, -, -, -,hs9⟩:=hown9.open_
  have hE:=Lib.hid (BytesEqual_any A9 (some ad) L9.length n c9 c L9 b rfl HN.out w9 hs9 (((hS.below ST9.out.bel)).more ST9.out.bel.size))
  clear hmay9 hown9 hs9 hL9
  by_cases hLb:L9=b
  ·rw[decide_eq_true hLb] at hE
   have HLB:=Lib.hid hLb
   obtain ⟨WG,hWG,sg,hbg,hkg,hzg⟩:=ST9.out.res.store (Nat.le_refl _) (.int .i64 1) (.slice Al nl cl) (.string ⟨#[]⟩) (.string ⟨#[]⟩) (.int .i64 0) (.int .i64 (z8:Nat))
   have HSG:=Lib.hid sg
   have HWG:=Lib.hid hWG
   have hbwg:=Lib.hid (ST9.out.bel.trans hbg)
   have HSEE:Hid (SeesM (fun j=>w.heap.size≤j∧j<WG.heap.size) WG Al (lv l6)):=by
    have h1:=(hlsK.out.keep (Kept.of_below hb9 fun j hj=>hj.2)).keep (w':=WG) (fun j hj=>hkg j (by have:=hj.1;have:=ST9.out.ord;omega))
    exact h1.mono fun j hj=>⟨by have:=hj.1;have:=ST9.out.ord;omega,by rw[hzg];have:=hb9.size;have:=hj.2;omega⟩
   clear hWG sg hbg hkg hzg hLb
   go_wp2_with fail
   refine hE.out.mono ?_
   rintro en w10 ⟨rfl,rfl⟩
   go_wp2_with fail
   rw[HWG.out]
   obtain ⟨zc0,zc1,zc2,zc3,zc4,zc5, -⟩:=HSG.out
   refine bodyPost_ret (v := .tuple #[.agg #[.int .i64 1,.slice Al nl cl,.string ⟨#[]⟩,.string ⟨#[]⟩,.int .i64 0,.int .i64 (z8:Nat)],.int .i64 0]) (by simp[results,Tryz.results69,go_sem,zc0,zc1,zc2,zc3,zc4,zc5]) rfl ?_
   exact ⟨Al,nl,cl,1,0,(z8:Nat),⟨#[]⟩,⟨#[]⟩,l6,0,rfl,hbwg.out,HLL.out,hlc,HSEE.out,.inl ⟨rfl,HMAY.out,HSRT.out,by rw[HL9.out];exact HLB.out⟩⟩
  ·rw[decide_eq_false hLb] at hE
   have HNR:=Lib.hid (HG.out.none_make (by rw[HL9.out];exact hLb))
   clear hLb
   go_wp2_with fail
   refine hE.out.mono ?_
   rintro en w10 ⟨rfl,rfl⟩
   go_wp2_with fail
   rw[HWZ.out]
   obtain ⟨zc0,zc1,zc2,zc3,zc4,zc5, -⟩:=HSZ9.out
   refine bodyPost_ret (v := .tuple #[.agg #[.int .i64 0,.slice none 0 0,.string ⟨#[]⟩,.string ⟨#[]⟩,.int .i64 0,.int .i64 0],.int .i64 120]) (by simp[results,Tryz.results69,go_sem,zc0,zc1,zc2,zc3,zc4,zc5]) rfl ?_
   exact HBAD.out HNR.out
theorem Parse_k2 (ad:Addr) (n c:Nat) (b:List UInt8) (hn:b.length=n) (hnc:n≤c) (w:World) (hS:Sees w w.heap.size (some ad) (bv b)) (hlen:n≤1000000) (h4:4<n) (hadB:ad.block<w.heap.size) (k:Int) (q0:w.cell? ad=some (.int .u8 k)) (hk:k=2) (HK:Hid (∀s,MayR s→makeR s=b→s.kind=k∧1≤s.kind∧s.kind≤5)) (hk0:0≤k∧k≤255) :
  Calls Tryz.prog 69 #[.slice (some ad) n c] w (ParseOut w b):=by
 obtain ⟨hk00,hk255⟩:=hk0
 obtain rfl:=hk
 have hd:decide ((4:Int)<(n:Int))=true:=decide_eq_true (by omega)
 have i1:(1:Int)≤(n:Int):=by omega
 have i0:0<n:=by omega
 have hc1:1<c:=by omega
 obtain ⟨W1,W2,V2,W3,V3,W4,W5,hW1,hW2,hV2,hW3,hV3,hW4,hW5,one,one2,one3,six4,hbV3,st⟩:=Parse_start ad n c b hn hnc w hS h4 2
 have q3:=(hbV3.cell hadB).trans q0
 obtain ⟨u0,u1⟩:=one
 obtain ⟨u2,u3⟩:=one2
 obtain ⟨u4,u5⟩:=one3
 obtain ⟨s0,s1,s2,s3,s4,s5,p0,p1,p2,p3,p4,p5⟩:=six4
 obtain ⟨m0,m1,m2,m3,m4,m5, -⟩:=st.six
 obtain ⟨y0,y1⟩:=st.rst
 obtain ⟨y2,y3⟩:=st.okc
 have HN:=Lib.hid hn
 have ST:=Lib.hid st
 clear hn hbV3 st q0
 have HBNDST:Hid (n - 1≤1000000):=(by omega:n - 1≤1000000)
 go_enter Tryz.func69,Tryz.ntmps69
 go_wp2_with fail
 refine (takeR_any W1.heap.size V2.heap.size _ _ _ _ _ ST.out.len ST.out.cap _ ST.out.okc ST.out.rst ST.out.sees (by have:=ST.out.len;have:=HBNDST.out;omega)).mono ?_
 rintro en w6 ht
 obtain ⟨z6,ok6,A6,n6,c6,r6,rfl,hn6,st,htk⟩:=ST.out.take ht
 have HTK6:=Lib.hid htk
 have HBNDS6:Hid (n6≤1000000):=Nat.le_trans hn6 HBNDST.out
 obtain ⟨S6,hS6⟩:∃S6,w6.setCell ⟨V3.heap.size,5,none⟩ (.int .i64 (z6:Nat))=S6:=⟨_,rfl⟩
 have stS:=st.setX (st.six.set5 (.int .i64 (z6:Nat)))
 rw[hS6] at stS
 have S6T:=Lib.hid stS
 have HBNDS6T:=HBNDS6
 clear m0 m1 m2 m3 m4 m5 y0 y1 y2 y3 u0 u1 u2 u3 u4 u5 s0 s1 s2 s3 s4 s5 p0 p1 p2 p3 p4 p5 q3
 obtain ⟨m0,m1,m2,m3,m4,m5,p0,p1,p2,p3,p4,p5⟩:=st.six
 obtain ⟨y0,y1⟩:=st.rst
 obtain ⟨y2,y3⟩:=st.okc
 clear st stS htk ht hn6
 obtain ⟨y4,y5⟩:=S6T.out.rst
 go_wp2_with fail
 refine (all_any W1.heap.size _ _ _ _ _ S6T.out.len S6T.out.cap _ S6T.out.okc S6T.out.sees (by have:=HBNDS6T.out;omega) (by have:=S6T.out.ord;omega)).mono ?_
 rintro en w7 ht
 obtain ⟨v7,l7,ok7,rfl,st,lab,hl6,hsz,hsrt,himp⟩:=S6T.out.all ht
 have HSZL:=Lib.hid hsz
 have HSRT:=Lib.hid hsrt
 have HIMP:=Lib.hid himp
 obtain ⟨S7,hS7⟩:∃S7,w7.setCell ⟨V3.heap.size,1,none⟩ v7=S7:=⟨_,rfl⟩
 have stS:=st.setX (st.six.set1 v7)
 have labS:=lab.set (p:=⟨V3.heap.size,1,none⟩) (by have:=st.ord;exact ⟨by show w.heap.size≤V3.heap.size;omega,Nat.le_refl _⟩) v7
 rw[hS7] at stS labS
 have S7T:=Lib.hid stS
 have LAB7:=Lib.hid labS
 clear m0 m1 m2 m3 m4 m5 p0 p1 p2 p3 p4 p5 y0 y1 y2 y3
 obtain ⟨m0,m1,m2,m3,m4,m5,p0,p1,p2,p3,p4,p5⟩:=st.six
 obtain ⟨y0,y1⟩:=st.rst
 obtain ⟨y2,y3⟩:=st.okc
 clear st stS ht hsz hsrt himp lab labS
 have HGO:OnlyR b ok7 ⟨2,l7,(⟨#[]⟩,⟨#[]⟩),0,(z6:Nat)⟩:=by
  intro s hs e
  have hk:=(HK.out s hs e).1
  obtain ⟨g0,g1,g2,g3,hc⟩:=comp2 hs e hk
  rcases HTK6.out with ⟨_,hz,hok,hr⟩|⟨hlt,_⟩
  ·have hi:=HIMP.out
   rw[hr,g1] at hi
   obtain ⟨hi1,hi2⟩:=hi rfl g2 g3
   exact ⟨by rw[hi1,hok],by rw[hc,hz,hi2];rfl⟩
  ·omega
 obtain ⟨Al,nl,cl,rfl,hll,hlc,hls⟩:=LAB7.out
 obtain ⟨okb,A8,n8,c8,r8,st8,hg8⟩:∃(okb:Bool) (A8:Option Addr) (n8 c8:Nat) (r8:List UInt8),PSt w w.heap.size W1.heap.size V2.heap.size V3.heap.size S7 okb A8 n8 c8 r8 2 0 (z6:Nat) ⟨#[]⟩ ⟨#[]⟩ (.slice Al nl cl)∧OnlyR b okb ⟨2,l7,(⟨#[]⟩,⟨#[]⟩),0,(z6:Nat)⟩:=⟨_,_,_,_,_,S7T.out,HGO⟩
 have HG:=Lib.hid hg8
 have HLL:=Lib.hid hll
 clear hg8
 have hMk:=Lib.hid (MakeRow_any Al nl cl l7 HLL.out 2 0 (z6:Nat) ⟨#[]⟩ ⟨#[]⟩ S7 (hls.sees fun j hj=>hj.2) (by rw[←HLL.out];omega) HSZL.out (by decide))
 have hlsK:=Lib.hid hls
 have STX:=Lib.hid st8
 obtain ⟨c0,c1,c2,c3,c4,c5, -⟩:=st8.six
 obtain ⟨o0,o1⟩:=st8.okc
 have hof:=st8.ord.2.2.2.2
 clear st8 hls hll
 go_wp2_with fail
 refine hMk.out.mono ?_
 rintro en w9 ⟨v9,kk9,rfl,hb9,hres9⟩
 have st9:=STX.out.below hb9
 have ST9:=Lib.hid st9
 clear hMk c0 c1 c2 c3 c4 c5 o0 o1
 obtain ⟨c0,c1,c2,c3,c4,c5, -⟩:=st9.six
 obtain ⟨o0,o1⟩:=st9.okc
 obtain ⟨r0,r1,r2,r3,r4,r5,g0,g1,g2,g3,g4,g5⟩:=st9.res
 obtain ⟨WZ,hWZ,sz,hbz,hkz,hzz⟩:=st9.res.store (Nat.le_refl _) (.int .i64 0) (.slice none 0 0) (.string ⟨#[]⟩) (.string ⟨#[]⟩) (.int .i64 0) (.int .i64 0)
 have HSZ9:=Lib.hid sz
 have HWZ:=Lib.hid hWZ
 have hbwz:=Lib.hid (st9.bel.trans hbz)
 clear hWZ sz hbz hkz hzz st9
 have HBAD:Hid (∀(nr:NoRow b),ParseOut w b (.returned (.tuple #[.agg #[.int .i64 0,.slice none 0 0,.string ⟨#[]⟩,.string ⟨#[]⟩,.int .i64 0,.int .i64 0],.int .i64 120])) WZ):=fun nr=>ParseOut.bad nr hbwz.out
 rcases hres9 with ⟨hmay9,rfl,hown9⟩|⟨hno9,rfl,rfl⟩
 rotate_left
 ·have HNR:=Lib.hid (HG.out.none_may hno9)
  clear hno9
  cases okb<;>(
   go_wp2_with fail
   rw[HWZ.out]
   obtain ⟨zc0,zc1,zc2,zc3,zc4,zc5, -⟩:=HSZ9.out
   refine bodyPost_ret (v := .tuple #[.agg #[.int .i64 0,.slice none 0 0,.string ⟨#[]⟩,.string ⟨#[]⟩,.int .i64 0,.int .i64 0],.int .i64 120]) (by simp[results,Tryz.results69,go_sem,zc0,zc1,zc2,zc3,zc4,zc5]) rfl ?_
   exact HBAD.out HNR.out)
 cases okb with
 | false =>
  have HNR:=Lib.hid HG.out.none_ok
  clear hmay9 hown9
  go_wp2_with fail
  rw[HWZ.out]
  obtain ⟨zc0,zc1,zc2,zc3,zc4,zc5, -⟩:=HSZ9.out
  refine bodyPost_ret (v := .tuple #[.agg #[.int .i64 0,.slice none 0 0,.string ⟨#[]⟩,.string ⟨#[]⟩,.int .i64 0,.int .i64 0],.int .i64 120]) (by simp[results,Tryz.results69,go_sem,zc0,zc1,zc2,zc3,zc4,zc5]) rfl ?_
  exact HBAD.out HNR.out
 | true =>
  have HMAY:=Lib.hid hmay9
  obtain ⟨L9,hL9⟩:∃L9,makeR ⟨2,l7,(⟨#[]⟩,⟨#[]⟩),0,(z6:Nat)⟩=L9:=⟨_,rfl⟩
  rw[hL9] at hown9
  have HL9:=Lib.hid hL9
  obtain ⟨A9,c9,rfl, -, -, -,hs9⟩:=hown9.open_
  have hE:=Lib.hid (BytesEqual_any A9 (some ad) L9.length n c9 c L9 b rfl HN.out w9 hs9 (((hS.below ST9.out.bel)).more ST9.out.bel.size))
  clear hmay9 hown9 hs9 hL9
  by_cases hLb:L9=b
  ·rw[decide_eq_true hLb] at hE
   have HLB:=Lib.hid hLb
   obtain ⟨WG,hWG,sg,hbg,hkg,hzg⟩:=ST9.out.res.store (Nat.le_refl _) (.int .i64 2) (.slice Al nl cl) (.string ⟨#[]⟩) (.string ⟨#[]⟩) (.int .i64 0) (.int .i64 (z6:Nat))
   have HSG:=Lib.hid sg
   have HWG:=Lib.hid hWG
   have hbwg:=Lib.hid (ST9.out.bel.trans hbg)
   have HSEE:Hid (SeesM (fun j=>w.heap.size≤j∧j<WG.heap.size) WG Al (lv l7)):=by
    have h1:=(hlsK.out.keep (Kept.of_below hb9 fun j hj=>hj.2)).keep (w':=WG) (fun j hj=>hkg j (by have:=hj.1;have:=ST9.out.ord;omega))
    exact h1.mono fun j hj=>⟨by have:=hj.1;have:=ST9.out.ord;omega,by rw[hzg];have:=hb9.size;have:=hj.2;omega⟩
   clear hWG sg hbg hkg hzg hLb
   go_wp2_with fail
   refine hE.out.mono ?_
   rintro en w10 ⟨rfl,rfl⟩
   go_wp2_with fail
   rw[HWG.out]
   obtain ⟨zc0,zc1,zc2,zc3,zc4,zc5, -⟩:=HSG.out
   refine bodyPost_ret (v := .tuple #[.agg #[.int .i64 2,.slice Al nl cl,.string ⟨#[]⟩,.string ⟨#[]⟩,.int .i64 0,.int .i64 (z6:Nat)],.int .i64 0]) (by simp[results,Tryz.results69,go_sem,zc0,zc1,zc2,zc3,zc4,zc5]) rfl ?_
   exact ⟨Al,nl,cl,2,0,(z6:Nat),⟨#[]⟩,⟨#[]⟩,l7,0,rfl,hbwg.out,HLL.out,hlc,HSEE.out,.inl ⟨rfl,HMAY.out,HSRT.out,by rw[HL9.out];exact HLB.out⟩⟩
  ·rw[decide_eq_false hLb] at hE
   have HNR:=Lib.hid (HG.out.none_make (by rw[HL9.out];exact hLb))
   clear hLb
   go_wp2_with fail
   refine hE.out.mono ?_
   rintro en w10 ⟨rfl,rfl⟩
   go_wp2_with fail
   rw[HWZ.out]
   obtain ⟨zc0,zc1,zc2,zc3,zc4,zc5, -⟩:=HSZ9.out
   refine bodyPost_ret (v := .tuple #[.agg #[.int .i64 0,.slice none 0 0,.string ⟨#[]⟩,.string ⟨#[]⟩,.int .i64 0,.int .i64 0],.int .i64 120]) (by simp[results,Tryz.results69,go_sem,zc0,zc1,zc2,zc3,zc4,zc5]) rfl ?_
   exact HBAD.out HNR.out
theorem Parse_k4 (ad:Addr) (n c:Nat) (b:List UInt8) (hn:b.length=n) (hnc:n≤c) (w:World) (hS:Sees w w.heap.size (some ad) (bv b)) (hlen:n≤1000000) (h4:4<n) (hadB:ad.block<w.heap.size) (k:Int) (q0:w.cell? ad=some (.int .u8 k)) (hk:k=4) (HK:Hid (∀s,MayR s→makeR s=b→s.kind=k∧1≤s.kind∧s.kind≤5)) (hk0:0≤k∧k≤255) :
  Calls Tryz.prog 69 #[.slice (some ad) n c] w (ParseOut w b):=by
 obtain ⟨hk00,hk255⟩:=hk0
 obtain rfl:=hk
 have hd:decide ((4:Int)<(n:Int))=true:=decide_eq_true (by omega)
 have i1:(1:Int)≤(n:Int):=by omega
 have i0:0<n:=by omega
 have hc1:1<c:=by omega
 obtain ⟨W1,W2,V2,W3,V3,W4,W5,hW1,hW2,hV2,hW3,hV3,hW4,hW5,one,one2,one3,six4,hbV3,st⟩:=Parse_start ad n c b hn hnc w hS h4 4
 have q3:=(hbV3.cell hadB).trans q0
 obtain ⟨u0,u1⟩:=one
 obtain ⟨u2,u3⟩:=one2
 obtain ⟨u4,u5⟩:=one3
 obtain ⟨s0,s1,s2,s3,s4,s5,p0,p1,p2,p3,p4,p5⟩:=six4
 obtain ⟨m0,m1,m2,m3,m4,m5, -⟩:=st.six
 obtain ⟨y0,y1⟩:=st.rst
 obtain ⟨y2,y3⟩:=st.okc
 have HN:=Lib.hid hn
 have ST:=Lib.hid st
 clear hn hbV3 st q0
 have HBNDST:Hid (n - 1≤1000000):=(by omega:n - 1≤1000000)
 go_enter Tryz.func69,Tryz.ntmps69
 go_wp2_with fail
 refine (takeR_any W1.heap.size V2.heap.size _ _ _ _ _ ST.out.len ST.out.cap _ ST.out.okc ST.out.rst ST.out.sees (by have:=ST.out.len;have:=HBNDST.out;omega)).mono ?_
 rintro en w5 ht
 obtain ⟨z5,ok5,A5,n5,c5,r5,rfl,hn5,st,htk⟩:=ST.out.take ht
 have HTK5:=Lib.hid htk
 have HBNDS5:Hid (n5≤1000000):=Nat.le_trans hn5 HBNDST.out
 obtain ⟨S5,hS5⟩:∃S5,w5.setCell ⟨V3.heap.size,4,none⟩ (.int .i64 (z5:Nat))=S5:=⟨_,rfl⟩
 have stS:=st.setX (st.six.set4 (.int .i64 (z5:Nat)))
 rw[hS5] at stS
 have S5T:=Lib.hid stS
 have HBNDS5T:=HBNDS5
 clear m0 m1 m2 m3 m4 m5 y0 y1 y2 y3 u0 u1 u2 u3 u4 u5 s0 s1 s2 s3 s4 s5 p0 p1 p2 p3 p4 p5 q3
 obtain ⟨m0,m1,m2,m3,m4,m5,p0,p1,p2,p3,p4,p5⟩:=st.six
 obtain ⟨y0,y1⟩:=st.rst
 obtain ⟨y2,y3⟩:=st.okc
 clear st stS htk ht hn5
 go_wp2_with fail
 refine (text_any W1.heap.size V2.heap.size (by have:=S5T.out.ord;omega) _ _ _ _ _ S5T.out.len S5T.out.cap _ S5T.out.okc S5T.out.rst S5T.out.sees (by have:=HBNDS5T.out;omega) (by have:=S5T.out.ord;omega) (by have:=S5T.out.ord;omega)).mono ?_
 rintro en w6 ht
 obtain ⟨A6,n6,c6,rfl,hn6,st⟩:=S5T.out.text ht
 have HBNDS6T:Hid (n6≤1000000):=Nat.le_trans hn6 HBNDS5T.out
 have hxl:(strOf (cutR r5).1).size≤9223372036854775807:=by have:=cut_text_len r5;have:=S5T.out.len;have:=HBNDS5T.out;omega
 obtain ⟨t6,hx6⟩:∃t,strOf (cutR r5).1=t:=⟨_,rfl⟩
 rw[hx6] at hxl
 simp only[hx6]
 have HX6:=Lib.hid hx6
 have HXL6:=Lib.hid hxl
 obtain ⟨S6,hS6⟩:∃S6,w6.setCell ⟨V3.heap.size,2,none⟩ (.string t6)=S6:=⟨_,rfl⟩
 have stS:=st.setX (st.six.set2 (.string t6))
 rw[hS6] at stS
 have S6T:=Lib.hid stS
 clear m0 m1 m2 m3 m4 m5 p0 p1 p2 p3 p4 p5 y0 y1 y2 y3
 obtain ⟨m0,m1,m2,m3,m4,m5,p0,p1,p2,p3,p4,p5⟩:=st.six
 obtain ⟨y0,y1⟩:=st.rst
 obtain ⟨y2,y3⟩:=st.okc
 clear st stS ht hn6 hxl hx6
 go_wp2_with fail
 refine (text_any W1.heap.size V2.heap.size (by have:=S6T.out.ord;omega) _ _ _ _ _ S6T.out.len S6T.out.cap _ S6T.out.okc S6T.out.rst S6T.out.sees (by have:=HBNDS6T.out;omega) (by have:=S6T.out.ord;omega) (by have:=S6T.out.ord;omega)).mono ?_
 rintro en w7 ht
 obtain ⟨A7,n7,c7,rfl,hn7,st⟩:=S6T.out.text ht
 have HBNDS7T:Hid (n7≤1000000):=Nat.le_trans hn7 HBNDS6T.out
 have hxl:(strOf (cutR (left r5)).1).size≤9223372036854775807:=by have:=cut_text_len (left r5);have:=S6T.out.len;have:=HBNDS6T.out;omega
 obtain ⟨t7,hx7⟩:∃t,strOf (cutR (left r5)).1=t:=⟨_,rfl⟩
 rw[hx7] at hxl
 simp only[hx7]
 have HX7:=Lib.hid hx7
 have HXL7:=Lib.hid hxl
 obtain ⟨S7,hS7⟩:∃S7,w7.setCell ⟨V3.heap.size,3,none⟩ (.string t7)=S7:=⟨_,rfl⟩
 have stS:=st.setX (st.six.set3 (.string t7))
 rw[hS7] at stS
 have S7T:=Lib.hid stS
 clear m0 m1 m2 m3 m4 m5 p0 p1 p2 p3 p4 p5 y0 y1 y2 y3
 obtain ⟨m0,m1,m2,m3,m4,m5,p0,p1,p2,p3,p4,p5⟩:=st.six
 obtain ⟨y0,y1⟩:=st.rst
 obtain ⟨y2,y3⟩:=st.okc
 clear st stS ht hn7 hxl hx7
 go_wp2_with fail
 refine (takeR_any W1.heap.size V2.heap.size _ _ _ _ _ S7T.out.len S7T.out.cap _ S7T.out.okc S7T.out.rst S7T.out.sees (by have:=S7T.out.len;have:=HBNDS7T.out;omega)).mono ?_
 rintro en w8 ht
 obtain ⟨z8,ok8,A8,n8,c8,r8,rfl,hn8,st,htk⟩:=S7T.out.take ht
 have HTK8:=Lib.hid htk
 have HBNDS8:Hid (n8≤1000000):=Nat.le_trans hn8 HBNDS7T.out
 obtain ⟨S8,hS8⟩:∃S8,w8.setCell ⟨V3.heap.size,5,none⟩ (.int .i64 (z8:Nat))=S8:=⟨_,rfl⟩
 have stS:=st.setX (st.six.set5 (.int .i64 (z8:Nat)))
 rw[hS8] at stS
 have S8T:=Lib.hid stS
 have HBNDS8T:=HBNDS8
 clear m0 m1 m2 m3 m4 m5 p0 p1 p2 p3 p4 p5 y0 y1 y2 y3
 obtain ⟨m0,m1,m2,m3,m4,m5,p0,p1,p2,p3,p4,p5⟩:=st.six
 obtain ⟨y0,y1⟩:=st.rst
 obtain ⟨y2,y3⟩:=st.okc
 clear st stS htk ht hn8
 have HGO:OnlyR b ok8 ⟨4, [],(t6,t7),(z5:Nat),(z8:Nat)⟩:=by
  intro s hs e
  have hk:=(HK.out s hs e).1
  obtain ⟨g0,g1,g2,g3,hc⟩:=comp4 hs e hk
  rcases HTK5.out with ⟨_,hz5,hok5,hr5⟩|⟨hlt,_⟩
  ·subst hr5
   rcases HTK8.out with ⟨_,hz,hok,_⟩|⟨hlt,_⟩
   ·refine ⟨by rw[hok,hok5,decide_eq_true g1,decide_eq_true g2];rfl,?_⟩
    rw[hc,hz,hz5,HX6.out,HX7.out]
   ·omega
  ·omega
 obtain ⟨hll,hlc,hls⟩:([]:List Lb).length=0∧0≤0∧SeesM (fun j=>(j<w.heap.size∨V3.heap.size<j)∧j<S8.heap.size) S8 none (lv []):=⟨rfl,Nat.le_refl _,⟨.inl rfl⟩⟩
 obtain ⟨okb,A8,n8,c8,r8,st8,hg8⟩:∃(okb:Bool) (A8:Option Addr) (n8 c8:Nat) (r8:List UInt8),PSt w w.heap.size W1.heap.size V2.heap.size V3.heap.size S8 okb A8 n8 c8 r8 4 (z5:Nat) (z8:Nat) t6 t7 (.slice none 0 0)∧OnlyR b okb ⟨4, [],(t6,t7),(z5:Nat),(z8:Nat)⟩:=⟨_,_,_,_,_,S8T.out,HGO⟩
 have HG:=Lib.hid hg8
 have HLL:=Lib.hid hll
 clear hg8
 have hMk:=Lib.hid (MakeRow_any none 0 0 [] HLL.out 4 (z5:Nat) (z8:Nat) t6 t7 S8 (hls.sees fun j hj=>hj.2) (by rw[←HLL.out];simp) (by simp) HXL6.out)
 have hlsK:=Lib.hid hls
 have STX:=Lib.hid st8
 obtain ⟨c0,c1,c2,c3,c4,c5, -⟩:=st8.six
 obtain ⟨o0,o1⟩:=st8.okc
 have hof:=st8.ord.2.2.2.2
 clear st8 hls hll
 go_wp2_with fail
 refine hMk.out.mono ?_
 rintro en w9 ⟨v9,kk9,rfl,hb9,hres9⟩
 have st9:=STX.out.below hb9
 have ST9:=Lib.hid st9
 clear hMk c0 c1 c2 c3 c4 c5 o0 o1
 obtain ⟨c0,c1,c2,c3,c4,c5, -⟩:=st9.six
 obtain ⟨o0,o1⟩:=st9.okc
 obtain ⟨r0,r1,r2,r3,r4,r5,g0,g1,g2,g3,g4,g5⟩:=st9.res
 obtain ⟨WZ,hWZ,sz,hbz,hkz,hzz⟩:=st9.res.store (Nat.le_refl _) (.int .i64 0) (.slice none 0 0) (.string ⟨#[]⟩) (.string ⟨#[]⟩) (.int .i64 0) (.int .i64 0)
 have HSZ9:=Lib.hid sz
 have HWZ:=Lib.hid hWZ
 have hbwz:=Lib.hid (st9.bel.trans hbz)
 clear hWZ sz hbz hkz hzz st9
 have HBAD:Hid (∀(nr:NoRow b),ParseOut w b (.returned (.tuple #[.agg #[.int .i64 0,.slice none 0 0,.string ⟨#[]⟩,.string ⟨#[]⟩,.int .i64 0,.int .i64 0],.int .i64 120])) WZ):=fun nr=>ParseOut.bad nr hbwz.out
 rcases hres9 with ⟨hmay9,rfl,hown9⟩|⟨hno9,rfl,rfl⟩
 rotate_left
 ·have HNR:=Lib.hid (HG.out.none_may hno9)
  clear hno9
  cases okb<;>(
   go_wp2_with fail
   rw[HWZ.out]
   obtain ⟨zc0,zc1,zc2,zc3,zc4,zc5, -⟩:=HSZ9.out
   refine bodyPost_ret (v := .tuple #[.agg #[.int .i64 0,.slice none 0 0,.string ⟨#[]⟩,.string ⟨#[]⟩,.int .i64 0,.int .i64 0],.int .i64 120]) (by simp[results,Tryz.results69,go_sem,zc0,zc1,zc2,zc3,zc4,zc5]) rfl ?_
   exact HBAD.out HNR.out)
 cases okb with
 | false =>
  have HNR:=Lib.hid HG.out.none_ok
  clear hmay9 hown9
  go_wp2_with fail
  rw[HWZ.out]
  obtain ⟨zc0,zc1,zc2,zc3,zc4,zc5, -⟩:=HSZ9.out
  refine bodyPost_ret (v := .tuple #[.agg #[.int .i64 0,.slice none 0 0,.string ⟨#[]⟩,.string ⟨#[]⟩,.int .i64 0,.int .i64 0],.int .i64 120]) (by simp[results,Tryz.results69,go_sem,zc0,zc1,zc2,zc3,zc4,zc5]) rfl ?_
  exact HBAD.out HNR.out
 | true =>
  have HMAY:=Lib.hid hmay9
  obtain ⟨L9,hL9⟩:∃L9,makeR ⟨4, [],(t6,t7),(z5:Nat),(z8:Nat)⟩=L9:=⟨_,rfl⟩
  rw[hL9] at hown9
  have HL9:=Lib.hid hL9
  obtain ⟨A9,c9,rfl, -, -, -,hs9⟩:=hown9.open_
  have hE:=Lib.hid (BytesEqual_any A9 (some ad) L9.length n c9 c L9 b rfl HN.out w9 hs9 (((hS.below ST9.out.bel)).more ST9.out.bel.size))
  clear hmay9 hown9 hs9 hL9
  by_cases hLb:L9=b
  ·rw[decide_eq_true hLb] at hE
   have HLB:=Lib.hid hLb
   obtain ⟨WG,hWG,sg,hbg,hkg,hzg⟩:=ST9.out.res.store (Nat.le_refl _) (.int .i64 4) (.slice none 0 0) (.string t6) (.string t7) (.int .i64 (z5:Nat)) (.int .i64 (z8:Nat))
   have HSG:=Lib.hid sg
   have HWG:=Lib.hid hWG
   have hbwg:=Lib.hid (ST9.out.bel.trans hbg)
   have HSEE:Hid (SeesM (fun j=>w.heap.size≤j∧j<WG.heap.size) WG none (lv [])):=by unfold Hid;exact ⟨.inl rfl⟩
   clear hWG sg hbg hkg hzg hLb
   go_wp2_with fail
   refine hE.out.mono ?_
   rintro en w10 ⟨rfl,rfl⟩
   go_wp2_with fail
   rw[HWG.out]
   obtain ⟨zc0,zc1,zc2,zc3,zc4,zc5, -⟩:=HSG.out
   refine bodyPost_ret (v := .tuple #[.agg #[.int .i64 4,.slice none 0 0,.string t6,.string t7,.int .i64 (z5:Nat),.int .i64 (z8:Nat)],.int .i64 0]) (by simp[results,Tryz.results69,go_sem,zc0,zc1,zc2,zc3,zc4,zc5]) rfl ?_
   exact ⟨none,0,0,4,(z5:Nat),(z8:Nat),t6,t7, [],0,rfl,hbwg.out,HLL.out,hlc,HSEE.out,.inl ⟨rfl,HMAY.out,rfl,by rw[HL9.out];exact HLB.out⟩⟩
  ·rw[decide_eq_false hLb] at hE
   have HNR:=Lib.hid (HG.out.none_make (by rw[HL9.out];exact hLb))
   clear hLb
   go_wp2_with fail
   refine hE.out.mono ?_
   rintro en w10 ⟨rfl,rfl⟩
   go_wp2_with fail
   rw[HWZ.out]
   obtain ⟨zc0,zc1,zc2,zc3,zc4,zc5, -⟩:=HSZ9.out
   refine bodyPost_ret (v := .tuple #[.agg #[.int .i64 0,.slice none 0 0,.string ⟨#[]⟩,.string ⟨#[]⟩,.int .i64 0,.int .i64 0],.int .i64 120]) (by simp[results,Tryz.results69,go_sem,zc0,zc1,zc2,zc3,zc4,zc5]) rfl ?_
   exact HBAD.out HNR.out
theorem Parse_any (A:Option Addr) (n c:Nat) (b:List UInt8) (hn:b.length=n) (hnc:n≤c) (w:World) (hS:Sees w w.heap.size A (bv b)) (hlen:n≤1000000) :
  Calls Tryz.prog 69 #[.slice A n c] w (ParseOut w b):=by
 by_cases h4:n≤4
 ·exact Parse_short A n c b hn w h4
 obtain ⟨ad,rfl,hadB,hcell⟩:∃ad:Addr,A=some ad∧ad.block<w.heap.size∧∀j u,(bv b)[j]?=some u→w.cell? (ad.add j)=some u:=by
  rcases hS.out with h|h
  ·have:=congrArg List.length h;rw[bv_length,List.length_nil] at this;omega
  ·exact h
 have q0:w.cell? ad=some (.int .u8 ((b[0]'(by omega)).toNat:Int)):=hcell 0 _ (bv_at b 0 (by omega))
 have HK:Hid (∀s,MayR s→makeR s=b→s.kind=((b[0]'(by omega)).toNat:Int)∧1≤s.kind∧s.kind≤5):=fun s hs e=>comp_kind hs e (by omega)
 have hk0:(0:Int)≤((b[0]'(by omega)).toNat:Int)∧((b[0]'(by omega)).toNat:Int)≤255:=by have:=(b[0]'(by omega)).toNat_lt;omega
 generalize ((b[0]'(by omega)).toNat:Int)=k at q0 HK hk0
 have h4' : 4<n:=by omega
 by_cases k1:k=1
 ·exact Parse_k1 ad n c b hn hnc w hS hlen h4' hadB k q0 k1 HK hk0
 by_cases k2:k=2
 ·exact Parse_k2 ad n c b hn hnc w hS hlen h4' hadB k q0 k2 HK hk0
 by_cases k3:k=3
 ·exact Parse_k3 ad n c b hn hnc w hS hlen h4' hadB k q0 k3 HK hk0
 by_cases k4:k=4
 ·exact Parse_k4 ad n c b hn hnc w hS hlen h4' hadB k q0 k4 HK hk0
 by_cases k5:k=5
 ·exact Parse_k5 ad n c b hn hnc w hS hlen h4' hadB k q0 k5 HK hk0
 by_cases k6:k≤0
 ·exact Parse_k0 ad n c b hn hnc w hS hlen h4' hadB k q0 k6 HK hk0
 ·exact Parse_k6 ad n c b hn hnc w hS hlen h4' hadB k q0 (by omega) HK hk0
end
end Go.Proofs.YtalmnodgjjcefaaGreatDoor
