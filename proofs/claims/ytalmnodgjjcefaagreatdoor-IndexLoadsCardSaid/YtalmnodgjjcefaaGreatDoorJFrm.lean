/- Several texts in one: FrPlain FrSum FrRef FrMake FrNext FrNext2 FrNext3. -/
import Derived.Test.YtalmnodgjjcefaaGreatDoorJTk
import Derived.Test.YtalmnodgjjcefaaGreatDoorJLow
import Derived.Lib.LaidTab
import Derived.Defers
import Derived.Deep.RegionWith
set_option maxRecDepth 100000
set_option maxHeartbeats 800000
namespace Go.Proofs.YtalmnodgjjcefaaGreatDoor
section
def ctab:List Nat := [0,498536548,997073096,651767980,1994146192,1802195444,1303535960,1342533948,3988292384,4027552580,3604390888,3412177804,2607071920,2262029012,2685067896,3183342108]
def nib (r:Nat):Nat:=r / 16 ^^^ ctab.getD (r % 16) 0
def crcByte (r:Nat) (c:UInt8):Nat:=nib (nib (r ^^^ c.toNat))
def crcFrom (r:Nat) (l:List UInt8):Nat:=l.foldl crcByte r
def crc (l:List UInt8):Nat:=4294967295 - crcFrom 4294967295 l
def Is32 (n:Nat):Prop:=n<4294967296
theorem Is32.xor {a b:Nat}(ha:Is32 a) (hb:Is32 b):Is32 (a ^^^ b):=Nat.xor_lt_two_pow (n:=32) ha hb
theorem Is32.byte (c:UInt8):Is32 c.toNat:=by have:=c.toNat_lt;unfold Is32;omega
theorem Is32.div {a:Nat}(ha:Is32 a) (k:Nat):Is32 (a / k):=Nat.lt_of_le_of_lt (Nat.div_le_self _ _) ha
theorem ctab_lt:∀i,i<16→Is32 (ctab.getD i 0):=by unfold Is32;decide
theorem Is32.nib {a:Nat}(ha:Is32 a):Is32 (nib a):=(ha.div 16).xor (ctab_lt _ (by omega))
theorem Is32.crcByte {a:Nat}(ha:Is32 a) (c:UInt8):Is32 (crcByte a c):=((ha.xor (Is32.byte c)).nib).nib
theorem Is32.crcFrom {a:Nat}(ha:Is32 a) (l:List UInt8):Is32 (crcFrom a l):=by
 induction l generalizing a with
 | nil=>exact ha
 | cons c l ih=>exact ih (ha.crcByte c)
theorem Is32.full:Is32 4294967295:=by unfold Is32;omega
theorem Is32.crc (l:List UInt8):Is32 (crc l):=by unfold Is32 Proofs.YtalmnodgjjcefaaGreatDoor.crc;omega
theorem crcFrom_take (r:Nat) (l:List UInt8) (k:Nat) (h:k<l.length):crcFrom r (l.take (k+1))=crcByte (crcFrom r (l.take k)) l[k]:=by
 unfold crcFrom
 rw[List.take_succ_eq_append_getElem h,List.foldl_append]
 rfl
def tail4 (s:Nat):List UInt8 := [UInt8.ofNat (s / 16777216),UInt8.ofNat (s / 65536),UInt8.ofNat (s / 256),UInt8.ofNat s]
def sealB (l:List UInt8):List UInt8:=l++tail4 (crc l)
theorem sealB_len (l:List UInt8):(sealB l).length=l.length+4:=by simp[sealB,tail4]
def fnext:List UInt8→Nat×List UInt8×List UInt8×Nat
 | []=>(0, [], [],10)
 | k :: t =>
  if (vtake t).2.2≠0 then (0, [], [],(vtake t).2.2)
  else if 65535<(vtake t).1 then (0, [], [],11)
  else if (t.drop (vtake t).2.1).length<(vtake t).1+4 then (0, [], [],10)
  else if sealB ((k :: t).take (1+(vtake t).2.1+(vtake t).1))==(k :: t).take (1+(vtake t).2.1+(vtake t).1+4) then (k.toNat,(t.drop (vtake t).2.1).take (vtake t).1,(t.drop (vtake t).2.1).drop ((vtake t).1+4),0)
  else (0, [], [],50)
end
section
open Go.RowKit
def Halves (w:World):Prop:=1+1≤w.heap.size∧∀i,i<16→w.cell? ⟨1,i,none⟩=some (.int .u32 ((ctab.getD i 0:Nat):Int))
theorem Halves.below {w w' : World}{B:Nat}(h:Halves w) (hb:Below B w w') (hB:1+1≤B):Halves w' :=
 ⟨Nat.le_trans h.1 hb.size,fun i hi=>(hb.cell (p:=⟨1,i,none⟩) (by simp;omega)).trans (h.2 i hi)⟩
theorem Halves.onto {w w' : World}{v v' : Value}(h:Halves w) (hb:Onto w w' v v') (hv:∀k,v.ownBlock=some k→1+1≤k):Halves w' :=
 h.below (hb.below h.1 hv) (Nat.le_refl _)
theorem nib_step (r i t:Nat) (hr:Is32 r) (hi:i=r % 16) (ht:t=ctab.getD i 0):bits .and .u32 (r:Int) 15=(i:Int)∧bits .xor .u32 ((r:Int) / 16) (t:Int)=(nib r:Int):=by
 subst hi
 subst ht
 refine ⟨?_,?_⟩
 ·have:=u32_and_nat r 15 hr (by omega)
  rw[nat_mask4] at this
  exact this
 ·have h:=u32_xor_nat (r / 16) (ctab.getD (r % 16) 0) (hr.div 16) (ctab_lt _ (by omega))
  rw[show ((r:Int) / 16)=((r / 16:Nat):Int) from by omega]
  exact h
theorem byte_step (r:Nat) (c:UInt8) (hr:Is32 r):bits .xor .u32 (r:Int) (c.toNat:Int)=((r ^^^ c.toNat:Nat):Int):=u32_xor_nat r c.toNat hr (Is32.byte c)
theorem not32 (x:Nat) (hx:Is32 x):bits .xor .u32 IntKind.u32.max (x:Int)=((4294967295 - x:Nat):Int):=by
 rw[show IntKind.u32.max=((4294967295:Nat):Int) from by decide,u32_xor_nat _ _ (by omega) hx]
 congr 1
 apply Nat.eq_of_testBit_eq
 intro i
 have h:=Nat.testBit_two_pow_sub_succ (n:=32) hx i
 rw[Nat.testBit_xor,show (4294967295:Nat) - x=2 ^ 32 - (x+1) from by omega,h,show (4294967295:Nat)=2 ^ 32 - 1 from by omega,Nat.testBit_two_pow_sub_one]
 by_cases hi:i<32
 ·simp[hi]
 ·simp[hi]
  exact Nat.testBit_lt_two_pow (Nat.lt_of_lt_of_le hx (by have:=Nat.pow_le_pow_right (n:=2) (by omega) (Nat.le_of_not_lt hi);omega))
def SumIs (w:World) (s:Nat) (e:Ending) (w' : World):Prop:=e = .returned (.int .u32 (s:Int))∧w=w'
theorem Sum_any (A:Option Addr) (n c:Nat) (l:List UInt8) (hn:l.length=n) (w:World) (hS:Sees w w.heap.size A (bv l)) (hH:Halves w) (hlen:l.length≤1099511627776) :
  Calls Tryz.prog 243 #[.slice A n c] w (SumIs w (crc l)):=by
 have hnb:n≤1099511627776:=by omega
 have hnH:=Lib.hid hn
 clear hn hlen
 go_enter Tryz.func243,Tryz.ntmps243
 go_wp2
 go_loopg [3,8] n (fun g r i wr=>∃k x:Nat,k+g=n∧i = .int .i64 k∧r = .int .u32 x∧Aside (x=crcFrom 4294967295 (l.take k))∧w=wr)
 case atStart=>exact ⟨0,_,by omega,rfl,rfl,rfl,rfl⟩
 case round =>
  obtain ⟨k,x,hk,rfl,rfl,hx,rfl⟩:=hrel
  by_cases hlt:k<n
  ·obtain ⟨ad,rfl,hb,hcell⟩:=hS.at_ (k:=k) (by rw[bv_length];have:=hnH.out;omega)
   rw[bv_get l k (by have:=hnH.out;omega)] at hcell
   have hstep:=Lib.hid (crcFrom_take 4294967295 l k (by have:=hnH.out;omega))
   generalize l[k]'(by have:=hnH.out;omega)=cb at hcell hstep
   have hx32:Is32 x:=by rw[hx.out];exact Is32.full.crcFrom _
   have HX:Aside (crcFrom 4294967295 (l.take (k+1))=nib (nib (x ^^^ cb.toNat))):=by rw[hx.out];exact hstep.out
   clear hstep
   have hcb:(cb.toNat:Int)<256:=by have:=cb.toNat_lt;omega
   have e0:=byte_step x cb hx32
   have h1:=hx32.xor (Is32.byte cb)
   generalize x ^^^ cb.toNat=y at e0 h1 HX
   obtain ⟨i1,hi1⟩:∃i,i=y % 16:=⟨_,rfl⟩
   obtain ⟨t1,ht1⟩:∃t,t=ctab.getD i1 0:=⟨_,rfl⟩
   have hc1:=hH.2 i1 (by omega)
   rw[←ht1] at hc1
   obtain ⟨e1,e2⟩:=nib_step y i1 t1 h1 hi1 ht1
   have hi1b:(i1:Int)<16:=by omega
   clear hi1 ht1
   have h2:=h1.nib
   generalize nib y=z at e2 h2 HX
   obtain ⟨i2,hi2⟩:∃i,i=z % 16:=⟨_,rfl⟩
   obtain ⟨t2,ht2⟩:∃t,t=ctab.getD i2 0:=⟨_,rfl⟩
   have hc2:=hH.2 i2 (by omega)
   rw[←ht2] at hc2
   obtain ⟨e3,e4⟩:=nib_step z i2 t2 h2 hi2 ht2
   have hi2b:(i2:Int)<16:=by omega
   clear hi2 ht2
   generalize nib z=q at e4 HX
   go_wp2
   go_roundg (n - (k+1))
   case measure=>omega
   case rel=>exact ⟨k+1,q,by omega,by go_num,rfl,HX.out.symm,rfl⟩
  ·have hk' : k=n:=by omega
   have hx32:Is32 x:=by rw[hx.out];exact Is32.full.crcFrom _
   have HF:Hid ((crc l:Nat)=4294967295 - x):=by unfold Hid crc;rw[hx.out,hk',List.take_of_length_le (by rw[hnH.out];exact Nat.le_refl _)]
   have hsg:IntKind.u32.signed=false:=rfl
   have hnot:=not32 x hx32
   go_wp2
   go_ret
   unfold SumIs
   rw[HF.out]
   exact ⟨rfl,rfl⟩
end
section
open Go.RowKit
def NewB (w:World) (l:List UInt8) (e:Ending) (w' : World):Prop:=∃v',e = .returned v'∧OwnB w' w.heap.size v' l∧Below w.heap.size w w'
end
section
open Go.RowKit
theorem tail4_cells (s:Nat) (t:TypeId) (w:World) (x1 x2 x3 x4:Int) (h1:x1=(s / 16777216:Nat) % 256) (h2:x2=(s / 65536:Nat) % 256) (h3:x3=(s / 256:Nat) % 256) (h4:x4=(s:Int) % 256) :
  Sees (w.alloc (.cells #[.int .u8 x1,.int .u8 x2,.int .u8 x3,.int .u8 x4] t)) (w.heap.size+1) (some ⟨w.heap.size,0,none⟩) (bv (tail4 s)) :=
 sees_new w _ t _ (by subst h1;subst h2;subst h3;subst h4;simp[bv,tail4])
theorem tail4_arr (s:Nat) (x1 x2 x3 x4:Int) (h1:x1=(s / 16777216:Nat) % 256) (h2:x2=(s / 65536:Nat) % 256) (h3:x3=(s / 256:Nat) % 256) (h4:x4=(s:Int) % 256) :
  #[Value.int .u8 x1, .int .u8 x2, .int .u8 x3, .int .u8 x4] = (bv (tail4 s)).toArray := by subst h1; subst h2; subst h3; subst h4; simp [bv, tail4]
theorem seal_any (base:Nat) (v:Value) (l:List UInt8) (w:World) (hown:OwnB w base v l) (hbase:base≤w.heap.size) (hH:Halves w) (hlen:l.length≤1099511627776) :
  Calls Tryz.prog 207 #[v] w (RetB w base v (sealB l)):=by
 obtain ⟨A,c,rfl,hcl,hcm,hown',hsee⟩:=hown.open_
 clear hown
 go_enter Tryz.func207,Tryz.ntmps207
 go_wp2_with fail
 refine (Sum_any A _ c l rfl w hsee hH hlen).mono ?_
 rintro e w' ⟨rfl,rfl⟩
 have hs32:=Is32.crc l
 have HS:Hid (sealB l=l++tail4 (crc l)):=rfl
 generalize crc l=s at hs32 HS ⊢
 have hsb:(s:Int)<4294967296:=by unfold Is32 at hs32;omega
 go_wp2_with (at_builtin;refine wpList_append_b rfl (.tmp 6) (.tmp 18) rfl base (.slice A l.length c) l (by rfl) (hown'.alloc _) (w.heap.size+1) _ 4 _ (tail4 s) (by rfl) rfl (tail4_cells s _ _ _ _ _ _ (by omega) (by omega) (by omega) (by omega)) (by simp[tail4];omega) (by simp;omega) ?_;intro v1 w1 hown1 hon1)
 go_ret
 exact ⟨v1,rfl,by rw[HS.out];exact hown1,(Onto.of_alloc _ _ _).trans hon1⟩
def makeErr (kind:Int) (n:Nat):Int:=if kind<0∨255<kind then 1 else if 65535<n then 2 else 0
def frameOf (kind:Int) (l:List UInt8):List UInt8:=sealB (UInt8.ofNat kind.toNat :: (venc l.length++l))
def makeB (kind:Int) (l:List UInt8):List UInt8:=if makeErr kind l.length=0 then frameOf kind l else []
def Ret2B (w:World) (l:List UInt8) (e:Int) (en:Ending) (w' : World):Prop:=∃v',en = .returned (.tuple #[v',.int .i64 e])∧OwnB w' w.heap.size v' l∧Below w.heap.size w w'
theorem Make_any (kind:Int) (A:Option Addr) (n c:Nat) (l:List UInt8) (hn:l.length=n) (w:World) (hS:Sees w w.heap.size A (bv l)) (hH:Halves w) (hlen:l.length≤1099511627776) :
  Calls Tryz.prog 149 #[.int .i64 kind,.slice A n c] w (Ret2B w (makeB kind l) (makeErr kind l.length)):=by
 have hnb:n≤1099511627776:=by omega
 by_cases hk:kind<0∨255<kind
 ·have HE:Hid (makeErr kind l.length=1):=by unfold Hid makeErr;rw[if_pos hk]
  have HB:Hid (makeB kind l = []):=by unfold Hid makeB;rw[HE.out];rfl
  rw[HB.out,HE.out]
  rcases hk with hk|hk
  all_goals
   go_enter Tryz.func149,Tryz.ntmps149
   go_wp2
   go_ret2
   exact ⟨_,rfl,OwnB.nil _ _,Below.refl _ _⟩
 by_cases hl:65535<n
 ·have HE:Hid (makeErr kind l.length=2):=by unfold Hid makeErr;rw[if_neg hk,if_pos (by omega)]
  have HB:Hid (makeB kind l = []):=by unfold Hid makeB;rw[HE.out];rfl
  rw[HB.out,HE.out]
  have hk1:0≤kind:=by omega
  have hk2:kind≤255:=by omega
  clear hk
  go_enter Tryz.func149,Tryz.ntmps149
  go_wp2
  go_ret2
  exact ⟨_,rfl,OwnB.nil _ _,Below.refl _ _⟩
 ·have HE:Hid (makeErr kind l.length=0):=by unfold Hid makeErr;rw[if_neg hk,if_neg (by omega)]
  have HB:Hid (makeB kind l=sealB (UInt8.ofNat kind.toNat :: (venc l.length++l))):=by unfold Hid makeB;rw[HE.out];rfl
  rw[HB.out,HE.out]
  have hk1:0≤kind:=by omega
  have hk2:kind≤255:=by omega
  have hn':=Lib.hid hn
  have hlen':=Lib.hid hlen
  have hv10:=Lib.hid (venc_len (u:=n) (by unfold Is64;omega))
  clear hk hn hlen
  go_enter Tryz.func149,Tryz.ntmps149
  go_wp2_with fail
  refine (Put_any _ 1 1 [UInt8.ofNat kind.toNat] rfl n (by unfold Is64;omega) _ (Sees.more (sees_one _ _ _ _ (by omega)) (by simp)) (by simp)).mono ?_
  rintro e w1 ⟨v1,rfl,hown,hon⟩
  have hb1:Below w.heap.size w w1:=((Below.refl _ _).alloc (Nat.le_refl _) _).trans ((hon.below_nil).mono (by simp))
  have hs1:=hb1.size
  have hown1:=hown.base_le (b:=w.heap.size) (by simp)
  clear hown hon
  go_wp2_with (at_builtin;refine wpList_append_b rfl (.tmp 25) (.tmp 26) rfl w.heap.size v1 _ (by rfl) hown1 w.heap.size A n c l (by rfl) hn'.out (hS.below hb1) (by have:=hv10.out;have:=hn'.out;simp;omega) hs1 ?_;intro v2 w2 hown2 hon2)
  have hH2:=(hH.below hb1 hH.1).onto hon2 (fun k hk=>Nat.le_trans hH.1 (hown1.block k hk))
  have hs2:=hon2.size
  refine (seal_any w.heap.size v2 _ w2 hown2 (by omega) hH2 (by have:=hv10.out;have:=hn'.out;simp;omega)).mono ?_
  rintro e w3 ⟨v3,rfl,hown3,hon3⟩
  go_wp2_with fail
  go_ret2
  refine ⟨v3,rfl,?_,(hb1.trans (hon2.below hs1 hown1.block)).trans (hon3.below (by omega) hown2.block)⟩
  rw[hn'.out]
  simpa using hown3
end
section
open Go.RowKit
theorem next1_ok (pe pk pb pr:Addr) (u:FrameMode) (w:World) (hc:w.cell? pe=some (.int .i64 0)) :
  CallsD Tryz.prog 246 #[.pointer (some pe),.pointer (some pk),.pointer (some pb),.pointer (some pr)] u w fun e u' w'=>u'=u∧(e = .returned (.tuple #[])∧w=w'):=by
 go_enter_d Tryz.func246,Tryz.ntmps246
 go_wp2
 go_end0
 exact ⟨rfl,rfl⟩
theorem next1_err (H:Nat) (x:Int) (v0 v1 v2:Value) (u:FrameMode) (w:World) (hx:(x != 0)=true)
  (c3:w.cell? ⟨H+1+1+1,0,none⟩=some (.int .i64 x)) (c0:w.cell? ⟨H,0,none⟩=some v0) (c1:w.cell? ⟨H+1,0,none⟩=some v1) (c2:w.cell? ⟨H+1+1,0,none⟩=some v2)
  (f0:w.frozen? ⟨H,0,none⟩=false) (f1:w.frozen? ⟨H+1,0,none⟩=false) (f2:w.frozen? ⟨H+1+1,0,none⟩=false) :
  CallsD Tryz.prog 246 #[.pointer (some ⟨H+1+1+1,0,none⟩),.pointer (some ⟨H,0,none⟩),.pointer (some ⟨H+1,0,none⟩),.pointer (some ⟨H+1+1,0,none⟩)] u w fun e u' w'=>u'=u∧(e = .returned (.tuple #[])∧w'=((w.setCell ⟨H,0,none⟩ (.int .i64 0)).setCell ⟨H+1,0,none⟩ (.slice none 0 0)).setCell ⟨H+1+1,0,none⟩ (.slice none 0 0)):=by
 go_enter_d Tryz.func246,Tryz.ntmps246
 go_wp2
 go_end0
 exact ⟨rfl,rfl⟩
structure FourAt (w:World) (H:Nat) (v0 v1 v2 v3:Value):Prop where
 c0:w.cell? ⟨H,0,none⟩=some v0
 c1:w.cell? ⟨H+1,0,none⟩=some v1
 c2:w.cell? ⟨H+1+1,0,none⟩=some v2
 c3:w.cell? ⟨H+1+1+1,0,none⟩=some v3
 f0:w.frozen? ⟨H,0,none⟩=false
 f1:w.frozen? ⟨H+1,0,none⟩=false
 f2:w.frozen? ⟨H+1+1,0,none⟩=false
 f3:w.frozen? ⟨H+1+1+1,0,none⟩=false
theorem FourAt.new (w:World) (H:Nat) (hH:H=w.heap.size) (v0 v1 v2 v3:Value) (t0 t1 t2 t3:TypeId):FourAt ((((w.alloc (.cells #[v0] t0)).alloc (.cells #[v1] t1)).alloc (.cells #[v2] t2)).alloc (.cells #[v3] t3)) H v0 v1 v2 v3:=by
 subst hH
 constructor<;>simp[go_sem]
theorem FourAt.below {w w' : World}{H:Nat}{v0 v1 v2 v3:Value}(h:FourAt w H v0 v1 v2 v3) {B:Nat}(hb:Below B w w') (hB:H+1+1+1<B):FourAt w' H v0 v1 v2 v3:=by
 constructor
 ·rw[hb.cell (p:=⟨H,0,none⟩) (by simp;omega)];exact h.c0
 ·rw[hb.cell (p:=⟨H+1,0,none⟩) (by simp;omega)];exact h.c1
 ·rw[hb.cell (p:=⟨H+1+1,0,none⟩) (by simp;omega)];exact h.c2
 ·rw[hb.cell (p:=⟨H+1+1+1,0,none⟩) (by simp;omega)];exact h.c3
 ·rw[hb.frozen (p:=⟨H,0,none⟩) (by simp;omega)];exact h.f0
 ·rw[hb.frozen (p:=⟨H+1,0,none⟩) (by simp;omega)];exact h.f1
 ·rw[hb.frozen (p:=⟨H+1+1,0,none⟩) (by simp;omega)];exact h.f2
 ·rw[hb.frozen (p:=⟨H+1+1+1,0,none⟩) (by simp;omega)];exact h.f3
theorem FourAt.set0 {w:World}{H:Nat}{v0 v1 v2 v3:Value}(h:FourAt w H v0 v1 v2 v3) (v:Value):FourAt (w.setCell ⟨H,0,none⟩ v) H v v1 v2 v3:=by
 obtain ⟨c0,c1,c2,c3,f0,f1,f2,f3⟩:=h
 constructor<;>simp[go_sem,c0,c1,c2,c3,f0,f1,f2,f3]
theorem FourAt.set1 {w:World}{H:Nat}{v0 v1 v2 v3:Value}(h:FourAt w H v0 v1 v2 v3) (v:Value):FourAt (w.setCell ⟨H+1,0,none⟩ v) H v0 v v2 v3:=by
 obtain ⟨c0,c1,c2,c3,f0,f1,f2,f3⟩:=h
 constructor<;>simp[go_sem,c0,c1,c2,c3,f0,f1,f2,f3]
theorem FourAt.set2 {w:World}{H:Nat}{v0 v1 v2 v3:Value}(h:FourAt w H v0 v1 v2 v3) (v:Value):FourAt (w.setCell ⟨H+1+1,0,none⟩ v) H v0 v1 v v3:=by
 obtain ⟨c0,c1,c2,c3,f0,f1,f2,f3⟩:=h
 constructor<;>simp[go_sem,c0,c1,c2,c3,f0,f1,f2,f3]
theorem FourAt.set3 {w:World}{H:Nat}{v0 v1 v2 v3:Value}(h:FourAt w H v0 v1 v2 v3) (v:Value):FourAt (w.setCell ⟨H+1+1+1,0,none⟩ v) H v0 v1 v2 v:=by
 obtain ⟨c0,c1,c2,c3,f0,f1,f2,f3⟩:=h
 constructor<;>simp[go_sem,c0,c1,c2,c3,f0,f1,f2,f3]
theorem FourAt.drew {w:World}{H:Nat}{v0 v1 v2 v3:Value}(h:FourAt w H v0 v1 v2 v3):FourAt w.drew H v0 v1 v2 v3:=⟨h.c0,h.c1,h.c2,h.c3,h.f0,h.f1,h.f2,h.f3⟩
theorem door_err (H:Nat) (x:Int) (hx:(x != 0)=true) (v0 v1 v2:Value) (W:World) (hF:FourAt W H v0 v1 v2 (.int .i64 x)) (a:Act) (R:Ending→World→Prop)
  (hd:a.defers = [{ target:=Target.fn (Fn.func 246) #[.pointer (some ⟨H+1+1+1,0,none⟩),.pointer (some ⟨H,0,none⟩),.pointer (some ⟨H+1,0,none⟩),.pointer (some ⟨H+1+1,0,none⟩)],args := #[] }])
  (t2:a.tmps.getD 2 undef = .pointer (some ⟨H,0,none⟩)) (t3:a.tmps.getD 3 undef = .pointer (some ⟨H+1,0,none⟩)) (t4:a.tmps.getD 4 undef = .pointer (some ⟨H+1+1,0,none⟩)) (t5:a.tmps.getD 5 undef = .pointer (some ⟨H+1+1+1,0,none⟩))
  (hR:∀W',Below H W W'→R (.returned (.tuple #[.int .i64 0,.slice none 0 0,.slice none 0 0,.int .i64 x])) W') :
  bodyPostD Tryz.prog Tryz.f212 R Exit.ret a W:=by
 obtain ⟨tmps,ds⟩:=a
 simp only at hd t2 t3 t4 t5
 subst hd
 obtain ⟨c0,c1,c2,c3,f0,f1,f2,_⟩:=hF
 refine leaves_cons (f:=246) (args := #[.pointer (some ⟨H+1+1+1,0,none⟩),.pointer (some ⟨H,0,none⟩),.pointer (some ⟨H+1,0,none⟩),.pointer (some ⟨H+1+1,0,none⟩)]) (by simp) (by simp[go_sem]) ?_
 refine (next1_err H x v0 v1 v2 .returning W hx c3 c0 c1 c2 f0 f1 f2).mono ?_
 rintro e u' w'' ⟨rfl,rfl,rfl⟩
 have hr:=hR (((W.setCell ⟨H,0,none⟩ (.int .i64 0)).setCell ⟨H+1,0,none⟩ (.slice none 0 0)).setCell ⟨H+1+1,0,none⟩ (.slice none 0 0)) ((((Below.refl _ _).setCell (by simp) _).setCell (by simp) _).setCell (by simp;omega) _)
 clear hR
 have t2' : tmps[2]?.getD undef=_:=(by simp:tmps[2]?.getD undef=tmps.getD 2 undef).trans t2
 have t3' : tmps[3]?.getD undef=_:=(by simp:tmps[3]?.getD undef=tmps.getD 3 undef).trans t3
 have t4' : tmps[4]?.getD undef=_:=(by simp:tmps[4]?.getD undef=tmps.getD 4 undef).trans t4
 have t5' : tmps[5]?.getD undef=_:=(by simp:tmps[5]?.getD undef=tmps.getD 5 undef).trans t5
 simp[Leaves,settle,results,Tryz.results212,t2',t3',t4',t5',go_sem,c0,c1,c2,c3]
 exact hr
theorem Next_empty (A:Option Addr) (c:Nat) (w:World) :
  Calls Tryz.prog 212 #[.slice A 0 c] w fun e w'=>e = .returned (.tuple #[.int .i64 0,.slice none 0 0,.slice none 0 0,.int .i64 10])∧Below w.heap.size w w':=by
 have hmf:∀(fn:Fn) (first cap:Array Value) (w:World),(Instr.makeFunc fn first cap).run Tryz.prog w = .ok (.func fn first cap) w:=fun _ _ _ _=>rfl
 go_enter_defers Tryz.func212,Tryz.ntmps212
 go_wp2
 exact door_err w.heap.size 10 rfl _ _ _ _ (FourAt.new w _ rfl _ _ _ _ _ _ _ _) _ _ rfl rfl rfl rfl rfl (fun W' hb=>⟨rfl,(((((Below.refl _ _).alloc (Nat.le_refl _) _).alloc (by simp) _).alloc (by simp;omega) _).alloc (by simp;omega) _).trans hb⟩)
abbrev W4 (w:World):World:=(((w.alloc (.cells #[.int .i64 0] 3)).alloc (.cells #[.slice none 0 0] 48)).alloc (.cells #[.slice none 0 0] 48)).alloc (.cells #[.int .i64 0] 31)
theorem W4.size (w:World):(W4 w).heap.size=w.heap.size+1+1+1+1:=by simp[W4]
theorem W4.below (w:World):Below w.heap.size w (W4 w):=((((Below.refl _ _).alloc (Nat.le_refl _) _).alloc (by simp) _).alloc (by simp;omega) _).alloc (by simp;omega) _
def Tail1 (A:Option Addr) (c:Nat) (A' : Option Addr) (c' : Nat):Prop:=(c=1∧A'=A∧c'=0)∨(A'=A.map (fun x=>⟨x.block,x.off+1,none⟩)∧c'=c - 1)
theorem Next_Take (A:Option Addr) (n c:Nat) (k:UInt8) (t:List UInt8) (hn:t.length+1=n) (w:World) (hS:Sees w w.heap.size A (bv (k :: t))) (hlen:n≤1099511627776) (hc:n≤c) (A' : Option Addr) (c' : Nat) (hA:Tail1 A c A' c') :
  Calls Tryz.prog 214 #[.slice A' (n - 1) c'] (W4 w) (Ret1B (W4 w) ((vtake t).1:Nat) .u64 (if (vtake t).2.2=0 then t.drop (vtake t).2.1 else []) ((vtake t).2.2:Nat)):=by
 refine Take_any A' (n - 1) c' t (by omega) (W4 w) ?_ (by omega) (by rcases hA with ⟨_,_,h⟩|⟨_,h⟩<;>omega)
 have h1:Sees w w.heap.size A' (bv t):=by
  rcases hA with ⟨h1,rfl,_⟩|⟨rfl,_⟩
  ·have ht:t = []:=List.eq_nil_of_length_eq_zero (by omega)
   subst ht
   exact ⟨.inl rfl⟩
  ·have:=hS.cut' 1
   have he:(fun x:Addr=>(⟨x.block,x.off+1,none⟩:Addr))=fun x=>x.add 1:=by funext x;simp[Addr.add]
   rw[he]
   exact this
 exact (h1.below (W4.below w)).more (W4.below w).size
theorem Next_take_err (A:Option Addr) (n c:Nat) (w:World) (hn1:1≤n) (hlen:n≤1099511627776) (x:Nat) (e:Nat) (he:((e:Int) != 0)=true)
  (HT:∀A' c',Tail1 A c A' c'→Calls Tryz.prog 214 #[.slice A' (n - 1) c'] (W4 w) (Ret1B (W4 w) (x:Int) .u64 [] (e:Int))) :
  Calls Tryz.prog 212 #[.slice A n c] w fun en w'=>en = .returned (.tuple #[.int .i64 0,.slice none 0 0,.slice none 0 0,.int .i64 e])∧Below w.heap.size w w':=by
 have hmf:∀(fn:Fn) (first cap:Array Value) (w:World),(Instr.makeFunc fn first cap).run Tryz.prog w = .ok (.func fn first cap) w:=fun _ _ _ _=>rfl
 have HT':=Lib.hid HT
 clear HT
 go_enter_defers Tryz.func212,Tryz.ntmps212
 go_wp2_with fail
 all_goals
  refine (HT'.out _ _ (by first|exact .inl ⟨by assumption,rfl,rfl⟩|exact .inr ⟨rfl,rfl⟩)).mono ?_
  rintro e w1 ⟨v1,rfl,hown,hb⟩
  obtain ⟨A1,c1,rfl, -, -, -,hsee1⟩:=hown.open_
  have hF:=(FourAt.new w _ rfl _ _ _ _ _ _ _ _).below hb (by simp)
  have hb0:=(W4.below w).trans (hb.mono (W4.below w).size)
  have hF':=hF
  obtain ⟨c0,c1,c2,c3,f0,f1,f2,f3⟩:=hF
  have hz:w.heap.size+1+1+1<w1.heap.size:=by have:=hb.size;simp at this;omega
  go_wp2
  go_region
  go_wp2
  refine door_err w.heap.size e he _ _ _ _ (by repeat (first|with_reducible exact hF' | with_reducible apply FourAt.drew|with_reducible apply FourAt.set0|with_reducible apply FourAt.set1|with_reducible apply FourAt.set2|with_reducible apply FourAt.set3)) _ _ rfl rfl rfl rfl rfl (fun W' hb'=>⟨rfl,Below.trans ?_ hb'⟩)
  repeat (first|with_reducible exact hb0|with_reducible apply Below.drew|(with_reducible refine Below.setCell ?_ ?_ _;rotate_left;(simp only[];omega)))
theorem Next_big (A:Option Addr) (n c:Nat) (w:World) (hn1:1≤n) (hlen:n≤1099511627776) (x:Nat) (hx:65535<x) (left:List UInt8) (_hll:left.length≤1099511627776)
  (HT:∀A' c',Tail1 A c A' c'→Calls Tryz.prog 214 #[.slice A' (n - 1) c'] (W4 w) (Ret1B (W4 w) (x:Int) .u64 left 0)) :
  Calls Tryz.prog 212 #[.slice A n c] w fun en w'=>en = .returned (.tuple #[.int .i64 0,.slice none 0 0,.slice none 0 0,.int .i64 11])∧Below w.heap.size w w':=by
 have hmf:∀(fn:Fn) (first cap:Array Value) (w:World),(Instr.makeFunc fn first cap).run Tryz.prog w = .ok (.func fn first cap) w:=fun _ _ _ _=>rfl
 have HT':=Lib.hid HT
 clear HT
 go_enter_defers Tryz.func212,Tryz.ntmps212
 go_wp2_with fail
 all_goals
  refine (HT'.out _ _ (by first|exact .inl ⟨by assumption,rfl,rfl⟩|exact .inr ⟨rfl,rfl⟩)).mono ?_
  rintro e w1 ⟨v1,rfl,hown,hb⟩
  obtain ⟨A1,c1,rfl,hcl,hcm, -,hsee1⟩:=hown.open_
  have hF:=(FourAt.new w _ rfl _ _ _ _ _ _ _ _).below hb (by simp)
  have hb0:=(W4.below w).trans (hb.mono (W4.below w).size)
  have hF':=hF
  obtain ⟨c0,c1',c2,c3,f0,f1,f2,f3⟩:=hF
  have hz:w.heap.size+1+1+1<w1.heap.size:=by have:=hb.size;simp at this;omega
  go_wp2
  refine door_err w.heap.size 11 rfl _ _ _ _ (by repeat (first|with_reducible exact hF' | with_reducible apply FourAt.drew|with_reducible apply FourAt.set0|with_reducible apply FourAt.set1|with_reducible apply FourAt.set2|with_reducible apply FourAt.set3)) _ _ rfl rfl rfl rfl rfl (fun W' hb'=>⟨rfl,Below.trans ?_ hb'⟩)
  repeat (first|with_reducible exact hb0|with_reducible apply Below.drew|(with_reducible refine Below.setCell ?_ ?_ _;rotate_left;(simp only[];omega)))
theorem Next_short (A:Option Addr) (n c:Nat) (w:World) (hn1:1≤n) (hlen:n≤1099511627776) (x:Nat) (hx:x≤65535) (left:List UInt8) (hll:left.length<x+4)
  (HT:∀A' c',Tail1 A c A' c'→Calls Tryz.prog 214 #[.slice A' (n - 1) c'] (W4 w) (Ret1B (W4 w) (x:Int) .u64 left 0)) :
  Calls Tryz.prog 212 #[.slice A n c] w fun en w'=>en = .returned (.tuple #[.int .i64 0,.slice none 0 0,.slice none 0 0,.int .i64 10])∧Below w.heap.size w w':=by
 have hmf:∀(fn:Fn) (first cap:Array Value) (w:World),(Instr.makeFunc fn first cap).run Tryz.prog w = .ok (.func fn first cap) w:=fun _ _ _ _=>rfl
 have HT':=Lib.hid HT
 clear HT
 go_enter_defers Tryz.func212,Tryz.ntmps212
 go_wp2_with fail
 all_goals
  refine (HT'.out _ _ (by first|exact .inl ⟨by assumption,rfl,rfl⟩|exact .inr ⟨rfl,rfl⟩)).mono ?_
  rintro e w1 ⟨v1,rfl,hown,hb⟩
  obtain ⟨A1,c1,rfl,hcl,hcm, -,hsee1⟩:=hown.open_
  have hF:=(FourAt.new w _ rfl _ _ _ _ _ _ _ _).below hb (by simp)
  have hb0:=(W4.below w).trans (hb.mono (W4.below w).size)
  have hF':=hF
  obtain ⟨c0,c1',c2,c3,f0,f1,f2,f3⟩:=hF
  have hz:w.heap.size+1+1+1<w1.heap.size:=by have:=hb.size;simp at this;omega
  go_wp2
  refine door_err w.heap.size 10 rfl _ _ _ _ (by repeat (first|with_reducible exact hF' | with_reducible apply FourAt.drew|with_reducible apply FourAt.set0|with_reducible apply FourAt.set1|with_reducible apply FourAt.set2|with_reducible apply FourAt.set3)) _ _ rfl rfl rfl rfl rfl (fun W' hb'=>⟨rfl,Below.trans ?_ hb'⟩)
  repeat (first|with_reducible exact hb0|with_reducible apply Below.drew|(with_reducible refine Below.setCell ?_ ?_ _;rotate_left;(simp only[];omega)))
end
section
open Go.RowKit
theorem own_at {w:World}{base:Nat}{A:Option Addr}{n c:Nat}{l:List UInt8}(h:OwnB w base (.slice A n c) l) (hl:0<l.length):∃g,A=some ⟨g,0,none⟩∧base≤g∧g<w.heap.size:=by
 rcases h.2 with ⟨_,hn⟩|⟨g,cap,cur,hv,hb,hh,_⟩
 ·omega
 ·injection hv with hv
  exact ⟨g,hv,hb,(Array.getElem?_eq_some_iff.1 hh).1⟩
structure Mine (w:World) (base:Nat) (A:Option Addr) (l:List UInt8):Prop where
 out:l = []∨∃g o,A=some ⟨g,o,none⟩∧base≤g∧∀(j:Nat) (hj:j<l.length),w.cell? ⟨g,o+j,none⟩=some (.int .u8 ((l[j]).toNat:Int))∧w.frozen? ⟨g,o+j,none⟩=false
def NextIs (w:World) (r:Nat×List UInt8×List UInt8×Nat) (en:Ending) (w' : World):Prop :=
 ∃A n c v,en = .returned (.tuple #[.int .i64 (r.1:Int),.slice A n c,v,.int .i64 (r.2.2.2:Int)])∧r.2.1.length=n∧n≤c∧Mine w' w.heap.size A r.2.1∧OwnB w' w.heap.size v r.2.2.1∧Below w.heap.size w w'
def nextR (q:Bool) (k0:UInt8) (x:Nat) (left:List UInt8):Nat×List UInt8×List UInt8×Nat:=if q then (k0.toNat,left.take x,left.drop (x+4),0) else (0, [], [],50)
structure But4 (a w:World) (H:Nat):Prop where
 os:w.os=a.os
 tape:w.tape=a.tape
 output:w.output=a.output
 size:a.heap.size≤w.heap.size
 block:∀k,k<a.heap.size→(k<H∨H+1+1+1<k)→w.heap[k]?=a.heap[k]?
theorem below_drewN {B:Nat}{a w:World}(h:Below B a w) (n:Nat):Below B a (w.drewN n):=⟨h.os,h.tape,h.output,h.size,h.block⟩
section
variable {a w w' : World} {H : Nat}
theorem But4.refl (a:World) (H:Nat):But4 a a H:=⟨rfl,rfl,rfl,Nat.le_refl _,fun _ _ _=>rfl⟩
theorem But4.drew (h:But4 a w H):But4 a w.drew H:=⟨h.os,h.tape,h.output,h.size,h.block⟩
theorem But4.setCell (h:But4 a w H) {p:Addr}(v:Value) (h1:H≤p.block) (h2:p.block≤H+1+1+1):But4 a (w.setCell p v) H :=
 ⟨h.os,h.tape,h.output,by simpa[World.setCell] using h.size,fun k hk hne=>(Below.heap_setCell w p v k (by omega)).trans (h.block k hk hne)⟩
theorem But4.below (h:But4 a w H) (hb:Below w.heap.size w w'):But4 a w' H :=
 ⟨hb.os.trans h.os,hb.tape.trans h.tape,hb.output.trans h.output,Nat.le_trans h.size hb.size,fun k hk hne=>(hb.block k (Nat.lt_of_lt_of_le hk h.size)).trans (h.block k hk hne)⟩
theorem But4.to_below (h:But4 a w H) (hH:H≤a.heap.size):Below H a w:=⟨h.os,h.tape,h.output,h.size,fun k hk=>h.block k (by omega) (.inl hk)⟩
theorem But4.sees (h:But4 a w H) {A:Option Addr}{xs:List Value}(hs:Sees a a.heap.size A xs) (hA:∀ad,A=some ad→ad.block<H∨H+1+1+1<ad.block):Sees w w.heap.size A xs:=by
 rcases hs.out with hs|⟨ad,e,hb,hc⟩
 ·exact ⟨.inl hs⟩
 ·exact ⟨.inr ⟨ad,e,Nat.lt_of_lt_of_le hb h.size,fun j u hu=>(World.cell?_of_block (h.block _ (by rw[add_block];exact hb) (by rw[add_block];exact hA ad e))).trans (hc j u hu)⟩⟩
end
theorem mine_of {w1 W:World}{base H g n c b:Nat}{l:List UInt8}(hown:OwnB w1 base (.slice (some ⟨g,0,none⟩) n c) l) (k:Nat) (hbut:But4 w1 W H) (hg:H+1+1+1<g) (hb:b≤g) :
  Mine W b (some ⟨g,0,none⟩) (l.take k):=by
 rcases hown.2 with ⟨hv,_⟩|⟨g',cap,cur,hv,_,hh,_,_,_,_⟩
 ·cases hv
 ·refine ⟨.inr ?_⟩
  injection hv with h1 h2 h3
  injection h1 with h1
  injection h1 with h1
  subst h1
  subst h2
  refine ⟨g,0,rfl,hb,fun j hj => ?_⟩
  have hlt:g<w1.heap.size:=(Array.getElem?_eq_some_iff.1 hh).1
  have hblk:=hbut.block g hlt (.inr hg)
  have hj' : j<l.length:=by rw[List.length_take] at hj;omega
  have hc:=World.ownsRow.cellAt hown j (by omega)
  have hf:=World.ownsRow.frozenAt hown j
  rw[Nat.zero_add]
  refine ⟨(World.cell?_of_block (a:=⟨g,j,none⟩) hblk).trans (hc.trans ?_),(World.frozen?_of_block (a:=⟨g,j,none⟩) hblk).trans hf⟩
  rw[bv_at l j hj',List.getElem_take]
theorem door_ok (H:Nat) (v0 v1 v2:Value) (W:World) (hF:FourAt W H v0 v1 v2 (.int .i64 0)) (a:Act) (R:Ending→World→Prop)
  (hd:a.defers = [{ target:=Target.fn (Fn.func 246) #[.pointer (some ⟨H+1+1+1,0,none⟩),.pointer (some ⟨H,0,none⟩),.pointer (some ⟨H+1,0,none⟩),.pointer (some ⟨H+1+1,0,none⟩)],args := #[] }])
  (t2:a.tmps.getD 2 undef = .pointer (some ⟨H,0,none⟩)) (t3:a.tmps.getD 3 undef = .pointer (some ⟨H+1,0,none⟩)) (t4:a.tmps.getD 4 undef = .pointer (some ⟨H+1+1,0,none⟩)) (t5:a.tmps.getD 5 undef = .pointer (some ⟨H+1+1+1,0,none⟩))
  (hR:R (.returned (.tuple #[v0,v1,v2,.int .i64 0])) W) :
  bodyPostD Tryz.prog Tryz.f212 R Exit.ret a W:=by
 obtain ⟨tmps,ds⟩:=a
 simp only at hd t2 t3 t4 t5
 subst hd
 obtain ⟨c0,c1,c2,c3,f0,f1,f2,_⟩:=hF
 refine leaves_cons (f:=246) (args := #[.pointer (some ⟨H+1+1+1,0,none⟩),.pointer (some ⟨H,0,none⟩),.pointer (some ⟨H+1,0,none⟩),.pointer (some ⟨H+1+1,0,none⟩)]) (by simp) (by simp[go_sem]) ?_
 refine (next1_ok _ _ _ _ .returning W c3).mono ?_
 rintro e u' w'' ⟨rfl,rfl,rfl⟩
 have t2' : tmps[2]?.getD undef=_:=(by simp:tmps[2]?.getD undef=tmps.getD 2 undef).trans t2
 have t3' : tmps[3]?.getD undef=_:=(by simp:tmps[3]?.getD undef=tmps.getD 3 undef).trans t3
 have t4' : tmps[4]?.getD undef=_:=(by simp:tmps[4]?.getD undef=tmps.getD 4 undef).trans t4
 have t5' : tmps[5]?.getD undef=_:=(by simp:tmps[5]?.getD undef=tmps.getD 5 undef).trans t5
 simp[Leaves,settle,results,Tryz.results212,t2',t3',t4',t5',go_sem,c0,c1,c2,c3]
 exact hR
theorem Next_sum (q:Bool) (N:Nat) (ad:Addr) (n c:Nat) (w:World) (hn5:5≤n) (hcn:n≤c) (hlen:n≤1099511627776) (x:Nat) (hx:x≤65535) (left:List UInt8) (hll:x+4≤left.length) (hln:left.length<n) (b:List UInt8) (hbn:b.length=n) (hSb:Sees w w.heap.size (some ad) (bv b)) (hH:Halves w) (k0:UInt8) (hcell:w.cell? ad=some (.int .u8 (k0.toNat:Int)))
  (hN:N+left.length=n+(x+4)) (HQ:Hid ((sealB (b.take (N - 4))==b.take N)=q))
  (HT:∀A' c',Tail1 (some ad) c A' c'→Calls Tryz.prog 214 #[.slice A' (n - 1) c'] (W4 w) (Ret1B (W4 w) (x:Int) .u64 left 0)) :
  Calls Tryz.prog 212 #[.slice (some ad) n c] w (NextIs w (nextR q k0 x left)):=by
 have HN:=Lib.hid hN
 have hc1:¬ c=1:=by omega
 have hN5:5≤N:=by omega
 have hNn:N≤n:=by omega
 clear hN
 have hnot:∀(x:Bool) (w:World),(Op.unary .not (.bool x)).run Tryz.prog w = .ok (.bool (!x)) w:=fun _ _=>rfl
 have hmf:∀(fn:Fn) (first cap:Array Value) (w:World),(Instr.makeFunc fn first cap).run Tryz.prog w = .ok (.func fn first cap) w:=fun _ _ _ _=>rfl
 have HT':=Lib.hid HT
 clear HT
 go_enter_defers Tryz.func212,Tryz.ntmps212
 go_wp2_with fail
 all_goals
  refine (HT'.out _ _ (by first|exact .inl ⟨by assumption,rfl,rfl⟩|exact .inr ⟨rfl,rfl⟩)).mono ?_
  rintro e w1 ⟨v1,rfl,hown,hb⟩
  obtain ⟨A1,c1,rfl,hcl,hcm, -,hsee1⟩:=hown.open_
  obtain ⟨g,hA1,hg1,hg2⟩:=own_at hown (by omega)
  subst hA1
  have hF:=(FourAt.new w _ rfl _ _ _ _ _ _ _ _).below hb (by simp)
  have hb0:=(W4.below w).trans (hb.mono (W4.below w).size)
  have hF':=hF
  obtain ⟨c0,c1',c2,c3,f0,f1,f2,f3⟩:=hF
  have hz:w.heap.size+1+1+1<w1.heap.size:=by have:=hb.size;simp at this;omega
  have hadb:ad.block<w.heap.size:=World.block_lt_of_cell? w ad hcell
  have hcell1:w1.cell? ad=some (.int .u8 (k0.toNat:Int)):=(hb0.cell hadb).trans hcell
  have hk256:(k0.toNat:Int)<256:=by have:=k0.toNat_lt;omega
  have hne0:(⟨w.heap.size,0,none⟩:Addr)≠ad:=by rintro rfl;simp at hadb
  have hne1:(⟨w.heap.size+1,0,none⟩:Addr)≠ad:=by rintro rfl;simp at hadb;omega
  have hne2:(⟨w.heap.size+1+1,0,none⟩:Addr)≠ad:=by rintro rfl;simp at hadb;omega
  have hne3:(⟨w.heap.size+1+1+1,0,none⟩:Addr)≠ad:=by rintro rfl;simp at hadb;omega
  have hB0:But4 w1 (w1.setCell ⟨w.heap.size+1+1+1,0,none⟩ (.int .i64 0)) w.heap.size:=(But4.refl _ _).setCell _ (by simp;omega) (by simp)
  go_upto_region 11 with fail
  go_cut [34] from 10 to 39 (fun _ wx=>∃AR cR,FourAt wx w.heap.size (.int .i64 0) (.slice (some ⟨g,0,none⟩) x x) (.slice AR (left.length - (x+4)) cR) (.int .i64 0)∧But4 w1 wx w.heap.size∧Sees w1 w1.heap.size AR (bv (left.drop (x+4)))∧∀a' : Addr,AR=some a'→w.heap.size+1+1+1<a'.block)
  case first =>
   have hS1:Sees w1 w1.heap.size (some ⟨g,x+4,none⟩) (bv (left.drop (x+4))):=by
    have:=hsee1.cut' (x+4)
    rw[←bv_drop] at this
    simpa[Addr.add_lit] using this
   by_cases hcx:c1=x+4
   ·have hnil:left.drop (x+4) = []:=List.drop_eq_nil_of_le (by omega)
    have hN:=Lib.hid hnil
    clear hnil
    go_region
    go_wp2_with fail
    go_meet
    exact ⟨_,_,(by repeat (first|with_reducible exact hF' | with_reducible apply FourAt.drew|with_reducible apply FourAt.set0|with_reducible apply FourAt.set1|with_reducible apply FourAt.set2|with_reducible apply FourAt.set3)),(by repeat (first|with_reducible exact But4.refl _ _|with_reducible apply But4.drew|(with_reducible refine But4.setCell ?_ _ ?_ ?_;rotate_left;(simp only[];omega);(simp only[];omega)))),⟨.inl (by rw[hN.out];rfl)⟩,by intro a' e';cases e';have:=hg1;simp only[W4.size] at this;simp only[];omega⟩
   ·go_region
    go_wp2_with fail
    go_meet
    exact ⟨_,_,(by repeat (first|with_reducible exact hF' | with_reducible apply FourAt.drew|with_reducible apply FourAt.set0|with_reducible apply FourAt.set1|with_reducible apply FourAt.set2|with_reducible apply FourAt.set3)),(by repeat (first|with_reducible exact But4.refl _ _|with_reducible apply But4.drew|(with_reducible refine But4.setCell ?_ _ ?_ ?_;rotate_left;(simp only[];omega);(simp only[];omega)))),hS1,by intro a' e';cases e';have:=hg1;simp only[W4.size] at this;simp only[];omega⟩
  case rest =>
   obtain ⟨AR,cR,hF4,hB4,hSR,hAR⟩:=hcut
   have hbc:Below w.heap.size w wc:=hb0.trans (hB4.to_below (by omega))
   have hcellc:wc.cell? ad=some (.int .u8 (k0.toNat:Int)):=(hbc.cell hadb).trans hcell
   have hF4':=hF4
   obtain ⟨d0,d1,d2,d3,g0,g1,g2,g3⟩:=hF4
   clear c0 c1' c2 c3 f0 f1 f2 f3
   have eN:(n:Int) - ((left.length - (x+4):Nat):Int)=(N:Int):=by have:=HN.out;omega
   have hBb:=Lib.hid hbn
   clear hbn
   go_upto_region 14 with fail
   have hF5:=hF4'.set0 (.int .i64 (k0.toNat:Int))
   have hB5:But4 w1 (wc.setCell ⟨w.heap.size,0,none⟩ (.int .i64 (k0.toNat:Int))) w.heap.size:=hB4.setCell _ (by simp) (by simp;omega)
   generalize wc.setCell ⟨w.heap.size,0,none⟩ (.int .i64 (k0.toNat:Int))=W5 at hF5 hB5
   have hb5:Below w.heap.size w W5:=hb0.trans (hB5.to_below (by omega))
   have hsb5:=(hSb.below hb5).more hb5.size
   have hH5:=hH.below hb5 hH.1
   go_cut [59] from 40 to 59 (fun t wx=>t = .bool (!q)∧But4 w1 wx w.heap.size∧Below W5.heap.size W5 wx)
   case first =>
    have hl1:=Lib.hid (show (b.take (N - 4)).length=N - 4 by have:=hBb.out;simp;omega)
    have hl2:=Lib.hid (show (b.take N).length=N by have:=hBb.out;simp;omega)
    have k0' : (0:Int)≤(N:Int) - 4:=by omega
    have k1:(N:Int) - 4≤(c:Int):=by omega
    have k2:(N:Int)≤(c:Int):=by omega
    have k3:IntKind.i64.wrap ((N:Int) - 4)=(N:Int) - 4:=by rw[IntKind.wrap_i64];omega
    have k4:((N:Int) - 4).toNat=N - 4:=by omega
    have k5:(4:Int)≤(N:Int):=by omega
    have k6:(N:Int)≤(c:Int)+4:=by omega
    clear eN
    go_region_held3 (fun _=>True) (trivial)
     (first
      | (go_at_call 204;refine (clone_any _ _ _ (b.take (N - 4)) hl1.out _ (by rw[bv_take];exact hsb5.drew.take _) (by rw[hl1.out];omega)).mono ?_;rintro e w2 ⟨v2,rfl,hown2,hon2⟩;have hb2:Below W5.heap.size W5 w2:=((Below.refl W5.heap.size W5).drew).trans hon2.below_nil)
      | (go_at_call 207;refine (seal_any W5.heap.size v2 (b.take (N - 4)) w2 hown2 hb2.size (hH5.below hb2 hH5.1) (by rw[hl1.out];omega)).mono ?_;rintro e w3 ⟨v3,rfl,hown3,hon3⟩;have hb3:Below W5.heap.size W5 w3:=hb2.trans (hon3.below hb2.size hown2.block);obtain ⟨A3,c3,rfl, -, -, -,hsee3⟩:=hown3.open_)
      | (go_at_call 247;refine (equal_any A3 (some ad) _ N c3 c (sealB (b.take (N - 4))) (b.take N) rfl hl2.out w3 hsee3 (by rw[bv_take];exact (hsb5.below hb3).more hb3.size |>.take _) (by rw[sealB_len,hl1.out];omega)).mono ?_;rintro e w4 ⟨he4,k4',rfl⟩;rw[HQ.out] at he4;subst he4))
    all_goals
     go_wp2_with fail
     go_meet
     exact ⟨(by first|rfl|simp[*]),hB5.below (hb3.trans (below_drewN (Below.refl W5.heap.size w3) k4')),(hb3.trans (below_drewN (Below.refl W5.heap.size w3) k4'))⟩
   case rest =>
    obtain ⟨rfl,hB6,hb6⟩:=hcut
    have hF6:=hF5.below hb6 (by have:=hB5.size;omega)
    have hb06:Below w.heap.size w wc:=hb0.trans (hB6.to_below (by omega))
    have hsR:=hB6.sees hSR (fun a' e' => .inr (hAR a' e'))
    have hll2:=Lib.hid (show (left.drop (x+4)).length=left.length - (x+4) by simp)
    clear d0 d1 d2 d3 g0 g1 g2 g3 hcellc hbc hB4 hF4' hF5 hb6 eN
    have hF6':=hF6
    obtain ⟨d0,d1,d2,d3,g0,g1,g2,g3⟩:=hF6
    cases q
    ·go_upto_region 16 with fail
     have hF7:=hF6'.set3 (.int .i64 50)
     have hB7:But4 w1 (wc.setCell ⟨w.heap.size+1+1+1,0,none⟩ (.int .i64 50)) w.heap.size:=hB6.setCell _ (by simp;omega) (by simp)
     generalize wc.setCell ⟨w.heap.size+1+1+1,0,none⟩ (.int .i64 50)=W7 at hF7 hB7
     have hsR7:=hB7.sees hSR (fun a' e' => .inr (hAR a' e'))
     have hb07:Below w.heap.size w W7:=hb0.trans (hB7.to_below (by omega))
     refine wp_region_noPanic ?_
     refine wp_region_held_drew (S:=fun w'=>w'.cell? ⟨w.heap.size,0,none⟩=some (.int .i64 (k0.toNat:Int))∧w'.cell? ⟨w.heap.size+1,0,none⟩=some (.slice (some ⟨g,0,none⟩) x x)∧w'.cell? ⟨w.heap.size+1+1+1,0,none⟩=some (.int .i64 50)∧w'.frozen? ⟨w.heap.size,0,none⟩=false∧w'.frozen? ⟨w.heap.size+1,0,none⟩=false∧w'.frozen? ⟨w.heap.size+1+1,0,none⟩=false∧w'.frozen? ⟨w.heap.size+1+1+1,0,none⟩=false) (by kernel_rfl) ⟨hF7.c0,hF7.c1,hF7.c3,hF7.f0,hF7.f1,hF7.f2,hF7.f3⟩ (fun hHeld => ?_)
     refine wpAnyH_take (i:=0) (v := .int .i64 (k0.toNat:Int)) rfl (by kernel_rfl) (by kernel_rfl) (by kernel_rfl) (fun _ _ _ h=>h) (Or.inl ⟨by rfl,?_⟩) hHeld ?_
     ·intro w' hSw
      obtain ⟨s0,s1,s3,s4,s5,s6,s7⟩:=hSw
      go_simp
     simp only[Act.put,List.setIfInBounds_toArray]
     refine wpAnyH_take (i:=1) (v := .slice (some ⟨g,0,none⟩) x x) rfl (by kernel_rfl) (by kernel_rfl) (by kernel_rfl) (fun _ _ _ h=>h) (Or.inl ⟨by rfl,?_⟩) hHeld ?_
     ·intro w' hSw
      obtain ⟨s0,s1,s3,s4,s5,s6,s7⟩:=hSw
      go_simp
     simp only[Act.put]
     refine wpAnyH_take (i:=4) (v := .int .i64 50) rfl (by kernel_rfl) (by kernel_rfl) (by kernel_rfl) (fun _ _ _ h=>h) (Or.inl ⟨by rfl,?_⟩) hHeld ?_
     ·intro w' hSw
      obtain ⟨s0,s1,s3,s4,s5,s6,s7⟩:=hSw
      go_simp
     simp only[Act.put]
     refine wpAnyH_ready (rs := [2]) (by kernel_rfl) (by simp) ?_
     refine AllReadyH.cons rfl (fun K hK => ?_) AllReadyH.nil
     have e2:=hF7.c2
     go_simp
     refine hK.out _ _ ⟨hF7.drew.c0,hF7.drew.c1,hF7.drew.c3,hF7.drew.f0,hF7.drew.f1,hF7.drew.f2,hF7.drew.f3⟩ (fun hHeld => ?_)
     clear hK K
     try simp only[Act.put,S0,S1,S2]
     refine wpAnyH_ready (rs := [3]) (by kernel_rfl) (by simp) ?_
     refine AllReadyH.cons rfl (fun K hK => ?_) AllReadyH.nil
     go_simp
     refine (clone_any AR _ cR (left.drop (x+4)) hll2.out _ hsR7.drew (by rw[hll2.out];omega)).mono ?_
     rintro e w8 ⟨v8,rfl,hown8,hon8⟩
     have hb8:Below W7.heap.size W7 w8:=((Below.refl W7.heap.size W7).drew).trans hon8.below_nil
     have hF8:=hF7.below hb8 (by have:=hB7.size;omega)
     obtain ⟨A8,c8,rfl, -, -,hown8', -⟩:=hown8.open_
     rw[hll2.out] at hown8'
     clear hown8
     have hB8:=hB7.below hb8
     have hF8':=hF8
     obtain ⟨p0,p1,p2,p3,q0,q1,q2,q3⟩:=hF8'
     go_simp
     refine hK.out _ _ ⟨hF8.c0,hF8.c1,hF8.c3,hF8.f0,hF8.f1,hF8.f2,hF8.f3⟩ (fun hHeld => ?_)
     clear hK K
     try simp only[Act.put,S0,S1,S2]
     refine wpAnyH_ready (rs := [5]) (by kernel_rfl) (by simp) ?_
     refine AllReadyH.cons rfl (fun K hK => ?_) AllReadyH.nil
     go_simp
     have hF9:=hF8.set0 (.int .i64 (k0.toNat:Int))
     refine hK.out _ _ ⟨hF9.c0,hF9.c1,hF9.c3,hF9.f0,hF9.f1,hF9.f2,hF9.f3⟩ (fun hHeld => ?_)
     clear hK K
     try simp only[Act.put,S0,S1,S2]
     refine wpAnyH_ready (rs := [6]) (by kernel_rfl) (by simp) ?_
     refine AllReadyH.cons rfl (fun K hK => ?_) AllReadyH.nil
     go_simp
     have hF10:=hF9.set1 (.slice (some ⟨g,0,none⟩) x x)
     refine hK.out _ _ ⟨hF10.c0,hF10.c1,hF10.c3,hF10.f0,hF10.f1,hF10.f2,hF10.f3⟩ (fun hHeld => ?_)
     clear hK K
     try simp only[Act.put,S0,S1,S2]
     refine wpAnyH_ready (rs := [7]) (by kernel_rfl) (by simp) ?_
     refine AllReadyH.cons rfl (fun K hK => ?_) AllReadyH.nil
     go_simp
     have hF11:=hF10.set2 (.slice A8 (left.length - (x+4)) c8)
     refine hK.out _ _ ⟨hF11.c0,hF11.c1,hF11.c3,hF11.f0,hF11.f1,hF11.f2,hF11.f3⟩ (fun hHeld => ?_)
     clear hK K
     try simp only[Act.put,S0,S1,S2]
     refine wpAnyH_ready (rs := [8]) (by kernel_rfl) (by simp) ?_
     refine AllReadyH.cons rfl (fun K hK => ?_) AllReadyH.nil
     go_simp
     have hF12:=hF11.set3 (.int .i64 50)
     refine hK.out _ _ ⟨hF12.c0,hF12.c1,hF12.c3,hF12.f0,hF12.f1,hF12.f2,hF12.f3⟩ (fun hHeld => ?_)
     clear hK K
     try simp only[Act.put,S0,S1,S2]
     refine wpAnyH_done (by kernel_rfl) ?_ _
     have hB12:=(((hB8.setCell (p:=⟨w.heap.size,0,none⟩) (.int .i64 (k0.toNat:Int)) (by simp only[];omega) (by simp only[];omega)).setCell (p:=⟨w.heap.size+1,0,none⟩) (.slice (some ⟨g,0,none⟩) x x) (by simp only[];omega) (by simp only[];omega)).setCell (p:=⟨w.heap.size+1+1,0,none⟩) (.slice A8 (left.length - (x+4)) c8) (by simp only[];omega) (by simp only[];omega)).setCell (p:=⟨w.heap.size+1+1+1,0,none⟩) (.int .i64 50) (by simp only[];omega) (by simp only[];omega)
     have hO12:OwnB _ w.heap.size _ _:=OwnB.base_le (ownsRow_setCell_below (ownsRow_setCell_below (ownsRow_setCell_below (ownsRow_setCell_below hown8' (a:=⟨w.heap.size,0,none⟩) (by have:=hB7.size;show _<W7.heap.size;simp only[];omega) (.int .i64 (k0.toNat:Int))) (a:=⟨w.heap.size+1,0,none⟩) (by have:=hB7.size;show _<W7.heap.size;simp only[];omega) (.slice (some ⟨g,0,none⟩) x x)) (a:=⟨w.heap.size+1+1,0,none⟩) (by have:=hB7.size;show _<W7.heap.size;simp only[];omega) (.slice A8 (left.length - (x+4)) c8)) (a:=⟨w.heap.size+1+1+1,0,none⟩) (by have:=hB7.size;show _<W7.heap.size;simp only[];omega) (.int .i64 50)) (show w.heap.size≤W7.heap.size by have:=hB7.size;omega)
     generalize (((w8.setCell ⟨w.heap.size,0,none⟩ (.int .i64 (k0.toNat:Int))).setCell ⟨w.heap.size+1,0,none⟩ (.slice (some ⟨g,0,none⟩) x x)).setCell ⟨w.heap.size+1+1,0,none⟩ (.slice A8 (left.length - (x+4)) c8)).setCell ⟨w.heap.size+1+1+1,0,none⟩ (.int .i64 50)=W12 at hF12 hB12 hO12
     refine NoPanic.normal ?_
     have hb12:Below w.heap.size w W12:=hb0.trans (hB12.to_below (by omega))
     go_wp2
     refine door_err w.heap.size 50 rfl _ _ _ _ hF12 _ _ rfl rfl rfl rfl rfl ?_
     exact fun W' hb'=>⟨_,_,_,_,rfl,rfl,Nat.le_refl _,⟨.inl rfl⟩,OwnB.nil _ _,hb12.trans hb'⟩
    ·go_upto_region 16 with fail
     have hF7:=hF6'
     have hB7:=hB6
     clear hF6' hB6
     generalize wc=W7 at hF7 hB7
     have hsR7:=hB7.sees hSR (fun a' e' => .inr (hAR a' e'))
     have hb07:Below w.heap.size w W7:=hb0.trans (hB7.to_below (by omega))
     refine wp_region_noPanic ?_
     refine wp_region_held_drew (S:=fun w'=>w'.cell? ⟨w.heap.size,0,none⟩=some (.int .i64 (k0.toNat:Int))∧w'.cell? ⟨w.heap.size+1,0,none⟩=some (.slice (some ⟨g,0,none⟩) x x)∧w'.cell? ⟨w.heap.size+1+1+1,0,none⟩=some (.int .i64 0)∧w'.frozen? ⟨w.heap.size,0,none⟩=false∧w'.frozen? ⟨w.heap.size+1,0,none⟩=false∧w'.frozen? ⟨w.heap.size+1+1,0,none⟩=false∧w'.frozen? ⟨w.heap.size+1+1+1,0,none⟩=false) (by kernel_rfl) ⟨hF7.c0,hF7.c1,hF7.c3,hF7.f0,hF7.f1,hF7.f2,hF7.f3⟩ (fun hHeld => ?_)
     refine wpAnyH_take (i:=0) (v := .int .i64 (k0.toNat:Int)) rfl (by kernel_rfl) (by kernel_rfl) (by kernel_rfl) (fun _ _ _ h=>h) (Or.inl ⟨by rfl,?_⟩) hHeld ?_
     ·intro w' hSw
      obtain ⟨s0,s1,s3,s4,s5,s6,s7⟩:=hSw
      go_simp
     simp only[Act.put,List.setIfInBounds_toArray]
     refine wpAnyH_take (i:=1) (v := .slice (some ⟨g,0,none⟩) x x) rfl (by kernel_rfl) (by kernel_rfl) (by kernel_rfl) (fun _ _ _ h=>h) (Or.inl ⟨by rfl,?_⟩) hHeld ?_
     ·intro w' hSw
      obtain ⟨s0,s1,s3,s4,s5,s6,s7⟩:=hSw
      go_simp
     simp only[Act.put]
     refine wpAnyH_take (i:=4) (v := .int .i64 0) rfl (by kernel_rfl) (by kernel_rfl) (by kernel_rfl) (fun _ _ _ h=>h) (Or.inl ⟨by rfl,?_⟩) hHeld ?_
     ·intro w' hSw
      obtain ⟨s0,s1,s3,s4,s5,s6,s7⟩:=hSw
      go_simp
     simp only[Act.put]
     refine wpAnyH_ready (rs := [2]) (by kernel_rfl) (by simp) ?_
     refine AllReadyH.cons rfl (fun K hK => ?_) AllReadyH.nil
     have e2:=hF7.c2
     go_simp
     refine hK.out _ _ ⟨hF7.drew.c0,hF7.drew.c1,hF7.drew.c3,hF7.drew.f0,hF7.drew.f1,hF7.drew.f2,hF7.drew.f3⟩ (fun hHeld => ?_)
     clear hK K
     try simp only[Act.put,S0,S1,S2]
     refine wpAnyH_ready (rs := [3]) (by kernel_rfl) (by simp) ?_
     refine AllReadyH.cons rfl (fun K hK => ?_) AllReadyH.nil
     go_simp
     refine (clone_any AR _ cR (left.drop (x+4)) hll2.out _ hsR7.drew (by rw[hll2.out];omega)).mono ?_
     rintro e w8 ⟨v8,rfl,hown8,hon8⟩
     have hb8:Below W7.heap.size W7 w8:=((Below.refl W7.heap.size W7).drew).trans hon8.below_nil
     have hF8:=hF7.below hb8 (by have:=hB7.size;omega)
     obtain ⟨A8,c8,rfl, -, -,hown8', -⟩:=hown8.open_
     rw[hll2.out] at hown8'
     clear hown8
     have hB8:=hB7.below hb8
     have hF8':=hF8
     obtain ⟨p0,p1,p2,p3,q0,q1,q2,q3⟩:=hF8'
     go_simp
     refine hK.out _ _ ⟨hF8.c0,hF8.c1,hF8.c3,hF8.f0,hF8.f1,hF8.f2,hF8.f3⟩ (fun hHeld => ?_)
     clear hK K
     try simp only[Act.put,S0,S1,S2]
     refine wpAnyH_ready (rs := [5]) (by kernel_rfl) (by simp) ?_
     refine AllReadyH.cons rfl (fun K hK => ?_) AllReadyH.nil
     go_simp
     have hF9:=hF8.set0 (.int .i64 (k0.toNat:Int))
     refine hK.out _ _ ⟨hF9.c0,hF9.c1,hF9.c3,hF9.f0,hF9.f1,hF9.f2,hF9.f3⟩ (fun hHeld => ?_)
     clear hK K
     try simp only[Act.put,S0,S1,S2]
     refine wpAnyH_ready (rs := [6]) (by kernel_rfl) (by simp) ?_
     refine AllReadyH.cons rfl (fun K hK => ?_) AllReadyH.nil
     go_simp
     have hF10:=hF9.set1 (.slice (some ⟨g,0,none⟩) x x)
     refine hK.out _ _ ⟨hF10.c0,hF10.c1,hF10.c3,hF10.f0,hF10.f1,hF10.f2,hF10.f3⟩ (fun hHeld => ?_)
     clear hK K
     try simp only[Act.put,S0,S1,S2]
     refine wpAnyH_ready (rs := [7]) (by kernel_rfl) (by simp) ?_
     refine AllReadyH.cons rfl (fun K hK => ?_) AllReadyH.nil
     go_simp
     have hF11:=hF10.set2 (.slice A8 (left.length - (x+4)) c8)
     refine hK.out _ _ ⟨hF11.c0,hF11.c1,hF11.c3,hF11.f0,hF11.f1,hF11.f2,hF11.f3⟩ (fun hHeld => ?_)
     clear hK K
     try simp only[Act.put,S0,S1,S2]
     refine wpAnyH_ready (rs := [8]) (by kernel_rfl) (by simp) ?_
     refine AllReadyH.cons rfl (fun K hK => ?_) AllReadyH.nil
     go_simp
     have hF12:=hF11.set3 (.int .i64 0)
     refine hK.out _ _ ⟨hF12.c0,hF12.c1,hF12.c3,hF12.f0,hF12.f1,hF12.f2,hF12.f3⟩ (fun hHeld => ?_)
     clear hK K
     try simp only[Act.put,S0,S1,S2]
     refine wpAnyH_done (by kernel_rfl) ?_ _
     have hB12:=(((hB8.setCell (p:=⟨w.heap.size,0,none⟩) (.int .i64 (k0.toNat:Int)) (by simp only[];omega) (by simp only[];omega)).setCell (p:=⟨w.heap.size+1,0,none⟩) (.slice (some ⟨g,0,none⟩) x x) (by simp only[];omega) (by simp only[];omega)).setCell (p:=⟨w.heap.size+1+1,0,none⟩) (.slice A8 (left.length - (x+4)) c8) (by simp only[];omega) (by simp only[];omega)).setCell (p:=⟨w.heap.size+1+1+1,0,none⟩) (.int .i64 0) (by simp only[];omega) (by simp only[];omega)
     have hO12:OwnB _ w.heap.size _ _:=OwnB.base_le (ownsRow_setCell_below (ownsRow_setCell_below (ownsRow_setCell_below (ownsRow_setCell_below hown8' (a:=⟨w.heap.size,0,none⟩) (by have:=hB7.size;show _<W7.heap.size;simp only[];omega) (.int .i64 (k0.toNat:Int))) (a:=⟨w.heap.size+1,0,none⟩) (by have:=hB7.size;show _<W7.heap.size;simp only[];omega) (.slice (some ⟨g,0,none⟩) x x)) (a:=⟨w.heap.size+1+1,0,none⟩) (by have:=hB7.size;show _<W7.heap.size;simp only[];omega) (.slice A8 (left.length - (x+4)) c8)) (a:=⟨w.heap.size+1+1+1,0,none⟩) (by have:=hB7.size;show _<W7.heap.size;simp only[];omega) (.int .i64 0)) (show w.heap.size≤W7.heap.size by have:=hB7.size;omega)
     generalize (((w8.setCell ⟨w.heap.size,0,none⟩ (.int .i64 (k0.toNat:Int))).setCell ⟨w.heap.size+1,0,none⟩ (.slice (some ⟨g,0,none⟩) x x)).setCell ⟨w.heap.size+1+1,0,none⟩ (.slice A8 (left.length - (x+4)) c8)).setCell ⟨w.heap.size+1+1+1,0,none⟩ (.int .i64 0)=W12 at hF12 hB12 hO12
     refine NoPanic.normal ?_
     have hb12:Below w.heap.size w W12:=hb0.trans (hB12.to_below (by omega))
     go_wp2
     refine door_ok w.heap.size _ _ _ _ hF12 _ _ rfl rfl rfl rfl rfl ?_
     exact ⟨_,_,_,_,rfl,(show (left.take x).length=x by rw[List.length_take];omega),Nat.le_refl _,mine_of hown x hB12 (by have:=hg1;simp only[W4.size] at this;omega) (by have:=hg1;simp only[W4.size] at this;omega),hO12,hb12⟩
end
section
open Go.RowKit
theorem nextIs_err {w:World}{en:Ending}{w' : World}{e:Nat}(h:en = .returned (.tuple #[.int .i64 0,.slice none 0 0,.slice none 0 0,.int .i64 (e:Int)])∧Below w.heap.size w w'):NextIs w (0, [], [],e) en w' :=
 ⟨none,0,0,_,h.1,rfl,Nat.le_refl _,⟨.inl rfl⟩,OwnB.nil _ _,h.2⟩
theorem Next_any (A:Option Addr) (n c:Nat) (b:List UInt8) (hn:b.length=n) (hnc:n≤c) (w:World) (hS:Sees w w.heap.size A (bv b)) (hH:Halves w) (hlen:n≤1000000000) :
  Calls Tryz.prog 212 #[.slice A n c] w (NextIs w (fnext b)):=by
 cases b with
 | nil =>
  obtain rfl:n=0:=by simpa using hn.symm
  exact (Next_empty A c w).mono fun _ _ h=>nextIs_err (e:=10) h
 | cons k t =>
  have hn' : t.length+1=n:=by simpa using hn
  have HT:=fun A' c' hA=>Next_Take A n c k t hn' w hS (by omega) hnc A' c' hA
  have hle:=vtake_le t
  simp only[fnext]
  by_cases he:(vtake t).2.2=0
  ·rw[if_neg (fun hh=>hh he)]
   simp only[he,if_true] at HT
   by_cases hb:65535<(vtake t).1
   ·rw[if_pos hb]
    exact (Next_big A n c w (by omega) (by omega) _ hb _ (by rw[List.length_drop];omega) HT).mono fun _ _ h=>nextIs_err (e:=11) h
   rw[if_neg hb]
   by_cases hs:(t.drop (vtake t).2.1).length<(vtake t).1+4
   ·rw[if_pos hs]
    exact (Next_short A n c w (by omega) (by omega) _ (by omega) _ hs HT).mono fun _ _ h=>nextIs_err (e:=10) h
   rw[if_neg hs]
   have hl:(t.drop (vtake t).2.1).length=t.length - (vtake t).2.1:=List.length_drop
   obtain ⟨ad,rfl,hab,hcell⟩:=hS.at_ (k:=0) (by simp[bv])
   have:=Next_sum (sealB ((k :: t).take (1+(vtake t).2.1+(vtake t).1))==(k :: t).take (1+(vtake t).2.1+(vtake t).1+4)) (1+(vtake t).2.1+(vtake t).1+4) ad n c w (by omega) hnc (by omega) (vtake t).1 (by omega) (t.drop (vtake t).2.1) (by omega) (by omega)
    (k :: t) hn hS hH k (by simpa[bv,Addr.add] using hcell) (by omega) (by rw[show 1+(vtake t).2.1+(vtake t).1+4 - 4=1+(vtake t).2.1+(vtake t).1 from by omega];rfl) HT
   exact this
  ·rw[if_pos he]
   simp only[if_neg he] at HT
   exact (Next_take_err A n c w (by omega) (by omega) _ _ (by rw[bne_iff_ne];omega) HT).mono fun _ _ h=>nextIs_err h
end
end Go.Proofs.YtalmnodgjjcefaaGreatDoor
