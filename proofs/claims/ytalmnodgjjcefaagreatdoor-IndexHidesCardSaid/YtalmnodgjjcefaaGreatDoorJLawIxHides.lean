/- IndexHides, walked. -/
import Derived.Test.YtalmnodgjjcefaaGreatDoorJTk
import Derived.Test.YtalmnodgjjcefaaGreatDoorJIxTwo
import Derived.Test.YtalmnodgjjcefaaGreatDoorJIxE
set_option maxRecDepth 100000
set_option maxHeartbeats 6400000
namespace Go.Proofs.YtalmnodgjjcefaaGreatDoor
section
open Go.RowKit Go.Maps
theorem and7 (x:Int):bits .and .i64 x 7=x % 8:=by
 have e1:(BitVec.ofInt 64 x).toNat % 8=(x % 8).toNat:=by
  rw[BitVec.toNat_ofInt]
  omega
 have hn:(BitVec.ofInt 64 x &&& BitVec.ofInt 64 7).toNat=(x % 8).toNat:=by
  rw[BitVec.toNat_and,show (BitVec.ofInt 64 7).toNat=7 from by decide,show (7:Nat)=2 ^ 3 - 1 from by omega,Nat.and_two_pow_sub_one_eq_mod]
  exact e1
 show IntKind.i64.wrap ((BitVec.ofInt 64 x &&& BitVec.ofInt 64 7).toNat:Int)=_
 rw[hn,IntKind.wrap_i64]
 omega
theorem FindIs.same {w w' : World}{l:List Int}{er:Nat}{e:Ending}(h:FindIs w l er e w'):∃A n c,e = .returned (.tuple #[.slice A n c,.int .i64 (er:Nat)])∧Below w.heap.size w w'∧(if er=0 then l else []).length=n∧Sees w' w'.heap.size A (KI.iv (if er=0 then l else [])):=by
 obtain ⟨A,n,c,he,hb,hr⟩:=h
 refine ⟨A,n,c,he,hb,?_⟩
 rcases hr with ⟨h0,hn,hc,hS⟩|⟨h0,hA,hn,hc⟩
 ·rw[if_pos h0]
  exact ⟨hn.symm,hS.sees fun k hk=>hk.2⟩
 ·rw[if_neg h0]
  exact ⟨hn.symm,Sees.nil _ _ _⟩
theorem idsXa_len (p:Ser→Bool):∀(X:List Ser) (i:Nat),(idsXa p i X).length≤X.length
 | [],i=>by simp[idsXa]
 | t :: X,i=>by
  have:=idsXa_len p X (i+1)
  unfold idsXa
  split
  ·simpa using this
  ·simp only[List.length_cons];omega
theorem idsX_len (p:Ser→Bool) (X:List Ser):(idsX X p).length≤X.length:=idsXa_len p X 1
theorem BoolIs.gives {w w' : World}{b:Bool}{e:Ending}(h:BoolIs w b e w'):Gives w (.bool b) e w':=by
 obtain ⟨he,q,hw⟩:=h
 exact ⟨he,by rw[hw];exact below_d (Below.refl _ w) q⟩
theorem Strings_gives (A B:Option Addr) (n c d:Nat) (l:List Item) (hn:l.length=n) (w:World) (hA:Sees w w.heap.size A (sv l)) (hB:Sees w w.heap.size B (sv l)) (hlen:n≤1099511627776) :
  Calls Tryz.prog 27 #[.slice A n c,.slice B n d] w (Gives w (.bool true)) :=
 (Strings_same A B n c d l hn w hA hB hlen).mono fun e w' ⟨he,q,hw⟩=>⟨he,by rw[hw];exact below_d (Below.refl _ w) q⟩
structure AskAt (w:World) (B:Nat) (v0 v1 v2 v3 v4:Value):Prop where
 c0:w.cell? ⟨B,0,none⟩=some v0
 c1:w.cell? ⟨B,1,none⟩=some v1
 c2:w.cell? ⟨B,2,none⟩=some v2
 c3:w.cell? ⟨B,3,none⟩=some v3
 c4:w.cell? ⟨B,4,none⟩=some v4
theorem AskAt.new (w:World) (t:TypeId) (v0 v1 v2 v3 v4:Value):AskAt (w.alloc (.cells #[v0,v1,v2,v3,v4] t)) w.heap.size v0 v1 v2 v3 v4:=by
 constructor<;>(rw[World.cell?_alloc_at _ _ _ _ rfl];rfl)
theorem AskAt.block {w w' : World}{B:Nat}{v0 v1 v2 v3 v4:Value}(h:AskAt w B v0 v1 v2 v3 v4) (hk:w'.heap[B]?=w.heap[B]?):AskAt w' B v0 v1 v2 v3 v4:=by
 have hK:Kept (fun k=>k=B) w w':=fun k e=>by subst e;exact hk
 exact ⟨(hK.cell (p:=⟨B,0,none⟩) rfl).trans h.c0,(hK.cell (p:=⟨B,1,none⟩) rfl).trans h.c1,(hK.cell (p:=⟨B,2,none⟩) rfl).trans h.c2,(hK.cell (p:=⟨B,3,none⟩) rfl).trans h.c3,(hK.cell (p:=⟨B,4,none⟩) rfl).trans h.c4⟩
theorem IndexHides_any (A:Option Addr) (n c:Nat) (ls:List ActI) (hn:ls.length=n) (Af:Option Addr) (nf cf:Nat) (fs:List Flt) (hf:fs.length=nf) (hfit:FitF fs) (fr0 to0 id:Int) (name:ByteArray) (w:World) (hS:ActsI (fun k=>k<w.heap.size) w A ls) (hF:Sees w w.heap.size Af (fv fs)) (hH:Halves w) :
  Calls Tryz.prog 7 #[.slice A n c,.agg #[.slice Af nf cf,.int .i64 fr0,.int .i64 to0,.int .i64 id,.string name]] w (Gives w (.bool true)):=by
 obtain ⟨W0,hW0⟩:∃W0,w.alloc (.cells #[.slice Af nf cf,.int .i64 fr0,.int .i64 to0,.int .i64 id,.string name] 68)=W0:=⟨_,rfl⟩
 have hb0:Below w.heap.size w W0:=by rw[←hW0];exact (Below.refl _ w).alloc (Nat.le_refl _) _
 have hz0:W0.heap.size=w.heap.size+1:=by rw[←hW0];simp
 have ask0:AskAt W0 w.heap.size (.slice Af nf cf) (.int .i64 fr0) (.int .i64 to0) (.int .i64 id) (.string name):=by rw[←hW0];exact AskAt.new _ _ _ _ _ _ _
 have hAw:=Lib.hid (awake_any W0)
 have HN:=Lib.hid hn
 have HF:=Lib.hid hf
 have HFT:=Lib.hid hfit
 have HH:=Lib.hid hH
 have HAS:=Lib.hid ask0
 clear hn hf hfit hH ask0
 go_enter Tryz.func7,Tryz.ntmps7
 go_wp2_with fail
 refine hAw.out.mono ?_
 rintro e w1 ⟨rfl,hb1⟩
 have hbw1:Below w.heap.size w w1:=hb0.trans (hb1.mono (by omega))
 have hask:=HAS.out.block (hb1.block _ (by omega))
 have HASK:=Lib.hid hask
 obtain ⟨c0,c1,c2,c3,c4⟩:=hask
 have hFw:=Lib.hid (few_any _ A n c ls HN.out w1 (hS.below hbw1))
 have hz1:=hb1.size
 clear hAw
 go_wp2_with fail
 refine hFw.out.mono ?_
 rintro e w1' ⟨small,hsm,rfl,rfl⟩
 clear hFw
 cases small with
 | false =>
  clear hsm
  go_wp2
  go_ret
  exact ⟨rfl,hbw1⟩
 | true =>
  have hfew:=hsm rfl
  have hn25:n≤25:=by have:=hfew.len;have:=HN.out;omega
  have HFW:=Lib.hid hfew
  clear hsm hfew
  by_cases h8:8<nf
  ·have q1:decide ((8:Int)<(nf:Int))=true:=decide_eq_true (by omega)
   go_wp2
   go_ret
   exact ⟨rfl,hbw1⟩
  obtain ⟨ns,hns⟩:∃ns,name.size=ns:=⟨_,rfl⟩
  have h8' : (nf:Int)≤8:=by omega
  have q1:decide ((8:Int)<(nf:Int))=false:=decide_eq_false (by omega)
  by_cases h30:30<ns
  ·have q2:decide ((30:Int)<(name.size:Int))=true:=decide_eq_true (by omega)
   go_wp2
   go_ret
   exact ⟨rfl,hbw1⟩
  have q2:decide ((30:Int)<(name.size:Int))=false:=decide_eq_false (by omega)
  have hNa:=Lib.hid (new_live w1)
  go_wp2_with fail
  refine hNa.out.mono ?_
  rintro e w2 ⟨P1,rfl,hL1,hb2⟩
  have hNb:=Lib.hid (new_live w2)
  clear hNa
  go_wp2_with fail
  refine hNb.out.mono ?_
  rintro e w3 ⟨P2,rfl,hL2,hb3⟩
  have hTw:Two w1.heap.size 0 0 (fun _=>False) w3 P1 P2 [] []:=Two.new hL1 hL2 hb3 hb2.size
  have hb13:Below w1.heap.size w1 w3:=hb2.trans (hb3.mono hb2.size)
  have HTW:=Lib.hid hTw
  clear hL1 hL2 hTw hNb hb2 hb3 c0 c1 c2 c3 c4 q1 q2
  go_wp2_with fail
  go_loopg [9] n (fun g i wr=>∃(k:Nat) (z:Nat→Prop) (X:List Ser),k+g=n∧i = .int .i64 k∧Two w1.heap.size (14*k) (14*k) z wr P1 P2 X X∧Below w1.heap.size w1 wr)
  case atStart=>exact ⟨0,_,_,by omega,rfl,HTW.out,hb13⟩
  case round =>
   obtain ⟨k,z,X,hk,rfl,hT,hbr⟩:=hrel
   have hbs:=hbr.size
   by_cases hlt:k<n
   ·have hkl:k<ls.length:=by have:=HN.out;omega
    have hbwr:Below w.heap.size w wr:=hbw1.trans (hbr.mono hbw1.size)
    obtain ⟨ad,Ai,ci,rfl,had,g0,g1,g2,g3,g4,hci,hsl⟩:=(hS.below hbwr).out k hkl
    have hfl:=HFW.out.all _ (List.getElem_mem hkl)
    obtain ⟨y,hy⟩:∃y,ls[k]=y:=⟨_,rfl⟩
    rw[hy] at g0 g1 g2 g3 g4 hci hsl hfl
    obtain ⟨kd,L,dd,aa,bb⟩:=y
    simp only at g0 g1 g2 g3 g4 hci hsl hfl
    obtain ⟨nl,hnl⟩:∃nl,L.length=nl:=⟨_,rfl⟩
    rw[hnl] at g1 hci
    have hn8:nl≤8:=by have:=hfl.1;omega
    have hLs:∀x∈L,x.1.size≤9223372036854775807:=fun x hx=>by have:=(hfl.2 x hx).1;omega
    have hz:=and7 kd
    obtain ⟨wx,hwx⟩:∃wx,wr.alloc (.cells #[.int .i64 kd,.slice Ai nl ci,.int .i64 dd,.int .i64 aa,.int .i64 bb] 27)=wx:=⟨_,rfl⟩
    have hb1x:Below wr.heap.size wr wx:=by rw[←hwx];exact (Below.refl _ wr).alloc (Nat.le_refl _) _
    have hzx:wx.heap.size=wr.heap.size+1:=by rw[←hwx];simp
    have hact:AskAt wx wr.heap.size (.int .i64 kd) (.slice Ai nl ci) (.int .i64 dd) (.int .i64 aa) (.int .i64 bb):=by rw[←hwx];exact AskAt.new _ _ _ _ _ _ _
    have hTx:=hT.box hb1x (by omega)
    have hbx:Below w1.heap.size w1 wx:=hbr.trans (hb1x.mono hbs)
    have hbwx:Below w.heap.size w wx:=hbw1.trans (hbx.mono hbw1.size)
    have hHlt:=HH.out.1
    have HSX:Hid (∀W,Below w1.heap.size w1 W→Sees W W.heap.size Ai (lv L)):=fun W hW=>by
     have h1:=(hsl.keep (w':=w1) (fun k e=>(hbr.block k (Nat.lt_of_lt_of_le e hbw1.size)).symm))
     exact ((h1.sees (B:=w.heap.size) fun k e=>e).below (hW.mono hbw1.size |> fun h=>⟨h.os,h.tape,h.output,h.size,fun k hk=>h.block k hk⟩)).more (Nat.le_trans hbw1.size hW.size)
    have HTX:=Lib.hid hTx
    have HACT:=Lib.hid hact
    have HNL:=Lib.hid hnl
    have HLS:=Lib.hid hLs
    have hm8:0≤kd % 8∧kd % 8<8:=by omega
    have hk25:k≤24:=by omega
    obtain ⟨c0,c1,c2,c3,c4⟩:=hact
    have hcase:(kd % 8=0∨kd % 8=1∨kd % 8=2∨kd % 8=3)∨kd % 8=4∨(kd % 8=5∨kd % 8=6)∨kd % 8=7:=by omega
    clear hm8 hT hTx hsl hfl hy hnl hLs HTW hb13
    rcases hcase with hcase|hcase|hcase|hcase
    ·have hA:=Lib.hid (HTX.out.add (by omega) Ai nl ci L HNL.out (HSX.out wx hbx) (by omega) HLS.out dd)
     obtain ⟨E,hE⟩:∃E,addE L dd=E:=⟨_,rfl⟩
     obtain ⟨I,hI⟩:∃I,addN X L dd=I:=⟨_,rfl⟩
     obtain ⟨X',hX'⟩:∃X',addV X L dd=X':=⟨_,rfl⟩
     rw[hE,hI,hX'] at hA
     have HE:=Lib.hid hE
     have HI:=Lib.hid hI
     have HX:=Lib.hid hX'
     have q3:(I==I)=true:=beq_self_eq_true I
     clear hE hI hX'
     rcases hcase with e|e|e|e
     all_goals
      rw[e] at hz
      clear e
      go_wp2_with fail
      refine hA.out.mono ?_
      rintro e w4 ⟨rfl,lf⟩
      have hb4:=hbx.trans lf.below
      have hB:=Lib.hid (lf.two.swap.add (by omega) Ai nl ci L HNL.out (HSX.out w4 hb4) (by omega) HLS.out dd)
      rw[HE.out,HI.out,HX.out] at hB
      have HACT4:=Lib.hid (HACT.out.block (lf.kept _ rfl))
      obtain ⟨c0',c1',c2',c3',c4'⟩:=HACT4.out
      clear hA lf c0 c1 c2 c3 c4
      go_wp2_with fail
      refine hB.out.mono ?_
      rintro e w5 ⟨rfl,lf⟩
      have hb5:=hb4.trans lf.below
      have HT5:=Lib.hid lf.two.swap
      clear hB lf c0' c1' c2' c3' c4'
      go_wp2_with fail
      go_roundg (n - (k+1))
      case measure=>omega
      case rel=>exact ⟨k+1,_,_,by omega,by go_num,HT5.out.more (by omega) (by omega),hb5⟩
    ·have hA:=Lib.hid (HTX.out.drop (by omega) aa)
     obtain ⟨E,hE⟩:∃E,dropE X aa=E:=⟨_,rfl⟩
     obtain ⟨X',hX'⟩:∃X',dropV X aa=X':=⟨_,rfl⟩
     rw[hE,hX'] at hA
     have HE:=Lib.hid hE
     have HX:=Lib.hid hX'
     clear hE hX'
     rw[hcase] at hz
     clear hcase
     go_wp2_with fail
     refine hA.out.mono ?_
     rintro e w4 ⟨rfl,lf⟩
     have hb4:=hbx.trans lf.below
     have hB:=Lib.hid (lf.two.swap.drop (by omega) aa)
     rw[HE.out,HX.out] at hB
     have HACT4:=Lib.hid (HACT.out.block (lf.kept _ rfl))
     obtain ⟨c0',c1',c2',c3',c4'⟩:=HACT4.out
     clear hA lf c0 c1 c2 c3 c4
     go_wp2_with fail
     refine hB.out.mono ?_
     rintro e w5 ⟨rfl,lf⟩
     have hb5:=hb4.trans lf.below
     have HT5:=Lib.hid lf.two.swap
     clear hB lf c0' c1' c2' c3' c4'
     go_wp2_with fail
     go_roundg (n - (k+1))
     case measure=>omega
     case rel=>exact ⟨k+1,_,_,by omega,by go_num,HT5.out.more (by omega) (by omega),hb5⟩
    ·have hA:=Lib.hid (HTX.out.flush (by omega) (HH.out.below hbwx hHlt))
     rcases hcase with e|e
     all_goals
      rw[e] at hz
      clear e
      go_wp2_with fail
      refine hA.out.mono ?_
      rintro e w4 ⟨v4,rfl,lf⟩
      have hb4:=hbx.trans lf.below
      have HT5:=Lib.hid lf.two
      clear hA lf c0 c1 c2 c3 c4
      go_wp2_with fail
      go_roundg (n - (k+1))
      case measure=>omega
      case rel=>exact ⟨k+1,_,_,by omega,by go_num,HT5.out.more (by omega) (by omega),hb4⟩
    ·have hA:=Lib.hid (HTX.out.merge (by omega) (HH.out.below hbwx hHlt) aa bb)
     rw[hcase] at hz
     clear hcase
     go_wp2_with fail
     refine hA.out.mono ?_
     rintro e w4 ⟨v4,rfl,lf⟩
     have hb4:=hbx.trans lf.below
     have HT5:=Lib.hid lf.two
     clear hA lf c0 c1 c2 c3 c4
     go_wp2_with fail
     go_roundg (n - (k+1))
     case measure=>omega
     case rel=>exact ⟨k+1,_,_,by omega,by go_num,HT5.out.more (by omega) (by omega),hb4⟩
   ·have hkn:k=n:=by omega
    have hX:=hT.few
    have hbwr:Below w.heap.size w wr:=hbw1.trans (hbr.mono hbw1.size)
    have HC:Hid (∀W,Below w1.heap.size w1 W→AskAt W w.heap.size (.slice Af nf cf) (.int .i64 fr0) (.int .i64 to0) (.int .i64 id) (.string name)):=fun W hW=>HASK.out.block (hW.block _ (by omega))
    have HFS:Hid (∀W,Below w1.heap.size w1 W→Sees W W.heap.size Af (fv fs)):=fun W hW=>by
     have hx:Below w.heap.size w W:=hbw1.trans (hW.mono hbw1.size)
     exact (hF.below hx).more hx.size
    obtain ⟨er,her⟩:∃er,checkF fs=er:=⟨_,rfl⟩
    obtain ⟨L1,hL1⟩:∃l,(if er=0 then idsX X (fitX fs) else [])=l:=⟨_,rfl⟩
    obtain ⟨L2,hL2⟩:∃l,(if er=0 then idsX X (fun t=>fitX fs t && onX fr0 to0 t) else [])=l:=⟨_,rfl⟩
    have hlen1:L1.length≤400:=by
     rw[←hL1]
     split
     ·exact Nat.le_trans (idsX_len _ _) (by omega)
     ·simp
    have hlen2:L2.length≤400:=by
     rw[←hL2]
     split
     ·exact Nat.le_trans (idsX_len _ _) (by omega)
     ·simp
    have HFI:Hid (∀(N Q:Nat) (z:Nat→Prop) (W:World) (Pa Pb:Nat),Two w1.heap.size N Q z W Pa Pb X X→N≤900→Below w1.heap.size w1 W→Calls Tryz.prog 16 #[.pointer (some ⟨Pa,0,none⟩),.slice Af nf cf] W fun e w'=>∃A n c,e = .returned (.tuple #[.slice A n c,.int .i64 (er:Nat)])∧Below W.heap.size W w'∧L1.length=n∧Sees w' w'.heap.size A (KI.iv L1)):=fun N Q z W Pa Pb h hN hb=>by
     have:=h.find hN Af nf cf fs HF.out HFT.out (HFS.out W hb) (by omega)
     rw[her] at this
     rw[←hL1]
     exact this.mono fun _ _ e=>e.same
    have HON:Hid (∀(N Q:Nat) (z:Nat→Prop) (W:World) (Pa Pb:Nat),Two w1.heap.size N Q z W Pa Pb X X→N≤900→Below w1.heap.size w1 W→Calls Tryz.prog 14 #[.pointer (some ⟨Pa,0,none⟩),.slice Af nf cf,.int .i64 fr0,.int .i64 to0] W fun e w'=>∃A n c,e = .returned (.tuple #[.slice A n c,.int .i64 (er:Nat)])∧Below W.heap.size W w'∧L2.length=n∧Sees w' w'.heap.size A (KI.iv L2)):=fun N Q z W Pa Pb h hN hb=>by
     have:=h.on hN Af nf cf fs HF.out HFT.out (HFS.out W hb) (by omega) fr0 to0
     rw[her] at this
     rw[←hL2]
     exact this.mono fun _ _ e=>e.same
    have HT:=Lib.hid hT
    have hN9:14*k≤900:=by omega
    obtain ⟨M,hM⟩:∃M,14*k=M:=⟨_,rfl⟩
    rw[hM] at HT hN9
    obtain ⟨c0,c1,c2,c3,c4⟩:=HC.out wr hbr
    have hA:=Lib.hid (HFI.out _ _ _ wr P1 P2 HT.out hN9 hbr)
    subst hkn
    clear hT her hL1 hL2 hX hM HTW hb13
    go_wp2_with fail
    refine hA.out.mono ?_
    rintro e w4 ⟨A1,n1,d1,rfl,hb4,hl1,hs1⟩
    have hbw4:=hbr.trans (hb4.mono hbs)
    have HT4:=Lib.hid (HT.out.below hb4)
    have HL1:=Lib.hid hl1
    have hB:=Lib.hid (HFI.out _ _ _ w4 P2 P1 HT4.out.swap hN9 hbw4)
    clear c0 c1 c2 c3 c4 hA hl1
    obtain ⟨c0,c1,c2,c3,c4⟩:=HC.out w4 hbw4
    go_wp2_with fail
    refine hB.out.mono ?_
    rintro e w5 ⟨A2,n2,d2,rfl,hb5,hl2,hs2⟩
    have hbw5:=hbw4.trans (hb5.mono hbw4.size)
    have HT5:=Lib.hid (HT4.out.below hb5)
    rw[HL1.out] at hl2
    subst hl2
    have hA:=Lib.hid (HON.out _ _ _ w5 P1 P2 HT5.out hN9 hbw5)
    clear c0 c1 c2 c3 c4 hB
    obtain ⟨c0,c1,c2,c3,c4⟩:=HC.out w5 hbw5
    go_wp2_with fail
    refine hA.out.mono ?_
    rintro e w6 ⟨A3,n3,d3,rfl,hb6,hl3,hs3⟩
    have hbw6:=hbw5.trans (hb6.mono hbw5.size)
    have HT6:=Lib.hid (HT5.out.below hb6)
    have HL3:=Lib.hid hl3
    have hB:=Lib.hid (HON.out _ _ _ w6 P2 P1 HT6.out.swap hN9 hbw6)
    clear c0 c1 c2 c3 c4 hA hl3
    obtain ⟨c0,c1,c2,c3,c4⟩:=HC.out w6 hbw6
    go_wp2_with fail
    refine hB.out.mono ?_
    rintro e w7 ⟨A4,n4,d4,rfl,hb7,hl4,hs4⟩
    have hbw7:=hbw6.trans (hb7.mono hbw6.size)
    have HT7:=Lib.hid (HT6.out.below hb7)
    rw[HL3.out] at hl4
    subst hl4
    have hs17:=((hs1.below hb5).more hb5.size |>.below hb6 |>.more hb6.size |>.below hb7 |>.more hb7.size)
    have hs27:=((hs2.below hb6).more hb6.size |>.below hb7 |>.more hb7.size)
    have hs37:=((hs3.below hb7).more hb7.size)
    have hbt:Below w.heap.size w w7:=hbw1.trans (hbw7.mono hbw1.size)
    have hDt:w.heap.size<w7.heap.size:=by have:=hbw7.size;omega
    have hS1:=fun W (hW:Below w7.heap.size w7 W)=>Lib.hid ((KI.SameI_any A1 A2 _ d1 _ d2 L1 L1 HL1.out HL1.out W ((hs17.below hW).more hW.size) ((hs27.below hW).more hW.size) (by have:=HL1.out;omega)).mono fun e w' h=>BoolIs.gives h)
    have hS2:=fun W (hW:Below w7.heap.size w7 W)=>Lib.hid ((KI.SameI_any A3 A4 _ d3 _ d4 L2 L2 HL3.out HL3.out W ((hs37.below hW).more hW.size) ((hs4.below hW).more hW.size) (by have:=HL3.out;omega)).mono fun e w' h=>BoolIs.gives h)
    rw[beq_self_eq_true L1] at hS1
    rw[beq_self_eq_true L2] at hS2
    obtain ⟨TN,hTN⟩:∃T,textsX X (fun x=>x.1)=T:=⟨_,rfl⟩
    obtain ⟨TV,hTV⟩:∃T,textsX X (valG name)=T:=⟨_,rfl⟩
    obtain ⟨XL,hXL⟩:∃x:Int,((X.length+1:Nat):Int)=x:=⟨_,rfl⟩
    obtain ⟨G,hG⟩:∃b,goneX X id=b:=⟨_,rfl⟩
    have hN1:=fun W (hW:Below w7.heap.size w7 W)=>Lib.hid ((HT7.out.below hW).names hN9)
    have hN2:=fun W (hW:Below w7.heap.size w7 W)=>Lib.hid ((HT7.out.below hW).swap.names hN9)
    have hV1:=fun W (hW:Below w7.heap.size w7 W)=>Lib.hid ((HT7.out.below hW).values hN9 name)
    have hV2:=fun W (hW:Below w7.heap.size w7 W)=>Lib.hid ((HT7.out.below hW).swap.values hN9 name)
    have hX1:=fun W (hW:Below w7.heap.size w7 W)=>Lib.hid ((HT7.out.below hW).next hN9)
    have hX2:=fun W (hW:Below w7.heap.size w7 W)=>Lib.hid ((HT7.out.below hW).swap.next hN9)
    have hG1:=fun W (hW:Below w7.heap.size w7 W)=>Lib.hid ((HT7.out.below hW).gone hN9 id)
    have hG2:=fun W (hW:Below w7.heap.size w7 W)=>Lib.hid ((HT7.out.below hW).swap.gone hN9 id)
    rw[hTN] at hN1 hN2
    rw[hTV] at hV1 hV2
    rw[hXL] at hX1 hX2
    rw[hG] at hG1 hG2
    obtain ⟨tn,htn⟩:∃t,TN.length=t:=⟨_,rfl⟩
    obtain ⟨tv,htv⟩:∃t,TV.length=t:=⟨_,rfl⟩
    have HTN:=Lib.hid htn
    have HTV:=Lib.hid htv
    clear c0 c1 c2 c3 c4 hB hs1 hs2 hs3 hs4 hs17 hs27 hs37 hTN hTV hXL hG htn htv HC HFS HFI HON
    have hAk:=HASK.out.block (hbw7.block _ (by omega))
    obtain ⟨c0,c1,c2,c3,c4⟩:=hAk
    go_wp2_with fail
    refine wp_region_noPanic ?_
    refine wp_region_held_drew (S:=fun w'=>w'.cell? ⟨w.heap.size,3,none⟩=some (.int .i64 id)∧w'.cell? ⟨w.heap.size,4,none⟩=some (.string name)) (by kernel_rfl) ?_ (fun hd => ?_)
    ·(exact ⟨c3,c4⟩)
    refine tq0 0 hd ?_
    refine tq0 1 hd ?_
    try simp only[Act.put,S0,S1,S2]
    refine wpAnyH_take (i:=2) (v := .bool true) (tqi rfl) (by kernel_rfl) (by kernel_rfl) (by kernel_rfl) (fun _ _ _ h=>h) (Or.inl ⟨by rfl,?_⟩) hd ?_
    ·(intro w' hSw;(try dsimp only at hSw);go_split_ands;go_simp;first|done|with_reducible rfl|simp)
    try simp only[Act.put,S0,S1,S2]
    refine tq0 3 hd ?_
    refine tq0 4 hd ?_
    try simp only[Act.put,S0,S1,S2]
    refine tq0 5 hd ?_
    try simp only[Act.put,S0,S1,S2]
    refine wpAnyH_ready (rs := [6]) (by kernel_rfl) (by simp) ?_
    refine AllReadyH.cons (tqi rfl) (fun K hK => ?_) AllReadyH.nil
    go_simp
    refine ((hS1 w7.drew (below_drew (Below.refl w7.heap.size w7))).out).mono ?_
    rintro e u1 ⟨rfl,hn1⟩
    have kb1:=Lib.hid ((below_drew (Below.refl w7.heap.size w7)).trans (hn1.mono (below_drew (Below.refl w7.heap.size w7)).size))
    clear hn1
    go_wp2_with fail
    refine hK.out _ _ ?_ ?_
    ·(exact ⟨(kb1.out.cell (p:=⟨w.heap.size,3,none⟩) hDt).trans c3,(kb1.out.cell (p:=⟨w.heap.size,4,none⟩) hDt).trans c4⟩)
    clear hK K hd;intro hd
    try simp only[Act.put,S0,S1,S2]
    refine tq0 7 hd ?_
    refine tq0 8 hd ?_
    try simp only[Act.put,S0,S1,S2]
    refine tq0 9 hd ?_
    refine tq0 10 hd ?_
    try simp only[Act.put,S0,S1,S2]
    refine wpAnyH_take (i:=11) (v := .bool true) (tqi rfl) (by kernel_rfl) (by kernel_rfl) (by kernel_rfl) (fun _ _ _ h=>h) (Or.inl ⟨by rfl,?_⟩) hd ?_
    ·(intro w' hSw;(try dsimp only at hSw);go_split_ands;go_simp;first|done|with_reducible rfl|simp)
    try simp only[Act.put,S0,S1,S2]
    refine tq0 12 hd ?_
    refine tq0 13 hd ?_
    try simp only[Act.put,S0,S1,S2]
    refine tq0 14 hd ?_
    refine tq0 15 hd ?_
    try simp only[Act.put,S0,S1,S2]
    refine wpAnyH_ready (rs := [16]) (by kernel_rfl) (by simp) ?_
    refine AllReadyH.cons (tqi rfl) (fun K hK => ?_) AllReadyH.nil
    go_simp
    refine ((hS2 u1 kb1.out).out).mono ?_
    rintro e u2 ⟨rfl,hn2⟩
    have kb2:=Lib.hid (kb1.out.trans (hn2.mono kb1.out.size))
    clear hn2
    go_wp2_with fail
    refine hK.out _ _ ?_ ?_
    ·(exact ⟨(kb2.out.cell (p:=⟨w.heap.size,3,none⟩) hDt).trans c3,(kb2.out.cell (p:=⟨w.heap.size,4,none⟩) hDt).trans c4⟩)
    clear hK K hd;intro hd
    try simp only[Act.put,S0,S1,S2]
    refine tq0 17 hd ?_
    refine tq0 18 hd ?_
    try simp only[Act.put,S0,S1,S2]
    refine tq0 19 hd ?_
    refine tq0 21 hd ?_
    try simp only[Act.put,S0,S1,S2]
    refine wpAnyH_ready (rs := [20]) (by kernel_rfl) (by simp) ?_
    refine AllReadyH.cons (tqi rfl) (fun K hK => ?_) AllReadyH.nil
    go_simp
    refine ((hN1 u2 kb2.out).out).mono ?_
    rintro e u3 ⟨Aa,ca,rfl,qa,pa,ra,hn3⟩
    have kb3:=Lib.hid (kb2.out.trans (hn3.mono kb2.out.size))
    rw[HTN.out]
    have sa:=Lib.hid (ra.sees (B:=u3.heap.size) fun k e=>e.2)
    have la:tn≤6000:=by have:=HTN.out;omega
    clear ra qa pa
    clear hn3
    go_wp2_with fail
    refine hK.out _ _ ?_ ?_
    ·(exact ⟨(kb3.out.cell (p:=⟨w.heap.size,3,none⟩) hDt).trans c3,(kb3.out.cell (p:=⟨w.heap.size,4,none⟩) hDt).trans c4⟩)
    clear hK K hd;intro hd
    try simp only[Act.put,S0,S1,S2]
    refine wpAnyH_ready (rs := [22]) (by kernel_rfl) (by simp) ?_
    refine AllReadyH.cons (tqi rfl) (fun K hK => ?_) AllReadyH.nil
    go_simp
    refine ((hN2 u3 kb3.out).out).mono ?_
    rintro e u4 ⟨Ab,cb,rfl,qb,pb,rb,hn4⟩
    have kb4:=Lib.hid (kb3.out.trans (hn4.mono kb3.out.size))
    rw[HTN.out]
    have sb:=Lib.hid (rb.sees (B:=u4.heap.size) fun k e=>e.2)
    have ta:=Lib.hid ((sa.out.below hn4).more hn4.size)
    clear rb qb pb sa
    clear hn4
    go_wp2_with fail
    refine hK.out _ _ ?_ ?_
    ·(exact ⟨(kb4.out.cell (p:=⟨w.heap.size,3,none⟩) hDt).trans c3,(kb4.out.cell (p:=⟨w.heap.size,4,none⟩) hDt).trans c4⟩)
    clear hK K hd;intro hd
    try simp only[Act.put,S0,S1,S2]
    refine wpAnyH_ready (rs := [23]) (by kernel_rfl) (by simp) ?_
    refine AllReadyH.cons (tqi rfl) (fun K hK => ?_) AllReadyH.nil
    go_simp
    refine (Strings_gives Aa Ab tn ca cb TN HTN.out u4 ta.out sb.out (by omega)).mono ?_
    rintro e u5 ⟨rfl,hn5⟩
    have kb5:=Lib.hid (kb4.out.trans (hn5.mono kb4.out.size))
    clear hn5
    go_wp2_with fail
    refine hK.out _ _ ?_ ?_
    ·(exact ⟨(kb5.out.cell (p:=⟨w.heap.size,3,none⟩) hDt).trans c3,(kb5.out.cell (p:=⟨w.heap.size,4,none⟩) hDt).trans c4⟩)
    clear hK K hd;intro hd
    try simp only[Act.put,S0,S1,S2]
    refine tq0 24 hd ?_
    refine tq0 25 hd ?_
    try simp only[Act.put,S0,S1,S2]
    refine tq0 26 hd ?_
    refine tq0 27 hd ?_
    try simp only[Act.put,S0,S1,S2]
    refine tq0 28 hd ?_
    refine tq0 30 hd ?_
    try simp only[Act.put,S0,S1,S2]
    refine tq0 31 hd ?_
    refine tq0 32 hd ?_
    try simp only[Act.put,S0,S1,S2]
    refine wpAnyH_ready (rs := [29]) (by kernel_rfl) (by simp) ?_
    refine AllReadyH.cons (tqi rfl) (fun K hK => ?_) AllReadyH.nil
    go_simp
    refine ((hV1 u5 kb5.out).out).mono ?_
    rintro e u6 ⟨Ac,cc,rfl,qc,pc,rc,hn6⟩
    have kb6:=Lib.hid (kb5.out.trans (hn6.mono kb5.out.size))
    rw[HTV.out]
    have sc:=Lib.hid (rc.sees (B:=u6.heap.size) fun k e=>e.2)
    have lc:tv≤6000:=by have:=HTV.out;omega
    clear rc qc pc
    clear hn6
    go_wp2_with fail
    refine hK.out _ _ ?_ ?_
    ·(exact ⟨(kb6.out.cell (p:=⟨w.heap.size,3,none⟩) hDt).trans c3,(kb6.out.cell (p:=⟨w.heap.size,4,none⟩) hDt).trans c4⟩)
    clear hK K hd;intro hd
    try simp only[Act.put,S0,S1,S2]
    refine wpAnyH_ready (rs := [33]) (by kernel_rfl) (by simp) ?_
    refine AllReadyH.cons (tqi rfl) (fun K hK => ?_) AllReadyH.nil
    go_simp
    refine ((hV2 u6 kb6.out).out).mono ?_
    rintro e u7 ⟨Ad,cd,rfl,qd,pd,rd,hn7⟩
    have kb7:=Lib.hid (kb6.out.trans (hn7.mono kb6.out.size))
    rw[HTV.out]
    have sd:=Lib.hid (rd.sees (B:=u7.heap.size) fun k e=>e.2)
    have tc:=Lib.hid ((sc.out.below hn7).more hn7.size)
    clear rd qd pd sc
    clear hn7
    go_wp2_with fail
    refine hK.out _ _ ?_ ?_
    ·(exact ⟨(kb7.out.cell (p:=⟨w.heap.size,3,none⟩) hDt).trans c3,(kb7.out.cell (p:=⟨w.heap.size,4,none⟩) hDt).trans c4⟩)
    clear hK K hd;intro hd
    try simp only[Act.put,S0,S1,S2]
    refine wpAnyH_ready (rs := [34]) (by kernel_rfl) (by simp) ?_
    refine AllReadyH.cons (tqi rfl) (fun K hK => ?_) AllReadyH.nil
    go_simp
    refine (Strings_gives Ac Ad tv cc cd TV HTV.out u7 tc.out sd.out (by omega)).mono ?_
    rintro e u8 ⟨rfl,hn8⟩
    have kb8:=Lib.hid (kb7.out.trans (hn8.mono kb7.out.size))
    clear hn8
    go_wp2_with fail
    refine hK.out _ _ ?_ ?_
    ·(exact ⟨(kb8.out.cell (p:=⟨w.heap.size,3,none⟩) hDt).trans c3,(kb8.out.cell (p:=⟨w.heap.size,4,none⟩) hDt).trans c4⟩)
    clear hK K hd;intro hd
    try simp only[Act.put,S0,S1,S2]
    refine tq0 35 hd ?_
    refine tq0 36 hd ?_
    try simp only[Act.put,S0,S1,S2]
    refine tq0 37 hd ?_
    refine tq0 39 hd ?_
    try simp only[Act.put,S0,S1,S2]
    refine wpAnyH_ready (rs := [38]) (by kernel_rfl) (by simp) ?_
    refine AllReadyH.cons (tqi rfl) (fun K hK => ?_) AllReadyH.nil
    go_simp
    refine ((hX1 u8 kb8.out).out).mono ?_
    rintro e u9 ⟨rfl,hn9⟩
    have kb9:=Lib.hid (kb8.out.trans (hn9.mono kb8.out.size))
    clear hn9
    go_wp2_with fail
    refine hK.out _ _ ?_ ?_
    ·(exact ⟨(kb9.out.cell (p:=⟨w.heap.size,3,none⟩) hDt).trans c3,(kb9.out.cell (p:=⟨w.heap.size,4,none⟩) hDt).trans c4⟩)
    clear hK K hd;intro hd
    try simp only[Act.put,S0,S1,S2]
    refine wpAnyH_ready (rs := [40]) (by kernel_rfl) (by simp) ?_
    refine AllReadyH.cons (tqi rfl) (fun K hK => ?_) AllReadyH.nil
    go_simp
    refine ((hX2 u9 kb9.out).out).mono ?_
    rintro e u10 ⟨rfl,hn10⟩
    have kb10:=Lib.hid (kb9.out.trans (hn10.mono kb9.out.size))
    clear hn10
    go_wp2_with fail
    refine hK.out _ _ ?_ ?_
    ·(exact ⟨(kb10.out.cell (p:=⟨w.heap.size,3,none⟩) hDt).trans c3,(kb10.out.cell (p:=⟨w.heap.size,4,none⟩) hDt).trans c4⟩)
    clear hK K hd;intro hd
    try simp only[Act.put,S0,S1,S2]
    refine wpAnyH_take (i:=41) (v := .bool true) (tqi rfl) (by kernel_rfl) (by kernel_rfl) (by kernel_rfl) (fun _ _ _ h=>h) (Or.inl ⟨by rfl,?_⟩) hd ?_
    ·(intro w' hSw;(try dsimp only at hSw);go_split_ands;go_simp;first|done|with_reducible rfl|simp)
    try simp only[Act.put,S0,S1,S2]
    refine tq0 42 hd ?_
    refine tq0 43 hd ?_
    try simp only[Act.put,S0,S1,S2]
    refine tq0 44 hd ?_
    refine tq0 45 hd ?_
    try simp only[Act.put,S0,S1,S2]
    refine tq0 46 hd ?_
    refine tq0 48 hd ?_
    try simp only[Act.put,S0,S1,S2]
    refine tq0 49 hd ?_
    refine tq0 50 hd ?_
    try simp only[Act.put,S0,S1,S2]
    refine wpAnyH_ready (rs := [47]) (by kernel_rfl) (by simp) ?_
    refine AllReadyH.cons (tqi rfl) (fun K hK => ?_) AllReadyH.nil
    go_simp
    refine ((hG1 u10 kb10.out).out).mono ?_
    rintro e u11 ⟨rfl,hn11⟩
    have kb11:=Lib.hid (kb10.out.trans (hn11.mono kb10.out.size))
    clear hn11
    go_wp2_with fail
    refine hK.out _ _ ?_ ?_
    ·(exact ⟨(kb11.out.cell (p:=⟨w.heap.size,3,none⟩) hDt).trans c3,(kb11.out.cell (p:=⟨w.heap.size,4,none⟩) hDt).trans c4⟩)
    clear hK K hd;intro hd
    try simp only[Act.put,S0,S1,S2]
    refine wpAnyH_ready (rs := [51]) (by kernel_rfl) (by simp) ?_
    refine AllReadyH.cons (tqi rfl) (fun K hK => ?_) AllReadyH.nil
    go_simp
    refine ((hG2 u11 kb11.out).out).mono ?_
    rintro e u12 ⟨rfl,hn12⟩
    have kb12:=Lib.hid (kb11.out.trans (hn12.mono kb11.out.size))
    clear hn12
    go_wp2_with fail
    refine hK.out _ _ ?_ ?_
    ·(exact ⟨(kb12.out.cell (p:=⟨w.heap.size,3,none⟩) hDt).trans c3,(kb12.out.cell (p:=⟨w.heap.size,4,none⟩) hDt).trans c4⟩)
    clear hK K hd;intro hd
    try simp only[Act.put,S0,S1,S2]
    refine wpAnyH_take (i:=52) (v := .bool true) (tqi rfl) (by kernel_rfl) (by kernel_rfl) (by kernel_rfl) (fun _ _ _ h=>h) (Or.inl ⟨by rfl,?_⟩) hd ?_
    ·(intro w' hSw;(try dsimp only at hSw);go_split_ands;go_simp;first|done|with_reducible rfl|simp)
    try simp only[Act.put,S0,S1,S2]
    refine tq0 53 hd ?_
    refine tq0 54 hd ?_
    try simp only[Act.put,S0,S1,S2]
    refine wpAnyH_done (by kernel_rfl) ?_ _
    refine NoPanic.normal ?_
    go_wp2
    go_ret
    exact ⟨rfl,hbt.trans (kb12.out.mono hbt.size)⟩
end
end Go.Proofs.YtalmnodgjjcefaaGreatDoor
