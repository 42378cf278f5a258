/- An index's On, walked. -/
import Derived.Test.YtalmnodgjjcefaaGreatDoorJIxB
import Derived.Test.YtalmnodgjjcefaaGreatDoorJIxA
import Derived.Test.YtalmnodgjjcefaaGreatDoorJIxC
import Derived.Test.YtalmnodgjjcefaaGreatDoorJLbC
import Derived.Test.YtalmnodgjjcefaaGreatDoorJFlA
import Derived.Test.YtalmnodgjjcefaaGreatDoorJTk
import Derived.Test.YtalmnodgjjcefaaGreatDoorJRwB
set_option maxRecDepth 100000
set_option maxHeartbeats 3200000
namespace Go.Proofs.YtalmnodgjjcefaaGreatDoor
section
open Go.RowKit Go.Maps KB
theorem els_pair {m:Nat→Prop}{w:World} : ∀(ls:List Item) (vs:List Value),vs.length=ls.length→(∀i (hi:i<ls.length),∃Ai ci,vs[i]?=some (.slice Ai (ls[i]).length ci)∧(ls[i]).length≤ci∧SeesM m w Ai (bv ls[i])) →
  ∃xs:List El,xs.map key=ls∧xs.map val=vs∧∀x∈xs,EOk m w x
 | [], [],_,_=>⟨[],rfl,rfl,by simp⟩
 | [],_ :: _,hl,_=>by simp at hl
 | _ :: _, [],hl,_=>by simp at hl
 | l :: ls,v :: vs,hl,h=>by
  obtain ⟨xs,h1,h2,h3⟩:=els_pair ls vs (by simpa using hl) fun i hi=>h (i+1) (by simp;omega)
  obtain ⟨A,c,e1,e2,e3⟩:=h 0 (by simp)
  simp at e1 e2 e3
  refine ⟨(l,(A,c)) :: xs,by rw[List.map_cons,h1];rfl,by rw[List.map_cons,h2,e1];rfl,fun x hx => ?_⟩
  rcases List.mem_cons.1 hx with rfl|hx
  ·exact ⟨e3,e2⟩
  ·exact h3 x hx
theorem OwnQ.els {q:Nat→Prop}{w:World}{base:Nat}{v:Value}{ls:List Item}(h:OwnQ q w base v ls):(v = .slice none 0 0∧ls = [])∨∃(g c:Nat) (xs:List El),v = .slice (some ⟨g,0,none⟩) ls.length c∧ls.length≤c∧xs.map key=ls∧CellsAt w g (xs.map val)∧q g∧g<w.heap.size∧∀x∈xs,EOk (fun k=>q k∧k≠g) w x:=by
 obtain ⟨vs,h1,h2,h3⟩:=h.out
 rcases h1.2 with ⟨rfl,hn⟩|⟨g,cap,cur,rfl,hb,hh,hc,hm,hx⟩
 ·exact .inl ⟨rfl,List.eq_nil_of_length_eq_zero hn⟩
 ·right
  have hvl:vs.length=ls.length:=by have:=h1.1;omega
  obtain ⟨xs,e1,e2,e3⟩:=els_pair (m:=fun k=>q k∧k≠g) (w:=w) ls vs hvl fun i hi=>by
   obtain ⟨Ai,ci,g1,g2,g3⟩:=h3 i hi
   exact ⟨Ai,ci,g1,g2,g3.toM.mono fun k e=>⟨e.1,fun e2=>e.2 (by rw[e2];rfl)⟩⟩
  refine ⟨g,cap,xs,rfl,hc,e1,⟨fun t u e=>⟨?_,?_⟩⟩,h2 g rfl,(World.ownsRow.lt h1 g rfl).2,e3⟩
  ·rw[e2] at e
   have ht:=(List.getElem?_eq_some_iff.1 e).1
   exact (World.ownsRow.cellAt h1 t (by omega)).trans e
  ·have:=(cells_of hh t).2
   exact this
theorem hasDel_nil {m:Nat→Prop}{w:World}{S:Nat}{s:SetM}(h:SetAt m w S s) (hF:SetFit s) :
  Calls Tryz.prog 93 #[.slice none 0 0,hasV S] w fun e w'=>e = .returned (.slice none 0 0)∧Below w.heap.size w w':=by
 have hI:=Lib.hid (hasIndex_any h hF none 0 0 [] rfl (Sees2.nil _ _ _) (by simp) (by omega))
 clear h hF
 go_enter Tryz.func93,Tryz.ntmps93
 go_wp2_with fail
 refine hI.out.mono ?_
 rintro e w1 ⟨hb1,⟨⟨rfl,hno⟩|⟨k,hk,rfl,hyes,hno⟩⟩⟩
 ·go_wp2
  go_ret
  exact ⟨rfl,hb1⟩
 ·simp at hk
structure IxStep (m:Nat→Prop) (w w' : World) (P:Nat) (s' : SetM):Prop where
 ix:IxAt m w' P s'
 turn:Turn m w w'
theorem IxAt.add {m:Nat→Prop}{w w' : World}{P S:Nat}{s s' : SetM}(h:IxAt m w P s) (hS:Box1 w P 87 (.pointer (some ⟨S,0,none⟩))) (st:SetStep (fun k=>m k∧k≠P) (fun k=>m k∧k≠P) w w' S s'):IxStep m w w' P s':=by
 have hmP:m P:=by obtain ⟨_,_,h2,_⟩:=h.out;exact h2
 exact ⟨⟨⟨S,hS.turn st.turn fun e=>e.2 rfl,hmP,st.set⟩,fun k e=>Nat.lt_of_lt_of_le (h.lt k e) st.turn.size⟩,st.turn.mono fun k _ e=>e.1⟩
theorem ixPut_any {m q:Nat→Prop}{w:World}{P base:Nat}{s:SetM}{v:Value}{ls:List Item}(h:IxAt m w P s) (hF:SetFit s) (hO:OwnQ q w base v ls) (hq:∀k,q k→k<w.heap.size∧¬ m k) (hl:∀x∈ls,badL x=false) (hroom:s.mem.length+ls.length≤500) (htot:s.total+ls.length≤900) :
  Calls Tryz.prog 48 #[.pointer (some ⟨P,0,none⟩),v] w fun e w'=>e = .returned (.int .i64 0)∧IxAt m w' P (s.adds ls)∧Turn (fun k=>m k∨q k) w w':=by
 obtain ⟨S,h1,h2,h3⟩:=h.out
 have c1:=h1.cell
 have hadds:=adds_filter s ls s (fun _ e=>e) hl hroom
 rcases hO.els with ⟨rfl,rfl⟩|⟨g,c,xs,rfl,hc,hxk,hC,hqg,hg,hE⟩
 ·have hD:=Lib.hid (hasDel_nil h3 hF)
  have HI:=Lib.hid h
  have hm:=hroom
  have hFr:=fun w1 (hb:Below w.heap.size w w1)=>Lib.hid (Ix_fresh (h.below hb))
  obtain ⟨ml,hml⟩:∃ml,s.mem.length=ml:=⟨_,rfl⟩
  rw[hml] at hFr hm
  have hm' : (ml:Int)≤500:=by simp at hm;omega
  clear h h3 hF hO hadds hl hroom htot hml hm
  unfold hasV at hD
  go_enter Tryz.func48,Tryz.ntmps48
  go_wp2_with fail
  refine hD.out.mono ?_
  rintro e w1 ⟨rfl,hb1⟩
  have hf1:=hFr w1 hb1
  clear hFr hD
  go_wp2_with fail
  refine hf1.out.mono ?_
  rintro e w2 ⟨rfl,rfl⟩
  go_wp2
  go_loopg [23] 0 (fun g i wr=>i = .int .i64 0∧wr=w1)
  case atStart=>exact ⟨rfl,rfl⟩
  case round =>
   obtain ⟨rfl,rfl⟩:=hrel
   go_wp2
   go_ret
   exact ⟨rfl,HI.out.below hb1,Turn.of_new hb1⟩
 ·subst hxk
  have hgm:¬ m g:=(hq g hqg).2
  have hll:xs.length=(xs.map key).length:=by rw[List.length_map]
  have hD:=Lib.hid (hasDel_any (q:=fun k=>q k∧k≠g) h3 hF g _ c xs hll hc hC (fun e=>hgm e.1) hg hE (fun k e=>⟨(hq k e.1).1,e.2⟩) (fun x hx=>by have:=bad_len (hl x.1 (List.mem_map.2 ⟨x,hx,rfl⟩));omega) (by omega))
  have hfil:(xs.filter fun y => !s.has y.1).map key=(xs.map key).filter fun x => !s.has x:=by rw[List.filter_map];rfl
  obtain ⟨ys,hys⟩:∃ys,(xs.filter fun y => !s.has y.1)=ys:=⟨_,rfl⟩
  rw[hys] at hD hfil
  have hysub:∀y∈ys,y∈xs:=fun y hy=>by rw[←hys] at hy;exact (List.mem_filter.1 hy).1
  have hylen:ys.length≤(xs.map key).length:=by rw[←hys,List.length_map];exact List.length_filter_le _ _
  rw[←hfil] at hadds
  have HI:=Lib.hid h
  have HB:=Lib.hid h1
  have HFx:=Lib.hid hF
  have HADD:=Lib.hid hadds
  have HYB:Hid (∀y∈ys,badL y.1=false):=fun y hy=>hl y.1 (List.mem_map.2 ⟨y,hysub y hy,rfl⟩)
  have HE:Hid (∀y∈ys,EOk (fun k=>q k∧k≠g) w y):=fun y hy=>hE y (hysub y hy)
  have hfr:=fun w1 (ht:Turn (fun k=>k=g) w w1)=>Lib.hid (Ix_fresh (h.turn ht fun k e e2=>hgm (e2 ▸ e)))
  have HQ:=Lib.hid hq
  obtain ⟨n,hn⟩:∃n,(xs.map key).length=n:=⟨_,rfl⟩
  obtain ⟨N,hN⟩:∃N,ys.length=N:=⟨_,rfl⟩
  obtain ⟨ml,hml⟩:∃ml,s.mem.length=ml:=⟨_,rfl⟩
  rw[hn] at hroom htot hD hc hylen ⊢
  rw[hN] at hD hylen
  rw[hml] at hroom hfr
  have HN:=Lib.hid hN
  have HML:=Lib.hid hml
  have hroom' : (ml:Int)+(N:Int)≤500:=by omega
  have HTOT:=Lib.hid htot
  have HQG:=Lib.hid hqg
  clear h h1 h3 hF hO hadds hl hC hE hll hfil hys hysub hn hN hml hq hqg htot
  unfold hasV at hD
  go_enter Tryz.func48,Tryz.ntmps48
  go_wp2_with fail
  refine hD.out.mono ?_
  rintro e w1 ⟨rfl,ht1,hcells⟩
  have hf1:=hfr w1 ht1
  have hz1:=ht1.size
  have HT1:=Lib.hid ht1
  have HC:=Lib.hid hcells
  clear hfr hD ht1 hcells
  go_wp2_with fail
  refine hf1.out.mono ?_
  rintro e w2 ⟨rfl,rfl⟩
  go_wp2
  go_loopg [23] N (fun gg i wr=>∃k:Nat,k+gg=N∧i = .int .i64 k∧IxStep m w1 wr P (s.adds ((ys.map key).take k)))
  case atStart=>exact ⟨0,by omega,rfl,HI.out.turn HT1.out (fun k e e2=>hgm (e2 ▸ e)),Turn.refl _ _⟩
  case round =>
   obtain ⟨k,hk,rfl,hst⟩:=hrel
   by_cases hlt:k<N
   ·have hky:k<ys.length:=by rw[HN.out];exact hlt
    have hym:ys[k]∈ys:=List.getElem_mem hky
    obtain ⟨S',j1,j2,j3⟩:=hst.ix.out
    have hzr:=hst.turn.size
    have cj:wr.cell? ⟨g,k,none⟩=some (val ys[k]):=(hst.turn.keep (p:=⟨g,k,none⟩) (by show g<w1.heap.size;omega) hgm).trans (HC.out k _ (by rw[List.getElem?_map,List.getElem?_eq_getElem hky];rfl))
    have cP:=j1.cell
    have hbb:=HYB.out _ hym
    have hEk:SeesM (fun k=>q k∧k≠g) wr (ys[k]).2.1 (bv (ys[k]).1):=((HE.out _ hym).sees.keep (Kept.of_turn HT1.out fun k e=>⟨(HQ.out k e.1).1,e.2⟩)).keep (Kept.of_turn hst.turn fun k e=>⟨by have:=(HQ.out k e.1).1;omega,(HQ.out k e.1).2⟩)
    have hok:=adds_ok (l:=(ys.map key).take k) (s:=s) (n:=s.total) HFx.out.ok (Nat.le_refl _)
    have htl:((ys.map key).take k).length≤k:=by rw[List.length_take];omega
    have hfit:SetFit (s.adds ((ys.map key).take k)):=⟨hok.1,by have:=hok.2;have:=HTOT.out;omega⟩
    have hml:=adds_mem_len ((ys.map key).take k) s
    have hlen:=bad_len hbb
    have hA:=Lib.hid (add_any _ wr S' _ j3 hfit (ys[k]).2.1 (ys[k]).1.length (ys[k]).2.2 (ys[k]).1 rfl (by omega) (hEk.sees fun k e=>by have:=(HQ.out k e.1).1;omega))
    have herr:=(add_ok (s:=s.adds ((ys.map key).take k)) hbb (by have:=HML.out;omega)).1
    rw[herr] at hA
    have hnext:s.adds ((ys.map key).take (k+1))=((s.adds ((ys.map key).take k)).add (ys[k]).1).1:=by
     rw[List.take_succ_eq_append_getElem (by rw[List.length_map];exact hky),adds_append,List.getElem_map];rfl
    have HNX:=Lib.hid hnext
    have HST:=Lib.hid hst
    have HJ1:=Lib.hid j1
    unfold val at cj
    obtain ⟨y,hy⟩:∃y,ys[k]=y:=⟨_,rfl⟩
    rw[hy] at cj hA HNX
    obtain ⟨ly,hly⟩:∃ly,y.1.length=ly:=⟨_,rfl⟩
    rw[hly] at cj hA
    clear hst j1 j3 hEk hok hfit hml hlen herr hnext hy hly hym hbb htl
    go_wp2_with fail
    refine hA.out.mono ?_
    rintro e w3 ⟨rfl,st⟩
    have hst3:=HST.out.ix.add HJ1.out st
    have HS3:=Lib.hid hst3
    clear hst3 hA
    go_wp2
    go_roundg (N - (k+1))
    case measure=>omega
    case rel=>exact ⟨k+1,by omega,by go_num,by rw[HNX.out];exact HS3.out.ix,HST.out.turn.trans HS3.out.turn⟩
   ·have hkN:k=N:=by omega
    have HST:=Lib.hid hst
    clear hst
    go_wp2
    go_ret
    refine ⟨rfl,?_,(HT1.out.mono fun k _ e => .inr (e ▸ HQG.out)).trans (HST.out.turn.mono fun k _ e => .inl e)⟩
    have:=HST.out.ix
    rw[List.take_of_length_le (by rw[List.length_map,HN.out];omega),HADD.out] at this
    exact this
end
section
open Go.RowKit Go.Maps
theorem ownQ_one {w0 w:World}{A:Option Addr}{x:Item}{n c:Nat}(hw:w0.heap.size≤w.heap.size) (hn:x.length=n) (hc:n≤c) (hx:SeesU (fun k=>w0.heap.size≤k∧k<w.heap.size) w A (bv x)) :
  OwnQ (fun k=>w0.heap.size≤k∧k<(w.alloc (.cells #[.slice A n c] 48)).heap.size) (w.alloc (.cells #[.slice A n c] 48)) w0.heap.size (.slice (some ⟨w.heap.size,0,none⟩) 1 1) [x]:=by
 subst hn
 have ho:=own_new w w0.heap.size hw 48 1 1 [.slice A x.length c] rfl (by simp[maxLen]) #[.slice A x.length c] rfl
 refine ⟨[.slice A x.length c],ho,fun k e => ?_,fun i hi => ?_⟩
 ·have:=World.ownsRow.lt ho k e
  exact this
 ·match i,hi with
  | 0,_ =>
   refine ⟨A,c,rfl,hc,(hx.keep (Kept.of_below (B:=w.heap.size) ((Below.refl _ w).alloc (Nat.le_refl _) _) fun k e=>e.2)).mono fun k e=>⟨⟨e.1,by simp;omega⟩,fun e2 => ?_⟩⟩
   simp[Value.ownBlock] at e2
   omega
theorem drop_any {m:Nat→Prop}{w:World}{P:Nat}{s:SetM}(h:IxAt m w P s) (hF:SetFit s) (id:Int) (hroom:s.mem.length+1≤500) (htot:s.total+1≤900) :
  Calls Tryz.prog 18 #[.pointer (some ⟨P,0,none⟩),.int .i64 id] w fun e w'=>e = .returned (.int .i64 ((s.dropOf id).2:Nat))∧IxStep m w w' P (s.dropOf id).1:=by
 have hL:=Lib.hid (labels_any h hF id)
 have HI:=Lib.hid h
 have HF:=Lib.hid hF
 cases ho:s.labOf id with
 | none =>
  have hd:s.dropOf id=(s,60):=by unfold SetM.dropOf;rw[ho];rfl
  rw[ho] at hL
  rw[hd]
  clear h hF hd ho
  go_enter Tryz.func18,Tryz.ntmps18
  go_wp2_with fail
  refine hL.out.mono ?_
  rintro e w1 ⟨A1,n1,c1,rfl, -, -, -,hb1⟩
  go_wp2
  go_ret
  exact ⟨rfl,HI.out.below hb1,Turn.of_new hb1⟩
 | some l =>
  have hd:s.dropOf id=(s.adds [makeR ⟨5, [],lb0,0,id⟩],0):=by unfold SetM.dropOf;rw[ho];rfl
  have hid:1≤id∧id≤1073741824:=by
   unfold SetM.labOf at ho
   split at ho
   ·assumption
   ·cases ho
  have hmay:MayR ⟨5, [],lb0,0,id⟩:=may_5.2 hid
  have hbad:=make_bad hmay
  rw[ho] at hL
  rw[hd]
  obtain ⟨Y,hY⟩:∃Y,makeR ⟨5, [],lb0,0,id⟩=Y:=⟨_,rfl⟩
  rw[hY] at hbad ⊢
  have HY:=Lib.hid hY
  have hMk:=fun w1=>Lib.hid (MakeRow_any none 0 0 [] rfl 5 0 id ⟨#[]⟩ ⟨#[]⟩ w1 ⟨.inl rfl⟩ (by omega) (by simp) (by decide))
  have HM:=Lib.hid hmay
  have HB:=Lib.hid hbad
  have HR:=Lib.hid hroom
  have HT:=Lib.hid htot
  clear h hF hd ho hmay hbad hroom htot hY
  go_enter Tryz.func18,Tryz.ntmps18
  go_wp2_with fail
  refine hL.out.mono ?_
  rintro e w1 ⟨A1,n1,c1,rfl, -, -, -,hb1⟩
  have hMk1:=hMk w1
  clear hMk hL
  go_wp2_with fail
  refine hMk1.out.mono ?_
  rintro e w2 ⟨v2,k2,rfl,hb2,hres⟩
  obtain ⟨rfl,hown⟩:k2=0∧OwnB w2 w1.heap.size v2 (makeR ⟨5, [],lb0,0,id⟩):=by
   rcases hres with ⟨_,h1,h2⟩|⟨h1,_⟩
   ·exact ⟨h1,h2⟩
   ·exact absurd HM.out h1
  rw[HY.out] at hown
  obtain ⟨A2,c2,rfl,hc2, -, -, -⟩:=hown.open_
  have hse:=ownB_seesU hown
  obtain ⟨ly,hly⟩:∃ly,Y.length=ly:=⟨_,rfl⟩
  rw[hly] at hc2 ⊢
  have hz1:=hb1.size
  have hz2:=hb2.size
  have hQ:=ownQ_one (w0:=w) (w:=w2) (by omega) hly hc2 (hse.mono fun k e=>⟨by omega,e.2⟩)
  have hb02:Below w.heap.size w (w2.alloc (.cells #[.slice A2 ly c2] 48)):=(hb1.trans (hb2.mono hz1)).alloc (by omega) _
  have hP:=Lib.hid (ixPut_any (HI.out.below hb02) HF.out hQ (fun j e=>⟨e.2,fun e2=>by have:=HI.out.lt j e2;omega⟩) (fun x hx=>by rw[List.mem_singleton.1 hx];exact HB.out) (by have:=HR.out;simpa using this) (by have:=HT.out;simpa using this))
  have HB02:=Lib.hid hb02
  clear hMk1 hres hown hse hQ hly hb02
  go_wp2_with fail
  refine hP.out.mono ?_
  rintro e w3 ⟨rfl,hix,ht⟩
  have HIX:=Lib.hid hix
  clear hP hix
  go_wp2_with fail
  go_ret
  exact ⟨rfl,HIX.out,((Turn.of_new (T:=m) HB02.out).trans' ht (fun j hj e=>by rcases e with e|e;exact e;omega))⟩
structure Live (N:Nat) (m:Nat→Prop) (w:World) (P:Nat) (s:SetM) (X:List Ser):Prop where
 ix:IxAt m w P s
 ok:SetOk s
 tot:s.total≤N
 inv:Inv s.all X
 few:X.length≤N
section
variable {N : Nat} {m : Nat → Prop} {w w' : World} {P : Nat} {s : SetM} {X : List Ser}
theorem Live.fit (h:Live N m w P s X) (hN:N≤900):SetFit s:=⟨h.ok,Nat.le_trans h.tot hN⟩
theorem Live.below (h:Live N m w P s X) (hb:Below w.heap.size w w'):Live N m w' P s X:=⟨h.ix.below hb,h.ok,h.tot,h.inv,h.few⟩
theorem Live.mem (h:Live N m w P s X):s.mem.length≤N:=by have:=h.tot;unfold SetM.total at this;omega
theorem Live.more {M:Nat}(h:Live N m w P s X) (hM:N≤M):Live M m w P s X:=⟨h.ix,h.ok,Nat.le_trans h.tot hM,h.inv,Nat.le_trans h.few hM⟩
end
end
section
open Go.RowKit Go.Maps
theorem idX_nonneg (X:List Ser) (c:List Lb):0≤idX X c:=by unfold idX;split<;>omega
def AddIs (m:Nat→Prop) (w:World) (P:Nat) (s' : SetM) (id:Int) (er:Nat) (e:Ending) (w' : World):Prop:=e = .returned (.tuple #[.int .i64 id,.int .i64 (er:Nat)])∧IxStep m w w' P s'
theorem next_any {m:Nat→Prop}{w:World}{P:Nat}{s:SetM}(h:IxAt m w P s) (hF:SetFit s):Calls Tryz.prog 17 #[.pointer (some ⟨P,0,none⟩)] w (Gives w (.int .i64 s.next)) :=
 next_of (m:=m) (s:=s) (L:=rowsP s.all [2]) ⟨.inl ⟨P,rfl,h,hF,rfl⟩⟩
theorem add_bad {m:Nat→Prop}{w:World}{P:Nat}{s:SetM}(h:IxAt m w P s) (A:Option Addr) (n c:Nat) (ls:List Lb) (hn:ls.length=n) (hS:Sees w w.heap.size A (lv ls)) (hlen:n≤1000) (hsz:∀x∈ls,x.1.size≤9223372036854775807) (day:Int) (hbad:¬ MayL ls∨day<0∨2147483647<day) :
  Calls Tryz.prog 12 #[.pointer (some ⟨P,0,none⟩),.slice A n c,.int .i64 day] w (AddIs m w P s 0 (s.addOf ls day).2.2):=by
 have hC:=Lib.hid (Canon_any A n c ls hn w hS (by omega) hsz)
 have HI:=Lib.hid h
 have HR:Hid ((¬ MayL ls∧(s.addOf ls day).2.2=70)∨(MayL ls∧(day<0∨2147483647<day)∧(s.addOf ls day).2.2=1)):=by
  unfold Hid SetM.addOf
  by_cases hm:MayL ls
  ·right
   have hd:day<0∨2147483647<day:=hbad.resolve_left (fun e=>e hm)
   rw[if_neg (by simpa using hm),if_pos hd]
   exact ⟨hm,hd,rfl⟩
  ·left
   rw[if_pos hm]
   exact ⟨hm,rfl⟩
 obtain ⟨er,her⟩:∃er,(s.addOf ls day).2.2=er:=⟨_,rfl⟩
 rw[her] at HR ⊢
 clear h hn hS hlen hsz hbad her
 go_enter Tryz.func12,Tryz.ntmps12
 go_wp2_with fail
 refine hC.out.mono ?_
 rintro e w1 ⟨v,k,rfl,hb1,⟨hm,rfl,hown⟩|⟨hm,rfl,rfl⟩⟩
 ·obtain ⟨hd,her⟩:(day<0∨2147483647<day)∧er=1:=by
   rcases HR.out with h|h
   ·exact absurd hm h.1
   ·exact h.2
  have HER:=Lib.hid her
  clear hm hown her
  rcases hd with hd|hd
  ·go_wp2
   go_ret2
   exact ⟨by rw[HER.out];rfl,HI.out.below hb1,Turn.of_new hb1⟩
  ·have hd0:0≤day:=by omega
   go_wp2
   go_ret2
   exact ⟨by rw[HER.out];rfl,HI.out.below hb1,Turn.of_new hb1⟩
 ·have her:er=70:=by
   rcases HR.out with h|h
   ·exact h.2
   ·exact absurd h.1 hm
  have HER:=Lib.hid her
  clear hm her
  go_wp2
  go_ret2
  exact ⟨by rw[HER.out];rfl,HI.out.below hb1,Turn.of_new hb1⟩
theorem one_day (w:World) (b:Nat) (hb:w.heap.size=b) (d:Int):Sees (w.alloc (.cells #[.int .i64 d] 3)) (w.alloc (.cells #[.int .i64 d] 3)).heap.size (some ⟨b,0,none⟩) (dv [d]):=by
 subst hb
 exact ⟨.inr ⟨_,rfl,by simp,fun j u hu=>by match j,hu with|0,hu=>(simp[dv] at hu;subst hu;rw[Addr.add_lit,World.cell?_alloc_at _ _ _ _ rfl];rfl)⟩⟩
theorem add_fresh {m:Nat→Prop}{w:World}{P:Nat}{s:SetM}{X:List Ser}(h:IxAt m w P s) (hF:SetFit s) (hI:Inv s.all X) (hX:X.length<1000) (A:Option Addr) (n c:Nat) (ls:List Lb) (hn:ls.length=n) (hS:Sees w w.heap.size A (lv ls)) (hlen:n≤1000) (hsz:∀x∈ls,x.1.size≤9223372036854775807) (day:Int)
  (hm:MayL ls) (hd0:0≤day) (hd1:day≤2147483647) (hid:s.idOf ls=0) (hroom:s.mem.length+14≤500) (htot:s.total+14≤900) :
  Calls Tryz.prog 12 #[.pointer (some ⟨P,0,none⟩),.slice A n c,.int .i64 day] w (AddIs m w P (s.adds (s.wantOf ls day)) s.next 0):=by
 have hC:=Lib.hid (Canon_any A n c ls hn w hS (by omega) hsz)
 have hwl:=hI.want_len (day:=day) hm
 have hwb:=hI.want_bad (day:=day) hX hm hd0 hd1
 have hwm:=hI.want_may (day:=day) hX hm hd0 hd1
 have hwd:s.wantOf ls day=uniqL ahead (itemsOf (sortN ls) s.next (wants (sortN ls) [day])):=by unfold SetM.wantOf;rw[if_pos hid]
 have hnx:=hI.next
 rw[←hnx] at hwm
 have hnx1:s.next≤1001:=by omega
 obtain ⟨nx,hnxe⟩:∃nx,s.next=nx:=⟨_,rfl⟩
 obtain ⟨Wn,hWn⟩:∃Wn,s.wantOf ls day=Wn:=⟨_,rfl⟩
 rw[hWn] at hwl hwb hwd ⊢
 have hid1:s.idOf ls=0:=hid
 have hId:=fun w1 (hb:Below w.heap.size w w1)=>by
  have:=id_any (h.below hb) hF A n c ls hn ((hS.below hb).more hb.size) (by omega) hsz
  rw[hid1] at this
  exact Lib.hid this
 have hNx:=fun w1 (hb:Below w.heap.size w w1)=>by
  have:=next_any (h.below hb) hF
  rw[hnxe] at this
  exact Lib.hid this
 rw[hnxe] at hwm hwd ⊢
 have HI:=Lib.hid h
 have HF:=Lib.hid hF
 have HM:=Lib.hid hm
 have hs6:(sortN ls).length≤6:=by rw[sortN_length];exact hm.few
 have hssz:∀x∈sortN ls,x.1.size≤9223372036854775807:=fun x hx=>by
  have:=hm.sort.ok x hx
  unfold okL nameB at this
  simp only[Bool.and_eq_true,decide_eq_true_eq] at this
  omega
 obtain ⟨cs,hcs⟩:∃cs,sortN ls=cs:=⟨_,rfl⟩
 rw[hcs] at hwm hwd hs6 hssz
 have HCS:=Lib.hid hcs
 have HWB:=Lib.hid hwb
 have HWL:=Lib.hid hwl
 have HWM:=Lib.hid hwm
 have HWD:=Lib.hid hwd
 have HROOM:=Lib.hid hroom
 have HTOT:=Lib.hid htot
 have HSZ:=Lib.hid hssz
 clear h hF hI hX hn hS hlen hsz hm hid hid1 hroom htot hwl hwb hwm hwd hnx hnxe hWn hcs hssz hnx1
 go_enter Tryz.func12,Tryz.ntmps12
 go_wp2_with fail
 refine hC.out.mono ?_
 rintro e w1 ⟨v,k,rfl,hb1,hres⟩
 obtain ⟨rfl,hown⟩:k=0∧OwnL w1 w.heap.size v (sortN ls):=by
  rcases hres with ⟨_,h1,h2⟩|⟨h1,_⟩
  ·exact ⟨h1,h2⟩
  ·exact absurd HM.out h1
 rw[HCS.out] at hown
 obtain ⟨Ac,cc,rfl,hcc,hcm,hsc⟩:=hown.open_
 have hId1:=hId w1 hb1
 obtain ⟨nl,hnl⟩:∃nl,cs.length=nl:=⟨_,rfl⟩
 rw[hnl] at hs6 hcc ⊢
 have HNL:=Lib.hid hnl
 have HSC:=Lib.hid hsc
 clear hId hres hown hsc hnl hC
 go_wp2_with fail
 refine hId1.out.mono ?_
 rintro e w2 ⟨rfl,hb2⟩
 have hb12:Below w.heap.size w w2:=hb1.trans (hb2.mono hb1.size)
 have hNx2:=hNx w2 hb12
 clear hId1 hNx
 go_wp2_with fail
 refine hNx2.out.mono ?_
 rintro e w3 ⟨rfl,hb3⟩
 have hb13:Below w1.heap.size w1 w3:=hb2.trans (hb3.mono hb2.size)
 have hs3:=HSC.out.below hb13
 have hz13:=hb13.size
 have hAl:=Lib.hid (AllRow_any Ac (some ⟨w3.heap.size,0,none⟩) nl cc 1 1 cs [day] HNL.out rfl nx (w3.alloc (.cells #[.int .i64 day] 3)) ((hs3.alloc hz13 _).more (by simp;omega)) (one_day w3 w3.heap.size rfl day) (by omega) (by omega) HSZ.out)
 clear hNx2 hs3
 go_wp2_with fail
 refine hAl.out.mono ?_
 rintro e w4 ⟨A4,n4,c4,k4,L4,rfl,hb4',hL4,hQ4,hres⟩
 obtain ⟨rfl,rfl⟩:k4=0∧L4=Wn:=by
  rcases hres with ⟨_,h1,h2⟩|⟨h1,_⟩
  ·exact ⟨h1,by rw[h2,HWD.out]⟩
  ·exact absurd HWM.out h1
 have hb4:Below w3.heap.size w3 w4:=((Below.refl _ w3).alloc (Nat.le_refl _) _).trans (hb4'.mono (by simp))
 have hb14:Below w1.heap.size w1 w4:=hb13.trans (hb4.mono hz13)
 have HQ4:=Lib.hid (hQ4.mono (q':=fun j=>w.heap.size≤j∧j<w4.heap.size) fun j e=>⟨by have:=e.1;simp at this;have:=hb1.size;omega,e.2⟩)
 have hs4:=HSC.out.below hb14
 have hz1:=hb1.size
 have hz14:=hb14.size
 have HS4:=Lib.hid hs4
 clear hAl hres hQ4 hb4' hs4
 go_wp2_with fail
 go_loopg [10,56] nl (fun g u10 i wr=>∃k:Nat,k+g=nl∧i = .int .i64 k∧u10 = .slice A4 n4 c4∧Below w4.heap.size w4 wr)
 case atStart=>exact ⟨0,by omega,rfl,rfl,Below.refl _ _⟩
 case round =>
  obtain ⟨k,hk,rfl,rfl,hbr⟩:=hrel
  by_cases hlt:k<nl
  ·have hkl:k<cs.length:=by have:=HNL.out;omega
   obtain ⟨ad,rfl,hadB,p0,p1⟩:=(HS4.out.below (hbr.mono (by omega))).lb hkl
   have hx1:=HSZ.out _ (List.getElem_mem hkl)
   obtain ⟨x1,e1⟩:∃x1,(cs[k]).1=x1:=⟨_,rfl⟩
   obtain ⟨x2,e2⟩:∃x2,(cs[k]).2=x2:=⟨_,rfl⟩
   rw[e1] at p0 hx1
   rw[e2] at p1
   obtain ⟨W5,hW5⟩:∃W5,wr.alloc (.cells #[.string x1,.string x2] 83)=W5:=⟨_,rfl⟩
   have hb5:Below wr.heap.size wr W5:=by rw[←hW5];exact (Below.refl _ wr).alloc (Nat.le_refl _) _
   have q0:W5.cell? ⟨wr.heap.size,0,none⟩=some (.string x1):=by rw[←hW5,World.cell?_alloc_at _ _ _ _ rfl];rfl
   have q1:W5.cell? ⟨wr.heap.size,1,none⟩=some (.string x2):=by rw[←hW5,World.cell?_alloc_at _ _ _ _ rfl];rfl
   have hMk:=Lib.hid (MakeRow_any none 0 0 [] rfl 4 day nx x1 x2 W5 ⟨.inl rfl⟩ (by omega) (by simp) hx1)
   have hzr:=hbr.size
   clear e1 e2 hx1
   go_wp2_with fail
   refine hMk.out.mono ?_
   rintro e w6 ⟨v6,k6,rfl,hb6,hres⟩
   have hb46:Below w4.heap.size w4 w6:=hbr.trans ((hb5.mono hzr).trans (hb6.mono (by have:=hb5.size;omega)))
   clear hMk hres
   go_wp2_with fail
   go_roundg (nl - (k+1))
   case measure=>omega
   case rel=>exact ⟨k+1,by omega,by go_num,rfl,hb46⟩
  ·have hkn:k=nl:=by omega
   have hb14r:Below w.heap.size w wr:=hb1.trans ((hb14.mono hz1).trans (hbr.mono (by omega)))
   have hQr:=HQ4.out.keep (w':=wr) (Kept.of_below hbr fun j e=>e.2)
   have hzr:=hbr.size
   have hP:=Lib.hid (ixPut_any (HI.out.below hb14r) HF.out hQr (fun j e=>⟨by omega,fun e2=>by have:=HI.out.lt j e2;omega⟩) HWB.out (by have:=HWL.out;have:=HROOM.out;omega) (by have:=HWL.out;have:=HTOT.out;omega))
   clear hQr
   go_wp2_with fail
   refine hP.out.mono ?_
   rintro e w7 ⟨rfl,hix,ht⟩
   have HIX:=Lib.hid hix
   clear hP hix
   go_wp2_with fail
   go_ret2
   exact ⟨rfl,HIX.out,((Turn.of_new (T:=m) hb14r).trans' ht (fun j hj e=>by rcases e with e|e;exact e;omega))⟩
theorem append_below {w w' : World}{base:Nat}{e:TypeId}{n:Nat}{v v' : Value}{xs:List Value}(h:w.ownsRow base e 1 v n xs) (hb:base≤w.heap.size) (hon:Onto w w' v v'):Below base w w':=hon.below hb fun k hk=>(World.ownsRow.lt h k hk).1
theorem ownQ_more {w0 w wa w' : World}{v v' : Value}{ls:List Item}{vs:List Value}{x:Item}{Ax:Option Addr}{cx:Nat}(hw:w0.heap.size≤w.heap.size) (hb:Below w.heap.size w wa) (h2:∀k,v.ownBlock=some k→w0.heap.size≤k∧k<w.heap.size)
  (h3:∀i (hi:i<ls.length),∃Ai ci,vs[i]?=some (.slice Ai (ls[i]).length ci)∧(ls[i]).length≤ci∧SeesU (fun k=>(w0.heap.size≤k∧k<w.heap.size)∧v.ownBlock≠some k) w Ai (bv ls[i])) (hvs:vs.length=ls.length)
  (hc:x.length≤cx) (hx:SeesU (fun k=>w.heap.size≤k∧k<wa.heap.size) wa Ax (bv x)) (hown:w'.ownsRow w0.heap.size 48 1 v' (ls.length+1) (vs ++ [.slice Ax x.length cx])) (hon:Onto wa w' v v') :
  OwnQ (fun k=>w0.heap.size≤k∧k<w'.heap.size) w' w0.heap.size v' (ls ++ [x]):=by
 have hs:=hb.size
 have hon2:=hon.size
 have h3' : ∀i (hi:i<ls.length),∃Ai ci,vs[i]?=some (.slice Ai (ls[i]).length ci)∧(ls[i]).length≤ci∧SeesU (fun k=>(w0.heap.size≤k∧k<w.heap.size)∧v.ownBlock≠some k) wa Ai (bv ls[i]):=fun i hi=>by
  obtain ⟨Ai,ci,g1,g2,g3⟩:=h3 i hi
  exact ⟨Ai,ci,g1,g2,g3.keep (Kept.of_below hb fun k e=>e.1.2)⟩
 refine (OwnQ.put (q:=fun k=>w0.heap.size≤k∧k<w.heap.size) x Ax cx (fun k e=>by omega) h2 h3' hvs hc hx (fun k e=>⟨e.2,fun e2=>by have:=(h2 k e2).2;omega⟩) hown hon).mono fun k e => ?_
 have hlt:=World.ownsRow.lt hown
 rcases e with e|e|e
 ·omega
 ·omega
 ·exact hlt k e
theorem add_old {m:Nat→Prop}{w:World}{P:Nat}{s:SetM}{X:List Ser}(h:IxAt m w P s) (hF:SetFit s) (hI:Inv s.all X) (hX:X.length<1000) (A:Option Addr) (n c:Nat) (ls:List Lb) (hn:ls.length=n) (hS:Sees w w.heap.size A (lv ls)) (hlen:n≤1000) (hsz:∀x∈ls,x.1.size≤9223372036854775807) (day:Int)
  (hm:MayL ls) (hd0:0≤day) (hd1:day≤2147483647) (hid:s.idOf ls≠0) (hroom:s.mem.length+14≤500) (htot:s.total+14≤900) :
  Calls Tryz.prog 12 #[.pointer (some ⟨P,0,none⟩),.slice A n c,.int .i64 day] w (AddIs m w P (s.adds (s.wantOf ls day)) (s.idOf ls) 0):=by
 have hC:=Lib.hid (Canon_any A n c ls hn w hS (by omega) hsz)
 have hwl:=hI.want_len (day:=day) hm
 have hwb:=hI.want_bad (day:=day) hX hm hd0 hd1
 have hwd:s.wantOf ls day=(sortN ls).map fun x=>makeR ⟨4, [],x,day,s.idOf ls⟩:=by unfold SetM.wantOf;rw[if_neg hid]
 have hnn:0≤s.idOf ls:=by rw[hI.idOf hm];exact idX_nonneg _ _
 have hle:s.idOf ls≤1000:=by
  rw[hI.idOf hm]
  unfold idX
  split
  ·rename_i i he
   have:=(List.getElem?_eq_some_iff.1 (idX_some he).choose_spec.1).1
   omega
  ·omega
 have hId:=fun w1 (hb:Below w.heap.size w w1)=>Lib.hid (id_any (h.below hb) hF A n c ls hn ((hS.below hb).more hb.size) (by omega) hsz)
 obtain ⟨Wn,hWn⟩:∃Wn,s.wantOf ls day=Wn:=⟨_,rfl⟩
 obtain ⟨nx,hnx⟩:∃nx,s.idOf ls=nx:=⟨_,rfl⟩
 rw[hWn] at hwl hwb hwd ⊢
 rw[hnx] at hid hwd hnn hle ⊢
 rw[hnx] at hId
 have hpos:0<nx:=by omega
 have HI:=Lib.hid h
 have HF:=Lib.hid hF
 have HM:=Lib.hid hm
 have hs6:(sortN ls).length≤6:=by rw[sortN_length];exact hm.few
 have hok:∀x∈sortN ls,okL x=true:=hm.sort.ok
 have hssz:∀x∈sortN ls,x.1.size≤9223372036854775807:=fun x hx=>by
  have:=hok x hx
  unfold okL nameB at this
  simp only[Bool.and_eq_true,decide_eq_true_eq] at this
  omega
 obtain ⟨cs,hcs⟩:∃cs,sortN ls=cs:=⟨_,rfl⟩
 rw[hcs] at hwd hs6 hssz hok
 have HCS:=Lib.hid hcs
 have HWB:=Lib.hid hwb
 have HWL:=Lib.hid hwl
 have HWD:=Lib.hid hwd
 have HROOM:=Lib.hid hroom
 have HTOT:=Lib.hid htot
 have HSZ:=Lib.hid hssz
 have HOK:=Lib.hid hok
 obtain ⟨ti,hti,hy0,hy1,hy2⟩:=info_parts KB.einfo
 clear h hF hI hX hn hS hlen hsz hm hid hroom htot hwl hwb hwd hnx hWn hcs hssz hok
 go_enter Tryz.func12,Tryz.ntmps12
 go_wp2_with fail
 refine hC.out.mono ?_
 rintro e w1 ⟨v,k,rfl,hb1,hres⟩
 obtain ⟨rfl,hown⟩:k=0∧OwnL w1 w.heap.size v (sortN ls):=by
  rcases hres with ⟨_,h1,h2⟩|⟨h1,_⟩
  ·exact ⟨h1,h2⟩
  ·exact absurd HM.out h1
 rw[HCS.out] at hown
 obtain ⟨Ac,cc,rfl,hcc,hcm,hsc⟩:=hown.open_
 have hId1:=hId w1 hb1
 obtain ⟨nl,hnl⟩:∃nl,cs.length=nl:=⟨_,rfl⟩
 rw[hnl] at hs6 hcc ⊢
 have HNL:=Lib.hid hnl
 have HSC:=Lib.hid hsc
 clear hId hres hown hsc hnl hC
 go_wp2_with fail
 refine hId1.out.mono ?_
 rintro e w2 ⟨rfl,hb2⟩
 have hz1:=hb1.size
 have hz2:=hb2.size
 have HS2:=Lib.hid ((HSC.out.below hb2).more hz2)
 have hb02:Below w.heap.size w w2:=hb1.trans (hb2.mono hz1)
 clear hId1
 go_wp2_with fail
 go_loopg [10,56] nl (fun g u10 i wr=>∃k:Nat,k+g=nl∧i = .int .i64 k∧Below w2.heap.size w2 wr∧OwnQ (fun j=>w2.heap.size≤j∧j<wr.heap.size) wr w2.heap.size u10 ((cs.take k).map fun x=>makeR ⟨4, [],x,day,nx⟩))
 case atStart=>exact ⟨0,by omega,rfl,Below.refl _ _,OwnQ.nil _ _ _⟩
 case round =>
  obtain ⟨k,hk,rfl,hbr,hQ⟩:=hrel
  have hzr:=hbr.size
  by_cases hlt:k<nl
  ·have hkl:k<cs.length:=by have:=HNL.out;omega
   obtain ⟨ad,rfl,hadB,p0,p1⟩:=(HS2.out.below hbr).lb hkl
   have hx1:=HSZ.out _ (List.getElem_mem hkl)
   have hmk:MayR ⟨4, [],cs[k],day,nx⟩:=may_4 (HOK.out _ (List.getElem_mem hkl)) (by omega) (by omega) hd0 hd1
   have htk:(cs.take (k+1)).map (fun x=>makeR ⟨4, [],x,day,nx⟩)=(cs.take k).map (fun x=>makeR ⟨4, [],x,day,nx⟩) ++ [makeR ⟨4, [],cs[k],day,nx⟩]:=by rw[List.take_succ_eq_append_getElem hkl,List.map_append];rfl
   have hlk:((cs.take k).map fun x=>makeR ⟨4, [],x,day,nx⟩).length=k:=by rw[List.length_map,List.length_take];omega
   obtain ⟨x1,e1⟩:∃x1,(cs[k]).1=x1:=⟨_,rfl⟩
   obtain ⟨x2,e2⟩:∃x2,(cs[k]).2=x2:=⟨_,rfl⟩
   have e12:cs[k]=(x1,x2):=by rw[←e1, ←e2]
   rw[e1] at p0 hx1
   rw[e2] at p1
   rw[e12] at hmk htk
   obtain ⟨W5,hW5⟩:∃W5,wr.alloc (.cells #[.string x1,.string x2] 83)=W5:=⟨_,rfl⟩
   have hb5:Below wr.heap.size wr W5:=by rw[←hW5];exact (Below.refl _ wr).alloc (Nat.le_refl _) _
   have q0:W5.cell? ⟨wr.heap.size,0,none⟩=some (.string x1):=by rw[←hW5,World.cell?_alloc_at _ _ _ _ rfl];rfl
   have q1:W5.cell? ⟨wr.heap.size,1,none⟩=some (.string x2):=by rw[←hW5,World.cell?_alloc_at _ _ _ _ rfl];rfl
   have hMk:=Lib.hid (MakeRow_any none 0 0 [] rfl 4 day nx x1 x2 W5 ⟨.inl rfl⟩ (by omega) (by simp) hx1)
   have HTK:=Lib.hid htk
   have HMK:=Lib.hid hmk
   obtain ⟨LS,hLS⟩:∃LS,((cs.take k).map fun x=>makeR ⟨4, [],x,day,nx⟩)=LS:=⟨_,rfl⟩
   rw[hLS] at hQ HTK hlk
   obtain ⟨vs,o1,o2,o3⟩:=hQ.out
   have hvl:vs.length=LS.length:=by have:=o1.1;omega
   obtain ⟨Au,cu,hu, -⟩:=hQ.open_
   subst hu
   rw[hlk] at o1 ⊢
   have O3:=Lib.hid o3
   have HLK:=Lib.hid hlk
   have HVL:=Lib.hid hvl
   clear e1 e2 e12 hx1 htk hmk hQ o3 hLS hlk hvl
   go_wp2_with fail
   refine hMk.out.mono ?_
   rintro e w6 ⟨v6,k6,rfl,hb6,hres⟩
   obtain ⟨rfl,hown6⟩:k6=0∧OwnB w6 W5.heap.size v6 (makeR ⟨4, [],(x1,x2),day,nx⟩):=by
    rcases hres with ⟨_,h1,h2⟩|⟨h1,_⟩
    ·exact ⟨h1,h2⟩
    ·exact absurd HMK.out h1
   obtain ⟨Y,hY⟩:∃Y,makeR ⟨4, [],(x1,x2),day,nx⟩=Y:=⟨_,rfl⟩
   rw[hY] at hown6 HTK
   obtain ⟨A6,c6,rfl,hc6, -, -, -⟩:=hown6.open_
   have hseeU:=ownB_seesU hown6
   have hbr6:Below wr.heap.size wr w6:=hb5.trans (hb6.mono (by have:=hb5.size;omega))
   have hz6:=hbr6.size
   have o6:=ownsRow_kept o1 fun j e=>hbr6.block j (World.ownsRow.lt o1 j e).2
   have HY6:=Lib.hid (hseeU.mono (m':=fun j=>wr.heap.size≤j∧j<w6.heap.size) fun j e=>⟨by have:=hb5.size;omega,e.2⟩)
   obtain ⟨ly,hly⟩:∃ly,Y.length=ly:=⟨_,rfl⟩
   rw[hly] at hc6 ⊢
   have HLY:=Lib.hid hly
   clear hMk hres hown6 hseeU hY hly q0 q1 p0 p1
   go_wp2_with (at_builtin;(refine wpList_append_v rfl (.tmp 73) (.tmp 75) 47 rfl 48 ti _ 1 24 Tryz.underlying47 hti hy0 hy1 hy2 rfl (by omega) w2.heap.size _ k vs (by rfl) (World.ownsRow.alloc o6 _) (w6.heap.size+1) (some ⟨w6.heap.size,0,none⟩) 1 1 [.slice A6 ly c6] (by rfl) rfl (sees_cell w6 _ rfl _ _) (fun u hu=>by simp at hu;subst hu;rfl) (by simp only[maxLen];omega) (by omega) (by simp;omega) ?_;intro v7 w7 hown7 hon7))
   have hbw7:Below w2.heap.size w2 w7:=hbr.trans ((hbr6.mono hzr).trans (((Below.refl _ w6).alloc (by omega) _).trans (append_below (World.ownsRow.alloc o6 _) (by simp;omega) hon7)))
   go_roundg (nl - (k+1))
   case measure=>omega
   case rel =>
    refine ⟨k+1,by omega,by go_num,hbw7,?_⟩
    rw[HTK.out]
    refine ownQ_more (w:=wr) (wa:=w6.alloc (.cells #[.slice A6 ly c6] 48)) hzr (hbr6.alloc hz6 _) o2 O3.out HVL.out (by rw[HLY.out];exact hc6) ((HY6.out.keep (Kept.of_below (B:=w6.heap.size) ((Below.refl _ w6).alloc (Nat.le_refl _) _) fun j e=>e.2)).mono fun j e=>⟨e.1,by simp;omega⟩) (by rw[HLK.out,HLY.out];exact hown7) (by rw[HLK.out];exact hon7)
  ·have hkn:k=nl:=by omega
   have hb0r:Below w.heap.size w wr:=hb02.trans (hbr.mono (by omega))
   rw[List.take_of_length_le (by have:=HNL.out;omega), ←HWD.out] at hQ
   have hP:=Lib.hid (ixPut_any (HI.out.below hb0r) HF.out hQ (fun j e=>⟨e.2,fun e2=>by have:=HI.out.lt j e2;omega⟩) HWB.out (by have:=HWL.out;have:=HROOM.out;omega) (by have:=HWL.out;have:=HTOT.out;omega))
   clear hQ
   go_wp2_with fail
   refine hP.out.mono ?_
   rintro e w7 ⟨rfl,hix,ht⟩
   have HIX:=Lib.hid hix
   clear hP hix
   go_wp2_with fail
   go_ret2
   exact ⟨rfl,HIX.out,((Turn.of_new (T:=m) hb0r).trans' ht (fun j hj e=>by rcases e with e|e;exact e;omega))⟩
end
section
open Go.RowKit Go.Shelf
structure FindAt (m:Nat→Prop) (W:World) (s:SetM) (Bx Bf:Nat) (P:Nat) (A:Option Addr) (n c:Nat) (fs:List Flt):Prop where
 x:Box1 W Bx 29 (.pointer (some ⟨P,0,none⟩))
 f:Box1 W Bf 39 (.slice A n c)
 ix:IxAt m W P s
 see:Sees W W.heap.size A (fv fs)
theorem FindAt.below {m:Nat→Prop}{W W' : World}{s:SetM}{Bx Bf P n c:Nat}{A:Option Addr}{fs:List Flt}(h:FindAt m W s Bx Bf P A n c fs) (hb:Below W.heap.size W W'):FindAt m W' s Bx Bf P A n c fs :=
 ⟨h.x.below hb h.x.lt,h.f.below hb h.f.lt,h.ix.below hb,(h.see.below hb).more hb.size⟩
theorem find1_any {m:Nat→Prop}{W:World}{s:SetM}{Bx Bf P n c:Nat}{A:Option Addr}{fs:List Flt}(h:FindAt m W s Bx Bf P A n c fs) (hF:SetFit s) (hn:fs.length=n) (hn4:n≤100) (y:RowT) (hy:RowAsk W y) (hl:y.1.labels.length≤1000) :
  Calls Tryz.prog 54 #[rowVal y.1 y.2.1 y.2.2,.pointer (some ⟨Bf,0,none⟩),.pointer (some ⟨Bx,0,none⟩)] W (Gives W (.bool (s.fitR fs y.1))):=by
 obtain ⟨Wr,hWr⟩:∃Wr,W.alloc (.cells #[.int .i64 y.1.kind,.slice y.2.1 y.1.labels.length y.2.2,.string y.1.label.1,.string y.1.label.2,.int .i64 y.1.day,.int .i64 y.1.id] 92)=Wr:=⟨_,rfl⟩
 have hbr:Below W.heap.size W Wr:=by rw[←hWr];exact (Below.refl _ W).alloc (Nat.le_refl _) _
 have h6:rowSix Wr W.heap.size y:=by rw[←hWr];exact SixAt.new _ _ _ _ _ _ _ _
 have hz:Wr.heap.size=W.heap.size+1:=by rw[←hWr];simp
 have hr:=h.below hbr
 have cx:=hr.x.cell
 have cf:=hr.f.cell
 have hA:=Lib.hid (AllF_any A n c fs hn y.2.1 y.1.labels.length y.2.2 y.1.labels rfl Wr hr.see ((hy.see.below hbr).more hbr.size) (by omega) (by omega))
 have hG:=fun W2 (hb:Below Wr.heap.size Wr W2)=>Lib.hid (gone_any (hr.ix.below hb) hF y.1.id)
 have HX:=Lib.hid hr.x
 have hfit:s.fitR fs y.1=(allB fs y.1.labels && !s.gone y.1.id):=rfl
 have HFT:=Lib.hid hfit
 obtain ⟨a,ha⟩:∃a,allB fs y.1.labels=a:=⟨_,rfl⟩
 rw[ha] at hA HFT
 obtain ⟨yi,hyi⟩:∃yi,y.1.id=yi:=⟨_,rfl⟩
 obtain ⟨ll,hll⟩:∃ll,y.1.labels.length=ll:=⟨_,rfl⟩
 obtain ⟨v0,v1,v2,v3,v4,v5, -⟩:=h6
 unfold rowVal
 rw[hyi] at v5 hG HFT hWr ⊢
 rw[hll] at v1 hA hWr ⊢
 clear h hF hn hy hl hr hfit ha hyi hll
 cases a with
 | false =>
  go_enter Tryz.func54,Tryz.ntmps54
  go_wp2_with fail
  refine hA.out.mono ?_
  rintro e w2 ⟨rfl,hb2⟩
  go_wp2
  go_ret
  exact ⟨by rw[HFT.out];rfl,hbr.trans (hb2.mono (by omega))⟩
 | true =>
  go_enter Tryz.func54,Tryz.ntmps54
  go_wp2_with fail
  refine hA.out.mono ?_
  rintro e w2 ⟨rfl,hb2⟩
  have hG2:=hG w2 hb2
  have cx2:=(HX.out.below hb2 HX.out.lt).cell
  have v5':=(hb2.cell (p:=⟨W.heap.size,5,none⟩) (by show W.heap.size<Wr.heap.size;omega)).trans v5
  clear hG v5
  go_wp2_with fail
  refine hG2.out.mono ?_
  rintro e w3 ⟨rfl,hb3⟩
  go_wp2
  go_ret
  exact ⟨by rw[HFT.out];rfl,(hbr.trans (hb2.mono (by omega))).trans (hb3.mono (by have:=hb2.size;omega))⟩
theorem on1_any {W:World}{Ba Bb:Nat}{a b:Int}(ca:W.cell? ⟨Ba,0,none⟩=some (.int .i64 a)) (cb:W.cell? ⟨Bb,0,none⟩=some (.int .i64 b)) (hBa:Ba<W.heap.size) (hBb:Bb<W.heap.size) (y:RowT) :
  Calls Tryz.prog 51 #[rowVal y.1 y.2.1 y.2.2,.pointer (some ⟨Ba,0,none⟩),.pointer (some ⟨Bb,0,none⟩)] W (Gives W (.bool (onB a b y.1))):=by
 obtain ⟨Wr,hWr⟩:∃Wr,W.alloc (.cells #[.int .i64 y.1.kind,.slice y.2.1 y.1.labels.length y.2.2,.string y.1.label.1,.string y.1.label.2,.int .i64 y.1.day,.int .i64 y.1.id] 92)=Wr:=⟨_,rfl⟩
 have hbr:Below W.heap.size W Wr:=by rw[←hWr];exact (Below.refl _ W).alloc (Nat.le_refl _) _
 have h6:rowSix Wr W.heap.size y:=by rw[←hWr];exact SixAt.new _ _ _ _ _ _ _ _
 have ca2:=(hbr.cell (p:=⟨Ba,0,none⟩) hBa).trans ca
 have cb2:=(hbr.cell (p:=⟨Bb,0,none⟩) hBb).trans cb
 have hfit:onB a b y.1=(decide (a≤y.1.day) && decide (y.1.day≤b)):=by unfold onB;simp
 have HFT:=Lib.hid hfit
 obtain ⟨yd,hyd⟩:∃yd,y.1.day=yd:=⟨_,rfl⟩
 obtain ⟨v0,v1,v2,v3,v4,v5, -⟩:=h6
 unfold rowVal
 rw[hyd] at v4 HFT hWr ⊢
 clear ca cb hfit hyd
 by_cases h1:a≤yd
 ·rw[decide_eq_true h1] at HFT
  go_enter Tryz.func51,Tryz.ntmps51
  go_wp2
  go_ret
  exact ⟨by rw[HFT.out];simp,hbr⟩
 ·rw[decide_eq_false h1] at HFT
  have h1' : yd<a:=by omega
  go_enter Tryz.func51,Tryz.ntmps51
  go_wp2
  go_ret
  exact ⟨by rw[HFT.out];simp,hbr⟩
theorem find2_any {m:Nat→Prop}{W:World}{s:SetM}{Bx Bf Bi P n c:Nat}{A:Option Addr}{fs:List Flt}(h:FindAt m W s Bx Bf P A n c fs) (hF:SetFit s) (hn:fs.length=n) (hn4:n≤100)
  (hi:Box1 W Bi 98 (.func (.func 54) #[] #[.pointer (some ⟨Bf,0,none⟩),.pointer (some ⟨Bx,0,none⟩)])) (hlab:∀id l,s.labOf id=some l→l.length≤1000) (y:RowT) :
  Calls Tryz.prog 59 #[rowVal y.1 y.2.1 y.2.2,.pointer (some ⟨Bx,0,none⟩),.pointer (some ⟨Bi,0,none⟩)] W (Gives W (.bool (s.fitT fs y.1))):=by
 obtain ⟨Wr,hWr⟩:∃Wr,W.alloc (.cells #[.int .i64 y.1.kind,.slice y.2.1 y.1.labels.length y.2.2,.string y.1.label.1,.string y.1.label.2,.int .i64 y.1.day,.int .i64 y.1.id] 92)=Wr:=⟨_,rfl⟩
 have hbr:Below W.heap.size W Wr:=by rw[←hWr];exact (Below.refl _ W).alloc (Nat.le_refl _) _
 have h6:rowSix Wr W.heap.size y:=by rw[←hWr];exact SixAt.new _ _ _ _ _ _ _ _
 have hz:Wr.heap.size=W.heap.size+1:=by rw[←hWr];simp
 have hr:=h.below hbr
 have cx:=hr.x.cell
 have hir:=hi.below hbr hi.lt
 have hL:=Lib.hid (labels_any hr.ix hF y.1.id)
 have hfit:s.fitT fs y.1=((s.labOf y.1.id).isSome && (allB fs ((s.labOf y.1.id).getD []) && !s.gone y.1.id)):=rfl
 have HFT:=Lib.hid hfit
 have HR:=Lib.hid hr
 have HLB:=Lib.hid hlab
 have HFS:=Lib.hid hF
 obtain ⟨yi,hyi⟩:∃yi,y.1.id=yi:=⟨_,rfl⟩
 obtain ⟨v0,v1,v2,v3,v4,v5, -⟩:=h6
 unfold rowVal
 rw[hyi] at v5 hL HFT hWr ⊢
 have eg:=enters_of Tryz.func54 (by kernel_rfl) rfl
 clear h hF hr hfit hyi hi hlab
 cases ho:s.labOf yi with
 | none =>
  rw[ho] at hL HFT
  go_enter Tryz.func59,Tryz.ntmps59
  go_wp2_with fail
  refine hL.out.mono ?_
  rintro e w2 ⟨Al,nl,cl,rfl,hll,hlc,hls,hb2⟩
  go_wp2
  go_ret
  exact ⟨by rw[HFT.out];rfl,hbr.trans (hb2.mono (by omega))⟩
 | some l =>
  rw[ho] at hL HFT
  have hl1:=HLB.out yi l ho
  go_enter Tryz.func59,Tryz.ntmps59
  go_wp2_with fail
  refine hL.out.mono ?_
  rintro e w2 ⟨Al,nl,cl,rfl,hll,hlc,hls,hb2⟩
  have h1:=Lib.hid (find1_any (HR.out.below hb2) HFS.out hn hn4 (⟨0,l,lb0,0,yi⟩,(Al,cl)) ⟨hls,by show l.length≤cl;rw[show l.length=nl from hll];exact hlc⟩ hl1)
  have hll' : l.length=nl:=hll
  unfold rowVal at h1
  dsimp only at h1
  rw[hll'] at h1
  have ci:=(hir.below hb2 hir.lt).cell
  have v5':=(hb2.cell (p:=⟨W.heap.size,5,none⟩) (by show W.heap.size<Wr.heap.size;omega)).trans v5
  clear hL v5 hls hll hll'
  go_wp2_with fail
  refine h1.out.mono ?_
  rintro e w3 ⟨rfl,hb3⟩
  go_wp2
  go_ret
  exact ⟨by rw[HFT.out];rfl,(hbr.trans (hb2.mono (by omega))).trans (hb3.mono (by have:=hb2.size;omega))⟩
end
section
open Go.RowKit Go.Shelf
attribute [local go_sem] Oper.semAt_some
theorem may_few {r:RowP}(h:MayR r):r.labels.length≤6:=by
 rcases h.kinds with ⟨_,b,_⟩|⟨_,b,_⟩|⟨_,b,_⟩|⟨_,b,_⟩
 ·exact b.few
 all_goals (rw[b];simp)
theorem lab_few {s:SetM}{id:Int}{l:List Lb}(h:s.labOf id=some l):l.length≤1000:=by
 unfold SetM.labOf at h
 split at h
 ·cases e:rowsP s.all ([2]++four id.toNat) with
  | nil=>rw[e] at h;cases h
  | cons r t =>
   rw[e] at h
   injection h with h
   have h6:r.labels.length≤6:=may_few (mem_rowsP.1 (show r∈rowsP s.all ([2]++four id.toNat) by rw[e];simp)).1
   rw[←h]
   exact Nat.le_trans h6 (by omega)
 ·cases h
def FindIs (w:World) (l:List Int) (er:Nat) (e:Ending) (w' : World):Prop :=
 ∃A n c,e = .returned (.tuple #[.slice A n c,.int .i64 (er:Nat)])∧Below w.heap.size w w'∧((er=0∧n=l.length∧n≤c∧SeesM (fun k=>w.heap.size≤k∧k<w'.heap.size) w' A (KI.iv l))∨(er≠0∧A=none∧n=0∧c=0))
theorem exact_atF:∀(fs:List Flt) (h:exactN fs<fs.length),exactF fs[exactN fs]=true
 | f :: t,h=>by
  by_cases e:exactF f=true
  ·have:exactN (f :: t)=0:=by unfold exactN;rw[if_pos e]
   simp only[this,List.getElem_cons_zero]
   exact e
  ·have h2:exactN (f :: t)=exactN t+1:=by rw[exactN,if_neg e]
   have h' : exactN t<t.length:=by rw[h2] at h;simpa using h
   simp only[h2,List.getElem_cons_succ]
   exact exact_atF t h'
theorem okL_of {f:Flt}(h1:badF f=false) (h2:exactF f=true):okL (f.name,f.value)=true:=by
 unfold badF at h1
 unfold exactF at h2
 rw[Bool.or_eq_false_iff,Bool.not_eq_false',decide_eq_false_iff_not] at h1
 rw[Bool.and_eq_true,Bool.and_eq_true,Bool.not_eq_true',Bool.not_eq_true',Bool.not_eq_true'] at h2
 unfold okL
 rw[h1.1,Bool.true_and,Bool.and_eq_true,decide_eq_true_eq,decide_eq_true_eq]
 refine ⟨?_,by show f.value.size≤16;omega⟩
 have h3:=h2.2.2
 rw[Lib.toList_data] at h3
 show 1≤f.value.size
 have:f.value.data.toList ≠ []:=by intro e;rw[e] at h3;cases h3
 have h4:=List.length_pos_iff.2 this
 rwa [Array.length_toList] at h4
theorem find_any {m:Nat→Prop}{w:World}{P:Nat}{s:SetM}(h:IxAt m w P s) (hF:SetFit s) (A:Option Addr) (n c:Nat) (fs:List Flt) (hn:fs.length=n) (hfit:FitF fs) (hS:Sees w w.heap.size A (fv fs)) (hn4:n≤100) :
  Calls Tryz.prog 16 #[.pointer (some ⟨P,0,none⟩),.slice A n c] w (FindIs w (s.find fs) (checkF fs)):=by
 obtain ⟨Wa,hWa⟩:∃Wa,w.alloc (.cells #[.pointer (some ⟨P,0,none⟩)] 29)=Wa:=⟨_,rfl⟩
 obtain ⟨Wb,hWb⟩:∃Wb,Wa.alloc (.cells #[.slice A n c] 39)=Wb:=⟨_,rfl⟩
 have hza:Wa.heap.size=w.heap.size+1:=by rw[←hWa];simp
 have hzb:Wb.heap.size=w.heap.size+1+1:=by rw[←hWb];simp[hza]
 have hbb:Below w.heap.size w Wb:=by rw[←hWb, ←hWa];exact ((Below.refl _ w).alloc (Nat.le_refl _) _).alloc (by simp) _
 have hFA:FindAt m Wb s w.heap.size (w.heap.size+1) P A n c fs:=⟨by rw[←hWb, ←hWa];exact (Box1.new _ _ _).alloc _,by rw[←hWb, ←hza];exact Box1.new _ _ _,h.below hbb,(hS.below hbb).more hbb.size⟩
 have cx:=hFA.x.cell
 have cf:=hFA.f.cell
 have hC:=Lib.hid (CheckF_any A n c fs hn hfit Wb hFA.see (by omega))
 have HFA:=Lib.hid hFA
 have HF:=Lib.hid hF
 have HN:=Lib.hid hn
 have HFIT:=Lib.hid hfit
 obtain ⟨ck,hck⟩:∃ck,checkF fs=ck:=⟨_,rfl⟩
 rw[hck] at hC ⊢
 have HCK:=Lib.hid hck
 clear h hF hS hfit hFA hck hn
 by_cases h0:ck=0
 ·subst h0
  have hrest:∀w1,Below Wb.heap.size Wb w1→True:=fun _ _=>trivial
  go_enter Tryz.func16,Tryz.ntmps16
  go_wp2_with fail
  refine hC.out.mono ?_
  rintro e w1 ⟨rfl,hb1⟩
  have hs1:=hb1.size
  obtain ⟨W0,hW0⟩:∃W0,w1.alloc (.cells #[.nilFunc] 98)=W0:=⟨_,rfl⟩
  obtain ⟨W2,hW2⟩:∃W2,W0.setCell ⟨w1.heap.size,0,none⟩ (.func (.func 54) #[] #[.pointer (some ⟨w.heap.size+1,0,none⟩),.pointer (some ⟨w.heap.size,0,none⟩)])=W2:=⟨_,rfl⟩
  have nb:=NewBox.of hW0 hW2
  have cc1:=nb.cell
  have ff1:=nb.frozen
  have hF2:=HFA.out.below (hb1.trans (nb.below.mono (by omega)))
  have cx2:=hF2.x.cell
  have cf2:=hF2.f.cell
  have hE:=Lib.hid (Exact_any A n c fs HN.out W2 hF2.see (by omega))
  have HF2:=Lib.hid hF2
  have hz2:=nb.size
  clear hC cx cf hF2
  go_wp2_with fail
  refine hE.out.mono ?_
  rintro e w3 ⟨rfl,hb3⟩
  have hs3:=hb3.size
  have hF3:=HF2.out.below hb3
  have bi3:=nb.box.below hb3 (by omega)
  have cx3:=hF3.x.cell
  have cf3:=hF3.f.cell
  have ci3:=bi3.cell
  have HF3:=Lib.hid hF3
  have hb03:Below w.heap.size w w3:=hbb.trans ((hb1.mono (by omega)).trans ((nb.below.mono (by omega)).trans (hb3.mono (by omega))))
  clear hE cx2 cf2 cc1 ff1 hF3
  by_cases hk:exactN fs<fs.length
  ·have hz:exactZ fs=(exactN fs:Int):=by unfold exactZ;rw[if_pos hk]
   have hfd:s.find fs=idsP (rowsP s.all ([3]++escL (fs[exactN fs].name,fs[exactN fs].value))) (s.fitT fs):=by unfold SetM.find;rw[dif_pos hk]
   have hex:=exact_atF fs hk
   have hbad:badF fs[exactN fs]=false:=by
    have h1:=HCK.out
    unfold checkF at h1
    split at h1
    ·cases h1
    ·split at h1
     ·cases h1
     ·rename_i h2
      rw[Bool.not_eq_true,List.any_eq_false] at h2
      simpa using h2 _ (List.getElem_mem hk)
   have hok:=okL_of hbad hex
   have hnsz:fs[exactN fs].name.size≤9223372036854775807:=HFIT.out _ (List.getElem_mem hk)
   obtain ⟨ad,rfl,hadB,p0,p1, -, -⟩:=HF3.out.see.fl hk
   rw[hz]
   have hkn:exactN fs<n:=by have:=HN.out;omega
   obtain ⟨k0,hk0⟩:∃k0,exactN fs=k0:=⟨_,rfl⟩
   obtain ⟨nm,hnm⟩:∃nm,fs[exactN fs].name=nm:=⟨_,rfl⟩
   obtain ⟨vl,hvl⟩:∃vl,fs[exactN fs].value=vl:=⟨_,rfl⟩
   rw[hnm] at p0 hok hfd hnsz
   rw[hvl] at p1 hok hfd
   rw[hk0] at p0 p1 hkn ⊢
   have hah:=ah_tag (x:=(nm,vl)) hok 0
   have HFD:=Lib.hid hfd
   have hA:=Lib.hid ((Ahead_any none 0 0 [] rfl 3 0 0 nm vl w3.drew ⟨.inl rfl⟩ (by omega) (by simp) hnsz).mono fun _ _ e=>e.same)
   rw[hah] at hA
   have hkneg:¬ (k0:Int)<0:=by omega
   have hkz:(0:Int)≤(k0:Int):=by omega
   have hkz2:(k0:Int)<(n:Int):=by omega
   clear hz hfd hex hbad hok hk hk0 hnm hvl hah hnsz
   go_wp2_with fail
   refine wp_region_noPanic ?_
   refine wp_region_held_drew (S:=fun w'=>w'.cell? ⟨w.heap.size+1,0,none⟩=some (.slice (some ad) n c)∧w'.cell? (ad.add (k0*4))=some (.string nm)∧w'.cell? ⟨(ad.add (k0*4)).block,(ad.add (k0*4)).off+1,none⟩=some (.string vl)) (by kernel_rfl) ?_ (fun hHeld => ?_)
   ·(exact ⟨cf3,p0,p1⟩)
   refine tq0 0 hHeld ?_
   try simp only[Act.put,S0,S1,S2]
   refine tq0 1 hHeld ?_
   try simp only[Act.put,S0,S1,S2]
   refine tq0 2 hHeld ?_
   try simp only[Act.put,S0,S1,S2]
   refine tq0 3 hHeld ?_
   try simp only[Act.put,S0,S1,S2]
   refine tq0 4 hHeld ?_
   try simp only[Act.put,S0,S1,S2]
   refine tq0 5 hHeld ?_
   try simp only[Act.put,S0,S1,S2]
   refine tq0 6 hHeld ?_
   try simp only[Act.put,S0,S1,S2]
   refine tq0 7 hHeld ?_
   try simp only[Act.put,S0,S1,S2]
   refine tq0 8 hHeld ?_
   try simp only[Act.put,S0,S1,S2]
   refine tq0 9 hHeld ?_
   try simp only[Act.put,S0,S1,S2]
   refine tq0 10 hHeld ?_
   try simp only[Act.put,S0,S1,S2]
   refine tq0 11 hHeld ?_
   try simp only[Act.put,S0,S1,S2]
   refine wpAnyH_ready (rs := [12]) (by kernel_rfl) (by simp) ?_
   refine AllReadyH.cons (tqi rfl) (fun K hK => ?_) AllReadyH.nil
   go_simp
   refine hA.out.mono ?_
   rintro e w4 ⟨A4,n4,c4,rfl,hb4',hl4,hc4,hs4⟩
   have hb4:Below w3.heap.size w3 w4:=below_undrew hb4'
   go_wp2_with fail
   refine hK.out _ _ ?_ ?_
   ·(exact ⟨(hb4.cell (p:=⟨w.heap.size+1,0,none⟩) (by show w.heap.size+1<w3.heap.size;omega)).trans cf3,(hb4.cell (by rw[add_block];exact hadB)).trans p0,(hb4.cell (p:=⟨(ad.add (k0*4)).block,(ad.add (k0*4)).off+1,none⟩) (by show (ad.add (k0*4)).block<_;rw[add_block];exact hadB)).trans p1⟩)
   clear hK K hHeld;intro hHeld
   try simp only[Act.put,S0,S1,S2]
   refine tq0 13 hHeld ?_
   try simp only[Act.put,S0,S1,S2]
   refine tq0 14 hHeld ?_
   try simp only[Act.put,S0,S1,S2]
   refine tq0 15 hHeld ?_
   try simp only[Act.put,S0,S1,S2]
   refine tq0 16 hHeld ?_
   try simp only[Act.put,S0,S1,S2]
   refine tq0 17 hHeld ?_
   try simp only[Act.put,S0,S1,S2]
   refine wpAnyH_done (by kernel_rfl) ?_ _
   refine NoPanic.normal ?_
   have hF4:=HF3.out.below hb4
   have bi4:=bi3.below hb4 (by omega)
   have hz4:=hb4.size
   have cx4:=hF4.x.cell
   have HF4:=Lib.hid hF4
   have hT:=Lib.hid (told_any (some ⟨P,0,none⟩) A4 n4 c4 w4)
   have hsq:=seqRows_ix hF4.ix HF.out (fun k=>k<w4.heap.size) (fun k e=>e) (fun k e=>hF4.ix.lt k e) _ A4 n4 c4 hs4.toM hl4
   obtain ⟨L,hL⟩:∃L,rowsP s.all ([3]++escL (nm,vl))=L:=⟨_,rfl⟩
   have hLf:L.length≤1000:=by
    rw[←hL]
    refine Nat.le_trans (List.length_filterMap_le _ _) (Nat.le_trans (List.length_filter_le _ _) (Nat.le_trans (all_len s) ?_))
    have:=HF.out.total;omega
   rw[hL] at hsq
   have HLL:=Lib.hid hL
   clear hHeld hA hs4 hl4 hF4 cf3 p0 p1 cx3 hL
   go_wp2_with fail
   refine hT.out.mono ?_
   rintro e w5 ⟨rfl,hw5⟩
   have tb:=ToldBox.of hw5
   have hz5:=tb.size
   have hb45:=tb.below
   have hask:AsksRow w5 59 #[.pointer (some ⟨w.heap.size,0,none⟩),.pointer (some ⟨w1.heap.size,0,none⟩)] L (s.fitT fs):=fun W y hW hy ha=>find2_any ((HF4.out.below hb45).below hW) HF.out HN.out hn4 ((bi4.below hb45 (by omega)).below hW (by omega)) (fun _ _=>lab_few) y
   have hseq:=fun W hW=>hsq W w4.heap.size (w4.heap.size+1) 4 (hb45.trans (hW.mono hb45.size)) (tb.b1.below hW (by omega)).cell (tb.b2.below hW (by omega)).cell (by have:=hW.size;omega) (by have:=hW.size;omega)
   have hI:=Lib.hid (ids_any (w:=w5) (enters_of Tryz.func59 (by kernel_rfl) rfl) hseq (fun k e=>by omega) (by omega) hLf hask)
   clear hT hw5 hask hseq hsq
   go_wp2_with fail
   refine hI.out.mono ?_
   rintro e w6 ⟨A6,c6,rfl,hc6,hs6,hb6⟩
   go_wp2_with fail
   go_ret2
   have hb36:Below w3.heap.size w3 w6:=(hb4.trans (hb45.mono hz4)).trans (hb6.mono (by omega))
   have hbs:=hb03.size
   exact ⟨A6,_,c6,rfl,hb03.trans (hb36.mono hbs),.inl ⟨rfl,by rw[HFD.out,HLL.out],hc6,by rw[HFD.out,HLL.out];exact hs6.mono fun k e=>⟨by omega,e.2⟩⟩⟩
  ·have hz:exactZ fs = -1:=by unfold exactZ;rw[if_neg hk]
   have hfd:s.find fs=idsP (rowsP s.all [2]) (s.fitR fs):=by unfold SetM.find;rw[dif_neg hk]
   have HFD:=Lib.hid hfd
   rw[hz]
   clear hz hfd hk
   have hO:=Lib.hid (of_any (some ⟨P,0,none⟩) 2 (by omega) w3.drew)
   have hsd:w3.drew.heap.size=w3.heap.size:=rfl
   rw[hsd] at hO
   go_wp2_with fail
   refine wp_region_noPanic ?_
   refine wp_region_held_drew (S:=fun w'=>w'.cell? ⟨w.heap.size,0,none⟩=some (.pointer (some ⟨P,0,none⟩))∧w'.cell? ⟨w1.heap.size,0,none⟩=some (.func (.func 54) #[] #[.pointer (some ⟨w.heap.size+1,0,none⟩),.pointer (some ⟨w.heap.size,0,none⟩)])) (by kernel_rfl) ?_ (fun hHeld => ?_)
   ·(exact ⟨cx3,ci3⟩)
   refine tq0 0 hHeld ?_
   try simp only[Act.put,S0,S1,S2]
   refine tq0 2 hHeld ?_
   try simp only[Act.put,S0,S1,S2]
   refine wpAnyH_ready (rs := [1]) (by kernel_rfl) (by simp) ?_
   refine AllReadyH.cons (tqi rfl) (fun K hK => ?_) AllReadyH.nil
   go_simp
   refine hO.out.mono ?_
   rintro e w4 ⟨rfl,ob⟩
   have hb4:Below w3.heap.size w3 w4:=below_undrew ob.below
   have hz4:=ob.size
   rw[hsd] at hz4
   have hkeep4:w4.cell? ⟨w.heap.size,0,none⟩=some (.pointer (some ⟨P,0,none⟩))∧w4.cell? ⟨w1.heap.size,0,none⟩=some (.func (.func 54) #[] #[.pointer (some ⟨w.heap.size+1,0,none⟩),.pointer (some ⟨w.heap.size,0,none⟩)]):=⟨((HF3.out.below hb4).x).cell,(bi3.below hb4 (by omega)).cell⟩
   have hask:AsksRow w4 54 #[.pointer (some ⟨w.heap.size+1,0,none⟩),.pointer (some ⟨w.heap.size,0,none⟩)] (rowsP s.all [2]) (s.fitR fs):=fun W y hW hy ha=>find1_any ((HF3.out.below hb4).below hW) HF.out HN.out hn4 y ha (by have:=may_few (mem_rowsP.1 hy).1;omega)
   have hasks:Asks m w3 (some ⟨P,0,none⟩) s [UInt8.ofNat 2] (rowsP s.all [2]):=⟨.inl ⟨P,rfl,HF3.out.ix,HF.out,rfl⟩⟩
   have hseq:=fun W hW=>of_seq hasks (below_drew (Below.refl _ _)) ob 4 W hW
   have hI:=Lib.hid (ids_any (w:=w4) (enters_of Tryz.func54 (by kernel_rfl) rfl) hseq (fun k e=>by rcases e with e|e<;>omega) (by omega) hasks.few hask)
   clear hask hasks hseq
   clear hO
   go_wp2_with fail
   refine hK.out _ _ ?_ ?_
   ·(exact hkeep4)
   clear hK K hHeld;intro hHeld
   try simp only[Act.put,S0,S1,S2]
   refine wpAnyH_ready (rs := [3]) (by kernel_rfl) (by simp) ?_
   refine AllReadyH.cons (tqi rfl) (fun K hK => ?_) AllReadyH.nil
   go_simp
   refine hI.out.mono ?_
   rintro e w5 ⟨A5,c5,rfl,hc5,hs5,hb5⟩
   go_wp2_with fail
   refine hK.out _ _ ?_ ?_
   ·(exact ⟨((HF3.out.below hb4).below hb5).x.cell,((bi3.below hb4 (by omega)).below hb5 (by omega)).cell⟩)
   clear hK K hHeld;intro hHeld
   try simp only[Act.put,S0,S1,S2]
   refine tq0 4 hHeld ?_
   try simp only[Act.put,S0,S1,S2]
   refine tq0 5 hHeld ?_
   try simp only[Act.put,S0,S1,S2]
   refine wpAnyH_done (by kernel_rfl) ?_ _
   refine NoPanic.normal ?_
   go_wp2_with fail
   go_ret2
   have hb35:Below w3.heap.size w3 w5:=hb4.trans (hb5.mono hb4.size)
   exact ⟨A5,_,c5,rfl,hb03.trans (hb35.mono hb03.size),.inl ⟨rfl,by rw[HFD.out],hc5,by rw[HFD.out];exact hs5.mono fun k e=>⟨by have:=hb03.size;omega,e.2⟩⟩⟩
 ·go_enter Tryz.func16,Tryz.ntmps16
  go_wp2_with fail
  refine hC.out.mono ?_
  rintro e w1 ⟨rfl,hb1⟩
  have h0' : ¬ (ck:Int)=0:=by omega
  go_wp2
  go_ret2
  exact ⟨none,0,0,rfl,hbb.trans (hb1.mono (by omega)),.inr ⟨h0,rfl,rfl,rfl⟩⟩
end
section
open Go.RowKit Go.Shelf
theorem meet_2 {w:World}{A B:Option Addr}{c d:Nat}(l r:List Int) (hl:l.length≤100000) (hr:r.length≤100000) (hc:l.length≤c) (hd:r.length≤d) (hs:Sees w w.heap.size A (KI.iv l)) (ht:Sees w w.heap.size B (KI.iv r)) (b:Nat) (hb:w.heap.size=b) :
  Calls Tryz.prog 52 #[.slice (some ⟨b,0,none⟩) 2 2] (w.alloc (.cells #[.slice A l.length c,.slice B r.length d] 23)) (NewI w (KI.meetL [l,r])):=by
 have hR:=rows_newI w b hb #[.slice A l.length c,.slice B r.length d] 23 [l,r] fun i hi=>by
  match i,hi with
  | 0,_=>exact ⟨A,c,rfl,hc,by rw[←hb];exact hs.toM⟩
  | 1,_=>exact ⟨B,d,rfl,hd,by rw[←hb];exact ht.toM⟩
 have:=KI.Meet_any (some ⟨b,0,none⟩) 2 2 [l,r] _ hR rfl (by omega) (by simp;omega) (by simp;omega)
 exact this.mono fun e w' hv=>newI_of ((Below.refl _ w).alloc (Nat.le_refl _) _) hv
theorem idsP_len (L:List RowP) (p:RowP→Bool):(idsP L p).length≤L.length:=by
 unfold idsP
 refine Nat.le_trans (uniqL_len KI.ordr _) ?_
 rw[List.length_map]
 exact List.length_filter_le _ _
theorem rowsP_len {s:SetM}(hF:SetFit s) (x:Item):(rowsP s.all x).length≤1000:=by
 refine Nat.le_trans (List.length_filterMap_le _ _) (Nat.le_trans (List.length_filter_le _ _) (Nat.le_trans (all_len s) ?_))
 have:=hF.total;omega
theorem find_len {s:SetM}(hF:SetFit s) (fs:List Flt):(s.find fs).length≤1000:=by
 unfold SetM.find
 split<;>exact Nat.le_trans (idsP_len _ _) (rowsP_len hF _)
theorem on_any {m:Nat→Prop}{w:World}{P:Nat}{s:SetM}(h:IxAt m w P s) (hF:SetFit s) (A:Option Addr) (n c:Nat) (fs:List Flt) (hn:fs.length=n) (hfit:FitF fs) (hS:Sees w w.heap.size A (fv fs)) (hn4:n≤100) (a b:Int) :
  Calls Tryz.prog 14 #[.pointer (some ⟨P,0,none⟩),.slice A n c,.int .i64 a,.int .i64 b] w (FindIs w (s.on fs a b) (checkF fs)):=by
 obtain ⟨Wa,hWa⟩:∃Wa,w.alloc (.cells #[.int .i64 a] 3)=Wa:=⟨_,rfl⟩
 obtain ⟨Wb,hWb⟩:∃Wb,Wa.alloc (.cells #[.int .i64 b] 3)=Wb:=⟨_,rfl⟩
 have hza:Wa.heap.size=w.heap.size+1:=by rw[←hWa];simp
 have hzb:Wb.heap.size=w.heap.size+1+1:=by rw[←hWb];simp[hza]
 have hbb:Below w.heap.size w Wb:=by rw[←hWb, ←hWa];exact ((Below.refl _ w).alloc (Nat.le_refl _) _).alloc (by simp) _
 have b1:Box1 Wb w.heap.size 3 (.int .i64 a):=by rw[←hWb, ←hWa];exact (Box1.new _ _ _).alloc _
 have b2:Box1 Wb (w.heap.size+1) 3 (.int .i64 b):=by rw[←hWb, ←hza];exact Box1.new _ _ _
 have hC:=Lib.hid (find_any (h.below hbb) hF A n c fs hn hfit ((hS.below hbb).more hbb.size) hn4)
 have HI:=Lib.hid (h.below hbb)
 have HF:=Lib.hid hF
 have HFL:=Lib.hid (find_len hF fs)
 have hon:s.on fs a b=KI.meetL [s.find fs,idsP (rowsP s.all [4]) (onB a b)]:=rfl
 have HON:=Lib.hid hon
 have HRL:=Lib.hid (Nat.le_trans (idsP_len (rowsP s.all [4]) (onB a b)) (rowsP_len hF _))
 obtain ⟨Fl,hFl⟩:∃Fl,s.find fs=Fl:=⟨_,rfl⟩
 rw[hFl] at hC HFL HON
 obtain ⟨ck,hck⟩:∃ck,checkF fs=ck:=⟨_,rfl⟩
 rw[hck] at hC ⊢
 clear h hF hS hfit hn hon hFl hck
 go_enter Tryz.func14,Tryz.ntmps14
 go_wp2_with fail
 refine hC.out.mono ?_
 rintro e w1 ⟨A1,n1,c1,rfl,hb1,⟨rfl,rfl,hc1,hs1⟩|⟨h0,rfl,rfl,rfl⟩⟩
 ·have hz1:=hb1.size
  have hO:=Lib.hid (of_any (some ⟨P,0,none⟩) 4 (by omega) w1)
  obtain ⟨fl,hfl⟩:∃fl,Fl.length=fl:=⟨_,rfl⟩
  rw[hfl] at hc1
  have HFLL:=Lib.hid hfl
  rw[hfl]
  have HS1:=Lib.hid hs1
  clear hC hfl hs1
  go_wp2_with fail
  refine hO.out.mono ?_
  rintro e w2 ⟨rfl,ob⟩
  have hz2:=ob.size
  have hI2:=(HI.out.below hb1)
  have hask:AsksRow w2 51 #[.pointer (some ⟨w.heap.size,0,none⟩),.pointer (some ⟨w.heap.size+1,0,none⟩)] (rowsP s.all [4]) (onB a b):=fun W y hW hy ha =>
   on1_any (((b1.below hb1 (by omega)).below ob.below (by omega)).below hW (by omega)).cell (((b2.below hb1 (by omega)).below ob.below (by omega)).below hW (by omega)).cell (by have:=hW.size;omega) (by have:=hW.size;omega) y
  have hasks:Asks m w1 (some ⟨P,0,none⟩) s [UInt8.ofNat 4] (rowsP s.all [4]):=⟨.inl ⟨P,rfl,hI2,HF.out,rfl⟩⟩
  have hseq:=fun W hW=>of_seq hasks (Below.refl _ _) ob 4 W hW
  have hI:=Lib.hid (ids_any (w:=w2) (enters_of Tryz.func51 (by kernel_rfl) rfl) hseq (fun k e=>by rcases e with e|e<;>omega) (by omega) hasks.few hask)
  clear hask hasks hseq hO hI2
  go_wp2_with fail
  refine hI.out.mono ?_
  rintro e w3 ⟨A3,c3,rfl,hc3,hs3,hb3⟩
  have hz3:=hb3.size
  have hb13:Below w1.heap.size w1 w3:=ob.below.trans (hb3.mono (by omega))
  have hM:=Lib.hid (meet_2 Fl (idsP (rowsP s.all [4]) (onB a b)) (c:=c1) (d:=c3) (by have:=HFL.out;omega) (by have:=HRL.out;omega) (by rw[HFLL.out];exact hc1) hc3 (((HS1.out.sees fun k e=>e.2).below hb13).more hb13.size) (hs3.sees fun k e=>e.2) w3.heap.size rfl)
  rw[HFLL.out] at hM
  obtain ⟨il,hil⟩:∃il,(idsP (rowsP s.all [4]) (onB a b)).length=il:=⟨_,rfl⟩
  rw[hil] at hM hc3 ⊢
  clear hI hil hs3
  go_wp2_with fail
  refine hM.out.mono ?_
  rintro e w4 ⟨A4,c4,rfl,hc4,hs4,hb4⟩
  go_wp2_with fail
  go_ret2
  have hb24:Below Wb.heap.size Wb w4:=hb1.trans ((hb13.mono hz1).trans (hb4.mono (by omega)))
  exact ⟨A4,_,c4,rfl,hbb.trans (hb24.mono (by omega)),.inl ⟨rfl,by rw[HON.out],hc4,by rw[HON.out];exact hs4.mono fun k e=>⟨by omega,e.2⟩⟩⟩
 ·have h0' : ¬ (ck:Int)=0:=by omega
  go_wp2
  go_ret2
  exact ⟨none,0,0,rfl,hbb.trans (hb1.mono (by omega)),.inr ⟨h0,rfl,rfl,rfl⟩⟩
end
end Go.Proofs.YtalmnodgjjcefaaGreatDoor
