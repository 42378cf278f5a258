/- An index's Names and Values, walked. -/
import Derived.Test.YtalmnodgjjcefaaGreatDoorJTgC
import Derived.Test.YtalmnodgjjcefaaGreatDoorJIxE
import Derived.Test.YtalmnodgjjcefaaGreatDoorJIxC
import Derived.Test.YtalmnodgjjcefaaGreatDoorJKmJ
import Derived.Test.YtalmnodgjjcefaaGreatDoorJRwE
import Derived.Test.YtalmnodgjjcefaaGreatDoorJTgA
import Derived.Test.YtalmnodgjjcefaaGreatDoorJIpB
set_option maxRecDepth 100000
set_option maxHeartbeats 6400000
namespace Go.Proofs.YtalmnodgjjcefaaGreatDoor
section
open Go.RowKit Go.Maps
structure FileI (m:Nat→Prop) (w w' : World) (P:Nat) (s' : SetM) (A:Option Addr) (c:Nat) (b:List UInt8):Prop where
 cap:b.length≤c
 out:∃m',IxAt m' w' P s'∧Turn m w w'∧(∀k,m' k→m k∨(w.heap.size≤k∧k<w'.heap.size))∧SeesM (fun k=>w.heap.size≤k∧k<w'.heap.size∧¬ m' k) w' A (bv b)
theorem FileI.of {m:Nat→Prop}{w w' : World}{P S:Nat}{s s' : SetM}{A:Option Addr}{c:Nat}{b:List UInt8}(h:IxAt m w P s) (hS:Box1 w P 87 (.pointer (some ⟨S,0,none⟩))) (hf:FileStep (fun k=>m k∧k≠P) w w' S s' A c b):FileI m w w' P s' A c b:=by
 have hmP:m P:=by obtain ⟨_,_,h2,_⟩:=h.out;exact h2
 have hPl:=h.lt P hmP
 obtain ⟨m',st,hb⟩:=hf.out
 have hz:=st.turn.size
 have hnP:∀k,m' k→k≠P:=fun k e e2=>by
  rcases st.new k e with g|g
  ·exact g.2 e2
  ·omega
 refine ⟨hf.cap,fun k=>m' k∨k=P,⟨⟨S,hS.turn st.turn fun e=>e.2 rfl,.inr rfl,st.set.mono (fun k e=>⟨.inl e,hnP k e⟩) fun k e=>e.1.elim (fun g=>st.set.lt k g) fun g=>absurd g e.2⟩,fun k e => ?_⟩,st.turn.mono fun k _ e=>e.1,fun k e => ?_,hb.mono fun k e=>⟨e.1,e.2.1,fun g=>g.elim e.2.2 fun g2=>by omega⟩⟩
 ·rcases e with g|g
  ·exact st.set.lt k g
  ·omega
 ·rcases e with g|g
  ·exact (st.new k g).imp (fun e=>e.1) id
  ·exact .inl (g ▸ hmP)
theorem ixFlush_any {m:Nat→Prop}{w:World}{P:Nat}{s:SetM}(h:IxAt m w P s) (hF:SetFit s) (hH:Halves w) :
  Calls Tryz.prog 24 #[.pointer (some ⟨P,0,none⟩)] w fun e w'=>∃A c,e = .returned (.tuple #[.slice A s.flush.2.1.length c,.bool s.flush.2.2])∧FileI m w w' P s.flush.1 A c s.flush.2.1:=by
 obtain ⟨S,h1,h2,h3⟩:=h.out
 have hf:=Lib.hid (flush_any _ w S s h3 hF hH)
 have HI:=Lib.hid h
 have HB:=Lib.hid h1
 have hc:=h1.cell
 clear h h1 h2 h3 hF hH
 go_enter Tryz.func24,Tryz.ntmps24
 go_wp2_with fail
 refine hf.out.mono ?_
 rintro e w1 ⟨A,c,rfl,hs⟩
 have HS:=Lib.hid (FileI.of HI.out HB.out hs)
 clear hs hf
 go_wp2
 go_ret2
 exact ⟨A,c,rfl,HS.out⟩
section
variable {N : Nat} {m : Nat → Prop} {w : World} {P : Nat} {s : SetM} {X : List Ser}
theorem flush_live (h:Live N m w P s X) (hN:N≤900) (hH:Halves w) :
  Calls Tryz.prog 24 #[.pointer (some ⟨P,0,none⟩)] w fun e w'=>∃A c,e = .returned (.tuple #[.slice A s.flush.2.1.length c,.bool s.flush.2.2])∧s.flush.2.1.length≤c∧∃m',Live N m' w' P s.flush.1 X∧Turn m w w'∧(∀k,m' k→m k∨(w.heap.size≤k∧k<w'.heap.size))∧SeesM (fun k=>w.heap.size≤k∧k<w'.heap.size∧¬ m' k) w' A (bv s.flush.2.1) :=
 (ixFlush_any h.ix (h.fit hN) hH).mono fun e w' ⟨A,c,he,hf⟩=>by
  obtain ⟨m',j1,j2,j3,j4⟩:=hf.out
  exact ⟨A,c,he,hf.cap,m',⟨j1,h.ok.flush,by rw[flush_total];exact h.tot,h.inv.flush,h.few⟩,j2,j3,j4⟩
theorem drop_none (h:Live N m w P s X) (hN:N+1≤500) (id:Int) (ht:atX X id=none) :
  Calls Tryz.prog 18 #[.pointer (some ⟨P,0,none⟩),.int .i64 id] w fun e w'=>e = .returned (.int .i64 60)∧Live N m w' P s X∧Turn m w w':=by
 have hmem:=h.mem
 have hd:s.dropOf id=(s,60):=by unfold SetM.dropOf;rw[h.inv.labOf,ht];rfl
 have:=drop_any h.ix (h.fit (by omega)) id (by omega) (by have:=h.tot;omega)
 rw[hd] at this
 exact this.mono fun e w' hA=>⟨hA.1,⟨hA.2.ix,h.ok,h.tot,h.inv,h.few⟩,hA.2.turn⟩
end
end
section
open Go.RowKit Go.Shelf
structure TxtSt (w:World) (ob lo z:Nat) (s:Nat→Prop) (out:List Item) (W:World):Prop where
 sep:∀k,s k→lo≤k∧k<W.heap.size
 below:Below w.heap.size w W
 size:z≤W.heap.size
 out:∃v q,Box1 W ob 47 v∧OwnQ q W (z+2) v out∧∀k,q k→z+2≤k∧k<W.heap.size∧¬ s k
section
variable {w A B : World} {ob lo z : Nat} {s s' T : Nat → Prop} {out : List Item}
theorem TxtSt.step (h:TxtSt w ob lo z s out A) (hob:ob<lo) (hlo:lo≤z) (hw:w.heap.size≤lo) (ht:Turn T A B) (hT:∀k,T k→s k∨k=z∨k=z+1) (hs:∀k,s' k→s k∨(A.heap.size≤k∧k<B.heap.size)):TxtSt w ob lo z s' out B:=by
 obtain ⟨v,q,h1,h2,h3⟩:=h.out
 have hz:=ht.size
 have hTl:∀k,T k→lo≤k:=fun k e=>by rcases hT k e with e|e|e;exact (h.sep k e).1;omega;omega
 have hqT:∀k,q k→¬ T k:=fun k e e2=>by
  have:=h3 k e
  rcases hT k e2 with e3|e3|e3
  ·exact this.2.2 e3
  ·omega
  ·omega
 refine ⟨fun k e => ?_,h.below.trans (ht.below (fun k e=>Nat.le_trans hw (hTl k e)) h.below.size),Nat.le_trans h.size hz,v,q,h1.turn ht (fun e=>by have:=hTl _ e;omega),h2.keep (Kept.of_turn ht fun k e=>⟨(h3 k e).2.1,hqT k e⟩),fun k e=>⟨(h3 k e).1,Nat.lt_of_lt_of_le (h3 k e).2.1 hz,fun e2 => ?_⟩⟩
 ·rcases hs k e with e|e
  ·exact ⟨(h.sep k e).1,Nat.lt_of_lt_of_le (h.sep k e).2 hz⟩
  ·have:=h.size;have:=h.below.size;have h4:=h.below;omega
 ·rcases hs k e2 with e2|e2
  ·exact (h3 k e).2.2 e2
  ·have:=(h3 k e).2.1;omega
theorem txt_put {W wp wn:World}{v v' : Value}{vs:List Value}{q:Nat→Prop}{x:Item}{Ax:Option Addr}{cx xb:Nat}(h:TxtSt w ob lo z s out W) (hob:ob<lo) (hlo:lo≤z) (hw:w.heap.size≤ob) (hz2:z+2≤W.heap.size) (h1:Box1 W ob 47 v)
  (hv:v.ownBlock.elim True q) (hvs:vs.length=out.length) (h3:∀i (hi:i<out.length),∃Ai ci,vs[i]?=some (.slice Ai (out[i]).length ci)∧(out[i]).length≤ci∧SeesU (fun k=>q k∧v.ownBlock≠some k) W Ai (bv out[i])) (hq:∀k,q k→z+2≤k∧k<W.heap.size∧¬ s k)
  (hr:Below W.heap.size W wp) (hx:SeesU (fun k=>k=xb) wp Ax (bv x)) (hxb:W.heap.size≤xb∧xb<wp.heap.size) (hc:x.length≤cx)
  (hown:wn.ownsRow (z+2) 48 1 v' (out.length+1) (vs ++ [.slice Ax x.length cx])) (hon:Onto wp wn v v') :
  TxtSt w ob lo z s (out ++ [x]) (wn.setCell ⟨ob,0,none⟩ v')∧Turn (fun k=>k=ob∨(z+2≤k∧¬ s k)) W (wn.setCell ⟨ob,0,none⟩ v'):=by
 have hs1:=hr.size
 have hs2:=hon.size
 have ho:=h1.lt
 have hvq:∀k,v.ownBlock=some k→q k:=fun k e=>by rw[e] at hv;exact hv
 have hobv:v.ownBlock≠some ob:=fun e=>by have:=(hq _ (hvq _ e)).1;omega
 have hv'k:∀k,v'.ownBlock=some k→q k∨(wp.heap.size≤k∧k<wn.heap.size):=fun k e=>by
  rcases hon.at_ with e2|⟨g,e2,hg⟩
  ·exact .inl (hvq k (e2 ▸ e))
  ·rw[e2] at e;injection e with e;subst e
   exact .inr ⟨hg,(World.ownsRow.lt hown _ e2).2⟩
 have ht:Turn (fun k=>k=ob∨(z+2≤k∧¬ s k)) W (wn.setCell ⟨ob,0,none⟩ v'):=((Turn.of_new hr).trans (Turn.onto hon fun k e => .inr ⟨(hq k (hvq k e)).1,(hq k (hvq k e)).2.2⟩)).trans (Turn.setCell _ _ _ (.inl rfl))
 have hz:(wn.setCell ⟨ob,0,none⟩ v').heap.size=wn.heap.size:=World.size_setCell _ _ _
 have hO:=OwnQ.put (q:=q) (q2:=fun k=>k=xb) (w:=wp) (w':=wn) (base:=z+2) (v:=v) (v':=v') (ls:=out) (vs:=vs) x Ax cx (fun k e=>Nat.lt_of_lt_of_le (hq k e).2.1 hs1) hvq
  (fun i hi=>by obtain ⟨Ai,ci,g1,g2,g3⟩:=h3 i hi;exact ⟨Ai,ci,g1,g2,g3.keep (Kept.of_below hr fun k e=>(hq k e.1).2.1)⟩) hvs hc hx (fun k e=>by subst e;exact ⟨hxb.2,fun e=>by have:=(hq _ (hvq _ e)).2.1;omega⟩) hown hon
 have hq' : ∀k,(q k∨k=xb∨v'.ownBlock=some k)→z+2≤k∧k<wn.heap.size∧¬ s k:=fun k e=>by
  have hnew:∀k,W.heap.size≤k→¬ s k:=fun k e1 e2=>by have:=(h.sep k e2).2;omega
  rcases e with e|e|e
  ·exact ⟨(hq k e).1,by have:=(hq k e).2.1;omega,(hq k e).2.2⟩
  ·subst e;exact ⟨by omega,by omega,hnew _ hxb.1⟩
  ·rcases hv'k k e with e|e
   ·exact ⟨(hq k e).1,by have:=(hq k e).2.1;omega,(hq k e).2.2⟩
   ·exact ⟨by omega,by omega,hnew _ (by omega)⟩
 refine ⟨⟨fun k e=>⟨(h.sep k e).1,by have:=(h.sep k e).2;omega⟩,h.below.trans (ht.below (fun k e=>by rcases e with e|e<;>omega) h.below.size),by omega,v',_,?_,hO.keep (fun k e => ?_),fun k e=>by rw[hz];exact hq' k e⟩,ht⟩
 ·have b1:Box1 wn ob 47 v:=(h1.below hr ho).turn (Turn.onto (T:=fun k=>v.ownBlock=some k) hon fun k e=>e) hobv
  exact b1.set v'
 ·exact (Turn.setCell (T:=fun k=>k=ob) wn ⟨ob,0,none⟩ v' rfl).block k (hq' k e).2.1 (fun e2=>by have:=(hq' k e).1;omega)
end
theorem bytesWorld_below (w:World) (e:TypeId) (s:ByteArray):Below w.heap.size w (Lib.bytesWorld w e s) :=
 ⟨rfl,rfl,rfl,by rw[Lib.bytesWorld_size];omega,fun k hk=>Lib.bytesWorld_at_old w e s k hk⟩
end
section
open Go.RowKit Go.Shelf
attribute [local go_sem] Oper.semAt_some
theorem bytes_seesU (W:World) (l:Item):SeesU (fun k=>k=W.heap.size) (Lib.bytesWorld W 5 (strOf l)) (some ⟨W.heap.size,0,none⟩) (bv l):=by
 refine ⟨.inr ⟨_,rfl,rfl,fun j u hu => ?_⟩⟩
 have hj:j<l.length:=by
  have:=(List.getElem?_eq_some_iff.1 hu).1
  rwa [bv_length] at this
 rw[Addr.add_lit,Nat.zero_add]
 constructor
 ·rw[Lib.bytesWorld_cell W _ (strOf l) j (by rw[strOf_size];exact hj),strOf_data]
  rw[bv_at l j hj] at hu
  rw[←hu,List.getD_eq_getElem?_getD,List.getElem?_eq_getElem hj]
  rfl
 ·have hc:l.length≤(Lib.bytesCells W 5 (strOf l)).size:=by simp[Lib.bytesCells,strOf]
  simp only[World.frozen?,Lib.bytesWorld_at_new]
  simp
  omega
theorem str_bytesU (W:World) (l:Item):∃(W' : World) (c:Nat),(convert 9 48 (.string (strOf l))).run Tryz.prog W = .ok (.slice (some ⟨W.heap.size,0,none⟩) l.length c) W'∧l.length≤c∧W'.heap.size=W.heap.size+1∧Below W.heap.size W W'∧SeesU (fun k=>k=W.heap.size) W' (some ⟨W.heap.size,0,none⟩) (bv l):=by
 refine ⟨_,grownCap W (strOf l).size 0 5,?_,?_,Lib.bytesWorld_size _ _ _,bytesWorld_below _ _ _,bytes_seesU W l⟩
 ·rw[Lib.run_convert_string_bytes (P:=Tryz.prog) W 9 48 5 (strOf l) Tryz.underlying9 Tryz.underlying48 Tryz.underlying5,strOf_size]
 ·rw[←strOf_size l]
  exact grownCap_ge W (strOf l).size 0 5
theorem strOf_of (t:ByteArray):t=strOf t.data.toList:=rfl
def AsksLab (w:World) (g:FuncId) (lb:Array Value) (p:Lb→ByteArray):Prop :=
 ∀(W:World) (x1 x2:ByteArray),Below w.heap.size w W→Calls Tryz.prog g (#[.agg #[.string x1,.string x2]]++lb) W (Gives W (.string (p (x1,x2))))
def textL (p:Lb→ByteArray) (l:List Lb):List Item:=(l.map fun x=>(p x).data.toList).filter fun t => !t.isEmpty
theorem textL_succ (p:Lb→ByteArray) {l:List Lb}{k:Nat}(hk:k<l.length):textL p (l.take (k+1))=textL p (l.take k)++if (p l[k]).data.toList = [] then [] else [(p l[k]).data.toList]:=by
 unfold textL
 rw[List.take_succ_eq_append_getElem hk,List.map_append,List.filter_append]
 congr 1
 cases h:(p l[k]).data.toList<;>simp[h]
theorem textL_len (p:Lb→ByteArray) (l:List Lb):(textL p l).length≤l.length:=by
 unfold textL
 exact Nat.le_trans (List.length_filter_le _ _) (by simp)
def textR (s:SetM) (p:Lb→ByteArray) (L:List RowP):List Item:=(L.filter fun r => !s.gone r.id).flatMap fun r=>textL p r.labels
theorem textR_len (s:SetM) (p:Lb→ByteArray):∀L:List RowP,(∀r∈L,r.labels.length≤6)→(textR s p L).length≤6*L.length
 | [],_=>by simp[textR]
 | r :: L,h=>by
  have ih:=textR_len s p L fun r hr=>h r (List.mem_cons_of_mem _ hr)
  have h1:=textL_len p r.labels
  have h2:=h r List.mem_cons_self
  unfold textR at ih ⊢
  rw[List.filter_cons]
  split
  ·rw[List.flatMap_cons,List.length_append,List.length_cons];omega
  ·rw[List.length_cons];omega
theorem binfo2:(Tryz.prog.info? 48).map (fun i=>(i.zero,i.size,i.bytes))=some (some (.slice none 0 0),1,24):=by kernel_rfl
theorem sinfo2:(Tryz.prog.info? 9).map (fun i=>(i.zero,i.size,i.bytes))=some (some (.string ⟨#[]⟩),1,16):=by kernel_rfl
def sv (l:List Item):List Value:=l.map fun t => .string (strOf t)
def NewS (w:World) (l:List Item) (e:Ending) (w' : World):Prop:=∃A c,e = .returned (.slice A l.length c)∧l.length≤c∧l.length≤6000∧SeesM (fun k=>w.heap.size≤k∧k<w'.heap.size) w' A (sv l)∧Below w.heap.size w w'
theorem texts_of {m:Nat→Prop}{w:World}{s:SetM}{p:Option Addr}{L:List RowP}(h:Asks m w p s [2] L) (hsh:∀r∈L,r.labels.length≤6∧∀x∈r.labels,x.1.size≤1000∧x.2.size≤1000) {g:FuncId}{lb:Array Value}{t:Lb→ByteArray}(eg:∀args w,(callFunc g args).run Tryz.prog w = .ok (.enter g args) w) (ht:AsksLab w g lb t) (htz:∀x:Lb,(t x).size≤max x.1.size x.2.size) :
  Calls Tryz.prog 61 #[.pointer p,.func (.func g) #[] lb] w (NewS w (uniqL ahead (textR s t L))):=by
 refine (callsIn_wide (n:=5)).1 ?_
 obtain ⟨U,hU⟩:∃U,uniqL ahead (textR s t L)=U:=⟨_,rfl⟩
 rw[hU]
 have HU:=Lib.hid hU
 clear hU
 obtain ⟨W0,hW0⟩:∃W0,w.alloc (.cells #[.pointer p] 29)=W0:=⟨_,rfl⟩
 obtain ⟨W1,hW1⟩:∃W1,W0.alloc (.cells #[.func (.func g) #[] lb] 104)=W1:=⟨_,rfl⟩
 obtain ⟨W2,hW2⟩:∃W2,W1.alloc (.cells #[.slice none 0 0] 47)=W2:=⟨_,rfl⟩
 have hz0:W0.heap.size=w.heap.size+1:=by rw[←hW0];simp
 have hz1:W1.heap.size=w.heap.size+1+1:=by rw[←hW1];simp[hz0]
 have hz2:W2.heap.size=w.heap.size+1+1+1:=by rw[←hW2];simp[hz1]
 have r0:Box1 W2 w.heap.size 29 (.pointer p):=by rw[←hW2, ←hW1, ←hW0];exact ((Box1.new _ _ _).alloc _).alloc _
 have r1:Box1 W2 (w.heap.size+1) 104 (.func (.func g) #[] lb):=by rw[←hW2, ←hW1, ←hz0];exact (Box1.new _ _ _).alloc _
 have r2:Box1 W2 (w.heap.size+1+1) 47 (.slice none 0 0):=by rw[←hW2, ←hz1];exact Box1.new _ _ _
 have hb2:Below w.heap.size w W2:=by rw[←hW2, ←hW1, ←hW0];exact (((Below.refl _ w).alloc (Nat.le_refl _) _).alloc (by simp) _).alloc (by simp;omega) _
 have c0:=r0.cell
 have hO:=Lib.hid (of_any p 2 (by omega) W2)
 have hq:=fun w3 hb=>of_seq (w:=W2) (w3:=w3) (k:=2) h hb2 hb 4 w3 (Below.refl _ _)
 have HA:=Lib.hid ht
 have HZ:=Lib.hid htz
 have HEG:=Lib.hid eg
 have HSH:=Lib.hid hsh
 have HL:=Lib.hid h.few
 have HG:Hid (∀(W:World) (y:RowP),Below w.heap.size w W→y∈L→Calls Tryz.prog 19 #[.pointer p,.int .i64 y.id] W (Gives W (.bool (s.gone y.id)))):=by
  intro W y hW hy
  rcases h.out with ⟨P,rfl,h2,h3,rfl⟩|⟨rfl,rfl⟩
  ·exact gone_any (h2.below hW) h3 y.id
  ·cases hy
 obtain ⟨ti,hi,hy0,hy1,hy2⟩:=info_parts binfo2
 clear h eg ht htz hsh
 refine callsIn_of_wp_marks Tryz.func61 rfl trivial ?_ rfl
 simp only[Tryz.ntmps61,List.size_toArray,List.length_cons,List.length_nil,Nat.reduceAdd,Nat.reduceSub,Array.replicate_succ,Array.replicate_zero,List.push_toArray,List.append_toArray,List.nil_append,List.cons_append]
 gi_wp2_with fail
 refine ⟨trivial,(callsIn_wide.2 hO.out).mono ?_⟩
 rintro e w3 ⟨rfl,ob⟩
 have hD:=hq w3 ob
 have hz3:=ob.size
 have hb3:Below w.heap.size w w3:=hb2.trans (ob.below.mono (by omega))
 rw[hz2] at hD
 have k0:=r0.below ob.below (by omega)
 have k1:=r1.below ob.below (by omega)
 have k2:=r2.below ob.below (by omega)
 clear hO hq c0
 gi_wp2_with fail
 refine wpIn_rows (B1:=w.heap.size+1+1+1+1) (B2:=w.heap.size+1+1+1+1+1) rfl hD (fun k e=>by omega) (by omega)
  (fun s' pre W=>TxtSt w (w.heap.size+1+1) w3.heap.size w3.heap.size s' (textR s t (pre.map (·.1))) W∧Box1 W w.heap.size 29 (.pointer p)∧Box1 W (w.heap.size+1) 104 (.func (.func g) #[] lb))
  (fun c s pre W=>False) ?hI (fun _ _ _ _ _ _ e=>e.elim) ?h0 ?round ?done (fun _ _ _ _ _ e=>e.elim)
 case hI=>exact fun s' s2 pre A B h ht hs=>⟨h.1.step (by omega) (Nat.le_refl _) (by omega) ht (fun k e => .inr e) hs,h.2.1.turn ht (by omega),h.2.2.turn ht (by omega)⟩
 case h0=>exact ⟨⟨fun k e=>e.elim,hb3,Nat.le_refl _,_,fun _=>False,k2,OwnQ.nil _ _ _,fun k e=>e.elim⟩,k0,k1⟩
 case round =>
  apply Exists.intro
  constructor
  ·intro l y b W K hb hK
   gi_wp2
   rw[hb.out]
   exact hK.out
  ·rintro l s' pre y b W ⟨hSt,hx1,hx2⟩ hok h6 hsp hb2' hbW hsb
   have hme:y.1∈L:=by obtain ⟨t,ht⟩:=hok.pre;rw[←ht];simp
   have hG:=Lib.hid (HG.out W y.1 hSt.below hme)
   have d1:=hx1.cell
   obtain ⟨v0,v1,v2,v3,v4,v5, -⟩:=h6
   have hst:textR s t ((pre ++ [y]).map (·.1))=textR s t (pre.map (·.1))++if s.gone y.1.id=true then [] else textL t y.1.labels:=by
    unfold textR
    rw[List.map_append,List.filter_append,List.flatMap_append]
    congr 1
    cases h:s.gone y.1.id<;>simp[h]
   have HST:=Lib.hid hst
   have hsy:=HSH.out _ hme
   have HSY:=Lib.hid hsy
   have hpl:(textR s t (pre.map (·.1))).length≤6000:=by
    have h1:=hok.pre.length_le
    rw[List.length_append,List.length_map] at h1
    have h2:=textR_len s t (pre.map (·.1)) fun r hr=>(HSH.out r (hok.pre.subset (List.mem_append_left _ hr))).1
    rw[List.length_map] at h2
    have:=HL.out
    omega
   obtain ⟨out0,hout0⟩:∃o,textR s t (pre.map (·.1))=o:=⟨_,rfl⟩
   rw[hout0] at hpl
   have HOUT:=Lib.hid hout0
   obtain ⟨yi,hyi⟩:∃yi,y.1.id=yi:=⟨_,rfl⟩
   rw[hyi] at hG v5
   have HYI:=Lib.hid hyi
   obtain ⟨nl,hnl⟩:∃nl,y.1.labels.length=nl:=⟨_,rfl⟩
   rw[hnl] at v1
   have HNL:=Lib.hid hnl
   clear hst hyi hme hsy hnl hout0
   cases hg:s.gone yi with
   | true =>
    rw[hg] at hG
    gi_wp2_with fail
    refine ⟨trivial,(CallsIn.inRound l (callsIn_wide.2 hG.out)).mono ?_⟩
    rintro e w4 ⟨rfl,hb4⟩
    gi_wp2_with fail
    exact ⟨Turn.of_new hb4,by rw[HST.out,HYI.out,if_pos hg,List.append_nil];exact hSt.step (by omega) (Nat.le_refl _) (by omega) (Turn.of_new (T:=fun _=>False) hb4) (fun k e=>e.elim) (fun k e => .inl e),hx1.below hb4 hx1.lt,hx2.below hb4 hx2.lt⟩
   | false =>
    rw[hg] at hG
    gi_wp2_with fail
    refine ⟨trivial,(CallsIn.inRound l (callsIn_wide.2 hG.out)).mono ?_⟩
    rintro e w4 ⟨rfl,hb4⟩
    have e1:=(hb4.cell (p:=⟨b,1,none⟩) hbW).trans v1
    have hz4:=hb4.size
    have HS4:=Lib.hid (hSt.step (s':=s') (by omega) (Nat.le_refl _) (by omega) (Turn.of_new (T:=fun _=>False) hb4) (fun k e=>e.elim) (fun k e => .inl e))
    have HX1:=Lib.hid (hx1.below hb4 hx1.lt)
    have HX2:=Lib.hid (hx2.below hb4 hx2.lt)
    have hLB:=hok.sees.keep (Kept.of_below hb4 hok.lt)
    obtain ⟨AL,hAL⟩:∃AL,y.2.1=AL:=⟨_,rfl⟩
    rw[hAL] at hLB e1
    have HLB:=Lib.hid hLB
    have HSEP:=Lib.hid hSt.sep
    have HLT:=Lib.hid hok.lt
    have hdW:=hSt.size
    clear v0 v1 v2 v3 v4 v5 d1 hSt hx1 hx2 hok hG hD hLB hAL
    gi_wp2_with fail
    gi_loopg [23] nl (fun gg i wr=>∃k:Nat,k+gg=nl∧i = .int .i64 k∧TxtSt w (w.heap.size+1+1) w3.heap.size w3.heap.size s' (out0++textL t (y.1.labels.take k)) wr∧Turn (fun k=>k=w.heap.size+1+1∨(w3.heap.size+2≤k∧¬ s' k)) w4 wr)
    case atStart=>exact ⟨0,by omega,rfl,by rw[HOUT.out.symm];simpa[textL] using HS4.out,Turn.refl _ _⟩
    case round =>
     obtain ⟨k,hk,rfl,hSr,htr⟩:=hrel
     have hzr:=htr.size
     by_cases hlt:k<nl
     ·have hkl:k<y.1.labels.length:=by rw[HNL.out];exact hlt
      have hnl6:nl≤6:=by rw[←HNL.out];exact HSY.out.1
      have hx2r:=HX2.out.turn htr (by omega)
      have d3:=hx2r.cell
      obtain ⟨ad,had,hadB,q1,q2⟩:=((HLB.out.keep (Kept.of_turn htr fun k e=>⟨by have:=HLT.out k e;omega,fun e2=>by have:=(HSEP.out k e).1;rcases e2 with e2|e2;omega;exact e2.2 e⟩)).sees (B:=wr.heap.size) fun k e=>by have:=HLT.out k e;omega).lb hkl
      have hts:=textL_succ t hkl
      have hxz:=HZ.out y.1.labels[k]
      have hxs:=(HSY.out.2 _ (List.getElem_mem hkl))
      obtain ⟨x,hx⟩:∃x,y.1.labels[k]=x:=⟨_,rfl⟩
      rw[hx] at q1 q2 hts hxz hxs
      obtain ⟨x1,x2⟩:=x
      simp only at q1 q2
      obtain ⟨W5,hW5⟩:∃W5,wr.alloc (.cells #[.string x1,.string x2] 83)=W5:=⟨_,rfl⟩
      have hb5:Below wr.heap.size wr W5:=by rw[←hW5];exact (Below.refl _ wr).alloc (Nat.le_refl _) _
      have hz5:W5.heap.size=wr.heap.size+1:=by rw[←hW5];simp
      have g0:W5.cell? ⟨wr.heap.size,0,none⟩=some (.string x1):=by rw[←hW5,World.cell?_alloc_at _ _ _ _ rfl];rfl
      have g1:W5.cell? ⟨wr.heap.size,1,none⟩=some (.string x2):=by rw[←hW5,World.cell?_alloc_at _ _ _ _ rfl];rfl
      have d4:=(hx2r.below hb5 hx2r.lt).cell
      have hA:=Lib.hid (HA.out W5 x1 x2 (hSr.below.trans (hb5.mono hSr.below.size)))
      have heg:=HEG.out
      obtain ⟨T,hT⟩:∃T,t (x1,x2)=T:=⟨_,rfl⟩
      rw[hT] at hA hts hxz
      have HTS:=Lib.hid hts
      have HXZ:=Lib.hid hxz
      have HXS:=Lib.hid hxs
      have HSR:=Lib.hid hSr
      have HTR:=Lib.hid htr
      clear hts hxz hxs hSr htr hx hT d3 e1
      subst had
      gi_wp2_with fail
      refine ⟨trivial,(CallsIn.inRound l (callsIn_wide.2 hA.out)).mono ?_⟩
      rintro e w6 ⟨rfl,hb6⟩
      have hz6:=hb6.size
      have hb56:Below wr.heap.size wr w6:=hb5.trans (hb6.mono hb5.size)
      have hS6:=HSR.out.step (s':=s') (by omega) (Nat.le_refl _) (by omega) (Turn.of_new (T:=fun _=>False) hb56) (fun k e=>e.elim) (fun k e => .inl e)
      have HT6:=Lib.hid (HTR.out.trans (Turn.of_new hb56))
      have HS6:=Lib.hid hS6
      obtain ⟨out1,hout1⟩:∃o,out0++textL t (y.1.labels.take k)=o:=⟨_,rfl⟩
      have hpl1:out1.length≤7000:=by
       rw[←hout1,List.length_append]
       have h1:=textL_len t (y.1.labels.take k)
       rw[List.length_take] at h1
       have:=HSY.out.1
       omega
      rw[hout1] at hS6
      have HO1:=Lib.hid hout1
      clear hA heg hW5 g0 g1 d4 q1 q2 hb5 hb6 hb56 hout1
      by_cases hTe:T.data.toList = []
      ·have hT0:T=⟨#[]⟩:=by rw[strOf_of T,hTe];rfl
       subst hT0
       clear hTe hS6
       gi_wp2_with fail
       go_roundg (nl - (k+1))
       case measure=>omega
       case rel=>exact ⟨k+1,by omega,by go_num,by rw[HTS.out];simpa using HS6.out,HT6.out⟩
      ·obtain ⟨x,hx⟩:∃x,T.data.toList=x:=⟨_,rfl⟩
       have hTx:T=strOf x:=by rw[strOf_of T,hx]
       subst hTx
       have hne:¬ strOf x=⟨#[]⟩:=fun e=>hTe (by rw[e])
       have hn1:(strOf x).toList.isEmpty=false:=by
        rw[show strOf x=⟨x.toArray⟩ from rfl,str_empty]
        cases x with
        | nil=>exact absurd hx hTe
        | cons a b=>rfl
       have HNE:=Lib.hid hne
       obtain ⟨v,q,hbox,hown,hqk⟩:=hS6.out
       obtain ⟨vs,hrow,hvq,hels⟩:=hown.out
       have hvs:vs.length=out1.length:=by have:=hrow.1;omega
       obtain ⟨Av,cv,rfl⟩:∃Av cv,v = .slice Av out1.length cv:=by
        obtain ⟨A,c,e, -⟩:=hown.open_
        exact ⟨A,c,e⟩
       obtain ⟨W7,cx,hcv,hcx,hz7,hb7,hsx⟩:=str_bytesU w6 x
       have c5:=hbox.cell
       have hobv:(Value.slice Av out1.length cv).ownBlock≠some (w.heap.size+1+1):=fun e=>by have:=(hqk _ (hvq _ e)).1;omega
       obtain ⟨W8,hW8⟩:∃W8,W7.alloc (.cells #[.slice (some ⟨w6.heap.size,0,none⟩) x.length cx] 48)=W8:=⟨_,rfl⟩
       have hz8:W8.heap.size=W7.heap.size+1:=by rw[←hW8];simp
       have hb78:Below W7.heap.size W7 W8:=by rw[←hW8];exact (Below.refl _ _).alloc (Nat.le_refl _) _
       have hnb:Below w6.heap.size w6 W8:=hb7.trans (hb78.mono hb7.size)
       have hsee:Sees W8 (W7.heap.size+1) (some ⟨W7.heap.size,0,none⟩) [.slice (some ⟨w6.heap.size,0,none⟩) x.length cx]:=by
        rw[←hW8]
        exact ⟨.inr ⟨_,rfl,by simp,fun j u hu=>by match j,hu with|0,hu=>(simp at hu;subst hu;rw[Addr.add_lit,World.cell?_alloc_at _ _ _ _ rfl];rfl)⟩⟩
       have hrow2:W8.ownsRow (w3.heap.size+2) 48 1 (.slice Av out1.length cv) out1.length vs:=ownsRow_kept hrow fun k e=>hnb.block k (World.ownsRow.lt hrow k e).2
       have hsx8:=hsx.keep (Kept.of_below hb78 fun k e=>by omega)
       have HHV:=Lib.hid (show hvs=hvs from rfl)
       have hdl:w3.heap.size+2≤w6.heap.size:=by omega
       obtain ⟨ol,hol⟩:∃ol,out1.length=ol:=⟨_,rfl⟩
       rw[hol] at c5 hrow2 hpl1 hobv
       have HOL:=Lib.hid hol
       obtain ⟨lx,hlx⟩:∃lx,x.length=lx:=⟨_,rfl⟩
       rw[hlx] at hcv hsee hcx hW8
       rw[hz7] at hsee
       have HLX:=Lib.hid hlx
       have HXN:Hid (¬ x = []):=fun e=>hTe (hx.trans e)
       clear hne HNE hTe hx hS6 hol hlx hown
       gi_wp2_with ((with_reducible refine wpListIn_append_v ?_ (.tmp 32) (.tmp 35) 47 ?_ 48 ti _ 1 24 ?_ hi hy0 hy1 hy2 ?_ ?_ (w3.heap.size+2) (.slice Av ol cv) ol _ ?_ hrow2 _ (some ⟨w6.heap.size+1,0,none⟩) 1 1 [.slice (some ⟨w6.heap.size,0,none⟩) lx cx] ?_ ?_ hsee ?_ ?_ ?_ ?_ ?_);exact rfl;exact rfl;exact Tryz.underlying47;exact rfl;omega;exact rfl;exact rfl;exact rfl;(exact fun u hu=>by simp at hu;subst hu;rfl);(simp only[maxLen];omega);omega;omega;intro v' wn hown hon;obtain ⟨gv,cv',rfl⟩:=ownsRow_succ hown;have b3:=(hbox.below hnb hbox.lt).turn (Turn.onto (T:=fun k=>(Value.slice Av ol cv).ownBlock=some k) hon fun k e=>e) hobv;have c3:=b3.cell;have f3:=b3.frozen)
       have hS6' : TxtSt w (w.heap.size+1+1) w3.heap.size w3.heap.size s' out1 w6:=by rw[←HO1.out];exact HS6.out
       rw[←HOL.out, ←HLX.out] at hown
       rw[←HOL.out] at hon
       have hput:=txt_put hS6' (by omega) (Nat.le_refl _) (by omega) hdl hbox (by cases e:(Value.slice Av out1.length cv).ownBlock with|none=>trivial|some k=>exact hvq k e) hvs hels hqk hnb hsx8 ⟨Nat.le_refl _,by omega⟩ (by rw[HLX.out];exact hcx) hown hon
       rw[HOL.out] at hput
       go_roundg (nl - (k+1))
       case measure=>omega
       case rel =>
        refine ⟨k+1,by omega,by go_num,?_,HT6.out.trans hput.2⟩
        rw[HTS.out,strOf_data,if_neg HXN.out, ←List.append_assoc,HO1.out]
        exact hput.1
     ·have hkn:k=nl:=by omega
      have htk:y.1.labels.take k=y.1.labels:=List.take_of_length_le (by rw[HNL.out];omega)
      rw[htk] at hSr
      have HSR:=Lib.hid hSr
      have HTR:=Lib.hid htr
      clear hSr htr htk
      gi_wp2_with fail
      have hTW:=(Turn.of_new (T:=fun k=>k=w.heap.size+1+1∨(w3.heap.size+2≤k∧¬ s' k)) hb4).trans HTR.out
      refine ⟨hTW.mono fun k _ e => ?_,by rw[HST.out,HYI.out,if_neg (by rw[hg];simp),HOUT.out];exact HSR.out,HX1.out.turn HTR.out (by omega),HX2.out.turn HTR.out (by omega)⟩
      rcases e with rfl|e
      ·exact ⟨fun e=>by have:=(HSEP.out _ e).1;omega,by omega,by omega,by omega⟩
      ·exact ⟨e.2,by omega,by omega,by omega⟩
 case done =>
  rintro s' xs W hS ⟨hSt,hx1,hx2⟩ hK
  rw[hS] at hSt
  obtain ⟨v,q,hbox,hown,hqk⟩:=hSt.out
  have hlen:=textR_len s t L fun r hr=>(HSH.out r hr).1
  have hL6:(textR s t L).length≤6000:=by have:=HL.out;omega
  have hshort:∀x∈textR s t L,x.length≤1000:=by
   intro x hx
   unfold textR at hx
   obtain ⟨r,hr,hx⟩:=List.mem_flatMap.1 hx
   unfold textL at hx
   obtain ⟨y,hy,rfl⟩:=List.mem_map.1 (List.mem_filter.1 hx).1
   have h1:=HZ.out y
   have h2:=(HSH.out r (List.mem_filter.1 hr).1).2 y hy
   have h3:(t y).data.toList.length=(t y).size:=Array.length_toList
   omega
  obtain ⟨O,hO⟩:∃O,textR s t L=O:=⟨_,rfl⟩
  have hU:uniqL ahead O=U:=by rw[←hO];exact HU.out
  rw[hO] at hown hL6 hshort
  obtain ⟨Av,cv,rfl,hlc,hse⟩:=hown.open_
  have hBR:BRow W Av O.length cv O:=⟨rfl,hlc,by omega,hshort,hse.sees fun k e=>(hqk k e).2.1⟩
  have hI:=Lib.hid (itemsQ_1 hBR W.heap.size rfl)
  have c5:=hbox.cell
  have hbel:=hSt.below
  have hWs:=hSt.size
  have hKl:=(Array.getElem?_eq_some_iff.1 hK).1
  obtain ⟨ln,hln⟩:∃ln,O.length=ln:=⟨_,rfl⟩
  rw[hln] at c5 hI
  have hlU:(uniqL ahead O).length≤6000:=Nat.le_trans (uniqL_len KBo O) hL6
  have hsU:∀x∈uniqL ahead O,x.length≤1000:=fun x hx=>hshort x ((uniqL_mem KBo O x).1 hx)
  rw[hU] at hI hlU hsU
  have HSU:=Lib.hid hsU
  clear hown hlc hse hBR hln hU hO hlen hL6 hshort hD hsU
  gi_wp2_with fail
  refine ⟨trivial,(callsIn_wide.2 hI.out).mono ?_⟩
  rintro e w5 ⟨v5,rfl,hq5,hb5⟩
  obtain ⟨Az,cz,rfl,hcz,hsz⟩:=hq5.open_
  have HSZ:=Lib.hid hsz
  have hz5:=hb5.size
  have hbw5:=hbel.trans (hb5.mono hbel.size)
  have hK5:=(hb5.block _ hKl).trans hK
  obtain ⟨N,hN⟩:∃N,U.length=N:=⟨_,rfl⟩
  rw[hN] at hcz hlU
  have HN:=Lib.hid hN
  clear hsz hq5 hN hI
  gi_wp2_with fail
  refine wpIn_wide.2 ?_
  obtain ⟨si,hs0,hs1,hs2,hs3⟩:=info_parts sinfo2
  go_loopg [10,42] N (fun gg v i wr=>∃k:Nat,k+gg=N∧i = .int .i64 k∧wr.ownsRow w5.heap.size 9 1 v k (sv (U.take k))∧Below w5.heap.size w5 wr)
  case atStart=>exact ⟨0,by omega,rfl,World.ownsRow_nil _ _ _ _,Below.refl _ _⟩
  case round =>
   obtain ⟨k,hk,rfl,hrow,hbr⟩:=hrel
   have hzr:=hbr.size
   by_cases hlt:k<N
   ·have hkU:k<U.length:=by rw[HN.out];exact hlt
    obtain ⟨ad,Ai,ci,had,hadB,q1,hci,hsi⟩:=(HSZ.out.keep (Kept.of_below hbr fun k e=>e.2)).out k hkU
    subst had
    have hxl:=HSU.out _ (List.getElem_mem hkU)
    have hC:=Lib.hid (bytesClone_any Ai _ ci U[k] rfl wr (hsi.sees fun k e=>by omega) (by omega))
    have htk:sv (U.take (k+1))=sv (U.take k) ++ [.string (strOf U[k])]:=by unfold sv;rw[List.take_succ_eq_append_getElem hkU,List.map_append];rfl
    obtain ⟨x,hx⟩:∃x,U[k]=x:=⟨_,rfl⟩
    rw[hx] at q1 hci hC htk hxl
    have HTK:=Lib.hid htk
    obtain ⟨lx,hlx⟩:∃lx,x.length=lx:=⟨_,rfl⟩
    rw[hlx] at q1 hC
    have HLX:=Lib.hid hlx
    have il:(k:Int)<(N:Int):=by omega
    clear htk hx hlx hsi hci hxl
    go_wp2_with fail
    refine hC.out.mono ?_
    rintro e w6 ⟨v6,rfl,ho6,hn6⟩
    have hb6:Below wr.heap.size wr w6:=hn6.below (Nat.le_refl _) (fun k e=>by simp[Value.ownBlock] at e)
    have hz6:=hb6.size
    obtain ⟨A6,c6,hv6,hc6, -, -,hs6⟩:=ho6.open_
    rw[HLX.out] at hv6
    subst hv6
    have hcv:=run_str w6 _ A6 lx c6 x hs6 HLX.out
    have hrow6:=ownsRow_kept hrow fun k e=>hb6.block k (World.ownsRow.lt hrow k e).2
    obtain ⟨W7,hW7⟩:∃W7,w6.alloc (.cells #[.string (strOf x)] 9)=W7:=⟨_,rfl⟩
    have hz7:W7.heap.size=w6.heap.size+1:=by rw[←hW7];simp
    have hb7:Below w6.heap.size w6 W7:=by rw[←hW7];exact (Below.refl _ _).alloc (Nat.le_refl _) _
    have hsee:Sees W7 (w6.heap.size+1) (some ⟨w6.heap.size,0,none⟩) [.string (strOf x)]:=by
     rw[←hW7]
     exact ⟨.inr ⟨_,rfl,by simp,fun j u hu=>by match j,hu with|0,hu=>(simp at hu;subst hu;rw[Addr.add_lit,World.cell?_alloc_at _ _ _ _ rfl];rfl)⟩⟩
    have hrow7:=ownsRow_kept hrow6 fun k e=>hb7.block k (World.ownsRow.lt hrow6 k e).2
    have hlo:=World.ownsRow.lt hrow7
    have hbr6:Below w5.heap.size w5 W7:=hbr.trans ((hb6.trans (hb7.mono hz6)).mono hzr)
    clear hC ho6 hn6 hs6 hrow6 q1 hb6 hb7
    go_wp2_with (at_builtin;refine wpList_append_v rfl (.tmp 46) (.tmp 50) 44 rfl 9 si _ 1 16 Tryz.underlying44 hs0 hs1 hs2 hs3 rfl (by omega) w5.heap.size _ k (sv (U.take k)) (by rfl) hrow7 (w6.heap.size+1) _ 1 _ [.string (strOf x)] (by rfl) rfl hsee (fun u hu=>by simp at hu;subst hu;rfl) (by simp only[maxLen];omega) (by omega) (by omega) ?_;intro v7 w7 hown7 hon7)
    go_roundg (N - (k+1))
    case measure=>omega
    case rel=>exact ⟨k+1,by omega,by go_num,by rw[HTK.out];exact hown7,hbr6.trans (hon7.below (by omega) fun k e=>(hlo k e).1)⟩
   ·have hkn:k=N:=by omega
    have htk:U.take k=U:=List.take_of_length_le (by rw[HN.out];omega)
    rw[htk] at hrow
    have hkU:k=U.length:=by rw[HN.out];exact hkn
    clear hkn htk
    subst hkU
    obtain ⟨AO,cO,rfl,hcO, -,hsO⟩:=own_open hrow
    have hsM:=KI.own_seesM hrow
    have hK6:=(hbr.block _ (by omega)).trans hK5
    have hbw:=hbw5.trans (hbr.mono hbw5.size)
    clear hrow hsO
    go_wp2
    gi_wp2_with fail
    rw[hz3,hz2] at hK6 hKl hWs
    have htp:=Turn.putObj wr (w.heap.size+1+1+1+3) (.deferred none) (T:=fun k=>k=w.heap.size+1+1+1+3) rfl
    refine ⟨by simp,.inl ⟨_,_,rfl,run_takeDeferred hK6,?_⟩⟩
    exact ⟨_,results_tmp rfl _ _ _,AO,cO,rfl,hcO,by rw[HN.out];exact hlU,(hsM.keep (Kept.of_turn htp fun k e=>⟨e.2,by omega⟩)).mono fun k e=>⟨by have:=hbw5.size;omega,Nat.lt_of_lt_of_le e.2 htp.size⟩,hbw.trans (htp.below (fun k e=>by omega) hbw.size)⟩
end
section
open Go.RowKit Go.Shelf
theorem may_labels {r:RowP}(h:MayR r):r.labels.length≤6∧∀x∈r.labels,x.1.size≤1000∧x.2.size≤1000:=by
 rcases h.kinds with ⟨-,h1, -⟩|⟨-,h1, -⟩|⟨-,h1, -⟩|⟨-,h1, -⟩
 ·exact ⟨h1.few,fun x hx=>by have:=okL_size (h1.ok x hx);omega⟩
 all_goals rw[h1];exact ⟨by simp,fun x hx=>nomatch hx⟩
theorem NewS.onto {w w1 w' : World}{l:List Item}{e:Ending}(hb:Below w.heap.size w w1) (h:NewS w1 l e w'):NewS w l e w':=by
 obtain ⟨A,c,he,hc,hl,hs,hb2⟩:=h
 exact ⟨A,c,he,hc,hl,hs.mono fun k e=>⟨Nat.le_trans hb.size e.1,e.2⟩,hb.trans (hb2.mono hb.size)⟩
theorem asks_name (w:World):AsksLab w 62 #[] fun x=>x.1:=by
 intro W x1 x2 hW
 clear hW
 go_enter Tryz.func62,Tryz.ntmps62
 go_wp2
 go_ret
 exact ⟨rfl,(Below.refl _ W).alloc (Nat.le_refl _) _⟩
noncomputable def valG (name:ByteArray) (x:Lb):ByteArray:=if x.1=name then x.2 else ⟨#[]⟩
theorem asks_value {w:World}{B:Nat}{name:ByteArray}(hc:Box1 w B 9 (.string name)):AsksLab w 63 #[.pointer (some ⟨B,0,none⟩)] (valG name):=by
 intro W x1 x2 hW
 have c0:=(hc.below hW hc.lt).cell
 have hlt:B<W.heap.size:=Nat.lt_of_lt_of_le hc.lt hW.size
 by_cases he:x1=name
 ·subst he
  have hv:valG x1 (x1,x2)=x2:=if_pos rfl
  rw[hv]
  clear hv hc hW
  go_enter Tryz.func63,Tryz.ntmps63
  go_wp2
  go_ret
  exact ⟨rfl,(Below.refl _ W).alloc (Nat.le_refl _) _⟩
 ·have hv:valG name (x1,x2)=⟨#[]⟩:=if_neg he
  have hq:(x1.toList==name.toList)=false:=beq_eq_false_iff_ne.2 fun e=>he (bytes_same e)
  rw[hv]
  clear hv hc hW he
  go_enter Tryz.func63,Tryz.ntmps63
  go_wp2
  go_ret
  exact ⟨rfl,(Below.refl _ W).alloc (Nat.le_refl _) _⟩
section
variable {m : Nat → Prop} {w : World} {s : SetM} {p : Option Addr} {L : List RowP}
theorem names_of (h:Asks m w p s [2] L):Calls Tryz.prog 20 #[.pointer p] w (NewS w (uniqL ahead (textR s (fun x=>x.1) L))):=by
 have hT:=Lib.hid (texts_of h (fun r hr=>may_labels (h.may r hr)) (enters_of Tryz.func62 (by kernel_rfl) rfl) (asks_name w) fun x=>Nat.le_max_left _ _)
 clear h
 obtain ⟨U,hU⟩:∃U,uniqL ahead (textR s (fun x=>x.1) L)=U:=⟨_,rfl⟩
 rw[hU] at hT ⊢
 clear hU
 go_enter Tryz.func20,Tryz.ntmps20
 go_wp2_with fail
 refine hT.out.mono ?_
 rintro e w1 ⟨A,c,rfl,h1,hl,h2,h3⟩
 have H2:=Lib.hid h2
 clear hT h2
 go_wp2
 go_ret
 exact ⟨A,c,rfl,h1,hl,H2.out,h3⟩
theorem values_of (h:Asks m w p s [2] L) (name:ByteArray):Calls Tryz.prog 21 #[.pointer p,.string name] w (NewS w (uniqL ahead (textR s (valG name) L))):=by
 obtain ⟨W0,hW0⟩:∃W0,w.alloc (.cells #[.string name] 9)=W0:=⟨_,rfl⟩
 have hb0:Below w.heap.size w W0:=by rw[←hW0];exact (Below.refl _ _).alloc (Nat.le_refl _) _
 have hbx:Box1 W0 w.heap.size 9 (.string name):=by rw[←hW0];exact Box1.new _ _ _
 have hT:=Lib.hid (texts_of (h.below hb0) (fun r hr=>may_labels (h.may r hr)) (enters_of Tryz.func63 (by kernel_rfl) rfl) (asks_value hbx) fun x=>by unfold valG;split;exact Nat.le_max_right _ _;exact Nat.zero_le _)
 clear h hbx
 obtain ⟨U,hU⟩:∃U,uniqL ahead (textR s (valG name) L)=U:=⟨_,rfl⟩
 rw[hU] at hT ⊢
 clear hU
 go_enter Tryz.func21,Tryz.ntmps21
 go_wp2_with fail
 refine hT.out.mono ?_
 rintro e w1 hN
 obtain ⟨A,c,rfl,h1,hl,h2,h3⟩:=hN.onto hb0
 have H2:=Lib.hid h2
 clear hT h2 hN
 go_wp2
 go_ret
 exact ⟨A,c,rfl,h1,hl,H2.out,h3⟩
end
section
variable {N : Nat} {m : Nat → Prop} {w : World} {P : Nat} {s : SetM} {X : List Ser}
theorem Live.asks (h:Live N m w P s X) (hN:N≤900):Asks m w (some ⟨P,0,none⟩) s [2] (rowsP s.all [2]):=⟨.inl ⟨P,rfl,h.ix,h.fit hN,rfl⟩⟩
theorem names_live (h:Live N m w P s X) (hN:N≤900):Calls Tryz.prog 20 #[.pointer (some ⟨P,0,none⟩)] w (NewS w (textsX X fun x=>x.1)):=by
 have:=names_of (h.asks hN)
 rw[show uniqL ahead (textR s (fun x=>x.1) (rowsP s.all [2]))=s.texts (fun x=>x.1) from rfl,h.inv.texts] at this
 exact this
end
end
end Go.Proofs.YtalmnodgjjcefaaGreatDoor
