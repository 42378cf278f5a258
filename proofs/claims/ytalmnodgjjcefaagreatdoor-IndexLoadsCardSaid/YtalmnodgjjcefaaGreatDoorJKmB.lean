/- Several texts in one: KmSortB KmAllB KmSeqB KmCntP KmCountB KmCnt1B KmItems. -/
import Derived.Test.YtalmnodgjjcefaaGreatDoorJTk
import Derived.Test.YtalmnodgjjcefaaGreatDoorJKmA
import Derived.Test.YtalmnodgjjcefaaGreatDoorJShelf
import Derived.Shelf.SlSortCmp.Whole1
import Derived.Lib.SliceRun
import Derived.Maps.OwnIn
import Derived.RangeFuncBox
import Derived.Sort.LoopGhostIn
import Derived.Sort.CutIn
import Derived.Test.YtalmnodgjjcefaaGreatDoorJIpA
import Derived.Test.YtalmnodgjjcefaaGreatDoorJIpB
set_option maxRecDepth 100000
set_option maxHeartbeats 3200000
namespace Go.Proofs.YtalmnodgjjcefaaGreatDoor
namespace KB
open Go.RowKit Go.Shelf Go.Sort
theorem einfo:(Tryz.prog.info? 48).map (fun i=>(i.zero,i.size,i.bytes))=some (some (.slice none 0 0),1,24):=by kernel_rfl
theorem owns_le {w:World}{base b:Nat}{e:TypeId}{sz n:Nat}{v:Value}{xs:List Value}(h:w.ownsRow base e sz v n xs) (hb:b≤base):w.ownsRow b e sz v n xs:=by
 refine ⟨h.1,?_⟩
 rcases h.2 with h|⟨g,cap,cur,hv,hg,r⟩
 ·exact .inl h
 ·exact .inr ⟨g,cap,cur,hv,Nat.le_trans hb hg,r⟩
def RowVal (w:World) (xs:List El) (e:Ending) (w' : World):Prop:=∃v,e = .returned v∧w'.ownsRow w.heap.size 48 1 v xs.length (xs.map val)∧Below w.heap.size w w'
theorem Clone_any (A:Option Addr) (n c:Nat) (xs:List El) (hn:xs.length=n) (w:World) (h:Sees w w.heap.size A (xs.map val)) (hlen:n≤1000000) :
  Calls Tryz.prog 234 #[.slice A n c] w (RowVal w xs):=by
 have he:=fun (W:World) (a:Option Addr) (n c:Nat)=>Lib.run_eql_slice_nil (P:=Tryz.prog) W 47 48 a n c 0 0 Tryz.underlying47
 cases A with
 | none =>
  have hx:xs = []:=by
   rcases h.out with h|⟨ad,h,_⟩
   ·simpa using h
   ·cases h
  subst hx
  subst hn
  go_enter Tryz.func234,Tryz.ntmps234
  go_wp2
  go_ret
  exact ⟨_,rfl,World.ownsRow_nil _ _ _ _,Below.refl _ _⟩
 | some ad =>
  obtain ⟨i,hi,hz,hx,hy⟩:=info_parts einfo
  have hml:(xs.map val).length=n*1:=by rw[List.length_map,hn,Nat.mul_one]
  have h1:∀u∈xs.map val,u.oneCell'=true:=fun u hu=>by
   obtain ⟨x, -,rfl⟩:=List.mem_map.1 hu
   exact val_one x
  have HN:=Lib.hid hn
  have hown0:=World.ownsRow_made (base:=w.heap.size) (e:=48) (size:=1) w #[] 0 (Nat.le_refl _) (Nat.zero_le _) (by simp)
  have hsee:=h.alloc (Nat.le_refl _) (.cells #[] 48)
  clear hn h
  go_enter Tryz.func234,Tryz.ntmps234
  go_wp2_with (at_builtin;refine wpList_append_v rfl (.tmp 5) (.tmp 6) 47 rfl 48 i (.slice none 0 0) 1 24 Tryz.underlying47 hi hz hx hy rfl (by omega) w.heap.size (.slice (some ⟨w.heap.size,0,none⟩) 0 0) 0 [] (by rfl) hown0 w.heap.size (some ad) n c (xs.map val) (by rfl) hml hsee h1 (by simp only[maxLen];omega) (by omega) (by simp) ?_;intro v1 w1 hown1 hon1)
  go_ret
  refine ⟨v1,rfl,?_,((Onto.new _ _ (.slice none 0 0) _ _).trans hon1).below_nil⟩
  rw[HN.out]
  simpa using hown1
theorem sw_heap {α:Type} [Inhabited α] (enc:α→Value) (w:World) (g m:Nat) (d:Array α) (os:Array Obj) (k:Nat) (hk:k<w.heap.size):(sortWorld enc w g 0 m d os).heap[k]?=if g=k then (w.heap[k]?).map (onCells (putCells enc 0 d)) else w.heap[k]?:=by
 show ((w.heap.modify g (onCells (putCells enc 0 d)))++os)[k]?=_
 rw[Array.getElem?_append_left (by simpa using hk),Array.getElem?_modify]
theorem sw_size {α:Type} [Inhabited α] (enc:α→Value) (w:World) (g m:Nat) (d:Array α) (os:Array Obj):w.heap.size≤(sortWorld enc w g 0 m d os).heap.size:=by
 show _≤((w.heap.modify g (onCells (putCells enc 0 d)))++os).size
 simp
theorem sw_cells {α:Type} [Inhabited α] (enc:α→Value) (d:Array α) (cur:Array Value) (h:d.size≤cur.size):(putCells enc 0 d cur).toList.take d.size=d.toList.map enc:=by
 apply List.ext_getElem?
 intro t
 by_cases ht:t<d.size
 ·rw[List.getElem?_take,if_pos ht]
  have hs:t<(putCells enc 0 d cur).size:=by unfold putCells;simp;omega
  rw[List.getElem?_eq_getElem (by rw[Array.length_toList];exact hs),Array.getElem_toList,List.getElem?_map,Array.getElem?_toList,Array.getElem?_eq_getElem ht]
  unfold putCells
  rw[Array.getElem_mapIdx,if_pos ⟨Nat.zero_le _,by omega⟩]
  simp[ht]
 ·rw[List.getElem?_eq_none (by rw[List.length_take];omega),List.getElem?_eq_none (by rw[List.length_map,Array.length_toList];omega)]
theorem SortFunc_any (m:Nat→Prop) (base g cap n:Nat) (ls:List El) (hne:ls ≠ []) (hn:ls.length=n) (w:World) (hown:w.ownsRow base 48 1 (.slice (some ⟨g,0,none⟩) n cap) n (ls.map val)) (hok:∀x∈ls,EOk m w x) (hm:∀k,m k→k<w.heap.size∧k≠g) (hlen:n≤1000000) :
  Calls Tryz.prog 235 #[.slice (some ⟨g,0,none⟩) n cap,.func (.func cmpF) #[] #[]] w fun e w' =>
   e = .returned (.tuple #[])∧∃ls' : List El,ls'.Perm ls∧Wk lt (ls'.map key)∧w'.ownsRow base 48 1 (.slice (some ⟨g,0,none⟩) n cap) n (ls'.map val)∧Turn (fun k=>k=g) w w':=by
 let α := { x:El // EOk m w x }
 haveI:Inhabited α:=⟨⟨ls.head hne,hok _ (List.head_mem hne)⟩⟩
 obtain ⟨dl,hdl⟩:∃dl:List α,dl.map (·.1)=ls:=⟨ls.attach.map fun x=>⟨x.1,hok x.1 x.2⟩,by rw[List.map_map];exact List.attach_map_subtype_val ls⟩
 let enc:α→Value:=fun x=>val x.1
 have hvl:∀l:List α,l.map enc=(l.map (·.1)).map val:=fun l=>by simp[enc]
 have hsz:dl.toArray.size=n:=by rw[List.size_toArray, ←hn, ←hdl,List.length_map]
 rcases hown.2 with ⟨h0, -⟩|⟨g',cap',cur,hv,hbg,hh,hnc,hcm,hcs,htk⟩
 ·cases h0
 injection hv with h1 h2 h3
 injection h1 with h1
 injection h1 with h1
 subst h1 h3
 have hgs:g<w.heap.size:=(Array.getElem?_eq_some_iff.1 hh).1
 have hH:Holds enc w g 0 dl.toArray:=fun j hj=>by
  have hj2:j<n:=by rw[hsz] at hj;exact hj
  have h1:=World.ownsRow.cellAt hown j (by omega)
  rw[←hdl, ←hvl,List.getElem?_map] at h1
  have h2:=World.ownsRow.frozenAt hown j
  rw[Nat.zero_add]
  refine ⟨?_,h2⟩
  rw[h1,getElem!_pos _ j hj,List.getElem_toArray,List.getElem?_eq_getElem (by simpa using hj)]
  rfl
 have hO:SWO (ltOf fun x y:α=>cmpI x.1 y.1):=by
  have e:∀x y:α,ltOf (fun x y:α=>cmpI x.1 y.1) x y=lt (key x.1) (key y.1):=fun x y=>cmp_neg x.1 y.1
  exact ⟨fun x=>by rw[e];exact ordr.irrefl _,fun x y z h1 h2=>by rw[e] at *;exact ordr.trans _ _ _ h1 h2,fun x y z h1 h2=>by rw[e] at *;exact ordr.ntrans h2 h1⟩
 have hC:CmpLays1 Tryz.prog cmpF #[] enc (fun x y:α=>cmpI x.1 y.1) g 0 dl.toArray.size w:=fun m' os dk _ x y=>by
  have hk:Kept m w (sortWorld enc w g 0 m' dk os):=fun k hk=>by rw[sw_heap enc w g m' dk os k (hm k hk).1,if_neg (fun e=>(hm k hk).2 e.symm)]
  refine (cmp_any (m:=m) x.1 y.1 _ (x.2.keep hk) (y.2.keep hk) (fun k e=>Nat.lt_of_lt_of_le (hm k e).1 (sw_size _ _ _ _ _ _))).mono fun e w' ⟨he,hw⟩=>⟨he,0,#[],?_⟩
  rw[←hw,grow_empty]
  rfl
 have hcon:=Any.slices_SortFunc Tryz.sortB enc (fun x=>val_one x.1) (fun x y:α=>cmpI x.1 y.1) hO cmpF #[] g 0 cap dl.toArray w enters_cmp hC hH hgs (by rw[hsz];omega)
 change Calls Tryz.prog 235 _ _ _ at hcon
 rw[hsz] at hcon
 refine hcon.mono ?_
 rintro e w' ⟨rfl,d',m',os,hp,hs,rfl⟩
 obtain ⟨hps, -,hpp⟩:=hp
 rw[hsz] at hps
 have hpm:d'.toList.Perm dl:=by
  have e1:d'.extract 0 n=d':=by rw[←hps];exact Array.extract_size
  have e2:dl.toArray.extract 0 n=dl.toArray:=by rw[←hsz];exact Array.extract_size
  rw[e1,e2] at hpp
  exact hpp
 refine ⟨rfl,d'.toList.map (·.1),by rw[←hdl];exact hpm.map _,?_,⟨by simp[hps],.inr ⟨g,cap,putCells enc 0 d' cur,rfl,hbg,?_,hnc,hcm,?_,?_⟩⟩,rfl,rfl,rfl,sw_size _ _ _ _ _ _,?_⟩
 ·refine List.pairwise_iff_getElem.2 fun i j hi hj hij => ?_
  simp only[List.length_map,Array.length_toList] at hi hj
  have:=hs i j (Nat.zero_le _) hij (by rw[←hps];exact hj)
  rw[getElem!_pos d' i hi,getElem!_pos d' j hj] at this
  have e:∀x y:α,ltOf (fun x y:α=>cmpI x.1 y.1) x y=lt (key x.1) (key y.1):=fun x y=>cmp_neg x.1 y.1
  rw[e] at this
  simpa using this
 ·rw[sw_heap enc w g m' d' os g hgs,if_pos rfl,hh]
  rfl
 ·unfold putCells;rw[Array.size_mapIdx];exact hcs
 ·have:=sw_cells enc d' cur (by rw[hcs,hps];omega)
  rw[hps,hvl] at this
  rw[Nat.mul_one]
  exact this
 ·intro k hk hkg
  rw[sw_heap enc w g m' d' os k hk,if_neg (fun e=>hkg e.symm)]
end KB
namespace KB
open Go.RowKit Go.Shelf
structure RowsIn (m:Nat→Prop) (w:World) (A:Option Addr) (ll:List (List El)):Prop where
 out:∀i (hi:i<ll.length),∃ad Ai ci,A=some ad∧m ad.block∧w.cell? (ad.add i)=some (.slice Ai (ll[i]).length ci)∧(ll[i]).length≤ci∧SeesM m w Ai ((ll[i]).map val)∧∀x∈ll[i],EOk m w x
theorem RowsIn.keep {m:Nat→Prop}{w w' : World}{A:Option Addr}{ll:List (List El)}(h:RowsIn m w A ll) (hk:Kept m w w'):RowsIn m w' A ll:=⟨fun i hi=>by
 obtain ⟨ad,Ai,ci,h1,h2,h3,h4,h5,h6⟩:=h.out i hi
 exact ⟨ad,Ai,ci,h1,h2,(hk.cell (by rw[add_block];exact h2)).trans h3,h4,h5.keep hk,fun x hx=>(h6 x hx).keep hk⟩⟩
theorem RowsIn.mono {m m' : Nat→Prop}{w:World}{A:Option Addr}{ll:List (List El)}(h:RowsIn m w A ll) (hm:∀k,m k→m' k):RowsIn m' w A ll:=⟨fun i hi=>by
 obtain ⟨ad,Ai,ci,h1,h2,h3,h4,h5,h6⟩:=h.out i hi
 exact ⟨ad,Ai,ci,h1,hm _ h2,h3,h4,h5.mono hm,fun x hx=>(h6 x hx).mono hm⟩⟩
def own (base:Nat) (w:World):Nat→Prop:=fun k=>base≤k∧k<w.heap.size
theorem RowsAt.start (w:World) (n0:Nat) (hn:n0≤w.heap.size):RowsAt (fun k=>k<n0) (own w.heap.size (w.alloc (.cells #[.slice none 0 0,.func (.func cmpF) #[] #[]] 283))) (w.alloc (.cells #[.slice none 0 0,.func (.func cmpF) #[] #[]] 283)) w.heap.size w.heap.size [] :=
 ⟨⟨.slice none 0 0, [],World.alloc_heap_new w _,World.ownsRow_nil _ _ _ _,fun k e=>by simp[Value.ownBlock] at e,fun i hi=>absurd hi (by simp)⟩,⟨Nat.le_refl _,by simp⟩,by simp,fun k h1 h2=>by have:=h2.1;omega,fun k e=>by rcases e with e|e;exact e.2;simp;omega,by simp⟩
theorem push_done {n0 base P:Nat}{wr w2 w3:World}{L:List (List El)}{x:List El}{g1 c1:Nat}{v v' : Value}{vs:List Value}
  (h:RowsAt (fun k=>k<n0) (own base wr) wr base P L) (hn0:n0≤base) (ht:Turn (fun k=>wr.heap.size≤k) wr w2)
  (hx:SeesM (fun k=>wr.heap.size≤k∧k<w2.heap.size) w2 (some ⟨g1,0,none⟩) (x.map val)) (hxc:x.length≤c1) (hxo:∀y∈x,EOk (fun k=>k<n0) wr y)
  (h1:wr.heap[P]?=some (.cells #[v,.func (.func cmpF) #[] #[]] 283 (0,0))) (h2:wr.ownsRow base 47 1 v L.length vs) (h3:∀k,v.ownBlock=some k→own base wr k∧k≠P)
  (h4:∀i (hi:i<L.length),∃Ai ci,vs[i]?=some (.slice Ai (L[i]).length ci)∧(L[i]).length≤ci∧SeesM (fun k=>own base wr k∧k≠P∧v.ownBlock≠some k) wr Ai ((L[i]).map val))
  (hown:w3.ownsRow base 47 1 v' (L.length+1) (vs ++ [.slice (some ⟨g1,0,none⟩) x.length c1])) (hon:Onto w2 w3 v v') (hL:L.length+1≤1000000) :
  RowsAt (fun k=>k<n0) (own base (w3.setCell ⟨P,0,none⟩ v')) (w3.setCell ⟨P,0,none⟩ v') base P (L ++ [x])∧Turn (fun k=>base≤k) wr (w3.setCell ⟨P,0,none⟩ v'):=by
 have hs2:=ht.size
 have hs3:=hon.size
 obtain ⟨hP1,hP2⟩:=h.at_
 have hvs:vs.length=L.length:=by have:=h2.1;omega
 have hPv:v.ownBlock≠some P:=fun e=>(h3 P e).2 rfl
 have hv' : ∀k,k<w2.heap.size→v.ownBlock≠some k→v'.ownBlock≠some k:=fun k hk hne e=>by
  rcases hon.at_ with e2|⟨g,e2,hg⟩
  ·exact hne (e2 ▸ e)
  ·rw[e2] at e;injection e with e;omega
 have hPv':=hv' P (by omega) hPv
 have hk23:∀k,k<w2.heap.size→v.ownBlock≠some k→k≠P→(w3.setCell ⟨P,0,none⟩ v').heap[k]?=w2.heap[k]?:=fun k a b c =>
  (Below.heap_setCell _ _ _ _ c).trans (hon.grown.block k a (fun e=>b e.symm))
 have hkr:Kept (fun k=>k<wr.heap.size∧k≠P∧v.ownBlock≠some k) wr (w3.setCell ⟨P,0,none⟩ v'):=fun k hk =>
  (hk23 k (by omega) hk.2.2 hk.2.1).trans (ht.block k hk.1 (by omega))
 have hkm:Kept (fun k=>k<n0) wr (w3.setCell ⟨P,0,none⟩ v'):=hkr.mono fun k hk=>⟨by omega,by omega,fun e=>by have:=(h3 k e).1.1;omega⟩
 have hz:(w3.setCell ⟨P,0,none⟩ v').heap.size=w3.heap.size:=World.size_setCell _ _ _
 refine ⟨⟨⟨v',vs ++ [.slice (some ⟨g1,0,none⟩) x.length c1],?_,?_,?_,?_⟩,⟨hP1,by omega⟩,?_,fun k a b=>by have:=b.1;omega,fun k e=>by rcases e with e|e;exact e.2;omega,by simpa using hL⟩,?_⟩
 ·have h5:w3.heap[P]?=some (.cells #[v,.func (.func cmpF) #[] #[]] 283 (0,0)):=((hon.grown.block P (by omega) (fun e=>hPv e.symm)).trans (ht.block P hP2 (by omega))).trans h1
  rw[heap_setCell_same w3 P 0 _ _ v' h5]
  rfl
 ·rw[List.length_append]
  exact ownsRow_kept hown fun k e=>Below.heap_setCell _ _ _ _ (fun e2=>hPv' (by rw[←show k=P from e2];exact e))
 ·intro k e
  have:=World.ownsRow.lt hown k e
  exact ⟨⟨this.1,by omega⟩,fun e2=>hPv' (e2 ▸ e)⟩
 ·intro i hi
  by_cases hlt:i<L.length
  ·obtain ⟨Ai,ci,g1,g2,g3⟩:=h4 i hlt
   rw[List.getElem_append_left hlt,List.getElem?_append_left (by omega)]
   exact ⟨Ai,ci,g1,g2,(g3.keep (hkr.mono fun k e=>⟨e.1.2,e.2⟩)).mono fun k e=>⟨⟨e.1.1,by have:=e.1.2;omega⟩,e.2.1,hv' k (by have:=e.1.2;omega) e.2.2⟩⟩
  ·have he:i=L.length:=by simp at hi;omega
   subst he
   rw[List.getElem_append_right (Nat.le_refl _),List.getElem?_append_right (by omega)]
   have hne:∀k,wr.heap.size≤k→k≠P∧v.ownBlock≠some k:=fun k hk=>⟨by omega,fun e=>by have:=(h3 k e).1.2;omega⟩
   refine ⟨some ⟨g1,0,none⟩,c1,by simp[hvs],by simpa using hxc,?_⟩
   simp only[Nat.sub_self,List.getElem_cons_zero]
   exact (hx.keep fun k e=>hk23 k e.2 (hne k e.1).2 (hne k e.1).1).mono fun k e=>⟨⟨by have:=h.at_.2;have:=e.1;omega,by have:=e.2;omega⟩,(hne k e.1).1,hv' k e.2 (hne k e.1).2⟩
 ·intro r hr y hy
  rcases List.mem_append.1 hr with hr|hr
  ·exact (h.ok r hr y hy).keep hkm
  ·simp only[List.mem_singleton] at hr
   subst hr
   exact (hxo y hy).keep hkm
 ·exact ((ht.mono fun k _ e=>by omega).trans (Turn.onto hon fun k e=>(h3 k e).1.1)).trans (Turn.setCell _ _ _ hP1)
theorem tail_done {m q:Nat→Prop}{w w' : World}{base P g cap c0:Nat}{x:El}{r:List El}{T:List (List El)}{A0:Option Addr}{vs:List Value}
  (h:RowsAt m q w base P ((x :: r) :: T))
  (h1:w.heap[P]?=some (.cells #[.slice (some ⟨g,0,none⟩) (T.length+1) cap,.func (.func cmpF) #[] #[]] 283 (0,0))) (h2:w.ownsRow base 47 1 (.slice (some ⟨g,0,none⟩) (T.length+1) cap) (T.length+1) vs) (h3:q g) (h4:g≠P)
  (h6:∀i (hi:i<((x :: r) :: T).length),∃Ai ci,vs[i]?=some (.slice Ai (((x :: r) :: T)[i]).length ci)∧(((x :: r) :: T)[i]).length≤ci∧SeesM (fun k=>q k∧k≠P∧k≠g) w Ai ((((x :: r) :: T)[i]).map val))
  (hv:vs[0]?=some (.slice A0 (r.length+1) c0)) (hc:r.length+1≤c0) (hs:SeesM (fun k=>q k∧k≠P∧k≠g) w A0 ((x :: r).map val))
  (A1:Option Addr) (hA1:A1=if c0=1 then A0 else A0.map (fun a=>a.add 1)) (hw:Alk w' (w.setCell ⟨g,0,none⟩ (.slice A1 r.length (c0 - 1)))):RowsAt m q w' base P (r :: T)∧Turn q w w':=by
 obtain ⟨s1,g1⟩:=World.ownsRow.stored h2 0 (.slice A1 r.length (c0 - 1))
 have hkk:Kept (fun k=>k≠g) w w':=fun k hk=>by rw[hw.heap];exact Below.heap_setCell _ _ _ _ hk
 have hz:w'.heap.size=w.heap.size:=by rw[hw.heap];simp
 have hvs:vs.length=T.length+1:=by have:=h2.1;omega
 refine ⟨⟨⟨.slice (some ⟨g,0,none⟩) (T.length+1) cap,vs.set 0 (.slice A1 r.length (c0 - 1)),(hkk P (Ne.symm h4)).trans h1,ownsRow_kept (w:=w.setCell ⟨g,0,none⟩ (.slice A1 r.length (c0 - 1))) s1 (fun k _=>by rw[hw.heap]),fun k e => ?_,fun i hi => ?_⟩,h.at_,fun s hs y hy => ?_,h.apart,fun k e=>by rw[hz];exact h.lt k e,h.few⟩,?_⟩
 ·obtain rfl:g=k:=Option.some.inj e
  exact ⟨h3,h4⟩
 ·have hkeep:∀ {A:Option Addr}{xs:List Value},SeesM (fun k=>q k∧k≠P∧k≠g) w A xs→SeesM (fun k=>q k∧k≠P∧(Value.slice (some ⟨g,0,none⟩) (T.length+1) cap).ownBlock≠some k) w' A xs:=fun hs =>
   (hs.keep (hkk.mono fun k e=>e.2.2)).mono fun k e=>⟨e.1,e.2.1,fun e2=>e.2.2 (Option.some.inj e2).symm⟩
  match i,hi with
  | 0,hi =>
   refine ⟨A1,c0 - 1,?_,by simp;omega,hkeep ?_⟩
   ·rw[List.getElem?_set_self (by omega)];rfl
   ·show SeesM _ w A1 (r.map val)
    rcases hs.out with e|⟨ad,e,e2,e3⟩
    ·simp at e
    ·subst e
     by_cases hr:r = []
     ·subst hr;exact ⟨.inl rfl⟩
     ·have hpos:0<r.length:=List.length_pos_iff.2 hr
      rw[hA1,if_neg (by omega)]
      refine ⟨.inr ⟨ad.add 1,rfl,by rw[add_block];exact e2,fun j u hu => ?_⟩⟩
      rw[add_add',Nat.add_comm]
      exact e3 (j+1) u (by simpa using hu)
  | i+1,hi =>
   obtain ⟨Ai,ci,i1,i2,i3⟩:=h6 (i+1) (by simpa using hi)
   rw[List.getElem?_set_ne (by omega)]
   exact ⟨Ai,ci,i1,i2,hkeep i3⟩
 ·have hy' : EOk m w y:=by
   rcases List.mem_cons.1 hs with rfl|hs
   ·exact h.ok (x :: s) (by simp) y (by simp[hy])
   ·exact h.ok s (by simp[hs]) y hy
  exact hy'.keep (hkk.mono fun k e e2=>h.apart k e (e2 ▸ h3))
 ·exact hw.turn (Turn.setCell _ _ _ h3)
theorem all_any (A:Option Addr) (n c:Nat) (w:World):Calls Tryz.prog 190 #[.slice A n c,.func (.func cmpF) #[] #[]] w fun e w' =>
  e = .returned (.func (.func 233) #[] #[.pointer (some ⟨w.heap.size+1,0,none⟩),.pointer (some ⟨w.heap.size,0,none⟩)])∧w'=(w.alloc (.cells #[.slice A n c] 72)).alloc (.cells #[.func (.func cmpF) #[] #[]] 187):=by
 go_enter Tryz.func190,Tryz.ntmps190
 go_wp2
 go_ret
 exact ⟨rfl,rfl⟩
end KB
namespace KB
open Go.RowKit Go.Shelf
attribute [local go_sem] Oper.semAt_some
def AllOk (n0:Nat) (K:List Key) (_:Nat→Prop) (pre:List El) (x:El) (W:World):Prop :=
 EOk (fun k=>k<n0) W x∧(pre.map key ++ [key x]) <+: K∧n0≤W.heap.size
theorem rowinfo:(Tryz.prog.info? 47).map (fun i=>(i.zero,i.size,i.bytes))=some (some (.slice none 0 0),1,24):=by kernel_rfl
theorem told_lt {pre:List El}{x:El}{K:List Key}(h:(pre.map key ++ [key x]) <+: K):pre.length<K.length:=by
 have:=h.length_le
 rw[List.length_append,List.length_map,List.length_singleton] at this
 omega
theorem all1_seq {w:World}{ll:List (List El)}{A:Option Addr}{n c:Nat}(n0:Nat) (hR:RowsIn (fun k=>k<n0) w A ll) (hn:ll.length=n) (hn6:n≤100000) (hl:∀r∈ll,r.length≤1000000) (B2 B3:Nat)
  (h2:w.cell? ⟨B2,0,none⟩=some (.slice A n c)) (h3:w.cell? ⟨B3,0,none⟩=some (.func (.func cmpF) #[] #[])) (hB2:B2<w.heap.size) (hB3:B3<w.heap.size) (hn0:n0≤w.heap.size) (nf:Nat) :
  SeqT Fence.wide nf Tryz.prog 233 #[.pointer (some ⟨B3,0,none⟩),.pointer (some ⟨B2,0,none⟩)] (fun x:El => #[val x]) (fun k=>k<n0∨k=B2∨k=B3) (fun _=>False) (AllOk n0 (sortK lt (ll.flatten.map key))) (fun xs=>xs.map key=sortK lt (ll.flatten.map key)) (fun pre=>pre.map key <+: sortK lt (ll.flatten.map key)) (sortK lt (ll.flatten.map key)).length w:=by
 intro l J Jx W hW hJ hJx hY h0
 have hkR:Kept (fun k=>k<n0∨k=B2∨k=B3) w W:=Kept.of_below hW (fun k hk=>by rcases hk with hk|rfl|rfl<;>omega)
 have hRW:=hR.keep (hkR.mono fun k hk => .inl hk)
 have h2W:=(hkR.cell (p:=⟨B2,0,none⟩) (.inr (.inl rfl))).trans h2
 have h3W:=(hkR.cell (p:=⟨B3,0,none⟩) (.inr (.inr rfl))).trans h3
 have hnW:n0≤W.heap.size:=Nat.le_trans hn0 hW.size
 have hB2W:B2<W.heap.size:=Nat.lt_of_lt_of_le hB2 hW.size
 have hB3W:B3<W.heap.size:=Nat.lt_of_lt_of_le hB3 hW.size
 obtain ⟨K,hK⟩:∃K,sortK lt (ll.flatten.map key)=K:=⟨_,rfl⟩
 rw[hK] at hY ⊢
 have HK:=Lib.hid hK
 have HN:=Lib.hid hn
 have HL:=Lib.hid hl
 have hst:=RowsAt.start W n0 hnW
 have hJ0:=hJ _ _ _ _ h0 (Turn.alloc W (.cells #[.slice none 0 0,.func (.func cmpF) #[] #[]] 283))
 have hk0:Kept (fun k=>k<W.heap.size) W (W.alloc (.cells #[.slice none 0 0,.func (.func cmpF) #[] #[]] 283)):=fun k hk=>Below.heap_alloc _ _ _ hk
 have HK0:=Lib.hid hk0
 have hsub:∀k,grown (fun _=>False) W (W.alloc (.cells #[.slice none 0 0,.func (.func cmpF) #[] #[]] 283)) k↔own W.heap.size (W.alloc (.cells #[.slice none 0 0,.func (.func cmpF) #[] #[]] 283)) k:=fun k=>by
  unfold grown own
  simp
 have HSUB:=Lib.hid hsub
 generalize hgen:grown (fun _=>False) W (W.alloc (.cells #[.slice none 0 0,.func (.func cmpF) #[] #[]] 283))=s0 at hJ0 HSUB
 clear hR h2 h3 hK hn hl hkR h0 hW hB2 hB3 hn0 hk0 hsub hgen
 obtain ⟨ti,hi,hz0,hz1,hz2⟩:=info_parts rowinfo
 have HI:=Lib.hid hi
 have HZ0:=Lib.hid hz0
 have HZ1:=Lib.hid hz1
 have HZ2:=Lib.hid hz2
 clear hi hz0 hz1 hz2
 refine callsIn_of_wp Tryz.func233 rfl trivial ?_ rfl
 simp only[Tryz.ntmps233,List.size_toArray,List.length_cons,List.length_nil,Nat.reduceAdd,Nat.reduceSub,Array.replicate_succ,Array.replicate_zero,List.push_toArray,List.append_toArray,List.nil_append,List.cons_append]
 gi_wp2_with fail
 gi_loopg [12] n (fun g i wr=>∃(k:Nat) (s:Nat→Prop) (L:List (List El)),k+g=n∧i = .int .i64 k∧J s [] wr∧RowsAt (fun k=>k<n0) (own W.heap.size wr) wr W.heap.size W.heap.size L∧L.length≤k∧Hid ((∀r∈L,r ≠ []∧Wk lt (r.map key))∧L.flatten.Perm (ll.take k).flatten)∧Kept (fun k=>k<W.heap.size) W wr∧W.heap.size<wr.heap.size∧Hid (∀k,s k↔own W.heap.size wr k))
 case atStart=>exact ⟨0,s0, [],by omega,rfl,hJ0,hst,Nat.le_refl _,⟨by simp,by simp⟩,HK0.out,by simp,HSUB.out⟩
 case round =>
  obtain ⟨k,s,L,hk,rfl,hJs,hrows,hLk,hrel,hkept,hsz,hs⟩:=hrel
  clear hJ0 hst HK0 HSUB
  by_cases hlt:k<n
  ·have hRr:=(hRW.keep (hkept.mono fun k e=>Nat.lt_of_lt_of_le e hnW)).mono (m':=fun k=>k<wr.heap.size) (fun k e=>by omega)
   obtain ⟨ad,Ak,ck,rfl,hadm,hcell,hck,hsee,hxs⟩:=(hRW.keep (hkept.mono fun k e=>Nat.lt_of_lt_of_le e hnW)).out k (by have:=HN.out;omega)
   have h3r:wr.cell? ⟨B3,0,none⟩=some (.func (.func cmpF) #[] #[]):=(hkept.cell (p:=⟨B3,0,none⟩) hB3W).trans h3W
   have hlen:=HL.out _ (List.getElem_mem (by have:=HN.out;omega:k<ll.length))
   have htk:=List.take_succ_eq_append_getElem (by have:=HN.out;omega:k<ll.length)
   obtain ⟨xs,hxs2⟩:∃xs,ll[k]'(by have:=HN.out;omega)=xs:=⟨_,rfl⟩
   rw[hxs2] at hcell hck hsee hxs hlen htk
   obtain ⟨lk,hlk⟩:∃lk,xs.length=lk:=⟨_,rfl⟩
   rw[hlk] at hcell hck hlen
   have HTK:=Lib.hid htk
   have HLK:=Lib.hid hlk
   have HXS:=Lib.hid hxs
   clear hRr htk hlk hxs2 hxs
   by_cases hl0:lk=0
   ·have hz:¬ (0:Int)<(lk:Int):=by omega
    have hx0:Hid (xs = []):=List.eq_nil_of_length_eq_zero (by rw[HLK.out];exact hl0)
    clear hl0
    gi_wp2_with fail
    gi_roundg (n - (k+1))
    case measure=>omega
    case rel=>exact ⟨k+1,s,L,by omega,by go_num,hJs,hrows,by omega,⟨hrel.out.1,by rw[HTK.out,hx0.out,List.flatten_append];simpa using hrel.out.2⟩,hkept,hsz,hs⟩
   ·have hpos:(0:Int)<(lk:Int):=by omega
    have hcl:=Lib.hid (Clone_any Ak lk ck xs HLK.out wr (hsee.sees fun k e=>by omega) hlen)
    clear hsee
    gi_wp2_with fail
    refine ⟨trivial,fun h=>absurd h (by simp[Fence.wide]),(callsIn_wide.2 hcl.out).mono ?_⟩
    rintro e w1 ⟨v1,rfl,hown1,hb1⟩
    rw[HLK.out] at hown1
    have hs1:=hb1.size
    obtain ⟨g1,c1,rfl⟩:∃g1 c1,v1 = .slice (some ⟨g1,0,none⟩) lk c1:=by
     obtain ⟨g1,c1,e⟩:=ownsRow_succ (k:=lk - 1) (by rw[show lk - 1+1=lk from by omega];exact hown1)
     exact ⟨g1,c1,by rw[e,show lk - 1+1=lk from by omega]⟩
    have hg1:=World.ownsRow.lt hown1 g1 rfl
    have h31:w1.cell? ⟨B3,0,none⟩=some (.func (.func cmpF) #[] #[]):=(hb1.cell (p:=⟨B3,0,none⟩) (by simp only;omega)).trans h3r
    have hso:=Lib.hid (SortFunc_any (fun k=>k<n0) wr.heap.size g1 c1 lk xs (fun e=>by have:=HLK.out;rw[e] at this;simp at this;omega) HLK.out w1 hown1 (fun x hx=>(HXS.out x hx).keep (Kept.of_below hb1 fun k e=>by omega)) (fun k e=>⟨by omega,by omega⟩) hlen)
    clear hcl h3r
    gi_wp2_with fail
    refine ⟨trivial,fun h=>absurd h (by simp[Fence.wide]),(callsIn_wide.2 hso.out).mono ?_⟩
    rintro e w2 ⟨rfl,ls,hperm,hwk,hown2,ht2⟩
    have hs2:=ht2.size
    have htr2:Turn (fun k=>wr.heap.size≤k) wr w2:=(Turn.of_new hb1).trans (ht2.mono fun k _ e=>by omega)
    obtain ⟨v,vs,r1,r2,r3,r4⟩:=hrows.out
    have hP2:w2.heap[W.heap.size]?=some (.cells #[v,.func (.func cmpF) #[] #[]] 283 (0,0)):=(htr2.block _ hsz (by omega)).trans r1
    have hro2:w2.ownsRow W.heap.size 47 1 v L.length vs:=ownsRow_kept r2 fun k e=>htr2.block _ (r3 k e).1.2 (by have:=(r3 k e).1.2;omega)
    have hvP:v.ownBlock≠some W.heap.size:=fun e=>(r3 _ e).2 rfl
    obtain ⟨Av,cv,rfl⟩:∃Av cv,v = .slice Av L.length cv:=by
     rcases r2.2 with ⟨rfl,hn⟩|⟨g,cap,cur,rfl, -⟩
     ·exact ⟨none,0,by rw[hn]⟩
     ·exact ⟨_,cap,rfl⟩
    have p0:=(cells_of hP2 0).1
    have f0:=(cells_of hP2 0).2
    simp only[List.getElem?_toArray,List.getElem?_cons_zero] at p0
    have hlsl:ls.length=lk:=by rw[hperm.length_eq];exact HLK.out
    have hnew:∀(j:Nat) (u:Value), [Value.slice (some ⟨g1,0,none⟩) lk c1][j]?=some u→(w2.alloc (.cells #[.slice (some ⟨g1,0,none⟩) lk c1] 47)).cell? ((⟨w2.heap.size,0,none⟩:Addr).add j)=some u:=fun j u hu=>by
     match j,hu with
     | 0,hu=>(simp at hu;subst hu;rw[Addr.add_lit,World.cell?_alloc_at _ _ _ _ rfl];rfl)
    have HNEW:=Lib.hid hnew
    have hro3:(w2.alloc (.cells #[.slice (some ⟨g1,0,none⟩) lk c1] 47)).ownsRow W.heap.size 47 1 (.slice Av L.length cv) L.length vs:=hro2.alloc _
    have hpst:w2.heap.size≠W.heap.size:=by omega
    have hown2':=Lib.hid hown2
    have htr3:Turn (fun k=>wr.heap.size≤k) wr (w2.alloc (.cells #[.slice (some ⟨g1,0,none⟩) lk c1] 47)):=htr2.trans (Turn.alloc _ _)
    have HLSL:=Lib.hid hlsl
    clear hso hown1 hnew hlsl hown2
    gi_wp2_with ((with_reducible refine wpListIn_append_own_at _ (o := { dst:=some 31,op:=Op.call { callee:=Callee.builtin Builtin.append,args := #[Operand.tmp 28,Operand.tmp 30],argTypes := #[72,72] },type:=72,pos := "kmerge.go:41",after := #[{ on:=4,ground:=Ground.data }, { on:=6,ground:=Ground.data }],guard:=none }) ?_ (.tmp 28) (.tmp 30) 72 ?_ W.heap.size 47 ti (.slice none 0 0) 1 24 ?_ HI.out HZ0.out HZ1.out HZ2.out ?_ ?_ (.slice Av L.length cv) L.length vs ?_ hro3 ⟨w2.heap.size,0,none⟩ 1 1 [.slice (some ⟨g1,0,none⟩) lk c1] ?_ ?_ HNEW.out ?_ ?_ ?_ ?_ ?_);exact rfl;exact rfl;exact Tryz.underlying72;exact rfl;omega;exact rfl;exact rfl;exact rfl;(exact fun u hu=>by simp at hu;subst hu;rfl);(simp only[maxLen];omega);omega;(simp;omega);intro v' w3 hown3 hg3 _ hat3;obtain ⟨gv,cv',rfl⟩:=ownsRow_succ hown3;have hp3:w3.heap[W.heap.size]?=some (.cells #[.slice Av L.length cv,.func (.func cmpF) #[] #[]] 283 (0,0)):=((hg3.block W.heap.size (by simp;omega) (fun e=>hvP e.symm)).trans (Below.heap_alloc _ _ _ (by omega))).trans hP2;have hp3c:=(cells_of hp3 0).1;have hp3f:=(cells_of hp3 0).2;simp only[List.getElem?_toArray,List.getElem?_cons_zero] at hp3c)
    have hon3:Onto (w2.alloc (.cells #[.slice (some ⟨g1,0,none⟩) lk c1] 47)) w3 (.slice Av L.length cv) (.slice (some ⟨gv,0,none⟩) (L.length+1) cv'):=⟨hg3,by rcases hat3 with e|e;exact .inl e;exact .inr ⟨_,e,Nat.le_refl _⟩⟩
    have hsx:SeesM (fun k=>wr.heap.size≤k∧k<(w2.alloc (.cells #[.slice (some ⟨g1,0,none⟩) lk c1] 47)).heap.size) (w2.alloc (.cells #[.slice (some ⟨g1,0,none⟩) lk c1] 47)) (some ⟨g1,0,none⟩) (ls.map val) :=
     ⟨.inr ⟨⟨g1,0,none⟩,rfl,⟨hg1.1,by simp;omega⟩,World.ownsRow.cells (hown2'.out.alloc _) (g:=g1) rfl⟩⟩
    have hcap1:lk≤c1:=by
     rcases hown2'.out.2 with ⟨h0, -⟩|⟨_,_,_,hv, -, -,hnc, -⟩
     ·cases h0
     ·injection hv with _ _ h3;omega
    obtain ⟨hrows2,hturn⟩:=push_done (x:=ls) hrows hnW htr3 hsx (by rw[HLSL.out];exact hcap1) (fun y hy=>HXS.out y (hperm.mem_iff.1 hy)) r1 r2 r3 r4 (by rw[HLSL.out];exact hown3) hon3 (by omega)
    have hJ2:=hJ _ _ _ _ hJs (hturn.mono fun j hj e=>hs.out j |>.2 ⟨e,hj⟩)
    have hsz2:=hturn.size
    have hk2:Kept (fun k=>k<W.heap.size) W (w3.setCell ⟨W.heap.size,0,none⟩ (.slice (some ⟨gv,0,none⟩) (L.length+1) cv')):=hkept.trans (Kept.of_turn hturn fun k e=>⟨by omega,by omega⟩)
    gi_wp2_with fail
    gi_roundg (n - (k+1))
    case measure=>omega
    case rel=>exact ⟨k+1,_,L ++ [ls],by omega,by go_num,hJ2,hrows2,by simpa using hLk,⟨fun r hr=>by rcases List.mem_append.1 hr with hr|hr;exact hrel.out.1 r hr;(simp only[List.mem_singleton] at hr;subst hr;exact ⟨fun e=>by have:=HLSL.out;rw[e] at this;simp at this;omega,hwk⟩),by rw[HTK.out,List.flatten_append,List.flatten_append];exact hrel.out.2.append (by simpa using hperm)⟩,hk2,by omega,fun j=>by unfold grown;rw[hs.out j];unfold own;omega⟩
  ·have hkn:k=n:=by omega
   have hperm:Hid (L.flatten.Perm ll.flatten):=by
    have:=hrel.out.2
    rw[List.take_of_length_le (by have:=HN.out;omega)] at this
    exact this
   have hinit:=Lib.hid (Init_any (heapI (fun k=>k<n0) (own W.heap.size wr) W.heap.size W.heap.size wr) L wr ⟨hrows,Turn.refl _ _⟩ (fun r hr=>(hrel.out.1 r hr).1))
   clear hrows
   gi_wp2_with fail
   refine ⟨trivial,fun h=>absurd h (by simp[Fence.wide]),(callsIn_wide.2 hinit.out).mono ?_⟩
   rintro e w1 ⟨vi,M,rfl,⟨hrows1,hturn1⟩,hhp,hpm⟩
   have hJ1:=hJ _ _ _ _ hJs (hturn1.mono fun j hj e=>(hs.out j).2 e)
   have hM:=Lib.hid (MergeI.start (lt:=lt) (key:=key) hpm hperm.out (fun r hr=>(hrel.out.1 r hr).1) (fun r hr=>(hrel.out.1 r hr).2) hhp)
   have hqs:∀k,own W.heap.size wr k→grown s wr w1 k:=fun k e => .inl ((hs.out k).2 e)
   have hsl:∀k,grown s wr w1 k→k<w1.heap.size:=fun k e=>by
    have:=hturn1.size
    rcases e with e|e
    ·have:=((hs.out k).1 e).2;omega
    ·exact e.2
   have HQS:=Lib.hid hqs
   have HSL:=Lib.hid hsl
   have hn1:n0≤w1.heap.size:=by have:=hturn1.size;omega
   obtain ⟨q,hq⟩:∃q,own W.heap.size wr=q:=⟨_,rfl⟩
   rw[hq] at hrows1 HQS
   generalize grown s wr w1=s1 at hJ1 HQS HSL
   clear hinit hturn1 hhp hpm hJs hs hkept hperm hrel hqs hsl hq h3W h2W hRW
   gi_wp2_with fail
   gi_loopg [38] M.flatten.length (fun g _ wr=>∃(L:List (List El)) (pre:List El) (s:Nat→Prop),Hid (L.flatten.length=g)∧J s pre wr∧RowsAt (fun k=>k<n0) q wr W.heap.size W.heap.size L∧Hid (MergeI lt key ll.flatten pre L)∧Hid (∀k,q k→s k)∧Hid (∀k,s k→k<wr.heap.size)∧n0≤wr.heap.size)
   case atStart=>exact ⟨M, [],s1,rfl,hJ1,hrows1,hM.out,HQS.out,HSL.out,hn1⟩
   case round =>
    obtain ⟨L,pre,s,hg,hJs,hrows,hm,hqs,hsl,hn1⟩:=hrel
    clear hJ1 hrows1 hM HQS HSL
    cases L with
    | nil =>
     obtain ⟨v,vs,r1,r2,r3,r4⟩:=hrows.out
     obtain ⟨Av,cv,rfl⟩:∃Av cv,v = .slice Av 0 cv:=by
      rcases r2.2 with ⟨rfl,hn⟩|⟨g,cap,cur,rfl, -⟩
      ·exact ⟨none,0,rfl⟩
      ·exact ⟨_,cap,rfl⟩
     have p0:=(cells_of r1 0).1
     simp only[List.getElem?_toArray,List.getElem?_cons_zero] at p0
     clear r1 r2 r3 r4
     gi_wp2_with fail
     go_end0
     exact ⟨⟨_,rfl⟩,.inl ⟨s,pre,hm.out.done ordr |>.trans HK.out,hJs⟩⟩
    | cons L0 T =>
     cases L0 with
     | nil=>exact absurd rfl (hm.out.some [] (by simp))
     | cons x r =>
      obtain ⟨g,cap,vs,r1,r2,r3,r4,r5,r6⟩:=hrows.some (by simp)
      obtain ⟨A0,c0,i1,i2,i3⟩:=r6 0 (by simp)
      simp only[List.getElem_cons_zero] at i1 i2 i3
      have ei:=World.ownsRow.cellAt r2 0 (by simp)
      rw[i1] at ei
      have p0:=(cells_of r1 0).1
      simp only[List.getElem?_toArray,List.getElem?_cons_zero] at p0
      obtain ⟨ad0,hA0,hx0⟩:∃ad,A0=some ad∧wr.cell? ad=some (val x):=by
       rcases i3.out with e|⟨ad,e1, -,e2⟩
       ·simp at e
       ·exact ⟨ad,e1,by have:=e2 0 (val x) (by simp);simpa[Addr.add] using this⟩
      obtain rfl:=hA0
      have htold:=hm.out.told ordr rfl
      rw[HK.out] at htold
      have hxok:=hrows.ok (x :: r) (by simp) x (by simp)
      have hY1:=hY s pre x wr hJs (told_lt htold) ⟨hxok,htold,hn1⟩
      have HTOLD:=Lib.hid htold
      obtain ⟨fn,tmps,assign,body,hyy,hR⟩:=hY1
      have hHp:=hm.out.hp
      obtain ⟨vx,hvx⟩:∃vx,val x=vx:=⟨_,rfl⟩
      have hmN:=fun (M:List (List El))=>hm.out.next ordr (x:=x) (r:=r) (T:=T) (M:=M) rfl
      have HMN:=Lib.hid hmN
      rw[hvx] at hx0 hyy
      simp only[List.length_cons] at p0 r1 r2 r5 ei i2 hHp
      obtain ⟨nT,hnT⟩:∃nT,T.length=nT:=⟨_,rfl⟩
      obtain ⟨nr,hnr⟩:∃nr,r.length=nr:=⟨_,rfl⟩
      have HNT:=Lib.hid hnT
      have HNR:=Lib.hid hnr
      have hT6:=hrows.few
      simp only[List.length_cons] at hT6
      rw[hnT] at p0 r5 hT6
      rw[hnr] at ei i2
      have HHP:=Lib.hid hHp
      clear hmN htold hvx hHp hnT hnr
      gi_wp2_with fail
      refine ⟨fun h=>absurd h (by simp[Fence.wide]),hR.mono ?_⟩
      rintro e w4 (⟨rfl,hJ4,ht4⟩|⟨rfl,hJx4, -⟩)
      ·have hk4:Kept (fun k=>q k∨k<n0) wr w4:=Kept.of_turn ht4 (fun k hk=>⟨by rcases hk with hk|hk;exact hsl.out k (hqs.out k hk);omega,fun e=>by rcases hk with hk|hk;exact e.1 (hqs.out k hk);exact e.2 (.inl hk)⟩)
       have hrows4:=hrows.keep hk4 ht4.size
       have r14:=(hk4 _ (.inl hrows.at_)).trans r1
       have r24:=ownsRow_kept r2 fun k e=>hk4 k (.inl (by obtain rfl:g=k:=Option.some.inj e;exact r3))
       have p04:=(cells_of r14 0).1
       simp only[List.getElem?_toArray,List.getElem?_cons_zero] at p04
       rw[HNT.out] at p04
       have ei4:=(World.ownsRow.cellAt r24 0 (by simp)).trans i1
       simp only[List.length_cons] at ei4
       rw[HNR.out] at ei4
       have f04:=World.ownsRow.frozenAt r24 0
       have r64:∀i (hi:i<((x :: r) :: T).length),∃Ai ci,vs[i]?=some (.slice Ai (((x :: r) :: T)[i]).length ci)∧(((x :: r) :: T)[i]).length≤ci∧SeesM (fun k=>q k∧k≠W.heap.size∧k≠g) w4 Ai ((((x :: r) :: T)[i]).map val):=fun i hi=>by
        obtain ⟨Ai,ci,j1,j2,j3⟩:=r6 i hi
        exact ⟨Ai,ci,j1,j2,j3.keep (hk4.mono fun k e => .inl e.1)⟩
       have hsl4:∀k,s k→k<w4.heap.size:=fun k e=>Nat.lt_of_lt_of_le (hsl.out k e) ht4.size
       have hn4:n0≤w4.heap.size:=Nat.le_trans hn1 ht4.size
       have i34:=i3.keep (hk4.mono fun k e => .inl e.1)
       have R64:=Lib.hid r64
       have HSL4:=Lib.hid hsl4
       have hrr:=Lib.hid hrows4
       have hcut:∀(c1:c0=1),nr=0:=fun c1=>by omega
       clear hrows r1 r2 r6 i3 hk4 r64 hsl4 hrows4
       by_cases hc1:c0=1
       ·have hnr0:nr=0:=hcut hc1
        subst hc1 hnr0
        gi_wp2_with fail
        refine wpIn_wide.2 ?_
        go_region
        obtain ⟨w5,hw5⟩:∃w5,(w4.setCell ⟨g,0,none⟩ (.slice (some ad0) 0 0)).drew=w5:=⟨_,rfl⟩
        rw[hw5]
        have hal:Alk w5 (w4.setCell ⟨g,0,none⟩ (.slice (some ad0) r.length (1 - 1))):=by rw[←hw5,HNR.out];exact ⟨rfl,rfl,rfl,rfl⟩
        obtain ⟨hrows5,hturn5⟩:=tail_done hrr.out r14 r24 r3 r4 R64.out i1 (by rw[HNR.out];exact i2) i34 (some ad0) (by rw[if_pos rfl]) hal
        clear hw5 hal p04 ei4 f04
        obtain rfl:r = []:=List.eq_nil_of_length_eq_zero HNR.out
        obtain ⟨g5,cap5,vs5,t1,t2,t3,t4,t5,t6⟩:=hrows5.some (by simp)
        obtain ⟨A5,c5,j1,j2,j3⟩:=t6 0 (by simp)
        simp only[List.getElem_cons_zero] at j1 j2
        have ei5:=(World.ownsRow.cellAt t2 0 (by simp)).trans j1
        have p05:=(cells_of t1 0).1
        simp only[List.getElem?_toArray,List.getElem?_cons_zero,List.length_cons,List.length_nil] at p05 ei5
        rw[HNT.out] at p05
        have hne5:∀s∈T,s ≠ []:=fun s hs=>hm.out.some s (by simp[hs])
        have hcall:=Lib.hid (Pop_any (heapI (fun k=>k<n0) q W.heap.size W.heap.size w5) [] T w5 ⟨hrows5,Turn.refl _ _⟩ (HHP.out.set0 ([]:List El)) hne5)
        clear t1 t2 t3 t4 t5 t6 j1 j2 j3 hne5 hrows5 r14 r24 i34 i1
        gi_wp2_with fail
        refine ⟨trivial,fun h=>absurd h (by simp[Fence.wide]),(callsIn_wide.2 hcall.out).mono ?_⟩
        rintro e w6 ⟨v6,M6,rfl,⟨hrows6,hturn6⟩,hhp6,hpm6⟩
        have ht46:Turn s w4 w6:=(hturn5.trans hturn6).mono fun j _ e=>hqs.out j e
        have hJ6:=hJ _ _ _ _ hJ4 ht46
        have hM6:=HMN.out M6 (by simpa using hpm6) hhp6
        have hfl6:=hpm6.flatten.length_eq
        have hgg:=hg.out
        clear hcall hturn5 hturn6 hhp6 hpm6
        gi_wp2_with fail
        gi_roundg M6.flatten.length
        case measure=>(rw[hfl6, ←hgg];simp)
        case rel=>exact ⟨M6,pre ++ [x],_,rfl,hJ6,hrows6,hM6,fun k e => .inl (hqs.out k e),fun k e=>by have:=ht46.size;(rcases e with e|e;(have:=HSL4.out k e;omega);exact e.2),by have:=ht46.size;omega⟩
       ·by_cases hnr0:nr=0
        ·subst hnr0
         gi_wp2_with fail
         refine wpIn_wide.2 ?_
         go_region
         obtain ⟨w5,hw5⟩:∃w5,(w4.setCell ⟨g,0,none⟩ (.slice (some ⟨ad0.block,ad0.off+1,none⟩) 0 (c0 - 1))).drew=w5:=⟨_,rfl⟩
         rw[hw5]
         have hal:Alk w5 (w4.setCell ⟨g,0,none⟩ (.slice (some ⟨ad0.block,ad0.off+1,none⟩) r.length (c0 - 1))):=by rw[←hw5,HNR.out];exact ⟨rfl,rfl,rfl,rfl⟩
         obtain ⟨hrows5,hturn5⟩:=tail_done hrr.out r14 r24 r3 r4 R64.out i1 (by rw[HNR.out];exact i2) i34 (some ⟨ad0.block,ad0.off+1,none⟩) (by rw[if_neg hc1];rfl) hal
         clear hw5 hal p04 ei4 f04
         obtain rfl:r = []:=List.eq_nil_of_length_eq_zero HNR.out
         obtain ⟨g5,cap5,vs5,t1,t2,t3,t4,t5,t6⟩:=hrows5.some (by simp)
         obtain ⟨A5,c5,j1,j2,j3⟩:=t6 0 (by simp)
         simp only[List.getElem_cons_zero] at j1 j2
         have ei5:=(World.ownsRow.cellAt t2 0 (by simp)).trans j1
         have p05:=(cells_of t1 0).1
         simp only[List.getElem?_toArray,List.getElem?_cons_zero,List.length_cons,List.length_nil] at p05 ei5
         rw[HNT.out] at p05
         have hne5:∀s∈T,s ≠ []:=fun s hs=>hm.out.some s (by simp[hs])
         have hcall:=Lib.hid (Pop_any (heapI (fun k=>k<n0) q W.heap.size W.heap.size w5) [] T w5 ⟨hrows5,Turn.refl _ _⟩ (HHP.out.set0 ([]:List El)) hne5)
         clear t1 t2 t3 t4 t5 t6 j1 j2 j3 hne5 hrows5 r14 r24 i34 i1
         gi_wp2_with fail
         refine ⟨trivial,fun h=>absurd h (by simp[Fence.wide]),(callsIn_wide.2 hcall.out).mono ?_⟩
         rintro e w6 ⟨v6,M6,rfl,⟨hrows6,hturn6⟩,hhp6,hpm6⟩
         have ht46:Turn s w4 w6:=(hturn5.trans hturn6).mono fun j _ e=>hqs.out j e
         have hJ6:=hJ _ _ _ _ hJ4 ht46
         have hM6:=HMN.out M6 (by simpa using hpm6) hhp6
         have hfl6:=hpm6.flatten.length_eq
         have hgg:=hg.out
         clear hcall hturn5 hturn6 hhp6 hpm6
         gi_wp2_with fail
         gi_roundg M6.flatten.length
         case measure=>(rw[hfl6, ←hgg];simp)
         case rel=>exact ⟨M6,pre ++ [x],_,rfl,hJ6,hrows6,hM6,fun k e => .inl (hqs.out k e),fun k e=>by have:=ht46.size;(rcases e with e|e;(have:=HSL4.out k e;omega);exact e.2),by have:=ht46.size;omega⟩
        ·have hnr1:¬ ((nr:Int)+1<1):=by omega
         gi_wp2_with fail
         refine wpIn_wide.2 ?_
         go_region
         obtain ⟨w5,hw5⟩:∃w5,(w4.setCell ⟨g,0,none⟩ (.slice (some ⟨ad0.block,ad0.off+1,none⟩) nr (c0 - 1))).drew=w5:=⟨_,rfl⟩
         rw[hw5]
         have hal:Alk w5 (w4.setCell ⟨g,0,none⟩ (.slice (some ⟨ad0.block,ad0.off+1,none⟩) r.length (c0 - 1))):=by rw[←hw5,HNR.out];exact ⟨rfl,rfl,rfl,rfl⟩
         obtain ⟨hrows5,hturn5⟩:=tail_done hrr.out r14 r24 r3 r4 R64.out i1 (by rw[HNR.out];exact i2) i34 (some ⟨ad0.block,ad0.off+1,none⟩) (by rw[if_neg hc1];rfl) hal
         clear hw5 hal p04 ei4 f04
         obtain ⟨g5,cap5,vs5,t1,t2,t3,t4,t5,t6⟩:=hrows5.some (by simp)
         obtain ⟨A5,c5,j1,j2,j3⟩:=t6 0 (by simp)
         simp only[List.getElem_cons_zero] at j1 j2
         have ei5:=(World.ownsRow.cellAt t2 0 (by simp)).trans j1
         have p05:=(cells_of t1 0).1
         simp only[List.getElem?_toArray,List.getElem?_cons_zero,List.length_cons] at p05 ei5
         rw[HNT.out] at p05
         rw[HNR.out] at ei5
         have hnrz:((nr:Int)==0)=false:=by rw[beq_eq_false_iff_ne];omega
         have hne5:∀s∈(r :: T),s ≠ []:=fun s hs=>by rcases List.mem_cons.1 hs with rfl|hs;(intro e;have:=HNR.out;rw[e] at this;simp at this;omega);exact hm.out.some s (by simp[hs])
         have hcall:=Lib.hid (Fix_any (heapI (fun k=>k<n0) q W.heap.size W.heap.size w5) (r :: T) w5 ⟨hrows5,Turn.refl _ _⟩ (HHP.out.set0 r) hne5)
         clear t1 t2 t3 t4 t5 t6 j1 j2 j3 hne5 hrows5 r14 r24 i34 i1
         gi_wp2_with fail
         refine ⟨trivial,fun h=>absurd h (by simp[Fence.wide]),(callsIn_wide.2 hcall.out).mono ?_⟩
         rintro e w6 ⟨v6,M6,rfl,⟨hrows6,hturn6⟩,hhp6,hpm6⟩
         have ht46:Turn s w4 w6:=(hturn5.trans hturn6).mono fun j _ e=>hqs.out j e
         have hJ6:=hJ _ _ _ _ hJ4 ht46
         have hM6:=HMN.out M6 (by rw[if_neg (fun e=>by have:=HNR.out;rw[e] at this;simp at this;omega)];exact hpm6) hhp6
         have hfl6:=hpm6.flatten.length_eq
         have hgg:=hg.out
         clear hcall hturn5 hturn6 hhp6 hpm6
         gi_wp2_with fail
         gi_roundg M6.flatten.length
         case measure=>(rw[hfl6, ←hgg];simp)
         case rel=>exact ⟨M6,pre ++ [x],_,rfl,hJ6,hrows6,hM6,fun k e => .inl (hqs.out k e),fun k e=>by have:=ht46.size;(rcases e with e|e;(have:=HSL4.out k e;omega);exact e.2),by have:=ht46.size;omega⟩
      ·gi_wp2_with fail
       refine bodyPost_ret (results_none rfl _ _ _) rfl ?_
       exact ⟨⟨_,rfl⟩,.inr ⟨s,_,by rw[List.map_append];exact HTOLD.out,hJx4⟩⟩
end KB
section
section
variable {β κ : Type} [DecidableEq κ] {key : β → κ}
def tk (key:β→κ) (y:β×Nat):κ×Nat:=(key y.1,y.2)
structure CntI (key:β→κ) (K:List κ) (op:List (β×Nat)) (a:β) (m:Nat) (pre:List β):Prop where
 out:(m=0∧pre = []∧op = [])∨(1≤m∧m≤pre.length∧∃rest,K=pre.map key++rest∧op.map (tk key)++runsA (key a) m rest=runs K)
variable {K : List κ} {op : List (β × Nat)} {a x : β} {m : Nat} {pre : List β}
theorem CntI.start (a:β):CntI key K [] a 0 []:=⟨.inl ⟨rfl,rfl,rfl⟩⟩
theorem CntI.first (h:CntI key K op a 0 pre) (hp:(pre.map key ++ [key x]) <+: K):CntI key K op x 1 (pre ++ [x]):=by
 rcases h.out with ⟨-,rfl,rfl⟩|⟨h0, -⟩
 ·obtain ⟨rest,hr⟩:=hp
  refine ⟨.inr ⟨by omega,by simp,rest,?_,?_⟩⟩
  ·rw[←hr];simp
  ·rw[←hr];simp[runs]
 ·omega
theorem CntI.split (h:CntI key K op a m pre) (hm:1≤m) (hp:(pre.map key ++ [key x]) <+: K):∃rest,K=(pre ++ [x]).map key++rest∧op.map (tk key)++runsA (key a) m (key x :: rest)=runs K:=by
 rcases h.out with ⟨h0, -⟩|⟨-, -,rest,h1,h2⟩
 ·omega
 ·obtain ⟨r2,hr⟩:=hp
  have e:rest=key x :: r2:=by
   rw[h1,List.append_assoc] at hr
   exact (List.append_cancel_left hr).symm
  subst e
  exact ⟨r2,by rw[h1];simp,h2⟩
theorem CntI.le (h:CntI key K op a m pre):m≤pre.length:=by
 rcases h.out with ⟨h0, -⟩|⟨-,h1, -⟩<;>omega
theorem CntI.same (h:CntI key K op a m pre) (hm:1≤m) (hp:(pre.map key ++ [key x]) <+: K) (he:key a=key x):CntI key K op x (m+1) (pre ++ [x]):=by
 obtain ⟨rest,h1,h2⟩:=h.split hm hp
 refine ⟨.inr ⟨by omega,by have:=h.le;simp;omega,rest,h1,?_⟩⟩
 have e:runsA (key a) m (key x :: rest)=runsA (key x) (m+1) rest:=by rw[he];simp[runsA]
 rw[←h2,e]
theorem CntI.other (h:CntI key K op a m pre) (hm:1≤m) (hp:(pre.map key ++ [key x]) <+: K) (he:key a≠key x) :
  (op.map (tk key) ++ [tk key (a,m)]) <+: runs K∧CntI key K (op ++ [(a,m)]) x 1 (pre ++ [x]):=by
 obtain ⟨rest,h1,h2⟩:=h.split hm hp
 have e:runsA (key a) m (key x :: rest)=(key a,m) :: runsA (key x) 1 rest:=by
  show (if key x=key a then _ else _)=_
  rw[if_neg (Ne.symm he)]
 rw[e] at h2
 refine ⟨?_,⟨.inr ⟨by omega,by simp,rest,h1,?_⟩⟩⟩
 ·rw[←h2]
  exact ⟨runsA (key x) 1 rest,by simp[tk]⟩
 ·rw[←h2];simp[tk]
theorem CntI.done (h:CntI key K op a m pre) (hK:pre.map key=K):(m=0∧op.map (tk key)=runs K)∨(1≤m∧op.map (tk key) ++ [tk key (a,m)]=runs K):=by
 rcases h.out with ⟨h0,rfl,rfl⟩|⟨h0, -,rest,h1,h2⟩
 ·refine .inl ⟨h0,?_⟩
  rw[←hK];rfl
 ·have e:rest = []:=by
   rw[hK] at h1
   have:=congrArg List.length h1
   simp at this
   exact this
  subst e
  exact .inr ⟨h0,h2⟩
end
open Go.RowKit
theorem roundIn_any {n m l2:Nat}{P:Program}{l:Nat}{f:FuncId}{tmps:Array Value}{assign body:Code}{w:World}{R:Ending→World→Prop}(h:RoundIn Fence.wide n P l f tmps assign body w R) :
  RoundIn (Fence.wide.inRound l2) m P l f tmps assign body w R:=⟨h.1,fun c cs _=>h.2 c cs (room_wide _)⟩
theorem roundIn_w {n m:Nat}{P:Program}{l:Nat}{f:FuncId}{tmps:Array Value}{assign body:Code}{w:World}{R:Ending→World→Prop}(h:RoundIn Fence.wide n P l f tmps assign body w R) :
  RoundIn Fence.wide m P l f tmps assign body w R:=⟨h.1,fun c cs _=>h.2 c cs (room_wide _)⟩
end
namespace KB
open Go.RowKit Go.Shelf
structure Cnt (J:(Nat→Prop)→List (El×Nat)→World→Prop) (K:List Key) (n0 base l:Nat) (m0:Nat→Prop) (W:World) (s:Nat→Prop) (pre:List El) (w:World):Prop where
 out:∃(s2:Nat→Prop) (op:List (El×Nat)) (a:El) (m:Nat) (va:Value),J s2 op w∧Box1 w base 251 (.func (.yield l) #[] #[])∧Box1 w (base+1) 48 va∧Box1 w (base+2) 3 (.int .i64 (m:Nat))∧(1≤m→va=val a∧EOk (fun k=>k<n0) w a)∧CntI key K op a m pre∧(∀k,s k→s2 k)∧(∀k,base≤k→k<base+7→k<w.heap.size→s2 k)
 kept:Kept m0 W w
 size:base+5≤w.heap.size
 sep:∀k,s k→base+5≤k
structure CntX (Jx:(Nat→Prop)→List (El×Nat)→World→Prop) (K:List Key) (base:Nat) (s:Nat→Prop) (w:World):Prop where
 out:∃(s2:Nat→Prop) (op:List (El×Nat)),Jx s2 op w∧op.map (tk key) <+: runs K∧(∀k,s k→s2 k)∧(∀k,base≤k→k<base+7→k<w.heap.size→s2 k)
 size:base+5≤w.heap.size
 sep:∀k,s k→base+5≤k
section
variable {J Jx : (Nat → Prop) → List (El × Nat) → World → Prop} {K : List Key} {n0 base l : Nat} {m0 s s' T : Nat → Prop} {W A B : World} {pre : List El}
theorem Cnt.step (hJ:∀s pre A B,J s pre A→Turn s A B→J (grown s A B) pre B) (h:Cnt J K n0 base l m0 W s pre A) (hn0:n0≤base) (hm0:∀k,m0 k→k<base) (ht:Turn T A B)
  (hT:∀k,T k→s k∨(base+5≤k∧k<base+7)) (hs:∀k,s' k→s k∨(A.heap.size≤k∧k<B.heap.size)):Cnt J K n0 base l m0 W s' pre B:=by
 obtain ⟨s2,op,a,m,va,h1,h2,h3,h4,h5,h6,h7,h8⟩:=h.out
 have h5T:∀k,T k→base+5≤k:=fun k e=>by rcases hT k e with e|e;exact h.sep k e;exact e.1
 have ht2:Turn s2 A B:=ht.mono fun k hk e=>by rcases hT k e with e|e;exact h7 k e;exact h8 k (by omega) e.2 hk
 have hz:=ht.size
 have hz5:=h.size
 refine ⟨⟨grown s2 A B,op,a,m,va,hJ _ _ _ _ h1 ht2,h2.turn ht (fun e=>by have:=h5T _ e;omega),h3.turn ht (fun e=>by have:=h5T _ e;omega),h4.turn ht (fun e=>by have:=h5T _ e;omega),fun hm=>⟨(h5 hm).1,(h5 hm).2.keep (Kept.of_turn ht fun k hk=>⟨by omega,fun e=>by have:=h5T _ e;omega⟩)⟩,h6,fun k e => ?_,fun k a b c => ?_⟩,
  h.kept.trans (Kept.of_turn ht fun k hk=>⟨by have:=hm0 k hk;omega,fun e=>by have:=h5T _ e;have:=hm0 k hk;omega⟩),by omega,fun k e => ?_⟩
 ·rcases hs k e with e|e
  ·exact .inl (h7 k e)
  ·exact .inr e
 ·by_cases hk:k<A.heap.size
  ·exact .inl (h8 k a b hk)
  ·exact .inr ⟨by omega,c⟩
 ·rcases hs k e with e|e
  ·exact h.sep k e
  ·omega
theorem CntX.step (hJx:∀s pre A B,Jx s pre A→Turn s A B→Jx (grown s A B) pre B) (h:CntX Jx K base s A) (ht:Turn T A B)
  (hT:∀k,T k→s k∨(base+5≤k∧k<base+7)) (hs:∀k,s' k→s k∨(A.heap.size≤k∧k<B.heap.size)):CntX Jx K base s' B:=by
 obtain ⟨s2,op,h1,h2,h7,h8⟩:=h.out
 have ht2:Turn s2 A B:=ht.mono fun k hk e=>by rcases hT k e with e|e;exact h7 k e;exact h8 k (by omega) e.2 hk
 have hz:=ht.size
 have hz5:=h.size
 refine ⟨⟨grown s2 A B,op,hJx _ _ _ _ h1 ht2,h2,fun k e => ?_,fun k a b c => ?_⟩,by omega,fun k e => ?_⟩
 ·rcases hs k e with e|e
  ·exact .inl (h7 k e)
  ·exact .inr e
 ·by_cases hk:k<A.heap.size
  ·exact .inl (h8 k a b hk)
  ·exact .inr ⟨by omega,c⟩
 ·rcases hs k e with e|e
  ·exact h.sep k e
  ·omega
theorem cnt_store (hJ:∀s pre A B,J s pre A→Turn s A B→J (grown s A B) pre B) {s2:Nat→Prop}{op:List (El×Nat)}{x:El}{m:Nat}{va vm:Value}(hn0:n0≤base) (hm0:∀k,m0 k→k<base)
  (h1:J s2 op A) (h2:Box1 A base 251 (.func (.yield l) #[] #[])) (h3:Box1 A (base+1) 48 va) (h4:Box1 A (base+2) 3 vm) (h5:EOk (fun k=>k<n0) A x) (h6:CntI key K op x m pre)
  (h7:∀k,s k→s2 k) (h8:∀k,base≤k→k<base+7→k<A.heap.size→s2 k) (h9:Kept m0 W A) (h10:base+5≤A.heap.size) (h11:∀k,s k→base+5≤k) :
  Cnt J K n0 base l m0 W s pre ((A.setCell ⟨base+1,0,none⟩ (val x)).setCell ⟨base+2,0,none⟩ (.int .i64 (m:Nat)))∧Turn (fun k=>k=base+1∨k=base+2) A ((A.setCell ⟨base+1,0,none⟩ (val x)).setCell ⟨base+2,0,none⟩ (.int .i64 (m:Nat))):=by
 have ht:Turn (fun k=>k=base+1∨k=base+2) A ((A.setCell ⟨base+1,0,none⟩ (val x)).setCell ⟨base+2,0,none⟩ (.int .i64 (m:Nat))):=(Turn.setCell _ _ _ (.inl rfl)).trans (Turn.setCell _ _ _ (.inr rfl))
 have ht2:Turn s2 A ((A.setCell ⟨base+1,0,none⟩ (val x)).setCell ⟨base+2,0,none⟩ (.int .i64 (m:Nat))):=ht.mono fun k hk e=>h8 k (by omega) (by omega) hk
 have hz:((A.setCell ⟨base+1,0,none⟩ (val x)).setCell ⟨base+2,0,none⟩ (.int .i64 (m:Nat))).heap.size=A.heap.size:=by simp
 refine ⟨⟨⟨grown s2 A _,op,x,m,val x,hJ _ _ _ _ h1 ht2,h2.turn ht (by omega),(h3.set (val x)).turn (Turn.setCell (T:=fun k=>k=base+2) _ _ _ rfl) (by omega),(h4.turn (Turn.setCell (T:=fun k=>k=base+1) A ⟨base+1,0,none⟩ (val x) rfl) (by omega)).set _,fun _=>⟨rfl,h5.keep (Kept.of_turn ht fun k hk=>⟨by omega,by omega⟩)⟩,h6,fun k e => .inl (h7 k e),fun k a b c => .inl (h8 k a b (by omega))⟩,h9.trans (Kept.of_turn ht fun k hk=>⟨by have:=hm0 k hk;omega,by have:=hm0 k hk;omega⟩),by omega,h11⟩,ht⟩
end
theorem counted_any (A:Option Addr) (n c:Nat) (w:World):Calls Tryz.prog 133 #[.slice A n c,.func (.func cmpF) #[] #[]] w fun e w' =>
  e = .returned (.func (.func 189) #[] #[.pointer (some ⟨w.heap.size,0,none⟩),.pointer (some ⟨w.heap.size+1,0,none⟩)])∧w'=(w.alloc (.cells #[.slice A n c] 72)).alloc (.cells #[.func (.func cmpF) #[] #[]] 187):=by
 go_enter Tryz.func133,Tryz.ntmps133
 go_wp2
 go_ret
 exact ⟨rfl,rfl⟩
end KB
namespace KB
open Go.RowKit Go.Shelf
attribute [local go_sem] Oper.semAt_some
def CntOk (n0:Nat) (K:List Key) (_:Nat→Prop) (pre:List (El×Nat)) (y:El×Nat) (W:World):Prop :=
 EOk (fun k=>k<n0) W y.1∧(pre.map (tk key) ++ [tk key y]) <+: runs K∧n0≤W.heap.size∧y.2≤K.length
theorem ctold_lt {pre:List (El×Nat)}{y:El×Nat}{K:List Key}(h:(pre.map (tk key) ++ [tk key y]) <+: runs K):pre.length<(runs K).length:=by
 have:=h.length_le
 rw[List.length_append,List.length_map,List.length_singleton] at this
 omega
theorem allOk_keep {n0 D:Nat}{K:List Key}{s:Nat→Prop}{pre:List El}{x:El}{A B:World}(h:AllOk n0 K s pre x A) (hn0:n0≤D) (ht:Turn (fun k=>k=D∨k=D+1) A B):AllOk n0 K s pre x B :=
 ⟨h.1.keep (Kept.of_turn ht fun k hk=>⟨Nat.lt_of_lt_of_le hk h.2.2,by rintro (e|e)<;>omega⟩),h.2.1,Nat.le_trans h.2.2 ht.size⟩
theorem counted1_seq {w:World}{ll:List (List El)}{A:Option Addr}{n c:Nat}(n0:Nat) (hR:RowsIn (fun k=>k<n0) w A ll) (hn:ll.length=n) (hn6:n≤100000) (hl:∀r∈ll,r.length≤1000000) (B2 B3:Nat)
  (h2:w.cell? ⟨B2,0,none⟩=some (.slice A n c)) (h3:w.cell? ⟨B3,0,none⟩=some (.func (.func cmpF) #[] #[])) (hB2:B2<w.heap.size) (hB3:B3<w.heap.size) (hn0:n0≤w.heap.size) (hK12:ll.flatten.length≤1000000000000) (nf:Nat) :
  SeqT Fence.wide nf Tryz.prog 189 #[.pointer (some ⟨B2,0,none⟩),.pointer (some ⟨B3,0,none⟩)] (fun y:El×Nat => #[val y.1,.int .i64 (y.2:Nat)]) (fun k=>k<n0∨k=B2∨k=B3) (fun _=>False) (CntOk n0 (sortK lt (ll.flatten.map key))) (fun xs=>xs.map (tk key)=runs (sortK lt (ll.flatten.map key))) (fun pre=>pre.map (tk key) <+: runs (sortK lt (ll.flatten.map key))) (runs (sortK lt (ll.flatten.map key))).length w:=by
 intro l J Jx W hW hJ hJx hY h0
 have hkR:Kept (fun k=>k<n0∨k=B2∨k=B3) w W:=Kept.of_below hW (fun k hk=>by rcases hk with hk|rfl|rfl<;>omega)
 have hRW:=hR.keep (hkR.mono fun k hk => .inl hk)
 have h2W:=(hkR.cell (p:=⟨B2,0,none⟩) (.inr (.inl rfl))).trans h2
 have h3W:=(hkR.cell (p:=⟨B3,0,none⟩) (.inr (.inr rfl))).trans h3
 have hnW:n0≤W.heap.size:=Nat.le_trans hn0 hW.size
 have hB2W:B2<W.heap.size:=Nat.lt_of_lt_of_le hB2 hW.size
 have hB3W:B3<W.heap.size:=Nat.lt_of_lt_of_le hB3 hW.size
 have hAll:=fun (w' : World) (h:RowsIn (fun k=>k<n0) w' A ll) (b2 b3:Nat) e2 e3 l2 l3 ln=>Lib.hid (all1_seq (c:=c) n0 h hn hn6 hl b2 b3 e2 e3 l2 l3 ln 9)
 have hKl:(sortK lt (ll.flatten.map key)).length≤1000000000000:=by rw[(sortK_perm _).length_eq,List.length_map];exact hK12
 obtain ⟨K,hK⟩:∃K,sortK lt (ll.flatten.map key)=K:=⟨_,rfl⟩
 rw[hK] at hY hKl ⊢
 simp only[hK] at hAll
 have HKL:=Lib.hid hKl
 have hF:=fun W=>Lib.hid (all_any A n c W)
 clear hR h2 h3 hK hn hl hkR hW hB2 hB3 hn0 hK12 hKl
 have hbW3:Below W.heap.size W (((W.alloc (.cells #[.func (.yield l) #[] #[]] 251)).alloc (.cells #[(.slice none 0 0)] 48)).alloc (.cells #[.int .i64 0] 3)):=(((Below.refl _ W).alloc (Nat.le_refl _) _).alloc (by simp) _).alloc (by simp;omega) _
 have h2a:=(hbW3.cell (p:=⟨B2,0,none⟩) hB2W).trans h2W
 have h3a:=(hbW3.cell (p:=⟨B3,0,none⟩) hB3W).trans h3W
 have bY:=((Box1.new W 251 (.func (.yield l) #[] #[])).alloc (.cells #[(.slice none 0 0)] 48)).alloc (.cells #[.int .i64 0] 3)
 have bL:=(Box1.new (W.alloc (.cells #[.func (.yield l) #[] #[]] 251)) 48 (.slice none 0 0)).alloc (.cells #[.int .i64 0] 3)
 have bN:=Box1.new ((W.alloc (.cells #[.func (.yield l) #[] #[]] 251)).alloc (.cells #[(.slice none 0 0)] 48)) 3 (.int .i64 0)
 have hz3:(((W.alloc (.cells #[.func (.yield l) #[] #[]] 251)).alloc (.cells #[(.slice none 0 0)] 48)).alloc (.cells #[.int .i64 0] 3)).heap.size=W.heap.size+1+1+1:=by simp
 rw[World.size_alloc] at bL
 rw[World.size_alloc,World.size_alloc] at bN
 refine callsIn_wide.2 ((callsIn_wide (n:=10)).1 ?_)
 refine callsIn_of_wp_marks Tryz.func189 rfl trivial ?_ rfl
 simp only[Tryz.ntmps189,List.size_toArray,List.length_cons,List.length_nil,Nat.reduceAdd,Nat.reduceSub,Array.replicate_succ,Array.replicate_zero,List.push_toArray,List.append_toArray,List.nil_append,List.cons_append]
 gi_wp2_with fail
 generalize (((W.alloc (.cells #[.func (.yield l) #[] #[]] 251)).alloc (.cells #[(.slice none 0 0)] 48)).alloc (.cells #[.int .i64 0] 3))=Wa at *
 refine ⟨trivial,(callsIn_wide.2 (hF _).out).mono ?_⟩
 rintro e w1 ⟨rfl,hw1⟩
 have b3:=(Box1.new Wa 72 (.slice A n c)).alloc (.cells #[.func (.func cmpF) #[] #[]] 187)
 have b4:=Box1.new (Wa.alloc (.cells #[.slice A n c] 72)) 187 (.func (.func cmpF) #[] #[])
 rw[World.size_alloc] at b4
 rw[←hw1,hz3] at b3 b4
 have hbWa:Below Wa.heap.size Wa w1:=by rw[hw1];exact ((Below.refl _ Wa).alloc (Nat.le_refl _) _).alloc (by simp) _
 have hz1:w1.heap.size=W.heap.size+1+1+1+1+1:=by rw[hw1];simp[hz3]
 have hb1:Below W.heap.size W w1:=hbW3.trans (hbWa.mono (by omega))
 have bY1:=bY.turn (Turn.of_new (T:=fun _=>False) hbWa) id
 have bL1:=bL.turn (Turn.of_new (T:=fun _=>False) hbWa) id
 have bN1:=bN.turn (Turn.of_new (T:=fun _=>False) hbWa) id
 have hR1:=hRW.keep (Kept.of_below hb1 fun k hk=>by omega)
 have hD:=hAll w1 hR1 (W.heap.size+1+1+1) (W.heap.size+1+1+1+1) b3.cell b4.cell (by omega) (by omega) (by omega)
 have hJ1:=hJ _ _ _ _ h0 (Turn.of_new hb1)
 rw[hz3]
 clear bY bL bN h2a h3a hF hAll hw1 hbW3 hbWa hRW hR1 h0
 gi_wp2_with fail
 refine wpIn_rangeFunc_T (F:=Fence.wide) (n:=10) rfl (by omega) (gf:=233) (lb := #[.pointer (some ⟨W.heap.size+1+1+1+1,0,none⟩),.pointer (some ⟨W.heap.size+1+1+1,0,none⟩)]) rfl trivial (enters_of Tryz.func233 (by kernel_rfl) rfl)
  hD.out (Below.refl _ _) (fun _=>rfl) (fun k hk=>by rcases hk with (hk|rfl|rfl)|hk<;>first|omega|exact hk.elim)
  (fun s pre x A B h hR ht=>allOk_keep h (by omega) ht)
  (fun s pre wr=>Cnt J K n0 W.heap.size l (fun k=>k<n0∨k=B2∨k=B3) W s pre wr)
  (fun c s pre wr=>c = .ret∧CntX Jx K W.heap.size s wr)
  ?hI ?hIx ?hI2 ?hIx2 ?h0 (fun x => { tmps := #[.func (.yield l) #[] #[],.pointer (some ⟨B2,0,none⟩),.pointer (some ⟨B3,0,none⟩),.pointer (some ⟨W.heap.size,0,none⟩),.pointer (some ⟨W.heap.size+1,0,none⟩),.pointer (some ⟨W.heap.size+1+1,0,none⟩),val x,.slice A n c,.func (.func cmpF) #[] #[],.func (.func 233) #[] #[.pointer (some ⟨W.heap.size+1+1+1+1,0,none⟩),.pointer (some ⟨W.heap.size+1+1+1,0,none⟩)],val x,undef,undef,undef,undef,undef,undef,undef,undef,undef,undef,undef,undef,undef,undef,undef,undef,undef,undef,undef,undef,undef,undef,undef],defers := [] }) ?assign ?body ?done ?stop
 case hI=>exact fun s pre A B h ht=>h.step hJ hnW (fun k e=>by rcases e with e|rfl|rfl<;>omega) ht (fun k e => .inl e) (fun k e=>e)
 case hIx=>exact fun c s pre A B ⟨h0,h⟩ ht=>⟨h0,h.step hJx ht (fun k e => .inl e) (fun k e=>e)⟩
 case hI2=>exact fun s pre A B h ht=>h.step hJ hnW (fun k e=>by rcases e with e|rfl|rfl<;>omega) ht (fun k e => .inr (by omega)) (fun k e => .inl e)
 case hIx2=>exact fun c s pre A B ⟨h0,h⟩ ht=>⟨h0,h.step hJx ht (fun k e => .inr (by omega)) (fun k e => .inl e)⟩
 case h0=>exact ⟨⟨_, [],default,0,_,hJ1,bY1,bL1,bN1,fun h=>by omega,CntI.start _,fun k e=>e.elim,fun k a b c => .inr ⟨a,c⟩⟩,Kept.of_below hb1 fun k e=>by rcases e with e|rfl|rfl<;>omega,by omega,fun k e=>e.elim⟩
 case assign =>
  intro l y W K hK
  gi_wp2
  exact hK
 case body =>
  rintro l2 s pre x wr ⟨⟨s2,op,a,m,va,h1,h2,h3,h4,h5,h6,h7,h8⟩,hkept,hsz,hsep⟩ hlt ⟨k1,k2,k3⟩ hdW
  have cY:wr.cell? ⟨W.heap.size,0,none⟩=some (.func (.yield l) #[] #[]):=h2.cell
  have cL:wr.cell? ⟨W.heap.size+1,0,none⟩=some va:=h3.cell
  have fL:wr.frozen? ⟨W.heap.size+1,0,none⟩=false:=h3.frozen
  have cN:wr.cell? ⟨W.heap.size+1+1,0,none⟩=some (.int .i64 (m:Nat)):=h4.cell
  have fN:wr.frozen? ⟨W.heap.size+1+1,0,none⟩=false:=h4.frozen
  have c3:wr.cell? ⟨B3,0,none⟩=some (.func (.func cmpF) #[] #[]):=(hkept.cell (p:=⟨B3,0,none⟩) (.inr (.inr rfl))).trans h3W
  have hen:=enters_cmp
  have hm12:m≤1000000000000:=by have:=h6.le;have:=HKL.out;omega
  have hm0:∀k,(k<n0∨k=B2∨k=B3)→k<W.heap.size:=fun k e=>by rcases e with e|rfl|rfl<;>omega
  have HM0:=Lib.hid hm0
  have H7:=Lib.hid h7
  have H8:=Lib.hid h8
  have HSEP:=Lib.hid hsep
  have K2:=Lib.hid k2
  have hTs:∀(A B:World),Turn (fun k=>k=W.heap.size+1∨k=W.heap.size+2) A B→Turn (fun k=>¬ s k∧¬ (k<n0∨k=W.heap.size+1+1+1∨k=W.heap.size+1+1+1+1)∧k≠w1.heap.size∧k≠w1.heap.size+1) A B:=fun A B ht=>ht.mono fun j _ e=>⟨fun e2=>by have:=hsep j e2;omega,by omega,by omega,by omega⟩
  have HTS:=Lib.hid hTs
  clear hm0 h7 h8 hsep k2 hTs hJ1 bY1 bL1 bN1 b3 b4 hD hb1
  by_cases hm:1≤m
  ·obtain ⟨rfl,hea⟩:=h5 hm
   have hcmp:=cmp_any (m:=fun k=>k<n0) a x wr hea k1 (fun k e=>by omega)
   by_cases hr:cmpI a x=0
   ·have h6':=h6.same hm K2.out ((cmp_ne a x).1 hr)
    obtain ⟨g1,g2⟩:=cnt_store (x:=x) (m:=m+1) (W:=W) (m0:=fun k=>k<n0∨k=B2∨k=B3) hJ hnW HM0.out h1 h2 h3 h4 k1 h6' H7.out H8.out hkept hsz HSEP.out
    rw[show ((m+1:Nat):Int)=(m:Int)+1 from by omega] at g1 g2
    have G1:=Lib.hid g1
    have G2:=Lib.hid g2
    rw[hr] at hcmp
    have HC:=Lib.hid hcmp
    have hmi:(0:Int)<(m:Int):=by omega
    clear g1 g2 hcmp hr h1 h2 h3 h4 h5 h6 h6' hm
    dsimp only[val] at cL ⊢
    gi_wp2_with fail
    refine ⟨trivial,(CallsIn.inRound l2 (callsIn_wide.2 HC.out)).mono ?_⟩
    rintro e w2 ⟨rfl,rfl⟩
    clear HC
    gi_wp2_with fail
    exact ⟨HTS.out _ _ G2.out,G1.out⟩
   ·obtain ⟨hpf,h6'⟩:=h6.other hm K2.out (fun e=>hr ((cmp_ne a x).2 e))
    have hrz:(cmpI a x != 0)=true:=by rw[bne_iff_ne];exact hr
    have hY1:=hY s2 op (a,m) wr h1 (ctold_lt hpf) ⟨hea,hpf,k3,by have:=h6.le;show m≤K.length;omega⟩
    obtain ⟨fn,tmps,assign,body,hyy,hR⟩:=hY1
    have HPF:=Lib.hid hpf
    have H6:=Lib.hid h6'
    obtain ⟨r,hre⟩:∃r,cmpI a x=r:=⟨_,rfl⟩
    rw[hre] at hcmp hrz
    have HC:=Lib.hid hcmp
    have hmi:(0:Int)<(m:Int):=by omega
    clear hcmp hr hpf h6' hre h5 h6 hm
    dsimp only[val] at cL hyy ⊢
    gi_wp2_with fail
    refine ⟨trivial,(CallsIn.inRound l2 (callsIn_wide.2 HC.out)).mono ?_⟩
    rintro e w2 ⟨rfl,rfl⟩
    clear HC
    gi_wp2_with fail
    refine (roundIn_any hR).mono ?_
    have hTot:∀w4,Turn (fun k=>¬ s2 k∧¬ (k<n0∨k=B2∨k=B3)) wr w4→Turn (fun k=>¬ s k∧¬ (k<n0∨k=W.heap.size+1+1+1∨k=W.heap.size+1+1+1+1)∧k≠w1.heap.size∧k≠w1.heap.size+1) wr w4:=fun w4 ht=>ht.mono fun j hj e=>⟨fun e2=>e.1 (H7.out j e2),fun e2=>by
      rcases e2 with e2|e2|e2
      ·exact e.2 (.inl e2)
      ·exact e.1 (H8.out j (by omega) (by omega) hj)
      ·exact e.1 (H8.out j (by omega) (by omega) hj),fun e2=>e.1 (H8.out j (by omega) (by omega) hj),fun e2=>e.1 (H8.out j (by omega) (by omega) hj)⟩
    have HTOT:=Lib.hid hTot
    clear hTot
    rintro e w4 (⟨rfl,hJ4,ht4⟩|⟨rfl,hJx4,ht4⟩)
    ·have hz4:=ht4.size
     have hs8:∀j,W.heap.size≤j→j<W.heap.size+7→s2 j:=fun j a b=>H8.out j a b (by omega)
     have b2:=h2.turn ht4 (fun e=>e.1 (hs8 _ (by omega) (by omega)))
     have b3:=h3.turn ht4 (fun e=>e.1 (hs8 _ (by omega) (by omega)))
     have b4:=h4.turn ht4 (fun e=>e.1 (hs8 _ (by omega) (by omega)))
     have hk4:Kept (fun k=>k<n0∨k=B2∨k=B3) wr w4:=Kept.of_turn ht4 fun k hk=>⟨by have:=HM0.out k hk;omega,fun e=>e.2 hk⟩
     have x4:=k1.keep (hk4.mono fun k e => .inl e)
     have ht5:Turn s2 w4 (w4.setCell ⟨W.heap.size+1+1,0,none⟩ (.int .i64 0)):=Turn.setCell _ _ _ (hs8 _ (by simp only;omega) (by simp only;omega))
     have ht5' : Turn (fun k=>k=W.heap.size+2) w4 (w4.setCell ⟨W.heap.size+1+1,0,none⟩ (.int .i64 0)):=Turn.setCell _ _ _ rfl
     have hJ5:=hJ _ _ _ _ hJ4 ht5
     have b25:=b2.turn ht5' (by omega)
     have b35:=b3.turn ht5' (by omega)
     have b45:=b4.set (.int .i64 0)
     have x5:=x4.keep (Kept.of_turn ht5' fun k hk=>⟨by omega,by omega⟩)
     have hk5:=(hkept.trans hk4).trans (Kept.of_turn ht5' fun k hk=>⟨by have:=HM0.out k hk;omega,by have:=HM0.out k hk;omega⟩)
     have hz5:(w4.setCell ⟨W.heap.size+1+1,0,none⟩ (.int .i64 0)).heap.size=w4.heap.size:=World.size_setCell _ _ _
     obtain ⟨g1,g2⟩:=cnt_store (s:=s) (x:=x) (m:=1) (W:=W) (m0:=fun k=>k<n0∨k=B2∨k=B3) hJ hnW HM0.out hJ5 b25 b35 b45 x5 H6.out (fun k e => .inl (H7.out k e)) (fun k a b c => .inl (hs8 k a b)) hk5 (by omega) HSEP.out
     rw[show ((1:Nat):Int)=1 from rfl] at g1 g2
     have cN4:w4.cell? ⟨W.heap.size+1+1,0,none⟩=some (.int .i64 (m:Nat)):=b4.cell
     have fN4:w4.frozen? ⟨W.heap.size+1+1,0,none⟩=false:=b4.frozen
     have cL5:(w4.setCell ⟨W.heap.size+1+1,0,none⟩ (.int .i64 0)).cell? ⟨W.heap.size+1,0,none⟩=some (val a):=b35.cell
     have fL5:(w4.setCell ⟨W.heap.size+1+1,0,none⟩ (.int .i64 0)).frozen? ⟨W.heap.size+1,0,none⟩=false:=b35.frozen
     have cL4:w4.cell? ⟨W.heap.size+1,0,none⟩=some (val a):=b3.cell
     have fL4:w4.frozen? ⟨W.heap.size+1,0,none⟩=false:=b3.frozen
     have G1:=Lib.hid g1
     have G2:=Lib.hid ((HTOT.out _ ht4).trans ((HTS.out _ _ (ht5'.mono fun j _ e => .inr e)).trans (HTS.out _ _ g2)))
     clear g1 g2 x5 hk5 b45 b25 b35 ht5 ht5' hJ5 x4 hk4 b2 b3 b4 ht4 hJ4
     gi_wp2_with fail
     exact ⟨G2.out,G1.out⟩
    ·have hz4:=ht4.size
     have hpt:=HTOT.out _ ht4
     gi_wp2_with fail
     exact ⟨hpt,rfl,⟨⟨s2,op ++ [(a,m)],hJx4,by rw[List.map_append];exact HPF.out,H7.out,fun k a b c=>H8.out k a b (by omega)⟩,by omega,HSEP.out⟩⟩
  ·have hm0' : m=0:=by omega
   subst hm0'
   obtain ⟨g1,g2⟩:=cnt_store (x:=x) (m:=1) (W:=W) (m0:=fun k=>k<n0∨k=B2∨k=B3) hJ hnW HM0.out h1 h2 h3 h4 k1 (h6.first K2.out) H7.out H8.out hkept hsz HSEP.out
   rw[show ((1:Nat):Int)=1 from rfl] at g1 g2
   have G1:=Lib.hid g1
   have G2:=Lib.hid g2
   have cN0:wr.cell? ⟨W.heap.size+1+1,0,none⟩=some (.int .i64 0):=h4.cell
   clear g1 g2 h1 h2 h3 h4 h5 h6 hm cN
   dsimp only[val]
   gi_wp2_with fail
   refine ⟨fun _ _=>trivial,?_⟩
   gi_wp2_with fail
   exact ⟨HTS.out _ _ G2.out,G1.out⟩
 case done =>
  rintro s xs wr hS ⟨⟨s2,op,a,m,va,h1,h2,h3,h4,h5,h6,h7,h8⟩,hkept,hsz,hsep⟩ hKd
  have cY:wr.cell? ⟨W.heap.size,0,none⟩=some (.func (.yield l) #[] #[]):=h2.cell
  have cL:wr.cell? ⟨W.heap.size+1,0,none⟩=some va:=h3.cell
  have cN:wr.cell? ⟨W.heap.size+1+1,0,none⟩=some (.int .i64 (m:Nat)):=h4.cell
  have hDs:s2 w1.heap.size:=h8 _ (by omega) (by omega) (Array.getElem?_eq_some_iff.1 hKd).1
  rcases h6.done hS with ⟨rfl,hd⟩|⟨hm,hd⟩
  ·have cN0:wr.cell? ⟨W.heap.size+1+1,0,none⟩=some (.int .i64 0):=h4.cell
   have HD:=Lib.hid hd
   clear hd cN
   gi_wp2_with fail
   refine ⟨by simp,.inl ⟨_,_,rfl,run_takeDeferred hKd,?_⟩⟩
   exact ⟨.tuple #[],results_none rfl _ _ _,⟨_,rfl⟩,.inl ⟨_,op,HD.out,hJ _ _ _ _ h1 (Turn.putObj _ _ _ hDs)⟩⟩
  ·obtain ⟨rfl,hea⟩:=h5 hm
   have hK' : n0≤wr.heap.size:=by omega
   have hpf:(op.map (tk key) ++ [tk key (a,m)]) <+: runs K:=by rw[hd];exact List.prefix_refl _
   have hml:m≤K.length:=by
    have h1:=h6.le
    have h2:(xs.map key).length=K.length:=by rw[show xs.map key=K from hS]
    rw[List.length_map] at h2
    omega
   have hY1:=hY s2 op (a,m) wr h1 (ctold_lt hpf) ⟨hea,hpf,hK',hml⟩
   obtain ⟨fn,tmps,assign,body,hyy,hR⟩:=hY1
   have HPF:=Lib.hid hpf
   have HD:=Lib.hid hd
   have hm12:m≤1000000000000:=by have:=HKL.out;omega
   have hmi:(0:Int)<(m:Int):=by omega
   have hdl:=(Array.getElem?_eq_some_iff.1 hKd).1
   clear hpf hd hml hm
   dsimp only[val] at cL hyy
   gi_wp2_with fail
   refine (roundIn_w hR).mono ?_
   rintro e w4 (⟨rfl,hJ4,ht4⟩|⟨rfl,hJx4,ht4⟩)
   ·have hK4:=(ht4.block _ hdl (fun e=>e.1 hDs)).trans hKd
    have hDs':=hDs
    rw[hz1] at hK4 hDs'
    gi_wp2_with fail
    refine ⟨by simp,.inl ⟨_,_,rfl,run_takeDeferred hK4,?_⟩⟩
    exact ⟨.tuple #[],results_none rfl _ _ _,⟨_,rfl⟩,.inl ⟨_,_,by rw[List.map_append];exact HD.out,hJ _ _ _ _ hJ4 (Turn.putObj _ _ _ hDs')⟩⟩
   ·have hK4:=(ht4.block _ hdl (fun e=>e.1 hDs)).trans hKd
    have hDs':=hDs
    rw[hz1] at hK4 hDs'
    gi_wp2_with fail
    refine ⟨by simp,.inl ⟨_,_,rfl,run_takeDeferred hK4,?_⟩⟩
    exact ⟨.tuple #[],results_none rfl _ _ _,⟨_,rfl⟩,.inr ⟨_,_,by rw[List.map_append];exact HPF.out,hJx _ _ _ _ hJx4 (Turn.putObj _ _ _ hDs')⟩⟩
 case stop =>
  rintro c s pre wr hS ⟨rfl,⟨s2,op,h1,h2,h7,h8⟩,hsz,hsep⟩ hKd
  have hDs:s2 w1.heap.size:=h8 _ (by omega) (by omega) (Array.getElem?_eq_some_iff.1 hKd).1
  gi_wp2_with fail
  refine ⟨by simp,.inl ⟨_,_,rfl,run_takeDeferred hKd,?_⟩⟩
  exact ⟨.tuple #[],results_none rfl _ _ _,⟨_,rfl⟩,.inr ⟨_,op,h2,hJx _ _ _ _ h1 (Turn.putObj _ _ _ hDs)⟩⟩
end KB
namespace KB
open Go.RowKit Go.Shelf
attribute [local go_sem] Oper.semAt_some
theorem cntOk_keep {n0 D:Nat}{K:List Key}{s:Nat→Prop}{pre:List (El×Nat)}{y:El×Nat}{A B:World}(h:CntOk n0 K s pre y A) (hn0:n0≤D) (ht:Turn (fun k=>k=D∨k=D+1) A B):CntOk n0 K s pre y B :=
 ⟨h.1.keep (Kept.of_turn ht fun k hk=>⟨Nat.lt_of_lt_of_le hk h.2.2.1,by rintro (e|e)<;>omega⟩),h.2.1,Nat.le_trans h.2.2.1 ht.size,h.2.2.2⟩
theorem runs_len (K:List Key):(runs K).length≤K.length:=by
 have hA:∀(t:List Key) (a:Key) (n:Nat),(runsA a n t).length≤t.length+1:=fun t=>by
  induction t with
  | nil=>intro a n;simp[runsA]
  | cons y t ih =>
   intro a n
   unfold runsA
   split
   ·have:=ih a (n+1);simp;omega
   ·have:=ih y 1;simp;omega
 cases K with
 | nil=>simp[runs]
 | cons a t=>exact hA t a 1
theorem runs_sub (K:List Key):∀x∈(runs K).map (·.1),x∈K:=by
 have hA:∀(t:List Key) (a:Key) (n:Nat),∀x∈(runsA a n t).map (·.1),x∈a :: t:=fun t=>by
  induction t with
  | nil=>intro a n x hx;simpa[runsA] using hx
  | cons y t ih =>
   intro a n x hx
   unfold runsA at hx
   split at hx
   ·rcases List.mem_cons.1 (ih a (n+1) x hx) with h|h
    ·simp[h]
    ·simp[h]
   ·rw[List.map_cons,List.mem_cons] at hx
    rcases hx with h|h
    ·simp[show x=a from h]
    ·exact List.mem_cons_of_mem _ (ih y 1 x h)
 cases K with
 | nil=>simp[runs]
 | cons a t=>exact hA t a 1
def keysOf (ll:List (List El)):List (List Item):=ll.map fun r=>r.map key
theorem keysOf_flat (ll:List (List El)):(keysOf ll).flatten=ll.flatten.map key:=by
 unfold keysOf
 rw[List.map_flatten]
theorem Items_own (A:Option Addr) (n c:Nat) (ll:List (List El)) (w:World) (hR:RowsIn (fun k=>k<w.heap.size) w A ll) (hn:ll.length=n) (hn6:n≤100000) (hl:∀r∈ll,r.length≤1000000) (hK12:ll.flatten.length≤1000000000) (hy:∀r∈ll,∀y∈r,y.1.length≤1099511627776) :
  Calls Tryz.prog 88 #[.slice A n c] w fun e w'=>∃v,e = .returned v∧OwnQ (fun k=>w.heap.size≤k∧k<w'.heap.size) w' w.heap.size v (uniqL ahead (ll.flatten.map key))∧Below w.heap.size w w':=by
 have hU:(runs (sortK lt (ll.flatten.map key))).map (·.1)=uniqL ahead (ll.flatten.map key):=rfl
 obtain ⟨U,hUU⟩:∃U,uniqL ahead (ll.flatten.map key)=U:=⟨_,rfl⟩
 rw[hUU] at hU ⊢
 have HU:=Lib.hid hU
 clear hU hUU
 have hYK:∀y∈sortK lt (ll.flatten.map key),y.length≤1099511627776:=fun y hm=>by
  have h1:=(sortK_perm _).mem_iff.1 hm
  obtain ⟨z,hz,rfl⟩:=List.mem_map.1 h1
  obtain ⟨r,hr,hzr⟩:=List.mem_flatten.1 hz
  exact hy r hr z hzr
 refine (callsIn_wide (n:=12)).1 ?_
 have hF:=fun W=>counted_any A n c W
 unfold cmpF at hF
 have HF:=fun W=>Lib.hid (hF W)
 clear hF
 refine callsIn_of_wp_marks Tryz.func88 rfl trivial ?_ rfl
 simp only[Tryz.ntmps88,List.size_toArray,List.length_cons,List.length_nil,Nat.reduceAdd,Nat.reduceSub,Array.replicate_succ,Array.replicate_zero,List.push_toArray,List.append_toArray,List.nil_append,List.cons_append]
 gi_wp2_with fail
 refine ⟨trivial,(callsIn_wide.2 (HF _).out).mono ?_⟩
 rintro e w1 ⟨rfl,hw1⟩
 have b0:=Box1.new w 47 (.slice none 0 0)
 have hb0:Below w.heap.size w (w.alloc (.cells #[.slice none 0 0] 47)):=(Below.refl _ w).alloc (Nat.le_refl _) _
 have hz0:(w.alloc (.cells #[.slice none 0 0] 47)).heap.size=w.heap.size+1:=by simp
 generalize w.alloc (.cells #[.slice none 0 0] 47)=Wa at b0 hb0 hz0 hw1 ⊢
 have b2:=(Box1.new Wa 72 (.slice A n c)).alloc (.cells #[.func (.func 134) #[] #[]] 187)
 have b3:=Box1.new (Wa.alloc (.cells #[.slice A n c] 72)) 187 (.func (.func 134) #[] #[])
 rw[World.size_alloc] at b3
 rw[←hw1,hz0] at b2 b3
 have hb1:Below Wa.heap.size Wa w1:=by rw[hw1];exact ((Below.refl _ Wa).alloc (Nat.le_refl _) _).alloc (by simp) _
 have hz1:w1.heap.size=w.heap.size+1+1+1:=by rw[hw1];simp[hz0]
 have c0:=b0.turn (Turn.of_new (T:=fun _=>False) hb1) id
 have hbw:Below w.heap.size w w1:=hb0.trans (hb1.mono (by omega))
 have hD:=counted1_seq (w:=w1) (c:=c) w.heap.size (hR.keep (Kept.of_below hbw fun k e=>e)) hn hn6 hl (w.heap.size+1) (w.heap.size+1+1) b2.cell b3.cell (by omega) (by omega) (by omega) (by omega) 11
 have hKl:(sortK lt (ll.flatten.map key)).length≤1000000000:=by rw[(sortK_perm _).length_eq,List.length_map];exact hK12
 have hU:=HU.out
 obtain ⟨K,hK⟩:∃K,sortK lt (ll.flatten.map key)=K:=⟨_,rfl⟩
 rw[hK] at hD hKl hU hYK
 clear HU
 have HU:=Lib.hid hU
 have HKL:=Lib.hid hKl
 have HYK:=Lib.hid hYK
 clear HF hw1 b0 hb0 hb1 b2 b3 hR hn hl hK12 hK hKl hU hYK hy
 rw[hz0]
 gi_wp2_with fail
 refine wpIn_rangeFunc_T (F:=Fence.wide) (n:=12) rfl (by omega) (gf:=189) (lb := #[.pointer (some ⟨w.heap.size+1,0,none⟩),.pointer (some ⟨w.heap.size+1+1,0,none⟩)]) rfl trivial (enters_of Tryz.func189 (by kernel_rfl) rfl)
  hD (Below.refl _ _) (fun _=>rfl) (fun k hk=>by rcases hk with (hk|rfl|rfl)|hk<;>first|omega|exact hk.elim)
  (fun s pre x A B h hR ht=>cntOk_keep h (by omega) ht)
  (fun s pre W=>(∀k,s k→w.heap.size+1+1+1≤k∧k<W.heap.size)∧Below w.heap.size w W∧w1.heap.size≤W.heap.size∧∃(v:Value) (q:Nat→Prop),Box1 W w.heap.size 47 v∧OwnQ q W (w1.heap.size+2) v (pre.map fun z=>z.1.1)∧(∀k,q k→(w1.heap.size+2≤k∧k<W.heap.size)∧¬ s k))
  (fun c s pre wr=>False)
  ?hI ?hIx ?hI2 ?hIx2 ?h0 (fun y => { tmps := #[.slice A n c,undef,.slice none 0 0,.pointer (some ⟨w.heap.size,0,none⟩),.slice y.1.2.1 y.1.1.length y.1.2.2,.slice A n c,.func (.func 189) #[] #[.pointer (some ⟨w.heap.size+1,0,none⟩),.pointer (some ⟨w.heap.size+1+1,0,none⟩)],.slice y.1.2.1 y.1.1.length y.1.2.2,.int .i64 (y.2:Nat),undef,undef,undef,undef,undef,undef],defers := [] }) ?assign ?body ?done ?stop
 case hI =>
  rintro s pre A B ⟨h2,h3,h4,v,q,h7,h8,h9⟩ ht
  have hA:∀k,grown s A B k→w.heap.size+1+1+1≤k∧k<B.heap.size:=fun k hk=>by have hz:=ht.size;rcases hk with hk|hk;have:=h2 k hk;omega;omega
  refine ⟨hA,h3.trans (ht.below (fun j hj=>by have:=h2 j hj;omega) h3.size),by have:=ht.size;omega,v,q,h7.turn ht (fun e=>by have:=h2 _ e;omega),h8.keep (Kept.of_turn ht fun k hk=>⟨(h9 k hk).1.2,(h9 k hk).2⟩),fun k hk=>⟨⟨(h9 k hk).1.1,Nat.lt_of_lt_of_le (h9 k hk).1.2 ht.size⟩,fun e => ?_⟩⟩
  rcases e with e|e
  ·exact (h9 k hk).2 e
  ·have:=(h9 k hk).1.2;omega
 case hIx=>exact fun c s pre A B h ht=>h
 case hI2 =>
  rintro s pre A B ⟨h2,h3,h4,v,q,h7,h8,h9⟩ ht
  exact ⟨fun k hk=>⟨(h2 k hk).1,Nat.lt_of_lt_of_le (h2 k hk).2 ht.size⟩,h3.trans (ht.below (fun j hj=>by omega) h3.size),by have:=ht.size;omega,v,q,h7.turn ht (by omega),h8.keep (Kept.of_turn ht fun k hk=>⟨(h9 k hk).1.2,by have:=(h9 k hk).1.1;omega⟩),fun k hk=>⟨⟨(h9 k hk).1.1,Nat.lt_of_lt_of_le (h9 k hk).1.2 ht.size⟩,(h9 k hk).2⟩⟩
 case hIx2=>exact fun c s pre A B h ht=>h
 case h0=>exact ⟨fun k hk=>hk.elim,hbw,Nat.le_refl _,_,fun _=>False,c0,OwnQ.nil _ _ _,fun k hk=>hk.elim⟩
 case assign =>
  intro l y W K hK
  dsimp only[val]
  gi_wp2
  exact hK
 case body =>
  rintro l s pre ⟨y,ym⟩ W ⟨h2,h3,h4,v,q,hbox,h8,h9⟩ hlt ⟨⟨g1,g2⟩,g3,g4,g5⟩ hdW
  have hc7:=hbox.cell
  have hf7:=hbox.frozen
  have hyY:y.1.length≤1099511627776:=HYK.out _ (by
   have h1:key y∈(runs K).map (·.1):=List.mem_map.2 ⟨tk key (y,ym),g3.subset (by simp),rfl⟩
   exact runs_sub K _ h1)
  obtain ⟨Av,cv,rfl,hcv, -⟩:=h8.open_
  obtain ⟨ln,hln⟩:∃ln,(pre.map fun z:El×Nat=>z.1.1).length=ln:=⟨_,rfl⟩
  rw[hln] at hc7 hbox hcv
  have HLNP:Hid (ln=pre.length):=by unfold Hid;rw[←hln,List.length_map]
  have HLN:=Lib.hid hln
  have HZ1:=Lib.hid hz1
  clear hz1
  have hq:∀k,q k→w1.heap.size+2≤k∧k<W.heap.size:=fun k hk=>(h9 k hk).1
  obtain ⟨i0,hi0,hz0,hz1',hz2⟩:=info_parts Tryz.sinfo
  obtain ⟨vs,k1',k2',k3⟩:=h8.out
  have k1:=k1'
  have k2:=k2'
  rw[hln] at k1 k2
  have hcl:=fun W (hW:Sees W W.heap.size y.2.1 (bv y.1))=>Lib.hid (bytesClone_any y.2.1 y.1.length y.2.2 y.1 rfl W hW (by omega))
  obtain ⟨yl,hyl⟩:∃yl,y.1.length=yl:=⟨_,rfl⟩
  rw[hyl] at hyY
  simp only[hyl] at hcl
  simp only[hyl]
  have hgl:∀k,k<w.heap.size→k<W.heap.size:=fun k hk=>Nat.lt_of_lt_of_le hk g4
  have hbW:w1.heap.size+2≤W.heap.size:=hdW
  have hz1:=hz1'
  have hnb:(Value.slice Av ln cv).ownBlock≠some w.heap.size:=fun e=>by have:=(hq _ (k2 _ e)).1;have:=HZ1.out;omega
  have hln2:ln≤1000000000:=by have:=HLNP.out;have h1:=runs_len K;have:=HKL.out;omega
  have HYL:=Lib.hid hyl
  clear hyl hln
  gi_wp2_with fail
  refine wpIn_round_held (S:=fun _=>True) (by kernel_rfl) (by kernel_rfl) ?_ (fun hHeld => ?_)
  ·(trivial)
  have r0:Below W.heap.size W W.drew:=below_drew (Below.refl _ _)
  have c0:=(hbox.below r0 hbox.lt).cell
  have f0:=(hbox.below r0 hbox.lt).frozen
  generalize W.drew=wz0 at r0 c0 f0 hHeld ⊢
  refine tq0 1 hHeld ?_
  try simp only[Act.put,S0,S1,S2]
  refine wpAnyH_ready (rs := [0,2]) (by kernel_rfl) (by simp) ?_
  refine AllReadyH.cons (tqi rfl) (fun K hK => ?_) ?_
  ·go_simp
   refine hK.out _ _ ?_ ?_
   ·(trivial)
   clear hK K hHeld;intro hHeld
   try simp only[Act.put,S0,S1,S2]
   refine wpAnyH_ready (rs := [2]) (by kernel_rfl) (by simp) ?_
   refine AllReadyH.cons (tqi rfl) (fun K hK => ?_) AllReadyH.nil
   go_simp
   refine (hcl wz0 ((g1.keep (Kept.of_below r0 hgl)).sees (fun k hk=>Nat.lt_of_lt_of_le (hgl k hk) r0.size))).out.mono ?_
   rintro en wz1 ⟨vc,rfl,hownc,honc⟩
   have s1:=honc.below_nil
   obtain ⟨Ac,cc,ec,hcc, -, -, -⟩:=hownc.open_
   rw[HYL.out] at ec hcc
   subst ec
   have r1:=r0.trans (s1.mono r0.size)
   have sm1:SeesU (fun k=>W.heap.size≤k∧k<wz1.heap.size) wz1 Ac (bv y.1):=(ownB_seesU hownc).mono fun k e=>⟨Nat.le_trans r0.size e.1,e.2⟩
   have c1:=(hbox.below r1 hbox.lt).cell
   have f1:=(hbox.below r1 hbox.lt).frozen
   go_wp2_with fail
   refine hK.out _ _ ?_ ?_
   ·(trivial)
   clear hK K hHeld;intro hHeld
   try simp only[Act.put,S0,S1,S2]
   refine wpAnyH_ready (rs := [3]) (by kernel_rfl) (by simp) ?_
   refine AllReadyH.cons (tqi rfl) (fun K hK => ?_) AllReadyH.nil
   go_simp
   refine hK.out _ _ ?_ ?_
   ·(trivial)
   clear hK K hHeld;intro hHeld
   try simp only[Act.put,S0,S1,S2]
   have s2:Below wz1.heap.size wz1 (wz1.alloc (.cells #[.slice Ac yl cc] 48)):=(Below.refl _ _).alloc (Nat.le_refl _) _
   have hd2:Sees (wz1.alloc (.cells #[.slice Ac yl cc] 48)) (wz1.alloc (.cells #[.slice Ac yl cc] 48)).heap.size (some ⟨wz1.heap.size,0,none⟩) [.slice Ac yl cc]:=⟨.inr ⟨_,rfl,by simp,fun j u hu=>by match j,hu with|0,hu=>(simp at hu;subst hu;rw[Addr.add_lit,World.cell?_alloc_at _ _ _ _ rfl];rfl)⟩⟩
   obtain ⟨wz2,hwz2⟩:∃wz2,(wz1.alloc (.cells #[.slice Ac yl cc] 48))=wz2:=⟨_,rfl⟩
   rw[hwz2] at s2 hd2 ⊢
   clear hHeld
   have hHeld:True:=trivial
   have r2:=r1.trans (s2.mono r1.size)
   have c2:=(hbox.below r2 hbox.lt).cell
   have f2:=(hbox.below r2 hbox.lt).frozen
   have sm2:=(sm1.keep (Kept.of_below s2 fun k e=>e.2)).mono (m':=fun k=>W.heap.size≤k∧k<wz2.heap.size) fun k e=>⟨e.1,Nat.lt_of_lt_of_le e.2 s2.size⟩
   refine wpAnyH_ready (rs := [4]) (by kernel_rfl) (by simp) ?_
   refine AllReadyH.cons (tqi rfl) (fun K hK => ?_) AllReadyH.nil
   refine step_append_v (by rfl) (.tmp 9) (.tmp 12) 47 (by rfl) 48 i0 _ 1 24 Tryz.underlying47 hi0 hz0 hz1 hz2 rfl (by omega) (w1.heap.size+2) _ _ _ (by rfl) (ownsRow_kept k1 (fun k e=>r2.block k (hq k (k2 k e)).2)) _ (some ⟨wz1.heap.size,0,none⟩) 1 1 [.slice Ac yl cc] (by rfl) rfl hd2 (fun u hu=>by simp at hu;subst hu;rfl) (by simp only[maxLen];omega) (by omega) (Nat.le_trans hbW r2.size) ?_
   intro v' wz3 hown3 hon3
   obtain ⟨gv,cv',rfl⟩:=ownsRow_succ hown3
   have c3:=((hbox.below r2 hbox.lt).turn (Turn.onto (T:=fun k=>_=some k) hon3 fun k e=>e) hnb).cell
   have f3:=((hbox.below r2 hbox.lt).turn (Turn.onto (T:=fun k=>_=some k) hon3 fun k e=>e) hnb).frozen
   refine hK.out _ _ ?_ ?_
   ·(trivial)
   clear hK K hHeld;intro hHeld
   try simp only[Act.put,S0,S1,S2]
   refine wpAnyH_ready (rs := [5]) (by kernel_rfl) (by simp) ?_
   refine AllReadyH.cons (tqi rfl) (fun K hK => ?_) AllReadyH.nil
   go_simp
   refine hK.out _ _ ?_ ?_
   ·(trivial)
   clear hK K hHeld;intro hHeld
   try simp only[Act.put,S0,S1,S2]
   refine wpAnyH_done (by kernel_rfl) ?_ _
   refine Only.normal ?_
   gi_wp2_with fail
   obtain rfl:=HLN.out
   obtain rfl:=HYL.out
   obtain ⟨q',hq',hQ',hB',hT'⟩:=coll_done (wp:=wz2) hbox hq (by have:=HZ1.out;omega) hbW k1' k2' k3 r2 sm2 hcc hown3 hon3
   have hTT:=hT'.mono (T':=fun k=>¬ s k∧¬ (k<w.heap.size∨k=w.heap.size+1∨k=w.heap.size+1+1)∧k≠w1.heap.size∧k≠w1.heap.size+1) (fun j _ e=>by have hz:=HZ1.out;rcases e with rfl|e;exact ⟨fun e=>by have:=h2 _ e;omega,by omega,by omega,by omega⟩;have h1:=(hq _ (k2' _ e)).1;exact ⟨(h9 _ (k2' _ e)).2,by omega,by omega,by omega⟩)
   have hTb:=hT'.below (b:=w.heap.size) (fun j e=>by rcases e with rfl|e;omega;have h1:=(hq _ (k2' _ e)).1;have hz:=HZ1.out;omega) h3.size
   have hq2:∀k,q' k→(w1.heap.size+2≤k∧k<_)∧¬ s k:=fun k hk=>by have h1:=hq' k hk;refine ⟨⟨?_,h1.2⟩,fun e => ?_⟩;(rcases h1.1 with g|g;exact (hq k g).1;omega);(rcases h1.1 with g|g;exact (h9 k g).2 e;exact absurd (h2 k e).2 (by omega))
   exact And.intro hTT ⟨fun k hk=>⟨(h2 k hk).1,Nat.lt_of_lt_of_le (h2 k hk).2 hT'.size⟩,h3.trans hTb,Nat.le_trans h4 hT'.size,_,q',hB',by show OwnQ q' _ _ _ ((pre ++ [(y,ym)]).map fun z=>z.1.1);rw[List.map_append];exact hQ',hq2⟩
  refine AllReadyH.cons (tqi rfl) (fun K hK => ?_) AllReadyH.nil
  go_simp
  refine (hcl wz0 ((g1.keep (Kept.of_below r0 hgl)).sees (fun k hk=>Nat.lt_of_lt_of_le (hgl k hk) r0.size))).out.mono ?_
  rintro en wz1 ⟨vc,rfl,hownc,honc⟩
  have s1:=honc.below_nil
  obtain ⟨Ac,cc,ec,hcc, -, -, -⟩:=hownc.open_
  rw[HYL.out] at ec hcc
  subst ec
  have r1:=r0.trans (s1.mono r0.size)
  have sm1:SeesU (fun k=>W.heap.size≤k∧k<wz1.heap.size) wz1 Ac (bv y.1):=(ownB_seesU hownc).mono fun k e=>⟨Nat.le_trans r0.size e.1,e.2⟩
  have c1:=(hbox.below r1 hbox.lt).cell
  have f1:=(hbox.below r1 hbox.lt).frozen
  go_wp2_with fail
  refine hK.out _ _ ?_ ?_
  ·(trivial)
  clear hK K hHeld;intro hHeld
  try simp only[Act.put,S0,S1,S2]
  refine wpAnyH_ready (rs := [0,3]) (by kernel_rfl) (by simp) ?_
  refine AllReadyH.cons (tqi rfl) (fun K hK => ?_) ?_
  ·go_simp
   refine hK.out _ _ ?_ ?_
   ·(trivial)
   clear hK K hHeld;intro hHeld
   try simp only[Act.put,S0,S1,S2]
   refine wpAnyH_ready (rs := [3]) (by kernel_rfl) (by simp) ?_
   refine AllReadyH.cons (tqi rfl) (fun K hK => ?_) AllReadyH.nil
   go_simp
   refine hK.out _ _ ?_ ?_
   ·(trivial)
   clear hK K hHeld;intro hHeld
   try simp only[Act.put,S0,S1,S2]
   have s2:Below wz1.heap.size wz1 (wz1.alloc (.cells #[.slice Ac yl cc] 48)):=(Below.refl _ _).alloc (Nat.le_refl _) _
   have hd2:Sees (wz1.alloc (.cells #[.slice Ac yl cc] 48)) (wz1.alloc (.cells #[.slice Ac yl cc] 48)).heap.size (some ⟨wz1.heap.size,0,none⟩) [.slice Ac yl cc]:=⟨.inr ⟨_,rfl,by simp,fun j u hu=>by match j,hu with|0,hu=>(simp at hu;subst hu;rw[Addr.add_lit,World.cell?_alloc_at _ _ _ _ rfl];rfl)⟩⟩
   obtain ⟨wz2,hwz2⟩:∃wz2,(wz1.alloc (.cells #[.slice Ac yl cc] 48))=wz2:=⟨_,rfl⟩
   rw[hwz2] at s2 hd2 ⊢
   clear hHeld
   have hHeld:True:=trivial
   have r2:=r1.trans (s2.mono r1.size)
   have c2:=(hbox.below r2 hbox.lt).cell
   have f2:=(hbox.below r2 hbox.lt).frozen
   have sm2:=(sm1.keep (Kept.of_below s2 fun k e=>e.2)).mono (m':=fun k=>W.heap.size≤k∧k<wz2.heap.size) fun k e=>⟨e.1,Nat.lt_of_lt_of_le e.2 s2.size⟩
   refine wpAnyH_ready (rs := [4]) (by kernel_rfl) (by simp) ?_
   refine AllReadyH.cons (tqi rfl) (fun K hK => ?_) AllReadyH.nil
   refine step_append_v (by rfl) (.tmp 9) (.tmp 12) 47 (by rfl) 48 i0 _ 1 24 Tryz.underlying47 hi0 hz0 hz1 hz2 rfl (by omega) (w1.heap.size+2) _ _ _ (by rfl) (ownsRow_kept k1 (fun k e=>r2.block k (hq k (k2 k e)).2)) _ (some ⟨wz1.heap.size,0,none⟩) 1 1 [.slice Ac yl cc] (by rfl) rfl hd2 (fun u hu=>by simp at hu;subst hu;rfl) (by simp only[maxLen];omega) (by omega) (Nat.le_trans hbW r2.size) ?_
   intro v' wz3 hown3 hon3
   obtain ⟨gv,cv',rfl⟩:=ownsRow_succ hown3
   have c3:=((hbox.below r2 hbox.lt).turn (Turn.onto (T:=fun k=>_=some k) hon3 fun k e=>e) hnb).cell
   have f3:=((hbox.below r2 hbox.lt).turn (Turn.onto (T:=fun k=>_=some k) hon3 fun k e=>e) hnb).frozen
   refine hK.out _ _ ?_ ?_
   ·(trivial)
   clear hK K hHeld;intro hHeld
   try simp only[Act.put,S0,S1,S2]
   refine wpAnyH_ready (rs := [5]) (by kernel_rfl) (by simp) ?_
   refine AllReadyH.cons (tqi rfl) (fun K hK => ?_) AllReadyH.nil
   go_simp
   refine hK.out _ _ ?_ ?_
   ·(trivial)
   clear hK K hHeld;intro hHeld
   try simp only[Act.put,S0,S1,S2]
   refine wpAnyH_done (by kernel_rfl) ?_ _
   refine Only.normal ?_
   gi_wp2_with fail
   obtain rfl:=HLN.out
   obtain rfl:=HYL.out
   obtain ⟨q',hq',hQ',hB',hT'⟩:=coll_done (wp:=wz2) hbox hq (by have:=HZ1.out;omega) hbW k1' k2' k3 r2 sm2 hcc hown3 hon3
   have hTT:=hT'.mono (T':=fun k=>¬ s k∧¬ (k<w.heap.size∨k=w.heap.size+1∨k=w.heap.size+1+1)∧k≠w1.heap.size∧k≠w1.heap.size+1) (fun j _ e=>by have hz:=HZ1.out;rcases e with rfl|e;exact ⟨fun e=>by have:=h2 _ e;omega,by omega,by omega,by omega⟩;have h1:=(hq _ (k2' _ e)).1;exact ⟨(h9 _ (k2' _ e)).2,by omega,by omega,by omega⟩)
   have hTb:=hT'.below (b:=w.heap.size) (fun j e=>by rcases e with rfl|e;omega;have h1:=(hq _ (k2' _ e)).1;have hz:=HZ1.out;omega) h3.size
   have hq2:∀k,q' k→(w1.heap.size+2≤k∧k<_)∧¬ s k:=fun k hk=>by have h1:=hq' k hk;refine ⟨⟨?_,h1.2⟩,fun e => ?_⟩;(rcases h1.1 with g|g;exact (hq k g).1;omega);(rcases h1.1 with g|g;exact (h9 k g).2 e;exact absurd (h2 k e).2 (by omega))
   exact And.intro hTT ⟨fun k hk=>⟨(h2 k hk).1,Nat.lt_of_lt_of_le (h2 k hk).2 hT'.size⟩,h3.trans hTb,Nat.le_trans h4 hT'.size,_,q',hB',by show OwnQ q' _ _ _ ((pre ++ [(y,ym)]).map fun z=>z.1.1);rw[List.map_append];exact hQ',hq2⟩
  refine AllReadyH.cons (tqi rfl) (fun K hK => ?_) AllReadyH.nil
  go_simp
  refine hK.out _ _ ?_ ?_
  ·(trivial)
  clear hK K hHeld;intro hHeld
  try simp only[Act.put,S0,S1,S2]
  have s2:Below wz1.heap.size wz1 (wz1.alloc (.cells #[.slice Ac yl cc] 48)):=(Below.refl _ _).alloc (Nat.le_refl _) _
  have hd2:Sees (wz1.alloc (.cells #[.slice Ac yl cc] 48)) (wz1.alloc (.cells #[.slice Ac yl cc] 48)).heap.size (some ⟨wz1.heap.size,0,none⟩) [.slice Ac yl cc]:=⟨.inr ⟨_,rfl,by simp,fun j u hu=>by match j,hu with|0,hu=>(simp at hu;subst hu;rw[Addr.add_lit,World.cell?_alloc_at _ _ _ _ rfl];rfl)⟩⟩
  obtain ⟨wz2,hwz2⟩:∃wz2,(wz1.alloc (.cells #[.slice Ac yl cc] 48))=wz2:=⟨_,rfl⟩
  rw[hwz2] at s2 hd2 ⊢
  clear hHeld
  have hHeld:True:=trivial
  have r2:=r1.trans (s2.mono r1.size)
  have c2:=(hbox.below r2 hbox.lt).cell
  have f2:=(hbox.below r2 hbox.lt).frozen
  have sm2:=(sm1.keep (Kept.of_below s2 fun k e=>e.2)).mono (m':=fun k=>W.heap.size≤k∧k<wz2.heap.size) fun k e=>⟨e.1,Nat.lt_of_lt_of_le e.2 s2.size⟩
  refine wpAnyH_ready (rs := [0]) (by kernel_rfl) (by simp) ?_
  refine AllReadyH.cons (tqi rfl) (fun K hK => ?_) AllReadyH.nil
  go_simp
  refine hK.out _ _ ?_ ?_
  ·(trivial)
  clear hK K hHeld;intro hHeld
  try simp only[Act.put,S0,S1,S2]
  refine wpAnyH_ready (rs := [4]) (by kernel_rfl) (by simp) ?_
  refine AllReadyH.cons (tqi rfl) (fun K hK => ?_) AllReadyH.nil
  refine step_append_v (by rfl) (.tmp 9) (.tmp 12) 47 (by rfl) 48 i0 _ 1 24 Tryz.underlying47 hi0 hz0 hz1 hz2 rfl (by omega) (w1.heap.size+2) _ _ _ (by rfl) (ownsRow_kept k1 (fun k e=>r2.block k (hq k (k2 k e)).2)) _ (some ⟨wz1.heap.size,0,none⟩) 1 1 [.slice Ac yl cc] (by rfl) rfl hd2 (fun u hu=>by simp at hu;subst hu;rfl) (by simp only[maxLen];omega) (by omega) (Nat.le_trans hbW r2.size) ?_
  intro v' wz3 hown3 hon3
  obtain ⟨gv,cv',rfl⟩:=ownsRow_succ hown3
  have c3:=((hbox.below r2 hbox.lt).turn (Turn.onto (T:=fun k=>_=some k) hon3 fun k e=>e) hnb).cell
  have f3:=((hbox.below r2 hbox.lt).turn (Turn.onto (T:=fun k=>_=some k) hon3 fun k e=>e) hnb).frozen
  refine hK.out _ _ ?_ ?_
  ·(trivial)
  clear hK K hHeld;intro hHeld
  try simp only[Act.put,S0,S1,S2]
  refine wpAnyH_ready (rs := [5]) (by kernel_rfl) (by simp) ?_
  refine AllReadyH.cons (tqi rfl) (fun K hK => ?_) AllReadyH.nil
  go_simp
  refine hK.out _ _ ?_ ?_
  ·(trivial)
  clear hK K hHeld;intro hHeld
  try simp only[Act.put,S0,S1,S2]
  refine wpAnyH_done (by kernel_rfl) ?_ _
  refine Only.normal ?_
  gi_wp2_with fail
  obtain rfl:=HLN.out
  obtain rfl:=HYL.out
  obtain ⟨q',hq',hQ',hB',hT'⟩:=coll_done (wp:=wz2) hbox hq (by have:=HZ1.out;omega) hbW k1' k2' k3 r2 sm2 hcc hown3 hon3
  have hTT:=hT'.mono (T':=fun k=>¬ s k∧¬ (k<w.heap.size∨k=w.heap.size+1∨k=w.heap.size+1+1)∧k≠w1.heap.size∧k≠w1.heap.size+1) (fun j _ e=>by have hz:=HZ1.out;rcases e with rfl|e;exact ⟨fun e=>by have:=h2 _ e;omega,by omega,by omega,by omega⟩;have h1:=(hq _ (k2' _ e)).1;exact ⟨(h9 _ (k2' _ e)).2,by omega,by omega,by omega⟩)
  have hTb:=hT'.below (b:=w.heap.size) (fun j e=>by rcases e with rfl|e;omega;have h1:=(hq _ (k2' _ e)).1;have hz:=HZ1.out;omega) h3.size
  have hq2:∀k,q' k→(w1.heap.size+2≤k∧k<_)∧¬ s k:=fun k hk=>by have h1:=hq' k hk;refine ⟨⟨?_,h1.2⟩,fun e => ?_⟩;(rcases h1.1 with g|g;exact (hq k g).1;omega);(rcases h1.1 with g|g;exact (h9 k g).2 e;exact absurd (h2 k e).2 (by omega))
  exact And.intro hTT ⟨fun k hk=>⟨(h2 k hk).1,Nat.lt_of_lt_of_le (h2 k hk).2 hT'.size⟩,h3.trans hTb,Nat.le_trans h4 hT'.size,_,q',hB',by show OwnQ q' _ _ _ ((pre ++ [(y,ym)]).map fun z=>z.1.1);rw[List.map_append];exact hQ',hq2⟩
 case done =>
  rintro s xs W hS ⟨h2,h3,h4,v,q,hbox,h8,h9⟩ hK
  have hc7:=hbox.cell
  have hxs:(xs.map fun z=>z.1.1)=U:=by rw[←HU.out, ←show xs.map (tk key)=runs K from hS,List.map_map];rfl
  rw[hxs] at h8
  obtain ⟨Av,cv,rfl,hcv, -⟩:=h8.open_
  have hpt:=Turn.putObj W w1.heap.size (.deferred none) (T:=fun k=>k=w1.heap.size) rfl
  have hres:=(h8.keep (Kept.of_turn hpt fun k hk=>⟨(h9 k hk).1.2,by have:=(h9 k hk).1.1;omega⟩)).mono (q':=fun k=>w.heap.size≤k∧k<(W.putObj w1.heap.size (.deferred none)).heap.size) (fun k hk=>⟨by have:=(h9 k hk).1.1;omega,by rw[World.putObj_size];exact (h9 k hk).1.2⟩)
  have hbel:=h3.trans (hpt.below (b:=w.heap.size) (fun j hj=>by omega) h3.size)
  have hres2:OwnQ (fun k=>w.heap.size≤k∧k<(W.putObj w1.heap.size (.deferred none)).heap.size) (W.putObj w1.heap.size (.deferred none)) w.heap.size (.slice Av U.length cv) U:=hres.base_le (by omega)
  obtain ⟨lz,hlz⟩:∃lz,U.length=lz:=⟨_,rfl⟩
  rw[hlz] at hc7 hres2
  have hbel':=Lib.hid hbel
  clear hz1 hlz hD c0 hbw hxs
  gi_wp2_with fail
  refine ⟨by simp,.inl ⟨_,_,rfl,run_takeDeferred hK,?_⟩⟩
  exact ⟨_,results_tmp rfl _ _ _,.slice Av lz cv,rfl,hres2,hbel'.out⟩
 case stop=>exact fun c s pre W h1 h2 h3=>h2.elim
end KB
end Go.Proofs.YtalmnodgjjcefaaGreatDoor
