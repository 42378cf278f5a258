/- Several texts in one: TgMemW TgMemP TgTiers TgGather TgOps. -/
import Derived.Test.YtalmnodgjjcefaaGreatDoorJTgA
import Derived.Test.YtalmnodgjjcefaaGreatDoorJIpC
import Derived.Shelf.SlicesE.DeleteFunc
import Derived.Lib.OwnBridge
import Derived.Test.YtalmnodgjjcefaaGreatDoorJKmC
import Derived.Test.YtalmnodgjjcefaaGreatDoorJIpE
set_option maxRecDepth 100000
set_option maxHeartbeats 1600000
namespace Go.Proofs.YtalmnodgjjcefaaGreatDoor
section
open Go.RowKit Go.Maps
def RowS (w:World) (ls:List Item) (e:Ending) (w' : World):Prop:=∃A c,e = .returned (.slice A ls.length c)∧ls.length≤c∧Sees2M (fun k=>w.heap.size≤k∧k<w'.heap.size) w' A ls∧Below w.heap.size w w'
theorem OwnS.open2 {w:World}{base:Nat}{v:Value}{ls:List Item}(h:OwnS w base v ls):∃A c,v = .slice A ls.length c∧ls.length≤c∧Sees2M (fun k=>base≤k∧k<w.heap.size) w A ls:=by
 obtain ⟨vs,h1,h2⟩:=h.out
 rcases h1.2 with ⟨rfl,hn⟩|⟨g,cap,cur,rfl,hb,hh,hc,hm,_⟩
 ·have:ls = []:=List.eq_nil_of_length_eq_zero hn
  subst this
  exact ⟨none,0,rfl,by simp,⟨fun i hi=>absurd hi (by simp)⟩⟩
 ·refine ⟨_,cap,rfl,hc,⟨fun i hi => ?_⟩⟩
  obtain ⟨Ai,ci,h3,h4,h5⟩:=h2 i hi
  refine ⟨_,Ai,ci,rfl,⟨hb,(Array.getElem?_eq_some_iff.1 hh).1⟩,h1.cells (g:=g) rfl i _ h3,h4,?_⟩
  rcases h5.out with e|⟨ad,e,h6,h7, -,h8⟩
  ·exact ⟨.inl e⟩
  ·exact ⟨.inr ⟨ad,e,⟨h6,h7⟩,h8⟩⟩
theorem RowIs.rowS {w w' : World}{ls:List Item}{e:Ending}(h:RowIs w ls e w'):RowS w ls e w':=by
 obtain ⟨v,rfl,h1,h2⟩:=h
 obtain ⟨A,c,rfl,h3,h4⟩:=h1.open2
 exact ⟨A,c,rfl,h3,h4,h2⟩
theorem Sees2M.take {m:Nat→Prop}{w:World}{A:Option Addr}{ls:List Item}(h:Sees2M m w A ls) (k:Nat):Sees2M m w A (ls.take k) :=
 ⟨fun i hi=>by
  obtain ⟨ad,Ai,ci,h1,h2,h3,h4,h5⟩:=h.out i (by rw[List.length_take] at hi;omega)
  rw[List.getElem_take]
  exact ⟨ad,Ai,ci,h1,h2,h3,h4,h5⟩⟩
theorem memHas_any (b:Nat) (mem:List Item) (w:World) (hM:MemAt w b mem) (Bx:Option Addr) (lx dx:Nat) (x:Item) (hx:Sees w w.heap.size Bx (bv x)) (hxl:x.length=lx) (hlx:lx≤1000000) :
  Calls Tryz.prog 318 #[.map (some b),.slice Bx lx dx] w (Gives w (.bool (decide (x∈mem)))):=by
 have hcv:=run_str w _ Bx lx dx x hx hxl
 have hlk:=hM.look 131 Tryz.underlying131 (s:=strOf x) (by rw[strOf_size];simp only[maxLen];omega)
 rw[strOf_data] at hlk
 obtain ⟨r,hr⟩:∃r,decide (x∈mem)=r:=⟨_,rfl⟩
 rw[hr] at hlk ⊢
 clear hr hM hx hxl
 go_enter Tryz.func318,Tryz.ntmps318
 go_wp2
 go_ret
 exact ⟨rfl,Below.refl _ _⟩
end
section
open Go.RowKit Go.Maps Go.Shelf Go.Sort
open KB (El val key EOk)
theorem els_own {w:World}{base:Nat}{v:Value}{ls:List Item}(h:OwnS w base v ls):∃xs:List El,xs.map key=ls∧w.ownsRow base 48 1 v ls.length (xs.map val)∧∀x∈xs,EOk (fun k=>base≤k∧k<w.heap.size∧v.ownBlock≠some k) w x:=by
 obtain ⟨vs,h1,h2⟩:=h.out
 have hvs:vs.length=ls.length:=by have:=h1.1;omega
 have hk:∀k,k≤ls.length→∃xs:List El,xs.length=k∧xs.map key=ls.take k∧xs.map val=vs.take k∧∀x∈xs,EOk (fun k=>base≤k∧k<w.heap.size∧v.ownBlock≠some k) w x:=fun k=>by
  induction k with
  | zero=>intro _;exact ⟨[],rfl,by simp,by simp,by simp⟩
  | succ k ih =>
   intro hk
   obtain ⟨xs,g1,g2,g3,g4⟩:=ih (by omega)
   obtain ⟨Ai,ci,e1,e2,e3⟩:=h2 k (by omega)
   refine ⟨xs ++ [(ls[k],Ai,ci)],by simp[g1],by rw[List.map_append,g2,List.take_succ_eq_append_getElem (by omega)];rfl,?_,fun x hx => ?_⟩
   ·rw[List.map_append,g3,List.take_succ_eq_append_getElem (by omega)]
    congr 1
    rw[List.getElem?_eq_getElem (by omega)] at e1
    rw[Option.some.inj e1]
    rfl
   ·rcases List.mem_append.1 hx with hx|hx
    ·exact g4 x hx
    ·rw[List.mem_singleton.1 hx]
     refine ⟨?_,e2⟩
     rcases e3.out with e|⟨ad,e,h6,h7,h9,h8⟩
     ·exact ⟨.inl e⟩
     ·exact ⟨.inr ⟨ad,e,⟨h6,h7,fun e4=>h9 e4.symm⟩,h8⟩⟩
 obtain ⟨xs,g1,g2,g3,g4⟩:=hk ls.length (Nat.le_refl _)
 refine ⟨xs,by rw[g2,List.take_length],?_,g4⟩
 rw[g3, ←hvs,List.take_length,hvs]
 exact h1
theorem memPre1_any (Pb:Nat) (Bx:Option Addr) (lx dx:Nat) (x:Item) (hxl:x.length=lx) (y:El) (w:World) (hcell:w.cell? ⟨Pb,0,none⟩=some (.slice Bx lx dx)) (hx:Sees w w.heap.size Bx (bv x)) (hy:Sees w w.heap.size y.2.1 (bv y.1)) (hyc:y.1.length≤y.2.2) (hyl:y.1.length≤1000) :
  Calls Tryz.prog 320 #[val y,.pointer (some ⟨Pb,0,none⟩)] w fun e w'=>e = .returned (.bool (!(preB x y.1)))∧∃q,w'=w.drewN q:=by
 have hP:=Lib.hid (HasPrefix_any y.2.1 Bx y.1.length y.2.2 lx dx y.1 x rfl hxl hyc (by omega) w hy hx)
 have hnot:∀(x:Bool) (w:World),(Op.unary .not (.bool x)).run Tryz.prog w = .ok (.bool (!x)) w:=fun _ _=>rfl
 unfold val
 obtain ⟨ly,hly⟩:∃ly,y.1.length=ly:=⟨_,rfl⟩
 rw[hly] at hP ⊢
 obtain ⟨r,hr⟩:∃r,preB x y.1=r:=⟨_,rfl⟩
 rw[hr] at hP ⊢
 clear hr hly hyc hyl hx hy hxl
 go_enter Tryz.func320,Tryz.ntmps320
 go_wp2_with fail
 refine hP.out.mono ?_
 rintro e w1 ⟨rfl,rfl⟩
 go_wp2
 go_ret
 exact ⟨rfl,0,rfl⟩
theorem IndexFuncB_empty (A:Option Addr) (c:Nat) (f:Value) (hf:∃g lb,f = .func (.func g) #[] lb) (w:World):Calls Tryz.prog 139 #[.slice A 0 c,f] w fun e w'=>e = .returned (.int .i64 (-1))∧w=w':=by
 obtain ⟨g,lb,rfl⟩:=hf
 go_enter Tryz.func139,Tryz.ntmps139
 go_wp2
 go_loop [8] (fun i=>i = .int .i64 0) (fun _=>0)
 case atStart=>rfl
 case round =>
  subst hrel
  go_wp2
  go_ret
  exact ⟨rfl,rfl⟩
theorem DeleteFuncB_empty (A:Option Addr) (c:Nat) (g:FuncId) (lb:Array Value) (w:World):Calls Tryz.prog 93 #[.slice A 0 c,.func (.func g) #[] lb] w fun e w'=>e = .returned (.slice A 0 c)∧w=w':=by
 have hi:=fun w=>Lib.hid (IndexFuncB_empty A c (.func (.func g) #[] lb) ⟨g,lb,rfl⟩ w)
 go_enter Tryz.func93,Tryz.ntmps93
 go_wp2_with fail
 refine (hi _).out.mono ?_
 rintro e w' ⟨rfl,rfl⟩
 go_wp2
 go_ret
 exact ⟨rfl,rfl⟩
theorem DeletePre_any (Pb:Nat) (Bx:Option Addr) (lx dx:Nat) (x:Item) (hxl:x.length=lx) (base:Nat) (v:Value) (ls:List Item) (w:World) (hown:OwnS w base v ls) (hn:ls.length≤1000) (hy:∀y∈ls,y.length≤1000)
  (hcell:w.cell? ⟨Pb,0,none⟩=some (.slice Bx lx dx)) (hx:SeesM (fun k=>k<base) w Bx (bv x)) (hPb:Pb<base) (_hbase:base≤w.heap.size) :
  Calls Tryz.prog 93 #[v,.func (.func 320) #[] #[.pointer (some ⟨Pb,0,none⟩)]] w fun e w'=>∃A c,e = .returned (.slice A (ls.filter (preB x)).length c)∧(ls.filter (preB x)).length≤c∧Sees2M (fun k=>base≤k∧k<w'.heap.size) w' A (ls.filter (preB x))∧Below base w w':=by
 obtain ⟨xs,hk,hrow,hok⟩:=els_own hown
 have hP:=World.block_lt_of_cell? w _ hcell
 simp only at hP
 by_cases h0:ls.length=0
 ·have ha:ls = []:=List.eq_nil_of_length_eq_zero h0
  subst ha
  obtain ⟨A,c,rfl, -⟩:=hown.open2
  refine (DeleteFuncB_empty A c _ _ w).mono fun e w' ⟨he,hw⟩=>⟨A,c,he,by simp,?_,by rw[←hw];exact Below.refl _ _⟩
  exact ⟨fun i hi=>absurd hi (by simp)⟩
 ·obtain ⟨g0,cap0,rfl⟩:∃g cap,v = .slice (some ⟨g,0,none⟩) ls.length cap:=by
   rcases hrow.2 with ⟨-,h⟩|⟨g,cap,cur,h, -⟩
   ·exact absurd h h0
   ·exact ⟨g,cap,h⟩
  let m:Nat→Prop:=fun k=>base≤k∧k<w.heap.size∧(Value.slice (some ⟨g0,0,none⟩) ls.length cap0).ownBlock≠some k
  let α := { y:El // EOk m w y∧y.1.length≤1000 }
  haveI:Inhabited α:=⟨⟨([],none,0),⟨⟨.inl rfl⟩,Nat.le_refl _⟩,by simp⟩⟩
  let enc:α→Value:=fun y=>val y.1
  obtain ⟨dl,hdl⟩:∃dl:List α,dl.map (·.1)=xs:=⟨xs.attach.map fun y=>⟨y.1,hok y.1 y.2,hy _ (by rw[←hk];exact List.mem_map_of_mem y.2)⟩,by rw[List.map_map];exact List.attach_map_subtype_val xs⟩
  have hvl:∀l:List α,l.map enc=(l.map (·.1)).map val:=fun l=>by simp[enc]
  have hdn:dl.length=ls.length:=by rw[←hk, ←hdl];simp
  have hrow2:w.ownsRow base 48 1 (.slice (some ⟨g0,0,none⟩) dl.length cap0) dl.length (dl.map enc):=by rw[hvl,hdl,hdn];exact hrow
  obtain ⟨g,cap,e',hg1,hg2,hnc,hm,hl,hH⟩:=Lib.holds_of_ownsRow hrow2 (by simp)
  have e1:g=g0:=by simp only[Value.slice.injEq,Option.some.injEq,Addr.mk.injEq] at e';exact e'.1.1.symm
  have e2:cap=cap0:=by simp only[Value.slice.injEq] at e';exact e'.2.2.symm
  subst e1 e2
  clear e'
  rw[←hdn] at hrow hown ⊢
  have hgm:∀k,m k→k≠g:=fun k e e2=>e.2.2 (by rw[e2];rfl)
  have hsw:∀(n:Nat) (os:Array Obj) (dk:Array α),Kept (fun k=>k<w.heap.size∧k≠g) w (sortWorld enc w g 0 n dk os):=fun n os dk k hk=>by rw[KB.sw_heap enc w g n dk os k hk.1,if_neg (fun e=>hk.2 e.symm)]
  have hgive:∀(W:World) (y:α),Kept (fun k=>k<w.heap.size∧k≠g) w W→w.heap.size≤W.heap.size→FnGives Tryz.prog 320 #[.pointer (some ⟨Pb,0,none⟩)] #[enc y] (.bool (!(preB x y.1.1))) W:=fun W y hK hW =>
   memPre1_any Pb Bx lx dx x hxl y.1 W ((hK.cell (p:=⟨Pb,0,none⟩) ⟨hP,by simp only;omega⟩).trans hcell) ((hx.keep (hK.mono fun k e=>⟨by omega,by omega⟩)).sees fun k e=>by omega) ((y.2.1.sees.keep (hK.mono fun k e=>⟨e.2.1,hgm k e⟩)).sees fun k e=>by have:=e.2.1;omega) y.2.1.cap y.2.2
  have hp:PredAt Tryz.prog 320 #[.pointer (some ⟨Pb,0,none⟩)] enc (fun y => !(preB x y.1.1)) w:=fun W y hb=>hgive W y (Kept.of_below hb fun k e=>e.1) hb.size
  have hpo:PredOver Tryz.prog 320 #[.pointer (some ⟨Pb,0,none⟩)] enc (fun y => !(preB x y.1.1)) g 0 dl.toArray.size w:=fun n os dk y _=>hgive _ y (hsw n os dk) (KB.sw_size enc w g n dk os)
  have hcon:=AnyE.slices_DeleteFunc Tryz.delB enc (fun y=>KB.val_one y.1) (fun y:α => !(preB x y.1.1)) 320 #[.pointer (some ⟨Pb,0,none⟩)] (enters_of Tryz.func320 (by kernel_rfl) rfl) ⟨([],none,0),⟨⟨.inl rfl⟩,Nat.le_refl _⟩,by simp⟩ (by intro w;kernel_rfl) g 0 cap dl.toArray w hp hpo hH (by rw[List.size_toArray];omega) (by rw[List.size_toArray];exact hnc)
  change Calls Tryz.prog 93 _ _ _ at hcon
  rw[List.size_toArray] at hcon
  simp only[Bool.not_not] at hcon
  have hfk:((dl.filter fun y=>preB x y.1.1).map (·.1)).map key=ls.filter (preB x):=by
   rw[←hk, ←hdl,List.filter_map,List.filter_map]
   rfl
  have hfl:(dl.filter fun y=>preB x y.1.1).length=(ls.filter (preB x)).length:=by rw[←hfk];simp
  refine hcon.mono fun e w' ⟨he,q,hw⟩ => ?_
  have hle:=List.length_filter_le (fun y:α=>preB x y.1.1) dl
  have hr:=Lib.ownsRow_putRow (q:=q) (k:=(dl.filter fun y=>preB x y.1.1).length) (ys:=(dl.filter fun y=>preB x y.1.1)++List.replicate (dl.length - (dl.filter fun y=>preB x y.1.1).length) (⟨([],none,0),⟨⟨.inl rfl⟩,Nat.le_refl _⟩,by simp⟩:α)) hrow2 (by simp;omega) hle
  rw[List.take_left] at hr
  rw[←hw] at hr
  have hB:Below g w w':=by rw[hw];exact Lib.below_putRow (Below.refl _ _) (Nat.le_refl _)
  have hKw:Kept (fun k=>k<w.heap.size∧k≠g) w w':=by
   rw[hw]
   intro k hk
   simp[putRow,mapBlock,Sort.ahead,Array.getElem?_modify,show g≠k from fun e=>hk.2 e.symm]
  have hz:w'.heap.size=w.heap.size:=by rw[hw];simp[putRow,mapBlock,Sort.ahead]
  refine ⟨some ⟨g,0,none⟩,cap,by rw[←hfl];exact he,by rw[←hfl];omega,⟨fun i hi => ?_⟩,hB.mono hg1⟩
  have hi2:i<(dl.filter fun y=>preB x y.1.1).length:=by rw[hfl];exact hi
  have hci:=World.ownsRow.cells hr (g:=g) rfl i (enc (dl.filter fun y=>preB x y.1.1)[i]) (by rw[List.getElem?_map,List.getElem?_eq_getElem hi2];rfl)
  have hel:(ls.filter (preB x))[i]=((dl.filter fun y=>preB x y.1.1)[i]).1.1:=by
   have:=List.getElem_of_eq hfk.symm hi
   rw[this,List.getElem_map,List.getElem_map]
   rfl
  have hee:=((dl.filter fun y=>preB x y.1.1)[i]).2
  refine ⟨_,((dl.filter fun y=>preB x y.1.1)[i]).1.2.1,((dl.filter fun y=>preB x y.1.1)[i]).1.2.2,rfl,⟨hg1,by simp only;omega⟩,?_,?_,?_⟩
  ·rw[hel];exact hci
  ·rw[hel];exact hee.1.cap
  ·rw[hel];exact (hee.1.sees.keep (hKw.mono fun k e=>⟨e.2.1,hgm k e⟩)).mono fun k e=>⟨e.1,by have:=e.2.1;omega⟩
theorem memPrefix_any (b:Nat) (mem:List Item) (w:World) (hM:MemAt w b mem) (hr:Ri ahead mem) (hn:mem.length≤1000) (hy:∀x∈mem,x.length≤1000) (Bx:Option Addr) (lx dx:Nat) (x:Item) (hx:Sees w w.heap.size Bx (bv x)) (hxl:x.length=lx) :
  Calls Tryz.prog 319 #[.map (some b),.slice Bx lx dx] w (RowS w (mem.filter (preB x))):=by
 obtain ⟨wb,hwb⟩:∃wb,w.alloc (.cells #[.slice Bx lx dx] 48)=wb:=⟨_,rfl⟩
 have hbb:Below w.heap.size w wb:=by rw[←hwb];exact (Below.refl _ w).alloc (Nat.le_refl _) _
 have hzb:wb.heap.size=w.heap.size+1:=by rw[←hwb];simp
 have bb:Box1 wb w.heap.size 48 (.slice Bx lx dx):=by rw[←hwb];exact Box1.new w _ _
 have hS:=Lib.hid (sorted_any b mem wb (hM.keep (hbb.block b hM.lt)) hr hn hy)
 have hxb:=Lib.hid (hx.below hbb)
 have HXL:=Lib.hid hxl
 have HY:=Lib.hid hy
 have HN:=Lib.hid hn
 clear hM hr hx hxl hy hn
 go_enter Tryz.func319,Tryz.ntmps319
 go_wp2_with fail
 refine hS.out.mono ?_
 rintro e w1 ⟨v,rfl,hown,hb1⟩
 have hs1:=hb1.size
 have b1:=bb.below hb1 bb.lt
 have hD:=Lib.hid (DeletePre_any w.heap.size Bx lx dx x HXL.out wb.heap.size v mem w1 hown HN.out HY.out b1.cell ((hxb.out.below (hb1.mono (by omega))).toM.mono fun k e=>by omega) (by omega) hs1)
 clear hS
 go_wp2_with fail
 refine hD.out.mono ?_
 rintro e w2 ⟨A,c,rfl,hc,hA,hb2⟩
 go_wp2
 go_ret
 exact ⟨A,c,rfl,hc,hA.mono fun k e=>⟨by omega,e.2⟩,hbb.trans ((hb1.trans (hb2.mono (Nat.le_refl _))).mono (by omega))⟩
end
section
open Go.RowKit Go.Maps
theorem Tryz.tierinfo:(Tryz.prog.info? 154).map (fun i=>(i.zero,i.size,i.bytes))=some (some .nilIface,1,16):=by kernel_rfl
theorem ownsRow_one (w:World) (b:Nat) (hb:w.heap.size=b) (u:Value) (t:TypeId):(w.alloc (.cells #[u] t)).ownsRow b t 1 (.slice (some ⟨b,0,none⟩) 1 1) 1 [u]:=by
 subst hb
 exact World.ownsRow_lit (e:=t) (size:=1) (base:=w.heap.size) w #[u] 1 (Nat.le_refl _) (by simp[maxLen]) (by simp)
def TiersIs (w:World) (ts:List (List Item)) (e:Ending) (w' : World):Prop:=∃A c,e = .returned (.slice A ts.length c)∧TiersAt w' A ts∧Below w.heap.size w w'
theorem tiers_any (m:Nat→Prop) (w:World) (S:Nat) (s:SetM) (h:SetAt m w S s) (hr:Ri ahead s.mem) (hn:s.fs.length≤1000) :
  Calls Tryz.prog 101 #[.pointer (some ⟨S,0,none⟩)] w (TiersIs w s.tiers):=by
 obtain ⟨bm,v,h1,h2,h3,h4,h5,h6,h7,h8⟩:=h.out
 obtain ⟨ps,g1,g2,g3⟩:=h8.out
 have hlt:=h.lt
 obtain ⟨A,c,rfl,hc⟩:∃A c,v = .slice A s.fs.length c∧s.fs.length≤c:=by obtain ⟨A,c,e,hc, -⟩:=h8.open_;exact ⟨A,c,e,hc⟩
 have hS:Sees w w.heap.size A ps:=Sees.of_own g1
 have hpl:ps.length=s.fs.length:=by have:=g1.1;omega
 obtain ⟨TV,hTV⟩:∃TV:List Value,Value.iface 131 (.map (some bm)) :: ps.map (Value.iface 160)=TV:=⟨_,rfl⟩
 have hTl:TV.length=s.fs.length+1:=by rw[←hTV];simp[hpl]
 have hfin:∀(w' : World) (g:Nat) (cap:Nat),w'.ownsRow w.heap.size 154 1 (.slice (some ⟨g,0,none⟩) (s.fs.length+1) cap) (s.fs.length+1) TV→Below w.heap.size w w'→TiersAt w' (some ⟨g,0,none⟩) s.tiers:=fun w' g cap hown hb=>⟨fun i hi=>by
  have hlt2:=World.ownsRow.lt hown g rfl
  have hi2:i<s.fs.length+1:=by simpa[SetM.tiers] using hi
  refine ⟨⟨g,0,none⟩,TV[i]'(by omega),rfl,hlt2.2,World.ownsRow.cells hown (g:=g) rfl i _ (List.getElem?_eq_getElem (by omega)),?_⟩
  subst hTV
  cases i with
  | zero=>exact ⟨.inl ⟨bm,rfl,h7.keep (hb.block bm h7.lt),hr⟩⟩
  | succ j =>
   have hj:j<s.fs.length:=by omega
   obtain ⟨P,e1,e2⟩:=g3 j hj
   rw[List.getElem?_eq_getElem (by omega)] at e1
   have e1:=Option.some.inj e1
   refine ⟨.inr ⟨P,?_,?_⟩⟩
   ·simp only[List.getElem_cons_succ,List.getElem_map]
    rw[e1]
   ·have:s.tiers[j+1]'hi=s.fs[j]:=rfl
    rw[this]
    exact (e2.keep (Kept.of_below hb fun k e=>hlt k e.1.1)).mono fun k e=>Nat.lt_of_lt_of_le (hlt k e.1.1) hb.size⟩
 obtain ⟨n,hn'⟩:∃n,s.fs.length=n:=⟨_,rfl⟩
 have htl:s.tiers.length=n+1:=by simp[SetM.tiers,hn']
 unfold TiersIs
 rw[htl]
 rw[hn'] at hc h2 hpl hTl hn hfin
 have HF:=Lib.hid hfin
 have HTL:=Lib.hid hTl
 have HPL:=Lib.hid hpl
 have HTV:=Lib.hid hTV
 obtain ⟨ti,hi,hz0,hz1,hz2⟩:=info_parts Tryz.tierinfo
 have hSlt:S<w.heap.size:=hlt S h4
 clear h8 g1 g2 g3 h3 h4 h5 h6 h7 hlt hr h hfin hTl hpl hn' htl hTV
 go_enter Tryz.func101,Tryz.ntmps101
 go_wp2
 go_loopg [3,19] n (fun g u i wr=>∃k:Nat,k+g=n∧i = .int .i64 k∧wr.ownsRow w.heap.size 154 1 u (k+1) (TV.take (k+1))∧Below w.heap.size w wr)
 case atStart =>
  refine ⟨0,by omega,rfl,?_,(Below.refl _ w).alloc (Nat.le_refl _) _⟩
  rw[←HTV.out]
  exact ownsRow_one w _ rfl _ _
 case round =>
  obtain ⟨k,hk,rfl,hown,hb⟩:=hrel
  have hbs:=hb.size
  by_cases hlt:k<n
  ·obtain ⟨ad,rfl,hadB,hcell0⟩:=hS.at_ (k:=k) (by rw[HPL.out];exact hlt)
   have hT:Hid (TV.take (k+1+1)=TV.take (k+1) ++ [Value.iface 160 (ps[k]'(by rw[HPL.out];exact hlt))]):=by
    unfold Hid
    rw[List.take_succ_eq_append_getElem (by rw[HTL.out];omega)]
    congr 2
    simp[←HTV.out]
   obtain ⟨p,hp⟩:∃p,ps[k]'(by rw[HPL.out];exact hlt)=p:=⟨_,rfl⟩
   rw[hp] at hcell0 hT
   have hcell:wr.cell? (ad.add k)=some p:=(hb.cell (by rw[add_block];exact hadB)).trans hcell0
   obtain ⟨tk,htk⟩:∃tk,TV.take (k+1)=tk:=⟨_,rfl⟩
   rw[htk] at hown hT
   clear hp hcell0 htk
   go_wp2_with (at_builtin;(refine wpList_append_v rfl (.tmp 23) (.tmp 26) 152 rfl 154 ti _ 1 16 Tryz.underlying152 hi hz0 hz1 hz2 rfl (by omega) w.heap.size _ (k+1) tk (by rfl) (World.ownsRow.alloc hown _) (wr.heap.size+1) (some ⟨wr.heap.size,0,none⟩) 1 1 [.iface 160 p] (by rfl) rfl (sees_cell wr _ rfl _ _) (fun u hu=>by simp at hu;subst hu;rfl) (by simp only[maxLen];omega) (by omega) (by simp;omega) ?_;intro v2 w4 hown4 hon4))
   go_roundg (n - (k+1))
   case measure=>omega
   case rel =>
    refine ⟨k+1,by omega,by go_num,by rw[hT.out];exact hown4,hb.trans (((Below.refl _ wr).alloc hbs _).trans (hon4.below (by simp;omega) fun g e=>(World.ownsRow.lt hown g e).1))⟩
  ·obtain rfl:k=n:=by omega
   have hE:Hid (TV.take (k+1)=TV):=by unfold Hid;rw[←HTL.out];exact List.take_length
   rw[hE.out] at hown
   go_wp2
   go_ret
   rcases hown.2 with ⟨-,h0⟩|⟨g,cap,cur,rfl, -, -, -, -⟩
   ·omega
   ·exact ⟨_,cap,rfl,HF.out _ g cap hown hb,hb⟩
theorem mHasM (b:Option Nat) (w:World):(method 454 131 (.map b) "Has").run Tryz.prog w = .ok (318,.map b) w:=by kernel_rfl
theorem mPreM (b:Option Nat) (w:World):(method 454 131 (.map b) "Prefix").run Tryz.prog w = .ok (319,.map b) w:=by kernel_rfl
theorem mHasP (a:Addr) (w:World):(method 454 160 (.pointer (some a)) "Has").run Tryz.prog w = .ok (323,.pointer (some a)) w:=by kernel_rfl
theorem mPreP (a:Addr) (w:World):(method 454 160 (.pointer (some a)) "Prefix").run Tryz.prog w = .ok (324,.pointer (some a)) w:=by kernel_rfl
structure TierOk (ls:List Item):Prop where
 few:ls.length≤1000
 short:∀x∈ls,x.length≤1000
section
variable {v : Value} {ls : List Item} {w : World} {Pb Pm : Nat} {Bx : Option Addr} {lx dx : Nat} {x : Item}
theorem has1_any (hT:TierAt w v ls) (hxl:x.length=lx) (hlx:lx≤1000000) (hcell:w.cell? ⟨Pb,0,none⟩=some (.slice Bx lx dx)) (hx:Sees w w.heap.size Bx (bv x)) :
  Calls Tryz.prog 102 #[v,.pointer (some ⟨Pb,0,none⟩)] w (Gives w (.bool (decide (x∈ls)))):=by
 rcases hT.out with ⟨b,rfl,hM, -⟩|⟨P,rfl,hP⟩
 ·have hC:=Lib.hid (memHas_any b ls w hM Bx lx dx x hx hxl hlx)
  have hm:=mHasM (some b)
  have he:=fun args w=>enters_of Tryz.func318 (by kernel_rfl) rfl args w
  clear hT hM hx hxl
  go_enter Tryz.func102,Tryz.ntmps102
  go_wp2_with fail
  refine hC.out.mono ?_
  rintro e w1 ⟨rfl,hb⟩
  go_wp2
  go_ret
  exact ⟨rfl,hb⟩
 ·have hC:=Lib.hid (Has_part (x:=x) hP hx hxl (dx:=dx))
  have hm:=mHasP ⟨P,0,none⟩
  have he:=fun args w=>enters_of Tryz.func323 (by kernel_rfl) rfl args w
  clear hT hP hx hxl
  go_enter Tryz.func102,Tryz.ntmps102
  go_wp2_with fail
  refine hC.out.mono ?_
  rintro e w1 ⟨rfl,hb⟩
  go_wp2
  go_ret
  exact ⟨rfl,hb⟩
theorem prefix1t_any (hT:TierAt w v ls) (hO:TierOk ls) (hxl:x.length=lx) (hcell:w.cell? ⟨Pb,0,none⟩=some (.slice Bx lx dx)) (hx:Sees w w.heap.size Bx (bv x)) :
  Calls Tryz.prog 108 #[v,.pointer (some ⟨Pb,0,none⟩)] w (RowS w (ls.filter (preB x))):=by
 rcases hT.out with ⟨b,rfl,hM,hr⟩|⟨P,rfl,hP⟩
 ·have hC:=Lib.hid (memPrefix_any b ls w hM hr hO.few hO.short Bx lx dx x hx hxl)
  have hm:=mPreM (some b)
  have he:=fun args w=>enters_of Tryz.func319 (by kernel_rfl) rfl args w
  clear hT hM hx hxl
  go_enter Tryz.func108,Tryz.ntmps108
  go_wp2_with fail
  refine hC.out.mono ?_
  rintro e w1 ⟨A,c,rfl,h1,h2,hb⟩
  go_wp2
  go_ret
  exact ⟨A,c,rfl,h1,h2,hb⟩
 ·have hC:=Lib.hid (Prefix_part (x:=x) hP hx hxl (dx:=dx))
  have hm:=mPreP ⟨P,0,none⟩
  have he:=fun args w=>enters_of Tryz.func324 (by kernel_rfl) rfl args w
  clear hT hP hx hxl
  go_enter Tryz.func108,Tryz.ntmps108
  go_wp2_with fail
  refine hC.out.mono ?_
  rintro e w1 hI
  obtain ⟨A,c,rfl,h1,h2,hb⟩:=hI.rowS
  go_wp2
  go_ret
  exact ⟨A,c,rfl,h1,h2,hb⟩
end
end
section
open Go.RowKit Go.Maps
theorem any_from {α:Type}{f:α→Bool}{ls:List α}{k:Nat}(h:k<ls.length):(ls.drop k).any f=(f ls[k] || (ls.drop (k+1)).any f):=by
 rw[List.drop_eq_getElem_cons h,List.any_cons]
theorem IndexTier_any (A:Option Addr) (n c:Nat) (ts:List (List Item)) (hn:ts.length=n) (hn6:n≤1000000) (w:World) (hT:TiersAt w A ts) (Pb:Nat) (p:List Item→Bool)
  (hf:∀W v ls,Below w.heap.size w W→TierAt W v ls→Calls Tryz.prog 102 #[v,.pointer (some ⟨Pb,0,none⟩)] W (Gives W (.bool (p ls)))) :
  Calls Tryz.prog 145 #[.slice A n c,.func (.func 102) #[] #[.pointer (some ⟨Pb,0,none⟩)]] w fun e w'=>∃r:Int,e = .returned (.int .i64 r)∧decide (0≤r)=ts.any p∧Below w.heap.size w w':=by
 have HF:=Lib.hid hf
 have HN:=Lib.hid hn
 clear hf hn
 go_enter Tryz.func145,Tryz.ntmps145
 go_wp2
 go_loopg [8] n (fun g i wr=>∃k:Nat,k+g=n∧i = .int .i64 k∧Hid (ts.any p=(ts.drop k).any p)∧Below w.heap.size w wr)
 case atStart=>exact ⟨0,by omega,rfl,rfl,Below.refl _ _⟩
 case round =>
  obtain ⟨k,hk,rfl,heq,hb⟩:=hrel
  by_cases hlt:k<n
  ·obtain ⟨ad,v,rfl, -,hcell,hTi⟩:=(hT.below hb).out k (by rw[HN.out];exact hlt)
   have hstep:=Lib.hid (heq.out.trans (any_from (ls:=ts) (f:=p) (k:=k) (by rw[HN.out];exact hlt)))
   have hC:=Lib.hid (HF.out wr v _ hb hTi)
   obtain ⟨r,hr⟩:∃r,p (ts[k]'(by rw[HN.out];exact hlt))=r:=⟨_,rfl⟩
   rw[hr] at hC hstep
   clear hr heq hTi
   cases r with
   | true =>
    have hT:Hid (ts.any p=true):=by unfold Hid;rw[hstep.out,Bool.true_or]
    clear hstep
    go_wp2_with fail
    refine hC.out.mono ?_
    rintro e w1 ⟨rfl,hb1⟩
    go_wp2
    go_ret
    exact ⟨_,rfl,by rw[hT.out];exact decide_eq_true (by omega),hb.trans (hb1.mono hb.size)⟩
   | false =>
    have hT:Hid (ts.any p=(ts.drop (k+1)).any p):=by unfold Hid;rw[hstep.out,Bool.false_or]
    clear hstep
    go_wp2_with fail
    refine hC.out.mono ?_
    rintro e w1 ⟨rfl,hb1⟩
    go_wp2
    go_roundg (n - (k+1))
    case measure=>omega
    case rel=>exact ⟨k+1,by omega,by go_num,hT,hb.trans (hb1.mono hb.size)⟩
  ·have hT:Hid (ts.any p=false):=by unfold Hid;rw[heq.out,List.drop_eq_nil_of_le (by rw[HN.out];omega)];rfl
   clear heq
   go_wp2
   go_ret
   exact ⟨_,rfl,by rw[hT.out];rfl,hb⟩
theorem ContainsTier_any (A:Option Addr) (n c:Nat) (ts:List (List Item)) (hn:ts.length=n) (hn6:n≤1000000) (w:World) (hT:TiersAt w A ts) (Pb:Nat) (p:List Item→Bool)
  (hf:∀W v ls,Below w.heap.size w W→TierAt W v ls→Calls Tryz.prog 102 #[v,.pointer (some ⟨Pb,0,none⟩)] W (Gives W (.bool (p ls)))) :
  Calls Tryz.prog 100 #[.slice A n c,.func (.func 102) #[] #[.pointer (some ⟨Pb,0,none⟩)]] w (Gives w (.bool (ts.any p))):=by
 have hI:=Lib.hid (IndexTier_any A n c ts hn hn6 w hT Pb p hf)
 obtain ⟨r,hr⟩:∃r,ts.any p=r:=⟨_,rfl⟩
 rw[hr] at hI ⊢
 clear hr hf hT hn
 go_enter Tryz.func100,Tryz.ntmps100
 go_wp2_with fail
 refine hI.out.mono ?_
 rintro e w1 ⟨i,rfl,hi,hb⟩
 have HI:=Lib.hid hi
 clear hi
 go_wp2
 go_ret
 refine ⟨ret_bool ?_,hb⟩
 rw[←HI.out]
theorem Has_of_tiers (p:Option Addr) (w:World) (ts:List (List Item)) (Bx:Option Addr) (lx dx:Nat) (x:Item) (hxl:x.length=lx) (hlx:lx≤1000000) (hx:Sees w w.heap.size Bx (bv x)) (hts:ts.length≤1000000)
  (ht:∀W,Below w.heap.size w W→Calls Tryz.prog 101 #[.pointer p] W (TiersIs W ts)) :
  Calls Tryz.prog 60 #[.pointer p,.slice Bx lx dx] w (Gives w (.bool (ts.any fun f=>decide (x∈f)))):=by
 obtain ⟨wb,hwb⟩:∃wb,w.alloc (.cells #[.slice Bx lx dx] 48)=wb:=⟨_,rfl⟩
 have hbb:Below w.heap.size w wb:=by rw[←hwb];exact (Below.refl _ w).alloc (Nat.le_refl _) _
 have hzb:wb.heap.size=w.heap.size+1:=by rw[←hwb];simp
 have bb:Box1 wb w.heap.size 48 (.slice Bx lx dx):=by rw[←hwb];exact Box1.new w _ _
 have hS:=Lib.hid (ht wb hbb)
 have HXB:=Lib.hid (hx.below hbb)
 have HXL:=Lib.hid hxl
 have HTS:=Lib.hid hts
 obtain ⟨r,hr⟩:∃r,(ts.any fun f=>decide (x∈f))=r:=⟨_,rfl⟩
 rw[hr]
 have HR:=Lib.hid hr
 clear ht hx hxl hr hts
 go_enter Tryz.func60,Tryz.ntmps60
 go_wp2_with fail
 refine hS.out.mono ?_
 rintro e w1 ⟨A,c,rfl,hT,hb1⟩
 have hs1:=hb1.size
 have b1:=bb.below hb1 bb.lt
 have hC:=Lib.hid (ContainsTier_any A ts.length c ts rfl HTS.out w1 hT w.heap.size (fun f=>decide (x∈f)) fun W v ls hW hTi =>
  has1_any hTi HXL.out hlx (b1.below hW b1.lt).cell (((HXB.out.below (hb1.mono (by omega))).below (hW.mono (by omega))).more (by have:=hW.size;omega)))
 rw[HR.out] at hC
 clear hS hT
 go_wp2_with fail
 refine hC.out.mono ?_
 rintro e w2 ⟨rfl,hb2⟩
 go_wp2
 go_ret
 exact ⟨rfl,hbb.trans ((hb1.trans (hb2.mono hs1)).mono (by omega))⟩
structure PileS (n1:Nat) (w:World) (v:Value) (L:List (List Item)):Prop where
 out:∃vs:List Value,w.ownsRow n1 47 1 v L.length vs∧∀i (hi:i<L.length),∃Ai ci,vs[i]?=some (.slice Ai (L[i]).length ci)∧(L[i]).length≤ci∧Sees2M (fun k=>n1≤k∧k<w.heap.size∧v.ownBlock≠some k) w Ai L[i]
 low:n1≤w.heap.size
section
variable {n1 : Nat} {w w' w2 w3 : World} {v v' : Value} {L : List (List Item)} {x : List Item}
theorem PileS.nil (w:World) (n1:Nat) (hl:n1≤w.heap.size):PileS n1 w (.slice none 0 0) []:=⟨⟨[],World.ownsRow_nil _ _ _ _,fun i hi=>absurd hi (by simp)⟩,hl⟩
theorem PileS.push {A1:Option Addr}{c1:Nat}(h:PileS n1 w v L) (hb:Below w.heap.size w w2) (hx:Sees2M (fun k=>w.heap.size≤k∧k<w2.heap.size) w2 A1 x) (hxc:x.length≤c1)
  (vs:List Value) (hvs:w.ownsRow n1 47 1 v L.length vs)
  (hvs2:∀i (hi:i<L.length),∃Ai ci,vs[i]?=some (.slice Ai (L[i]).length ci)∧(L[i]).length≤ci∧Sees2M (fun k=>n1≤k∧k<w.heap.size∧v.ownBlock≠some k) w Ai L[i])
  (hown:w3.ownsRow n1 47 1 v' (L.length+1) (vs ++ [.slice A1 x.length c1])) (hon:Onto w2 w3 v v'):PileS n1 w3 v' (L ++ [x]):=by
 have hs:=hb.size
 have hs3:=hon.size
 have hlow:=h.low
 have hlen:vs.length=L.length:=by have:=hvs.1;omega
 have hvl:=World.ownsRow.lt hvs
 have hv' : ∀k,k<w2.heap.size→v.ownBlock≠some k→v'.ownBlock≠some k:=fun k hk hne e=>by
  rcases hon.at_ with e2|⟨g,e2,hg⟩
  ·exact hne (e2 ▸ e)
  ·rw[e2] at e;injection e with e;omega
 have hk23:∀k,k<w2.heap.size→v.ownBlock≠some k→w3.heap[k]?=w2.heap[k]?:=fun k a b=>hon.grown.block k a (fun e=>b e.symm)
 refine ⟨⟨vs ++ [.slice A1 x.length c1],by rw[List.length_append];exact hown,fun i hi => ?_⟩,by omega⟩
 by_cases hlt:i<L.length
 ·obtain ⟨Ai,ci,g1,g2,g3⟩:=hvs2 i hlt
  rw[List.getElem_append_left hlt,List.getElem?_append_left (by omega)]
  exact ⟨Ai,ci,g1,g2,(g3.keep fun k e=>(hk23 k (by omega) e.2.2).trans (hb.block k e.2.1)).mono fun k e=>⟨e.1,by omega,hv' k (by omega) e.2.2⟩⟩
 ·have he:i=L.length:=by simp at hi;omega
  subst he
  rw[List.getElem_append_right (Nat.le_refl _),List.getElem?_append_right (by omega)]
  refine ⟨A1,c1,by simp[hlen],by simpa using hxc,?_⟩
  simp only[Nat.sub_self,List.getElem_cons_zero]
  have hne:∀k,w.heap.size≤k→v.ownBlock≠some k:=fun k hk e=>by have:=(hvl k e).2;omega
  exact (hx.keep fun k e=>hk23 k e.2 (hne k e.1)).mono fun k e=>⟨by omega,by omega,hv' k e.2 (hne k e.1)⟩
theorem PileS.sees (h:PileS n1 w v L):∃A c,v = .slice A L.length c∧L.length≤c∧Sees3 w w.heap.size A L:=by
 obtain ⟨vs,h1,h2⟩:=h.out
 rcases h1.2 with ⟨rfl,hn⟩|⟨g,cap,cur,rfl, -,hh,hc, -⟩
 ·have:L = []:=List.eq_nil_of_length_eq_zero hn
  subst this
  exact ⟨none,0,rfl,by simp,⟨fun i hi=>absurd hi (by simp)⟩⟩
 ·refine ⟨_,cap,rfl,hc,⟨fun i hi => ?_⟩⟩
  obtain ⟨Ai,ci,g1,g2,g3⟩:=h2 i hi
  exact ⟨_,Ai,ci,rfl,(Array.getElem?_eq_some_iff.1 hh).1,h1.cells (g:=g) rfl i _ g1,g2,g3.sees fun k e=>e.2.1⟩
end
def QIs (w:World) (ls:List Item) (e:Ending) (w' : World):Prop:=∃v,e = .returned v∧OwnQ (fun k=>w.heap.size≤k∧k<w'.heap.size) w' w.heap.size v ls∧Below w.heap.size w w'
theorem Items_q (A:Option Addr) (n c:Nat) (ll:List (List Item)) (w:World) (hS:Sees3 w w.heap.size A ll) (hn:ll.length=n) (hn6:n≤1000) (hf:ll.flatten.length≤10000) (hy:∀r∈ll,∀y∈r,y.length≤1000) :
  Calls Tryz.prog 88 #[.slice A n c] w (QIs w (uniqL ahead ll.flatten)):=by
 obtain ⟨LL,rfl,hR⟩:=KB.rows_of hS
 have hf2:LL.flatten.length≤10000:=by rw[KB.keysOf_flat,List.length_map] at hf;exact hf
 rw[KB.keysOf_flat]
 have hl:∀r∈LL,r.length≤10000:=fun r hr=>by
  have:=List.Sublist.length_le (List.sublist_flatten_of_mem hr)
  omega
 exact KB.Items_own A n c LL w hR (by rw[←hn];simp[KB.keysOf]) (by omega) (fun r hr=>by have:=hl r hr;omega) (by omega) fun r hr y hyr=>by
  have:y.1.length≤1000:=hy _ (List.mem_map_of_mem hr) _ (List.mem_map_of_mem hyr)
  omega
theorem gather_of (p:Option Addr) (w:World) (ts:List (List Item)) (g:FuncId) (lb:Array Value) (eg:∀args w,(callFunc g args).run Tryz.prog w = .ok (.enter g args) w) (R:List Item→List Item) (hts:ts.length≤1000)
  (ht:Calls Tryz.prog 101 #[.pointer p] w (TiersIs w ts))
  (hf:∀W v ls,Below w.heap.size w W→ls∈ts→TierAt W v ls→Calls Tryz.prog g (#[v]++lb) W (RowS W (R ls)))
  (hfl:(ts.map R).flatten.length≤10000) (hy:∀r∈ts.map R,∀y∈r,y.length≤1000) :
  Calls Tryz.prog 107 #[.pointer p,.func (.func g) #[] lb] w (QIs w (uniqL ahead (ts.map R).flatten)):=by
 have HF:=Lib.hid hf
 have HT:=Lib.hid ht
 have HFL:=Lib.hid hfl
 have HY:=Lib.hid hy
 obtain ⟨X,hX⟩:∃X,uniqL ahead (ts.map R).flatten=X:=⟨_,rfl⟩
 rw[hX]
 have HX:=Lib.hid hX
 obtain ⟨n,hn⟩:∃n,ts.length=n:=⟨_,rfl⟩
 have HN:=Lib.hid hn
 rw[hn] at hts
 clear hf ht hfl hy hX hn
 go_enter Tryz.func107,Tryz.ntmps107
 go_wp2_with fail
 refine HT.out.mono ?_
 rintro e w1 ⟨A,c,rfl,hT1,hb1⟩
 have hs1:=hb1.size
 rw[HN.out]
 clear HT
 go_wp2
 go_loopg [5,11] n (fun g u i wr=>∃k:Nat,k+g=n∧i = .int .i64 k∧PileS w1.heap.size wr u ((ts.map R).take k)∧Below w1.heap.size w1 wr)
 case atStart=>exact ⟨0,by omega,rfl,PileS.nil _ _ (Nat.le_refl _),Below.refl _ _⟩
 case round =>
  obtain ⟨k,hk,rfl,hP,hb⟩:=hrel
  have hbs:=hb.size
  obtain ⟨vs,hvs,hvs2⟩:=hP.out
  by_cases hlt:k<n
  ·obtain ⟨ad,v,rfl, -,hcell,hTi⟩:=(hT1.below hb).out k (by rw[HN.out];exact hlt)
   have hC:=Lib.hid (HF.out wr v _ (hb1.trans (hb.mono hs1)) (List.getElem_mem _) hTi)
   have hT2:Hid ((ts.map R).take (k+1)=(ts.map R).take k ++ [R (ts[k]'(by rw[HN.out];exact hlt))]):=by
    unfold Hid
    rw[List.take_succ_eq_append_getElem (by rw[List.length_map,HN.out];exact hlt),List.getElem_map]
   obtain ⟨Y,hY⟩:∃Y,R (ts[k]'(by rw[HN.out];exact hlt))=Y:=⟨_,rfl⟩
   rw[hY] at hC hT2
   obtain ⟨tk,htk⟩:∃tk,(ts.map R).take k=tk:=⟨_,rfl⟩
   have htl:tk.length=k:=by rw[←htk,List.length_take,List.length_map,HN.out];omega
   rw[htk] at hP hvs hvs2 hT2
   have HTL:=Lib.hid htl
   clear hY htk hTi htl
   go_wp2_with fail
   refine hC.out.mono ?_
   rintro e w2 ⟨A2,c2,rfl,h1,h2,hb2⟩
   have hs2:=hb2.size
   clear hC
   go_wp2_with (at_builtin;(refine wpList_append_p rfl (.tmp 15) (.tmp 19) rfl w1.heap.size _ tk.length vs (by rfl) (own_below hvs (hb2.trans ((Below.refl _ w2).alloc hs2 (.cells #[.slice A2 Y.length c2] 47)))) (w2.heap.size+1) (some ⟨w2.heap.size,0,none⟩) (.slice A2 Y.length c2) (by rfl) (sees_cell w2 _ rfl _ _) rfl (by have:=HTL.out;omega) (by simp;omega) ?_;intro v3 w3 hown3 hon3))
   have hP3:=hP.push (hb2.trans ((Below.refl _ w2).alloc hs2 (.cells #[.slice A2 Y.length c2] 47))) ((h2.keep (Kept.of_below ((Below.refl _ w2).alloc (Nat.le_refl _) _) fun k e=>e.2)).mono fun k e=>⟨e.1,by simp;omega⟩) h1 vs hvs hvs2 hown3 hon3
   have hb3:Below w1.heap.size w1 w3:=hb.trans ((hb2.mono hbs).trans (((Below.refl _ w2).alloc (by omega) _).trans (hon3.below (by simp;omega) fun g e=>(World.ownsRow.lt hvs g e).1)))
   go_roundg (n - (k+1))
   case measure=>omega
   case rel=>exact ⟨k+1,by omega,by go_num,by rw[hT2.out];exact hP3,hb3⟩
  ·obtain rfl:k=n:=by omega
   have hE:Hid ((ts.map R).take k=ts.map R):=by unfold Hid;rw[List.take_of_length_le (by rw[List.length_map,HN.out];exact Nat.le_refl _)]
   rw[hE.out] at hP
   obtain ⟨Al,cl,rfl,hcl,hS3⟩:=hP.sees
   have hlm:(ts.map R).length=k:=by rw[List.length_map,HN.out]
   have hI:=Lib.hid (Items_q Al k cl (ts.map R) wr hS3 hlm hts HFL.out HY.out)
   rw[HX.out] at hI
   rw[hlm] at *
   clear hP hvs hvs2
   go_wp2_with fail
   refine hI.out.mono ?_
   rintro e w2 ⟨v2,rfl,hQ,hb2⟩
   have hs12:w.heap.size≤wr.heap.size:=by omega
   obtain ⟨A2,c2,rfl,hc2, -⟩:=hQ.open_
   go_wp2
   go_ret
   exact ⟨_,rfl,(hQ.mono fun k e=>⟨by omega,e.2⟩).base_le hs12,(hb1.trans (hb.mono hs1)).trans (hb2.mono hs12)⟩
end
section
open Go.RowKit Go.Maps
structure SetFit (s:SetM):Prop where
 ok:SetOk s
 total:s.total≤900
theorem flat_le {l:List (List Item)} : ∀t∈l,t.length≤l.flatten.length:=fun _ ht=>List.Sublist.length_le (List.sublist_flatten_of_mem ht)
theorem bad_len {x:Item}(h:badL x=false):1≤x.length∧x.length≤400:=by
 unfold badL at h
 rw[Bool.or_eq_false_iff,decide_eq_false_iff_not,decide_eq_false_iff_not] at h
 omega
theorem fs_le {l:List (List Item)}(h:∀f∈l,buildE f=0):l.length≤l.flatten.length:=by
 induction l with
 | nil=>simp
 | cons a t ih =>
  have h1:=ih fun f hf=>h f (List.mem_cons_of_mem _ hf)
  have h2:=(build_ok (h a (by simp))).2.2.1
  simp only[List.flatten_cons,List.length_append,List.length_cons]
  omega
section
variable {s : SetM}
theorem SetFit.mem (h:SetFit s):s.mem.length≤900:=by have:=h.total;unfold SetM.total at this;omega
theorem SetFit.tier (h:SetFit s):∀t∈s.tiers,TierOk t:=fun t ht=>⟨by have:=flat_le t ht;have:=tiers_len s;have:=h.total;omega,fun x hx=>by have:=(bad_len (h.ok.bad t ht x hx)).2;omega⟩
theorem SetFit.fs (h:SetFit s):s.fs.length≤900:=by have:=fs_le h.ok.files;have:=h.total;unfold SetM.total at this;omega
theorem SetFit.tiers (h:SetFit s):s.tiers.length≤901:=by
 have:=h.fs
 unfold SetM.tiers
 rw[List.length_cons]
 omega
theorem flat_map_le (R:List Item→List Item) (hR:∀t,(R t).length≤t.length):∀l:List (List Item),(l.map R).flatten.length≤l.flatten.length
 | []=>by simp
 | a :: t=>by
  have:=flat_map_le R hR t
  have:=hR a
  simp only[List.map_cons,List.flatten_cons,List.length_append]
  omega
end
theorem mem_of_filter {α:Type}{p:α→Bool}{l:List α}{a:α}(h:a∈l.filter p):a∈l:=(List.mem_filter.1 h).1
theorem new_any (w:World):Calls Tryz.prog 44 #[] w fun e w'=>e = .returned (.pointer (some ⟨w.heap.size+1,0,none⟩))∧SetAt (fun k=>w.heap.size≤k∧k<w'.heap.size) w' (w.heap.size+1) SetM.new∧Below w.heap.size w w':=by
 have hmm := @run_makeMap Tryz.prog
 go_enter Tryz.func44,Tryz.ntmps44
 go_wp2
 go_ret
 have hM:=MemAt.new w
 have hM2:MemAt ((w.alloc (.map #[] 0)).alloc (.cells #[.map (some w.heap.size),.slice none 0 0] 134)) w.heap.size []:=hM.keep (Below.heap_alloc _ _ _ (by simp))
 refine ⟨rfl,⟨⟨w.heap.size,.slice none 0 0,?_,?_,?_,⟨by omega,by simp⟩,⟨Nat.le_refl _,by simp;omega⟩,by omega,hM2,PartsAt.nil _ _⟩,fun k e=>e.2⟩,((Below.refl _ w).alloc (Nat.le_refl _) _).alloc (by simp) _⟩
 ·rw[World.cell?_alloc_at _ _ _ _ (by simp)];rfl
 ·rw[World.cell?_alloc_at _ _ _ _ (by simp)];rfl
 ·simp
section
variable {m : Nat → Prop} {w : World} {S : Nat} {s : SetM}
theorem fresh_any (h:SetAt m w S s):Calls Tryz.prog 64 #[.pointer (some ⟨S,0,none⟩)] w fun e w'=>e = .returned (.int .i64 s.mem.length)∧w=w':=by
 obtain ⟨bm,v,h1,h2,h3,h4,h5,h6,h7,h8⟩:=h.out
 have hl:=h7.len 131 Tryz.underlying131
 obtain ⟨n,hn⟩:∃n,s.mem.length=n:=⟨_,rfl⟩
 rw[hn] at hl ⊢
 clear h h7 h8 hn
 go_enter Tryz.func64,Tryz.ntmps64
 go_wp2
 go_ret
 exact ⟨rfl,rfl⟩
theorem parts_any (h:SetAt m w S s):Calls Tryz.prog 65 #[.pointer (some ⟨S,0,none⟩)] w fun e w'=>e = .returned (.int .i64 s.fs.length)∧w=w':=by
 obtain ⟨bm,v,h1,h2,h3,h4,h5,h6,h7,h8⟩:=h.out
 obtain ⟨A,c,rfl, -⟩:=h8.open_
 obtain ⟨n,hn⟩:∃n,s.fs.length=n:=⟨_,rfl⟩
 rw[hn] at h2 ⊢
 clear h h7 h8 hn
 go_enter Tryz.func65,Tryz.ntmps65
 go_wp2
 go_ret
 exact ⟨rfl,rfl⟩
theorem setHas_any (h:SetAt m w S s) (hF:SetFit s) (Bx:Option Addr) (lx dx:Nat) (x:Item) (hxl:x.length=lx) (hlx:lx≤1000000) (hx:Sees w w.heap.size Bx (bv x)) :
  Calls Tryz.prog 60 #[.pointer (some ⟨S,0,none⟩),.slice Bx lx dx] w (Gives w (.bool (s.has x))) :=
 Has_of_tiers _ w s.tiers Bx lx dx x hxl hlx hx (by have:=hF.tiers;omega) fun W hW=>tiers_any m W S s (h.below hW) hF.ok.rise (by have:=hF.fs;omega)
end
structure SetRow (w w' : World) (A:Option Addr) (c:Nat) (ls:List Item):Prop where
 cap:ls.length≤c
 own:∃v0 n0,ls=(v0:List Item).take n0∧∃c0,OwnQ (fun k=>w.heap.size≤k∧k<w'.heap.size) w' w.heap.size (.slice A v0.length c0) v0
def SetIs (w:World) (ls:List Item) (e:Ending) (w' : World):Prop:=∃A c,e = .returned (.slice A ls.length c)∧SetRow w w' A c ls∧Below w.heap.size w w'
theorem SetRow.sees {w w' : World}{A:Option Addr}{c:Nat}{ls:List Item}(h:SetRow w w' A c ls):Sees2M (fun k=>w.heap.size≤k∧k<w'.heap.size) w' A ls:=by
 obtain ⟨v0,n0,rfl,c0,hQ⟩:=h.own
 obtain ⟨A',c',e, -,hS⟩:=hQ.open_
 injection e with e
 subst e
 exact hS.take n0
theorem QIs.setIs {w w' : World}{ls:List Item}{e:Ending}(h:QIs w ls e w'):SetIs w ls e w':=by
 obtain ⟨v,rfl,hQ,hb⟩:=h
 obtain ⟨A,c,rfl,hc, -⟩:=hQ.open_
 exact ⟨A,c,rfl,⟨hc,ls,ls.length,by rw[List.take_length],c,hQ⟩,hb⟩
theorem Prefix_of_tiers (p:Option Addr) (w:World) (ts:List (List Item)) (Bx:Option Addr) (lx dx:Nat) (x:Item) (hxl:x.length=lx) (hx:Sees w w.heap.size Bx (bv x)) (hts:ts.length≤1000) (htl:ts.flatten.length≤1000) (hO:∀t∈ts,TierOk t)
  (ht:∀W,Below w.heap.size w W→Calls Tryz.prog 101 #[.pointer p] W (TiersIs W ts)) :
  Calls Tryz.prog 68 #[.pointer p,.slice Bx lx dx] w (SetIs w (uniqL ahead ((ts.map fun t=>t.filter (preB x)).flatten))):=by
 obtain ⟨wb,hwb⟩:∃wb,w.alloc (.cells #[.slice Bx lx dx] 48)=wb:=⟨_,rfl⟩
 have hbb:Below w.heap.size w wb:=by rw[←hwb];exact (Below.refl _ w).alloc (Nat.le_refl _) _
 have hzb:wb.heap.size=w.heap.size+1:=by rw[←hwb];simp
 have bb:Box1 wb w.heap.size 48 (.slice Bx lx dx):=by rw[←hwb];exact Box1.new w _ _
 have hRl:∀t:List Item,(t.filter (preB x)).length≤t.length:=fun t=>List.length_filter_le _ _
 have hG:=Lib.hid (gather_of p wb ts 108 #[.pointer (some ⟨w.heap.size,0,none⟩)] (enters_of Tryz.func108 (by kernel_rfl) rfl) (fun t=>t.filter (preB x)) hts (ht wb hbb)
  (fun W v ls hW hls hT=>prefix1t_any hT (hO ls hls) hxl (bb.below hW bb.lt).cell (((hx.below hbb).below (hW.mono (by omega))).more (by have:=hW.size;omega)))
  (Nat.le_trans (flat_map_le _ hRl ts) (by omega)) (fun r hr y hy=>by
   obtain ⟨t,ht,rfl⟩:=List.mem_map.1 hr
   exact (hO t ht).short y (mem_of_filter hy)))
 obtain ⟨U,hU⟩:∃U,uniqL ahead ((ts.map fun t=>t.filter (preB x)).flatten)=U:=⟨_,rfl⟩
 rw[hU] at hG ⊢
 clear ht hx hxl hU hRl hO
 go_enter Tryz.func68,Tryz.ntmps68
 go_wp2_with fail
 refine hG.out.mono ?_
 rintro e w1 hQI
 obtain ⟨v,rfl,hQ,hb1⟩:=hQI
 have hs2:w.heap.size≤wb.heap.size:=by omega
 obtain ⟨A,c,rfl,hc, -⟩:=hQ.open_
 go_wp2
 go_ret
 exact QIs.setIs ⟨_,rfl,(hQ.mono fun k e=>⟨by omega,e.2⟩).base_le hs2,hbb.trans (hb1.mono hs2)⟩
section
variable {m : Nat → Prop} {w : World} {S : Nat} {s : SetM} {Bx : Option Addr} {lx dx : Nat} {x : Item}
theorem setPrefix_any (h:SetAt m w S s) (hF:SetFit s) (hxl:x.length=lx) (hx:Sees w w.heap.size Bx (bv x)) :
  Calls Tryz.prog 68 #[.pointer (some ⟨S,0,none⟩),.slice Bx lx dx] w (SetIs w (s.all.filter (preB x))):=by
 rw[←tell_prefix s x]
 exact Prefix_of_tiers _ w s.tiers Bx lx dx x hxl hx (by have:=hF.tiers;omega) (by rw[tiers_len];have:=hF.total;omega) hF.tier fun W hW=>tiers_any m W S s (h.below hW) hF.ok.rise (by have:=hF.fs;omega)
end
end
end Go.Proofs.YtalmnodgjjcefaaGreatDoor
