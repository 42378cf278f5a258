/- Several texts in one: TgAdd TgFlush TgReplace TgMerge. -/
import Derived.Test.YtalmnodgjjcefaaGreatDoorJTgB
import Derived.Test.YtalmnodgjjcefaaGreatDoorJIpE
import Derived.Laws.CopyOwn
import Derived.Lib.AppendZeros
import Derived.Lib.SliceRun
import Derived.Deep.RegionLaw
set_option maxRecDepth 100000
set_option maxHeartbeats 3200000
namespace Go.Proofs.YtalmnodgjjcefaaGreatDoor
section
open Go.RowKit Go.Maps
theorem ri_nodup {l:List Item}(h:Ri ahead l):l.Nodup:=List.Pairwise.imp (fun {a b} e=>by rintro rfl;rw[ahead_irrefl] at e;cases e) h
theorem add_perm {mem:List Item}{x:Item}(h:mem.Nodup) (hx:x ∉ mem):(mem ++ [x]).Perm (uniqL ahead (mem ++ [x])):=by
 refine (List.perm_ext_iff_of_nodup ?_ (ri_nodup (uniqL_ri KBo _))).2 fun y=>(uniqL_mem KBo _ y).symm
 refine List.nodup_append.2 ⟨h,by simp,fun a ha c hc => ?_⟩
 rw[List.mem_singleton.1 hc]
 exact fun e=>hx (e ▸ ha)
structure SetStep (m m' : Nat→Prop) (w w' : World) (S:Nat) (s' : SetM):Prop where
 set:SetAt m' w' S s'
 turn:Turn m w w'
 new:∀k,m' k→m k∨(w.heap.size≤k∧k<w'.heap.size)
theorem add_any (m:Nat→Prop) (w:World) (S:Nat) (s:SetM) (h:SetAt m w S s) (hF:SetFit s) (Bx:Option Addr) (lx dx:Nat) (x:Item) (hxl:x.length=lx) (hlx:lx≤1000000) (hx:Sees w w.heap.size Bx (bv x)) :
  Calls Tryz.prog 94 #[.pointer (some ⟨S,0,none⟩),.slice Bx lx dx] w fun e w'=>e = .returned (.int .i64 ((s.add x).2:Nat))∧SetStep m m w w' S (s.add x).1:=by
 by_cases h1:lx<1
 ·have hb:badL x=true:=by unfold badL;rw[decide_eq_true (by omega),Bool.true_or]
  have e1:s.add x=(s,1):=by unfold SetM.add;rw[if_pos hb]
  rw[e1]
  have hSt:SetStep m m w w S s:=⟨h,Turn.refl _ _,fun k e => .inl e⟩
  clear h hF hx hxl hb e1
  go_enter Tryz.func94,Tryz.ntmps94
  go_wp2
  go_ret
  exact ⟨rfl,hSt⟩
 by_cases h4:400<lx
 ·have hb:badL x=true:=by unfold badL;rw[decide_eq_true (p:=400<x.length) (by omega),Bool.or_true]
  have e1:s.add x=(s,1):=by unfold SetM.add;rw[if_pos hb]
  rw[e1]
  have hSt:SetStep m m w w S s:=⟨h,Turn.refl _ _,fun k e => .inl e⟩
  have h4' : (400:Int)<(lx:Int):=by omega
  have h1' : (1:Int)≤(lx:Int):=by omega
  clear h hF hx hxl hb e1
  go_enter Tryz.func94,Tryz.ntmps94
  go_wp2
  go_ret
  exact ⟨rfl,hSt⟩
 have hb:badL x=false:=by unfold badL;rw[decide_eq_false (by omega),decide_eq_false (by omega)];rfl
 have hH:=Lib.hid (setHas_any h hF Bx lx dx x hxl hlx hx)
 have h4' : (lx:Int)≤400:=by omega
 have h1' : (1:Int)≤(lx:Int):=by omega
 cases hh:s.has x with
 | true =>
  have e1:s.add x=(s,0):=by unfold SetM.add;rw[if_neg (by rw[hb];simp),if_pos hh]
  rw[e1]
  rw[hh] at hH
  have HS:=Lib.hid h
  clear h hF hx hxl hb e1 hh
  go_enter Tryz.func94,Tryz.ntmps94
  go_wp2_with fail
  refine hH.out.mono ?_
  rintro e w1 ⟨rfl,hb1⟩
  go_wp2
  go_ret
  exact ⟨rfl,HS.out.below hb1,Turn.of_new hb1,fun k e => .inl e⟩
 | false =>
  rw[hh] at hH
  by_cases h5:500≤s.mem.length
  ·have e1:s.add x=(s,2):=by unfold SetM.add;rw[if_neg (by rw[hb];simp),if_neg (by rw[hh];simp),if_pos h5]
   rw[e1]
   have HS:=Lib.hid h
   obtain ⟨n,hn⟩:∃n,s.mem.length=n:=⟨_,rfl⟩
   rw[hn] at h5
   have h5' : (500:Int)≤(n:Int):=by omega
   have HN:=Lib.hid hn
   clear h hF hx hxl hb e1 hh hn
   go_enter Tryz.func94,Tryz.ntmps94
   go_wp2_with fail
   refine hH.out.mono ?_
   rintro e w1 ⟨rfl,hb1⟩
   have hS1:=HS.out.below hb1
   obtain ⟨bm,v,g1,g2,g3,g4,g5,g6,g7,g8⟩:=hS1.out
   have hl:=g7.len 131 Tryz.underlying131
   rw[HN.out] at hl
   clear g7 g8 hH
   go_wp2
   go_ret
   exact ⟨rfl,hS1,Turn.of_new hb1,fun k e => .inl e⟩
  ·have e1:s.add x=(⟨uniqL ahead (s.mem ++ [x]),s.fs⟩,0):=by unfold SetM.add;rw[if_neg (by rw[hb];simp),if_neg (by rw[hh];simp),if_neg h5]
   rw[e1]
   have HS:=Lib.hid h
   obtain ⟨n,hn⟩:∃n,s.mem.length=n:=⟨_,rfl⟩
   rw[hn] at h5
   have h5' : (n:Int)<500:=by omega
   have HN:=Lib.hid hn
   have hxm:x ∉ s.mem:=fun e=>by
    rw[SetM.has_eq,decide_eq_false_iff_not] at hh
    exact hh ((mem_all s x).2 (.inr e))
   have HX:=Lib.hid hxm
   have HND:=Lib.hid (ri_nodup hF.ok.rise)
   have HXS:=Lib.hid hx
   have HXL:=Lib.hid hxl
   clear h hF hx hxl hb e1 hh hn hxm
   go_enter Tryz.func94,Tryz.ntmps94
   go_wp2_with fail
   refine hH.out.mono ?_
   rintro e w1 ⟨rfl,hb1⟩
   have hS1:=HS.out.below hb1
   have hs1:=hb1.size
   obtain ⟨bm,v,g1,g2,g3,g4,g5,g6,g7,g8⟩:=hS1.out
   have hl:=g7.len 131 Tryz.underlying131
   rw[HN.out] at hl
   have hcv:=run_str w1.drew _ Bx lx dx x (((HXS.out.below hb1).more hs1).drew) HXL.out
   obtain ⟨w2,hst,hM2,hg2,hz2⟩:=(g7.keep (w':=w1.drew) rfl).store 131 Tryz.underlying131 (by rw[HN.out];omega) (s:=strOf x) (by rw[strOf_size,HXL.out];simp only[maxLen];omega) (by rw[strOf_data];exact HX.out)
   rw[strOf_data] at hM2
   have HM2:=Lib.hid hM2
   have HG8:=Lib.hid g8
   clear g7 g8 hH hM2
   go_wp2_with fail
   go_region
   go_wp2
   go_ret
   have hsd:w1.drew.heap.size=w1.heap.size:=rfl
   have hk:Kept (fun k=>m k∧k≠bm) w1 w2:=fun k e=>hg2.block k (by rw[hsd];exact hS1.lt k e.1) fun e2=>e.2 (Option.some.inj e2)
   refine ⟨rfl,⟨⟨bm,v,(hk.cell (p:=⟨S,0,none⟩) ⟨g4,fun e=>g6 e.symm⟩).trans g1,(hk.cell (p:=⟨S,1,none⟩) ⟨g4,fun e=>g6 e.symm⟩).trans g2,(frozen_of_block (hk S ⟨g4,fun e=>g6 e.symm⟩)).trans g3,g4,g5,g6,HM2.out.perm (add_perm (HND.out) HX.out),HG8.out.keep (hk.mono fun k e=>⟨e.1,e.2.2⟩)⟩,fun k e=>by rw[hz2];exact hS1.lt k e⟩,
    ((Turn.of_new hb1).trans (Turn.of_new (below_drew (Below.refl _ _)))).trans (Turn.of_grown hg2 fun k e=>by injection e with e;exact e ▸ g5),fun k e => .inl e⟩
end
section
open Go.RowKit Go.Maps
theorem Tryz.partinfo:(Tryz.prog.info? 160).map (fun i=>(i.zero,i.size,i.bytes))=some (some (.pointer none),1,8):=by kernel_rfl
theorem PartsAt.put {q:Nat→Prop}{w w2 w3:World}{v v' : Value}{fs:List (List Item)}{ps:List Value}{P:Nat}{f:List Item}(h1:w.ownsRow 0 160 1 v fs.length ps) (h2:∀k,v.ownBlock=some k→q k)
  (h3:∀i (hi:i<fs.length),∃P,ps[i]?=some (.pointer (some ⟨P,0,none⟩))∧PartAt (fun k=>q k∧v.ownBlock≠some k) w P fs[i]) (hq:∀k,q k→k<w.heap.size) (hb:Below w.heap.size w w2)
  (hP:PartAt (fun k=>w.heap.size≤k∧k<w2.heap.size) w2 P f) (hown:w3.ownsRow 0 160 1 v' (fs.length+1) (ps ++ [.pointer (some ⟨P,0,none⟩)])) (hon:Onto w2 w3 v v') :
  PartsAt (fun k=>q k∨(w.heap.size≤k∧k<w3.heap.size)) w3 v' (fs ++ [f]):=by
 have hs:=hb.size
 have hs3:=hon.size
 have hvl:=World.ownsRow.lt h1
 have hpl:ps.length=fs.length:=by have:=h1.1;omega
 have hv' : ∀k,k<w2.heap.size→v.ownBlock≠some k→v'.ownBlock≠some k:=fun k hk hne e=>by
  rcases hon.at_ with e2|⟨g,e2,hg⟩
  ·exact hne (e2 ▸ e)
  ·rw[e2] at e;injection e with e;omega
 have hk23:∀k,k<w2.heap.size→v.ownBlock≠some k→w3.heap[k]?=w2.heap[k]?:=fun k a b=>hon.grown.block k a (fun e=>b e.symm)
 refine ⟨ps ++ [.pointer (some ⟨P,0,none⟩)],by rw[List.length_append];exact hown,fun k e => ?_,fun i hi => ?_⟩
 ·rcases hon.at_ with e2|⟨g,e2,hg⟩
  ·exact .inl (h2 k (e2 ▸ e))
  ·have h5:=(World.ownsRow.lt hown k e).2
   rw[e2] at e;injection e with e;exact .inr ⟨by omega,h5⟩
 ·by_cases hlt:i<fs.length
  ·obtain ⟨P',g1,g2⟩:=h3 i hlt
   refine ⟨P',by rw[List.getElem?_append_left (by omega)];exact g1,?_⟩
   rw[List.getElem_append_left hlt]
   exact (g2.keep fun k e=>(hk23 k (by have:=hq k e.1;omega) e.2).trans (hb.block k (hq k e.1))).mono fun k e=>⟨.inl e.1,hv' k (by have:=hq k e.1;omega) e.2⟩
  ·have he:i=fs.length:=by simp at hi;omega
   subst he
   refine ⟨P,by rw[List.getElem?_append_right (by omega)];simp[hpl],?_⟩
   rw[List.getElem_append_right (Nat.le_refl _)]
   simp only[Nat.sub_self,List.getElem_cons_zero]
   have hne:∀k,w.heap.size≤k→v.ownBlock≠some k:=fun k hk e=>by have:=(hvl k e).2;omega
   exact (hP.keep fun k e=>hk23 k e.2 (hne k e.1)).mono fun k e=>⟨.inr ⟨e.1,by omega⟩,hv' k e.2 (hne k e.1)⟩
structure FileStep (m:Nat→Prop) (w w' : World) (S:Nat) (s' : SetM) (A:Option Addr) (c:Nat) (b:List UInt8):Prop where
 cap:b.length≤c
 out:∃m',SetStep m m' w w' S s'∧SeesM (fun k=>w.heap.size≤k∧k<w'.heap.size∧¬ m' k) w' A (bv b)
theorem flush_any (m:Nat→Prop) (w:World) (S:Nat) (s:SetM) (h:SetAt m w S s) (hF:SetFit s) (hH:Halves w) :
  Calls Tryz.prog 66 #[.pointer (some ⟨S,0,none⟩)] w fun e w'=>∃A c,e = .returned (.tuple #[.slice A s.flush.2.1.length c,.bool s.flush.2.2])∧FileStep m w w' S s.flush.1 A c s.flush.2.1:=by
 have hf:=Lib.hid (fresh_any h)
 have hSt:SetStep m m w w S s:=⟨h,Turn.refl _ _,fun k e => .inl e⟩
 by_cases h0:s.mem.length=0
 ·have e1:s.flush=(s, [],false):=by unfold SetM.flush;rw[if_pos (.inl h0)]
  rw[e1]
  rw[h0] at hf
  have HSt:=Lib.hid hSt
  clear h hF hH e1 h0 hSt
  go_enter Tryz.func66,Tryz.ntmps66
  go_wp2_with fail
  refine hf.out.mono ?_
  rintro e w1 ⟨rfl,rfl⟩
  go_wp2
  go_ret2
  exact ⟨none,0,rfl,by simp,m,HSt.out,⟨.inl rfl⟩⟩
 obtain ⟨bm,v,g1,g2,g3,g4,g5,g6,g7,g8⟩:=h.out
 obtain ⟨A,c,rfl,hc, -⟩:=g8.open_
 have hSlt:=h.lt S g4
 obtain ⟨n,hn⟩:∃n,s.mem.length=n:=⟨_,rfl⟩
 obtain ⟨k,hk⟩:∃k,s.fs.length=k:=⟨_,rfl⟩
 rw[hn] at hf h0
 rw[hk] at g2 hc g8
 by_cases h100:100≤k
 ·have e1:s.flush=(s, [],false):=by unfold SetM.flush;rw[if_pos (.inr (by omega))]
  rw[e1]
  have HSt:=Lib.hid hSt
  have hk' : (100:Int)≤(k:Int):=by omega
  have hn' : ((n:Int)==0)=false:=by simpa using h0
  clear h hF hH e1 hSt g7 g8 hn hk h0
  go_enter Tryz.func66,Tryz.ntmps66
  go_wp2_with fail
  refine hf.out.mono ?_
  rintro e w1 ⟨rfl,rfl⟩
  go_wp2
  go_ret2
  exact ⟨none,0,rfl,by simp,m,HSt.out,⟨.inl rfl⟩⟩
 have e1:s.flush=(⟨[],s.fs ++ [s.mem]⟩,fileB s.mem,true):=by unfold SetM.flush;rw[if_neg (by omega)]
 rw[e1]
 have hbe:buildE s.mem=0:=build_ri hF.ok.rise hF.ok.fine (by omega) (by have:=hF.mem;omega)
 have hfl:=file_len2 hbe
 have hopen:=open_file hbe
 have hS:=Lib.hid (sorted_any bm s.mem w g7 hF.ok.rise (by have:=hF.mem;omega) fun x hx=>by have:=(bad_len (hF.ok.fine x hx)).2;omega)
 have hk' : (k:Int)<100:=by omega
 have hn' : ((n:Int)==0)=false:=by simpa using h0
 have HN:=Lib.hid hn
 have HK:=Lib.hid hk
 have HAt:=Lib.hid h
 have H7:=Lib.hid g7
 have H8:=Lib.hid g8
 have HH:=Lib.hid hH
 have HBE:=Lib.hid hbe
 have HOP:=Lib.hid hopen
 have hn9:Hid (n≤900):=by unfold Hid;have:=hF.mem;omega
 obtain ⟨fb,hfb⟩:∃fb,(fileB s.mem).length=fb:=⟨_,rfl⟩
 rw[hfb] at hfl
 have HFB:=Lib.hid hfb
 obtain ⟨ti,hti,hz0,hz1,hz2⟩:=info_parts Tryz.partinfo
 have hm:=h.lt
 clear h hF hH e1 hSt g7 g8 hn hk h0 hbe hopen hfb
 go_enter Tryz.func66,Tryz.ntmps66
 go_wp2_with fail
 refine hf.out.mono ?_
 rintro e w0 ⟨rfl,rfl⟩
 go_wp2_with fail
 refine hS.out.mono ?_
 rintro e w1 hI
 obtain ⟨A1,c1,rfl,hc1,hS1,hb1⟩:=hI.open_
 rw[HN.out] at hc1 ⊢
 have hH1:=HH.out.below hb1 HH.out.1
 have hB:=Lib.hid (Build_good A1 n c1 s.mem HN.out hc1 w1 hS1 hH1 (by have:=hn9.out;omega) HBE.out)
 clear hI hS
 go_wp2_with fail
 refine hB.out.mono ?_
 rintro e w2 ⟨v2,rfl,hown2,hb2'⟩
 have hb2:=hb1.trans (hb2'.mono hb1.size)
 obtain ⟨A2,c2,rfl,hc2, -, -,hS2⟩:=hown2.open_
 have hM2:=ownB_seesM hown2
 rw[HFB.out] at hc2 ⊢
 have hO:=Lib.hid (Open_good A2 fb c2 (fileB s.mem) HFB.out hc2 (by omega) w2 hS2 (HH.out.below hb2 HH.out.1) s.mem HOP.out)
 clear hB hown2
 go_wp2_with fail
 refine hO.out.mono ?_
 rintro e w3 ⟨P,rfl,hP,hb3'⟩
 have hb3:=hb2.trans (hb3'.mono hb2.size)
 have hs1:=hb1.size
 have hs2:=hb2.size
 have hs3:=hb3.size
 have hs23:=hb3'.size
 have hk3:Kept m w w3:=Kept.of_below hb3 hm
 have c0:=(hk3.cell (p:=⟨S,0,none⟩) g4).trans g1
 have c1':=(hk3.cell (p:=⟨S,1,none⟩) g4).trans g2
 have f1:=(frozen_of_block (a:=⟨S,1,none⟩) (hk3 S g4)).trans g3
 obtain ⟨ps,o1',o2,o3⟩:=(H8.out.keep ((Kept.of_below hb2 hm).mono fun k e=>e.1)).out
 have HO3:=Lib.hid o3
 rw[HK.out] at o1'
 have o1:=own_below o1' hb3'
 have hSl3:S<w3.heap.size:=by omega
 clear hO o3
 go_wp2_with (at_builtin;(refine wpList_append_v rfl (.tmp 37) (.tmp 39) 132 rfl 160 ti _ 1 8 Tryz.underlying132 hti hz0 hz1 hz2 rfl (by omega) 0 _ k ps (by rfl) (World.ownsRow.alloc o1 _) (w3.heap.size+1) (some ⟨w3.heap.size,0,none⟩) 1 1 [.pointer (some ⟨P,0,none⟩)] (by rfl) rfl (sees_cell w3 _ rfl _ _) (fun u hu=>by simp at hu;subst hu;rfl) (by simp only[maxLen];omega) (by omega) (by omega) ?_;intro v5 w5 hown5 hon5;obtain ⟨gv,cv,rfl⟩:=ownsRow_succ hown5;have hk5:Kept (fun j=>j<w3.heap.size∧(Value.slice A k c).ownBlock≠some j) w3 w5:=(fun j hj=>(hon5.grown.block j (by simp;omega) (fun e=>hj.2 e.symm)).trans (Below.heap_alloc _ _ j hj.1));have hnS:(Value.slice A k c).ownBlock≠some S:=(fun e=>(o2 S e).2.1 rfl);have hnb:(Value.slice A k c).ownBlock≠some bm:=(fun e=>(o2 bm e).2.2 rfl);have hs5:w3.heap.size≤w5.heap.size:=(by have:=hon5.size;simp at this;omega);have d0:=(hk5.cell (p:=⟨S,0,none⟩) ⟨hSl3,hnS⟩).trans c0;have d1:=(hk5.cell (p:=⟨S,1,none⟩) ⟨hSl3,hnS⟩).trans c1';have e1:=(frozen_of_block (a:=⟨S,1,none⟩) (hk5 S ⟨hSl3,hnS⟩)).trans f1;have hM5:MemAt (w5.setCell ⟨S,1,none⟩ (.slice (some ⟨gv,0,none⟩) (k+1) cv)) bm s.mem:=((H7.out.keep (hk3 bm g5)).keep (hk5 bm ⟨by have:=hm bm g5;omega,hnb⟩)).keep (Below.heap_setCell _ _ _ _ g6);have d2:(w5.setCell ⟨S,1,none⟩ (.slice (some ⟨gv,0,none⟩) (k+1) cv)).cell? ⟨S,0,none⟩=some (.map (some bm)):=(World.cell?_setCell_other _ _ _ _ (by simp)).trans d0;obtain ⟨w6,hclr⟩:∃w6,(∀ty,(Builtin.clear_ #[131] ty #[.map (some bm)]).run Tryz.prog (w5.setCell ⟨S,1,none⟩ (.slice (some ⟨gv,0,none⟩) (k+1) cv)) = .ok (.tuple #[]) w6)∧Hid (MemAt w6 bm []∧(w5.setCell ⟨S,1,none⟩ (.slice (some ⟨gv,0,none⟩) (k+1) cv)).grownBy w6 (some bm)∧w6.heap.size=w5.heap.size):=hM5.clear' 131 Tryz.underlying131 (by simp);obtain ⟨hcl,HC⟩:=hclr;clear hM5))
 go_ret2
 obtain ⟨hM6,hg6,hz6⟩:=HC.out
 have hz5:(w5.setCell ⟨S,1,none⟩ (.slice (some ⟨gv,0,none⟩) (k+1) cv)).heap.size=w5.heap.size:=World.size_setCell _ _ _
 have hbm:=hm bm g5
 have hput:=PartsAt.put (w:=w2) (w3:=w5) (f:=s.mem) (P:=P) (by rw[HK.out];exact o1') o2 HO3.out (fun j e=>by have:=hm j e.1;omega) (hb3'.trans ((Below.refl _ w3).alloc hs23 (.cells #[.pointer (some ⟨P,0,none⟩)] 160)))
  ((hP.keep (Kept.of_below ((Below.refl _ w3).alloc (Nat.le_refl _) _) fun j e=>e.2)).mono fun j e=>⟨e.1,by simp;omega⟩) (by rw[HK.out];exact hown5) hon5
 have hk6:Kept (fun j=>j<w5.heap.size∧j≠S∧j≠bm) w5 w6:=fun j hj=>(hg6.block j (by rw[hz5];exact hj.1) fun e=>hj.2.2 (Option.some.inj e)).trans (Below.heap_setCell _ _ _ _ hj.2.1)
 have hkS:Kept (fun j=>j=S) (w5.setCell ⟨S,1,none⟩ (.slice (some ⟨gv,0,none⟩) (k+1) cv)) w6:=fun j hj=>by subst hj;exact hg6.block j (by rw[hz5];omega) fun e=>g6 (Option.some.inj e).symm
 refine ⟨A2,c2,by rw[HFB.out];rfl,by rw[HFB.out];exact hc2,fun j=>m j∨(w2.heap.size≤j∧j<w6.heap.size),⟨⟨⟨bm,.slice (some ⟨gv,0,none⟩) (k+1) cv,?_,?_,?_,.inl g4,.inl g5,g6,hM6,?_⟩,fun j e=>by rcases e with e|e;have:=hm j e;omega;exact e.2⟩,?_,fun j e=>by rcases e with e|e;exact .inl e;exact .inr ⟨by omega,e.2⟩⟩,?_⟩
 ·exact (hkS.cell (p:=⟨S,0,none⟩) rfl).trans d2
 ·refine (hkS.cell (p:=⟨S,1,none⟩) rfl).trans ?_
  exact World.cell?_setCell_same _ _ _ d1
 ·refine (frozen_of_block (a:=⟨S,1,none⟩) (hkS S rfl)).trans ?_
  rw[World.frozen?_setCell]
  exact e1
 ·refine (hput.keep (hk6.mono fun j e => ?_)).mono fun j e => ?_
  ·rcases e with e|e
   ·have:=hm j e.1;exact ⟨by omega,e.2⟩
   ·exact ⟨e.2,by omega,by omega⟩
  ·rcases e with e|e
   ·exact ⟨.inl e.1,e.2⟩
   ·exact ⟨.inr ⟨e.1,by omega⟩,by omega,by omega⟩
 ·refine (((Turn.of_new hb3).trans' (Turn.alloc w3 (.cells #[.pointer (some ⟨P,0,none⟩)] 160)) (T':=m) fun _ _ e=>e).trans' (Turn.onto hon5 fun j e=>(o2 j e).1) fun _ _ e=>e).trans ((Turn.setCell _ ⟨S,1,none⟩ _ g4).trans (Turn.of_grown hg6 fun j e=>by injection e with e;exact e ▸ g5))
 ·have hkb:Kept (fun j=>w1.heap.size≤j∧j<w2.heap.size) w2 w6:=fun j hj=>(hk6 j ⟨by omega,by omega,by omega⟩).trans ((hk5 j ⟨by omega,fun e=>by have:=hm j (o2 j e).1;omega⟩).trans (hb3'.block j hj.2))
  exact (hM2.keep hkb).mono fun j e=>⟨by omega,by omega,fun e2=>by rcases e2 with e2|e2;have:=hm j e2;omega;omega⟩
end
section
open Go.RowKit Go.Maps
theorem setCells_heap (g:Nat) (t:TypeId):∀(vs:List Value) (o:Nat) (w:World) (cur:Array Value),w.heap[g]?=some (.cells cur t (0,0))→o+vs.length≤cur.size →
  ∃cur' : Array Value,(w.setCells g o vs).heap[g]?=some (.cells cur' t (0,0))∧cur'.size=cur.size∧cur'.toList.take o=cur.toList.take o
 | [],o,w,cur,hg,_=>⟨cur,hg,rfl,rfl⟩
 | v :: r,o,w,cur,hg,h=>by
  simp only[List.length_cons] at h
  have hlt:=(Array.getElem?_eq_some_iff.1 hg).1
  have h1:(w.setCell ⟨g,o,none⟩ v).heap[g]?=some (.cells (cur.setIfInBounds o v) t (0,0)):=heap_setCell_same w g o cur t v hg
  obtain ⟨cur',h2,h3,h4⟩:=setCells_heap g t r (o+1) _ _ h1 (by simp;omega)
  refine ⟨cur',h2,by rw[h3];simp,?_⟩
  have:=congrArg (List.take o) h4
  rw[List.take_take,List.take_take,Nat.min_eq_left (by omega)] at this
  rw[this]
  simp[Array.toList_setIfInBounds,List.take_set_of_le]
theorem setCells_turn (g:Nat):∀(vs:List Value) (o:Nat) (w:World),Turn (fun k=>k=g) w (w.setCells g o vs)∧(w.setCells g o vs).heap.size=w.heap.size
 | [],_,w=>⟨Turn.refl _ _,rfl⟩
 | v :: r,o,w=>by
  obtain ⟨h1,h2⟩:=setCells_turn g r (o+1) (w.setCell ⟨g,o,none⟩ v)
  exact ⟨(Turn.setCell (T:=fun k=>k=g) w ⟨g,o,none⟩ v rfl).trans h1,h2.trans (World.size_setCell _ _ _)⟩
theorem setRow_turn (g:Nat) (w:World) (cs:Array Value):Turn (fun k=>k=g) w (w.setRow g cs):=⟨rfl,rfl,rfl,by simp,fun k _ hk=>setRow_other w g k cs hk⟩
def ReplIs (w:World) (g cap:Nat) (ps:List Value) (e:Ending) (w' : World):Prop:=e = .returned (.slice (some ⟨g,0,none⟩) ps.length cap)∧w'.ownsRow 0 160 1 (.slice (some ⟨g,0,none⟩) ps.length cap) ps.length ps∧Turn (fun k=>k=g) w w'∧w'.heap.size=w.heap.size
theorem replace_end (w:World) (g n cap:Nat) (ps:List Value) (hown:w.ownsRow 0 160 1 (.slice (some ⟨g,0,none⟩) n cap) n ps) (b:Nat) (p:Value) (hp:w.cell? ⟨b,0,none⟩=some p) (h1:p.oneCell'=true) (i:Nat) (hi:i+2≤n) (_hn:n≤100000) :
  Calls Tryz.prog 118 #[.slice (some ⟨g,0,none⟩) n cap,.int .i64 i,.int .i64 n,.slice (some ⟨b,0,none⟩) 1 1] w (ReplIs w g cap (ps.take i ++ [p])):=by
 have hpl:ps.length=n:=by have:=hown.1;omega
 rcases hown.2 with ⟨h, -⟩|⟨g',cap',cur,e, -,hg,hnc,hcm,hcs,htk⟩
 ·cases h
 simp only[Value.slice.injEq,Option.some.injEq,Addr.mk.injEq,and_true,true_and] at e
 obtain ⟨rfl,rfl⟩:=e
 obtain ⟨ti,hti,hz0,hz1,hz2⟩:=info_parts Tryz.partinfo
 have hone:=hz1
 have hrun:=fun ty=>run_append_room (P:=Tryz.prog) w 132 ty 160 ti Tryz.underlying132 hti g i cap cur hg ⟨b,0,none⟩ 1 1 [p] (by rw[hz1];rfl) (fun j u hu=>by
  match j,hu with
  | 0,hu=>simp at hu;subst hu;simpa[Addr.add] using hp) (fun u hu=>by simp at hu;subst hu;exact h1) (by omega) (by rw[hz1,hcs];simp;omega)
 rw[hz1] at hrun
 obtain ⟨W1,hW1⟩:∃W1,w.setRow g (cur.toList.take (i*1) ++ [p]++cur.toList.drop (i*1 + [p].length)).toArray=W1:=⟨_,rfl⟩
 rw[hW1] at hrun
 have hg1:W1.heap[g]?=some (.cells (cur.toList.take (i*1) ++ [p]++cur.toList.drop (i*1 + [p].length)).toArray 160 (0,0)):=by rw[←hW1];exact setRow_heap w g cur _ _ _ hg
 have hsz1:(cur.toList.take (i*1) ++ [p]++cur.toList.drop (i*1 + [p].length)).toArray.size=cap:=by simp;omega
 have hcl:=fun ty=>Lib.run_clear_slice (P:=Tryz.prog) W1 132 160 ty (.pointer none) Tryz.underlying132 (by intro w;kernel_rfl) rfl rfl g (i+1) (n - (i+1)) (cap - (i+1)) (by omega)
  (fun j hj=>by
   have:(W1.cell? ⟨g,i+1+j,none⟩)=(cur.toList.take (i*1) ++ [p]++cur.toList.drop (i*1 + [p].length)).toArray[i+1+j]?:=by simp[World.cell?,hg1]
   rw[this,Array.getElem?_eq_getElem (by rw[hsz1];omega)]
   rfl) (fun j hj=>by simp[World.frozen?,hg1])
 obtain ⟨W2,hW2⟩:∃W2,W1.setCells g (i+1) (List.replicate (n - (i+1)) (.pointer none))=W2:=⟨_,rfl⟩
 rw[hW2] at hcl
 have hpost:ReplIs w g cap (ps.take i ++ [p]) (.returned (.slice (some ⟨g,0,none⟩) (i+1) cap)) W2:=by
  have hl:(ps.take i ++ [p]).length=i+1:=by rw[List.length_append,List.length_take,List.length_singleton];omega
  obtain ⟨cur',k1,k2,k3⟩:=setCells_heap g 160 (List.replicate (n - (i+1)) (.pointer none)) (i+1) W1 _ hg1 (by rw[List.length_replicate,hsz1];omega)
  obtain ⟨t1,t2⟩:=setCells_turn g (List.replicate (n - (i+1)) (.pointer none)) (i+1) W1
  rw[hW2] at k1 t1 t2
  unfold ReplIs
  rw[hl]
  refine ⟨rfl,⟨by rw[hl];simp,.inr ⟨g,cap,cur',rfl,Nat.zero_le _,k1,by omega,hcm,by rw[k2,hsz1];simp,?_⟩⟩,(hW1 ▸ setRow_turn g w _).trans t1,by rw[t2, ←hW1];simp⟩
  rw[Nat.mul_one,k3]
  have htk' : cur.toList.take n=ps:=by rw[←htk];simp
  have hti2:cur.toList.take i=ps.take i:=by rw[←htk',List.take_take,Nat.min_eq_left (by omega)]
  simp only[Nat.mul_one]
  rw[hti2,List.take_append_of_le_length (by simp;omega),List.take_of_length_le (by simp;omega)]
 have HP:=Lib.hid hpost
 have hii:(i:Int)≤(n:Int):=by omega
 have hnc2:(n:Int)≤(cap:Int):=by omega
 have hin:((i:Int)==(n:Int))=false:=by simp;omega
 have hic:¬ cap=i:=by omega
 have hic1:¬ cap=i+1:=by omega
 have hlt1:(i:Int)+1<(n:Int):=by omega
 clear hpost hW1 hW2 hg1 hsz1 hown hg htk hcs hp
 go_enter Tryz.func118,Tryz.ntmps118
 go_wp2_with (at_builtin;refine Lib.wpList_append_run _ rfl _ _ _ _ rfl _ _ rfl rfl _ _ (hrun _) ?_)
 go_ret
 exact HP.out
structure ReplW (w:World) (g n cap:Nat) (ps:List Value) (p:Value) (i j i1 r T:Nat) (cur C1:Array Value) (Y:List Value) (W1 W2 W3:World):Prop where
 cur0:w.heap[g]?=some (.cells cur 160 (0,0))
 size0:cur.size=cap
 w1:w.setRow g (cur.toList.take i++([p]++cur.toList.drop (i + [p].length))).toArray=W1
 cur1:W1.heap[g]?=some (.cells C1 160 (0,0))
 size1:C1.size=cap
 len:Y.length=r
 src:∀q u,Y[q]?=some u→W1.cell? ((⟨g,j,none⟩:Addr).add q)=some u
 one:∀u∈Y,u.oneCell'=true
 w2:W1.drew.setRow g (C1.toList.take i1++(Y++C1.toList.drop (i1+Y.length))).toArray=W2
 post:ReplIs w g cap (ps.take i++p :: ps.drop j) (.returned (.slice (some ⟨g,0,none⟩) T cap)) W3
theorem repl_facts (w:World) (g n cap:Nat) (ps:List Value) (hown:w.ownsRow 0 160 1 (.slice (some ⟨g,0,none⟩) n cap) n ps) (p:Value) (h1s:∀u∈ps,u.oneCell'=true) (i j r T i1:Nat) (hi:i+2≤j) (hj:j<n) (hr:n - j=r) (hT:i+1+r=T) (hi1:i+1=i1) :
  ∃cur C1 Y W1 W2 W3,ReplW w g n cap ps p i j i1 r T cur C1 Y W1 W2 W3∧∀ty,(Builtin.clear_ #[132] ty #[.slice (some ⟨g,T,none⟩) (n - T) (cap - T)]).run Tryz.prog W2 = .ok (.tuple #[]) W3:=by
 have hpl:ps.length=n:=by have:=hown.1;omega
 rcases hown.2 with ⟨h, -⟩|⟨g',cap',cur,e, -,hg,hnc,hcm,hcs,htk⟩
 ·cases h
 simp only[Value.slice.injEq,Option.some.injEq,Addr.mk.injEq,and_true,true_and] at e
 obtain ⟨rfl,rfl⟩:=e
 have htk' : cur.toList.take n=ps:=by rw[←htk];simp
 have hcs' : cur.size=cap:=by omega
 have hcl0:cur.toList.length=cap:=by rw[Array.length_toList];exact hcs'
 obtain ⟨C1,hC1⟩:∃C1:Array Value,(cur.toList.take i++([p]++cur.toList.drop (i + [p].length))).toArray=C1:=⟨_,rfl⟩
 have hC1l:C1.toList=cur.toList.take i++(p :: cur.toList.drop (i+1)):=by rw[←hC1];simp
 have hC1s:C1.size=cap:=by rw[←Array.length_toList,hC1l];simp;omega
 obtain ⟨W1,hW1⟩:∃W1,w.setRow g C1=W1:=⟨_,rfl⟩
 have hg1:W1.heap[g]?=some (.cells C1 160 (0,0)):=by rw[←hW1];exact setRow_heap w g cur _ _ _ hg
 obtain ⟨Y,hY⟩:∃Y,ps.drop j=Y:=⟨_,rfl⟩
 have hYl:Y.length=r:=by rw[←hY,List.length_drop,hpl,hr]
 have hYc:∀q u,Y[q]?=some u→W1.cell? ((⟨g,j,none⟩:Addr).add q)=some u:=fun q u hu=>by
  rw[Addr.add_lit]
  have hq:q<r:=by rw[←hYl];exact (List.getElem?_eq_some_iff.1 hu).1
  have e1:W1.cell? ⟨g,j+q,none⟩=C1[j+q]?:=by simp[World.cell?,hg1]
  rw[e1, ←Array.getElem?_toList,hC1l,List.getElem?_append_right (by simp;omega)]
  rw[←hY,List.getElem?_drop, ←htk',List.getElem?_take,if_pos (by omega)] at hu
  rw[←hu]
  have e2:j+q - (cur.toList.take i).length=(j+q - i - 1)+1:=by rw[List.length_take];omega
  rw[e2,List.getElem?_cons_succ,List.getElem?_drop]
  congr 1
  omega
 obtain ⟨C2,hC2⟩:∃C2:Array Value,(C1.toList.take i1++(Y++C1.toList.drop (i1+Y.length))).toArray=C2:=⟨_,rfl⟩
 have hC2l:C2.toList=C1.toList.take i1++(Y++C1.toList.drop (i1+Y.length)):=by rw[←hC2]
 have hC2s:C2.size=cap:=by rw[←Array.length_toList,hC2l];simp;omega
 obtain ⟨W2,hW2⟩:∃W2,W1.drew.setRow g C2=W2:=⟨_,rfl⟩
 have hg2:W2.heap[g]?=some (.cells C2 160 (0,0)):=by rw[←hW2];exact setRow_heap W1.drew g C1 _ _ _ hg1
 have hcl:=fun ty=>Lib.run_clear_slice (P:=Tryz.prog) W2 132 160 ty (.pointer none) Tryz.underlying132 (by intro w;kernel_rfl) rfl rfl g T (n - T) (cap - T) (by omega)
  (fun q hq=>by
   have:W2.cell? ⟨g,T+q,none⟩=C2[T+q]?:=by simp[World.cell?,hg2]
   rw[this,Array.getElem?_eq_getElem (by rw[hC2s];omega)]
   rfl) (fun q hq=>by simp[World.frozen?,hg2])
 obtain ⟨W3,hW3⟩:∃W3,W2.setCells g T (List.replicate (n - T) (.pointer none))=W3:=⟨_,rfl⟩
 rw[hW3] at hcl
 have hpost:ReplIs w g cap (ps.take i++p :: Y) (.returned (.slice (some ⟨g,0,none⟩) T cap)) W3:=by
  have hl:(ps.take i++p :: Y).length=T:=by rw[List.length_append,List.length_take,List.length_cons];omega
  obtain ⟨cur',k1,k2,k3⟩:=setCells_heap g 160 (List.replicate (n - T) (.pointer none)) T W2 _ hg2 (by rw[List.length_replicate,hC2s];omega)
  obtain ⟨t1,t2⟩:=setCells_turn g (List.replicate (n - T) (.pointer none)) T W2
  rw[hW3] at k1 t1 t2
  unfold ReplIs
  rw[hl]
  refine ⟨rfl,⟨by rw[hl];simp,.inr ⟨g,cap,cur',rfl,Nat.zero_le _,k1,by omega,hcm,by rw[k2,hC2s];simp,?_⟩⟩,(((hW1 ▸ setRow_turn g w C1:Turn (fun k=>k=g) w W1).trans (Turn.drew _)).trans (hW2 ▸ setRow_turn g W1.drew C2)).trans t1,by rw[t2, ←hW2,setRow_size,show W1.drew.heap.size=W1.heap.size from rfl, ←hW1,setRow_size]⟩
  rw[Nat.mul_one,k3,hC2l]
  have hti2:cur.toList.take i=ps.take i:=by rw[←htk',List.take_take,Nat.min_eq_left (by omega)]
  have e1:C1.toList.take i1=ps.take i ++ [p]:=by
   rw[hC1l, ←hi1,hti2]
   have:i+1=(ps.take i).length+1:=by rw[List.length_take];omega
   rw[this,List.take_length_add_append]
   simp
  rw[e1]
  rw[show (ps.take i ++ [p])++(Y++C1.toList.drop (i1+Y.length))=(ps.take i++p :: Y)++C1.toList.drop (i1+Y.length) from by simp]
  exact List.take_left' hl
 rw[←hY] at hpost
 exact ⟨cur,C1,Y,W1,W2,W3,⟨hg,hcs',by rw[hC1];exact hW1,hg1,hC1s,hYl,hYc,fun u hu=>h1s u (List.mem_of_mem_drop (hY ▸ hu)),by rw[hC2];exact hW2,hpost⟩,hcl⟩
theorem replace_mid (w:World) (g n cap:Nat) (ps:List Value) (hown:w.ownsRow 0 160 1 (.slice (some ⟨g,0,none⟩) n cap) n ps) (b:Nat) (p:Value) (hp:w.cell? ⟨b,0,none⟩=some p) (h1:p.oneCell'=true) (h1s:∀u∈ps,u.oneCell'=true) (i j:Nat) (hi:i+2≤j) (hj:j<n) (hn:n≤100000) :
  Calls Tryz.prog 118 #[.slice (some ⟨g,0,none⟩) n cap,.int .i64 i,.int .i64 j,.slice (some ⟨b,0,none⟩) 1 1] w (ReplIs w g cap (ps.take i++p :: ps.drop j)):=by
 obtain ⟨r,hr⟩:∃r,n - j=r:=⟨_,rfl⟩
 obtain ⟨T,hT⟩:∃T,i+1+r=T:=⟨_,rfl⟩
 obtain ⟨i1,hi1⟩:∃i1,i+1=i1:=⟨_,rfl⟩
 have hnc:n≤cap:=by
  rcases hown.2 with ⟨h, -⟩|⟨g',cap',cur,e, -,hg,hnc,hcm,hcs,htk⟩
  ·cases h
  ·simp only[Value.slice.injEq] at e;omega
 have HR:=fun q=>Lib.hid (repl_facts (w.drewN q) g n cap ps hown p h1s i j r T i1 hi hj hr hT hi1)
 have hw1:IntKind.i64.wrap ((i:Int)+1)=(i1:Int):=by rw[IntKind.wrap_i64];omega
 have hw2:IntKind.i64.wrap ((i1:Int)+(r:Int))=(T:Int):=by rw[IntKind.wrap_i64];omega
 have hji:(i:Int)≤(j:Int):=by omega
 have hjn:(j:Int)≤(n:Int):=by omega
 have hij:((i:Int)==(j:Int))=false:=by simp;omega
 have hjn2:((j:Int)==(n:Int))=false:=by simp;omega
 have hic:¬ cap=i:=by omega
 have hjc:¬ cap=j:=by omega
 have hTc:¬ cap=T:=by omega
 have hi1c:¬ cap=i1:=by omega
 have hnc2:(n:Int)≤(cap:Int):=by omega
 have hTn:(T:Int)≤(n:Int):=by omega
 have hTcap:(T:Int)≤(cap:Int):=by omega
 have hi1j:(i1:Int)≤(j:Int):=by omega
 have hiT:(i:Int)≤(T:Int):=by omega
 have hi1T:(i1:Int)≤(T:Int):=by omega
 have hmin1:Hid (Nat.min 1 (T - i)=1):=by unfold Hid;simp only[Nat.min_def];split<;>omega
 have hmin2:Hid (Nat.min r (T - i1)=r):=by unfold Hid;simp only[Nat.min_def];split<;>omega
 have HX:=Lib.hid hp
 have hb1:Hid (i+1≤cap):=by unfold Hid;omega
 have hb2:Hid (i1+r≤cap):=by unfold Hid;omega
 clear hown h1s hT hi1 hp
 go_enter Tryz.func118,Tryz.ntmps118
 go_wp2
 go_quiet (fail)
 obtain ⟨cur,C1,Y,W1,W2,W3,hF,hcl⟩:=(HR nq).out
 have hcp1:=fun ty=>run_copy_row (P:=Tryz.prog) (w.drewN nq) 132 132 ty 160 g i (T - i) (cap - i) ⟨b,0,none⟩ 1 1 cur _ [p] Tryz.underlying132 (by kernel_rfl) hF.cur0 hmin1.out.symm (fun q u hu=>by
  match q,hu with
  | 0,hu=>simp at hu;subst hu;simpa[Addr.add] using HX.out) (by rw[hF.size0];exact hb1.out) (fun u hu=>by simp at hu;subst hu;exact h1)
 have hcp2:=fun ty=>run_copy_row (P:=Tryz.prog) W1.drew 132 132 ty 160 g i1 (T - i1) (cap - i1) ⟨g,j,none⟩ (n - j) (cap - j) C1 _ Y Tryz.underlying132 (by kernel_rfl) hF.cur1 (by rw[hr,hmin2.out];exact hF.len) hF.src (by rw[hF.size1,hF.len];exact hb2.out) hF.one
 rw[List.append_assoc,hF.w1] at hcp1
 rw[List.append_assoc,hF.w2,hF.len,hr] at hcp2
 have HF:=Lib.hid hF.post
 clear hF HR
 go_wp2
 go_region
 go_wp2
 go_ret
 obtain ⟨k1,k2,k3,k4⟩:=HF.out
 exact ⟨k1,k2,(Turn.drewN w nq).trans k3,k4⟩
theorem replace_any (w:World) (g n cap:Nat) (ps:List Value) (hown:w.ownsRow 0 160 1 (.slice (some ⟨g,0,none⟩) n cap) n ps) (b:Nat) (p:Value) (hp:w.cell? ⟨b,0,none⟩=some p) (h1:p.oneCell'=true) (h1s:∀u∈ps,u.oneCell'=true) (i j:Nat) (hi:i+2≤j) (hj:j≤n) (hn:n≤100000) :
  Calls Tryz.prog 118 #[.slice (some ⟨g,0,none⟩) n cap,.int .i64 i,.int .i64 j,.slice (some ⟨b,0,none⟩) 1 1] w (ReplIs w g cap (ps.take i++p :: ps.drop j)):=by
 by_cases e:j=n
 ·subst e
  have hpl:ps.length=j:=by have:=hown.1;omega
  rw[List.drop_eq_nil_of_le (by omega)]
  exact replace_end w g j cap ps hown b p hp h1 i hi hn
 ·exact replace_mid w g n cap ps hown b p hp h1 h1s i j hi (by omega) hn
end
section
open Go.RowKit Go.Maps
theorem own_slice0 {w:World}{e:TypeId}{A:Option Addr}{n c:Nat}{xs:List Value}(h:w.ownsRow 0 e 1 (.slice A n c) n xs) (hn:0<n):∃g,A=some ⟨g,0,none⟩∧g<w.heap.size:=by
 rcases h.2 with ⟨e,h0⟩|⟨g,cap,cur,e, -,hh, -⟩
 ·omega
 ·injection e with e
  exact ⟨g,e,(Array.getElem?_eq_some_iff.1 hh).1⟩
theorem PartsAt.repl {q:Nat→Prop}{w0 w3:World}{g cap i k:Nat}{fs:List (List Item)}{ps:List Value}{P:Nat}{f:List Item}{B:Nat}{B' : Nat}
  (h3:∀a (ha:a<fs.length),∃P,ps[a]?=some (.pointer (some ⟨P,0,none⟩))∧PartAt (fun k=>q k∧g≠k) w0 P fs[a]) (hpl:ps.length=fs.length) (hik:i+k≤fs.length) (hgq:q g)
  (hk:Kept (fun k=>q k∧g≠k) w0 w3) (hP:PartAt (fun k=>B≤k∧k<B') w3 P f) (hB:g<B)
  (hown:w3.ownsRow 0 160 1 (.slice (some ⟨g,0,none⟩) (ps.take i ++ .pointer (some ⟨P,0,none⟩) :: ps.drop (i+k)).length cap) (ps.take i ++ .pointer (some ⟨P,0,none⟩) :: ps.drop (i+k)).length (ps.take i ++ .pointer (some ⟨P,0,none⟩) :: ps.drop (i+k))) :
  PartsAt (fun k=>q k∨(B≤k∧k<B')) w3 (.slice (some ⟨g,0,none⟩) (fs.take i++f :: fs.drop (i+k)).length cap) (fs.take i++f :: fs.drop (i+k)):=by
 have hl:(ps.take i++Value.pointer (some ⟨P,0,none⟩) :: ps.drop (i+k)).length=(fs.take i++f :: fs.drop (i+k)).length:=by simp[hpl]
 rw[hl] at hown
 refine ⟨_,hown,fun a e => .inl (Option.some.inj e ▸ hgq),fun a ha => ?_⟩
 have hti:(fs.take i).length=i:=by rw[List.length_take];omega
 have htp:(ps.take i).length=i:=by rw[List.length_take];omega
 by_cases h1:a<i
 ·obtain ⟨P',g1,g2⟩:=h3 a (by omega)
  refine ⟨P',?_,?_⟩
  ·rw[List.getElem?_append_left (by omega),List.getElem?_take,if_pos h1];exact g1
  ·rw[List.getElem_append_left (by omega),List.getElem_take]
   exact (g2.keep hk).mono fun x e=>⟨.inl e.1,fun e2=>e.2 (Option.some.inj e2)⟩
 ·by_cases h2:a=i
  ·subst h2
   refine ⟨P,?_,?_⟩
   ·rw[List.getElem?_append_right (by omega),htp];simp
   ·rw[List.getElem_append_right (by omega)]
    simp only[hti,Nat.sub_self,List.getElem_cons_zero]
    exact hP.mono fun x e=>⟨.inr e,fun e2=>by have e3:g=x:=Option.some.inj e2;omega⟩
  ·have hlen:(fs.take i++f :: fs.drop (i+k)).length=i+1+(fs.length - (i+k)):=by rw[List.length_append,hti,List.length_cons,List.length_drop];omega
   obtain ⟨d,hd⟩:∃d,a=i+1+d:=⟨a - i - 1,by omega⟩
   subst hd
   obtain ⟨P',g1,g2⟩:=h3 (i+k+d) (by omega)
   refine ⟨P',?_,?_⟩
   ·rw[List.getElem?_append_right (by omega),htp,show i+1+d - i=d+1 from by omega,List.getElem?_cons_succ,List.getElem?_drop];exact g1
   ·have e1:(fs.take i++f :: fs.drop (i+k))[i+1+d]=fs[i+k+d]'(by omega):=by
     rw[List.getElem_append_right (by omega)]
     simp only[hti,show i+1+d - i=d+1 from by omega,List.getElem_cons_succ,List.getElem_drop]
    rw[e1]
    exact (g2.keep hk).mono fun x e=>⟨.inl e.1,fun e2=>e.2 (Option.some.inj e2)⟩
theorem merge_bad (m:Nat→Prop) (w:World) (S:Nat) (s:SetM) (h:SetAt m w S s) (hF:SetFit s) (first many:Int) (hb:¬ (2≤many∧0≤first∧first≤s.fs.length∧many≤s.fs.length - first)) :
  Calls Tryz.prog 73 #[.pointer (some ⟨S,0,none⟩),.int .i64 first,.int .i64 many] w fun e w'=>e = .returned (.tuple #[.slice none 0 0,.int .i64 1])∧w=w':=by
 have hp:=Lib.hid (parts_any h)
 have hfs:=hF.fs
 obtain ⟨n,hn⟩:∃n,s.fs.length=n:=⟨_,rfl⟩
 rw[hn] at hp hb hfs
 clear h hF hn
 by_cases h1:many<2
 ·clear hb
  go_enter Tryz.func73,Tryz.ntmps73
  go_wp2_with fail
  refine hp.out.mono ?_
  rintro e w1 ⟨rfl,rfl⟩
  go_wp2
  go_ret2
  exact ⟨rfl,rfl⟩
 have h1' : 2≤many:=by omega
 by_cases h2:first<0
 ·clear hb h1
  go_enter Tryz.func73,Tryz.ntmps73
  go_wp2_with fail
  refine hp.out.mono ?_
  rintro e w1 ⟨rfl,rfl⟩
  go_wp2
  go_ret2
  exact ⟨rfl,rfl⟩
 have h2' : 0≤first:=by omega
 by_cases h3:(n:Int)<first
 ·clear hb h1 h2
  go_enter Tryz.func73,Tryz.ntmps73
  go_wp2_with fail
  refine hp.out.mono ?_
  rintro e w1 ⟨rfl,rfl⟩
  go_wp2
  go_ret2
  exact ⟨rfl,rfl⟩
 have h3' : first≤(n:Int):=by omega
 have h4:(n:Int) - first<many:=by omega
 have hw:IntKind.i64.wrap ((n:Int) - first)=(n:Int) - first:=by rw[IntKind.wrap_i64];omega
 clear hb h1 h2 h3
 go_enter Tryz.func73,Tryz.ntmps73
 go_wp2_with fail
 refine hp.out.mono ?_
 rintro e w1 ⟨rfl,rfl⟩
 go_wp2
 go_ret2
 exact ⟨rfl,rfl⟩
theorem merge_good (m:Nat→Prop) (w:World) (S:Nat) (s:SetM) (h:SetAt m w S s) (hF:SetFit s) (hH:Halves w) (i k:Nat) (hk:2≤k) (hik:i+k≤s.fs.length) :
  Calls Tryz.prog 73 #[.pointer (some ⟨S,0,none⟩),.int .i64 i,.int .i64 k] w fun e w'=>∃A c,e = .returned (.tuple #[.slice A (fileB (s.join i k)).length c,.int .i64 0])∧FileStep m w w' S ⟨s.mem,s.fs.take i++s.join i k :: s.fs.drop (i+k)⟩ A c (fileB (s.join i k)):=by
 have hp:=Lib.hid (parts_any h)
 obtain ⟨bm,v,g1,g2,g3,g4,g5,g6,g7,g8⟩:=h.out
 obtain ⟨A,c,rfl,hc, -⟩:=g8.open_
 have hSlt:=h.lt S g4
 have hm:=h.lt
 have hjok:=join_ok hF.ok (by have:=hF.total;omega) (i:=i) (k:=k) (by omega) (by omega)
 obtain ⟨U,hU⟩:∃U,s.join i k=U:=⟨_,rfl⟩
 rw[hU] at hjok ⊢
 obtain ⟨FS,hFS⟩:∃FS,(s.fs.drop i).take k=FS:=⟨_,rfl⟩
 have hFl:FS.length=k:=by rw[←hFS,List.length_take,List.length_drop];omega
 have hUe:uniqL ahead FS.flatten=U:=by rw[←hU, ←hFS];rfl
 have hfl:=join_le s i k
 have hft:FS.flatten.length≤900:=by
  have h2:=congrArg List.length (flat_parts s.fs i k)
  rw[List.length_append,List.length_append,hFS] at h2
  have:=hF.total;unfold SetM.total at this;omega
 have hFo:∀r∈FS,∀y∈r,y.length≤1000:=fun r hr y hy=>by
  have:r∈s.fs:=List.mem_of_mem_drop (List.mem_of_mem_take (hFS ▸ hr))
  have:=(bad_len ((build_ok (hF.ok.files r this)).2.1 y hy)).2
  omega
 have hn9:=hF.fs
 obtain ⟨n,hn⟩:∃n,s.fs.length=n:=⟨_,rfl⟩
 rw[hn] at hp g2 hc hik hn9 g8
 obtain ⟨ps,o1,o2,o3⟩:=g8.out
 rw[hn] at o1
 have hpl:ps.length=n:=by have:=o1.1;omega
 obtain ⟨g,rfl,hgl⟩:=own_slice0 o1 (by omega)
 have hcell:∀q (hq:q<k),∃P f,FS[q]?=some f∧w.cell? ⟨g,i+q,none⟩=some (.pointer (some ⟨P,0,none⟩))∧PartAt (fun k=>k<w.heap.size) w P f:=fun q hq=>by
  have hq2:i+q<s.fs.length:=by omega
  obtain ⟨P,p1,p2⟩:=o3 (i+q) hq2
  refine ⟨P,s.fs[i+q]'hq2,?_,?_,p2.mono fun x e=>hm x e.1.1⟩
  ·rw[←hFS,List.getElem?_take,if_pos hq,List.getElem?_drop,List.getElem?_eq_getElem]
  ·have:=World.ownsRow.cellAt o1 (i+q) (by omega)
   rw[this,p1]
 obtain ⟨j,hj⟩:∃j,i+k=j:=⟨_,rfl⟩
 have hw1:IntKind.i64.wrap ((i:Int)+(k:Int))=(j:Int):=by rw[IntKind.wrap_i64];omega
 obtain ⟨d,hd⟩:∃d,n - i=d:=⟨_,rfl⟩
 have hw2:IntKind.i64.wrap ((n:Int) - (i:Int))=(d:Int):=by rw[IntKind.wrap_i64];omega
 have hjk:j - i=k:=by omega
 have hkd:(k:Int)≤(d:Int):=by omega
 have hin:(i:Int)≤(n:Int):=by omega
 have hk2:(2:Int)≤(k:Int):=by omega
 have hij:(i:Int)≤(j:Int):=by omega
 have hjn:(j:Int)≤(n:Int):=by omega
 have hjc:(j:Int)≤(c:Int):=by omega
 have hci:¬ c=i:=by omega
 have hni:¬ n<i:=by omega
 have hdk:¬ d<k:=by omega
 have HAt:=Lib.hid h
 have HN:=Lib.hid hn
 have HC:=Lib.hid hcell
 have H7:=Lib.hid g7
 have HO1:=Lib.hid o1
 have HO2:=Lib.hid o2
 have HO3:=Lib.hid o3
 have HPL:=Lib.hid hpl
 have HFL:=Lib.hid hFl
 have HUE:=Lib.hid hUe
 have HFT:=Lib.hid hft
 have HFO:=Lib.hid hFo
 have HH:=Lib.hid hH
 have HBE:=Lib.hid hjok
 have HIK:=Lib.hid hik
 have HJ:=Lib.hid hj
 have HK:=Lib.hid hk
 clear h hF hH hn hcell g7 g8 o1 o2 o3 hpl hFl hUe hft hFo hjok hfl hU hFS hik hd hj hk
 go_enter Tryz.func73,Tryz.ntmps73
 go_wp2_with fail
 refine hp.out.mono ?_
 rintro e w1 ⟨rfl,rfl⟩
 go_wp2
 go_loopg [9,46] k (fun gg u x wr=>∃q:Nat,q+gg=k∧x = .int .i64 q∧PileS w.heap.size wr u (FS.take q)∧Below w.heap.size w wr)
 case atStart=>exact ⟨0,by omega,rfl,PileS.nil _ _ (Nat.le_refl _),Below.refl _ _⟩
 case round =>
  obtain ⟨q,hq,rfl,hP,hb⟩:=hrel
  have hbs:=hb.size
  obtain ⟨vs,hvs,hvs2⟩:=hP.out
  by_cases hlt:q<k
  ·obtain ⟨P,f,hf,hcl,hPt⟩:=HC.out q hlt
   have hcl2:wr.cell? ⟨g,i+q,none⟩=some (.pointer (some ⟨P,0,none⟩)):=(hb.cell (p:=⟨g,i+q,none⟩) hgl).trans hcl
   have hPr:=hPt.later hb
   have hLen:=Lib.hid (Len_any hPr)
   have hFr:=Lib.hid (From_part (x := []) (Bx:=none) (lx:=0) (dx:=0) hPr ⟨.inl rfl⟩ rfl (f.length:Nat))
   rw[show (fromL f []).take ((f.length:Nat):Int).toNat=f from by rw[fromL_nil,Int.toNat_natCast,List.take_length]] at hFr
   have hT2:Hid (FS.take (q+1)=FS.take q ++ [f]):=by
    unfold Hid
    obtain ⟨hq3,e⟩:=List.getElem?_eq_some_iff.1 hf
    rw[List.take_succ_eq_append_getElem hq3,e]
   obtain ⟨tk,htk⟩:∃tk,FS.take q=tk:=⟨_,rfl⟩
   have htl:tk.length=q:=by rw[←htk,List.length_take,HFL.out];omega
   rw[htk] at hP hvs hvs2 hT2
   have HTL:=Lib.hid htl
   obtain ⟨lf,hlf⟩:∃lf,f.length=lf:=⟨_,rfl⟩
   rw[hlf] at hLen hFr
   have HLF:=Lib.hid hlf
   have hq9:Hid (q≤900):=by unfold Hid;have:=HIK.out;omega
   clear htk htl hf hcl hPt hPr hlf
   go_wp2_with fail
   refine hLen.out.mono ?_
   rintro e w2 ⟨rfl,rfl⟩
   go_wp2_with fail
   refine hFr.out.mono ?_
   rintro e w2 hI
   obtain ⟨A2,c2,rfl,k1,k2,hb2⟩:=hI.rowS
   have hs2:=hb2.size
   rw[HLF.out]
   clear hFr hI hLen
   go_wp2_with (at_builtin;(refine wpList_append_p rfl (.tmp 50) (.tmp 55) rfl w.heap.size _ tk.length vs (by rfl) (own_below hvs (hb2.trans ((Below.refl _ w2).alloc hs2 (.cells #[.slice A2 lf c2] 47)))) (w2.heap.size+1) (some ⟨w2.heap.size,0,none⟩) (.slice A2 lf c2) (by rfl) (sees_cell w2 _ rfl _ _) rfl (by have:=HTL.out;have:=hq9.out;omega) (by simp;omega) ?_;intro v3 w3 hown3 hon3))
   have hP3:=hP.push (x:=f) (hb2.trans ((Below.refl _ w2).alloc hs2 (.cells #[.slice A2 lf c2] 47))) ((k2.keep (Kept.of_below ((Below.refl _ w2).alloc (Nat.le_refl _) _) fun k e=>e.2)).mono fun k e=>⟨e.1,by simp;omega⟩) k1 vs hvs hvs2 (by rw[HLF.out];exact hown3) hon3
   have hb3:Below w.heap.size w w3:=hb.trans ((hb2.mono hbs).trans (((Below.refl _ w2).alloc (by omega) _).trans (hon3.below (by simp;omega) fun g e=>(World.ownsRow.lt hvs g e).1)))
   go_roundg (k - (q+1))
   case measure=>omega
   case rel=>exact ⟨q+1,by omega,by go_num,by rw[hT2.out];exact hP3,hb3⟩
  ·obtain rfl:q=k:=by omega
   have hE:Hid (FS.take q=FS):=by unfold Hid;rw[List.take_of_length_le (by rw[HFL.out];exact Nat.le_refl _)]
   rw[hE.out] at hP
   obtain ⟨Al,cl,rfl,hcl,hS3⟩:=hP.sees
   have hI:=Lib.hid (Items_q Al q cl FS wr hS3 HFL.out (by have:=HIK.out;omega) (by have:=HFT.out;omega) HFO.out)
   rw[HUE.out] at hI
   rw[HFL.out]
   clear hP hvs hvs2 hlt
   go_wp2_with fail
   refine hI.out.mono ?_
   rintro e w1 ⟨v1,rfl,hQ,hb1'⟩
   obtain ⟨A1,c1,rfl,hc1,hS1⟩:=hQ.open_
   have hb1:=hb.trans (hb1'.mono hbs)
   obtain ⟨un,hun⟩:∃un,U.length=un:=⟨_,rfl⟩
   have HUN:=Lib.hid hun
   rw[hun] at hc1 ⊢
   have hun9:Hid (un≤2000):=by unfold Hid;rw[←hun];exact (build_ok HBE.out).2.2.2
   clear hun hI
   have hB:=Lib.hid (Build_good A1 un c1 U HUN.out hc1 w1 (hS1.sees fun k e=>e.2) (HH.out.below hb1 HH.out.1) (by have:=hun9.out;omega) HBE.out)
   go_wp2_with fail
   refine hB.out.mono ?_
   rintro e w2 ⟨v2,rfl,hown2,hb2'⟩
   have hb2:=hb1.trans (hb2'.mono hb1.size)
   obtain ⟨A2,c2,rfl,hc2, -, -,hS2⟩:=hown2.open_
   have hM2:=ownB_seesM hown2
   obtain ⟨fb,hfb⟩:∃fb,(fileB U).length=fb:=⟨_,rfl⟩
   have hfl:=file_len2 HBE.out
   rw[hfb] at hfl hc2 ⊢
   have HFB:=Lib.hid hfb
   have hO:=Lib.hid (Open_good A2 fb c2 (fileB U) hfb hc2 (by omega) w2 hS2 (HH.out.below hb2 HH.out.1) U (open_file HBE.out))
   clear hB hown2 hfb
   go_wp2_with fail
   refine hO.out.mono ?_
   rintro e w3 ⟨P,rfl,hP,hb3'⟩
   have hb3:=hb2.trans (hb3'.mono hb2.size)
   have hs1:=hb1.size
   have hs2:=hb2.size
   have hs3:=hb3.size
   have hs23:=hb3'.size
   have hk3:Kept m w w3:=Kept.of_below hb3 hm
   have c1':=(hk3.cell (p:=⟨S,1,none⟩) g4).trans g2
   have f1:=(frozen_of_block (a:=⟨S,1,none⟩) (hk3 S g4)).trans g3
   have o1:=World.ownsRow.alloc (own_below HO1.out hb3) (.cells #[.pointer (some ⟨P,0,none⟩)] 160)
   have hSl3:S<w3.heap.size:=by omega
   have hRp:=Lib.hid (replace_any (w3.alloc (.cells #[.pointer (some ⟨P,0,none⟩)] 160)) g n c ps o1 w3.heap.size (.pointer (some ⟨P,0,none⟩)) (by rw[World.cell?_alloc_at _ _ _ _ rfl];rfl) rfl (fun u hu=>by
    obtain ⟨a,ha,rfl⟩:=List.mem_iff_getElem.1 hu
    obtain ⟨P',p1, -⟩:=HO3.out a (by rw[HN.out, ←HPL.out];exact ha)
    rw[List.getElem?_eq_getElem ha] at p1
    rw[Option.some.inj p1];rfl) i j (by have:=HJ.out;have:=HK.out;omega) (by have:=HJ.out;have:=HIK.out;omega) (by omega))
   clear hO o1
   go_wp2_with fail
   refine hRp.out.mono ?_
   rintro e w5 ⟨rfl,hown5,ht5,hz5⟩
   have hnS:S≠g:=fun e=>(HO2.out g rfl).2.1 e.symm
   have hk5:Kept (fun x=>x<w3.heap.size∧x≠g) w3 w5:=fun x hx=>(ht5.block x (by simp;omega) hx.2).trans (Below.heap_alloc _ _ x hx.1)
   have d1:=(hk5.cell (p:=⟨S,1,none⟩) ⟨hSl3,hnS⟩).trans c1'
   have e1:=(frozen_of_block (a:=⟨S,1,none⟩) (hk5 S ⟨hSl3,hnS⟩)).trans f1
   obtain ⟨N,hN⟩:∃N,(ps.take i++Value.pointer (some ⟨P,0,none⟩) :: ps.drop j).length=N:=⟨_,rfl⟩
   rw[hN]
   have HNN:=Lib.hid hN
   clear hN hRp
   go_wp2
   go_ret2
   have hbm:=hm bm g5
   have hgm:m g:=(HO2.out g rfl).1
   have hgb:g≠bm:=(HO2.out g rfl).2.2
   have hz3:(w3.alloc (.cells #[.pointer (some ⟨P,0,none⟩)] 160)).heap.size=w3.heap.size+1:=by simp
   have hkq:Kept (fun x=>(m x∧x≠S∧x≠bm)∧g≠x) w w5:=fun x e=>(hk5 x ⟨by have:=hm x e.1.1;omega,fun e2=>e.2 e2.symm⟩).trans (hk3 x e.1.1)
   have hP5:PartAt (fun x=>w2.heap.size≤x∧x<w3.heap.size) w5 P U:=hP.keep fun x e=>hk5 x ⟨e.2,by omega⟩
   have hrep:=PartsAt.repl (q:=fun x=>m x∧x≠S∧x≠bm) (w0:=w) (fs:=s.fs) (f:=U) (i:=i) (k:=q) (g:=g) (cap:=c) (P:=P) (B:=w2.heap.size) (B':=w3.heap.size)
    (fun a ha=>by obtain ⟨P',p1,p2⟩:=HO3.out a ha;exact ⟨P',p1,p2.mono fun x e=>⟨e.1,fun e2=>e.2 (by rw[e2];rfl)⟩⟩) (by rw[HPL.out,HN.out]) (by rw[HN.out];exact HIK.out) ⟨hgm,fun e=>hnS e.symm,hgb⟩ hkq hP5 (by omega) (by rw[HJ.out];exact hown5)
   rw[HJ.out] at hrep ⊢
   have hNe:(s.fs.take i++U :: s.fs.drop j).length=N:=by rw[←HNN.out];simp[HPL.out,HN.out]
   rw[hNe] at hrep
   have hk6:Kept (fun x=>x≠S) w5 (w5.setCell ⟨S,1,none⟩ (.slice (some ⟨g,0,none⟩) N c)):=fun x hx=>Below.heap_setCell _ _ _ _ hx
   have hz6:(w5.setCell ⟨S,1,none⟩ (.slice (some ⟨g,0,none⟩) N c)).heap.size=w3.heap.size+1:=by rw[World.size_setCell,hz5,hz3]
   refine ⟨A2,c2,by rw[HFB.out];rfl,by rw[HFB.out];exact hc2,fun x=>m x∨(w2.heap.size≤x∧x<w3.heap.size),⟨⟨⟨bm,.slice (some ⟨g,0,none⟩) N c,?_,?_,?_,.inl g4,.inl g5,g6,?_,?_⟩,fun x e=>by rw[hz6];rcases e with e|e;have:=hm x e;omega;omega⟩,?_,fun x e=>by rw[hz6];rcases e with e|e;exact .inl e;exact .inr ⟨by omega,by omega⟩⟩,?_⟩
   ·refine (World.cell?_setCell_other _ _ _ _ (by simp)).trans ((hk5.cell (p:=⟨S,0,none⟩) ⟨hSl3,hnS⟩).trans ((hk3.cell (p:=⟨S,0,none⟩) g4).trans g1))
   ·exact World.cell?_setCell_same _ _ _ d1
   ·rw[World.frozen?_setCell];exact e1
   ·exact H7.out.keep ((hk6 bm g6).trans ((hk5 bm ⟨by omega,fun e=>hgb e.symm⟩).trans (hk3 bm g5)))
   ·refine (hrep.keep (hk6.mono fun x e => ?_)).mono fun x e => ?_
    ·rcases e with e|e
     ·exact e.2.1
     ·omega
    ·rcases e with e|e
     ·exact ⟨.inl e.1,e.2⟩
     ·exact ⟨.inr e,by omega,by omega⟩
   ·refine (((Turn.of_new hb3).trans' (Turn.alloc w3 (.cells #[.pointer (some ⟨P,0,none⟩)] 160)) (T':=m) fun _ _ e=>e).trans' (ht5.mono (T':=m) fun x _ e=>e ▸ hgm) fun _ _ e=>e).trans (Turn.setCell _ ⟨S,1,none⟩ _ g4)
   ·refine (hM2.keep (w':=w5.setCell ⟨S,1,none⟩ (.slice (some ⟨g,0,none⟩) N c)) fun x e=>((hk6 x (by omega)).trans (hk5 x ⟨by omega,by omega⟩)).trans (hb3'.block x e.2)).mono fun x e=>⟨by omega,by rw[hz6];omega,fun e2=>by rcases e2 with e2|e2;have:=hm x e2;omega;omega⟩
end
end Go.Proofs.YtalmnodgjjcefaaGreatDoor
