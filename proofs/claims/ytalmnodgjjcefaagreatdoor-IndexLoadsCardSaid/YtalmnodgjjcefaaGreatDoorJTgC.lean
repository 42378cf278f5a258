/- Several texts in one: TgAdd TgFlush TgReplace TgMerge. -/
import Derived.Test.YtalmnodgjjcefaaGreatDoorJTgB
import Derived.Test.YtalmnodgjjcefaaGreatDoorJIpE
import Derived.Laws.CopyOwn
import Derived.Lib.AppendZeros
import Derived.Lib.SliceRun
import Derived.Deep.RegionLaw
set_option maxRecDepth 100000
set_option maxHeartbeats 3200000
namespace Go.Proofs.YtalmnodgjjcefaaGreatDoor
section
open Go.RowKit Go.Maps
theorem ri_nodup {l:List Item}(h:Ri ahead l):l.Nodup:=List.Pairwise.imp (fun {a b} e=>by rintro rfl;rw[ahead_irrefl] at e;cases e) h
theorem add_perm {mem:List Item}{x:Item}(h:mem.Nodup) (hx:x ∉ mem):(mem ++ [x]).Perm (uniqL ahead (mem ++ [x])):=by
 refine (List.perm_ext_iff_of_nodup ?_ (ri_nodup (uniqL_ri KBo _))).2 fun y=>(uniqL_mem KBo _ y).symm
 refine List.nodup_append.2 ⟨h,by simp,fun a ha c hc => ?_⟩
 rw[List.mem_singleton.1 hc]
 exact fun e=>hx (e ▸ ha)
structure SetStep (m m' : Nat→Prop) (w w' : World) (S:Nat) (s' : SetM):Prop where
 set:SetAt m' w' S s'
 turn:Turn m w w'
 new:∀k,m' k→m k∨(w.heap.size≤k∧k<w'.heap.size)
theorem add_any (m:Nat→Prop) (w:World) (S:Nat) (s:SetM) (h:SetAt m w S s) (hF:SetFit s) (Bx:Option Addr) (lx dx:Nat) (x:Item) (hxl:x.length=lx) (hlx:lx≤1000000) (hx:Sees w w.heap.size Bx (bv x)) :
  Calls Tryz.prog 94 #[.pointer (some ⟨S,0,none⟩),.slice Bx lx dx] w fun e w'=>e = .returned (.int .i64 ((s.add x).2:Nat))∧SetStep m m w w' S (s.add x).1:=by
 by_cases h1:lx<1
 ·have hb:badL x=true:=by unfold badL;rw[decide_eq_true (by omega),Bool.true_or]
  have e1:s.add x=(s,1):=by unfold SetM.add;rw[if_pos hb]
  rw[e1]
  have hSt:SetStep m m w w S s:=⟨h,Turn.refl _ _,fun k e => .inl e⟩
  clear h hF hx hxl hb e1
  go_enter Tryz.func94,Tryz.ntmps94
  go_wp2
  go_ret
  exact ⟨rfl,hSt⟩
 by_cases h4:400<lx
 ·have hb:badL x=true:=by unfold badL;rw[decide_eq_true (p:=400<x.length) (by omega),Bool.or_true]
  have e1:s.add x=(s,1):=by unfold SetM.add;rw[if_pos hb]
  rw[e1]
  have hSt:SetStep m m w w S s:=⟨h,Turn.refl _ _,fun k e => .inl e⟩
  have h4' : (400:Int)<(lx:Int):=by omega
  have h1' : (1:Int)≤(lx:Int):=by omega
  clear h hF hx hxl hb e1
  go_enter Tryz.func94,Tryz.ntmps94
  go_wp2
  go_ret
  exact ⟨rfl,hSt⟩
 have hb:badL x=false:=by unfold badL;rw[decide_eq_false (by omega),decide_eq_false (by omega)];rfl
 have hH:=Lib.hid (setHas_any h hF Bx lx dx x hxl hlx hx)
 have h4' : (lx:Int)≤400:=by omega
 have h1' : (1:Int)≤(lx:Int):=by omega
 cases hh:s.has x with
 | true =>
  have e1:s.add x=(s,0):=by unfold SetM.add;rw[if_neg (by rw[hb];simp),if_pos hh]
  rw[e1]
  rw[hh] at hH
  have HS:=Lib.hid h
  clear h hF hx hxl hb e1 hh
  go_enter Tryz.func94,Tryz.ntmps94
  go_wp2_with fail
  refine hH.out.mono ?_
  rintro e w1 ⟨rfl,hb1⟩
  go_wp2
  go_ret
  exact ⟨rfl,HS.out.below hb1,Turn.of_new hb1,fun k e => .inl e⟩
 | false =>
  rw[hh] at hH
  by_cases h5:500≤s.mem.length
  ·have e1:s.add x=(s,2):=by unfold SetM.add;rw[if_neg (by rw[hb];simp),if_neg (by rw[hh];simp),if_pos h5]
   rw[e1]
   have HS:=Lib.hid h
   obtain ⟨n,hn⟩:∃n,s.mem.length=n:=⟨_,rfl⟩
   rw[hn] at h5
   have h5' : (500:Int)≤(n:Int):=by omega
   have HN:=Lib.hid hn
   clear h hF hx hxl hb e1 hh hn
   go_enter Tryz.func94,Tryz.ntmps94
   go_wp2_with fail
   refine hH.out.mono ?_
   rintro e w1 ⟨rfl,hb1⟩
   have hS1:=HS.out.below hb1
   obtain ⟨bm,v,g1,g2,g3,g4,g5,g6,g7,g8⟩:=hS1.out
   have hl:=g7.len 131 Tryz.underlying131
   rw[HN.out] at hl
   clear g7 g8 hH
   go_wp2
   go_ret
   exact ⟨rfl,hS1,Turn.of_new hb1,fun k e => .inl e⟩
  ·have e1:s.add x=(⟨uniqL ahead (s.mem ++ [x]),s.fs⟩,0):=by unfold SetM.add;rw[if_neg (by rw[hb];simp),if_neg (by rw[hh];simp),if_neg h5]
   rw[e1]
   have HS:=Lib.hid h
   obtain ⟨n,hn⟩:∃n,s.mem.length=n:=⟨_,rfl⟩
   rw[hn] at h5
   have h5' : (n:Int)<500:=by omega
   have HN:=Lib.hid hn
   have hxm:x ∉ s.mem:=fun e=>by
    rw[SetM.has_eq,decide_eq_false_iff_not] at hh
    exact hh ((mem_all s x).2 (.inr e))
   have HX:=Lib.hid hxm
   have HND:=Lib.hid (ri_nodup hF.ok.rise)
   have HXS:=Lib.hid hx
   have HXL:=Lib.hid hxl
   clear h hF hx hxl hb e1 hh hn hxm
   go_enter Tryz.func94,Tryz.ntmps94
   go_wp2_with fail
   refine hH.out.mono ?_
   rintro e w1 ⟨rfl,hb1⟩
   have hS1:=HS.out.below hb1
   have hs1:=hb1.size
   obtain ⟨bm,v,g1,g2,g3,g4,g5,g6,g7,g8⟩:=hS1.out
   have hl:=g7.len 131 Tryz.underlying131
   rw[HN.out] at hl
   have hcv:=run_str w1.drew _ Bx lx dx x (((HXS.out.below hb1).more hs1).drew) HXL.out
   obtain ⟨w2,hst,hM2,hg2,hz2⟩:=(g7.keep (w':=w1.drew) rfl).store 131 Tryz.underlying131 (by rw[HN.out];omega) (s:=strOf x) (by rw[strOf_size,HXL.out];simp only[maxLen];omega) (by rw[strOf_data];exact HX.out)
   rw[strOf_data] at hM2
   have HM2:=Lib.hid hM2
   have HG8:=Lib.hid g8
   clear g7 g8 hH hM2
   go_wp2_with fail
   go_region
   go_wp2
   go_ret
   have hsd:w1.drew.heap.size=w1.heap.size:=rfl
   have hk:Kept (fun k=>m k∧k≠bm) w1 w2:=fun k e=>hg2.block k (by rw[hsd];exact hS1.lt k e.1) fun e2=>e.2 (Option.some.inj e2)
   refine ⟨rfl,⟨⟨bm,v,(hk.cell (p:=⟨S,0,none⟩) ⟨g4,fun e=>g6 e.symm⟩).trans g1,(hk.cell (p:=⟨S,1,none⟩) ⟨g4,fun e=>g6 e.symm⟩).trans g2,(frozen_of_block (hk S ⟨g4,fun e=>g6 e.symm⟩)).trans g3,g4,g5,g6,HM2.out.perm (add_perm (HND.out) HX.out),HG8.out.keep (hk.mono fun k e=>⟨e.1,e.2.2⟩)⟩,fun k e=>by rw[hz2];exact hS1.lt k e⟩,
    ((Turn.of_new hb1).trans (Turn.of_new (below_drew (Below.refl _ _)))).trans (Turn.of_grown hg2 fun k e=>by injection e with e;exact e ▸ g5),fun k e => .inl e⟩
end
section
open Go.RowKit Go.Maps
theorem Tryz.partinfo:(Tryz.prog.info? 160).map (fun i=>(i.zero,i.size,i.bytes))=some (some (.pointer none),1,8):=by kernel_rfl
theorem PartsAt.put {q:Nat→Prop}{w w2 w3:World}{v v' : Value}{fs:List (List Item)}{ps:List Value}{P:Nat}{f:List Item}(h1:w.ownsRow 0 160 1 v fs.length ps) (h2:∀k,v.ownBlock=some k→q k)
  (h3:∀i (hi:i<fs.length),∃P,ps[i]?=some (.pointer (some ⟨P,0,none⟩))∧PartAt (fun k=>q k∧v.ownBlock≠some k) w P fs[i]) (hq:∀k,q k→k<w.heap.size) (hb:Below w.heap.size w w2)
  (hP:PartAt (fun k=>w.heap.size≤k∧k<w2.heap.size) w2 P f) (hown:w3.ownsRow 0 160 1 v' (fs.length+1) (ps ++ [.pointer (some ⟨P,0,none⟩)])) (hon:Onto w2 w3 v v') :
  PartsAt (fun k=>q k∨(w.heap.size≤k∧k<w3.heap.size)) w3 v' (fs ++ [f]):=by
 have hs:=hb.size
 have hs3:=hon.size
 have hvl:=World.ownsRow.lt h1
 have hpl:ps.length=fs.length:=by have:=h1.1;omega
 have hv' : ∀k,k<w2.heap.size→v.ownBlock≠some k→v'.ownBlock≠some k:=fun k hk hne e=>by
  rcases hon.at_ with e2|⟨g,e2,hg⟩
  ·exact hne (e2 ▸ e)
  ·rw[e2] at e;injection e with e;omega
 have hk23:∀k,k<w2.heap.size→v.ownBlock≠some k→w3.heap[k]?=w2.heap[k]?:=fun k a b=>hon.grown.block k a (fun e=>b e.symm)
 refine ⟨ps ++ [.pointer (some ⟨P,0,none⟩)],by rw[List.length_append];exact hown,fun k e => ?_,fun i hi => ?_⟩
 ·rcases hon.at_ with e2|⟨g,e2,hg⟩
  ·exact .inl (h2 k (e2 ▸ e))
  ·have h5:=(World.ownsRow.lt hown k e).2
   rw[e2] at e;injection e with e;exact .inr ⟨by omega,h5⟩
 ·by_cases hlt:i<fs.length
  ·obtain ⟨P',g1,g2⟩:=h3 i hlt
   refine ⟨P',by rw[List.getElem?_append_left (by omega)];exact g1,?_⟩
   rw[List.getElem_append_left hlt]
   exact (g2.keep fun k e=>(hk23 k (by have:=hq k e.1;omega) e.2).trans (hb.block k (hq k e.1))).mono fun k e=>⟨.inl e.1,hv' k (by have:=hq k e.1;omega) e.2⟩
  ·have he:i=fs.length:=by simp at hi;omega
   subst he
   refine ⟨P,by rw[List.getElem?_append_right (by omega)];simp[hpl],?_⟩
   rw[List.getElem_append_right (Nat.le_refl _)]
   simp only[Nat.sub_self,List.getElem_cons_zero]
   have hne:∀k,w.heap.size≤k→v.ownBlock≠some k:=fun k hk e=>by have:=(hvl k e).2;omega
   exact (hP.keep fun k e=>hk23 k e.2 (hne k e.1)).mono fun k e=>⟨.inr ⟨e.1,by omega⟩,hv' k e.2 (hne k e.1)⟩
structure FileStep (m:Nat→Prop) (w w' : World) (S:Nat) (s' : SetM) (A:Option Addr) (c:Nat) (b:List UInt8):Prop where
 cap:b.length≤c
 out:∃m',SetStep m m' w w' S s'∧SeesM (fun k=>w.heap.size≤k∧k<w'.heap.size∧¬ m' k) w' A (bv b)
theorem flush_any (m:Nat→Prop) (w:World) (S:Nat) (s:SetM) (h:SetAt m w S s) (hF:SetFit s) (hH:Halves w) :
  Calls Tryz.prog 66 #[.pointer (some ⟨S,0,none⟩)] w fun e w'=>∃A c,e = .returned (.tuple #[.slice A s.flush.2.1.length c,.bool s.flush.2.2])∧FileStep m w w' S s.flush.1 A c s.flush.2.1:=by
 have hf:=Lib.hid (fresh_any h)
 have hSt:SetStep m m w w S s:=⟨h,Turn.refl _ _,fun k e => .inl e⟩
 by_cases h0:s.mem.length=0
 ·have e1:s.flush=(s, [],false):=by unfold SetM.flush;rw[if_pos (.inl h0)]
  rw[e1]
  rw[h0] at hf
  have HSt:=Lib.hid hSt
  clear h hF hH e1 h0 hSt
  go_enter Tryz.func66,Tryz.ntmps66
  go_wp2_with fail
  refine hf.out.mono ?_
  rintro e w1 ⟨rfl,rfl⟩
  go_wp2
  go_ret2
  exact ⟨none,0,rfl,by simp,m,HSt.out,⟨.inl rfl⟩⟩
 obtain ⟨bm,v,g1,g2,g3,g4,g5,g6,g7,g8⟩:=h.out
 obtain ⟨A,c,rfl,hc, -⟩:=g8.open_
 have hSlt:=h.lt S g4
 obtain ⟨n,hn⟩:∃n,s.mem.length=n:=⟨_,rfl⟩
 obtain ⟨k,hk⟩:∃k,s.fs.length=k:=⟨_,rfl⟩
 rw[hn] at hf h0
 rw[hk] at g2 hc g8
 by_cases h100:100≤k
 ·have e1:s.flush=(s, [],false):=by unfold SetM.flush;rw[if_pos (.inr (by omega))]
  rw[e1]
  have HSt:=Lib.hid hSt
  have hk' : (100:Int)≤(k:Int):=by omega
  have hn' : ((n:Int)==0)=false:=by simpa using h0
  clear h hF hH e1 hSt g7 g8 hn hk h0
  go_enter Tryz.func66,Tryz.ntmps66
  go_wp2_with fail
  refine hf.out.mono ?_
  rintro e w1 ⟨rfl,rfl⟩
  go_wp2
  go_ret2
  exact ⟨none,0,rfl,by simp,m,HSt.out,⟨.inl rfl⟩⟩
 have e1:s.flush=(⟨[],s.fs ++ [s.mem]⟩,fileB s.mem,true):=by unfold SetM.flush;rw[if_neg (by omega)]
 rw[e1]
 have hbe:buildE s.mem=0:=build_ri hF.ok.rise hF.ok.fine (by omega) (by have:=hF.mem;omega)
 have hfl:=file_len2 hbe
 have hopen:=open_file hbe
 have hS:=Lib.hid (sorted_any bm s.mem w g7 hF.ok.rise (by have:=hF.mem;omega) fun x hx=>by have:=(bad_len (hF.ok.fine x hx)).2;omega)
 have hk' : (k:Int)<100:=by omega
 have hn' : ((n:Int)==0)=false:=by simpa using h0
 have HN:=Lib.hid hn
 have HK:=Lib.hid hk
 have HAt:=Lib.hid h
 have H7:=Lib.hid g7
 have H8:=Lib.hid g8
 have HH:=Lib.hid hH
 have HBE:=Lib.hid hbe
 have HOP:=Lib.hid hopen
 have hn9:Hid (n≤900):=by unfold Hid;have:=hF.mem;omega
 obtain ⟨fb,hfb⟩:∃fb,(fileB s.mem).length=fb:=⟨_,rfl⟩
 rw[hfb] at hfl
 have HFB:=Lib.hid hfb
 obtain ⟨ti,hti,hz0,hz1,hz2⟩:=info_parts Tryz.partinfo
 have hm:=h.lt
 clear h hF hH e1 hSt g7 g8 hn hk h0 hbe hopen hfb
 go_enter Tryz.func66,Tryz.ntmps66
 go_wp2_with fail
 refine hf.out.mono ?_
 rintro e w0 ⟨rfl,rfl⟩
 go_wp2_with fail
 refine hS.out.mono ?_
 rintro e w1 hI
 obtain ⟨A1,c1,rfl,hc1,hS1,hb1⟩:=hI.open_
 rw[HN.out] at hc1 ⊢
 have hH1:=HH.out.below hb1 HH.out.1
 have hB:=Lib.hid (Build_good A1 n c1 s.mem HN.out hc1 w1 hS1 hH1 (by have:=hn9.out;omega) HBE.out)
 clear hI hS
 go_wp2_with fail
 refine hB.out.mono ?_
 rintro e w2 ⟨v2,rfl,hown2,hb2'⟩
 have hb2:=hb1.trans (hb2'.mono hb1.size)
 obtain ⟨A2,c2,rfl,hc2, -, -,hS2⟩:=hown2.open_
 have hM2:=ownB_seesM hown2
 rw[HFB.out] at hc2 ⊢
 have hO:=Lib.hid (Open_good A2 fb c2 (fileB s.mem) HFB.out hc2 (by omega) w2 hS2 (HH.out.below hb2 HH.out.1) s.mem HOP.out)
 clear hB hown2
 go_wp2_with fail
 refine hO.out.mono ?_
 rintro e w3 ⟨P,rfl,hP,hb3'⟩
 have hb3:=hb2.trans (hb3'.mono hb2.size)
 have hs1:=hb1.size
 have hs2:=hb2.size
 have hs3:=hb3.size
 have hs23:=hb3'.size
 have hk3:Kept m w w3:=Kept.of_below hb3 hm
 have c0:=(hk3.cell (p:=⟨S,0,none⟩) g4).trans g1
 have c1':=(hk3.cell (p:=⟨S,1,none⟩) g4).trans g2
 have f1:=(frozen_of_block (a:=⟨S,1,none⟩) (hk3 S g4)).trans g3
 obtain ⟨ps,o1',o2,o3⟩:=(H8.out.keep ((Kept.of_below hb2 hm).mono fun k e=>e.1)).out
 have HO3:=Lib.hid o3
 rw[HK.out] at o1'
 have o1:=own_below o1' hb3'
 have hSl3:S<w3.heap.size:=by omega
 clear hO o3
 go_wp2_with (at_builtin;(refine wpList_append_v rfl (.tmp 37) (.tmp 39) 132 rfl 160 ti _ 1 8 Tryz.underlying132 hti hz0 hz1 hz2 rfl (by omega) 0 _ k ps (by rfl) (World.ownsRow.alloc o1 _) (w3.heap.size+1) (some ⟨w3.heap.size,0,none⟩) 1 1 [.pointer (some ⟨P,0,none⟩)] (by rfl) rfl (sees_cell w3 _ rfl _ _) (fun u hu=>by simp at hu;subst hu;rfl) (by simp only[maxLen];omega) (by omega) (by omega) ?_;intro v5 w5 hown5 hon5;obtain ⟨gv,cv,rfl⟩:=ownsRow_succ hown5;have hk5:Kept (fun j=>j<w3.heap.size∧(Value.slice A k c).ownBlock≠some j) w3 w5:=(fun j hj=>(hon5.grown.block j (by simp;omega) (fun e=>hj.2 e.symm)).trans (Below.heap_alloc _ _ j hj.1));have hnS:(Value.slice A k c).ownBlock≠some S:=(fun e=>(o2 S e).2.1 rfl);have hnb:(Value.slice A k c).ownBlock≠some bm:=(fun e=>(o2 bm e).2.2 rfl);have hs5:w3.heap.size≤w5.heap.size:=(by have:=hon5.size;simp at this;omega);have d0:=(hk5.cell (p:=⟨S,0,none⟩) ⟨hSl3,hnS⟩).trans c0;have d1:=(hk5.cell (p:=⟨S,1,none⟩) ⟨hSl3,hnS⟩).trans c1';have e1:=(frozen_of_block (a:=⟨S,1,none⟩) (hk5 S ⟨hSl3,hnS⟩)).trans f1;have hM5:MemAt (w5.setCell ⟨S,1,none⟩ (.slice (some ⟨gv,0,none⟩) (k+1) cv)) bm s.mem:=((H7.out.keep (hk3 bm g5)).keep (hk5 bm ⟨by have:=hm bm g5;omega,hnb⟩)).keep (Below.heap_setCell _ _ _ _ g6);have d2:(w5.setCell ⟨S,1,none⟩ (.slice (some ⟨gv,0,none⟩) (k+1) cv)).cell? ⟨S,0,none⟩=some (.map (some bm)):=(World.cell?_setCell_other _ _ _ _ (by simp)).trans d0;obtain ⟨w6,hclr⟩:∃w6,(∀ty,(Builtin.clear_ #[131] ty #[.map (some bm)]).run Tryz.prog (w5.setCell ⟨S,1,none⟩ (.slice (some ⟨gv,0,none⟩) (k+1) cv)) = .ok (.tuple #[]) w6)∧Hid (MemAt w6 bm []∧(w5.setCell ⟨S,1,none⟩ (.slice (some ⟨gv,0,none⟩) (k+1) cv)).grownBy w6 (some bm)∧w6.heap.size=w5.heap.size):=hM5.clear' 131 Tryz.underlying131 (by simp);obtain ⟨hcl,HC⟩:=hclr;clear hM5))
 go_ret2
 obtain ⟨hM6,hg6,hz6⟩:=HC.out
 have hz5:(w5.setCell ⟨S,1,none⟩ (.slice (some ⟨gv,0,none⟩) (k+1) cv)).heap.size=w5.heap.size:=World.size_setCell _ _ _
 have hbm:=hm bm g5
 have hput:=PartsAt.put (w:=w2) (w3:=w5) (f:=s.mem) (P:=P) (by rw[HK.out];exact o1') o2 HO3.out (fun j e=>by have:=hm j e.1;omega) (hb3'.trans ((Below.refl _ w3).alloc hs23 (.cells #[.pointer (some ⟨P,0,none⟩)] 160)))
  ((hP.keep (Kept.of_below ((Below.refl _ w3).alloc (Nat.le_refl _) _) fun j e=>e.2)).mono fun j e=>⟨e.1,by simp;omega⟩) (by rw[HK.out];exact hown5) hon5
 have hk6:Kept (fun j=>j<w5.heap.size∧j≠S∧j≠bm) w5 w6:=fun j hj=>(hg6.block j (by rw[hz5];exact hj.1) fun e=>hj.2.2 (Option.some.inj e)).trans (Below.heap_setCell _ _ _ _ hj.2.1)
 have hkS:Kept (fun j=>j=S) (w5.setCell ⟨S,1,none⟩ (.slice (some ⟨gv,0,none⟩) (k+1) cv)) w6:=fun j hj=>by subst hj;exact hg6.block j (by rw[hz5];omega) fun e=>g6 (Option.some.inj e).symm
 refine ⟨A2,c2,by rw[HFB.out];rfl,by rw[HFB.out];exact hc2,fun j=>m j∨(w2.heap.size≤j∧j<w6.heap.size),⟨⟨⟨bm,.slice (some ⟨gv,0,none⟩) (k+1) cv,?_,?_,?_,.inl g4,.inl g5,g6,hM6,?_⟩,fun j e=>by rcases e with e|e;have:=hm j e;omega;exact e.2⟩,?_,fun j e=>by rcases e with e|e;exact .inl e;exact .inr ⟨by omega,e.2⟩⟩,?_⟩
 ·exact (hkS.cell (p:=⟨S,0,none⟩) rfl).trans d2
 ·refine (hkS.cell (p:=⟨S,1,none⟩) rfl).trans ?_
  exact World.cell?_setCell_same _ _ _ d1
 ·refine (frozen_of_block (a:=⟨S,1,none⟩) (hkS S rfl)).trans ?_
  rw[World.frozen?_setCell]
  exact e1
 ·refine (hput.keep (hk6.mono fun j e => ?_)).mono fun j e => ?_
  ·rcases e with e|e
   ·have:=hm j e.1;exact ⟨by omega,e.2⟩
   ·exact ⟨e.2,by omega,by omega⟩
  ·rcases e with e|e
   ·exact ⟨.inl e.1,e.2⟩
   ·exact ⟨.inr ⟨e.1,by omega⟩,by omega,by omega⟩
 ·refine (((Turn.of_new hb3).trans' (Turn.alloc w3 (.cells #[.pointer (some ⟨P,0,none⟩)] 160)) (T':=m) fun _ _ e=>e).trans' (Turn.onto hon5 fun j e=>(o2 j e).1) fun _ _ e=>e).trans ((Turn.setCell _ ⟨S,1,none⟩ _ g4).trans (Turn.of_grown hg6 fun j e=>by injection e with e;exact e ▸ g5))
 ·have hkb:Kept (fun j=>w1.heap.size≤j∧j<w2.heap.size) w2 w6:=fun j hj=>(hk6 j ⟨by omega,by omega,by omega⟩).trans ((hk5 j ⟨by omega,fun e=>by have:=hm j (o2 j e).1;omega⟩).trans (hb3'.block j hj.2))
  exact (hM2.keep hkb).mono fun j e=>⟨by omega,by omega,fun e2=>by rcases e2 with e2|e2;have:=hm j e2;omega;omega⟩
end
section
open Go.RowKit Go.Maps
end
section
open Go.RowKit Go.Maps
end
end Go.Proofs.YtalmnodgjjcefaaGreatDoor
