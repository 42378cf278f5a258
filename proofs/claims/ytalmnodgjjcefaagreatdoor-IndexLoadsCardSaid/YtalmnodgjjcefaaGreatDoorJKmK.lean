/- Several texts in one: KmRefI KmPutI KmRefInts KmRefMeet KmLess KmMeet. -/
import Derived.Test.YtalmnodgjjcefaaGreatDoorJKmJ
import Derived.Test.YtalmnodgjjcefaaGreatDoorJKmC
import Derived.Shelf.SlicesE.DeleteFunc
import Derived.Shelf.Slices.SearchI
import Derived.Shelf.Slices.Empties
import Derived.Lib.OwnBridge
import Derived.Test.YtalmnodgjjcefaaGreatDoorJKmI
set_option maxRecDepth 100000
set_option maxHeartbeats 3200000
namespace Go.Proofs.YtalmnodgjjcefaaGreatDoor
namespace KI
open Go.RowKit
def iv (l:List Int):List Value:=l.map (.int .i64)
theorem iv_length (l:List Int):(iv l).length=l.length:=by simp[iv]
theorem Sees.iat {w:World}{B:Nat}{A:Option Addr}{l:List Int}(h:Sees w B A (iv l)) {k:Nat}(hk:k<l.length):∃ad,A=some ad∧ad.block<B∧w.cell? (ad.add k)=some (.int .i64 l[k]):=by
 obtain ⟨ad,e,hb,hc⟩:=h.at_ (k:=k) (by rw[iv_length];exact hk)
 exact ⟨ad,e,hb,by rw[hc];simp[iv]⟩
theorem SameI_any (A B:Option Addr) (n c m d:Nat) (l r:List Int) (hn:l.length=n) (hm:r.length=m) (w:World) (hS:Sees w w.heap.size A (iv l)) (hS2:Sees w w.heap.size B (iv r)) (hlen:n≤1099511627776) :
  Calls Tryz.prog 26 #[.slice A n c,.slice B m d] w (BoolIs w (l==r)):=by
 obtain ⟨X,hX⟩:∃X,(l==r)=X:=⟨_,rfl⟩
 rw[hX]
 have HX:=Lib.hid hX
 have HN:=Lib.hid hn
 have HM:=Lib.hid hm
 by_cases hnm:n=m
 ·subst hnm
  clear hn hm hX
  go_enter Tryz.func26,Tryz.ntmps26
  go_wp2
  go_loopg [5] n (fun g i wr=>∃k:Nat,k+g=n∧i = .int .i64 k∧Hid (X=(l.drop k==r.drop k))∧∃q,wr=w.drewN q)
  case atStart=>exact ⟨0,by omega,rfl,HX.out.symm,0,rfl⟩
  case round =>
   obtain ⟨k,hk,rfl,heq,q,rfl⟩:=hrel
   by_cases hlt:k<n
   ·obtain ⟨ad,rfl,hb,hcell⟩:=Sees.iat hS (k:=k) (by have:=HN.out;omega)
    obtain ⟨ad2,rfl,hb2,hcell2⟩:=Sees.iat hS2 (k:=k) (by have:=HM.out;omega)
    have hstep:Hid (X=(l[k]'(by have:=HN.out;omega)==r[k]'(by have:=HM.out;omega) && (l.drop (k+1)==r.drop (k+1)))):=by
     have:=heq.out
     rw[List.drop_eq_getElem_cons (l:=l) (by have:=HN.out;omega),List.drop_eq_getElem_cons (l:=r) (by have:=HM.out;omega)] at this
     exact this
    generalize l[k]'(by have:=HN.out;omega)=x at hcell hstep
    generalize r[k]'(by have:=HM.out;omega)=y at hcell2 hstep
    clear heq
    by_cases hxy:x=y
    ·have hb1:(x != y)=false:=by simpa using hxy
     have hT:Hid (X=(l.drop (k+1)==r.drop (k+1))):=by have:=hstep.out;rw[hxy,beq_self_eq_true,Bool.true_and] at this;exact this
     clear hstep hxy
     go_wp2
     go_quiet (fail)
     go_wp2
     go_roundg (n - (k+1))
     case measure=>omega
     case rel=>exact ⟨k+1,by omega,by go_num,hT,_,rfl⟩
    ·have hb1:(x != y)=true:=by simpa using hxy
     have HF:Hid (X=false):=by have:=hstep.out;rw[beq_eq_false_iff_ne.2 hxy,Bool.false_and] at this;exact this
     clear hstep hxy
     go_wp2
     go_quiet (fail)
     go_wp2
     go_ret
     unfold BoolIs
     rw[HF.out]
     exact ⟨rfl,_,World.drewN_drewN _ _ _⟩
   ·have HF:Hid (X=true):=by have:=heq.out;rw[List.drop_eq_nil_of_le (by have:=HN.out;omega),List.drop_eq_nil_of_le (by have:=HM.out;omega)] at this;exact this
    clear heq
    go_wp2
    go_ret
    unfold BoolIs
    rw[HF.out]
    exact ⟨rfl,q,rfl⟩
 ·have hl2:((n:Int) != (m:Int))=true:=by rw[bne_iff_ne];omega
  have HF:Hid (X=false):=by
   unfold Hid
   rw[←hX,beq_eq_false_iff_ne]
   rintro rfl
   exact hnm (hn.symm.trans hm)
  clear hnm hn hm hX
  go_enter Tryz.func26,Tryz.ntmps26
  go_wp2
  go_ret
  unfold BoolIs
  rw[HF.out]
  exact ⟨rfl,0,rfl⟩
end KI
namespace KI
open Go.RowKit
theorem own_slice {w:World}{base n:Nat}{v:Value}{xs:List Value}(h:w.ownsRow base 3 1 v n xs):∃A c,v = .slice A n c∧n≤c:=by
 rcases h.2 with ⟨rfl,hn⟩|⟨g,cap,cur,rfl, -, -,hc, -⟩
 ·exact ⟨none,0,by rw[hn],by omega⟩
 ·exact ⟨_,cap,rfl,hc⟩
end KI
namespace KI
open Go.RowKit
def meetL (ll:List (List Int)):List Int:=(uniqL lt ll.flatten).filter fun x=>ll.all fun r=>decide (x∈r)
end KI
namespace KI
open Go.RowKit Go.Shelf Go.Sort
theorem rowsIn_one (w:World) (B:Option Addr) (n c:Nat) (b:List El) (hn:b.length=n) (hnc:n≤c) (hS:Sees w w.heap.size B (b.map val)):RowsIn (fun k=>k<(w.alloc (.cells #[.slice B n c] 23)).heap.size) (w.alloc (.cells #[.slice B n c] 23)) (some ⟨w.heap.size,0,none⟩) [b] :=
 ⟨fun i hi=>by
  have hi0:i=0:=by simpa using hi
  subst hi0
  refine ⟨_,B,c,rfl,by simp,?_,by simpa[hn] using hnc,?_,fun x _=>⟨trivial⟩⟩
  ·rw[Addr.add_lit,World.cell?_alloc_at _ _ _ _ rfl];simp[hn]
  ·exact (hS.alloc (Nat.le_refl _) _).toM.mono fun k e=>by simp;omega⟩
end KI
namespace KI
open Go.RowKit Go.Shelf
attribute [local go_sem] Oper.semAt_some
theorem ri_nodup {l:List Int}(h:Ri lt l):l.Nodup:=h.imp fun {a b} e=>by
 intro h;subst h;rw[ordr.irrefl] at e;cases e
theorem count_rows (x:Int):∀ll:List (List Int),((ll.map (uniqL lt)).flatten).count x≤ll.length∧(((ll.map (uniqL lt)).flatten).count x=ll.length↔∀r∈ll,x∈r)
 | []=>by simp
 | r :: t=>by
  obtain ⟨h1,h2⟩:=count_rows x t
  rw[List.map_cons,List.flatten_cons,List.count_append]
  have hr:(uniqL lt r).count x=if x∈r then 1 else 0:=by
   by_cases e:x∈r
   ·rw[if_pos e]
    exact (ri_nodup (uniqL_ri ordr r)).count.trans (by rw[if_pos ((uniqL_mem ordr r x).2 e)])
   ·rw[if_neg e]
    exact List.count_eq_zero.2 fun e2=>e ((uniqL_mem ordr r x).1 e2)
  rw[hr]
  by_cases e:x∈r
  ·rw[if_pos e]
   simp only[List.length_cons,List.mem_cons,forall_eq_or_imp]
   exact ⟨by omega,by rw[←h2];constructor;(intro g;exact ⟨e,by omega⟩);(rintro ⟨_,g⟩;omega)⟩
  ·rw[if_neg e]
   simp only[List.length_cons,List.mem_cons,forall_eq_or_imp]
   exact ⟨by omega,by constructor;(intro g;omega);(rintro ⟨g,_⟩;exact absurd g e)⟩
theorem meet_plain (ll:List (List Int)):((runs (sortK lt ((ll.map (uniqL lt)).flatten.map key))).filter fun p=>decide (p.2=ll.length)).map (·.1)=meetL ll:=by
 rw[show (ll.map (uniqL lt)).flatten.map key=(ll.map (uniqL lt)).flatten from List.map_id _]
 have hw:=sortK_wk ordr (ll.map (uniqL lt)).flatten
 refine ri_unique ordr ?_ (List.Pairwise.filter _ (uniqL_ri ordr _)) fun x => ?_
 ·exact List.Pairwise.sublist (List.Sublist.map _ (List.filter_sublist)) (runs_ri ordr hw)
 ·have hc:(sortK lt (ll.map (uniqL lt)).flatten).count x=(ll.map (uniqL lt)).flatten.count x:=(sortK_perm _).count_eq x
  have hm:x∈sortK lt (ll.map (uniqL lt)).flatten↔x∈ll.flatten:=by
   rw[(sortK_perm _).mem_iff,List.mem_flatten,List.mem_flatten]
   constructor
   ·rintro ⟨r,hr,hx⟩
    obtain ⟨r',hr',rfl⟩:=List.mem_map.1 hr
    exact ⟨r',hr',(uniqL_mem ordr _ _).1 hx⟩
   ·rintro ⟨r,hr,hx⟩
    exact ⟨_,List.mem_map_of_mem hr,(uniqL_mem ordr _ _).2 hx⟩
  unfold meetL
  rw[List.mem_map,List.mem_filter,uniqL_mem ordr]
  constructor
  ·rintro ⟨⟨y,k⟩,h1,rfl⟩
   rw[List.mem_filter] at h1
   obtain ⟨h1,h2⟩:=h1
   have h3:=(runs_mem ordr hw _ _).1 h1
   refine ⟨hm.1 h3.1,?_⟩
   rw[List.all_eq_true]
   intro r hr
   have h4:k=ll.length:=by simpa using h2
   have:=(count_rows y ll).2.1 (by rw[←hc, ←h3.2];exact h4) r hr
   simpa using this
  ·rintro ⟨h1,h2⟩
   rw[List.all_eq_true] at h2
   refine ⟨(x,_),List.mem_filter.2 ⟨(runs_mem ordr hw x _).2 ⟨hm.2 h1,rfl⟩,?_⟩,rfl⟩
   have:=(count_rows x ll).2.2 fun r hr=>by simpa using h2 r hr
   simpa[hc] using this
theorem meet_len (ll:List (List Int)):(meetL ll).length≤ll.flatten.length:=by
 unfold meetL
 exact Nat.le_trans (List.length_filter_le _ _) (uniqL_len ordr _)
theorem own_seesM {w:World}{base n c:Nat}{e:TypeId}{A:Option Addr}{xs:List Value}(h:w.ownsRow base e 1 (.slice A n c) n xs):SeesM (fun k=>base≤k∧k<w.heap.size) w A xs:=by
 rcases h.2 with ⟨e,hn⟩|⟨g,cap,cur,e, -⟩
 ·exact ⟨.inl (List.eq_nil_of_length_eq_zero (by have:=h.1;omega))⟩
 ·have hlt:=World.ownsRow.lt h g (by rw[e];rfl)
  have hc:=World.ownsRow.cells h (g:=g) (by rw[e];rfl)
  injection e with e1
  exact ⟨.inr ⟨_,e1,hlt,hc⟩⟩
theorem uniq_flat_len (ll:List (List Int)):(ll.map (uniqL lt)).flatten.length≤ll.flatten.length:=by
 induction ll with
 | nil=>simp
 | cons r t ih=>simp only[List.map_cons,List.flatten_cons,List.length_append];have:=uniqL_len ordr r;omega
theorem Meet_any (A:Option Addr) (n c:Nat) (ll:List (List El)) (w:World) (hR:RowsIn (fun k=>k<w.heap.size) w A ll) (hn:ll.length=n) (hn6:n≤10000) (hl:∀r∈ll,r.length≤1000000) (hK12:ll.flatten.length≤1000000000) :
  Calls Tryz.prog 52 #[.slice A n c] w (RowVal w (meetL ll)):=by
 have hU:=meet_plain ll
 have hUl:(meetL ll).length≤1000000000:=Nat.le_trans (meet_len ll) hK12
 rw[hn] at hU
 obtain ⟨U,hUU⟩:∃U,meetL ll=U:=⟨_,rfl⟩
 rw[hUU] at hU hUl ⊢
 have HU:=Lib.hid hU
 have hufl:=uniq_flat_len ll
 have HN:=Lib.hid hn
 have HL:=Lib.hid hl
 clear hU hUU hn hl
 refine (callsIn_wide (n:=12)).1 ?_
 have hF:=fun (A:Option Addr) (n c:Nat) W=>counted_any A n c W
 unfold cmpF at hF
 have HF:=fun (A:Option Addr) (n c:Nat) W=>Lib.hid (hF A n c W)
 clear hF
 obtain ⟨wb,hwb⟩:∃wb,w.alloc (.cells #[.slice A n c] 146)=wb:=⟨_,rfl⟩
 have hbb:Below w.heap.size w wb:=by rw[←hwb];exact (Below.refl _ w).alloc (Nat.le_refl _) _
 have hzb:wb.heap.size=w.heap.size+1:=by rw[←hwb];simp
 have bb:Box1 wb w.heap.size 146 (.slice A n c):=by rw[←hwb];exact Box1.new w _ _
 have hRb:=hR.keep (Kept.of_below hbb fun k e=>e)
 have cb:=bb.cell
 have fb:=bb.frozen
 obtain ⟨ti,hi,hy0,hy1,hy2⟩:=info_parts rowinfo
 have HI:=Lib.hid hi
 have HY0:=Lib.hid hy0
 have HY1:=Lib.hid hy1
 have HY2:=Lib.hid hy2
 clear hi hy0 hy1 hy2 hR
 refine callsIn_of_wp_marks Tryz.func52 rfl trivial ?_ rfl
 simp only[Tryz.ntmps52,List.size_toArray,List.length_cons,List.length_nil,Nat.reduceAdd,Nat.reduceSub,Array.replicate_succ,Array.replicate_zero,List.push_toArray,List.append_toArray,List.nil_append,List.cons_append]
 gi_wp2_with fail
 gi_loopg [3,11] n (fun g o i wr=>∃(k:Nat) (L:List (List El)) (Ao:Option Addr) (co:Nat),k+g=n∧i = .int .i64 k∧o = .slice Ao k co∧Pile (fun _=>False) wb.heap.size wr (.slice Ao k co) L∧Hid (L=(ll.take k).map (uniqL lt))∧Hid (L.length=k)∧Below wb.heap.size wb wr)
 case atStart=>exact ⟨0, [],none,0,by omega,rfl,rfl,Pile.nil _ _ _ (fun _ e=>e.elim) (Nat.le_refl _),rfl,rfl,Below.refl _ _⟩
 case round =>
  obtain ⟨k,L,Ao,co,hk,rfl,rfl,hP,hL,hLk,hbr⟩:=hrel
  have hsr:=hbr.size
  by_cases hlt:k<n
  ·have hRr:=hRb.keep (Kept.of_below hbr fun k e=>by omega)
   obtain ⟨ad,Ak,ck,rfl,hadm,hcell,hck,hsee, -⟩:=hRr.out k (by have:=HN.out;omega)
   have hlen:=HL.out _ (List.getElem_mem (by have:=HN.out;omega:k<ll.length))
   have htk:=List.take_succ_eq_append_getElem (by have:=HN.out;omega:k<ll.length)
   obtain ⟨xs,hxs2⟩:∃xs,ll[k]'(by have:=HN.out;omega)=xs:=⟨_,rfl⟩
   rw[hxs2] at hcell hck hsee hlen htk
   obtain ⟨lk,hlk⟩:∃lk,xs.length=lk:=⟨_,rfl⟩
   rw[hlk] at hcell hck hlen
   have hi1:=Lib.hid (Ints_any (some ⟨wr.heap.size,0,none⟩) 1 1 [xs] _ (rowsIn_one wr Ak lk ck xs hlk hck (hsee.sees fun k e=>by omega)) rfl (by omega) (by simp;omega) (by simp;omega))
   simp only[List.flatten_cons,List.flatten_nil,List.append_nil] at hi1
   have hul:=uniqL_len ordr xs
   have hul2:(uniqL lt xs).length≤1000000:=by omega
   obtain ⟨u,hu⟩:∃u,uniqL lt xs=u:=⟨_,rfl⟩
   obtain ⟨lu,hlu⟩:∃lu,u.length=lu:=⟨_,rfl⟩
   rw[hu] at hi1 hul2
   rw[hlu] at hul2
   have HTK:=Lib.hid htk
   have HU1:=Lib.hid hu
   have HLU:=Lib.hid hlu
   clear hRr htk hlk hxs2 hul hu hlu hsee hlen
   gi_wp2_with fail
   refine ⟨trivial,(callsIn_wide.2 hi1.out).mono ?_⟩
   rintro e w2 ⟨v2,rfl,hown2,hb2'⟩
   have hb2:Below wr.heap.size wr w2:=((Below.refl _ wr).alloc (Nat.le_refl _) _).trans (hb2'.mono (by simp))
   rw[HLU.out] at hown2
   obtain ⟨A2,c2,rfl,hc2⟩:=own_slice hown2
   have hs2:=hb2.size
   obtain ⟨vs,hvs,hvs2⟩:=hP.out
   rw[hLk.out] at hvs
   have hvsx:=own_below hvs hb2
   have hvsy:(w2.alloc (.cells #[.slice A2 lu c2] 23)).ownsRow wb.heap.size 23 1 (.slice Ao k co) k vs:=hvsx.alloc _
   have hnew:∀(j:Nat) (u:Value), [Value.slice A2 lu c2][j]?=some u→(w2.alloc (.cells #[.slice A2 lu c2] 23)).cell? ((⟨w2.heap.size,0,none⟩:Addr).add j)=some u:=fun j u hu=>by
    match j,hu with
    | 0,hu=>(simp at hu;subst hu;rw[Addr.add_lit,World.cell?_alloc_at _ _ _ _ rfl];rfl)
   have HNEW:=Lib.hid hnew
   have HVS:=Lib.hid hvs
   have HVS2:=Lib.hid hvs2
   have hpb:Below wr.heap.size wr (w2.alloc (.cells #[.slice A2 lu c2] 23)):=hb2.alloc hs2 _
   have hsx:SeesM (fun k=>False∨(wr.heap.size≤k∧k<(w2.alloc (.cells #[.slice A2 lu c2] 23)).heap.size)) (w2.alloc (.cells #[.slice A2 lu c2] 23)) A2 (u.map val):=(own_seesM (hown2.alloc _)).mono fun k e => .inr ⟨by have:=e.1;simp at this;omega,e.2⟩
   clear hi1 hnew hvs hvs2 hvsx
   gi_wp2_with ((with_reducible refine wpListIn_append_own_at _ (o := { dst:=some 20,op:=Op.call { callee:=Callee.builtin Builtin.append,args := #[Operand.tmp 15,Operand.tmp 19],argTypes := #[146,146] },type:=146,pos := "kmerge.go:101",after := #[{ on:=0,ground:=Ground.data }, { on:=4,ground:=Ground.data }, { on:=3,ground:=Ground.chain }],guard:=none }) ?_ (.tmp 15) (.tmp 19) 146 ?_ wb.heap.size 23 ti (.slice none 0 0) 1 24 ?_ HI.out HY0.out HY1.out HY2.out ?_ ?_ (.slice Ao k co) k vs ?_ hvsy ⟨w2.heap.size,0,none⟩ 1 1 [.slice A2 lu c2] ?_ ?_ HNEW.out ?_ ?_ ?_ ?_ ?_);exact rfl;exact rfl;exact Tryz.underlying146;exact rfl;omega;exact rfl;exact rfl;exact rfl;(exact fun u hu=>by simp at hu;subst hu;rfl);(simp only[maxLen];omega);omega;(simp;omega);intro v' w3 hown3 hg3 _ hat3)
   have hon3:Onto (w2.alloc (.cells #[.slice A2 lu c2] 23)) w3 (.slice Ao k co) v':=⟨hg3,by rcases hat3 with e|e;exact .inl e;exact .inr ⟨_,e,Nat.le_refl _⟩⟩
   have hP3:=hP.push hpb hsx (by rw[HLU.out];exact hc2) (fun y _=>⟨trivial⟩) vs (by rw[hLk.out];exact HVS.out) HVS2.out (by rw[hLk.out,HLU.out];exact hown3) hon3
   have hL3:(L ++ [u]).length=k+1:=by rw[List.length_append,hLk.out];rfl
   obtain ⟨A3,c3,hv3,hc3⟩:=hP3.slice
   rw[hL3] at hv3
   subst hv3
   have hb3:Below wb.heap.size wb w3:=(hbr.trans (hpb.mono hsr)).trans ((Turn.onto (T:=fun k=>wb.heap.size≤k) hon3 fun k e=>(World.ownsRow.lt HVS.out k e).1).below (fun j e=>e) (by simp;omega))
   gi_roundg (n - (k+1))
   case measure=>omega
   case rel=>exact ⟨k+1,L ++ [u],A3,c3,by omega,by go_num,rfl,hP3,by rw[HTK.out,List.map_append, ←hL.out,List.map_cons,List.map_nil,HU1.out];exact rfl,hL3,hb3⟩
  ·have HKN:Hid (k=n):=(by omega:k=n)
   have hL2:L=ll.map (uniqL lt):=by rw[hL.out,List.take_of_length_le (by have:=HN.out;have:=HKN.out;omega)]
   have hfl:L.flatten.length≤1000000000:=by rw[hL2];omega
   have hfr:∀r∈L,r.length≤1000000:=fun r hr=>by
    rw[hL2] at hr
    obtain ⟨r',hr',rfl⟩:=List.mem_map.1 hr
    have:=uniqL_len ordr r'
    have:=HL.out r' hr'
    omega
   have hU:=HU.out
   rw[←hL2] at hU
   have HU2:=Lib.hid hU
   have hPR:=(by have:=hP;rw[←hLk.out] at this;exact this.rowsIn:RowsIn (fun k=>k<wr.heap.size) wr Ao L)
   have hb0w:Below w.heap.size w wr:=hbb.trans (hbr.mono hbb.size)
   have bbr:=bb.below hbr bb.lt
   clear HU hU hL2 hRb hP cb fb bb
   gi_wp2_with fail
   refine ⟨trivial,(callsIn_wide.2 (HF _ _ _ _).out).mono ?_⟩
   rintro e w1 ⟨rfl,hw1⟩
   have b0:=Box1.new wr 23 (.slice none 0 0)
   have hb0:Below wr.heap.size wr (wr.alloc (.cells #[.slice none 0 0] 23)):=(Below.refl _ wr).alloc (Nat.le_refl _) _
   have hz0:(wr.alloc (.cells #[.slice none 0 0] 23)).heap.size=wr.heap.size+1:=by simp
   generalize wr.alloc (.cells #[.slice none 0 0] 23)=Wa at b0 hb0 hz0 hw1 ⊢
   have b2:=(Box1.new Wa 146 (.slice Ao k co)).alloc (.cells #[.func (.func 97) #[] #[]] 150)
   have b3:=Box1.new (Wa.alloc (.cells #[.slice Ao k co] 146)) 150 (.func (.func 97) #[] #[])
   rw[World.size_alloc] at b3
   rw[←hw1,hz0] at b2 b3
   have hb1:Below Wa.heap.size Wa w1:=by rw[hw1];exact ((Below.refl _ Wa).alloc (Nat.le_refl _) _).alloc (by simp) _
   have hz1:w1.heap.size=wr.heap.size+1+1+1:=by rw[hw1];simp[hz0]
   have c0:=b0.turn (Turn.of_new (T:=fun _=>False) hb1) id
   have hbw:Below wr.heap.size wr w1:=hb0.trans (hb1.mono (by omega))
   have hD:=counted1_seq (w:=w1) (c:=co) wr.heap.size (hPR.keep (Kept.of_below hbw fun k e=>e)) hLk.out (by omega) hfr (wr.heap.size+1) (wr.heap.size+1+1) b2.cell b3.cell (by omega) (by omega) (by omega) (by omega) 11
   have hKl:(sortK lt (L.flatten.map key)).length≤1000000000:=by rw[(sortK_perm _).length_eq,List.length_map];exact hfl
   have hU:=HU2.out
   obtain ⟨K,hK⟩:∃K,sortK lt (L.flatten.map key)=K:=⟨_,rfl⟩
   rw[hK] at hD hKl hU
   clear HU2
   have HU:=Lib.hid hU
   have HKL:=Lib.hid hKl
   have hltb:=bbr.lt
   obtain ⟨ti,hi,hy0,hy1,hy2⟩:=info_parts iinfo
   clear HF hw1 b0 hb0 hb1 b2 b3 hPR hfr hfl hK hKl hU HI HY0 HY1 HY2 hlt hk
   rw[hz0]
   gi_wp2_with fail
   refine wpIn_rangeFunc_T (F:=Fence.wide) (n:=12) rfl (by omega) (gf:=140) (lb := #[.pointer (some ⟨wr.heap.size+1,0,none⟩),.pointer (some ⟨wr.heap.size+1+1,0,none⟩)]) rfl trivial (enters_of Tryz.func140 (by kernel_rfl) rfl)
    hD (Below.refl _ _) (fun _=>rfl) (fun k hk=>by rcases hk with (hk|rfl|rfl)|hk<;>first|omega|exact hk.elim)
    (fun s pre x A B h hR ht=>cntOk_keep h (by omega) ht)
    (fun s pre W=>IntsSt wr wr.heap.size (wr.heap.size+1+1+1) (wr.heap.size+1+1+1) s ((pre.filter fun p=>decide (p.2=n)).map (·.1)) W)
    (fun c s pre wr=>False)
    ?hI ?hIx ?hI2 ?hIx2 ?h0 (fun y => { tmps := #[.slice A n c,.pointer (some ⟨w.heap.size,0,none⟩),.slice none 0 0,.slice Ao k co,undef,u5,.pointer (some ⟨wr.heap.size,0,none⟩),.int .i64 y.1,.int .i64 (y.2:Nat),.slice A n c,.int .i64 (n:Nat),.int .i64 (k:Nat),.bool false,u13,u14,u15,u16,u17,u18,u19,u20,u21,.slice Ao k co,.func (.func 140) #[] #[.pointer (some ⟨wr.heap.size+1,0,none⟩),.pointer (some ⟨wr.heap.size+1+1,0,none⟩)],.int .i64 y.1,.int .i64 (y.2:Nat),undef,undef,undef,undef,undef,undef,undef,undef,undef],defers := [] }) ?assign ?body ?done ?stop
   case hI=>exact fun s pre A B h ht=>h.step (by omega) (Nat.le_refl _) (by omega) ht (fun k e => .inl e) (fun k e=>e)
   case hIx=>exact fun c s pre A B h ht=>h
   case hI2=>exact fun s pre A B h ht=>h.step (by omega) (Nat.le_refl _) (by omega) ht (fun k e => .inr (by omega)) (fun k e => .inl e)
   case hIx2=>exact fun c s pre A B h ht=>h
   case h0=>exact ⟨fun k e=>e.elim,hbw,by omega,_,c0,World.ownsRow_nil _ _ _ _,fun k e=>by simp[Value.ownBlock] at e⟩
   case assign =>
    intro l y W K hK
    dsimp only[val]
    gi_wp2
    exact hK
   case body =>
    rintro l s pre ⟨y,m⟩ W hSt hlt ⟨k1,k2,k3,k4⟩ hdW
    have bbW:=bbr.below hSt.below hltb
    have cbW:=bbW.cell
    by_cases hm:n=m
    ·subst hm
     obtain ⟨v,hbox,hrow,hblk⟩:=hSt.out
     have hpl:((pre.filter fun p=>decide (p.2=n)).map (·.1)).length≤1000000000:=by
      have h1:=runs_len K
      have h2:=HKL.out
      have h3:=List.length_filter_le (fun p:El×Nat=>decide (p.2=n)) pre
      rw[List.length_map];omega
     obtain ⟨ln,hln⟩:∃ln,((pre.filter fun p=>decide (p.2=n)).map (·.1)).length=ln:=⟨_,rfl⟩
     rw[hln] at hpl hrow
     obtain ⟨Av,cv,rfl⟩:∃Av cv,v = .slice Av ln cv:=by
      rcases hrow.2 with ⟨rfl,hn⟩|⟨g,cap,cur,rfl, -⟩
      ·exact ⟨none,0,by rw[hn]⟩
      ·exact ⟨_,cap,rfl⟩
     have c7:=hbox.cell
     have hobv:(Value.slice Av ln cv).ownBlock≠some wr.heap.size:=fun e=>by have:=(hblk _ e).1;omega
     have hdl:wr.heap.size+1+1+1+2≤W.heap.size:=by omega
     have hnb:Below W.heap.size W (W.alloc (.cells #[.int .i64 y] 3)):=(Below.refl _ _).alloc (Nat.le_refl _) _
     have hsee:Sees (W.alloc (.cells #[.int .i64 y] 3)) (W.heap.size+1) (some ⟨W.heap.size,0,none⟩) [.int .i64 y]:=⟨.inr ⟨_,rfl,by simp,fun j u hu=>by match j,hu with|0,hu=>(simp at hu;subst hu;rw[Addr.add_lit,World.cell?_alloc_at _ _ _ _ rfl];rfl)⟩⟩
     have hrow2:=hrow.alloc (.cells #[.int .i64 y] 3)
     have HLN:=Lib.hid hln
     have HZ1:=Lib.hid hz1
     clear hln hz1 hD c0 hbw
     gi_wp2_with ((with_reducible refine wpListIn_append_v (o := { dst:=some 33,op:=Op.call { callee:=Callee.builtin Builtin.append,args := #[Operand.tmp 30,Operand.tmp 32],argTypes := #[23,23] },type:=23,pos := "kmerge.go:106",after := #[{ on:=0,ground:=Ground.data }, { on:=2,ground:=Ground.data }],guard:=none }) ?_ (.tmp 30) (.tmp 32) 23 ?_ 3 ti _ 1 8 ?_ hi hy0 hy1 hy2 ?_ ?_ (wr.heap.size+1+1+1+2) (.slice Av ln cv) ln _ ?_ hrow2 _ (some ⟨W.heap.size,0,none⟩) 1 1 [.int .i64 y] ?_ ?_ hsee ?_ ?_ ?_ ?_ ?_);exact rfl;exact rfl;exact Tryz.underlying23;exact rfl;omega;exact rfl;exact rfl;exact rfl;(exact fun u hu=>by simp at hu;subst hu;rfl);(simp only[maxLen];omega);omega;(simp;omega);intro v' wn hown hon;obtain ⟨gv,cv',rfl⟩:=ownsRow_succ hown;have b3:=(hbox.below hnb hbox.lt).turn (Turn.onto (T:=fun k=>(Value.slice Av ln cv).ownBlock=some k) hon fun k e=>e) hobv;have c3:=b3.cell;have f3:=b3.frozen)
     have hput:=ints_put hSt (by omega) (Nat.le_refl _) (Nat.le_refl _) hdl hbox (by rw[HLN.out];exact hrow) hblk hnb (by rw[HLN.out];exact hown) hon
     refine ⟨hput.2.mono fun j _ e => ?_,by show IntsSt _ _ _ _ s (((pre ++ [(y,n)]).filter fun p=>decide (p.2=n)).map (·.1)) _;rw[List.filter_append,List.map_append,List.filter_cons_of_pos (by simp)];exact hput.1⟩
     rcases e with rfl|e
     ·exact ⟨fun e=>by have:=(hSt.sep _ e).1;omega,by omega,by have:=HZ1.out;omega,by have:=HZ1.out;omega⟩
     ·have h1:=hblk j e
      exact ⟨h1.2,by omega,by have:=HZ1.out;omega,by have:=HZ1.out;omega⟩
    ·have hm2:¬ ((m:Int)=(n:Int)):=by omega
     have hSt2:IntsSt wr wr.heap.size (wr.heap.size+1+1+1) (wr.heap.size+1+1+1) s (((pre ++ [(y,m)]).filter fun p=>decide (p.2=n)).map (·.1)) W:=by
      rw[List.filter_append,List.filter_cons_of_neg (by simp;omega),List.filter_nil,List.append_nil];exact hSt
     clear hD c0 hbw
     gi_wp2_with fail
     exact ⟨Turn.refl _ _,hSt2⟩
   case done =>
    rintro s xs W hS hSt hK
    obtain ⟨v,hbox,hrow,hblk⟩:=hSt.out
    have hxs:(xs.filter fun p=>decide (p.2=n)).map (·.1)=U:=by rw[←HU.out, ←show xs.map (tk key)=runs K from hS,show tk key=id from rfl,List.map_id]
    rw[hxs] at hrow
    obtain ⟨ln,hln⟩:∃ln,U.length=ln:=⟨_,rfl⟩
    rw[hln] at hrow
    obtain ⟨Av,cv,rfl⟩:∃Av cv,v = .slice Av ln cv:=by
     rcases hrow.2 with ⟨rfl,hn⟩|⟨g,cap,cur,rfl, -⟩
     ·exact ⟨none,0,by rw[hn]⟩
     ·exact ⟨_,cap,rfl⟩
    have c7:=hbox.cell
    have hpt:=Turn.putObj W w1.heap.size (.deferred none) (T:=fun k=>k=w1.heap.size) rfl
    have hrow2:=ownsRow_kept (w':=W.putObj w1.heap.size (.deferred none)) hrow fun k e=>hpt.block k (World.ownsRow.lt hrow k e).2 (by have:=(hblk k e).1;omega)
    have hbel:=hSt.below.trans (hpt.below (b:=wr.heap.size) (fun j hj=>by omega) hSt.below.size)
    have hrow3:=owns_le hrow2 (b:=w.heap.size) (by omega)
    have hbel':=Lib.hid (hb0w.trans (hbel.mono (by omega)))
    have HLN:=Lib.hid hln
    clear hln hz1 hD c0 hbw hxs
    gi_wp2_with fail
    refine ⟨by simp,.inl ⟨_,_,rfl,run_takeDeferred hK,?_⟩⟩
    refine ⟨_,results_tmp rfl _ _ _,.slice Av ln cv,rfl,?_,hbel'.out⟩
    rw[HLN.out]
    exact hrow3
   case stop=>exact fun c s pre W h1 h2 h3=>h2.elim
end KI
end Go.Proofs.YtalmnodgjjcefaaGreatDoor
