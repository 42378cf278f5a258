/- Several texts in one: IpCollect IpPrefix IpFrames. -/
import Derived.Test.YtalmnodgjjcefaaGreatDoorJTk
import Derived.Test.YtalmnodgjjcefaaGreatDoorJIpB
import Derived.Test.YtalmnodgjjcefaaGreatDoorJFrm
set_option maxRecDepth 100000
set_option maxHeartbeats 3200000
namespace Go.Proofs.YtalmnodgjjcefaaGreatDoor
section
open Go.RowKit Go.Shelf
attribute [local go_sem] Oper.semAt_some
theorem OwnS.base_le {w:World}{base b:Nat}{v:Value}{ls:List (List UInt8)}(h:OwnS w base v ls) (hb:b≤base):OwnS w b v ls:=by
 obtain ⟨vs,h1,h2⟩:=h.out
 refine ⟨vs,⟨h1.1,?_⟩,fun i hi => ?_⟩
 ·rcases h1.2 with h|⟨g,cap,cur,hv,hg,r⟩
  ·exact .inl h
  ·exact .inr ⟨g,cap,cur,hv,Nat.le_trans hb hg,r⟩
 ·obtain ⟨Ai,ci,g1,g2,g3⟩:=h2 i hi
  refine ⟨Ai,ci,g1,g2,?_⟩
  rcases g3.out with e|⟨ad,e,e1,e2⟩
  ·exact ⟨.inl e⟩
  ·exact ⟨.inr ⟨ad,e,Nat.le_trans hb e1,e2⟩⟩
end
section
open Go.RowKit Go.Shelf
attribute [local go_sem] Oper.semAt_some
def preB (x y:Item):Bool:=decide (x <+: y)
theorem preB_eq {x y:Item}(_h:x.length≤y.length):preB x y=decide (y.take x.length=x):=by
 unfold preB
 rw[decide_eq_decide,List.prefix_iff_eq_take]
 exact eq_comm
theorem preB_short {x y:Item}(h:y.length<x.length):preB x y=false:=by
 unfold preB
 rw[decide_eq_false_iff_not]
 intro e
 have:=e.length_le
 omega
theorem HasPrefix_any (A B:Option Addr) (n c m d:Nat) (y x:Item) (hn:y.length=n) (hm:x.length=m) (hnc:n≤c) (_hn40:n≤1099511627776) (w:World) (hS:Sees w w.heap.size A (bv y)) (hS2:Sees w w.heap.size B (bv x)) :
  Calls Tryz.prog 321 #[.slice A n c,.slice B m d] w fun e w'=>e = .returned (.bool (preB x y))∧w=w':=by
 by_cases h:m≤n
 ·have hpe:=preB_eq (x:=x) (y:=y) (by omega)
  have ht:(y.take m).length=m:=by rw[List.length_take];omega
  have hE:=Lib.hid (BytesEqual_any A B m m c d (y.take m) x ht hm w (by rw[bv_take];exact hS.take m) hS2)
  rw[hm] at hpe
  rw[hpe]
  have i1:(m:Int)≤(n:Int):=by omega
  have i2:(m:Int)≤(c:Int):=by omega
  obtain ⟨b,hb⟩:∃b,decide (y.take m=x)=b:=⟨_,rfl⟩
  rw[hb] at hE ⊢
  clear hpe ht hb hn hm
  go_enter Tryz.func321,Tryz.ntmps321
  go_wp2_with fail
  refine hE.out.mono ?_
  rintro e w1 ⟨rfl,rfl⟩
  go_wp2
  go_ret
  exact ⟨by simp,rfl⟩
 ·rw[preB_short (x:=x) (y:=y) (by omega)]
  have i1:(n:Int)<(m:Int):=by omega
  clear hn hm
  go_enter Tryz.func321,Tryz.ntmps321
  go_wp2
  go_ret
  exact ⟨rfl,rfl⟩
theorem takeWhile_all {p:Item→Bool} : ∀ {l:List Item},(∀z∈l,p z=true)→l.takeWhile p=l
 | [],_=>rfl
 | x :: t,h=>by rw[List.takeWhile_cons,if_pos (h x (by simp)),takeWhile_all fun z hz=>h z (by simp[hz])]
theorem takeWhile_stop {p:Item→Bool} : ∀ {a:List Item}{y:Item}{b:List Item},(∀z∈a,p z=true)→p y=false→(a++y :: b).takeWhile p=a
 | [],y,b,_,h=>by simp[h]
 | x :: t,y,b,h,h2=>by rw[List.cons_append,List.takeWhile_cons,if_pos (h x (by simp)),takeWhile_stop (fun z hz=>h z (by simp[hz])) h2]
theorem Prefix_of (w:World) (p:Option Addr) (Bx:Option Addr) (lx dx:Nat) (x:Item) (hx:Sees w w.heap.size Bx (bv x)) (hxl:x.length=lx) (Y:List Item) (hY:∀y∈Y,y.length≤400) (hYl:Y.length≤2000) (hseq:SeqFrom w p Bx lx dx Y) :
  Calls Tryz.prog 324 #[.pointer p,.slice Bx lx dx] w fun e w'=>∃v,e = .returned v∧OwnS w' w.heap.size v (Y.takeWhile (preB x))∧Below w.heap.size w w':=by
 refine (callsIn_wide (n:=5)).1 ?_
 have HX:=Lib.hid hx
 have HXL:=Lib.hid hxl
 clear hx hxl
 have hF:=fun W=>Lib.hid (from_any p Bx lx dx W)
 refine callsIn_of_wp_marks Tryz.func324 rfl trivial ?_ rfl
 simp only[Tryz.ntmps324,List.size_toArray,List.length_cons,List.length_nil,Nat.reduceAdd,Nat.reduceSub,Array.replicate_succ,Array.replicate_zero,List.push_toArray,List.append_toArray,List.nil_append,List.cons_append]
 gi_wp2_with fail
 refine ⟨trivial,(callsIn_wide.2 (hF _).out).mono ?_⟩
 rintro e w1 ⟨rfl,hw1⟩
 have b0:=Box1.new w 48 (.slice Bx lx dx)
 have b1:=Box1.new (w.alloc (.cells #[.slice Bx lx dx] 48)) 47 (.slice none 0 0)
 have hb0:Below w.heap.size w ((w.alloc (.cells #[.slice Bx lx dx] 48)).alloc (.cells #[.slice none 0 0] 47)):=((Below.refl _ w).alloc (Nat.le_refl _) _).alloc (by simp) _
 have hz0:((w.alloc (.cells #[.slice Bx lx dx] 48)).alloc (.cells #[.slice none 0 0] 47)).heap.size=w.heap.size+1+1:=by simp
 have b0':=b0.alloc (.cells #[.slice none 0 0] 47)
 rw[World.size_alloc] at b1
 generalize (w.alloc (.cells #[.slice Bx lx dx] 48)).alloc (.cells #[.slice none 0 0] 47)=Wa at b0' b1 hb0 hz0 hw1 ⊢
 clear b0
 have b2:=(Box1.new Wa 160 (.pointer p)).alloc (.cells #[.slice Bx lx dx] 48)
 have b3:=Box1.new (Wa.alloc (.cells #[.pointer p] 160)) 48 (.slice Bx lx dx)
 rw[←hw1] at b2 b3
 have hb1:Below Wa.heap.size Wa w1:=by rw[hw1];exact ((Below.refl _ Wa).alloc (Nat.le_refl _) _).alloc (by simp) _
 have hz1:w1.heap.size=w.heap.size+1+1+1+1:=by rw[hw1];simp[hz0]
 rw[World.size_alloc,hz0] at b3
 rw[hz0] at b2
 have c0:=b0'.turn (Turn.of_new (T:=fun _=>False) hb1) (fun h=>h)
 have c1:=b1.turn (Turn.of_new (T:=fun _=>False) hb1) (fun h=>h)
 have hbw:Below w.heap.size w w1:=hb0.trans (hb1.mono (by omega))
 have hD:=hseq w1 (w.heap.size+1+1) (w.heap.size+1+1+1) 4 hbw b2.cell b3.cell (by omega) (by omega)
 clear hw1 b0' b1 hb0 hb1 b2 b3
 rw[hz0]
 gi_wp2_with fail
 refine wpIn_rangeFunc_T (F:=Fence.wide) (n:=5) rfl (by omega) (gf:=215) (lb := #[.pointer (some ⟨w.heap.size+1+1,0,none⟩),.pointer (some ⟨w.heap.size+1+1+1,0,none⟩)]) rfl trivial (enters_of Tryz.func215 (by kernel_rfl) rfl)
  hD (Below.refl _ _) (fun _=>rfl) (fun k hk=>by rcases hk with (hk|rfl|rfl)|hk<;>first|omega|exact hk.elim)
  (fun s pre y A B h hR ht=>fromOk_keep h (by omega) ht)
  (fun s pre W=>(∀k,s k→w.heap.size+1+1+1+1≤k∧k<W.heap.size)∧Below w.heap.size w W∧w1.heap.size≤W.heap.size∧Box1 W w.heap.size 48 (.slice Bx lx dx)∧(∀z∈pre.map (·.1),preB x z=true)∧∃(v:Value) (q:Nat→Prop),Box1 W (w.heap.size+1) 47 v∧OwnQ q W (w1.heap.size+2) v (pre.map (·.1))∧(∀k,q k→(w1.heap.size+2≤k∧k<W.heap.size)∧¬ s k))
  (fun c s pre W=>c = .exit 0∧(∀k,s k→w.heap.size+1+1+1+1≤k∧k<W.heap.size)∧Below w.heap.size w W∧w1.heap.size≤W.heap.size∧(pre.map (·.1)) <+: Y∧∃(v:Value) (q:Nat→Prop),Box1 W (w.heap.size+1) 47 v∧OwnQ q W (w1.heap.size+2) v (Y.takeWhile (preB x))∧(∀k,q k→(w1.heap.size+2≤k∧k<W.heap.size)∧¬ s k))
  ?hI ?hIx ?hI2 ?hIx2 ?h0 (fun y => { tmps := #[.pointer p,.slice Bx lx dx,undef,.pointer (some ⟨w.heap.size,0,none⟩),.slice none 0 0,.pointer (some ⟨w.heap.size+1,0,none⟩),.slice y.2.1 y.1.length y.2.2,.pointer p,.slice Bx lx dx,.func (.func 215) #[] #[.pointer (some ⟨w.heap.size+1+1,0,none⟩),.pointer (some ⟨w.heap.size+1+1+1,0,none⟩)],.slice y.2.1 y.1.length y.2.2,undef,undef,undef,undef,undef,undef,undef,undef,undef,undef],defers := [] }) ?assign ?body ?done ?stop
 case hI =>
  rintro s pre A B ⟨h2,h3,h4,h5,h6,v,q,h7,h8,h9⟩ ht
  have hA:∀k,grown s A B k→w.heap.size+1+1+1+1≤k∧k<B.heap.size:=fun k hk=>by have hz:=ht.size;rcases hk with hk|hk;have:=h2 k hk;omega;omega
  refine ⟨hA,h3.trans (ht.below (fun j hj=>by have:=h2 j hj;omega) h3.size),by have:=ht.size;omega,h5.turn ht (fun e=>by have:=h2 _ e;omega),h6,v,q,h7.turn ht (fun e=>by have:=h2 _ e;omega),h8.keep (Kept.of_turn ht fun k hk=>⟨(h9 k hk).1.2,(h9 k hk).2⟩),fun k hk=>⟨⟨(h9 k hk).1.1,Nat.lt_of_lt_of_le (h9 k hk).1.2 ht.size⟩,fun e => ?_⟩⟩
  rcases e with e|e
  ·exact (h9 k hk).2 e
  ·have:=(h9 k hk).1.2;omega
 case hIx =>
  rintro c s pre A B ⟨h1,h2,h3,h4,h6,v,q,h7,h8,h9⟩ ht
  have hA:∀k,grown s A B k→w.heap.size+1+1+1+1≤k∧k<B.heap.size:=fun k hk=>by have hz:=ht.size;rcases hk with hk|hk;have:=h2 k hk;omega;omega
  refine ⟨h1,hA,h3.trans (ht.below (fun j hj=>by have:=h2 j hj;omega) h3.size),by have:=ht.size;omega,h6,v,q,h7.turn ht (fun e=>by have:=h2 _ e;omega),h8.keep (Kept.of_turn ht fun k hk=>⟨(h9 k hk).1.2,(h9 k hk).2⟩),fun k hk=>⟨⟨(h9 k hk).1.1,Nat.lt_of_lt_of_le (h9 k hk).1.2 ht.size⟩,fun e => ?_⟩⟩
  rcases e with e|e
  ·exact (h9 k hk).2 e
  ·have:=(h9 k hk).1.2;omega
 case hI2 =>
  rintro s pre A B ⟨h2,h3,h4,h5,h6,v,q,h7,h8,h9⟩ ht
  exact ⟨fun k hk=>⟨(h2 k hk).1,Nat.lt_of_lt_of_le (h2 k hk).2 ht.size⟩,h3.trans (ht.below (fun j hj=>by omega) h3.size),by have:=ht.size;omega,h5.turn ht (by omega),h6,v,q,h7.turn ht (by omega),h8.keep (Kept.of_turn ht fun k hk=>⟨(h9 k hk).1.2,by have:=(h9 k hk).1.1;omega⟩),fun k hk=>⟨⟨(h9 k hk).1.1,Nat.lt_of_lt_of_le (h9 k hk).1.2 ht.size⟩,(h9 k hk).2⟩⟩
 case hIx2 =>
  rintro c s pre A B ⟨h1,h2,h3,h4,h6,v,q,h7,h8,h9⟩ ht
  exact ⟨h1,fun k hk=>⟨(h2 k hk).1,Nat.lt_of_lt_of_le (h2 k hk).2 ht.size⟩,h3.trans (ht.below (fun j hj=>by omega) h3.size),by have:=ht.size;omega,h6,v,q,h7.turn ht (by omega),h8.keep (Kept.of_turn ht fun k hk=>⟨(h9 k hk).1.2,by have:=(h9 k hk).1.1;omega⟩),fun k hk=>⟨⟨(h9 k hk).1.1,Nat.lt_of_lt_of_le (h9 k hk).1.2 ht.size⟩,(h9 k hk).2⟩⟩
 case h0=>exact ⟨fun k hk=>hk.elim,hbw,Nat.le_refl _,c0,by simp,_,fun _=>False,c1,OwnQ.nil _ _ _,fun k hk=>hk.elim⟩
 case assign =>
  intro l y W K hK
  dsimp only[Told.vals]
  gi_wp2
  exact hK
 case body =>
  rintro l s pre y W ⟨h2,h3,h4,h5,h6,v,q,hbox,h8,h9⟩ hlt ⟨g1,g2,g3,g4⟩ hdW
  have hc5:=h5.cell
  have hc7:=hbox.cell
  have hf7:=hbox.frozen
  have hpl:pre.length<Y.length:=told_len g3
  have hyY:y.1.length≤400:=hY _ (g3.subset (by simp))
  obtain ⟨Av,cv,rfl,hcv, -⟩:=h8.open_
  obtain ⟨ln,hln⟩:∃ln,(pre.map (·.1)).length=ln:=⟨_,rfl⟩
  rw[hln] at hc7 hbox hcv
  have HLNP:Hid (ln=pre.length):=by unfold Hid;rw[←hln,List.length_map]
  have h8l:OwnQ q W (w1.heap.size+2) (.slice Av ln cv) (pre.map (·.1)):=by rw[←hln];exact h8
  have HLN:=Lib.hid hln
  have HZ1:=Lib.hid hz1
  clear hz1
  have hq:∀k,q k→w1.heap.size+2≤k∧k<W.heap.size:=fun k hk=>(h9 k hk).1
  have hP:=Lib.hid (HasPrefix_any y.2.1 Bx y.1.length y.2.2 lx dx y.1 x rfl HXL.out g2 (by omega) W (g1.sees (fun k hk=>Nat.lt_of_lt_of_le hk g4)) ((HX.out.below h3).more h3.size))
  obtain ⟨bp,hbp⟩:∃bp,preB x y.1=bp:=⟨_,rfl⟩
  rw[hbp] at hP
  cases bp with
  | true =>
   have HBP:=Lib.hid hbp
   obtain ⟨i0,hi0,hz0,hz1',hz2⟩:=info_parts Tryz.sinfo
   obtain ⟨vs,k1',k2',k3⟩:=h8.out
   have k1:=k1'
   have k2:=k2'
   rw[hln] at k1 k2
   have hcl:=fun W (hW:Sees W W.heap.size y.2.1 (bv y.1))=>Lib.hid (bytesClone_any y.2.1 y.1.length y.2.2 y.1 rfl W hW (by omega))
   obtain ⟨yl,hyl⟩:∃yl,y.1.length=yl:=⟨_,rfl⟩
   rw[hyl] at hyY hP
   simp only[hyl] at hcl
   rw[hyl]
   have hgl:∀k,k<w.heap.size→k<W.heap.size:=fun k hk=>Nat.lt_of_lt_of_le hk g4
   have hbW:w1.heap.size+2≤W.heap.size:=hdW
   have hz1:=hz1'
   have hnb:(Value.slice Av ln cv).ownBlock≠some (w.heap.size+1):=fun e=>by have:=(hq _ (k2 _ e)).1;have:=HZ1.out;omega
   have hln2:ln≤2000:=by have:=HLNP.out;omega
   have HYL:=Lib.hid hyl
   clear hyl hln hbp
   gi_wp2_with fail
   refine ⟨trivial,(CallsIn.inRound l (callsIn_wide.2 hP.out)).mono ?_⟩
   rintro e wq ⟨rfl,rfl⟩
   gi_wp2_with fail
   refine wpIn_round_held (S:=fun _=>True) (by kernel_rfl) (by kernel_rfl) ?_ (fun hHeld => ?_)
   ·(trivial)
   have r0:Below W.heap.size W W.drew:=below_drew (Below.refl _ _)
   have c0:=(hbox.below r0 hbox.lt).cell
   have f0:=(hbox.below r0 hbox.lt).frozen
   generalize W.drew=wz0 at r0 c0 f0 hHeld ⊢
   refine tq0 1 hHeld ?_
   try simp only[Act.put,S0,S1,S2]
   refine wpAnyH_ready (rs := [0,2]) (by kernel_rfl) (by simp) ?_
   refine AllReadyH.cons (tqi rfl) (fun K hK => ?_) ?_
   ·go_simp
    refine hK.out _ _ ?_ ?_
    ·(trivial)
    clear hK K hHeld;intro hHeld
    try simp only[Act.put,S0,S1,S2]
    refine wpAnyH_ready (rs := [2]) (by kernel_rfl) (by simp) ?_
    refine AllReadyH.cons (tqi rfl) (fun K hK => ?_) AllReadyH.nil
    go_simp
    refine (hcl wz0 ((g1.keep (Kept.of_below r0 hgl)).sees (fun k hk=>Nat.lt_of_lt_of_le (hgl k hk) r0.size))).out.mono ?_
    rintro en wz1 ⟨vc,rfl,hownc,honc⟩
    have s1:=honc.below_nil
    obtain ⟨Ac,cc,ec,hcc, -, -, -⟩:=hownc.open_
    rw[HYL.out] at ec hcc
    subst ec
    have r1:=r0.trans (s1.mono r0.size)
    have sm1:SeesU (fun k=>W.heap.size≤k∧k<wz1.heap.size) wz1 Ac (bv y.1):=(ownB_seesU hownc).mono fun k e=>⟨Nat.le_trans r0.size e.1,e.2⟩
    have c1:=(hbox.below r1 hbox.lt).cell
    have f1:=(hbox.below r1 hbox.lt).frozen
    go_wp2_with fail
    refine hK.out _ _ ?_ ?_
    ·(trivial)
    clear hK K hHeld;intro hHeld
    try simp only[Act.put,S0,S1,S2]
    refine wpAnyH_ready (rs := [3]) (by kernel_rfl) (by simp) ?_
    refine AllReadyH.cons (tqi rfl) (fun K hK => ?_) AllReadyH.nil
    go_simp
    refine hK.out _ _ ?_ ?_
    ·(trivial)
    clear hK K hHeld;intro hHeld
    try simp only[Act.put,S0,S1,S2]
    have s2:Below wz1.heap.size wz1 (wz1.alloc (.cells #[.slice Ac yl cc] 48)):=(Below.refl _ _).alloc (Nat.le_refl _) _
    have hd2:Sees (wz1.alloc (.cells #[.slice Ac yl cc] 48)) (wz1.alloc (.cells #[.slice Ac yl cc] 48)).heap.size (some ⟨wz1.heap.size,0,none⟩) [.slice Ac yl cc]:=⟨.inr ⟨_,rfl,by simp,fun j u hu=>by match j,hu with|0,hu=>(simp at hu;subst hu;rw[Addr.add_lit,World.cell?_alloc_at _ _ _ _ rfl];rfl)⟩⟩
    obtain ⟨wz2,hwz2⟩:∃wz2,(wz1.alloc (.cells #[.slice Ac yl cc] 48))=wz2:=⟨_,rfl⟩
    rw[hwz2] at s2 hd2 ⊢
    clear hHeld
    have hHeld:True:=trivial
    have r2:=r1.trans (s2.mono r1.size)
    have c2:=(hbox.below r2 hbox.lt).cell
    have f2:=(hbox.below r2 hbox.lt).frozen
    have sm2:=(sm1.keep (Kept.of_below s2 fun k e=>e.2)).mono (m':=fun k=>W.heap.size≤k∧k<wz2.heap.size) fun k e=>⟨e.1,Nat.lt_of_lt_of_le e.2 s2.size⟩
    refine wpAnyH_ready (rs := [4]) (by kernel_rfl) (by simp) ?_
    refine AllReadyH.cons (tqi rfl) (fun K hK => ?_) AllReadyH.nil
    refine step_append_v (by rfl) (.tmp 15) (.tmp 18) 47 (by rfl) 48 i0 _ 1 24 Tryz.underlying47 hi0 hz0 hz1 hz2 rfl (by omega) (w1.heap.size+2) _ _ _ (by rfl) (ownsRow_kept k1 (fun k e=>r2.block k (hq k (k2 k e)).2)) _ (some ⟨wz1.heap.size,0,none⟩) 1 1 [.slice Ac yl cc] (by rfl) rfl hd2 (fun u hu=>by simp at hu;subst hu;rfl) (by simp only[maxLen];omega) (by omega) (Nat.le_trans hbW r2.size) ?_
    intro v' wz3 hown3 hon3
    obtain ⟨gv,cv',rfl⟩:=ownsRow_succ hown3
    have c3:=((hbox.below r2 hbox.lt).turn (Turn.onto (T:=fun k=>_=some k) hon3 fun k e=>e) hnb).cell
    have f3:=((hbox.below r2 hbox.lt).turn (Turn.onto (T:=fun k=>_=some k) hon3 fun k e=>e) hnb).frozen
    refine hK.out _ _ ?_ ?_
    ·(trivial)
    clear hK K hHeld;intro hHeld
    try simp only[Act.put,S0,S1,S2]
    refine wpAnyH_ready (rs := [5]) (by kernel_rfl) (by simp) ?_
    refine AllReadyH.cons (tqi rfl) (fun K hK => ?_) AllReadyH.nil
    go_simp
    refine hK.out _ _ ?_ ?_
    ·(trivial)
    clear hK K hHeld;intro hHeld
    try simp only[Act.put,S0,S1,S2]
    refine wpAnyH_done (by kernel_rfl) ?_ _
    refine Only.normal ?_
    gi_wp2_with fail
    obtain rfl:=HLN.out
    obtain rfl:=HYL.out
    obtain ⟨q',hq',hQ',hB',hT'⟩:=coll_done (wp:=wz2) hbox hq (by have:=HZ1.out;omega) hbW k1' k2' k3 r2 sm2 hcc hown3 hon3
    have hTT:=hT'.mono (T':=fun k=>¬ s k∧¬ (k<w.heap.size∨k=w.heap.size+1+1∨k=w.heap.size+1+1+1)∧k≠w1.heap.size∧k≠w1.heap.size+1) (fun j _ e=>by have hz:=HZ1.out;rcases e with rfl|e;exact ⟨fun e=>by have:=h2 _ e;omega,by omega,by omega,by omega⟩;have h1:=(hq _ (k2' _ e)).1;exact ⟨(h9 _ (k2' _ e)).2,by omega,by omega,by omega⟩)
    have hTb:=hT'.below (b:=w.heap.size) (fun j e=>by rcases e with rfl|e;omega;have h1:=(hq _ (k2' _ e)).1;have hz:=HZ1.out;omega) (by have hz:=HZ1.out;omega)
    have hq2:∀k,q' k→(w1.heap.size+2≤k∧k<_)∧¬ s k:=fun k hk=>by have h1:=hq' k hk;refine ⟨⟨?_,h1.2⟩,fun e => ?_⟩;(rcases h1.1 with g|g;exact (hq k g).1;omega);(rcases h1.1 with g|g;exact (h9 k g).2 e;exact absurd (h2 k e).2 (by omega))
    exact And.intro hTT ⟨fun k hk=>⟨(h2 k hk).1,Nat.lt_of_lt_of_le (h2 k hk).2 hT'.size⟩,h3.trans hTb,Nat.le_trans h4 hT'.size,h5.turn hT' (by rintro (e|e);omega;have h1:=(hq _ (k2' _ e)).1;have hz:=HZ1.out;omega),by intro z hz;rw[List.map_append,List.mem_append] at hz;(rcases hz with hz|hz;exact h6 z hz;simp at hz;rw[hz];exact HBP.out),_,q',hB',by rw[List.map_append];exact hQ',hq2⟩
   refine AllReadyH.cons (tqi rfl) (fun K hK => ?_) AllReadyH.nil
   go_simp
   refine (hcl wz0 ((g1.keep (Kept.of_below r0 hgl)).sees (fun k hk=>Nat.lt_of_lt_of_le (hgl k hk) r0.size))).out.mono ?_
   rintro en wz1 ⟨vc,rfl,hownc,honc⟩
   have s1:=honc.below_nil
   obtain ⟨Ac,cc,ec,hcc, -, -, -⟩:=hownc.open_
   rw[HYL.out] at ec hcc
   subst ec
   have r1:=r0.trans (s1.mono r0.size)
   have sm1:SeesU (fun k=>W.heap.size≤k∧k<wz1.heap.size) wz1 Ac (bv y.1):=(ownB_seesU hownc).mono fun k e=>⟨Nat.le_trans r0.size e.1,e.2⟩
   have c1:=(hbox.below r1 hbox.lt).cell
   have f1:=(hbox.below r1 hbox.lt).frozen
   go_wp2_with fail
   refine hK.out _ _ ?_ ?_
   ·(trivial)
   clear hK K hHeld;intro hHeld
   try simp only[Act.put,S0,S1,S2]
   refine wpAnyH_ready (rs := [0,3]) (by kernel_rfl) (by simp) ?_
   refine AllReadyH.cons (tqi rfl) (fun K hK => ?_) ?_
   ·go_simp
    refine hK.out _ _ ?_ ?_
    ·(trivial)
    clear hK K hHeld;intro hHeld
    try simp only[Act.put,S0,S1,S2]
    refine wpAnyH_ready (rs := [3]) (by kernel_rfl) (by simp) ?_
    refine AllReadyH.cons (tqi rfl) (fun K hK => ?_) AllReadyH.nil
    go_simp
    refine hK.out _ _ ?_ ?_
    ·(trivial)
    clear hK K hHeld;intro hHeld
    try simp only[Act.put,S0,S1,S2]
    have s2:Below wz1.heap.size wz1 (wz1.alloc (.cells #[.slice Ac yl cc] 48)):=(Below.refl _ _).alloc (Nat.le_refl _) _
    have hd2:Sees (wz1.alloc (.cells #[.slice Ac yl cc] 48)) (wz1.alloc (.cells #[.slice Ac yl cc] 48)).heap.size (some ⟨wz1.heap.size,0,none⟩) [.slice Ac yl cc]:=⟨.inr ⟨_,rfl,by simp,fun j u hu=>by match j,hu with|0,hu=>(simp at hu;subst hu;rw[Addr.add_lit,World.cell?_alloc_at _ _ _ _ rfl];rfl)⟩⟩
    obtain ⟨wz2,hwz2⟩:∃wz2,(wz1.alloc (.cells #[.slice Ac yl cc] 48))=wz2:=⟨_,rfl⟩
    rw[hwz2] at s2 hd2 ⊢
    clear hHeld
    have hHeld:True:=trivial
    have r2:=r1.trans (s2.mono r1.size)
    have c2:=(hbox.below r2 hbox.lt).cell
    have f2:=(hbox.below r2 hbox.lt).frozen
    have sm2:=(sm1.keep (Kept.of_below s2 fun k e=>e.2)).mono (m':=fun k=>W.heap.size≤k∧k<wz2.heap.size) fun k e=>⟨e.1,Nat.lt_of_lt_of_le e.2 s2.size⟩
    refine wpAnyH_ready (rs := [4]) (by kernel_rfl) (by simp) ?_
    refine AllReadyH.cons (tqi rfl) (fun K hK => ?_) AllReadyH.nil
    refine step_append_v (by rfl) (.tmp 15) (.tmp 18) 47 (by rfl) 48 i0 _ 1 24 Tryz.underlying47 hi0 hz0 hz1 hz2 rfl (by omega) (w1.heap.size+2) _ _ _ (by rfl) (ownsRow_kept k1 (fun k e=>r2.block k (hq k (k2 k e)).2)) _ (some ⟨wz1.heap.size,0,none⟩) 1 1 [.slice Ac yl cc] (by rfl) rfl hd2 (fun u hu=>by simp at hu;subst hu;rfl) (by simp only[maxLen];omega) (by omega) (Nat.le_trans hbW r2.size) ?_
    intro v' wz3 hown3 hon3
    obtain ⟨gv,cv',rfl⟩:=ownsRow_succ hown3
    have c3:=((hbox.below r2 hbox.lt).turn (Turn.onto (T:=fun k=>_=some k) hon3 fun k e=>e) hnb).cell
    have f3:=((hbox.below r2 hbox.lt).turn (Turn.onto (T:=fun k=>_=some k) hon3 fun k e=>e) hnb).frozen
    refine hK.out _ _ ?_ ?_
    ·(trivial)
    clear hK K hHeld;intro hHeld
    try simp only[Act.put,S0,S1,S2]
    refine wpAnyH_ready (rs := [5]) (by kernel_rfl) (by simp) ?_
    refine AllReadyH.cons (tqi rfl) (fun K hK => ?_) AllReadyH.nil
    go_simp
    refine hK.out _ _ ?_ ?_
    ·(trivial)
    clear hK K hHeld;intro hHeld
    try simp only[Act.put,S0,S1,S2]
    refine wpAnyH_done (by kernel_rfl) ?_ _
    refine Only.normal ?_
    gi_wp2_with fail
    obtain rfl:=HLN.out
    obtain rfl:=HYL.out
    obtain ⟨q',hq',hQ',hB',hT'⟩:=coll_done (wp:=wz2) hbox hq (by have:=HZ1.out;omega) hbW k1' k2' k3 r2 sm2 hcc hown3 hon3
    have hTT:=hT'.mono (T':=fun k=>¬ s k∧¬ (k<w.heap.size∨k=w.heap.size+1+1∨k=w.heap.size+1+1+1)∧k≠w1.heap.size∧k≠w1.heap.size+1) (fun j _ e=>by have hz:=HZ1.out;rcases e with rfl|e;exact ⟨fun e=>by have:=h2 _ e;omega,by omega,by omega,by omega⟩;have h1:=(hq _ (k2' _ e)).1;exact ⟨(h9 _ (k2' _ e)).2,by omega,by omega,by omega⟩)
    have hTb:=hT'.below (b:=w.heap.size) (fun j e=>by rcases e with rfl|e;omega;have h1:=(hq _ (k2' _ e)).1;have hz:=HZ1.out;omega) (by have hz:=HZ1.out;omega)
    have hq2:∀k,q' k→(w1.heap.size+2≤k∧k<_)∧¬ s k:=fun k hk=>by have h1:=hq' k hk;refine ⟨⟨?_,h1.2⟩,fun e => ?_⟩;(rcases h1.1 with g|g;exact (hq k g).1;omega);(rcases h1.1 with g|g;exact (h9 k g).2 e;exact absurd (h2 k e).2 (by omega))
    exact And.intro hTT ⟨fun k hk=>⟨(h2 k hk).1,Nat.lt_of_lt_of_le (h2 k hk).2 hT'.size⟩,h3.trans hTb,Nat.le_trans h4 hT'.size,h5.turn hT' (by rintro (e|e);omega;have h1:=(hq _ (k2' _ e)).1;have hz:=HZ1.out;omega),by intro z hz;rw[List.map_append,List.mem_append] at hz;(rcases hz with hz|hz;exact h6 z hz;simp at hz;rw[hz];exact HBP.out),_,q',hB',by rw[List.map_append];exact hQ',hq2⟩
   refine AllReadyH.cons (tqi rfl) (fun K hK => ?_) AllReadyH.nil
   go_simp
   refine hK.out _ _ ?_ ?_
   ·(trivial)
   clear hK K hHeld;intro hHeld
   try simp only[Act.put,S0,S1,S2]
   have s2:Below wz1.heap.size wz1 (wz1.alloc (.cells #[.slice Ac yl cc] 48)):=(Below.refl _ _).alloc (Nat.le_refl _) _
   have hd2:Sees (wz1.alloc (.cells #[.slice Ac yl cc] 48)) (wz1.alloc (.cells #[.slice Ac yl cc] 48)).heap.size (some ⟨wz1.heap.size,0,none⟩) [.slice Ac yl cc]:=⟨.inr ⟨_,rfl,by simp,fun j u hu=>by match j,hu with|0,hu=>(simp at hu;subst hu;rw[Addr.add_lit,World.cell?_alloc_at _ _ _ _ rfl];rfl)⟩⟩
   obtain ⟨wz2,hwz2⟩:∃wz2,(wz1.alloc (.cells #[.slice Ac yl cc] 48))=wz2:=⟨_,rfl⟩
   rw[hwz2] at s2 hd2 ⊢
   clear hHeld
   have hHeld:True:=trivial
   have r2:=r1.trans (s2.mono r1.size)
   have c2:=(hbox.below r2 hbox.lt).cell
   have f2:=(hbox.below r2 hbox.lt).frozen
   have sm2:=(sm1.keep (Kept.of_below s2 fun k e=>e.2)).mono (m':=fun k=>W.heap.size≤k∧k<wz2.heap.size) fun k e=>⟨e.1,Nat.lt_of_lt_of_le e.2 s2.size⟩
   refine wpAnyH_ready (rs := [0]) (by kernel_rfl) (by simp) ?_
   refine AllReadyH.cons (tqi rfl) (fun K hK => ?_) AllReadyH.nil
   go_simp
   refine hK.out _ _ ?_ ?_
   ·(trivial)
   clear hK K hHeld;intro hHeld
   try simp only[Act.put,S0,S1,S2]
   refine wpAnyH_ready (rs := [4]) (by kernel_rfl) (by simp) ?_
   refine AllReadyH.cons (tqi rfl) (fun K hK => ?_) AllReadyH.nil
   refine step_append_v (by rfl) (.tmp 15) (.tmp 18) 47 (by rfl) 48 i0 _ 1 24 Tryz.underlying47 hi0 hz0 hz1 hz2 rfl (by omega) (w1.heap.size+2) _ _ _ (by rfl) (ownsRow_kept k1 (fun k e=>r2.block k (hq k (k2 k e)).2)) _ (some ⟨wz1.heap.size,0,none⟩) 1 1 [.slice Ac yl cc] (by rfl) rfl hd2 (fun u hu=>by simp at hu;subst hu;rfl) (by simp only[maxLen];omega) (by omega) (Nat.le_trans hbW r2.size) ?_
   intro v' wz3 hown3 hon3
   obtain ⟨gv,cv',rfl⟩:=ownsRow_succ hown3
   have c3:=((hbox.below r2 hbox.lt).turn (Turn.onto (T:=fun k=>_=some k) hon3 fun k e=>e) hnb).cell
   have f3:=((hbox.below r2 hbox.lt).turn (Turn.onto (T:=fun k=>_=some k) hon3 fun k e=>e) hnb).frozen
   refine hK.out _ _ ?_ ?_
   ·(trivial)
   clear hK K hHeld;intro hHeld
   try simp only[Act.put,S0,S1,S2]
   refine wpAnyH_ready (rs := [5]) (by kernel_rfl) (by simp) ?_
   refine AllReadyH.cons (tqi rfl) (fun K hK => ?_) AllReadyH.nil
   go_simp
   refine hK.out _ _ ?_ ?_
   ·(trivial)
   clear hK K hHeld;intro hHeld
   try simp only[Act.put,S0,S1,S2]
   refine wpAnyH_done (by kernel_rfl) ?_ _
   refine Only.normal ?_
   gi_wp2_with fail
   obtain rfl:=HLN.out
   obtain rfl:=HYL.out
   obtain ⟨q',hq',hQ',hB',hT'⟩:=coll_done (wp:=wz2) hbox hq (by have:=HZ1.out;omega) hbW k1' k2' k3 r2 sm2 hcc hown3 hon3
   have hTT:=hT'.mono (T':=fun k=>¬ s k∧¬ (k<w.heap.size∨k=w.heap.size+1+1∨k=w.heap.size+1+1+1)∧k≠w1.heap.size∧k≠w1.heap.size+1) (fun j _ e=>by have hz:=HZ1.out;rcases e with rfl|e;exact ⟨fun e=>by have:=h2 _ e;omega,by omega,by omega,by omega⟩;have h1:=(hq _ (k2' _ e)).1;exact ⟨(h9 _ (k2' _ e)).2,by omega,by omega,by omega⟩)
   have hTb:=hT'.below (b:=w.heap.size) (fun j e=>by rcases e with rfl|e;omega;have h1:=(hq _ (k2' _ e)).1;have hz:=HZ1.out;omega) (by have hz:=HZ1.out;omega)
   have hq2:∀k,q' k→(w1.heap.size+2≤k∧k<_)∧¬ s k:=fun k hk=>by have h1:=hq' k hk;refine ⟨⟨?_,h1.2⟩,fun e => ?_⟩;(rcases h1.1 with g|g;exact (hq k g).1;omega);(rcases h1.1 with g|g;exact (h9 k g).2 e;exact absurd (h2 k e).2 (by omega))
   exact And.intro hTT ⟨fun k hk=>⟨(h2 k hk).1,Nat.lt_of_lt_of_le (h2 k hk).2 hT'.size⟩,h3.trans hTb,Nat.le_trans h4 hT'.size,h5.turn hT' (by rintro (e|e);omega;have h1:=(hq _ (k2' _ e)).1;have hz:=HZ1.out;omega),by intro z hz;rw[List.map_append,List.mem_append] at hz;(rcases hz with hz|hz;exact h6 z hz;simp at hz;rw[hz];exact HBP.out),_,q',hB',by rw[List.map_append];exact hQ',hq2⟩
  | false =>
   have HBP:=Lib.hid hbp
   clear hbp hln
   gi_wp2_with fail
   refine ⟨trivial,(CallsIn.inRound l (callsIn_wide.2 hP.out)).mono ?_⟩
   rintro e wq ⟨rfl,rfl⟩
   gi_wp2_with fail
   refine ⟨Turn.refl _ _,rfl,h2,h3,h4,?_,_,q,hbox,?_,h9⟩
   ·rw[List.map_append];exact g3
   ·obtain ⟨t,ht⟩:=g3
    have htw:Y.takeWhile (preB x)=pre.map (·.1):=by
     rw[←ht,List.append_assoc]
     exact takeWhile_stop h6 HBP.out
    rw[htw]
    exact h8l
 case done =>
  rintro s xs W hS ⟨h2,h3,h4,h5,h6,v,q,hbox,h8,h9⟩ hK
  have hc7:=hbox.cell
  have hxs:xs.map (·.1)=Y:=hS
  rw[hxs] at h8
  have hlen:Y.takeWhile (preB x)=Y:=takeWhile_all (by rw[←hxs];exact h6)
  rw[←hlen] at h8
  obtain ⟨Av,cv,rfl,hcv, -⟩:=h8.open_
  have HZ1:=Lib.hid hz1
  have hpt:=Turn.putObj W w1.heap.size (.deferred none) (T:=fun k=>k=w1.heap.size) rfl
  have hres:=(h8.keep (Kept.of_turn hpt fun k hk=>⟨(h9 k hk).1.2,by have:=(h9 k hk).1.1;omega⟩)).toS (fun k hk=>⟨(h9 k hk).1.1,by rw[World.putObj_size];exact (h9 k hk).1.2⟩)
  have hbel:=h3.trans (hpt.below (b:=w.heap.size) (fun j hj=>by omega) h3.size)
  have hres2:OwnS (W.putObj w1.heap.size (.deferred none)) w.heap.size (.slice Av (Y.takeWhile (preB x)).length cv) (Y.takeWhile (preB x)):=by
   exact OwnS.base_le hres (by omega)
  obtain ⟨lz,hlz⟩:∃lz,(Y.takeWhile (preB x)).length=lz:=⟨_,rfl⟩
  rw[hlz] at hc7 hres2
  clear hz1 hlz
  gi_wp2_with fail
  refine ⟨by simp,.inl ⟨_,_,rfl,run_takeDeferred hK,?_⟩⟩
  exact ⟨_,results_tmp rfl _ _ _,.slice Av lz cv,rfl,hres2,hbel⟩
 case stop =>
  rintro c s pre W hS ⟨rfl,h2,h3,h4,h6,v,q,hbox,h8,h9⟩ hK
  have hc7:=hbox.cell
  obtain ⟨Av,cv,rfl,hcv, -⟩:=h8.open_
  have HZ1:=Lib.hid hz1
  have hpt:=Turn.putObj W w1.heap.size (.deferred none) (T:=fun k=>k=w1.heap.size) rfl
  have hres:=(h8.keep (Kept.of_turn hpt fun k hk=>⟨(h9 k hk).1.2,by have:=(h9 k hk).1.1;omega⟩)).toS (fun k hk=>⟨(h9 k hk).1.1,by rw[World.putObj_size];exact (h9 k hk).1.2⟩)
  have hbel:=h3.trans (hpt.below (b:=w.heap.size) (fun j hj=>by omega) h3.size)
  have hres2:OwnS (W.putObj w1.heap.size (.deferred none)) w.heap.size (.slice Av (Y.takeWhile (preB x)).length cv) (Y.takeWhile (preB x)):=OwnS.base_le hres (by omega)
  obtain ⟨lz,hlz⟩:∃lz,(Y.takeWhile (preB x)).length=lz:=⟨_,rfl⟩
  rw[hlz] at hc7 hres2
  clear hz1 hlz
  gi_wp2_with fail
  refine ⟨by simp,.inl ⟨_,_,rfl,run_takeDeferred hK,?_⟩⟩
  exact ⟨_,results_tmp rfl _ _ _,.slice Av lz cv,rfl,hres2,hbel⟩
end
section
open Go.RowKit Go.Shelf
attribute [local go_sem] Oper.semAt_some
def framesL:Nat→List UInt8→List (Item×Nat)
 | 0,_ => []
 | f+1,b=>if (fnext b).2.2.2≠0 then [([],(fnext b).2.2.2)] else if (fnext b).1≠1 then [] else ((fnext b).2.1,0) :: framesL f (fnext b).2.2.1
theorem fnext_ok {b:List UInt8}(h:(fnext b).2.2.2=0):(fnext b).2.2.1.length<b.length∧(fnext b).2.1.length<b.length:=by
 cases b with
 | nil=>simp[fnext] at h
 | cons k t =>
  simp only[fnext] at h ⊢
  split at h
  ·rename_i h1;exact absurd h h1
  ·rename_i h1
   rw[if_neg h1]
   split at h
   ·simp at h
   ·rename_i h2
    rw[if_neg h2]
    split at h
    ·simp at h
    ·rename_i h3
     rw[if_neg h3]
     split at h
     ·rename_i h4
      rw[if_pos h4]
      simp only[List.length_drop,List.length_take,List.length_cons] at *
      omega
     ·simp at h
theorem framesL_fuel:∀(f f' : Nat) (b:List UInt8),b.length<f→b.length<f'→framesL f b=framesL f' b
 | 0,_,_,h,_=>by omega
 | _,0,_,_,h=>by omega
 | f+1,f' + 1,b,h,h'=>by
  simp only[framesL]
  split
  ·rfl
  ·rename_i he
   split
   ·rfl
   ·have h1:=(fnext_ok (b:=b) (by omega)).1
    rw[framesL_fuel f f' _ (by omega) (by omega)]
abbrev Framed:=(Item×Nat)×(Option Addr×Nat)
def Framed.vals (y:Framed):Array Value := #[.slice y.2.1 y.1.1.length y.2.2,.int .i64 (y.1.2:Nat)]
def FrameOk (n0:Nat) (L:List (Item×Nat)) (s:Nat→Prop) (pre:List Framed) (y:Framed) (W:World):Prop :=
 SeesM (fun k=>s k∧k<W.heap.size) W y.2.1 (bv y.1.1)∧y.1.1.length≤y.2.2∧(pre.map (·.1) ++ [y.1]) <+: L∧n0≤W.heap.size
theorem frames_any (B:Option Addr) (n c:Nat) (w:World):Calls Tryz.prog 153 #[.slice B n c] w fun e w' =>
  e = .returned (.func (.func 211) #[] #[.pointer (some ⟨w.heap.size,0,none⟩)])∧w'=w.alloc (.cells #[.slice B n c] 48):=by
 go_enter Tryz.func153,Tryz.ntmps153
 go_wp2
 go_ret
 exact ⟨rfl,rfl⟩
theorem mine_seesM {w:World}{base:Nat}{A:Option Addr}{l:List UInt8}(h:Mine w base A l):SeesM (fun k=>base≤k∧k<w.heap.size) w A (bv l):=by
 rcases h.out with e|⟨g,o,e,hb,hc⟩
 ·subst e;exact ⟨.inl rfl⟩
 ·by_cases hl:l = []
  ·subst hl;exact ⟨.inl rfl⟩
  ·have h0:=(hc 0 (by cases l with|nil=>exact absurd rfl hl|cons a t=>simp)).1
   refine ⟨.inr ⟨_,e,⟨hb,by have:=World.block_lt_of_cell? w _ h0;simpa using this⟩,fun j u hu => ?_⟩⟩
   have hj:j<l.length:=by
    have:=(List.getElem?_eq_some_iff.1 hu).1
    rwa [bv_length] at this
   rw[Addr.add_lit,(hc j hj).1]
   rw[bv_at l j hj] at hu
   exact hu
theorem frames1_seq {w:World}{b:List UInt8}{A:Option Addr}{nb c:Nat}(n0:Nat) (hb:Sees w n0 A (bv b)) (hbl:b.length=nb) (hbc:nb≤c) (hb6:nb≤1000000) (hH:Halves w) (hg0:1+1≤n0) (B0:Nat) (h1:Box1 w B0 48 (.slice A nb c)) (hn0:n0≤B0) (n:Nat) :
  SeqT Fence.wide n Tryz.prog 211 #[.pointer (some ⟨B0,0,none⟩)] Framed.vals (fun k=>k<n0) (fun k=>k=B0) (FrameOk n0 (framesL (nb+1) b)) (fun xs=>xs.map (·.1)=framesL (nb+1) b) (fun pre=>pre.map (·.1) <+: framesL (nb+1) b) (framesL (nb+1) b).length w:=by
 intro l J Jx W hW hJ hJx hY h0
 have hB0:=h1.lt
 have hbW:SeesM (fun k=>k<n0) W A (bv b):=hb.toM.keep (Kept.of_below hW fun k hk=>by omega)
 have h1W:=h1.below hW hB0
 have hHW:=hH.below hW (by omega)
 have hsW:=hW.size
 clear hb h1 hH hW
 obtain ⟨L,hL⟩:∃L,framesL (nb+1) b=L:=⟨_,rfl⟩
 rw[hL] at hY ⊢
 have HL:=Lib.hid hL
 have HBL:=Lib.hid hbl
 clear hL hbl
 refine callsIn_of_wp Tryz.func211 rfl trivial ?_ rfl
 simp only[Tryz.ntmps211,List.size_toArray,List.length_cons,List.length_nil,Nat.reduceAdd,Nat.reduceSub,Array.replicate_succ,Array.replicate_zero,List.push_toArray,List.append_toArray,List.nil_append,List.cons_append]
 gi_wp2_with fail
 gi_loopg [3] nb (fun g _ wr=>∃(r:List UInt8) (Ar:Option Addr) (cr:Nat) (s:Nat→Prop) (pre:List Framed),r.length=g∧g≤nb∧g≤cr∧J s pre wr∧Box1 wr B0 48 (.slice Ar g cr)∧SeesM (fun k=>s k∨k<n0) wr Ar (bv r)∧Halves wr∧s B0∧(∀k,s k→k<wr.heap.size)∧n0≤wr.heap.size∧Hid (L=pre.map (·.1)++framesL (g+1) r))
 case atStart=>exact ⟨b,A,c,_, [],HBL.out,Nat.le_refl _,hbc,h0,h1W,hbW.mono fun k e => .inr e,hHW,rfl,fun k e=>by subst e;omega,by omega,HL.out.symm⟩
 case round =>
  obtain ⟨r,Ar,cr,s,pre,hr,hgn,hgc,hJs,hbx,hsee,hHr,hsB,hsl,hnr,heq⟩:=hrel
  have hcb:=hbx.cell
  have hfb:=hbx.frozen
  have hN:=Lib.hid (Next_any Ar gk cr r hr hgc wr (hsee.sees (fun k e=>by rcases e with e|e;exact hsl k e;omega)) hHr (by omega))
  obtain ⟨kd,bd,rs,e,hf⟩:∃kd bd rs e,fnext r=(kd,bd,rs,e):=⟨_,_,_,_,rfl⟩
  have hok:=fnext_ok (b:=r)
  have hst:framesL (gk+1) r=if e≠0 then [([],e)] else if kd≠1 then [] else (bd,0) :: framesL gk rs:=by
   simp only[framesL,hf]
  rw[hf] at hN hok
  rw[hst] at heq
  unfold NextIs at hN
  simp only at hN hok
  have HOK:=Lib.hid hok
  have HR:=Lib.hid hr
  clear hok hf hst hr
  have hB0r:=hbx.lt
  gi_wp2_with fail
  refine ⟨trivial,fun h=>absurd h (by simp[Fence.wide]),(callsIn_wide.2 hN.out).mono ?_⟩
  rintro en w1 ⟨A1,n1,c1,v1,rfl,hbd,hbdc,hmine,hown,hb1⟩
  clear hN
  have hs1:=hb1.size
  have hJ1:=hJ _ _ _ _ hJs (Turn.of_new hb1)
  have hH1:=hHr.below hb1 (by omega)
  have hbx1:=hbx.below hb1 hB0r
  have hsl1:∀k,grown s wr w1 k→k<w1.heap.size:=fun k hk=>by rcases hk with hk|hk;have:=hsl k hk;omega;exact hk.2
  have hok1:SeesM (fun k=>grown s wr w1 k∧k<w1.heap.size) w1 A1 (bv bd):=(mine_seesM hmine).mono fun k hk=>⟨.inr hk,hk.2⟩
  obtain ⟨A2,c2,e2,hc2, -, -, -⟩:=hown.open_
  have hs2:SeesM (fun k=>grown s wr w1 k) w1 A2 (bv rs):=by
   rw[e2] at hown
   exact (ownB_seesM hown).mono fun k hk => .inr hk
  have hs2' : SeesM (fun k=>grown s wr w1 k∧k≠B0) w1 A2 (bv rs):=by
   rw[e2] at hown
   exact (ownB_seesM hown).mono fun k hk=>⟨.inr hk,by omega⟩
  obtain ⟨n2,hn2⟩:∃n2,rs.length=n2:=⟨_,rfl⟩
  rw[hn2] at e2 hc2
  subst e2
  have HN2:=Lib.hid hn2
  have HBD:=Lib.hid hbd
  have hgs:grown s wr w1 B0 := .inl hsB
  clear hn2 hbd hJs hown hmine hbx hcb hfb
  generalize hgen:grown s wr w1=s1 at *
  clear hgen
  by_cases he:e=0
  ·subst he
   have hke:((0:Nat):Int)=0:=rfl
   rw[if_neg (by simp)] at heq
   by_cases hk1:kd=1
   ·subst hk1
    rw[if_neg (by simp)] at heq
    have hlt:n2<gk:=by have:=(HOK.out rfl).1;have h1:=HR.out;have h2:=HN2.out;omega
    have hp:(pre.map (·.1) ++ [(bd,0)]) <+: L:=by
     rw[heq.out,show pre.map (·.1)++(bd,0) :: framesL gk rs=(pre.map (·.1) ++ [(bd,0)])++framesL gk rs from by simp]
     exact List.prefix_append _ _
    have hfr:Hid (framesL gk rs=framesL (n2+1) rs):=framesL_fuel _ _ _ (by rw[HN2.out];exact hlt) (by rw[HN2.out];omega)
    have hY1:=hY s1 pre ((bd,0),(A1,c1)) w1 hJ1 (by have:=hp.length_le;rw[List.length_append,List.length_map,List.length_singleton] at this;omega) ⟨hok1,by show bd.length≤c1;rw[HBD.out];exact hbdc,hp,by omega⟩
    obtain ⟨fn,tmps,assign,body,hyy,hR⟩:=hY1
    dsimp only[Framed.vals] at hyy
    rw[HBD.out] at hyy
    have hyy' : (Instr.yield l #[.slice A1 n1 c1,.int .i64 0]).run Tryz.prog w1=_:=hyy
    have HP:=Lib.hid hp
    have HQ:=Lib.hid heq
    clear hp hyy heq
    gi_wp2_with fail
    refine ⟨fun h=>absurd h (by simp[Fence.wide]),hR.mono ?_⟩
    rintro e w4 (⟨rfl,hJ4,ht4⟩|⟨rfl,hJx4, -⟩)
    ·have hk4:Kept (fun k=>s1 k∨k<n0) w1 w4:=Kept.of_turn ht4 (fun k hk=>⟨by rcases hk with hk|hk;exact hsl1 k hk;omega,fun e=>by rcases hk with hk|hk;exact e.1 hk;exact e.2 hk⟩)
     have hbx4:Box1 w4 B0 48 (.slice Ar gk cr):=hbx1.turn ht4 (fun e=>e.1 hgs)
     have hcb4:=hbx4.cell
     have hfb4:=hbx4.frozen
     have hs4:=ht4.size
     have hT5:Turn s1 w4 (w4.setCell ⟨B0,0,none⟩ (.slice A2 n2 c2)):=Turn.setCell _ _ _ hgs
     have hJ5:=hJ _ _ _ _ hJ4 hT5
     have hbx5:=hbx4.set (.slice A2 n2 c2)
     have hk5:Kept (fun k=>(s1 k∨k<n0)∧k≠B0) w4 (w4.setCell ⟨B0,0,none⟩ (.slice A2 n2 c2)):=fun k hk=>Below.heap_setCell _ _ _ _ hk.2
     have hs5:SeesM (fun k=>grown s1 w4 (w4.setCell ⟨B0,0,none⟩ (.slice A2 n2 c2)) k∨k<n0) (w4.setCell ⟨B0,0,none⟩ (.slice A2 n2 c2)) A2 (bv rs):=by
      have h1:=hs2'.keep (hk4.mono fun k e => .inl e.1)
      exact (h1.keep (hk5.mono fun k e=>⟨.inl e.1,e.2⟩)).mono fun k e => .inl (.inl e.1)
     have hH5:Halves (w4.setCell ⟨B0,0,none⟩ (.slice A2 n2 c2)):=by
      refine ⟨by rw[World.size_setCell];have:=hH1.1;omega,fun i hi => ?_⟩
      have h1:=hH1.2 i hi
      rw[←h1]
      exact (hk5.cell (p:=⟨1,i,none⟩) ⟨.inr (by simp only;omega),by simp only;omega⟩).trans (hk4.cell (p:=⟨1,i,none⟩) (.inr (by simp only;omega)))
     gi_wp2_with fail
     gi_roundg n2
     case measure=>omega
     case rel=>exact ⟨rs,A2,c2,_,pre ++ [((bd,0),(A1,c1))],HN2.out,by omega,hc2,hJ5,hbx5,hs5,hH5,.inl hgs,fun k hk=>by rw[World.size_setCell];rcases hk with hk|hk;have:=hsl1 k hk;omega;have:=hk.2;rw[World.size_setCell] at this;exact this,by rw[World.size_setCell];omega,by unfold Hid;rw[HQ.out,hfr.out,List.map_append,List.append_assoc];rfl⟩
    ·gi_wp2_with fail
     refine bodyPost_ret (results_none rfl _ _ _) rfl ?_
     exact ⟨⟨_,rfl⟩,.inr ⟨s1,_,by rw[List.map_append];exact HP.out,hJx4⟩⟩
   ·have hkz:((kd:Int) != 1)=true:=by rw[bne_iff_ne];omega
    rw[if_pos hk1,List.append_nil] at heq
    have HQ:=Lib.hid heq
    clear heq hk1
    gi_wp2_with fail
    refine ⟨fun _ _=>trivial,?_⟩
    gi_wp2_with fail
    refine bodyPost_ret (results_none rfl _ _ _) rfl ?_
    exact ⟨⟨_,rfl⟩,.inl ⟨s1,pre,HQ.out.symm,hJ1⟩⟩
  ·have hez:((e:Int) != 0)=true:=by rw[bne_iff_ne];omega
   rw[if_pos he] at heq
   have hp:(pre.map (·.1) ++ [([],e)]) <+: L:=by rw[heq];exact List.prefix_refl _
   have hY1:=hY s1 pre (([],e),(none,0)) w1 hJ1 (by have:=hp.length_le;rw[List.length_append,List.length_map,List.length_singleton] at this;omega) ⟨⟨.inl rfl⟩,Nat.le_refl _,hp,by omega⟩
   obtain ⟨fn,tmps,assign,body,hyy,hR⟩:=hY1
   have hyy' : (Instr.yield l #[.slice none 0 0,.int .i64 (e:Int)]).run Tryz.prog w1=_:=hyy
   have HQ:=Lib.hid heq
   clear hp hyy heq he
   gi_wp2_with fail
   refine ⟨fun h=>absurd h (by simp[Fence.wide]),hR.mono ?_⟩
   rintro e w4 (⟨rfl,hJ4,ht4⟩|⟨rfl,hJx4, -⟩)
   ·gi_wp2_with fail
    refine bodyPost_ret (results_none rfl _ _ _) rfl ?_
    exact ⟨⟨_,rfl⟩,.inl ⟨s1,_,by show List.map _ _=L;rw[HQ.out,List.map_append];rfl,hJ4⟩⟩
   ·gi_wp2_with fail
    refine bodyPost_ret (results_none rfl _ _ _) rfl ?_
    exact ⟨⟨_,rfl⟩,.inr ⟨s1,_,by rw[List.map_append,HQ.out];exact List.prefix_refl _,hJx4⟩⟩
end
end Go.Proofs.YtalmnodgjjcefaaGreatDoor
