/- Several texts in one: KmCountI KmCnt1I KmIntsP KmInts. -/
import Derived.Test.YtalmnodgjjcefaaGreatDoorJKmI
import Derived.Test.YtalmnodgjjcefaaGreatDoorJKmB
import Derived.Test.YtalmnodgjjcefaaGreatDoorJIpB
set_option maxRecDepth 100000
set_option maxHeartbeats 3200000
namespace Go.Proofs.YtalmnodgjjcefaaGreatDoor
namespace KI
open Go.RowKit Go.Shelf
structure Cnt (J:(Nat→Prop)→List (El×Nat)→World→Prop) (K:List Key) (n0 base l:Nat) (m0:Nat→Prop) (W:World) (s:Nat→Prop) (pre:List El) (w:World):Prop where
 out:∃(s2:Nat→Prop) (op:List (El×Nat)) (a:El) (m:Nat) (va:Value),J s2 op w∧Box1 w base 192 (.func (.yield l) #[] #[])∧Box1 w (base+1) 3 va∧Box1 w (base+2) 3 (.int .i64 (m:Nat))∧(1≤m→va=val a∧EOk (fun k=>k<n0) w a)∧CntI key K op a m pre∧(∀k,s k→s2 k)∧(∀k,base≤k→k<base+7→k<w.heap.size→s2 k)
 kept:Kept m0 W w
 size:base+5≤w.heap.size
 sep:∀k,s k→base+5≤k
structure CntX (Jx:(Nat→Prop)→List (El×Nat)→World→Prop) (K:List Key) (base:Nat) (s:Nat→Prop) (w:World):Prop where
 out:∃(s2:Nat→Prop) (op:List (El×Nat)),Jx s2 op w∧op.map (tk key) <+: runs K∧(∀k,s k→s2 k)∧(∀k,base≤k→k<base+7→k<w.heap.size→s2 k)
 size:base+5≤w.heap.size
 sep:∀k,s k→base+5≤k
section
variable {J Jx : (Nat → Prop) → List (El × Nat) → World → Prop} {K : List Key} {n0 base l : Nat} {m0 s s' T : Nat → Prop} {W A B : World} {pre : List El}
theorem Cnt.step (hJ:∀s pre A B,J s pre A→Turn s A B→J (grown s A B) pre B) (h:Cnt J K n0 base l m0 W s pre A) (hn0:n0≤base) (hm0:∀k,m0 k→k<base) (ht:Turn T A B)
  (hT:∀k,T k→s k∨(base+5≤k∧k<base+7)) (hs:∀k,s' k→s k∨(A.heap.size≤k∧k<B.heap.size)):Cnt J K n0 base l m0 W s' pre B:=by
 obtain ⟨s2,op,a,m,va,h1,h2,h3,h4,h5,h6,h7,h8⟩:=h.out
 have h5T:∀k,T k→base+5≤k:=fun k e=>by rcases hT k e with e|e;exact h.sep k e;exact e.1
 have ht2:Turn s2 A B:=ht.mono fun k hk e=>by rcases hT k e with e|e;exact h7 k e;exact h8 k (by omega) e.2 hk
 have hz:=ht.size
 have hz5:=h.size
 refine ⟨⟨grown s2 A B,op,a,m,va,hJ _ _ _ _ h1 ht2,h2.turn ht (fun e=>by have:=h5T _ e;omega),h3.turn ht (fun e=>by have:=h5T _ e;omega),h4.turn ht (fun e=>by have:=h5T _ e;omega),fun hm=>⟨(h5 hm).1,(h5 hm).2.keep (Kept.of_turn ht fun k hk=>⟨by omega,fun e=>by have:=h5T _ e;omega⟩)⟩,h6,fun k e => ?_,fun k a b c => ?_⟩,
  h.kept.trans (Kept.of_turn ht fun k hk=>⟨by have:=hm0 k hk;omega,fun e=>by have:=h5T _ e;have:=hm0 k hk;omega⟩),by omega,fun k e => ?_⟩
 ·rcases hs k e with e|e
  ·exact .inl (h7 k e)
  ·exact .inr e
 ·by_cases hk:k<A.heap.size
  ·exact .inl (h8 k a b hk)
  ·exact .inr ⟨by omega,c⟩
 ·rcases hs k e with e|e
  ·exact h.sep k e
  ·omega
theorem CntX.step (hJx:∀s pre A B,Jx s pre A→Turn s A B→Jx (grown s A B) pre B) (h:CntX Jx K base s A) (ht:Turn T A B)
  (hT:∀k,T k→s k∨(base+5≤k∧k<base+7)) (hs:∀k,s' k→s k∨(A.heap.size≤k∧k<B.heap.size)):CntX Jx K base s' B:=by
 obtain ⟨s2,op,h1,h2,h7,h8⟩:=h.out
 have ht2:Turn s2 A B:=ht.mono fun k hk e=>by rcases hT k e with e|e;exact h7 k e;exact h8 k (by omega) e.2 hk
 have hz:=ht.size
 have hz5:=h.size
 refine ⟨⟨grown s2 A B,op,hJx _ _ _ _ h1 ht2,h2,fun k e => ?_,fun k a b c => ?_⟩,by omega,fun k e => ?_⟩
 ·rcases hs k e with e|e
  ·exact .inl (h7 k e)
  ·exact .inr e
 ·by_cases hk:k<A.heap.size
  ·exact .inl (h8 k a b hk)
  ·exact .inr ⟨by omega,c⟩
 ·rcases hs k e with e|e
  ·exact h.sep k e
  ·omega
theorem cnt_store (hJ:∀s pre A B,J s pre A→Turn s A B→J (grown s A B) pre B) {s2:Nat→Prop}{op:List (El×Nat)}{x:El}{m:Nat}{va vm:Value}(hn0:n0≤base) (hm0:∀k,m0 k→k<base)
  (h1:J s2 op A) (h2:Box1 A base 192 (.func (.yield l) #[] #[])) (h3:Box1 A (base+1) 3 va) (h4:Box1 A (base+2) 3 vm) (h5:EOk (fun k=>k<n0) A x) (h6:CntI key K op x m pre)
  (h7:∀k,s k→s2 k) (h8:∀k,base≤k→k<base+7→k<A.heap.size→s2 k) (h9:Kept m0 W A) (h10:base+5≤A.heap.size) (h11:∀k,s k→base+5≤k) :
  Cnt J K n0 base l m0 W s pre ((A.setCell ⟨base+1,0,none⟩ (val x)).setCell ⟨base+2,0,none⟩ (.int .i64 (m:Nat)))∧Turn (fun k=>k=base+1∨k=base+2) A ((A.setCell ⟨base+1,0,none⟩ (val x)).setCell ⟨base+2,0,none⟩ (.int .i64 (m:Nat))):=by
 have ht:Turn (fun k=>k=base+1∨k=base+2) A ((A.setCell ⟨base+1,0,none⟩ (val x)).setCell ⟨base+2,0,none⟩ (.int .i64 (m:Nat))):=(Turn.setCell _ _ _ (.inl rfl)).trans (Turn.setCell _ _ _ (.inr rfl))
 have ht2:Turn s2 A ((A.setCell ⟨base+1,0,none⟩ (val x)).setCell ⟨base+2,0,none⟩ (.int .i64 (m:Nat))):=ht.mono fun k hk e=>h8 k (by omega) (by omega) hk
 have hz:((A.setCell ⟨base+1,0,none⟩ (val x)).setCell ⟨base+2,0,none⟩ (.int .i64 (m:Nat))).heap.size=A.heap.size:=by simp
 refine ⟨⟨⟨grown s2 A _,op,x,m,val x,hJ _ _ _ _ h1 ht2,h2.turn ht (by omega),(h3.set (val x)).turn (Turn.setCell (T:=fun k=>k=base+2) _ _ _ rfl) (by omega),(h4.turn (Turn.setCell (T:=fun k=>k=base+1) A ⟨base+1,0,none⟩ (val x) rfl) (by omega)).set _,fun _=>⟨rfl,h5.keep (Kept.of_turn ht fun k hk=>⟨by omega,by omega⟩)⟩,h6,fun k e => .inl (h7 k e),fun k a b c => .inl (h8 k a b (by omega))⟩,h9.trans (Kept.of_turn ht fun k hk=>⟨by have:=hm0 k hk;omega,by have:=hm0 k hk;omega⟩),by omega,h11⟩,ht⟩
end
theorem counted_any (A:Option Addr) (n c:Nat) (w:World):Calls Tryz.prog 96 #[.slice A n c,.func (.func cmpF) #[] #[]] w fun e w' =>
  e = .returned (.func (.func 140) #[] #[.pointer (some ⟨w.heap.size,0,none⟩),.pointer (some ⟨w.heap.size+1,0,none⟩)])∧w'=(w.alloc (.cells #[.slice A n c] 146)).alloc (.cells #[.func (.func cmpF) #[] #[]] 150):=by
 go_enter Tryz.func96,Tryz.ntmps96
 go_wp2
 go_ret
 exact ⟨rfl,rfl⟩
end KI
namespace KI
open Go.RowKit Go.Shelf
attribute [local go_sem] Oper.semAt_some
def CntOk (n0:Nat) (K:List Key) (_:Nat→Prop) (pre:List (El×Nat)) (y:El×Nat) (W:World):Prop :=
 EOk (fun k=>k<n0) W y.1∧(pre.map (tk key) ++ [tk key y]) <+: runs K∧n0≤W.heap.size∧y.2≤K.length
theorem ctold_lt {pre:List (El×Nat)}{y:El×Nat}{K:List Key}(h:(pre.map (tk key) ++ [tk key y]) <+: runs K):pre.length<(runs K).length:=by
 have:=h.length_le
 rw[List.length_append,List.length_map,List.length_singleton] at this
 omega
theorem allOk_keep {n0 D:Nat}{K:List Key}{s:Nat→Prop}{pre:List El}{x:El}{A B:World}(h:AllOk n0 K s pre x A) (hn0:n0≤D) (ht:Turn (fun k=>k=D∨k=D+1) A B):AllOk n0 K s pre x B :=
 ⟨h.1.keep (Kept.of_turn ht fun k hk=>⟨Nat.lt_of_lt_of_le hk h.2.2,by rintro (e|e)<;>omega⟩),h.2.1,Nat.le_trans h.2.2 ht.size⟩
theorem counted1_seq {w:World}{ll:List (List El)}{A:Option Addr}{n c:Nat}(n0:Nat) (hR:RowsIn (fun k=>k<n0) w A ll) (hn:ll.length=n) (hn6:n≤100000) (hl:∀r∈ll,r.length≤1000000) (B2 B3:Nat)
  (h2:w.cell? ⟨B2,0,none⟩=some (.slice A n c)) (h3:w.cell? ⟨B3,0,none⟩=some (.func (.func cmpF) #[] #[])) (hB2:B2<w.heap.size) (hB3:B3<w.heap.size) (hn0:n0≤w.heap.size) (hK12:ll.flatten.length≤1000000000000) (nf:Nat) :
  SeqT Fence.wide nf Tryz.prog 140 #[.pointer (some ⟨B2,0,none⟩),.pointer (some ⟨B3,0,none⟩)] (fun y:El×Nat => #[val y.1,.int .i64 (y.2:Nat)]) (fun k=>k<n0∨k=B2∨k=B3) (fun _=>False) (CntOk n0 (sortK lt (ll.flatten.map key))) (fun xs=>xs.map (tk key)=runs (sortK lt (ll.flatten.map key))) (fun pre=>pre.map (tk key) <+: runs (sortK lt (ll.flatten.map key))) (runs (sortK lt (ll.flatten.map key))).length w:=by
 intro l J Jx W hW hJ hJx hY h0
 have hkR:Kept (fun k=>k<n0∨k=B2∨k=B3) w W:=Kept.of_below hW (fun k hk=>by rcases hk with hk|rfl|rfl<;>omega)
 have hRW:=hR.keep (hkR.mono fun k hk => .inl hk)
 have h2W:=(hkR.cell (p:=⟨B2,0,none⟩) (.inr (.inl rfl))).trans h2
 have h3W:=(hkR.cell (p:=⟨B3,0,none⟩) (.inr (.inr rfl))).trans h3
 have hnW:n0≤W.heap.size:=Nat.le_trans hn0 hW.size
 have hB2W:B2<W.heap.size:=Nat.lt_of_lt_of_le hB2 hW.size
 have hB3W:B3<W.heap.size:=Nat.lt_of_lt_of_le hB3 hW.size
 have hAll:=fun (w' : World) (h:RowsIn (fun k=>k<n0) w' A ll) (b2 b3:Nat) e2 e3 l2 l3 ln=>Lib.hid (all1_seq (c:=c) n0 h hn hn6 hl b2 b3 e2 e3 l2 l3 ln 9)
 have hKl:(sortK lt (ll.flatten.map key)).length≤1000000000000:=by rw[(sortK_perm _).length_eq,List.length_map];exact hK12
 obtain ⟨K,hK⟩:∃K,sortK lt (ll.flatten.map key)=K:=⟨_,rfl⟩
 rw[hK] at hY hKl ⊢
 simp only[hK] at hAll
 have HKL:=Lib.hid hKl
 have hF:=fun W=>Lib.hid (all_any A n c W)
 clear hR h2 h3 hK hn hl hkR hW hB2 hB3 hn0 hK12 hKl
 have hbW3:Below W.heap.size W (((W.alloc (.cells #[.func (.yield l) #[] #[]] 192)).alloc (.cells #[(.int .i64 0)] 3)).alloc (.cells #[.int .i64 0] 3)):=(((Below.refl _ W).alloc (Nat.le_refl _) _).alloc (by simp) _).alloc (by simp;omega) _
 have h2a:=(hbW3.cell (p:=⟨B2,0,none⟩) hB2W).trans h2W
 have h3a:=(hbW3.cell (p:=⟨B3,0,none⟩) hB3W).trans h3W
 have bY:=((Box1.new W 192 (.func (.yield l) #[] #[])).alloc (.cells #[(.int .i64 0)] 3)).alloc (.cells #[.int .i64 0] 3)
 have bL:=(Box1.new (W.alloc (.cells #[.func (.yield l) #[] #[]] 192)) 3 (.int .i64 0)).alloc (.cells #[.int .i64 0] 3)
 have bN:=Box1.new ((W.alloc (.cells #[.func (.yield l) #[] #[]] 192)).alloc (.cells #[(.int .i64 0)] 3)) 3 (.int .i64 0)
 have hz3:(((W.alloc (.cells #[.func (.yield l) #[] #[]] 192)).alloc (.cells #[(.int .i64 0)] 3)).alloc (.cells #[.int .i64 0] 3)).heap.size=W.heap.size+1+1+1:=by simp
 rw[World.size_alloc] at bL
 rw[World.size_alloc,World.size_alloc] at bN
 refine callsIn_wide.2 ((callsIn_wide (n:=10)).1 ?_)
 refine callsIn_of_wp_marks Tryz.func140 rfl trivial ?_ rfl
 simp only[Tryz.ntmps140,List.size_toArray,List.length_cons,List.length_nil,Nat.reduceAdd,Nat.reduceSub,Array.replicate_succ,Array.replicate_zero,List.push_toArray,List.append_toArray,List.nil_append,List.cons_append]
 gi_wp2_with fail
 generalize (((W.alloc (.cells #[.func (.yield l) #[] #[]] 192)).alloc (.cells #[(.int .i64 0)] 3)).alloc (.cells #[.int .i64 0] 3))=Wa at *
 refine ⟨trivial,(callsIn_wide.2 (hF _).out).mono ?_⟩
 rintro e w1 ⟨rfl,hw1⟩
 have b3:=(Box1.new Wa 146 (.slice A n c)).alloc (.cells #[.func (.func cmpF) #[] #[]] 150)
 have b4:=Box1.new (Wa.alloc (.cells #[.slice A n c] 146)) 150 (.func (.func cmpF) #[] #[])
 rw[World.size_alloc] at b4
 rw[←hw1,hz3] at b3 b4
 have hbWa:Below Wa.heap.size Wa w1:=by rw[hw1];exact ((Below.refl _ Wa).alloc (Nat.le_refl _) _).alloc (by simp) _
 have hz1:w1.heap.size=W.heap.size+1+1+1+1+1:=by rw[hw1];simp[hz3]
 have hb1:Below W.heap.size W w1:=hbW3.trans (hbWa.mono (by omega))
 have bY1:=bY.turn (Turn.of_new (T:=fun _=>False) hbWa) id
 have bL1:=bL.turn (Turn.of_new (T:=fun _=>False) hbWa) id
 have bN1:=bN.turn (Turn.of_new (T:=fun _=>False) hbWa) id
 have hR1:=hRW.keep (Kept.of_below hb1 fun k hk=>by omega)
 have hD:=hAll w1 hR1 (W.heap.size+1+1+1) (W.heap.size+1+1+1+1) b3.cell b4.cell (by omega) (by omega) (by omega)
 have hJ1:=hJ _ _ _ _ h0 (Turn.of_new hb1)
 rw[hz3]
 clear bY bL bN h2a h3a hF hAll hw1 hbW3 hbWa hRW hR1 h0
 gi_wp2_with fail
 refine wpIn_rangeFunc_T (F:=Fence.wide) (n:=10) rfl (by omega) (gf:=193) (lb := #[.pointer (some ⟨W.heap.size+1+1+1+1,0,none⟩),.pointer (some ⟨W.heap.size+1+1+1,0,none⟩)]) rfl trivial (enters_of Tryz.func193 (by kernel_rfl) rfl)
  hD.out (Below.refl _ _) (fun _=>rfl) (fun k hk=>by rcases hk with (hk|rfl|rfl)|hk<;>first|omega|exact hk.elim)
  (fun s pre x A B h hR ht=>allOk_keep h (by omega) ht)
  (fun s pre wr=>Cnt J K n0 W.heap.size l (fun k=>k<n0∨k=B2∨k=B3) W s pre wr)
  (fun c s pre wr=>c = .ret∧CntX Jx K W.heap.size s wr)
  ?hI ?hIx ?hI2 ?hIx2 ?h0 (fun x => { tmps := #[.func (.yield l) #[] #[],.pointer (some ⟨B2,0,none⟩),.pointer (some ⟨B3,0,none⟩),.pointer (some ⟨W.heap.size,0,none⟩),.pointer (some ⟨W.heap.size+1,0,none⟩),.pointer (some ⟨W.heap.size+1+1,0,none⟩),val x,.slice A n c,.func (.func cmpF) #[] #[],.func (.func 193) #[] #[.pointer (some ⟨W.heap.size+1+1+1+1,0,none⟩),.pointer (some ⟨W.heap.size+1+1+1,0,none⟩)],val x,undef,undef,undef,undef,undef,undef,undef,undef,undef,undef,undef,undef,undef,undef,undef,undef,undef,undef,undef,undef,undef,undef,undef],defers := [] }) ?assign ?body ?done ?stop
 case hI=>exact fun s pre A B h ht=>h.step hJ hnW (fun k e=>by rcases e with e|rfl|rfl<;>omega) ht (fun k e => .inl e) (fun k e=>e)
 case hIx=>exact fun c s pre A B ⟨h0,h⟩ ht=>⟨h0,h.step hJx ht (fun k e => .inl e) (fun k e=>e)⟩
 case hI2=>exact fun s pre A B h ht=>h.step hJ hnW (fun k e=>by rcases e with e|rfl|rfl<;>omega) ht (fun k e => .inr (by omega)) (fun k e => .inl e)
 case hIx2=>exact fun c s pre A B ⟨h0,h⟩ ht=>⟨h0,h.step hJx ht (fun k e => .inr (by omega)) (fun k e => .inl e)⟩
 case h0=>exact ⟨⟨_, [],default,0,_,hJ1,bY1,bL1,bN1,fun h=>by omega,CntI.start _,fun k e=>e.elim,fun k a b c => .inr ⟨a,c⟩⟩,Kept.of_below hb1 fun k e=>by rcases e with e|rfl|rfl<;>omega,by omega,fun k e=>e.elim⟩
 case assign =>
  intro l y W K hK
  gi_wp2
  exact hK
 case body =>
  rintro l2 s pre x wr ⟨⟨s2,op,a,m,va,h1,h2,h3,h4,h5,h6,h7,h8⟩,hkept,hsz,hsep⟩ hlt ⟨k1,k2,k3⟩ hdW
  have cY:wr.cell? ⟨W.heap.size,0,none⟩=some (.func (.yield l) #[] #[]):=h2.cell
  have cL:wr.cell? ⟨W.heap.size+1,0,none⟩=some va:=h3.cell
  have fL:wr.frozen? ⟨W.heap.size+1,0,none⟩=false:=h3.frozen
  have cN:wr.cell? ⟨W.heap.size+1+1,0,none⟩=some (.int .i64 (m:Nat)):=h4.cell
  have fN:wr.frozen? ⟨W.heap.size+1+1,0,none⟩=false:=h4.frozen
  have c3:wr.cell? ⟨B3,0,none⟩=some (.func (.func cmpF) #[] #[]):=(hkept.cell (p:=⟨B3,0,none⟩) (.inr (.inr rfl))).trans h3W
  have hen:=enters_cmp
  have hm12:m≤1000000000000:=by have:=h6.le;have:=HKL.out;omega
  have hm0:∀k,(k<n0∨k=B2∨k=B3)→k<W.heap.size:=fun k e=>by rcases e with e|rfl|rfl<;>omega
  have HM0:=Lib.hid hm0
  have H7:=Lib.hid h7
  have H8:=Lib.hid h8
  have HSEP:=Lib.hid hsep
  have K2:=Lib.hid k2
  have hTs:∀(A B:World),Turn (fun k=>k=W.heap.size+1∨k=W.heap.size+2) A B→Turn (fun k=>¬ s k∧¬ (k<n0∨k=W.heap.size+1+1+1∨k=W.heap.size+1+1+1+1)∧k≠w1.heap.size∧k≠w1.heap.size+1) A B:=fun A B ht=>ht.mono fun j _ e=>⟨fun e2=>by have:=hsep j e2;omega,by omega,by omega,by omega⟩
  have HTS:=Lib.hid hTs
  clear hm0 h7 h8 hsep k2 hTs hJ1 bY1 bL1 bN1 b3 b4 hD hb1
  by_cases hm:1≤m
  ·obtain ⟨rfl,hea⟩:=h5 hm
   have hcmp:=cmp_any (m:=fun k=>k<n0) a x wr hea k1 (fun k e=>by omega)
   by_cases hr:cmpI a x=0
   ·have h6':=h6.same hm K2.out ((cmp_ne a x).1 hr)
    obtain ⟨g1,g2⟩:=cnt_store (x:=x) (m:=m+1) (W:=W) (m0:=fun k=>k<n0∨k=B2∨k=B3) hJ hnW HM0.out h1 h2 h3 h4 k1 h6' H7.out H8.out hkept hsz HSEP.out
    rw[show ((m+1:Nat):Int)=(m:Int)+1 from by omega] at g1 g2
    have G1:=Lib.hid g1
    have G2:=Lib.hid g2
    rw[hr] at hcmp
    have HC:=Lib.hid hcmp
    have hmi:(0:Int)<(m:Int):=by omega
    clear g1 g2 hcmp hr h1 h2 h3 h4 h5 h6 h6' hm
    dsimp only[val] at cL ⊢
    gi_wp2_with fail
    refine ⟨trivial,(CallsIn.inRound l2 (callsIn_wide.2 HC.out)).mono ?_⟩
    rintro e w2 ⟨rfl,rfl⟩
    clear HC
    gi_wp2_with fail
    exact ⟨HTS.out _ _ G2.out,G1.out⟩
   ·obtain ⟨hpf,h6'⟩:=h6.other hm K2.out (fun e=>hr ((cmp_ne a x).2 e))
    have hrz:(cmpI a x != 0)=true:=by rw[bne_iff_ne];exact hr
    have hY1:=hY s2 op (a,m) wr h1 (ctold_lt hpf) ⟨hea,hpf,k3,by have:=h6.le;show m≤K.length;omega⟩
    obtain ⟨fn,tmps,assign,body,hyy,hR⟩:=hY1
    have HPF:=Lib.hid hpf
    have H6:=Lib.hid h6'
    obtain ⟨r,hre⟩:∃r,cmpI a x=r:=⟨_,rfl⟩
    rw[hre] at hcmp hrz
    have HC:=Lib.hid hcmp
    have hmi:(0:Int)<(m:Int):=by omega
    clear hcmp hr hpf h6' hre h5 h6 hm
    dsimp only[val] at cL hyy ⊢
    gi_wp2_with fail
    refine ⟨trivial,(CallsIn.inRound l2 (callsIn_wide.2 HC.out)).mono ?_⟩
    rintro e w2 ⟨rfl,rfl⟩
    clear HC
    gi_wp2_with fail
    refine (roundIn_any hR).mono ?_
    have hTot:∀w4,Turn (fun k=>¬ s2 k∧¬ (k<n0∨k=B2∨k=B3)) wr w4→Turn (fun k=>¬ s k∧¬ (k<n0∨k=W.heap.size+1+1+1∨k=W.heap.size+1+1+1+1)∧k≠w1.heap.size∧k≠w1.heap.size+1) wr w4:=fun w4 ht=>ht.mono fun j hj e=>⟨fun e2=>e.1 (H7.out j e2),fun e2=>by
      rcases e2 with e2|e2|e2
      ·exact e.2 (.inl e2)
      ·exact e.1 (H8.out j (by omega) (by omega) hj)
      ·exact e.1 (H8.out j (by omega) (by omega) hj),fun e2=>e.1 (H8.out j (by omega) (by omega) hj),fun e2=>e.1 (H8.out j (by omega) (by omega) hj)⟩
    have HTOT:=Lib.hid hTot
    clear hTot
    rintro e w4 (⟨rfl,hJ4,ht4⟩|⟨rfl,hJx4,ht4⟩)
    ·have hz4:=ht4.size
     have hs8:∀j,W.heap.size≤j→j<W.heap.size+7→s2 j:=fun j a b=>H8.out j a b (by omega)
     have b2:=h2.turn ht4 (fun e=>e.1 (hs8 _ (by omega) (by omega)))
     have b3:=h3.turn ht4 (fun e=>e.1 (hs8 _ (by omega) (by omega)))
     have b4:=h4.turn ht4 (fun e=>e.1 (hs8 _ (by omega) (by omega)))
     have hk4:Kept (fun k=>k<n0∨k=B2∨k=B3) wr w4:=Kept.of_turn ht4 fun k hk=>⟨by have:=HM0.out k hk;omega,fun e=>e.2 hk⟩
     have x4:=k1.keep (hk4.mono fun k e => .inl e)
     have ht5:Turn s2 w4 (w4.setCell ⟨W.heap.size+1+1,0,none⟩ (.int .i64 0)):=Turn.setCell _ _ _ (hs8 _ (by simp only;omega) (by simp only;omega))
     have ht5' : Turn (fun k=>k=W.heap.size+2) w4 (w4.setCell ⟨W.heap.size+1+1,0,none⟩ (.int .i64 0)):=Turn.setCell _ _ _ rfl
     have hJ5:=hJ _ _ _ _ hJ4 ht5
     have b25:=b2.turn ht5' (by omega)
     have b35:=b3.turn ht5' (by omega)
     have b45:=b4.set (.int .i64 0)
     have x5:=x4.keep (Kept.of_turn ht5' fun k hk=>⟨by omega,by omega⟩)
     have hk5:=(hkept.trans hk4).trans (Kept.of_turn ht5' fun k hk=>⟨by have:=HM0.out k hk;omega,by have:=HM0.out k hk;omega⟩)
     have hz5:(w4.setCell ⟨W.heap.size+1+1,0,none⟩ (.int .i64 0)).heap.size=w4.heap.size:=World.size_setCell _ _ _
     obtain ⟨g1,g2⟩:=cnt_store (s:=s) (x:=x) (m:=1) (W:=W) (m0:=fun k=>k<n0∨k=B2∨k=B3) hJ hnW HM0.out hJ5 b25 b35 b45 x5 H6.out (fun k e => .inl (H7.out k e)) (fun k a b c => .inl (hs8 k a b)) hk5 (by omega) HSEP.out
     rw[show ((1:Nat):Int)=1 from rfl] at g1 g2
     have cN4:w4.cell? ⟨W.heap.size+1+1,0,none⟩=some (.int .i64 (m:Nat)):=b4.cell
     have fN4:w4.frozen? ⟨W.heap.size+1+1,0,none⟩=false:=b4.frozen
     have cL5:(w4.setCell ⟨W.heap.size+1+1,0,none⟩ (.int .i64 0)).cell? ⟨W.heap.size+1,0,none⟩=some (val a):=b35.cell
     have fL5:(w4.setCell ⟨W.heap.size+1+1,0,none⟩ (.int .i64 0)).frozen? ⟨W.heap.size+1,0,none⟩=false:=b35.frozen
     have cL4:w4.cell? ⟨W.heap.size+1,0,none⟩=some (val a):=b3.cell
     have fL4:w4.frozen? ⟨W.heap.size+1,0,none⟩=false:=b3.frozen
     have G1:=Lib.hid g1
     have G2:=Lib.hid ((HTOT.out _ ht4).trans ((HTS.out _ _ (ht5'.mono fun j _ e => .inr e)).trans (HTS.out _ _ g2)))
     clear g1 g2 x5 hk5 b45 b25 b35 ht5 ht5' hJ5 x4 hk4 b2 b3 b4 ht4 hJ4
     gi_wp2_with fail
     exact ⟨G2.out,G1.out⟩
    ·have hz4:=ht4.size
     have hpt:=HTOT.out _ ht4
     gi_wp2_with fail
     exact ⟨hpt,rfl,⟨⟨s2,op ++ [(a,m)],hJx4,by rw[List.map_append];exact HPF.out,H7.out,fun k a b c=>H8.out k a b (by omega)⟩,by omega,HSEP.out⟩⟩
  ·have hm0' : m=0:=by omega
   subst hm0'
   obtain ⟨g1,g2⟩:=cnt_store (x:=x) (m:=1) (W:=W) (m0:=fun k=>k<n0∨k=B2∨k=B3) hJ hnW HM0.out h1 h2 h3 h4 k1 (h6.first K2.out) H7.out H8.out hkept hsz HSEP.out
   rw[show ((1:Nat):Int)=1 from rfl] at g1 g2
   have G1:=Lib.hid g1
   have G2:=Lib.hid g2
   have cN0:wr.cell? ⟨W.heap.size+1+1,0,none⟩=some (.int .i64 0):=h4.cell
   clear g1 g2 h1 h2 h3 h4 h5 h6 hm cN
   dsimp only[val]
   gi_wp2_with fail
   refine ⟨fun _ _=>trivial,?_⟩
   gi_wp2_with fail
   exact ⟨HTS.out _ _ G2.out,G1.out⟩
 case done =>
  rintro s xs wr hS ⟨⟨s2,op,a,m,va,h1,h2,h3,h4,h5,h6,h7,h8⟩,hkept,hsz,hsep⟩ hKd
  have cY:wr.cell? ⟨W.heap.size,0,none⟩=some (.func (.yield l) #[] #[]):=h2.cell
  have cL:wr.cell? ⟨W.heap.size+1,0,none⟩=some va:=h3.cell
  have cN:wr.cell? ⟨W.heap.size+1+1,0,none⟩=some (.int .i64 (m:Nat)):=h4.cell
  have hDs:s2 w1.heap.size:=h8 _ (by omega) (by omega) (Array.getElem?_eq_some_iff.1 hKd).1
  rcases h6.done hS with ⟨rfl,hd⟩|⟨hm,hd⟩
  ·have cN0:wr.cell? ⟨W.heap.size+1+1,0,none⟩=some (.int .i64 0):=h4.cell
   have HD:=Lib.hid hd
   clear hd cN
   gi_wp2_with fail
   refine ⟨by simp,.inl ⟨_,_,rfl,run_takeDeferred hKd,?_⟩⟩
   exact ⟨.tuple #[],results_none rfl _ _ _,⟨_,rfl⟩,.inl ⟨_,op,HD.out,hJ _ _ _ _ h1 (Turn.putObj _ _ _ hDs)⟩⟩
  ·obtain ⟨rfl,hea⟩:=h5 hm
   have hK' : n0≤wr.heap.size:=by omega
   have hpf:(op.map (tk key) ++ [tk key (a,m)]) <+: runs K:=by rw[hd];exact List.prefix_refl _
   have hml:m≤K.length:=by
    have h1:=h6.le
    have h2:(xs.map key).length=K.length:=by rw[show xs.map key=K from hS]
    rw[List.length_map] at h2
    omega
   have hY1:=hY s2 op (a,m) wr h1 (ctold_lt hpf) ⟨hea,hpf,hK',hml⟩
   obtain ⟨fn,tmps,assign,body,hyy,hR⟩:=hY1
   have HPF:=Lib.hid hpf
   have HD:=Lib.hid hd
   have hm12:m≤1000000000000:=by have:=HKL.out;omega
   have hmi:(0:Int)<(m:Int):=by omega
   have hdl:=(Array.getElem?_eq_some_iff.1 hKd).1
   clear hpf hd hml hm
   dsimp only[val] at cL hyy
   gi_wp2_with fail
   refine (roundIn_w hR).mono ?_
   rintro e w4 (⟨rfl,hJ4,ht4⟩|⟨rfl,hJx4,ht4⟩)
   ·have hK4:=(ht4.block _ hdl (fun e=>e.1 hDs)).trans hKd
    have hDs':=hDs
    rw[hz1] at hK4 hDs'
    gi_wp2_with fail
    refine ⟨by simp,.inl ⟨_,_,rfl,run_takeDeferred hK4,?_⟩⟩
    exact ⟨.tuple #[],results_none rfl _ _ _,⟨_,rfl⟩,.inl ⟨_,_,by rw[List.map_append];exact HD.out,hJ _ _ _ _ hJ4 (Turn.putObj _ _ _ hDs')⟩⟩
   ·have hK4:=(ht4.block _ hdl (fun e=>e.1 hDs)).trans hKd
    have hDs':=hDs
    rw[hz1] at hK4 hDs'
    gi_wp2_with fail
    refine ⟨by simp,.inl ⟨_,_,rfl,run_takeDeferred hK4,?_⟩⟩
    exact ⟨.tuple #[],results_none rfl _ _ _,⟨_,rfl⟩,.inr ⟨_,_,by rw[List.map_append];exact HPF.out,hJx _ _ _ _ hJx4 (Turn.putObj _ _ _ hDs')⟩⟩
 case stop =>
  rintro c s pre wr hS ⟨rfl,⟨s2,op,h1,h2,h7,h8⟩,hsz,hsep⟩ hKd
  have hDs:s2 w1.heap.size:=h8 _ (by omega) (by omega) (Array.getElem?_eq_some_iff.1 hKd).1
  gi_wp2_with fail
  refine ⟨by simp,.inl ⟨_,_,rfl,run_takeDeferred hKd,?_⟩⟩
  exact ⟨.tuple #[],results_none rfl _ _ _,⟨_,rfl⟩,.inr ⟨_,op,h2,hJx _ _ _ _ h1 (Turn.putObj _ _ _ hDs)⟩⟩
end KI
namespace KI
open Go.RowKit Go.Shelf
structure IntsSt (w:World) (ob lo z:Nat) (s:Nat→Prop) (out:List Int) (wr:World):Prop where
 sep:∀k,s k→lo≤k∧k<wr.heap.size
 below:Below w.heap.size w wr
 size:z≤wr.heap.size
 out:∃v,Box1 wr ob 23 v∧wr.ownsRow (z+2) 3 1 v out.length (out.map val)∧∀k,v.ownBlock=some k→z+2≤k∧¬ s k
section
variable {w A B : World} {ob lo z : Nat} {s s' T : Nat → Prop} {out : List Int}
theorem IntsSt.step (h:IntsSt w ob lo z s out A) (hob:ob<lo) (hlo:lo≤z) (hw:w.heap.size≤lo) (ht:Turn T A B) (hT:∀k,T k→s k∨k=z∨k=z+1) (hs:∀k,s' k→s k∨(A.heap.size≤k∧k<B.heap.size)):IntsSt w ob lo z s' out B:=by
 obtain ⟨v,h1,h2,h3⟩:=h.out
 have hz:=ht.size
 have hTl:∀k,T k→lo≤k:=fun k e=>by rcases hT k e with e|e|e;exact (h.sep k e).1;omega;omega
 have h2':=World.ownsRow.lt h2
 refine ⟨fun k e => ?_,h.below.trans (ht.below (fun k e=>Nat.le_trans hw (hTl k e)) h.below.size),Nat.le_trans h.size hz,v,h1.turn ht (fun e=>by have:=hTl _ e;omega),ownsRow_kept h2 fun k e=>ht.block k (h2' k e).2 (fun e2 => ?_),fun k e=>⟨(h3 k e).1,fun e2 => ?_⟩⟩
 ·rcases hs k e with e|e
  ·exact ⟨(h.sep k e).1,Nat.lt_of_lt_of_le (h.sep k e).2 hz⟩
  ·have:=h.size;omega
 ·rcases hT k e2 with e2|e2|e2
  ·exact (h3 k e).2 e2
  ·have:=(h3 k e).1;omega
  ·have:=(h3 k e).1;omega
 ·rcases hs k e2 with e2|e2
  ·exact (h3 k e).2 e2
  ·have:=(h2' k e).2;omega
theorem ints_put {W wp wn:World}{v v' : Value}{y:Int}(h:IntsSt w ob lo z s out W) (hob:ob<lo) (hlo:lo≤z) (hw:w.heap.size≤ob) (hz2:z+2≤W.heap.size) (h1:Box1 W ob 23 v) (_h2:W.ownsRow (z+2) 3 1 v out.length (out.map val)) (h3:∀k,v.ownBlock=some k→z+2≤k∧¬ s k)
  (hr:Below W.heap.size W wp) (hown:wn.ownsRow (z+2) 3 1 v' (out.length+1) (out.map val ++ [val y])) (hon:Onto wp wn v v') :
  IntsSt w ob lo z s (out ++ [y]) (wn.setCell ⟨ob,0,none⟩ v')∧Turn (fun k=>k=ob∨v.ownBlock=some k) W (wn.setCell ⟨ob,0,none⟩ v'):=by
 have hs1:=hr.size
 have hs2:=hon.size
 have ho:=h1.lt
 have hobv:v.ownBlock≠some ob:=fun e=>by have:=(h3 _ e).1;omega
 have hobv' : v'.ownBlock≠some ob:=fun e=>by
  rcases hon.at_ with e2|⟨g,e2,hg⟩
  ·exact hobv (e2 ▸ e)
  ·rw[e2] at e;injection e with e;omega
 have ht:Turn (fun k=>k=ob∨v.ownBlock=some k) W (wn.setCell ⟨ob,0,none⟩ v'):=((Turn.of_new hr).trans (Turn.onto hon fun k e => .inr e)).trans (Turn.setCell _ _ _ (.inl rfl))
 have hz:(wn.setCell ⟨ob,0,none⟩ v').heap.size=wn.heap.size:=World.size_setCell _ _ _
 refine ⟨⟨fun k e=>⟨(h.sep k e).1,by have:=(h.sep k e).2;omega⟩,h.below.trans (ht.below (fun k e=>by rcases e with e|e;omega;have:=(h3 k e).1;omega) h.below.size),by omega,v',?_,?_,fun k e => ?_⟩,ht⟩
 ·have b1:Box1 wn ob 23 v:=(h1.below hr ho).turn (Turn.onto (T:=fun k=>v.ownBlock=some k) hon fun k e=>e) hobv
  exact b1.set v'
 ·rw[List.length_append,List.map_append]
  exact ownsRow_kept hown fun k e=>Below.heap_setCell _ _ _ _ (fun e2=>hobv' (by rw[←show k=ob from e2];exact e))
 ·rcases hon.at_ with e2|⟨g,e2,hg⟩
  ·exact h3 k (e2 ▸ e)
  ·rw[e2] at e;injection e with e;subst e
   exact ⟨by omega,fun e3=>by have:=(h.sep _ e3).2;omega⟩
end
theorem cntOk_keep {n0 D:Nat}{K:List Key}{s:Nat→Prop}{pre:List (El×Nat)}{y:El×Nat}{A B:World}(h:CntOk n0 K s pre y A) (hn0:n0≤D) (ht:Turn (fun k=>k=D∨k=D+1) A B):CntOk n0 K s pre y B :=
 ⟨h.1.keep (Kept.of_turn ht fun k hk=>⟨Nat.lt_of_lt_of_le hk h.2.2.1,by rintro (e|e)<;>omega⟩),h.2.1,Nat.le_trans h.2.2.1 ht.size,h.2.2.2⟩
theorem iinfo:(Tryz.prog.info? 3).map (fun i=>(i.zero,i.size,i.bytes))=some (some (.int .i64 0),1,8):=by kernel_rfl
theorem runs_len (K:List Key):(runs K).length≤K.length:=by
 have hA:∀(t:List Key) (a:Key) (n:Nat),(runsA a n t).length≤t.length+1:=fun t=>by
  induction t with
  | nil=>intro a n;simp[runsA]
  | cons y t ih =>
   intro a n
   unfold runsA
   split
   ·have:=ih a (n+1);simp;omega
   ·have:=ih y 1;simp;omega
 cases K with
 | nil=>simp[runs]
 | cons a t=>exact hA t a 1
end KI
namespace KI
open Go.RowKit Go.Shelf
attribute [local go_sem] Oper.semAt_some
theorem Ints_any (A:Option Addr) (n c:Nat) (ll:List (List El)) (w:World) (hR:RowsIn (fun k=>k<w.heap.size) w A ll) (hn:ll.length=n) (hn6:n≤100000) (hl:∀r∈ll,r.length≤1000000) (hK12:ll.flatten.length≤1000000000) :
  Calls Tryz.prog 95 #[.slice A n c] w (RowVal w (uniqL lt ll.flatten)):=by
 have hU:(runs (sortK lt (ll.flatten.map key))).map (·.1)=uniqL lt ll.flatten:=by unfold uniqL;rw[show ll.flatten.map key=ll.flatten from List.map_id _]
 have hUl:=uniqL_len ordr ll.flatten
 obtain ⟨U,hUU⟩:∃U,uniqL lt ll.flatten=U:=⟨_,rfl⟩
 rw[hUU] at hU hUl ⊢
 have HU:=Lib.hid hU
 clear hU hUU
 refine (callsIn_wide (n:=12)).1 ?_
 have hF:=fun W=>counted_any A n c W
 unfold cmpF at hF
 have HF:=fun W=>Lib.hid (hF W)
 clear hF
 refine callsIn_of_wp_marks Tryz.func95 rfl trivial ?_ rfl
 simp only[Tryz.ntmps95,List.size_toArray,List.length_cons,List.length_nil,Nat.reduceAdd,Nat.reduceSub,Array.replicate_succ,Array.replicate_zero,List.push_toArray,List.append_toArray,List.nil_append,List.cons_append]
 gi_wp2_with fail
 refine ⟨trivial,(callsIn_wide.2 (HF _).out).mono ?_⟩
 rintro e w1 ⟨rfl,hw1⟩
 have b0:=Box1.new w 23 (.slice none 0 0)
 have hb0:Below w.heap.size w (w.alloc (.cells #[.slice none 0 0] 23)):=(Below.refl _ w).alloc (Nat.le_refl _) _
 have hz0:(w.alloc (.cells #[.slice none 0 0] 23)).heap.size=w.heap.size+1:=by simp
 generalize w.alloc (.cells #[.slice none 0 0] 23)=Wa at b0 hb0 hz0 hw1 ⊢
 have b2:=(Box1.new Wa 146 (.slice A n c)).alloc (.cells #[.func (.func 97) #[] #[]] 150)
 have b3:=Box1.new (Wa.alloc (.cells #[.slice A n c] 146)) 150 (.func (.func 97) #[] #[])
 rw[World.size_alloc] at b3
 rw[←hw1,hz0] at b2 b3
 have hb1:Below Wa.heap.size Wa w1:=by rw[hw1];exact ((Below.refl _ Wa).alloc (Nat.le_refl _) _).alloc (by simp) _
 have hz1:w1.heap.size=w.heap.size+1+1+1:=by rw[hw1];simp[hz0]
 have c0:=b0.turn (Turn.of_new (T:=fun _=>False) hb1) id
 have hbw:Below w.heap.size w w1:=hb0.trans (hb1.mono (by omega))
 have hD:=counted1_seq (w:=w1) (c:=c) w.heap.size (hR.keep (Kept.of_below hbw fun k e=>e)) hn hn6 hl (w.heap.size+1) (w.heap.size+1+1) b2.cell b3.cell (by omega) (by omega) (by omega) (by omega) 11
 have hKl:(sortK lt (ll.flatten.map key)).length≤1000000000:=by rw[(sortK_perm _).length_eq,List.length_map];exact hK12
 have hU:=HU.out
 obtain ⟨K,hK⟩:∃K,sortK lt (ll.flatten.map key)=K:=⟨_,rfl⟩
 rw[hK] at hD hKl hU
 clear HU
 have HU:=Lib.hid hU
 have HKL:=Lib.hid hKl
 obtain ⟨ti,hi,hy0,hy1,hy2⟩:=info_parts iinfo
 clear HF hw1 b0 hb0 hb1 b2 b3 hR hn hl hK12 hK hKl hU
 rw[hz0]
 gi_wp2_with fail
 refine wpIn_rangeFunc_T (F:=Fence.wide) (n:=12) rfl (by omega) (gf:=140) (lb := #[.pointer (some ⟨w.heap.size+1,0,none⟩),.pointer (some ⟨w.heap.size+1+1,0,none⟩)]) rfl trivial (enters_of Tryz.func140 (by kernel_rfl) rfl)
  hD (Below.refl _ _) (fun _=>rfl) (fun k hk=>by rcases hk with (hk|rfl|rfl)|hk<;>first|omega|exact hk.elim)
  (fun s pre x A B h hR ht=>cntOk_keep h (by omega) ht)
  (fun s pre wr=>IntsSt w w.heap.size (w.heap.size+1+1+1) (w.heap.size+1+1+1) s (pre.map (·.1)) wr)
  (fun c s pre wr=>False)
  ?hI ?hIx ?hI2 ?hIx2 ?h0 (fun y => { tmps := #[.slice A n c,undef,.slice none 0 0,.pointer (some ⟨w.heap.size,0,none⟩),.int .i64 y.1,.slice A n c,.func (.func 140) #[] #[.pointer (some ⟨w.heap.size+1,0,none⟩),.pointer (some ⟨w.heap.size+1+1,0,none⟩)],.int .i64 y.1,.int .i64 (y.2:Nat),undef,undef,undef,undef,undef],defers := [] }) ?assign ?body ?done ?stop
 case hI=>exact fun s pre A B h ht=>h.step (by omega) (Nat.le_refl _) (by omega) ht (fun k e => .inl e) (fun k e=>e)
 case hIx=>exact fun c s pre A B h ht=>h
 case hI2=>exact fun s pre A B h ht=>h.step (by omega) (Nat.le_refl _) (by omega) ht (fun k e => .inr (by omega)) (fun k e => .inl e)
 case hIx2=>exact fun c s pre A B h ht=>h
 case h0=>exact ⟨fun k e=>e.elim,hbw,by omega,_,c0,World.ownsRow_nil _ _ _ _,fun k e=>by simp[Value.ownBlock] at e⟩
 case assign =>
  intro l y W K hK
  dsimp only[val]
  gi_wp2
  exact hK
 case body =>
  rintro l s pre y W hSt hlt ⟨k1,k2,k3,k4⟩ hdW
  obtain ⟨v,hbox,hrow,hblk⟩:=hSt.out
  have hpl:(pre.map (·.1)).length≤1000000000:=by
   have h1:=runs_len K
   have h2:=HKL.out
   rw[List.length_map];omega
  obtain ⟨ln,hln⟩:∃ln,(pre.map (·.1)).length=ln:=⟨_,rfl⟩
  rw[hln] at hpl hrow
  obtain ⟨Av,cv,rfl⟩:∃Av cv,v = .slice Av ln cv:=by
   rcases hrow.2 with ⟨rfl,hn⟩|⟨g,cap,cur,rfl, -⟩
   ·exact ⟨none,0,by rw[hn]⟩
   ·exact ⟨_,cap,rfl⟩
  have c7:=hbox.cell
  have hobv:(Value.slice Av ln cv).ownBlock≠some w.heap.size:=fun e=>by have:=(hblk _ e).1;omega
  have hdl:w.heap.size+1+1+1+2≤W.heap.size:=by omega
  have hnb:Below W.heap.size W (W.alloc (.cells #[.int .i64 y.1] 3)):=(Below.refl _ _).alloc (Nat.le_refl _) _
  have hsee:Sees (W.alloc (.cells #[.int .i64 y.1] 3)) (W.heap.size+1) (some ⟨W.heap.size,0,none⟩) [.int .i64 y.1]:=⟨.inr ⟨_,rfl,by simp,fun j u hu=>by match j,hu with|0,hu=>(simp at hu;subst hu;rw[Addr.add_lit,World.cell?_alloc_at _ _ _ _ rfl];rfl)⟩⟩
  have hrow2:=hrow.alloc (.cells #[.int .i64 y.1] 3)
  have HLN:=Lib.hid hln
  have HZ1:=Lib.hid hz1
  clear hln hz1 hD c0 hbw
  gi_wp2_with ((with_reducible refine wpListIn_append_v (o := { dst:=some 12,op:=Op.call { callee:=Callee.builtin Builtin.append,args := #[Operand.tmp 9,Operand.tmp 11],argTypes := #[23,23] },type:=23,pos := "kmerge.go:92",after := #[{ on:=0,ground:=Ground.data }, { on:=2,ground:=Ground.data }],guard:=none }) ?_ (.tmp 9) (.tmp 11) 23 ?_ 3 ti _ 1 8 ?_ hi hy0 hy1 hy2 ?_ ?_ (w.heap.size+1+1+1+2) (.slice Av ln cv) ln _ ?_ hrow2 _ (some ⟨W.heap.size,0,none⟩) 1 1 [.int .i64 y.1] ?_ ?_ hsee ?_ ?_ ?_ ?_ ?_);exact rfl;exact rfl;exact Tryz.underlying23;exact rfl;omega;exact rfl;exact rfl;exact rfl;(exact fun u hu=>by simp at hu;subst hu;rfl);(simp only[maxLen];omega);omega;(simp;omega);intro v' wn hown hon;obtain ⟨gv,cv',rfl⟩:=ownsRow_succ hown;have b3:=(hbox.below hnb hbox.lt).turn (Turn.onto (T:=fun k=>(Value.slice Av ln cv).ownBlock=some k) hon fun k e=>e) hobv;have c3:=b3.cell;have f3:=b3.frozen)
  have hput:=ints_put hSt (by omega) (Nat.le_refl _) (Nat.le_refl _) hdl hbox (by rw[HLN.out];exact hrow) hblk hnb (by rw[HLN.out];exact hown) hon
  refine ⟨hput.2.mono fun j _ e => ?_,by show IntsSt _ _ _ _ s ((pre ++ [y]).map (·.1)) _;rw[List.map_append];exact hput.1⟩
  rcases e with rfl|e
  ·exact ⟨fun e=>by have:=(hSt.sep _ e).1;omega,by omega,by have:=HZ1.out;omega,by have:=HZ1.out;omega⟩
  ·have h1:=hblk j e
   exact ⟨h1.2,by omega,by have:=HZ1.out;omega,by have:=HZ1.out;omega⟩
 case done =>
  rintro s xs W hS hSt hK
  obtain ⟨v,hbox,hrow,hblk⟩:=hSt.out
  have hxs:xs.map (·.1)=U:=by rw[←HU.out, ←show xs.map (tk key)=runs K from hS,List.map_map];rfl
  rw[hxs] at hrow
  obtain ⟨ln,hln⟩:∃ln,U.length=ln:=⟨_,rfl⟩
  rw[hln] at hrow
  obtain ⟨Av,cv,rfl⟩:∃Av cv,v = .slice Av ln cv:=by
   rcases hrow.2 with ⟨rfl,hn⟩|⟨g,cap,cur,rfl, -⟩
   ·exact ⟨none,0,by rw[hn]⟩
   ·exact ⟨_,cap,rfl⟩
  have c7:=hbox.cell
  have hpt:=Turn.putObj W w1.heap.size (.deferred none) (T:=fun k=>k=w1.heap.size) rfl
  have hrow2:=ownsRow_kept (w':=W.putObj w1.heap.size (.deferred none)) hrow fun k e=>hpt.block k (World.ownsRow.lt hrow k e).2 (by have:=(hblk k e).1;omega)
  have hbel:=hSt.below.trans (hpt.below (b:=w.heap.size) (fun j hj=>by omega) hSt.below.size)
  have hrow3:=owns_le hrow2 (b:=w.heap.size) (by omega)
  have HLN:=Lib.hid hln
  have hbel':=Lib.hid hbel
  clear hln hz1 hD c0 hbw hxs
  gi_wp2_with fail
  refine ⟨by simp,.inl ⟨_,_,rfl,run_takeDeferred hK,?_⟩⟩
  refine ⟨_,results_tmp rfl _ _ _,.slice Av ln cv,rfl,?_,hbel'.out⟩
  rw[HLN.out]
  exact hrow3
 case stop=>exact fun c s pre W h1 h2 h3=>h2.elim
end KI
end Go.Proofs.YtalmnodgjjcefaaGreatDoor
