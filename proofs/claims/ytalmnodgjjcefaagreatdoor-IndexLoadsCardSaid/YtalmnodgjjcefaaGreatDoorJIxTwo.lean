/- Two indices, apart; what each act over one of them leaves. -/
import Derived.Test.YtalmnodgjjcefaaGreatDoorJIxF
set_option maxRecDepth 100000
namespace Go.Proofs.YtalmnodgjjcefaaGreatDoor
section
open Go.RowKit Go.Maps
open Classical in
noncomputable def addE (ls:List Lb) (day:Int):Nat:=if ¬ MayL ls then 70 else if day<0∨2147483647<day then 1 else 0
noncomputable def addN (X:List Ser) (ls:List Lb) (day:Int):Int:=if addE ls day=0 then newX X (sortN ls) else 0
noncomputable def addV (X:List Ser) (ls:List Lb) (day:Int):List Ser:=if addE ls day=0 then addX X (sortN ls) day else X
def dropE (X:List Ser) (id:Int):Nat:=if (atX X id).isSome=true then 0 else 60
def dropV (X:List Ser) (id:Int):List Ser:=if (atX X id).isSome=true then dropX X id else X
structure Two (n0 N Q:Nat) (z:Nat→Prop) (w:World) (P1 P2:Nat) (X1 X2:List Ser):Prop where
 out:∃m1 m2 s1 s2,Live N m1 w P1 s1 X1∧Live Q m2 w P2 s2 X2∧(∀k,m1 k→¬ m2 k)∧(∀k,m1 k→n0≤k)∧(∀k,m2 k→n0≤k)∧(∀k,z k→¬ m1 k∧¬ m2 k)
 low:n0≤w.heap.size
 off:∀k,z k→k<w.heap.size
section
variable {n0 N M Q R : Nat} {z z' : Nat → Prop} {w w' : World} {P1 P2 : Nat} {X1 X2 X' : List Ser}
theorem Two.below (h:Two n0 N Q z w P1 P2 X1 X2) (hb:Below w.heap.size w w'):Two n0 N Q z w' P1 P2 X1 X2:=by
 obtain ⟨m1,m2,s1,s2,h1,h2,h3⟩:=h.out
 exact ⟨⟨m1,m2,s1,s2,h1.below hb,h2.below hb,h3⟩,Nat.le_trans h.low hb.size,fun k e=>Nat.lt_of_lt_of_le (h.off k e) hb.size⟩
theorem Two.box (h:Two n0 N Q z w P1 P2 X1 X2) (hb:Below w.heap.size w w') (hz:w.heap.size<w'.heap.size):Two n0 N Q (fun k=>k=w.heap.size) w' P1 P2 X1 X2:=by
 obtain ⟨m1,m2,s1,s2,h1,h2,h3,h4,h5, -⟩:=h.out
 exact ⟨⟨m1,m2,s1,s2,h1.below hb,h2.below hb,h3,h4,h5,fun k e=>⟨fun e'=>by have:=h1.ix.lt k e';omega,fun e'=>by have:=h2.ix.lt k e';omega⟩⟩,Nat.le_trans h.low hb.size,fun k e=>by omega⟩
theorem Two.swap (h:Two n0 N Q z w P1 P2 X1 X2):Two n0 Q N z w P2 P1 X2 X1:=by
 obtain ⟨m1,m2,s1,s2,h1,h2,h3,h4,h5,h6⟩:=h.out
 exact ⟨⟨m2,m1,s2,s1,h2,h1,fun k e e'=>h3 k e' e,h5,h4,fun k e=>⟨(h6 k e).2,(h6 k e).1⟩⟩,h.low,h.off⟩
theorem Two.more (h:Two n0 N Q z w P1 P2 X1 X2) (hM:N≤M) (hR:Q≤R):Two n0 M R z w P1 P2 X1 X2:=by
 obtain ⟨m1,m2,s1,s2,h1,h2,h3⟩:=h.out
 exact ⟨⟨m1,m2,s1,s2,h1.more hM,h2.more hR,h3⟩,h.low,h.off⟩
structure LeftI (n0 N Q:Nat) (z:Nat→Prop) (w w' : World) (P1 P2:Nat) (X' X2:List Ser):Prop where
 two:Two n0 N Q z w' P1 P2 X' X2
 below:Below n0 w w'
 kept:∀k,z k→w'.heap[k]?=w.heap[k]?
theorem LeftI.of {m1 m2 m' : Nat→Prop}{s' s2:SetM}(h2:Live Q m2 w P2 s2 X2) (h3:∀k,m1 k→¬ m2 k) (h4:∀k,m1 k→n0≤k) (h5:∀k,m2 k→n0≤k) (h6:∀k,z k→¬ m1 k∧¬ m2 k) (ho:∀k,z k→k<w.heap.size) (hl:n0≤w.heap.size)
  (hL:Live M m' w' P1 s' X') (ht:Turn m1 w w') (hnew:∀k,m' k→m1 k∨(w.heap.size≤k∧k<w'.heap.size)):LeftI n0 M Q z w w' P1 P2 X' X2:=by
 have hsz:=ht.size
 refine ⟨⟨⟨m',m2,s',s2,hL,h2.turn ht fun k e e'=>h3 k e' e,fun k e e' => ?_,fun k e => ?_,h5,fun k e=>⟨fun e' => ?_,(h6 k e).2⟩⟩,by omega,fun k e=>by have:=ho k e;omega⟩,ht.below h4 hl,fun k e=>ht.block k (ho k e) (h6 k e).1⟩
 ·rcases hnew k e with g|g
  ·exact h3 k g e'
  ·have:=h2.ix.lt k e';omega
 ·rcases hnew k e with g|g
  ·exact h4 k g
  ·omega
 ·rcases hnew k e' with g|g
  ·exact (h6 k e).1 g
  ·have:=ho k e;omega
theorem Two.add (h:Two n0 N Q z w P1 P2 X1 X2) (hN:N+14≤500) (A:Option Addr) (n c:Nat) (ls:List Lb) (hn:ls.length=n) (hS:Sees w w.heap.size A (lv ls)) (hlen:n≤1000) (hsz:∀x∈ls,x.1.size≤9223372036854775807) (day:Int) :
  Calls Tryz.prog 12 #[.pointer (some ⟨P1,0,none⟩),.slice A n c,.int .i64 day] w fun e w'=>e = .returned (.tuple #[.int .i64 (addN X1 ls day),.int .i64 (addE ls day:Nat)])∧LeftI n0 (N+14) Q z w w' P1 P2 (addV X1 ls day) X2:=by
 obtain ⟨m1,m2,s1,s2,h1,h2,h3,h4,h5,h6⟩:=h.out
 by_cases hok:MayL ls∧0≤day∧day≤2147483647
 ·have he:addE ls day=0:=by unfold addE;rw[if_neg (fun e=>e hok.1),if_neg (by omega)]
  have e1:addN X1 ls day=newX X1 (sortN ls):=if_pos he
  have e2:addV X1 ls day=addX X1 (sortN ls) day:=if_pos he
  rw[e1,e2,he]
  exact (add_live h1 hN A n c ls hn hS hlen hsz day hok.1 hok.2.1 hok.2.2).mono fun e w' ⟨g1,g2,g3⟩=>⟨g1,LeftI.of h2 h3 h4 h5 h6 h.off h.low g2 g3 fun k e => .inl e⟩
 ·have hbad:¬ MayL ls∨day<0∨2147483647<day:=by
   by_cases hm:MayL ls
   ·right;by_cases hd:0≤day
    ·right;exact Int.not_le.1 fun e=>hok ⟨hm,hd,e⟩
    ·left;omega
   ·exact .inl hm
  have he:addE ls day=(s1.addOf ls day).2.2∧addE ls day≠0:=by
   unfold addE SetM.addOf
   by_cases hm:MayL ls
   ·have hd:day<0∨2147483647<day:=hbad.resolve_left fun e=>e hm
    have hn2:¬ ¬ MayL ls:=fun e=>e hm
    simp only[if_neg hn2,if_pos hd]
    exact ⟨trivial,by omega⟩
   ·rw[if_pos hm,if_pos hm]
    exact ⟨rfl,by omega⟩
  have e1:addN X1 ls day=0:=if_neg he.2
  have e2:addV X1 ls day=X1:=if_neg he.2
  rw[e1,e2,he.1]
  exact (add_bad h1.ix A n c ls hn hS hlen hsz day hbad).mono fun e w' ⟨g1,g2⟩=>⟨g1,LeftI.of h2 h3 h4 h5 h6 h.off h.low ((⟨g2.ix,h1.ok,h1.tot,h1.inv,h1.few⟩:Live N m1 w' P1 s1 X1).more (by omega)) g2.turn fun k e => .inl e⟩
theorem Two.drop (h:Two n0 N Q z w P1 P2 X1 X2) (hN:N+1≤500) (id:Int) :
  Calls Tryz.prog 18 #[.pointer (some ⟨P1,0,none⟩),.int .i64 id] w fun e w'=>e = .returned (.int .i64 (dropE X1 id:Nat))∧LeftI n0 (N+1) Q z w w' P1 P2 (dropV X1 id) X2:=by
 obtain ⟨m1,m2,s1,s2,h1,h2,h3,h4,h5,h6⟩:=h.out
 cases ht:atX X1 id with
 | none =>
  have e1:dropE X1 id=60:=by unfold dropE;rw[ht];rfl
  have e2:dropV X1 id=X1:=by unfold dropV;rw[ht];rfl
  rw[e1,e2]
  exact (drop_none h1 hN id ht).mono fun e w' ⟨g1,g2,g3⟩=>⟨g1,LeftI.of h2 h3 h4 h5 h6 h.off h.low (g2.more (by omega)) g3 fun k e => .inl e⟩
 | some t =>
  have e1:dropE X1 id=0:=by unfold dropE;rw[ht];rfl
  have e2:dropV X1 id=dropX X1 id:=by unfold dropV;rw[ht];rfl
  rw[e1,e2]
  exact (drop_live h1 hN id ht).mono fun e w' ⟨g1,g2,g3⟩=>⟨g1,LeftI.of h2 h3 h4 h5 h6 h.off h.low g2 g3 fun k e => .inl e⟩
theorem Two.flush (h:Two n0 N Q z w P1 P2 X1 X2) (hN:N≤900) (hH:Halves w) :
  Calls Tryz.prog 24 #[.pointer (some ⟨P1,0,none⟩)] w fun e w'=>∃v,e = .returned v∧LeftI n0 N Q z w w' P1 P2 X1 X2:=by
 obtain ⟨m1,m2,s1,s2,h1,h2,h3,h4,h5,h6⟩:=h.out
 exact (flush_live h1 hN hH).mono fun e w' ⟨A,c,he,hc,m',g1,g2,g3,g4⟩=>⟨_,he,LeftI.of h2 h3 h4 h5 h6 h.off h.low g1 g2 g3⟩
theorem Two.live (h:Two n0 N Q z w P1 P2 X1 X2):∃m s,Live N m w P1 s X1:=by
 obtain ⟨m1,m2,s1,s2,h1, -⟩:=h.out
 exact ⟨m1,s1,h1⟩
theorem Two.few (h:Two n0 N Q z w P1 P2 X1 X2):X1.length≤N:=by
 obtain ⟨m,s,h1⟩:=h.live
 exact h1.few
theorem Two.find (h:Two n0 N Q z w P1 P2 X1 X2) (hN:N≤900) (A:Option Addr) (n c:Nat) (fs:List Flt) (hn:fs.length=n) (hfit:FitF fs) (hS:Sees w w.heap.size A (fv fs)) (hn4:n≤100) :
  Calls Tryz.prog 16 #[.pointer (some ⟨P1,0,none⟩),.slice A n c] w (FindIs w (idsX X1 (fitX fs)) (checkF fs)):=by
 obtain ⟨m,s,h1⟩:=h.live
 exact find_live h1 hN A n c fs hn hfit hS hn4
theorem Two.on (h:Two n0 N Q z w P1 P2 X1 X2) (hN:N≤900) (A:Option Addr) (n c:Nat) (fs:List Flt) (hn:fs.length=n) (hfit:FitF fs) (hS:Sees w w.heap.size A (fv fs)) (hn4:n≤100) (a b:Int) :
  Calls Tryz.prog 14 #[.pointer (some ⟨P1,0,none⟩),.slice A n c,.int .i64 a,.int .i64 b] w (FindIs w (idsX X1 fun t=>fitX fs t && onX a b t) (checkF fs)):=by
 obtain ⟨m,s,h1⟩:=h.live
 exact on_live h1 hN A n c fs hn hfit hS hn4 a b
theorem Two.names (h:Two n0 N Q z w P1 P2 X1 X2) (hN:N≤900):Calls Tryz.prog 20 #[.pointer (some ⟨P1,0,none⟩)] w (NewS w (textsX X1 fun x=>x.1)):=by
 obtain ⟨m,s,h1⟩:=h.live
 exact names_live h1 hN
theorem Two.gone (h:Two n0 N Q z w P1 P2 X1 X2) (hN:N≤900) (id:Int):Calls Tryz.prog 19 #[.pointer (some ⟨P1,0,none⟩),.int .i64 id] w (Gives w (.bool (goneX X1 id))):=by
 obtain ⟨m,s,h1⟩:=h.live
 exact gone_live h1 hN id
theorem Two.next (h:Two n0 N Q z w P1 P2 X1 X2) (hN:N≤900):Calls Tryz.prog 17 #[.pointer (some ⟨P1,0,none⟩)] w (Gives w (.int .i64 ((X1.length+1:Nat):Int))):=by
 obtain ⟨m,s,h1⟩:=h.live
 exact next_live h1 hN
theorem Two.new {w1 w2:World}(h1:Live 0 (fun k=>w.heap.size≤k∧k<w1.heap.size) w1 P1 SetM.new []) (h2:Live 0 (fun k=>w1.heap.size≤k∧k<w2.heap.size) w2 P2 SetM.new []) (hb:Below w1.heap.size w1 w2) (hs:w.heap.size≤w1.heap.size):Two w.heap.size 0 0 (fun _=>False) w2 P1 P2 [] [] :=
 ⟨⟨_,_,_,_,h1.below hb,h2,fun k e e'=>by omega,fun k e=>e.1,fun k e=>by omega,fun k e=>e.elim⟩,Nat.le_trans hs hb.size,fun k e=>e.elim⟩
end
theorem sv_at {w:World}{B:Nat}{A:Option Addr}{l:List Item}(h:Sees w B A (sv l)) {k:Nat}(hk:k<l.length):∃ad,A=some ad∧ad.block<B∧w.cell? (ad.add k)=some (.string (strOf l[k])):=by
 rcases h.out with h|⟨ad,e,hb,hc⟩
 ·have:=congrArg List.length h
  rw[show (sv l).length=l.length from List.length_map ..,List.length_nil] at this
  omega
 ·exact ⟨ad,e,hb,hc k _ (by simp[sv,hk])⟩
theorem Strings_same (A B:Option Addr) (n c d:Nat) (l:List Item) (hn:l.length=n) (w:World) (hA:Sees w w.heap.size A (sv l)) (hB:Sees w w.heap.size B (sv l)) (hlen:n≤1099511627776) :
  Calls Tryz.prog 27 #[.slice A n c,.slice B n d] w fun e w'=>e = .returned (.bool true)∧∃q,w'=w.drewN q:=by
 have HN:=Lib.hid hn
 clear hn
 go_enter Tryz.func27,Tryz.ntmps27
 go_wp2
 go_loopg [5] n (fun g i wr=>∃k:Nat,k+g=n∧i = .int .i64 k∧∃q,wr=w.drewN q)
 case atStart=>exact ⟨0,by omega,rfl,0,rfl⟩
 case round =>
  obtain ⟨k,hk,rfl,q,rfl⟩:=hrel
  by_cases hlt:k<n
  ·have hkl:k<l.length:=by have:=HN.out;omega
   obtain ⟨ad,rfl,hb,hcell⟩:=sv_at hA hkl
   obtain ⟨ad2,rfl,hb2,hcell2⟩:=sv_at hB hkl
   generalize l[k]=x at hcell hcell2
   have hq:((strOf x).toList==(strOf x).toList)=true:=beq_self_eq_true _
   go_wp2
   go_quiet (fail)
   go_wp2
   go_roundg (n - (k+1))
   case measure=>omega
   case rel=>exact ⟨k+1,by omega,by go_num,_,rfl⟩
  ·go_wp2
   go_ret
   exact ⟨rfl,q,rfl⟩
end
end Go.Proofs.YtalmnodgjjcefaaGreatDoor
