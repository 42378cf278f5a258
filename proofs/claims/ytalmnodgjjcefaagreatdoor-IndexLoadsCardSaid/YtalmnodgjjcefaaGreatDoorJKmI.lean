/- Several texts in one: KmElI KmRowsI KmSwapI KmSortI KmAllI KmSeqI KmPileI. -/
import Derived.Test.YtalmnodgjjcefaaGreatDoorJKmA
import Derived.BigRegion
import Derived.Test.YtalmnodgjjcefaaGreatDoorJShelf
import Derived.Shelf.SlSortCmp.Whole1
import Derived.Lib.SliceRun
import Derived.Maps.OwnIn
import Derived.RangeFuncBox
import Derived.Sort.LoopGhostIn
import Derived.Sort.CutIn
set_option maxRecDepth 100000
set_option maxHeartbeats 3200000
namespace Go.Proofs.YtalmnodgjjcefaaGreatDoor
namespace KI
open Go.RowKit
abbrev El:=Int
abbrev Key:=Int
instance:Inhabited El:=⟨(0:Int)⟩
def val (x:Int):Value := .int .i64 x
def key (x:Int):Int:=x
def lt (a b:Int):Bool:=decide (a<b)
def cmpI (x y:Int):Int:=if x<y then -1 else if y<x then 1 else 0
structure EOk (m:Nat→Prop) (w:World) (x:El):Prop where
 out:True
theorem EOk.keep {m:Nat→Prop}{w w' : World}{x:El}(_:EOk m w x) (_:Kept m w w'):EOk m w' x:=⟨trivial⟩
theorem EOk.mono {m m' : Nat→Prop}{w:World}{x:El}(_:EOk m w x) (_:∀k,m k→m' k):EOk m' w x:=⟨trivial⟩
theorem ordr:Ordr lt where
 irrefl (a:Int):=by simp[lt]
 trans (a b c:Int) h1 h2:=by simp only[lt,decide_eq_true_eq] at *;omega
 tri (a b:Int) h1 h2:=by simp only[lt,decide_eq_false_iff_not] at *;omega
theorem cmp_neg (x y:Int):decide (cmpI x y<0)=lt (key x) (key y):=by
 unfold cmpI lt key
 rw[decide_eq_decide]
 by_cases h1:x<y
 ·rw[if_pos h1];simp[h1]
 ·by_cases h2:y<x
  ·rw[if_neg h1,if_pos h2];simp[h1]
  ·rw[if_neg h1,if_neg h2];simp[h1]
theorem cmp_ne (x y:Int):cmpI x y=0↔key x=key y:=by
 unfold cmpI key
 by_cases h1:x<y
 ·rw[if_pos h1];constructor<;>intro h<;>omega
 ·by_cases h2:y<x
  ·rw[if_neg h1,if_pos h2];constructor<;>intro h<;>omega
  ·rw[if_neg h1,if_neg h2];constructor<;>intro h<;>omega
theorem val_one (x:El):(val x).oneCell'=true:=rfl
def cmpF:FuncId:=97
theorem enters_cmp (args:Array Value) (w:World):(callFunc cmpF args).run Tryz.prog w = .ok (.enter cmpF args) w:=enters_of Tryz.func97 (by kernel_rfl) rfl args w
theorem isNaN_any (x:Int) (w:World):Calls Tryz.prog 142 #[.int .i64 x] w fun e w'=>e = .returned (.bool false)∧w=w':=by
 go_enter Tryz.func142,Tryz.ntmps142
 go_wp2
 go_ret
 exact ⟨by simp,rfl⟩
theorem cmp_any {m:Nat→Prop}(x y:Int) (w:World) (_:EOk m w x) (_:EOk m w y) (_:∀k,m k→k<w.heap.size) :
  Calls Tryz.prog cmpF #[val x,val y] w fun e w'=>e = .returned (.int .i64 (cmpI x y))∧w=w':=by
 unfold cmpF val cmpI
 obtain ⟨r,hr⟩:∃r:Int,(if x<y then -1 else if y<x then 1 else 0)=r:=⟨_,rfl⟩
 rw[hr]
 have HR:=Lib.hid hr
 clear hr
 by_cases h1:x<y
 ·have HF:Hid (r = -1):=by have:=HR.out;rw[if_pos h1] at this;exact this.symm
  go_enter Tryz.func97,Tryz.ntmps97
  go_wp2_with fail
  refine (isNaN_any _ _).mono ?_
  rintro e w' ⟨rfl,rfl⟩
  go_wp2_with fail
  refine (isNaN_any _ _).mono ?_
  rintro e w' ⟨rfl,rfl⟩
  go_wp2
  go_ret
  exact ⟨by rw[HF.out];rfl,rfl⟩
 ·by_cases h2:y<x
  ·have HF:Hid (r=1):=by have:=HR.out;rw[if_neg h1,if_pos h2] at this;exact this.symm
   go_enter Tryz.func97,Tryz.ntmps97
   go_wp2_with fail
   refine (isNaN_any _ _).mono ?_
   rintro e w' ⟨rfl,rfl⟩
   go_wp2_with fail
   refine (isNaN_any _ _).mono ?_
   rintro e w' ⟨rfl,rfl⟩
   go_wp2
   go_ret
   exact ⟨by rw[HF.out];rfl,rfl⟩
  ·have HF:Hid (r=0):=by have:=HR.out;rw[if_neg h1,if_neg h2] at this;exact this.symm
   go_enter Tryz.func97,Tryz.ntmps97
   go_wp2_with fail
   refine (isNaN_any _ _).mono ?_
   rintro e w' ⟨rfl,rfl⟩
   go_wp2_with fail
   refine (isNaN_any _ _).mono ?_
   rintro e w' ⟨rfl,rfl⟩
   go_wp2
   go_ret
   exact ⟨by rw[HF.out];rfl,rfl⟩
end KI
namespace KI
open Go.RowKit
structure RowsAt (m q:Nat→Prop) (w:World) (base P:Nat) (L:List (List El)):Prop where
 out:∃(v:Value) (vs:List Value),w.heap[P]?=some (.cells #[v,.func (.func cmpF) #[] #[]] 255 (0,0))∧w.ownsRow base 23 1 v L.length vs∧(∀k,v.ownBlock=some k→q k∧k≠P) ∧
  ∀i (hi:i<L.length),∃Ai ci,vs[i]?=some (.slice Ai (L[i]).length ci)∧(L[i]).length≤ci∧SeesM (fun k=>q k∧k≠P∧v.ownBlock≠some k) w Ai ((L[i]).map val)
 at_:q P
 ok:∀r∈L,∀x∈r,EOk m w x
 apart:∀k,m k→¬ q k
 lt:∀k,q k∨m k→k<w.heap.size
 few:L.length≤1000000
section
variable {m q : Nat → Prop} {w w' : World} {base P : Nat} {L : List (List El)}
theorem RowsAt.keep (h:RowsAt m q w base P L) (hk:Kept (fun k=>q k∨m k) w w') (hs:w.heap.size≤w'.heap.size):RowsAt m q w' base P L:=by
 obtain ⟨v,vs,h1,h2,h3,h4⟩:=h.out
 refine ⟨⟨v,vs,(hk P (.inl h.at_)).trans h1,ownsRow_kept h2 fun k e=>hk k (.inl (h3 k e).1),h3,fun i hi => ?_⟩,h.at_,fun r hr x hx=>(h.ok r hr x hx).keep (hk.mono fun k e => .inr e),h.apart,fun k e=>Nat.lt_of_lt_of_le (h.lt k e) hs,h.few⟩
 obtain ⟨Ai,ci,g1,g2,g3⟩:=h4 i hi
 exact ⟨Ai,ci,g1,g2,g3.keep (hk.mono fun k e => .inl e.1)⟩
theorem RowsAt.drewN (h:RowsAt m q w base P L) (n:Nat):RowsAt m q (w.drewN n) base P L:=h.keep (Kept.drewN _ _ _) (Nat.le_refl _)
theorem RowsAt.some (h:RowsAt m q w base P L) (hL:0<L.length):∃g cap vs,w.heap[P]?=some (.cells #[.slice (some ⟨g,0,none⟩) L.length cap,.func (.func cmpF) #[] #[]] 255 (0,0))∧w.ownsRow base 23 1 (.slice (some ⟨g,0,none⟩) L.length cap) L.length vs∧q g∧g≠P∧L.length≤cap ∧
  ∀i (hi:i<L.length),∃Ai ci,vs[i]?=some (.slice Ai (L[i]).length ci)∧(L[i]).length≤ci∧SeesM (fun k=>q k∧k≠P∧k≠g) w Ai ((L[i]).map val):=by
 obtain ⟨v,vs,h1,h2,h3,h4⟩:=h.out
 rcases h2.2 with ⟨rfl,hn⟩|⟨g,cap,cur,rfl, -, -,hc, -⟩
 ·omega
 ·refine ⟨g,cap,vs,h1,h2,(h3 g rfl).1,(h3 g rfl).2,hc,fun i hi => ?_⟩
  obtain ⟨Ai,ci,g1,g2,g3⟩:=h4 i hi
  exact ⟨Ai,ci,g1,g2,g3.mono fun k e=>⟨e.1,e.2.1,fun e2=>e.2.2 (by rw[e2];rfl)⟩⟩
theorem cells_of {g:Nat}{cs:Array Value}{t:TypeId}(h:w.heap[g]?=some (.cells cs t (0,0))) (j:Nat):w.cell? ⟨g,j,none⟩=cs[j]?∧w.frozen? ⟨g,j,none⟩=false:=by
 simp[World.cell?,World.frozen?,h]
theorem len_any (h:RowsAt m q w base P L):Calls Tryz.prog 326 #[.pointer (some ⟨P,0,none⟩)] w fun e w'=>e = .returned (.int .i64 (L.length:Nat))∧w=w':=by
 obtain ⟨v,vs,h1,h2,h3,h4⟩:=h.out
 have hc0:=(cells_of h1 0).1
 have hsl:∃A c,v = .slice A L.length c:=by
  rcases h2.2 with ⟨rfl,hn⟩|⟨g,cap,cur,rfl, -⟩
  ·exact ⟨none,0,by rw[hn]⟩
  ·exact ⟨_,cap,rfl⟩
 obtain ⟨A,c,rfl⟩:=hsl
 simp only[List.getElem?_toArray,List.getElem?_cons_zero] at hc0
 clear h1 h2 h3 h4 h
 go_enter Tryz.func326,Tryz.ntmps326
 go_wp2
 go_ret
 exact ⟨rfl,rfl⟩
theorem less_any (h:RowsAt m q w base P L) (i j:Int) (hi0:0≤i) (hi:i<(L.length:Nat)) (hj0:0≤j) (hj:j<(L.length:Nat)) (hri:atG L i.toNat ≠ []) (hrj:atG L j.toNat ≠ []) :
  Calls Tryz.prog 327 #[.pointer (some ⟨P,0,none⟩),.int .i64 i,.int .i64 j] w (BoolIs w (headLess lt key (atG L i.toNat) (atG L j.toNat))):=by
 obtain ⟨i,rfl⟩:=Int.eq_ofNat_of_zero_le hi0
 obtain ⟨j,rfl⟩:=Int.eq_ofNat_of_zero_le hj0
 rw[Int.toNat_natCast] at hri hrj
 rw[Int.toNat_natCast,Int.toNat_natCast]
 have hiL:i<L.length:=by omega
 have hjL:j<L.length:=by omega
 obtain ⟨g,cap,vs,h1,h2,h3,h4,h5,h6⟩:=h.some (by omega)
 obtain ⟨Ai,ci,i1,i2,i3⟩:=h6 i hiL
 obtain ⟨Aj,cj,j1,j2,j3⟩:=h6 j hjL
 rw[atG_eq hiL] at hri
 rw[atG_eq hjL] at hrj
 have hoi:=h.ok _ (List.getElem_mem hiL)
 have hoj:=h.ok _ (List.getElem_mem hjL)
 rw[atG_eq hiL,atG_eq hjL]
 have ei:=World.ownsRow.cellAt h2 i (by omega)
 have ej:=World.ownsRow.cellAt h2 j (by omega)
 rw[i1] at ei
 rw[j1] at ej
 generalize L[i]=ri at *
 generalize L[j]=rj at *
 cases ri with
 | nil=>exact absurd rfl hri
 | cons x ri =>
  cases rj with
  | nil=>exact absurd rfl hrj
  | cons y rj =>
   have hmlt:∀k,m k→k<w.heap.size:=fun k e=>h.lt k (.inr e)
   have hcmp:=fun n=>Lib.hid (cmp_any (m:=m) x y (w.drewN n) ((hoi x (by simp)).keep (Kept.drewN _ _ _)) ((hoj y (by simp)).keep (Kept.drewN _ _ _)) hmlt)
   have hres:headLess lt key (x :: ri) (y :: rj)=decide (cmpI x y<0):=(cmp_neg x y).symm
   rw[hres]
   have ii:0<(ri.length+1:Nat):=by omega
   obtain ⟨adi,rfl, -,xi⟩:∃ad,Ai=some ad∧True∧w.cell? ad=some (val x):=by
    rcases i3.out with e|⟨ad,e1, -,e2⟩
    ·simp at e
    ·have:=e2 0 (val x) (by simp)
     exact ⟨ad,e1,trivial,by simpa[Addr.add] using this⟩
   obtain ⟨adj,rfl, -,xj⟩:∃ad,Aj=some ad∧True∧w.cell? ad=some (val y):=by
    rcases j3.out with e|⟨ad,e1, -,e2⟩
    ·simp at e
    ·have:=e2 0 (val y) (by simp)
     exact ⟨ad,e1,trivial,by simpa[Addr.add] using this⟩
   have p0:=(cells_of h1 0).1
   have p1:=(cells_of h1 1).1
   simp only[List.getElem?_toArray,List.getElem?_cons_zero,List.getElem?_cons_succ] at p0 p1
   obtain ⟨N,hN⟩:∃N,L.length=N:=⟨_,rfl⟩
   rw[hN] at p0 h5 hi hj
   simp only[List.length_cons] at ei ej i2 j2
   generalize cmpI x y=r at hcmp ⊢
   generalize val x=vx at hcmp xi
   generalize val y=vy at hcmp xj
   unfold cmpF at p1 hcmp
   clear hN h1 h2 h6 i3 j3 hri hrj hoi hoj hres hiL hjL i1 j1 h hmlt hi0 hj0
   go_enter Tryz.func327,Tryz.ntmps327
   go_wp2
   go_quiet ((refine (hcmp _).out.mono ?_;rintro e w' ⟨rfl,rfl⟩;exact ⟨rfl,_,rfl⟩))
   go_wp2
   go_ret
   exact ⟨rfl,_,rfl⟩
end
end KI
namespace KI
open Go.RowKit
structure Alk (w' w:World):Prop where
 heap:w'.heap=w.heap
 os:w'.os=w.os
 tape:w'.tape=w.tape
 output:w'.output=w.output
section
variable {m q : Nat → Prop} {w w' : World} {base P : Nat} {L : List (List El)}
theorem Alk.turn {T:Nat→Prop}{w w' v:World}(h:Alk w' w) (ht:Turn T v w):Turn T v w' :=
 ⟨h.os.trans ht.os,h.tape.trans ht.tape,h.output.trans ht.output,by rw[h.heap];exact ht.size,fun k a b=>by rw[h.heap];exact ht.block k a b⟩
theorem swap_raw (w:World) (P g i j N cap:Nat) (xi xj:Value) (hne:i≠j) (hi:i<N) (hj:j<N) (_hN:N≤1000000) (_hcap:N≤cap) (hPg:g≠P)
  (p0:w.cell? ⟨P,0,none⟩=some (.slice (some ⟨g,0,none⟩) N cap)) (ci:w.cell? ⟨g,i,none⟩=some xi) (cj:w.cell? ⟨g,j,none⟩=some xj) (fi:w.frozen? ⟨g,i,none⟩=false) (fj:w.frozen? ⟨g,j,none⟩=false)
  (oi:∃a n c,xi = .slice a n c) (oj:∃a n c,xj = .slice a n c) :
  Calls Tryz.prog 329 #[.pointer (some ⟨P,0,none⟩),.int .i64 i,.int .i64 j] w fun e w'=>e = .returned (.tuple #[])∧Alk w' ((w.setCell ⟨g,i,none⟩ xj).setCell ⟨g,j,none⟩ xi):=by
 obtain ⟨ai,ni,ki,rfl⟩:=oi
 obtain ⟨aj,nj,kj,rfl⟩:=oj
 go_enter Tryz.func329,Tryz.ntmps329
 go_wp2
 go_region
 all_goals (go_end0;exact ⟨rfl,rfl,rfl,rfl,rfl⟩)
theorem swap_raw1 (w:World) (P g i N cap:Nat) (xi:Value) (hi:i<N) (_hN:N≤1000000) (_hcap:N≤cap) (_hPg:g≠P)
  (p0:w.cell? ⟨P,0,none⟩=some (.slice (some ⟨g,0,none⟩) N cap)) (ci:w.cell? ⟨g,i,none⟩=some xi) (fi:w.frozen? ⟨g,i,none⟩=false)
  (oi:∃a n c,xi = .slice a n c) :
  Calls Tryz.prog 329 #[.pointer (some ⟨P,0,none⟩),.int .i64 i,.int .i64 i] w fun e w'=>e = .returned (.tuple #[])∧Alk w' ((w.setCell ⟨g,i,none⟩ xi).setCell ⟨g,i,none⟩ xi):=by
 obtain ⟨ai,ni,ki,rfl⟩:=oi
 go_enter Tryz.func329,Tryz.ntmps329
 go_wp2
 go_region
 all_goals (go_end0;exact ⟨rfl,rfl,rfl,rfl,rfl⟩)
theorem swap_any (h:RowsAt m q w base P L) (i j:Int) (hi0:0≤i) (hi:i<(L.length:Nat)) (hj0:0≤j) (hj:j<(L.length:Nat)) :
  Calls Tryz.prog 329 #[.pointer (some ⟨P,0,none⟩),.int .i64 i,.int .i64 j] w fun e w'=>e = .returned (.tuple #[])∧RowsAt m q w' base P (swapG L i.toNat j.toNat)∧Turn q w w':=by
 obtain ⟨i,rfl⟩:=Int.eq_ofNat_of_zero_le hi0
 obtain ⟨j,rfl⟩:=Int.eq_ofNat_of_zero_le hj0
 rw[Int.toNat_natCast,Int.toNat_natCast]
 have hiL:i<L.length:=by omega
 have hjL:j<L.length:=by omega
 obtain ⟨g,cap,vs,h1,h2,h3,h4,h5,h6⟩:=h.some (by omega)
 obtain ⟨Ai,ci,i1,i2,i3⟩:=h6 i hiL
 obtain ⟨Aj,cj,j1,j2,j3⟩:=h6 j hjL
 have ei:=World.ownsRow.cellAt h2 i (by omega)
 have ej:=World.ownsRow.cellAt h2 j (by omega)
 have p0:=(cells_of h1 0).1
 simp only[List.getElem?_toArray,List.getElem?_cons_zero] at p0
 have hvs:vs.length=L.length:=by have:=h2.1;omega
 have key:Calls Tryz.prog 329 #[.pointer (some ⟨P,0,none⟩),.int .i64 i,.int .i64 j] w fun e w'=>e = .returned (.tuple #[])∧Alk w' ((w.setCell ⟨g,i,none⟩ (.slice Aj (L[j]).length cj)).setCell ⟨g,j,none⟩ (.slice Ai (L[i]).length ci)):=by
  by_cases e:i=j
  ·subst e
   have:=i1.symm.trans j1
   rw[←Option.some.inj this]
   exact swap_raw1 w P g i L.length cap _ hiL h.few h5 h4 p0 (ei.trans i1) (World.ownsRow.frozenAt h2 i) ⟨_,_,_,rfl⟩
  ·exact swap_raw w P g i j L.length cap _ _ e hiL hjL h.few h5 h4 p0 (ei.trans i1) (ej.trans j1) (World.ownsRow.frozenAt h2 i) (World.ownsRow.frozenAt h2 j) ⟨_,_,_,rfl⟩ ⟨_,_,_,rfl⟩
 refine key.mono fun e w' ⟨he,hw⟩=>⟨he,?_,?_⟩
 ·obtain ⟨s1,g1⟩:=World.ownsRow.stored h2 i (.slice Aj (L[j]).length cj)
  obtain ⟨s2,g2⟩:=World.ownsRow.stored s1 j (.slice Ai (L[i]).length ci)
  have hkk:Kept (fun k=>k≠g) w w':=fun k hk=>by
   rw[hw.heap]
   exact (Below.heap_setCell _ _ _ _ hk).trans (Below.heap_setCell _ _ _ _ hk)
  have hz:w'.heap.size=w.heap.size:=by rw[hw.heap];simp
  refine ⟨⟨.slice (some ⟨g,0,none⟩) L.length cap,(vs.set i (.slice Aj (L[j]).length cj)).set j (.slice Ai (L[i]).length ci),(hkk P (Ne.symm h4)).trans ?_,ownsRow_kept (w:=(w.setCell ⟨g,i,none⟩ (.slice Aj (L[j]).length cj)).setCell ⟨g,j,none⟩ (.slice Ai (L[i]).length ci)) ?_ (fun k _=>by rw[hw.heap]),?_,?_⟩,h.at_,?_,h.apart,fun k e=>by rw[hz];exact h.lt k e,?_⟩
  ·exact h1
  ·rw[swapG_length];exact s2
  ·intro k e
   obtain rfl:g=k:=Option.some.inj e
   exact ⟨h3,h4⟩
  ·intro k hk
   rw[swapG_length] at hk
   have hg:=swapG_at hiL hjL k
   rw[atG_eq (by rw[swapG_length];exact hk)] at hg
   have hkeep:∀ {A:Option Addr}{xs:List Value},SeesM (fun k=>q k∧k≠P∧k≠g) w A xs→SeesM (fun k=>q k∧k≠P∧(Value.slice (some ⟨g,0,none⟩) L.length cap).ownBlock≠some k) w' A xs:=fun hs =>
    (hs.keep (hkk.mono fun k e=>e.2.2)).mono fun k e=>⟨e.1,e.2.1,fun e2=>e.2.2 (Option.some.inj e2).symm⟩
   rw[List.getElem?_set,List.length_set,List.getElem?_set]
   by_cases e1:k=j
   ·rw[if_pos e1,atG_eq hiL] at hg
    rw[hg,if_pos e1.symm,if_pos (by omega)]
    exact ⟨Ai,ci,rfl,i2,hkeep i3⟩
   ·rw[if_neg e1] at hg
    rw[if_neg (fun e=>e1 e.symm)]
    by_cases e2:k=i
    ·rw[if_pos e2,atG_eq hjL] at hg
     rw[hg,if_pos e2.symm,if_pos (by omega)]
     exact ⟨Aj,cj,rfl,j2,hkeep j3⟩
    ·rw[if_neg e2,atG_eq hk] at hg
     rw[hg,if_neg (fun e=>e2 e.symm)]
     obtain ⟨Ak,ck,k1,k2,k3⟩:=h6 k hk
     exact ⟨Ak,ck,k1,k2,hkeep k3⟩
  ·intro r hr x hx
   exact (h.ok r ((swapG_perm hiL hjL).mem_iff.1 hr) x hx).keep (hkk.mono fun k e e2=>h.apart k e (e2 ▸ h3))
  ·rw[swapG_length];exact h.few
 ·exact hw.turn ((Turn.setCell _ _ _ h3).trans (Turn.setCell _ _ _ h3))
theorem pop_raw (w:World) (P g N cap:Nat) (xn _f:Value) (hN0:0<N) (hN:N≤1000000) (hcap:N≤cap) (_hPg:g≠P)
  (p0:w.cell? ⟨P,0,none⟩=some (.slice (some ⟨g,0,none⟩) N cap)) (cn:w.cell? ⟨g,N - 1,none⟩=some xn) (f0:w.frozen? ⟨P,0,none⟩=false) (on:∃a n c,xn = .slice a n c) :
  Calls Tryz.prog 328 #[.pointer (some ⟨P,0,none⟩)] w fun e w'=>(∃v,e = .returned v)∧Alk w' (w.setCell ⟨P,0,none⟩ (.slice (some ⟨g,0,none⟩) (N - 1:Nat) cap)):=by
 obtain ⟨an,nn,kn,rfl⟩:=on
 obtain ⟨j,hj⟩:∃j,N - 1=j:=⟨_,rfl⟩
 rw[hj] at cn ⊢
 have hsub:IntKind.i64.wrap ((N:Int) - 1)=(j:Int):=by rw[IntKind.wrap_i64];omega
 have hjN:j<N:=by omega
 have hsub2:((N:Int) - 1)=(j:Int):=by omega
 obtain rfl:N=j+1:=by omega
 clear hj hsub hsub2
 go_enter Tryz.func328,Tryz.ntmps328
 go_wp2
 go_ret
 exact ⟨⟨_,rfl⟩,rfl,rfl,rfl,rfl⟩
theorem pop_any (h:RowsAt m q w base P L) (hL:L ≠ []) :
  Calls Tryz.prog 328 #[.pointer (some ⟨P,0,none⟩)] w fun e w'=>(∃v,e = .returned v)∧RowsAt m q w' base P L.dropLast∧Turn q w w':=by
 have hpos:0<L.length:=List.length_pos_iff.2 hL
 obtain ⟨g,cap,vs,h1,h2,h3,h4,h5,h6⟩:=h.some hpos
 obtain ⟨An,cn,n1,n2,n3⟩:=h6 (L.length - 1) (by omega)
 have en:=World.ownsRow.cellAt h2 (L.length - 1) (by omega)
 have hvs:vs.length=L.length:=by have:=h2.1;omega
 have p0:=(cells_of h1 0).1
 have f0:=(cells_of h1 0).2
 simp only[List.getElem?_toArray,List.getElem?_cons_zero] at p0
 refine (pop_raw w P g L.length cap _ (.func (.func cmpF) #[] #[]) hpos h.few h5 h4 p0 (en.trans n1) f0 ⟨_,_,_,rfl⟩).mono fun e w' ⟨he,hw⟩=>⟨he,?_,?_⟩
 ·have hkk:Kept (fun k=>k≠P) w w':=fun k hk=>by
   rw[hw.heap]
   exact Below.heap_setCell _ _ _ _ hk
  have hz:w'.heap.size=w.heap.size:=by rw[hw.heap];simp
  have hn:L.length=(L.length - 1)+1:=by omega
  have hrow:w.ownsRow base 23 1 (.slice (some ⟨g,0,none⟩) (L.length - 1) cap) (L.length - 1) vs.dropLast:=by
   have hx:vs=vs.dropLast ++ [vs.getLast (fun e=>by rw[e] at hvs;simp at hvs;omega)]:=(List.dropLast_concat_getLast _).symm
   have h2':=h2
   rw[hx] at h2'
   refine ownsRow_pop (last := [vs.getLast (fun e=>by rw[e] at hvs;simp at hvs;omega)]) (by rw[List.length_dropLast];omega) ?_
   rw[←hn]
   exact h2'
  refine ⟨⟨.slice (some ⟨g,0,none⟩) (L.length - 1) cap,vs.dropLast,?_,?_,?_,?_⟩,h.at_,?_,h.apart,fun k e=>by rw[hz];exact h.lt k e,by rw[List.length_dropLast];have:=h.few;omega⟩
  ·rw[hw.heap]
   have hP:=heap_setCell_same w P 0 _ _ (.slice (some ⟨g,0,none⟩) (L.length - 1) cap) h1
   rw[hP]
   rfl
  ·rw[List.length_dropLast]
   exact ownsRow_kept hrow fun k e=>hkk k (by obtain rfl:g=k:=Option.some.inj e;exact h4)
  ·intro k e
   obtain rfl:g=k:=Option.some.inj e
   exact ⟨h3,h4⟩
  ·intro k hk
   rw[List.length_dropLast] at hk
   obtain ⟨Ak,ck,k1,k2,k3⟩:=h6 k (by omega)
   rw[List.getElem_dropLast,List.getElem?_dropLast,if_pos (by omega)]
   exact ⟨Ak,ck,k1,k2,(k3.keep (hkk.mono fun k e=>e.2.1)).mono fun k e=>⟨e.1,e.2.1,fun e2=>e.2.2 (Option.some.inj e2).symm⟩⟩
  ·intro r hr x hx
   exact (h.ok r ((List.dropLast_sublist L).subset hr) x hx).keep (hkk.mono fun k e e2=>h.apart k e (e2 ▸ h.at_))
 ·exact hw.turn (Turn.setCell _ _ _ h.at_)
structure StAt (m q:Nat→Prop) (base P:Nat) (W0:World) (L:List (List El)) (w:World):Prop where
 rows:RowsAt m q w base P L
 turn:Turn q W0 w
theorem heapI (m q:Nat→Prop) (base P:Nat) (W0:World):HeapI 253 ⟨P,0,none⟩ 326 327 329 328 (headLess lt key) (fun r=>r ≠ []) (StAt m q base P W0) where
 wo:=headLess_wo key ordr
 mN w:=by kernel_rfl
 mL w:=by kernel_rfl
 mS w:=by kernel_rfl
 mP w:=by kernel_rfl
 eN:=enters_of Tryz.func326 (by kernel_rfl) rfl
 eL:=enters_of Tryz.func327 (by kernel_rfl) rfl
 eS:=enters_of Tryz.func329 (by kernel_rfl) rfl
 eP:=enters_of Tryz.func328 (by kernel_rfl) rfl
 drew L w n h:=⟨h.rows.drewN n,h.turn.trans (Turn.drewN _ _)⟩
 few L w h:=h.rows.few
 len L w h:=len_any h.rows
 lss L w i j h h1 h2 h3 h4 n1 n2:=less_any h.rows i j h1 h2 h3 h4 n1 n2
 swp L w i j h h1 h2 h3 h4:=(swap_any h.rows i j h1 h2 h3 h4).mono fun e w' ⟨he,hr,ht⟩=>⟨he,hr,h.turn.trans ht⟩
 pop L w h hL:=(pop_any h.rows hL).mono fun e w' ⟨he,hr,ht⟩=>⟨he,hr,h.turn.trans ht⟩
end
end KI
namespace KI
open Go.RowKit Go.Shelf Go.Sort
theorem einfo:(Tryz.prog.info? 3).map (fun i=>(i.zero,i.size,i.bytes))=some (some (.int .i64 0),1,8):=by kernel_rfl
theorem owns_le {w:World}{base b:Nat}{e:TypeId}{sz n:Nat}{v:Value}{xs:List Value}(h:w.ownsRow base e sz v n xs) (hb:b≤base):w.ownsRow b e sz v n xs:=by
 refine ⟨h.1,?_⟩
 rcases h.2 with h|⟨g,cap,cur,hv,hg,r⟩
 ·exact .inl h
 ·exact .inr ⟨g,cap,cur,hv,Nat.le_trans hb hg,r⟩
def RowVal (w:World) (xs:List El) (e:Ending) (w' : World):Prop:=∃v,e = .returned v∧w'.ownsRow w.heap.size 3 1 v xs.length (xs.map val)∧Below w.heap.size w w'
theorem Clone_any (A:Option Addr) (n c:Nat) (xs:List El) (hn:xs.length=n) (w:World) (h:Sees w w.heap.size A (xs.map val)) (hlen:n≤1000000) :
  Calls Tryz.prog 194 #[.slice A n c] w (RowVal w xs):=by
 have he:=fun (W:World) (a:Option Addr) (n c:Nat)=>Lib.run_eql_slice_nil (P:=Tryz.prog) W 23 3 a n c 0 0 Tryz.underlying23
 cases A with
 | none =>
  have hx:xs = []:=by
   rcases h.out with h|⟨ad,h,_⟩
   ·simpa using h
   ·cases h
  subst hx
  subst hn
  go_enter Tryz.func194,Tryz.ntmps194
  go_wp2
  go_ret
  exact ⟨_,rfl,World.ownsRow_nil _ _ _ _,Below.refl _ _⟩
 | some ad =>
  obtain ⟨i,hi,hz,hx,hy⟩:=info_parts einfo
  have hml:(xs.map val).length=n*1:=by rw[List.length_map,hn,Nat.mul_one]
  have h1:∀u∈xs.map val,u.oneCell'=true:=fun u hu=>by
   obtain ⟨x, -,rfl⟩:=List.mem_map.1 hu
   exact val_one x
  have HN:=Lib.hid hn
  have hown0:=World.ownsRow_made (base:=w.heap.size) (e:=3) (size:=1) w #[] 0 (Nat.le_refl _) (Nat.zero_le _) (by simp)
  have hsee:=h.alloc (Nat.le_refl _) (.cells #[] 3)
  clear hn h
  go_enter Tryz.func194,Tryz.ntmps194
  go_wp2_with (at_builtin;refine wpList_append_v rfl (.tmp 5) (.tmp 6) 23 rfl 3 i (.int .i64 0) 1 8 Tryz.underlying23 hi hz hx hy rfl (by omega) w.heap.size (.slice (some ⟨w.heap.size,0,none⟩) 0 0) 0 [] (by rfl) hown0 w.heap.size (some ad) n c (xs.map val) (by rfl) hml hsee h1 (by simp only[maxLen];omega) (by omega) (by simp) ?_;intro v1 w1 hown1 hon1)
  go_ret
  refine ⟨v1,rfl,?_,((Onto.new _ _ (.slice none 0 0) _ _).trans hon1).below_nil⟩
  rw[HN.out]
  simpa using hown1
theorem sw_heap {α:Type} [Inhabited α] (enc:α→Value) (w:World) (g m:Nat) (d:Array α) (os:Array Obj) (k:Nat) (hk:k<w.heap.size):(sortWorld enc w g 0 m d os).heap[k]?=if g=k then (w.heap[k]?).map (onCells (putCells enc 0 d)) else w.heap[k]?:=by
 show ((w.heap.modify g (onCells (putCells enc 0 d)))++os)[k]?=_
 rw[Array.getElem?_append_left (by simpa using hk),Array.getElem?_modify]
theorem sw_size {α:Type} [Inhabited α] (enc:α→Value) (w:World) (g m:Nat) (d:Array α) (os:Array Obj):w.heap.size≤(sortWorld enc w g 0 m d os).heap.size:=by
 show _≤((w.heap.modify g (onCells (putCells enc 0 d)))++os).size
 simp
theorem sw_cells {α:Type} [Inhabited α] (enc:α→Value) (d:Array α) (cur:Array Value) (h:d.size≤cur.size):(putCells enc 0 d cur).toList.take d.size=d.toList.map enc:=by
 apply List.ext_getElem?
 intro t
 by_cases ht:t<d.size
 ·rw[List.getElem?_take,if_pos ht]
  have hs:t<(putCells enc 0 d cur).size:=by unfold putCells;simp;omega
  rw[List.getElem?_eq_getElem (by rw[Array.length_toList];exact hs),Array.getElem_toList,List.getElem?_map,Array.getElem?_toList,Array.getElem?_eq_getElem ht]
  unfold putCells
  rw[Array.getElem_mapIdx,if_pos ⟨Nat.zero_le _,by omega⟩]
  simp[ht]
 ·rw[List.getElem?_eq_none (by rw[List.length_take];omega),List.getElem?_eq_none (by rw[List.length_map,Array.length_toList];omega)]
theorem SortFunc_any (m:Nat→Prop) (base g cap n:Nat) (ls:List El) (hne:ls ≠ []) (hn:ls.length=n) (w:World) (hown:w.ownsRow base 3 1 (.slice (some ⟨g,0,none⟩) n cap) n (ls.map val)) (hok:∀x∈ls,EOk m w x) (hm:∀k,m k→k<w.heap.size∧k≠g) (hlen:n≤1000000) :
  Calls Tryz.prog 195 #[.slice (some ⟨g,0,none⟩) n cap,.func (.func cmpF) #[] #[]] w fun e w' =>
   e = .returned (.tuple #[])∧∃ls' : List El,ls'.Perm ls∧Wk lt (ls'.map key)∧w'.ownsRow base 3 1 (.slice (some ⟨g,0,none⟩) n cap) n (ls'.map val)∧Turn (fun k=>k=g) w w':=by
 let α := { x:El // EOk m w x }
 haveI:Inhabited α:=⟨⟨ls.head hne,hok _ (List.head_mem hne)⟩⟩
 obtain ⟨dl,hdl⟩:∃dl:List α,dl.map (·.1)=ls:=⟨ls.attach.map fun x=>⟨x.1,hok x.1 x.2⟩,by rw[List.map_map];exact List.attach_map_subtype_val ls⟩
 let enc:α→Value:=fun x=>val x.1
 have hvl:∀l:List α,l.map enc=(l.map (·.1)).map val:=fun l=>by simp[enc]
 have hsz:dl.toArray.size=n:=by rw[List.size_toArray, ←hn, ←hdl,List.length_map]
 rcases hown.2 with ⟨h0, -⟩|⟨g',cap',cur,hv,hbg,hh,hnc,hcm,hcs,htk⟩
 ·cases h0
 injection hv with h1 h2 h3
 injection h1 with h1
 injection h1 with h1
 subst h1 h3
 have hgs:g<w.heap.size:=(Array.getElem?_eq_some_iff.1 hh).1
 have hH:Holds enc w g 0 dl.toArray:=fun j hj=>by
  have hj2:j<n:=by rw[hsz] at hj;exact hj
  have h1:=World.ownsRow.cellAt hown j (by omega)
  rw[←hdl, ←hvl,List.getElem?_map] at h1
  have h2:=World.ownsRow.frozenAt hown j
  rw[Nat.zero_add]
  refine ⟨?_,h2⟩
  rw[h1,getElem!_pos _ j hj,List.getElem_toArray,List.getElem?_eq_getElem (by simpa using hj)]
  rfl
 have hO:SWO (ltOf fun x y:α=>cmpI x.1 y.1):=by
  have e:∀x y:α,ltOf (fun x y:α=>cmpI x.1 y.1) x y=lt (key x.1) (key y.1):=fun x y=>cmp_neg x.1 y.1
  exact ⟨fun x=>by rw[e];exact ordr.irrefl _,fun x y z h1 h2=>by rw[e] at *;exact ordr.trans _ _ _ h1 h2,fun x y z h1 h2=>by rw[e] at *;exact ordr.ntrans h2 h1⟩
 have hC:CmpLays1 Tryz.prog cmpF #[] enc (fun x y:α=>cmpI x.1 y.1) g 0 dl.toArray.size w:=fun m' os dk _ x y=>by
  have hk:Kept m w (sortWorld enc w g 0 m' dk os):=fun k hk=>by rw[sw_heap enc w g m' dk os k (hm k hk).1,if_neg (fun e=>(hm k hk).2 e.symm)]
  refine (cmp_any (m:=m) x.1 y.1 _ (x.2.keep hk) (y.2.keep hk) (fun k e=>Nat.lt_of_lt_of_le (hm k e).1 (sw_size _ _ _ _ _ _))).mono fun e w' ⟨he,hw⟩=>⟨he,0,#[],?_⟩
  rw[←hw,grow_empty]
  rfl
 have hcon:=Any.slices_SortFunc Tryz.sortI enc (fun x=>val_one x.1) (fun x y:α=>cmpI x.1 y.1) hO cmpF #[] g 0 cap dl.toArray w enters_cmp hC hH hgs (by rw[hsz];omega)
 change Calls Tryz.prog 195 _ _ _ at hcon
 rw[hsz] at hcon
 refine hcon.mono ?_
 rintro e w' ⟨rfl,d',m',os,hp,hs,rfl⟩
 obtain ⟨hps, -,hpp⟩:=hp
 rw[hsz] at hps
 have hpm:d'.toList.Perm dl:=by
  have e1:d'.extract 0 n=d':=by rw[←hps];exact Array.extract_size
  have e2:dl.toArray.extract 0 n=dl.toArray:=by rw[←hsz];exact Array.extract_size
  rw[e1,e2] at hpp
  exact hpp
 refine ⟨rfl,d'.toList.map (·.1),by rw[←hdl];exact hpm.map _,?_,⟨by simp[hps],.inr ⟨g,cap,putCells enc 0 d' cur,rfl,hbg,?_,hnc,hcm,?_,?_⟩⟩,rfl,rfl,rfl,sw_size _ _ _ _ _ _,?_⟩
 ·refine List.pairwise_iff_getElem.2 fun i j hi hj hij => ?_
  simp only[List.length_map,Array.length_toList] at hi hj
  have:=hs i j (Nat.zero_le _) hij (by rw[←hps];exact hj)
  rw[getElem!_pos d' i hi,getElem!_pos d' j hj] at this
  have e:∀x y:α,ltOf (fun x y:α=>cmpI x.1 y.1) x y=lt (key x.1) (key y.1):=fun x y=>cmp_neg x.1 y.1
  rw[e] at this
  simpa using this
 ·rw[sw_heap enc w g m' d' os g hgs,if_pos rfl,hh]
  rfl
 ·unfold putCells;rw[Array.size_mapIdx];exact hcs
 ·have:=sw_cells enc d' cur (by rw[hcs,hps];omega)
  rw[hps,hvl] at this
  rw[Nat.mul_one]
  exact this
 ·intro k hk hkg
  rw[sw_heap enc w g m' d' os k hk,if_neg (fun e=>hkg e.symm)]
end KI
namespace KI
open Go.RowKit Go.Shelf
structure RowsIn (m:Nat→Prop) (w:World) (A:Option Addr) (ll:List (List El)):Prop where
 out:∀i (hi:i<ll.length),∃ad Ai ci,A=some ad∧m ad.block∧w.cell? (ad.add i)=some (.slice Ai (ll[i]).length ci)∧(ll[i]).length≤ci∧SeesM m w Ai ((ll[i]).map val)∧∀x∈ll[i],EOk m w x
theorem RowsIn.keep {m:Nat→Prop}{w w' : World}{A:Option Addr}{ll:List (List El)}(h:RowsIn m w A ll) (hk:Kept m w w'):RowsIn m w' A ll:=⟨fun i hi=>by
 obtain ⟨ad,Ai,ci,h1,h2,h3,h4,h5,h6⟩:=h.out i hi
 exact ⟨ad,Ai,ci,h1,h2,(hk.cell (by rw[add_block];exact h2)).trans h3,h4,h5.keep hk,fun x hx=>(h6 x hx).keep hk⟩⟩
theorem RowsIn.mono {m m' : Nat→Prop}{w:World}{A:Option Addr}{ll:List (List El)}(h:RowsIn m w A ll) (hm:∀k,m k→m' k):RowsIn m' w A ll:=⟨fun i hi=>by
 obtain ⟨ad,Ai,ci,h1,h2,h3,h4,h5,h6⟩:=h.out i hi
 exact ⟨ad,Ai,ci,h1,hm _ h2,h3,h4,h5.mono hm,fun x hx=>(h6 x hx).mono hm⟩⟩
def own (base:Nat) (w:World):Nat→Prop:=fun k=>base≤k∧k<w.heap.size
theorem RowsAt.start (w:World) (n0:Nat) (hn:n0≤w.heap.size):RowsAt (fun k=>k<n0) (own w.heap.size (w.alloc (.cells #[.slice none 0 0,.func (.func cmpF) #[] #[]] 255))) (w.alloc (.cells #[.slice none 0 0,.func (.func cmpF) #[] #[]] 255)) w.heap.size w.heap.size [] :=
 ⟨⟨.slice none 0 0, [],World.alloc_heap_new w _,World.ownsRow_nil _ _ _ _,fun k e=>by simp[Value.ownBlock] at e,fun i hi=>absurd hi (by simp)⟩,⟨Nat.le_refl _,by simp⟩,by simp,fun k h1 h2=>by have:=h2.1;omega,fun k e=>by rcases e with e|e;exact e.2;simp;omega,by simp⟩
theorem push_done {n0 base P:Nat}{wr w2 w3:World}{L:List (List El)}{x:List El}{g1 c1:Nat}{v v' : Value}{vs:List Value}
  (h:RowsAt (fun k=>k<n0) (own base wr) wr base P L) (hn0:n0≤base) (ht:Turn (fun k=>wr.heap.size≤k) wr w2)
  (hx:SeesM (fun k=>wr.heap.size≤k∧k<w2.heap.size) w2 (some ⟨g1,0,none⟩) (x.map val)) (hxc:x.length≤c1) (hxo:∀y∈x,EOk (fun k=>k<n0) wr y)
  (h1:wr.heap[P]?=some (.cells #[v,.func (.func cmpF) #[] #[]] 255 (0,0))) (h2:wr.ownsRow base 23 1 v L.length vs) (h3:∀k,v.ownBlock=some k→own base wr k∧k≠P)
  (h4:∀i (hi:i<L.length),∃Ai ci,vs[i]?=some (.slice Ai (L[i]).length ci)∧(L[i]).length≤ci∧SeesM (fun k=>own base wr k∧k≠P∧v.ownBlock≠some k) wr Ai ((L[i]).map val))
  (hown:w3.ownsRow base 23 1 v' (L.length+1) (vs ++ [.slice (some ⟨g1,0,none⟩) x.length c1])) (hon:Onto w2 w3 v v') (hL:L.length+1≤1000000) :
  RowsAt (fun k=>k<n0) (own base (w3.setCell ⟨P,0,none⟩ v')) (w3.setCell ⟨P,0,none⟩ v') base P (L ++ [x])∧Turn (fun k=>base≤k) wr (w3.setCell ⟨P,0,none⟩ v'):=by
 have hs2:=ht.size
 have hs3:=hon.size
 obtain ⟨hP1,hP2⟩:=h.at_
 have hvs:vs.length=L.length:=by have:=h2.1;omega
 have hPv:v.ownBlock≠some P:=fun e=>(h3 P e).2 rfl
 have hv' : ∀k,k<w2.heap.size→v.ownBlock≠some k→v'.ownBlock≠some k:=fun k hk hne e=>by
  rcases hon.at_ with e2|⟨g,e2,hg⟩
  ·exact hne (e2 ▸ e)
  ·rw[e2] at e;injection e with e;omega
 have hPv':=hv' P (by omega) hPv
 have hk23:∀k,k<w2.heap.size→v.ownBlock≠some k→k≠P→(w3.setCell ⟨P,0,none⟩ v').heap[k]?=w2.heap[k]?:=fun k a b c =>
  (Below.heap_setCell _ _ _ _ c).trans (hon.grown.block k a (fun e=>b e.symm))
 have hkr:Kept (fun k=>k<wr.heap.size∧k≠P∧v.ownBlock≠some k) wr (w3.setCell ⟨P,0,none⟩ v'):=fun k hk =>
  (hk23 k (by omega) hk.2.2 hk.2.1).trans (ht.block k hk.1 (by omega))
 have hkm:Kept (fun k=>k<n0) wr (w3.setCell ⟨P,0,none⟩ v'):=hkr.mono fun k hk=>⟨by omega,by omega,fun e=>by have:=(h3 k e).1.1;omega⟩
 have hz:(w3.setCell ⟨P,0,none⟩ v').heap.size=w3.heap.size:=World.size_setCell _ _ _
 refine ⟨⟨⟨v',vs ++ [.slice (some ⟨g1,0,none⟩) x.length c1],?_,?_,?_,?_⟩,⟨hP1,by omega⟩,?_,fun k a b=>by have:=b.1;omega,fun k e=>by rcases e with e|e;exact e.2;omega,by simpa using hL⟩,?_⟩
 ·have h5:w3.heap[P]?=some (.cells #[v,.func (.func cmpF) #[] #[]] 255 (0,0)):=((hon.grown.block P (by omega) (fun e=>hPv e.symm)).trans (ht.block P hP2 (by omega))).trans h1
  rw[heap_setCell_same w3 P 0 _ _ v' h5]
  rfl
 ·rw[List.length_append]
  exact ownsRow_kept hown fun k e=>Below.heap_setCell _ _ _ _ (fun e2=>hPv' (by rw[←show k=P from e2];exact e))
 ·intro k e
  have:=World.ownsRow.lt hown k e
  exact ⟨⟨this.1,by omega⟩,fun e2=>hPv' (e2 ▸ e)⟩
 ·intro i hi
  by_cases hlt:i<L.length
  ·obtain ⟨Ai,ci,g1,g2,g3⟩:=h4 i hlt
   rw[List.getElem_append_left hlt,List.getElem?_append_left (by omega)]
   exact ⟨Ai,ci,g1,g2,(g3.keep (hkr.mono fun k e=>⟨e.1.2,e.2⟩)).mono fun k e=>⟨⟨e.1.1,by have:=e.1.2;omega⟩,e.2.1,hv' k (by have:=e.1.2;omega) e.2.2⟩⟩
  ·have he:i=L.length:=by simp at hi;omega
   subst he
   rw[List.getElem_append_right (Nat.le_refl _),List.getElem?_append_right (by omega)]
   have hne:∀k,wr.heap.size≤k→k≠P∧v.ownBlock≠some k:=fun k hk=>⟨by omega,fun e=>by have:=(h3 k e).1.2;omega⟩
   refine ⟨some ⟨g1,0,none⟩,c1,by simp[hvs],by simpa using hxc,?_⟩
   simp only[Nat.sub_self,List.getElem_cons_zero]
   exact (hx.keep fun k e=>hk23 k e.2 (hne k e.1).2 (hne k e.1).1).mono fun k e=>⟨⟨by have:=h.at_.2;have:=e.1;omega,by have:=e.2;omega⟩,(hne k e.1).1,hv' k e.2 (hne k e.1).2⟩
 ·intro r hr y hy
  rcases List.mem_append.1 hr with hr|hr
  ·exact (h.ok r hr y hy).keep hkm
  ·simp only[List.mem_singleton] at hr
   subst hr
   exact (hxo y hy).keep hkm
 ·exact ((ht.mono fun k _ e=>by omega).trans (Turn.onto hon fun k e=>(h3 k e).1.1)).trans (Turn.setCell _ _ _ hP1)
theorem tail_done {m q:Nat→Prop}{w w' : World}{base P g cap c0:Nat}{x:El}{r:List El}{T:List (List El)}{A0:Option Addr}{vs:List Value}
  (h:RowsAt m q w base P ((x :: r) :: T))
  (h1:w.heap[P]?=some (.cells #[.slice (some ⟨g,0,none⟩) (T.length+1) cap,.func (.func cmpF) #[] #[]] 255 (0,0))) (h2:w.ownsRow base 23 1 (.slice (some ⟨g,0,none⟩) (T.length+1) cap) (T.length+1) vs) (h3:q g) (h4:g≠P)
  (h6:∀i (hi:i<((x :: r) :: T).length),∃Ai ci,vs[i]?=some (.slice Ai (((x :: r) :: T)[i]).length ci)∧(((x :: r) :: T)[i]).length≤ci∧SeesM (fun k=>q k∧k≠P∧k≠g) w Ai ((((x :: r) :: T)[i]).map val))
  (hv:vs[0]?=some (.slice A0 (r.length+1) c0)) (hc:r.length+1≤c0) (hs:SeesM (fun k=>q k∧k≠P∧k≠g) w A0 ((x :: r).map val))
  (A1:Option Addr) (hA1:A1=if c0=1 then A0 else A0.map (fun a=>a.add 1)) (hw:Alk w' (w.setCell ⟨g,0,none⟩ (.slice A1 r.length (c0 - 1)))):RowsAt m q w' base P (r :: T)∧Turn q w w':=by
 obtain ⟨s1,g1⟩:=World.ownsRow.stored h2 0 (.slice A1 r.length (c0 - 1))
 have hkk:Kept (fun k=>k≠g) w w':=fun k hk=>by rw[hw.heap];exact Below.heap_setCell _ _ _ _ hk
 have hz:w'.heap.size=w.heap.size:=by rw[hw.heap];simp
 have hvs:vs.length=T.length+1:=by have:=h2.1;omega
 refine ⟨⟨⟨.slice (some ⟨g,0,none⟩) (T.length+1) cap,vs.set 0 (.slice A1 r.length (c0 - 1)),(hkk P (Ne.symm h4)).trans h1,ownsRow_kept (w:=w.setCell ⟨g,0,none⟩ (.slice A1 r.length (c0 - 1))) s1 (fun k _=>by rw[hw.heap]),fun k e => ?_,fun i hi => ?_⟩,h.at_,fun s hs y hy => ?_,h.apart,fun k e=>by rw[hz];exact h.lt k e,h.few⟩,?_⟩
 ·obtain rfl:g=k:=Option.some.inj e
  exact ⟨h3,h4⟩
 ·have hkeep:∀ {A:Option Addr}{xs:List Value},SeesM (fun k=>q k∧k≠P∧k≠g) w A xs→SeesM (fun k=>q k∧k≠P∧(Value.slice (some ⟨g,0,none⟩) (T.length+1) cap).ownBlock≠some k) w' A xs:=fun hs =>
   (hs.keep (hkk.mono fun k e=>e.2.2)).mono fun k e=>⟨e.1,e.2.1,fun e2=>e.2.2 (Option.some.inj e2).symm⟩
  match i,hi with
  | 0,hi =>
   refine ⟨A1,c0 - 1,?_,by simp;omega,hkeep ?_⟩
   ·rw[List.getElem?_set_self (by omega)];rfl
   ·show SeesM _ w A1 (r.map val)
    rcases hs.out with e|⟨ad,e,e2,e3⟩
    ·simp at e
    ·subst e
     by_cases hr:r = []
     ·subst hr;exact ⟨.inl rfl⟩
     ·have hpos:0<r.length:=List.length_pos_iff.2 hr
      rw[hA1,if_neg (by omega)]
      refine ⟨.inr ⟨ad.add 1,rfl,by rw[add_block];exact e2,fun j u hu => ?_⟩⟩
      rw[add_add',Nat.add_comm]
      exact e3 (j+1) u (by simpa using hu)
  | i+1,hi =>
   obtain ⟨Ai,ci,i1,i2,i3⟩:=h6 (i+1) (by simpa using hi)
   rw[List.getElem?_set_ne (by omega)]
   exact ⟨Ai,ci,i1,i2,hkeep i3⟩
 ·have hy' : EOk m w y:=by
   rcases List.mem_cons.1 hs with rfl|hs
   ·exact h.ok (x :: s) (by simp) y (by simp[hy])
   ·exact h.ok s (by simp[hs]) y hy
  exact hy'.keep (hkk.mono fun k e e2=>h.apart k e (e2 ▸ h3))
 ·exact hw.turn (Turn.setCell _ _ _ h3)
theorem all_any (A:Option Addr) (n c:Nat) (w:World):Calls Tryz.prog 141 #[.slice A n c,.func (.func cmpF) #[] #[]] w fun e w' =>
  e = .returned (.func (.func 193) #[] #[.pointer (some ⟨w.heap.size+1,0,none⟩),.pointer (some ⟨w.heap.size,0,none⟩)])∧w'=(w.alloc (.cells #[.slice A n c] 146)).alloc (.cells #[.func (.func cmpF) #[] #[]] 150):=by
 go_enter Tryz.func141,Tryz.ntmps141
 go_wp2
 go_ret
 exact ⟨rfl,rfl⟩
end KI
namespace KI
open Go.RowKit Go.Shelf
attribute [local go_sem] Oper.semAt_some
def AllOk (n0:Nat) (K:List Key) (_:Nat→Prop) (pre:List El) (x:El) (W:World):Prop :=
 EOk (fun k=>k<n0) W x∧(pre.map key ++ [key x]) <+: K∧n0≤W.heap.size
theorem rowinfo:(Tryz.prog.info? 23).map (fun i=>(i.zero,i.size,i.bytes))=some (some (.slice none 0 0),1,24):=by kernel_rfl
theorem told_lt {pre:List El}{x:El}{K:List Key}(h:(pre.map key ++ [key x]) <+: K):pre.length<K.length:=by
 have:=h.length_le
 rw[List.length_append,List.length_map,List.length_singleton] at this
 omega
theorem all1_seq {w:World}{ll:List (List El)}{A:Option Addr}{n c:Nat}(n0:Nat) (hR:RowsIn (fun k=>k<n0) w A ll) (hn:ll.length=n) (hn6:n≤100000) (hl:∀r∈ll,r.length≤1000000) (B2 B3:Nat)
  (h2:w.cell? ⟨B2,0,none⟩=some (.slice A n c)) (h3:w.cell? ⟨B3,0,none⟩=some (.func (.func cmpF) #[] #[])) (hB2:B2<w.heap.size) (hB3:B3<w.heap.size) (hn0:n0≤w.heap.size) (nf:Nat) :
  SeqT Fence.wide nf Tryz.prog 193 #[.pointer (some ⟨B3,0,none⟩),.pointer (some ⟨B2,0,none⟩)] (fun x:El => #[val x]) (fun k=>k<n0∨k=B2∨k=B3) (fun _=>False) (AllOk n0 (sortK lt (ll.flatten.map key))) (fun xs=>xs.map key=sortK lt (ll.flatten.map key)) (fun pre=>pre.map key <+: sortK lt (ll.flatten.map key)) (sortK lt (ll.flatten.map key)).length w:=by
 intro l J Jx W hW hJ hJx hY h0
 have hkR:Kept (fun k=>k<n0∨k=B2∨k=B3) w W:=Kept.of_below hW (fun k hk=>by rcases hk with hk|rfl|rfl<;>omega)
 have hRW:=hR.keep (hkR.mono fun k hk => .inl hk)
 have h2W:=(hkR.cell (p:=⟨B2,0,none⟩) (.inr (.inl rfl))).trans h2
 have h3W:=(hkR.cell (p:=⟨B3,0,none⟩) (.inr (.inr rfl))).trans h3
 have hnW:n0≤W.heap.size:=Nat.le_trans hn0 hW.size
 have hB2W:B2<W.heap.size:=Nat.lt_of_lt_of_le hB2 hW.size
 have hB3W:B3<W.heap.size:=Nat.lt_of_lt_of_le hB3 hW.size
 obtain ⟨K,hK⟩:∃K,sortK lt (ll.flatten.map key)=K:=⟨_,rfl⟩
 rw[hK] at hY ⊢
 have HK:=Lib.hid hK
 have HN:=Lib.hid hn
 have HL:=Lib.hid hl
 have hst:=RowsAt.start W n0 hnW
 have hJ0:=hJ _ _ _ _ h0 (Turn.alloc W (.cells #[.slice none 0 0,.func (.func cmpF) #[] #[]] 255))
 have hk0:Kept (fun k=>k<W.heap.size) W (W.alloc (.cells #[.slice none 0 0,.func (.func cmpF) #[] #[]] 255)):=fun k hk=>Below.heap_alloc _ _ _ hk
 have HK0:=Lib.hid hk0
 have hsub:∀k,grown (fun _=>False) W (W.alloc (.cells #[.slice none 0 0,.func (.func cmpF) #[] #[]] 255)) k↔own W.heap.size (W.alloc (.cells #[.slice none 0 0,.func (.func cmpF) #[] #[]] 255)) k:=fun k=>by
  unfold grown own
  simp
 have HSUB:=Lib.hid hsub
 generalize hgen:grown (fun _=>False) W (W.alloc (.cells #[.slice none 0 0,.func (.func cmpF) #[] #[]] 255))=s0 at hJ0 HSUB
 clear hR h2 h3 hK hn hl hkR h0 hW hB2 hB3 hn0 hk0 hsub hgen
 obtain ⟨ti,hi,hz0,hz1,hz2⟩:=info_parts rowinfo
 have HI:=Lib.hid hi
 have HZ0:=Lib.hid hz0
 have HZ1:=Lib.hid hz1
 have HZ2:=Lib.hid hz2
 clear hi hz0 hz1 hz2
 refine callsIn_of_wp Tryz.func193 rfl trivial ?_ rfl
 simp only[Tryz.ntmps193,List.size_toArray,List.length_cons,List.length_nil,Nat.reduceAdd,Nat.reduceSub,Array.replicate_succ,Array.replicate_zero,List.push_toArray,List.append_toArray,List.nil_append,List.cons_append]
 gi_wp2_with fail
 gi_loopg [12] n (fun g i wr=>∃(k:Nat) (s:Nat→Prop) (L:List (List El)),k+g=n∧i = .int .i64 k∧J s [] wr∧RowsAt (fun k=>k<n0) (own W.heap.size wr) wr W.heap.size W.heap.size L∧L.length≤k∧Hid ((∀r∈L,r ≠ []∧Wk lt (r.map key))∧L.flatten.Perm (ll.take k).flatten)∧Kept (fun k=>k<W.heap.size) W wr∧W.heap.size<wr.heap.size∧Hid (∀k,s k↔own W.heap.size wr k))
 case atStart=>exact ⟨0,s0, [],by omega,rfl,hJ0,hst,Nat.le_refl _,⟨by simp,by simp⟩,HK0.out,by simp,HSUB.out⟩
 case round =>
  obtain ⟨k,s,L,hk,rfl,hJs,hrows,hLk,hrel,hkept,hsz,hs⟩:=hrel
  clear hJ0 hst HK0 HSUB
  by_cases hlt:k<n
  ·have hRr:=(hRW.keep (hkept.mono fun k e=>Nat.lt_of_lt_of_le e hnW)).mono (m':=fun k=>k<wr.heap.size) (fun k e=>by omega)
   obtain ⟨ad,Ak,ck,rfl,hadm,hcell,hck,hsee,hxs⟩:=(hRW.keep (hkept.mono fun k e=>Nat.lt_of_lt_of_le e hnW)).out k (by have:=HN.out;omega)
   have h3r:wr.cell? ⟨B3,0,none⟩=some (.func (.func cmpF) #[] #[]):=(hkept.cell (p:=⟨B3,0,none⟩) hB3W).trans h3W
   have hlen:=HL.out _ (List.getElem_mem (by have:=HN.out;omega:k<ll.length))
   have htk:=List.take_succ_eq_append_getElem (by have:=HN.out;omega:k<ll.length)
   obtain ⟨xs,hxs2⟩:∃xs,ll[k]'(by have:=HN.out;omega)=xs:=⟨_,rfl⟩
   rw[hxs2] at hcell hck hsee hxs hlen htk
   obtain ⟨lk,hlk⟩:∃lk,xs.length=lk:=⟨_,rfl⟩
   rw[hlk] at hcell hck hlen
   have HTK:=Lib.hid htk
   have HLK:=Lib.hid hlk
   have HXS:=Lib.hid hxs
   clear hRr htk hlk hxs2 hxs
   by_cases hl0:lk=0
   ·have hz:¬ (0:Int)<(lk:Int):=by omega
    have hx0:Hid (xs = []):=List.eq_nil_of_length_eq_zero (by rw[HLK.out];exact hl0)
    clear hl0
    gi_wp2_with fail
    gi_roundg (n - (k+1))
    case measure=>omega
    case rel=>exact ⟨k+1,s,L,by omega,by go_num,hJs,hrows,by omega,⟨hrel.out.1,by rw[HTK.out,hx0.out,List.flatten_append];simpa using hrel.out.2⟩,hkept,hsz,hs⟩
   ·have hpos:(0:Int)<(lk:Int):=by omega
    have hcl:=Lib.hid (Clone_any Ak lk ck xs HLK.out wr (hsee.sees fun k e=>by omega) hlen)
    clear hsee
    gi_wp2_with fail
    refine ⟨trivial,fun h=>absurd h (by simp[Fence.wide]),(callsIn_wide.2 hcl.out).mono ?_⟩
    rintro e w1 ⟨v1,rfl,hown1,hb1⟩
    rw[HLK.out] at hown1
    have hs1:=hb1.size
    obtain ⟨g1,c1,rfl⟩:∃g1 c1,v1 = .slice (some ⟨g1,0,none⟩) lk c1:=by
     obtain ⟨g1,c1,e⟩:=ownsRow_succ (k:=lk - 1) (by rw[show lk - 1+1=lk from by omega];exact hown1)
     exact ⟨g1,c1,by rw[e,show lk - 1+1=lk from by omega]⟩
    have hg1:=World.ownsRow.lt hown1 g1 rfl
    have h31:w1.cell? ⟨B3,0,none⟩=some (.func (.func cmpF) #[] #[]):=(hb1.cell (p:=⟨B3,0,none⟩) (by simp only;omega)).trans h3r
    have hso:=Lib.hid (SortFunc_any (fun k=>k<n0) wr.heap.size g1 c1 lk xs (fun e=>by have:=HLK.out;rw[e] at this;simp at this;omega) HLK.out w1 hown1 (fun x hx=>(HXS.out x hx).keep (Kept.of_below hb1 fun k e=>by omega)) (fun k e=>⟨by omega,by omega⟩) hlen)
    clear hcl h3r
    gi_wp2_with fail
    refine ⟨trivial,fun h=>absurd h (by simp[Fence.wide]),(callsIn_wide.2 hso.out).mono ?_⟩
    rintro e w2 ⟨rfl,ls,hperm,hwk,hown2,ht2⟩
    have hs2:=ht2.size
    have htr2:Turn (fun k=>wr.heap.size≤k) wr w2:=(Turn.of_new hb1).trans (ht2.mono fun k _ e=>by omega)
    obtain ⟨v,vs,r1,r2,r3,r4⟩:=hrows.out
    have hP2:w2.heap[W.heap.size]?=some (.cells #[v,.func (.func cmpF) #[] #[]] 255 (0,0)):=(htr2.block _ hsz (by omega)).trans r1
    have hro2:w2.ownsRow W.heap.size 23 1 v L.length vs:=ownsRow_kept r2 fun k e=>htr2.block _ (r3 k e).1.2 (by have:=(r3 k e).1.2;omega)
    have hvP:v.ownBlock≠some W.heap.size:=fun e=>(r3 _ e).2 rfl
    obtain ⟨Av,cv,rfl⟩:∃Av cv,v = .slice Av L.length cv:=by
     rcases r2.2 with ⟨rfl,hn⟩|⟨g,cap,cur,rfl, -⟩
     ·exact ⟨none,0,by rw[hn]⟩
     ·exact ⟨_,cap,rfl⟩
    have p0:=(cells_of hP2 0).1
    have f0:=(cells_of hP2 0).2
    simp only[List.getElem?_toArray,List.getElem?_cons_zero] at p0
    have hlsl:ls.length=lk:=by rw[hperm.length_eq];exact HLK.out
    have hnew:∀(j:Nat) (u:Value), [Value.slice (some ⟨g1,0,none⟩) lk c1][j]?=some u→(w2.alloc (.cells #[.slice (some ⟨g1,0,none⟩) lk c1] 23)).cell? ((⟨w2.heap.size,0,none⟩:Addr).add j)=some u:=fun j u hu=>by
     match j,hu with
     | 0,hu=>(simp at hu;subst hu;rw[Addr.add_lit,World.cell?_alloc_at _ _ _ _ rfl];rfl)
    have HNEW:=Lib.hid hnew
    have hro3:(w2.alloc (.cells #[.slice (some ⟨g1,0,none⟩) lk c1] 23)).ownsRow W.heap.size 23 1 (.slice Av L.length cv) L.length vs:=hro2.alloc _
    have hpst:w2.heap.size≠W.heap.size:=by omega
    have hown2':=Lib.hid hown2
    have htr3:Turn (fun k=>wr.heap.size≤k) wr (w2.alloc (.cells #[.slice (some ⟨g1,0,none⟩) lk c1] 23)):=htr2.trans (Turn.alloc _ _)
    have HLSL:=Lib.hid hlsl
    clear hso hown1 hnew hlsl hown2
    gi_wp2_with ((with_reducible refine wpListIn_append_own_at _ (o := { dst:=some 31,op:=Op.call { callee:=Callee.builtin Builtin.append,args := #[Operand.tmp 28,Operand.tmp 30],argTypes := #[146,146] },type:=146,pos := "kmerge.go:41",after := #[{ on:=4,ground:=Ground.data }, { on:=6,ground:=Ground.data }],guard:=none }) ?_ (.tmp 28) (.tmp 30) 146 ?_ W.heap.size 23 ti (.slice none 0 0) 1 24 ?_ HI.out HZ0.out HZ1.out HZ2.out ?_ ?_ (.slice Av L.length cv) L.length vs ?_ hro3 ⟨w2.heap.size,0,none⟩ 1 1 [.slice (some ⟨g1,0,none⟩) lk c1] ?_ ?_ HNEW.out ?_ ?_ ?_ ?_ ?_);exact rfl;exact rfl;exact Tryz.underlying146;exact rfl;omega;exact rfl;exact rfl;exact rfl;(exact fun u hu=>by simp at hu;subst hu;rfl);(simp only[maxLen];omega);omega;(simp;omega);intro v' w3 hown3 hg3 _ hat3;obtain ⟨gv,cv',rfl⟩:=ownsRow_succ hown3;have hp3:w3.heap[W.heap.size]?=some (.cells #[.slice Av L.length cv,.func (.func cmpF) #[] #[]] 255 (0,0)):=((hg3.block W.heap.size (by simp;omega) (fun e=>hvP e.symm)).trans (Below.heap_alloc _ _ _ (by omega))).trans hP2;have hp3c:=(cells_of hp3 0).1;have hp3f:=(cells_of hp3 0).2;simp only[List.getElem?_toArray,List.getElem?_cons_zero] at hp3c)
    have hon3:Onto (w2.alloc (.cells #[.slice (some ⟨g1,0,none⟩) lk c1] 23)) w3 (.slice Av L.length cv) (.slice (some ⟨gv,0,none⟩) (L.length+1) cv'):=⟨hg3,by rcases hat3 with e|e;exact .inl e;exact .inr ⟨_,e,Nat.le_refl _⟩⟩
    have hsx:SeesM (fun k=>wr.heap.size≤k∧k<(w2.alloc (.cells #[.slice (some ⟨g1,0,none⟩) lk c1] 23)).heap.size) (w2.alloc (.cells #[.slice (some ⟨g1,0,none⟩) lk c1] 23)) (some ⟨g1,0,none⟩) (ls.map val) :=
     ⟨.inr ⟨⟨g1,0,none⟩,rfl,⟨hg1.1,by simp;omega⟩,World.ownsRow.cells (hown2'.out.alloc _) (g:=g1) rfl⟩⟩
    have hcap1:lk≤c1:=by
     rcases hown2'.out.2 with ⟨h0, -⟩|⟨_,_,_,hv, -, -,hnc, -⟩
     ·cases h0
     ·injection hv with _ _ h3;omega
    obtain ⟨hrows2,hturn⟩:=push_done (x:=ls) hrows hnW htr3 hsx (by rw[HLSL.out];exact hcap1) (fun y hy=>HXS.out y (hperm.mem_iff.1 hy)) r1 r2 r3 r4 (by rw[HLSL.out];exact hown3) hon3 (by omega)
    have hJ2:=hJ _ _ _ _ hJs (hturn.mono fun j hj e=>hs.out j |>.2 ⟨e,hj⟩)
    have hsz2:=hturn.size
    have hk2:Kept (fun k=>k<W.heap.size) W (w3.setCell ⟨W.heap.size,0,none⟩ (.slice (some ⟨gv,0,none⟩) (L.length+1) cv')):=hkept.trans (Kept.of_turn hturn fun k e=>⟨by omega,by omega⟩)
    gi_wp2_with fail
    gi_roundg (n - (k+1))
    case measure=>omega
    case rel=>exact ⟨k+1,_,L ++ [ls],by omega,by go_num,hJ2,hrows2,by simpa using hLk,⟨fun r hr=>by rcases List.mem_append.1 hr with hr|hr;exact hrel.out.1 r hr;(simp only[List.mem_singleton] at hr;subst hr;exact ⟨fun e=>by have:=HLSL.out;rw[e] at this;simp at this;omega,hwk⟩),by rw[HTK.out,List.flatten_append,List.flatten_append];exact hrel.out.2.append (by simpa using hperm)⟩,hk2,by omega,fun j=>by unfold grown;rw[hs.out j];unfold own;omega⟩
  ·have hkn:k=n:=by omega
   have hperm:Hid (L.flatten.Perm ll.flatten):=by
    have:=hrel.out.2
    rw[List.take_of_length_le (by have:=HN.out;omega)] at this
    exact this
   have hinit:=Lib.hid (Init_any (heapI (fun k=>k<n0) (own W.heap.size wr) W.heap.size W.heap.size wr) L wr ⟨hrows,Turn.refl _ _⟩ (fun r hr=>(hrel.out.1 r hr).1))
   clear hrows
   gi_wp2_with fail
   refine ⟨trivial,fun h=>absurd h (by simp[Fence.wide]),(callsIn_wide.2 hinit.out).mono ?_⟩
   rintro e w1 ⟨vi,M,rfl,⟨hrows1,hturn1⟩,hhp,hpm⟩
   have hJ1:=hJ _ _ _ _ hJs (hturn1.mono fun j hj e=>(hs.out j).2 e)
   have hM:=Lib.hid (MergeI.start (lt:=lt) (key:=key) hpm hperm.out (fun r hr=>(hrel.out.1 r hr).1) (fun r hr=>(hrel.out.1 r hr).2) hhp)
   have hqs:∀k,own W.heap.size wr k→grown s wr w1 k:=fun k e => .inl ((hs.out k).2 e)
   have hsl:∀k,grown s wr w1 k→k<w1.heap.size:=fun k e=>by
    have:=hturn1.size
    rcases e with e|e
    ·have:=((hs.out k).1 e).2;omega
    ·exact e.2
   have HQS:=Lib.hid hqs
   have HSL:=Lib.hid hsl
   have hn1:n0≤w1.heap.size:=by have:=hturn1.size;omega
   obtain ⟨q,hq⟩:∃q,own W.heap.size wr=q:=⟨_,rfl⟩
   rw[hq] at hrows1 HQS
   generalize grown s wr w1=s1 at hJ1 HQS HSL
   clear hinit hturn1 hhp hpm hJs hs hkept hperm hrel hqs hsl hq h3W h2W hRW
   gi_wp2_with fail
   gi_loopg [38] M.flatten.length (fun g _ wr=>∃(L:List (List El)) (pre:List El) (s:Nat→Prop),Hid (L.flatten.length=g)∧J s pre wr∧RowsAt (fun k=>k<n0) q wr W.heap.size W.heap.size L∧Hid (MergeI lt key ll.flatten pre L)∧Hid (∀k,q k→s k)∧Hid (∀k,s k→k<wr.heap.size)∧n0≤wr.heap.size)
   case atStart=>exact ⟨M, [],s1,rfl,hJ1,hrows1,hM.out,HQS.out,HSL.out,hn1⟩
   case round =>
    obtain ⟨L,pre,s,hg,hJs,hrows,hm,hqs,hsl,hn1⟩:=hrel
    clear hJ1 hrows1 hM HQS HSL
    cases L with
    | nil =>
     obtain ⟨v,vs,r1,r2,r3,r4⟩:=hrows.out
     obtain ⟨Av,cv,rfl⟩:∃Av cv,v = .slice Av 0 cv:=by
      rcases r2.2 with ⟨rfl,hn⟩|⟨g,cap,cur,rfl, -⟩
      ·exact ⟨none,0,rfl⟩
      ·exact ⟨_,cap,rfl⟩
     have p0:=(cells_of r1 0).1
     simp only[List.getElem?_toArray,List.getElem?_cons_zero] at p0
     clear r1 r2 r3 r4
     gi_wp2_with fail
     go_end0
     exact ⟨⟨_,rfl⟩,.inl ⟨s,pre,hm.out.done ordr |>.trans HK.out,hJs⟩⟩
    | cons L0 T =>
     cases L0 with
     | nil=>exact absurd rfl (hm.out.some [] (by simp))
     | cons x r =>
      obtain ⟨g,cap,vs,r1,r2,r3,r4,r5,r6⟩:=hrows.some (by simp)
      obtain ⟨A0,c0,i1,i2,i3⟩:=r6 0 (by simp)
      simp only[List.getElem_cons_zero] at i1 i2 i3
      have ei:=World.ownsRow.cellAt r2 0 (by simp)
      rw[i1] at ei
      have p0:=(cells_of r1 0).1
      simp only[List.getElem?_toArray,List.getElem?_cons_zero] at p0
      obtain ⟨ad0,hA0,hx0⟩:∃ad,A0=some ad∧wr.cell? ad=some (val x):=by
       rcases i3.out with e|⟨ad,e1, -,e2⟩
       ·simp at e
       ·exact ⟨ad,e1,by have:=e2 0 (val x) (by simp);simpa[Addr.add] using this⟩
      obtain rfl:=hA0
      have htold:=hm.out.told ordr rfl
      rw[HK.out] at htold
      have hxok:=hrows.ok (x :: r) (by simp) x (by simp)
      have hY1:=hY s pre x wr hJs (told_lt htold) ⟨hxok,htold,hn1⟩
      have HTOLD:=Lib.hid htold
      obtain ⟨fn,tmps,assign,body,hyy,hR⟩:=hY1
      have hHp:=hm.out.hp
      obtain ⟨vx,hvx⟩:∃vx,val x=vx:=⟨_,rfl⟩
      have hmN:=fun (M:List (List El))=>hm.out.next ordr (x:=x) (r:=r) (T:=T) (M:=M) rfl
      have HMN:=Lib.hid hmN
      rw[hvx] at hx0 hyy
      simp only[List.length_cons] at p0 r1 r2 r5 ei i2 hHp
      obtain ⟨nT,hnT⟩:∃nT,T.length=nT:=⟨_,rfl⟩
      obtain ⟨nr,hnr⟩:∃nr,r.length=nr:=⟨_,rfl⟩
      have HNT:=Lib.hid hnT
      have HNR:=Lib.hid hnr
      have hT6:=hrows.few
      simp only[List.length_cons] at hT6
      rw[hnT] at p0 r5 hT6
      rw[hnr] at ei i2
      have HHP:=Lib.hid hHp
      clear hmN htold hvx hHp hnT hnr
      gi_wp2_with fail
      refine ⟨fun h=>absurd h (by simp[Fence.wide]),hR.mono ?_⟩
      rintro e w4 (⟨rfl,hJ4,ht4⟩|⟨rfl,hJx4, -⟩)
      ·have hk4:Kept (fun k=>q k∨k<n0) wr w4:=Kept.of_turn ht4 (fun k hk=>⟨by rcases hk with hk|hk;exact hsl.out k (hqs.out k hk);omega,fun e=>by rcases hk with hk|hk;exact e.1 (hqs.out k hk);exact e.2 (.inl hk)⟩)
       have hrows4:=hrows.keep hk4 ht4.size
       have r14:=(hk4 _ (.inl hrows.at_)).trans r1
       have r24:=ownsRow_kept r2 fun k e=>hk4 k (.inl (by obtain rfl:g=k:=Option.some.inj e;exact r3))
       have p04:=(cells_of r14 0).1
       simp only[List.getElem?_toArray,List.getElem?_cons_zero] at p04
       rw[HNT.out] at p04
       have ei4:=(World.ownsRow.cellAt r24 0 (by simp)).trans i1
       simp only[List.length_cons] at ei4
       rw[HNR.out] at ei4
       have f04:=World.ownsRow.frozenAt r24 0
       have r64:∀i (hi:i<((x :: r) :: T).length),∃Ai ci,vs[i]?=some (.slice Ai (((x :: r) :: T)[i]).length ci)∧(((x :: r) :: T)[i]).length≤ci∧SeesM (fun k=>q k∧k≠W.heap.size∧k≠g) w4 Ai ((((x :: r) :: T)[i]).map val):=fun i hi=>by
        obtain ⟨Ai,ci,j1,j2,j3⟩:=r6 i hi
        exact ⟨Ai,ci,j1,j2,j3.keep (hk4.mono fun k e => .inl e.1)⟩
       have hsl4:∀k,s k→k<w4.heap.size:=fun k e=>Nat.lt_of_lt_of_le (hsl.out k e) ht4.size
       have hn4:n0≤w4.heap.size:=Nat.le_trans hn1 ht4.size
       have i34:=i3.keep (hk4.mono fun k e => .inl e.1)
       have R64:=Lib.hid r64
       have HSL4:=Lib.hid hsl4
       have hrr:=Lib.hid hrows4
       have hcut:∀(c1:c0=1),nr=0:=fun c1=>by omega
       clear hrows r1 r2 r6 i3 hk4 r64 hsl4 hrows4
       by_cases hc1:c0=1
       ·have hnr0:nr=0:=hcut hc1
        subst hc1 hnr0
        gi_wp2_with fail
        refine wpIn_wide.2 ?_
        go_region
        obtain ⟨w5,hw5⟩:∃w5,(w4.setCell ⟨g,0,none⟩ (.slice (some ad0) 0 0)).drew=w5:=⟨_,rfl⟩
        rw[hw5]
        have hal:Alk w5 (w4.setCell ⟨g,0,none⟩ (.slice (some ad0) r.length (1 - 1))):=by rw[←hw5,HNR.out];exact ⟨rfl,rfl,rfl,rfl⟩
        obtain ⟨hrows5,hturn5⟩:=tail_done hrr.out r14 r24 r3 r4 R64.out i1 (by rw[HNR.out];exact i2) i34 (some ad0) (by rw[if_pos rfl]) hal
        clear hw5 hal p04 ei4 f04
        obtain rfl:r = []:=List.eq_nil_of_length_eq_zero HNR.out
        obtain ⟨g5,cap5,vs5,t1,t2,t3,t4,t5,t6⟩:=hrows5.some (by simp)
        obtain ⟨A5,c5,j1,j2,j3⟩:=t6 0 (by simp)
        simp only[List.getElem_cons_zero] at j1 j2
        have ei5:=(World.ownsRow.cellAt t2 0 (by simp)).trans j1
        have p05:=(cells_of t1 0).1
        simp only[List.getElem?_toArray,List.getElem?_cons_zero,List.length_cons,List.length_nil] at p05 ei5
        rw[HNT.out] at p05
        have hne5:∀s∈T,s ≠ []:=fun s hs=>hm.out.some s (by simp[hs])
        have hcall:=Lib.hid (Pop_any (heapI (fun k=>k<n0) q W.heap.size W.heap.size w5) [] T w5 ⟨hrows5,Turn.refl _ _⟩ (HHP.out.set0 ([]:List El)) hne5)
        clear t1 t2 t3 t4 t5 t6 j1 j2 j3 hne5 hrows5 r14 r24 i34 i1
        gi_wp2_with fail
        refine ⟨trivial,fun h=>absurd h (by simp[Fence.wide]),(callsIn_wide.2 hcall.out).mono ?_⟩
        rintro e w6 ⟨v6,M6,rfl,⟨hrows6,hturn6⟩,hhp6,hpm6⟩
        have ht46:Turn s w4 w6:=(hturn5.trans hturn6).mono fun j _ e=>hqs.out j e
        have hJ6:=hJ _ _ _ _ hJ4 ht46
        have hM6:=HMN.out M6 (by simpa using hpm6) hhp6
        have hfl6:=hpm6.flatten.length_eq
        have hgg:=hg.out
        clear hcall hturn5 hturn6 hhp6 hpm6
        gi_wp2_with fail
        gi_roundg M6.flatten.length
        case measure=>(rw[hfl6, ←hgg];simp)
        case rel=>exact ⟨M6,pre ++ [x],_,rfl,hJ6,hrows6,hM6,fun k e => .inl (hqs.out k e),fun k e=>by have:=ht46.size;(rcases e with e|e;(have:=HSL4.out k e;omega);exact e.2),by have:=ht46.size;omega⟩
       ·by_cases hnr0:nr=0
        ·subst hnr0
         gi_wp2_with fail
         refine wpIn_wide.2 ?_
         go_region
         obtain ⟨w5,hw5⟩:∃w5,(w4.setCell ⟨g,0,none⟩ (.slice (some ⟨ad0.block,ad0.off+1,none⟩) 0 (c0 - 1))).drew=w5:=⟨_,rfl⟩
         rw[hw5]
         have hal:Alk w5 (w4.setCell ⟨g,0,none⟩ (.slice (some ⟨ad0.block,ad0.off+1,none⟩) r.length (c0 - 1))):=by rw[←hw5,HNR.out];exact ⟨rfl,rfl,rfl,rfl⟩
         obtain ⟨hrows5,hturn5⟩:=tail_done hrr.out r14 r24 r3 r4 R64.out i1 (by rw[HNR.out];exact i2) i34 (some ⟨ad0.block,ad0.off+1,none⟩) (by rw[if_neg hc1];rfl) hal
         clear hw5 hal p04 ei4 f04
         obtain rfl:r = []:=List.eq_nil_of_length_eq_zero HNR.out
         obtain ⟨g5,cap5,vs5,t1,t2,t3,t4,t5,t6⟩:=hrows5.some (by simp)
         obtain ⟨A5,c5,j1,j2,j3⟩:=t6 0 (by simp)
         simp only[List.getElem_cons_zero] at j1 j2
         have ei5:=(World.ownsRow.cellAt t2 0 (by simp)).trans j1
         have p05:=(cells_of t1 0).1
         simp only[List.getElem?_toArray,List.getElem?_cons_zero,List.length_cons,List.length_nil] at p05 ei5
         rw[HNT.out] at p05
         have hne5:∀s∈T,s ≠ []:=fun s hs=>hm.out.some s (by simp[hs])
         have hcall:=Lib.hid (Pop_any (heapI (fun k=>k<n0) q W.heap.size W.heap.size w5) [] T w5 ⟨hrows5,Turn.refl _ _⟩ (HHP.out.set0 ([]:List El)) hne5)
         clear t1 t2 t3 t4 t5 t6 j1 j2 j3 hne5 hrows5 r14 r24 i34 i1
         gi_wp2_with fail
         refine ⟨trivial,fun h=>absurd h (by simp[Fence.wide]),(callsIn_wide.2 hcall.out).mono ?_⟩
         rintro e w6 ⟨v6,M6,rfl,⟨hrows6,hturn6⟩,hhp6,hpm6⟩
         have ht46:Turn s w4 w6:=(hturn5.trans hturn6).mono fun j _ e=>hqs.out j e
         have hJ6:=hJ _ _ _ _ hJ4 ht46
         have hM6:=HMN.out M6 (by simpa using hpm6) hhp6
         have hfl6:=hpm6.flatten.length_eq
         have hgg:=hg.out
         clear hcall hturn5 hturn6 hhp6 hpm6
         gi_wp2_with fail
         gi_roundg M6.flatten.length
         case measure=>(rw[hfl6, ←hgg];simp)
         case rel=>exact ⟨M6,pre ++ [x],_,rfl,hJ6,hrows6,hM6,fun k e => .inl (hqs.out k e),fun k e=>by have:=ht46.size;(rcases e with e|e;(have:=HSL4.out k e;omega);exact e.2),by have:=ht46.size;omega⟩
        ·have hnr1:¬ ((nr:Int)+1<1):=by omega
         gi_wp2_with fail
         refine wpIn_wide.2 ?_
         go_region
         obtain ⟨w5,hw5⟩:∃w5,(w4.setCell ⟨g,0,none⟩ (.slice (some ⟨ad0.block,ad0.off+1,none⟩) nr (c0 - 1))).drew=w5:=⟨_,rfl⟩
         rw[hw5]
         have hal:Alk w5 (w4.setCell ⟨g,0,none⟩ (.slice (some ⟨ad0.block,ad0.off+1,none⟩) r.length (c0 - 1))):=by rw[←hw5,HNR.out];exact ⟨rfl,rfl,rfl,rfl⟩
         obtain ⟨hrows5,hturn5⟩:=tail_done hrr.out r14 r24 r3 r4 R64.out i1 (by rw[HNR.out];exact i2) i34 (some ⟨ad0.block,ad0.off+1,none⟩) (by rw[if_neg hc1];rfl) hal
         clear hw5 hal p04 ei4 f04
         obtain ⟨g5,cap5,vs5,t1,t2,t3,t4,t5,t6⟩:=hrows5.some (by simp)
         obtain ⟨A5,c5,j1,j2,j3⟩:=t6 0 (by simp)
         simp only[List.getElem_cons_zero] at j1 j2
         have ei5:=(World.ownsRow.cellAt t2 0 (by simp)).trans j1
         have p05:=(cells_of t1 0).1
         simp only[List.getElem?_toArray,List.getElem?_cons_zero,List.length_cons] at p05 ei5
         rw[HNT.out] at p05
         rw[HNR.out] at ei5
         have hnrz:((nr:Int)==0)=false:=by rw[beq_eq_false_iff_ne];omega
         have hne5:∀s∈(r :: T),s ≠ []:=fun s hs=>by rcases List.mem_cons.1 hs with rfl|hs;(intro e;have:=HNR.out;rw[e] at this;simp at this;omega);exact hm.out.some s (by simp[hs])
         have hcall:=Lib.hid (Fix_any (heapI (fun k=>k<n0) q W.heap.size W.heap.size w5) (r :: T) w5 ⟨hrows5,Turn.refl _ _⟩ (HHP.out.set0 r) hne5)
         clear t1 t2 t3 t4 t5 t6 j1 j2 j3 hne5 hrows5 r14 r24 i34 i1
         gi_wp2_with fail
         refine ⟨trivial,fun h=>absurd h (by simp[Fence.wide]),(callsIn_wide.2 hcall.out).mono ?_⟩
         rintro e w6 ⟨v6,M6,rfl,⟨hrows6,hturn6⟩,hhp6,hpm6⟩
         have ht46:Turn s w4 w6:=(hturn5.trans hturn6).mono fun j _ e=>hqs.out j e
         have hJ6:=hJ _ _ _ _ hJ4 ht46
         have hM6:=HMN.out M6 (by rw[if_neg (fun e=>by have:=HNR.out;rw[e] at this;simp at this;omega)];exact hpm6) hhp6
         have hfl6:=hpm6.flatten.length_eq
         have hgg:=hg.out
         clear hcall hturn5 hturn6 hhp6 hpm6
         gi_wp2_with fail
         gi_roundg M6.flatten.length
         case measure=>(rw[hfl6, ←hgg];simp)
         case rel=>exact ⟨M6,pre ++ [x],_,rfl,hJ6,hrows6,hM6,fun k e => .inl (hqs.out k e),fun k e=>by have:=ht46.size;(rcases e with e|e;(have:=HSL4.out k e;omega);exact e.2),by have:=ht46.size;omega⟩
      ·gi_wp2_with fail
       refine bodyPost_ret (results_none rfl _ _ _) rfl ?_
       exact ⟨⟨_,rfl⟩,.inr ⟨s,_,by rw[List.map_append];exact HTOLD.out,hJx4⟩⟩
end KI
namespace KI
open Go.RowKit
structure Pile (m:Nat→Prop) (n1:Nat) (w:World) (v:Value) (L:List (List El)):Prop where
 out:∃vs:List Value,w.ownsRow n1 23 1 v L.length vs ∧
  ∀i (hi:i<L.length),∃Ai ci,vs[i]?=some (.slice Ai (L[i]).length ci)∧(L[i]).length≤ci∧SeesM (fun k=>m k∨(n1≤k∧k<w.heap.size∧v.ownBlock≠some k)) w Ai ((L[i]).map val)
 ok:∀r∈L,∀x∈r,EOk m w x
 apart:∀k,m k→k<n1
 low:n1≤w.heap.size
section
variable {m : Nat → Prop} {n1 : Nat} {w w' w2 w3 : World} {v v' : Value} {L : List (List El)} {x : List El}
theorem Pile.nil (w:World) (m:Nat→Prop) (n1:Nat) (ha:∀k,m k→k<n1) (hl:n1≤w.heap.size):Pile m n1 w (.slice none 0 0) [] :=
 ⟨⟨[],World.ownsRow_nil _ _ _ _,fun i hi=>absurd hi (by simp)⟩,by simp,ha,hl⟩
theorem Pile.push {A1:Option Addr}{c1:Nat}(h:Pile m n1 w v L) (hb:Below w.heap.size w w2)
  (hx:SeesM (fun k=>m k∨(w.heap.size≤k∧k<w2.heap.size)) w2 A1 (x.map val)) (hxc:x.length≤c1) (hxo:∀y∈x,EOk m w y)
  (vs:List Value) (hvs:w.ownsRow n1 23 1 v L.length vs)
  (hvs2:∀i (hi:i<L.length),∃Ai ci,vs[i]?=some (.slice Ai (L[i]).length ci)∧(L[i]).length≤ci∧SeesM (fun k=>m k∨(n1≤k∧k<w.heap.size∧v.ownBlock≠some k)) w Ai ((L[i]).map val))
  (hown:w3.ownsRow n1 23 1 v' (L.length+1) (vs ++ [.slice A1 x.length c1])) (hon:Onto w2 w3 v v'):Pile m n1 w3 v' (L ++ [x]):=by
 have hs:=hb.size
 have hs3:=hon.size
 have hlow:=h.low
 have hlen:vs.length=L.length:=by have:=hvs.1;omega
 have hvl:=World.ownsRow.lt hvs
 have hv' : ∀k,k<w2.heap.size→v.ownBlock≠some k→v'.ownBlock≠some k:=fun k hk hne e=>by
  rcases hon.at_ with e2|⟨g,e2,hg⟩
  ·exact hne (e2 ▸ e)
  ·rw[e2] at e;injection e with e;omega
 have hmv:∀k,m k→v.ownBlock≠some k:=fun k e e2=>by have:=h.apart k e;have:=(hvl k e2).1;omega
 have hk23:∀k,k<w2.heap.size→v.ownBlock≠some k→w3.heap[k]?=w2.heap[k]?:=fun k a b=>hon.grown.block k a (fun e=>b e.symm)
 have hkr:Kept (fun k=>m k∨(n1≤k∧k<w.heap.size∧v.ownBlock≠some k)) w w3:=fun k hk=>by
  have hk1:k<w.heap.size∧v.ownBlock≠some k:=by
   rcases hk with e|e
   ·exact ⟨by have:=h.apart k e;omega,hmv k e⟩
   ·exact e.2
  exact (hk23 k (by omega) hk1.2).trans (hb.block k hk1.1)
 refine ⟨⟨vs ++ [.slice A1 x.length c1],by rw[List.length_append];exact hown,fun i hi => ?_⟩,fun r hr y hy => ?_,h.apart,by omega⟩
 ·by_cases hlt:i<L.length
  ·obtain ⟨Ai,ci,g1,g2,g3⟩:=hvs2 i hlt
   rw[List.getElem_append_left hlt,List.getElem?_append_left (by omega)]
   exact ⟨Ai,ci,g1,g2,(g3.keep hkr).mono fun k e=>by
    rcases e with e|e
    ·exact .inl e
    ·exact .inr ⟨e.1,by omega,hv' k (by omega) e.2.2⟩⟩
  ·have he:i=L.length:=by simp at hi;omega
   subst he
   rw[List.getElem_append_right (Nat.le_refl _),List.getElem?_append_right (by omega)]
   refine ⟨A1,c1,by simp[hlen],by simpa using hxc,?_⟩
   simp only[Nat.sub_self,List.getElem_cons_zero]
   have hne:∀k,w.heap.size≤k→v.ownBlock≠some k:=fun k hk e=>by have:=(hvl k e).2;omega
   refine (hx.keep fun k e => ?_).mono fun k e => ?_
   ·rcases e with e|e
    ·exact hk23 k (by have:=h.apart k e;omega) (hmv k e)
    ·exact hk23 k e.2 (hne k e.1)
   ·rcases e with e|e
    ·exact .inl e
    ·exact .inr ⟨by omega,by omega,hv' k e.2 (hne k e.1)⟩
 ·rcases List.mem_append.1 hr with hr|hr
  ·exact (h.ok r hr y hy).keep (hkr.mono fun k e => .inl e)
  ·simp only[List.mem_singleton] at hr;subst hr
   exact (hxo y hy).keep (hkr.mono fun k e => .inl e)
theorem Pile.slice (h:Pile m n1 w v L):∃A c,v = .slice A L.length c∧L.length≤c:=by
 obtain ⟨vs,h1,h2⟩:=h.out
 rcases h1.2 with ⟨rfl,hn⟩|⟨g,cap,cur,rfl, -, -,hc, -⟩
 ·exact ⟨none,0,by rw[hn],by omega⟩
 ·exact ⟨_,cap,rfl,hc⟩
theorem Pile.rowsIn {A:Option Addr}{c:Nat}(h:Pile m n1 w (.slice A L.length c) L):RowsIn (fun k=>k<w.heap.size) w A L:=⟨fun i hi=>by
 obtain ⟨vs,h1,h2⟩:=h.out
 have hlow:=h.low
 obtain ⟨Ai,ci,g1,g2,g3⟩:=h2 i hi
 rcases h1.2 with ⟨e,hn⟩|⟨g,cap,cur,e,hg,hcur,hc, -⟩
 ·omega
 ·have hlt:=World.ownsRow.lt h1 g (by rw[e];rfl)
  have hcl:=World.ownsRow.cells h1 (g:=g) (by rw[e];rfl) i _ g1
  injection e with e1 e2 e3
  refine ⟨⟨g,0,none⟩,Ai,ci,e1,hlt.2,hcl,g2,g3.mono fun k e => ?_,fun x hx=>(h.ok _ (List.getElem_mem hi) x hx).mono fun k e => ?_⟩
  ·rcases e with e|e
   ·have:=h.apart k e;omega
   ·exact e.2.1
  ·have:=h.apart k e;omega⟩
end
end KI
end Go.Proofs.YtalmnodgjjcefaaGreatDoor
