/- An index's ids, walked: the numbers of the rows that are wanted. -/
import Derived.Test.YtalmnodgjjcefaaGreatDoorJIxB
import Derived.Test.YtalmnodgjjcefaaGreatDoorJIxA
import Derived.Test.YtalmnodgjjcefaaGreatDoorJRwB
import Derived.Test.YtalmnodgjjcefaaGreatDoorJKmJ
import Derived.Test.YtalmnodgjjcefaaGreatDoorJKmK
set_option maxRecDepth 100000
set_option maxHeartbeats 3200000
namespace Go.Proofs.YtalmnodgjjcefaaGreatDoor
section
open Go.RowKit Go.Shelf
attribute [local go_sem] Oper.semAt_some
def SeqRows (R0:Nat→Prop) (w:World) (p:Option Addr) (Bx:Option Addr) (lx dx:Nat) (L:List RowP):Prop :=
 ∀(W:World) (B1 B2 n:Nat),Below w.heap.size w W→W.cell? ⟨B1,0,none⟩=some (.pointer p)→W.cell? ⟨B2,0,none⟩=some (.slice Bx lx dx)→B1<W.heap.size→B2<W.heap.size →
  SeqN Fence.wide n Tryz.prog 99 #[.pointer (some ⟨B1,0,none⟩),.pointer (some ⟨B2,0,none⟩)] RowT.vals (fun k=>R0 k∨k=B1∨k=B2) (RowOk L) (fun xs=>xs.map (·.1)=L) (fun pre=>pre.map (·.1) <+: L) L.length W
theorem seqRows_ix {m:Nat→Prop}{w:World}{P:Nat}{s:SetM}(h:IxAt m w P s) (hF:SetFit s) (R0:Nat→Prop) (hR0:∀k,R0 k→k<w.heap.size) (hm:∀k,m k→R0 k) (x:Item) (Bx:Option Addr) (lx dx:Nat) (hx:SeesM R0 w Bx (bv x)) (hxl:x.length=lx):SeqRows R0 w (some ⟨P,0,none⟩) Bx lx dx (rowsP s.all x) :=
 fun _ B1 B2 n hW h1 h2 hB1 hB2=>told1_seq (h.below hW) hF R0 (fun k e=>Nat.lt_of_lt_of_le (hR0 k e) hW.size) hm x Bx lx dx (hx.keep (Kept.of_below hW hR0)) hxl B1 B2 h1 h2 hB1 hB2 n
theorem seqRows_nil (R0:Nat→Prop) (w:World) (Bx:Option Addr) (lx dx:Nat):SeqRows R0 w none Bx lx dx []:=by
 intro W0 B1 B2 n hW0 h1 h2 hB1 hB2 l J Jx W hW hJ hJx hY h0
 have h1W:=(hW.cell (p:=⟨B1,0,none⟩) hB1).trans h1
 clear hW0 h1 h2 hY
 refine callsIn_of_wp Tryz.func99 rfl trivial ?_ rfl
 simp only[Tryz.ntmps99,List.size_toArray,List.length_cons,List.length_nil,Nat.reduceAdd,Nat.reduceSub,Array.replicate_succ,Array.replicate_zero,List.push_toArray,List.append_toArray,List.nil_append,List.cons_append]
 gi_wp2_with fail
 refine bodyPost_ret (results_none rfl _ _ _) rfl ?_
 exact ⟨⟨_,rfl⟩,.inl ⟨_, [],rfl,h0⟩⟩
theorem rowOk_keep {D:Nat}{L:List RowP}{s:Nat→Prop}{pre:List RowT}{y:RowT}{A B:World}(h:RowOk L s pre y A) (hD:∀k,s k→k≠D∧k≠D+1) (ht:Turn (fun k=>k=D∨k=D+1) A B):RowOk L s pre y B :=
 ⟨h.sees.keep (Kept.of_turn ht fun k hk=>⟨h.lt k hk,by have:=hD k hk;rintro (e|e)<;>omega⟩),h.cap,h.pre,fun k e=>Nat.lt_of_lt_of_le (h.lt k e) ht.size⟩
structure NewBox (w W0 W2:World) (t:TypeId) (v0 v:Value):Prop where
 cell:W0.cell? ⟨w.heap.size,0,none⟩=some v0
 frozen:W0.frozen? ⟨w.heap.size,0,none⟩=false
 box:Box1 W2 w.heap.size t v
 below:Below w.heap.size w W2
 size:W2.heap.size=w.heap.size+1
theorem NewBox.of {w W0 W2:World}{t:TypeId}{v0 v:Value}(h0:w.alloc (.cells #[v0] t)=W0) (h2:W0.setCell ⟨w.heap.size,0,none⟩ v=W2):NewBox w W0 W2 t v0 v:=by
 have b:=Box1.new w t v0
 rw[h0] at b
 subst h2
 refine ⟨b.cell,b.frozen,b.set v,?_,by rw[World.size_setCell, ←h0];simp⟩
 rw[←h0]
 exact ((Below.refl _ w).alloc (Nat.le_refl _) _).setCell (Nat.le_refl _) _
structure ToldBox (w w3:World) (p:Option Addr) (Bx:Option Addr) (lx cx:Nat):Prop where
 b1:Box1 w3 w.heap.size 29 (.pointer p)
 b2:Box1 w3 (w.heap.size+1) 48 (.slice Bx lx cx)
 below:Below w.heap.size w w3
 size:w3.heap.size=w.heap.size+2
theorem ToldBox.of {w w3:World}{p:Option Addr}{Bx:Option Addr}{lx cx:Nat}(h:w3=(w.alloc (.cells #[.pointer p] 29)).alloc (.cells #[.slice Bx lx cx] 48)):ToldBox w w3 p Bx lx cx:=by
 have b1:=(Box1.new w 29 (.pointer p)).alloc (.cells #[.slice Bx lx cx] 48)
 have b2:=Box1.new (w.alloc (.cells #[.pointer p] 29)) 48 (.slice Bx lx cx)
 rw[World.size_alloc] at b2
 rw[←h] at b1 b2
 refine ⟨b1,b2,?_,by rw[h];simp⟩
 rw[h]
 exact ((Below.refl _ w).alloc (Nat.le_refl _) _).alloc (by simp) _
abbrev rowW (y:RowT) (W:World):World:=W.alloc (.cells #[.int .i64 y.1.kind,.slice y.2.1 y.1.labels.length y.2.2,.string y.1.label.1,.string y.1.label.2,.int .i64 y.1.day,.int .i64 y.1.id] 92)
abbrev rowSix (W:World) (b:Nat) (y:RowT):Prop:=SixAt W b (.int .i64 y.1.kind) (.slice y.2.1 y.1.labels.length y.2.2) (.string y.1.label.1) (.string y.1.label.2) (.int .i64 y.1.day) (.int .i64 y.1.id)
theorem six_turn {T:Nat→Prop}{W W' : World}{b:Nat}{v0 v1 v2 v3 v4 v5:Value}(h:SixAt W b v0 v1 v2 v3 v4 v5) (ht:Turn T W W') (hb:b<W.heap.size) (hT:¬ T b):SixAt W' b v0 v1 v2 v3 v4 v5:=h.keep (ht.block b hb hT)
theorem wpIn_rows {g:Operand}{p0:Tmp}{assign body:Code}{Q:Exit→Go.Act→World→Prop}{a:Go.Act}{w:World}{R0:Nat→Prop}{B1 B2:Nat}{L:List RowP}
    (hg:a.eval g = .func (.func 99) #[] #[.pointer (some ⟨B1,0,none⟩),.pointer (some ⟨B2,0,none⟩)])
    (hD:SeqN Fence.wide 4 Tryz.prog 99 #[.pointer (some ⟨B1,0,none⟩),.pointer (some ⟨B2,0,none⟩)] RowT.vals (fun k=>R0 k∨k=B1∨k=B2) (RowOk L) (fun xs=>xs.map (·.1)=L) (fun pre=>pre.map (·.1) <+: L) L.length w)
    (hR0:∀k,R0 k→k<w.heap.size) (hlt:B1<w.heap.size∧B2<w.heap.size)
    (I:(Nat→Prop)→List RowT→World→Prop) (Ix:Code→(Nat→Prop)→List RowT→World→Prop)
    (hI:∀s s' pre A B,I s pre A→Turn (fun k=>k=w.heap.size∨k=w.heap.size+1) A B→(∀k,s' k→s k∨(A.heap.size≤k∧k<B.heap.size))→I s' pre B)
    (hIx:∀c s s' pre A B,Ix c s pre A→Turn (fun k=>k=w.heap.size∨k=w.heap.size+1) A B→(∀k,s' k→s k∨(A.heap.size≤k∧k<B.heap.size))→Ix c s' pre B)
    (h0:I (fun _=>False) [] w)
    (hround:∃fr:RowT→Nat→Go.Act,(∀(l:Nat) (y:RowT) (b:Nat) (W:World) (K:Go.Act→World→Prop),Hid (W.heap.size=b)→Hid (K (fr y b) (rowW y W)) →
      assign.wpIn (Fence.wide.inRound l) 3 Tryz.prog (Exit.then K (fun _ _ _=>False)) { tmps:=a.tmps.setIfInBounds p0 (rowVal y.1 y.2.1 y.2.2),defers := [] } W) ∧
     (∀(l:Nat) (s:Nat→Prop) (pre:List RowT) (y:RowT) (b:Nat) (W:World),I s pre W→RowOk L s pre y W→rowSix W b y→(∀k,s k→k≠w.heap.size∧k≠w.heap.size+1)→w.heap.size+2≤b→b<W.heap.size→¬ s b→body.wpIn (Fence.wide.inRound l) 3 Tryz.prog (postT (fun k=>R0 k∨k=B1∨k=B2) s w.heap.size I Ix (pre ++ [y]) W) (fr y b) W))
    (hdone:∀(s:Nat→Prop) (xs:List RowT) (W:World),xs.map (·.1)=L→I s xs W→W.heap[w.heap.size]?=some (.deferred (some []))→Q .normal { a with defers := { target := .collected w.heap.size,args := #[] } :: a.defers } W)
    (hstop:∀(c:Code) (s:Nat→Prop) (pre:List RowT) (W:World),pre.map (·.1) <+: L→Ix c s pre W→W.heap[w.heap.size]?=some (.deferred (some []))→c.wpIn Fence.wide 5 Tryz.prog Q { a with defers := { target := .collected w.heap.size,args := #[] } :: a.defers } W) :
    (Code.rangeFunc g #[p0] assign body).wpIn Fence.wide 5 Tryz.prog Q a w:=by
  obtain ⟨fr,hassign,hbody⟩:=hround
  refine wpIn_rangeFunc_A (F:=Fence.wide) (n:=5) rfl (by omega) (gf:=99) (lb := #[.pointer (some ⟨B1,0,none⟩),.pointer (some ⟨B2,0,none⟩)]) hg trivial (enters_of Tryz.func99 (by kernel_rfl) rfl)
    hD (Below.refl _ _) (fun _=>rfl) (fun k hk=>by rcases hk with hk|rfl|rfl;exact hR0 k hk;exact hlt.1;exact hlt.2)
    (fun s pre y A B h hR ht=>rowOk_keep h (fun k e=>hR k (.inl e)) ht) I Ix
    (fun s pre A B h ht=>hI s _ pre A B h (Turn.of_new ht) fun k e=>e)
    (fun c s pre A B h ht=>hIx c s _ pre A B h (Turn.of_new ht) fun k e=>e)
    (fun s pre A B h ht=>hI s s pre A B h ht fun k e => .inl e)
    (fun c s pre A B h ht=>hIx c s s pre A B h ht fun k e => .inl e)
    h0 (fun y W a' Wn=>a'=fr y W.heap.size∧Wn=rowW y W) (fun y W a' Wn e=>by rw[e.2];exact (Below.refl _ W).alloc (Nat.le_refl _) _) (fun l y W K hK=>by have h:=hassign l y _ W K rfl (hK _ _ ⟨rfl,rfl⟩);simpa[RowT.vals] using h) ?_ hdone hstop
  rintro l s pre y W a' Wn Wb hi _ hok0 hok hsp hW ⟨rfl,rfl⟩ ht
  have h6:rowSix (rowW y W) W.heap.size y:=SixAt.new _ _ _ _ _ _ _ _
  have hsz:(rowW y W).heap.size=W.heap.size+1:=by simp
  have hts:=ht.size
  refine hbody l s pre y W.heap.size Wb hi hok (six_turn h6 ht (by omega) (by omega)) (fun k e=>hsp k (.inl e)) hW (by omega) fun e=>Nat.lt_irrefl _ (hok0.lt _ e)
structure RIn (d:Nat) (w:World) (s:Nat→Prop) (W:World):Prop where
 sep:∀k,s k→d≤k
 below:Below w.heap.size w W
 size:d≤W.heap.size
section
variable {d : Nat} {w A B : World} {s s' : Nat → Prop}
theorem RIn.step (h:RIn d w s A) (hw:w.heap.size≤d) (ht:Turn (fun k=>k=d∨k=d+1) A B) (hs:∀k,s' k→s k∨(A.heap.size≤k∧k<B.heap.size)):RIn d w s' B :=
 ⟨fun k e=>by rcases hs k e with e|e;exact h.sep k e;have:=h.size;omega,h.below.trans (ht.below (fun k e=>by omega) h.below.size),Nat.le_trans h.size ht.size⟩
theorem RIn.put {T:Nat→Prop}(h:RIn d w s A) (ht:Turn T A B) (hT:∀k,T k→w.heap.size≤k):RIn d w s B:=⟨h.sep,h.below.trans (ht.below hT h.below.size),Nat.le_trans h.size ht.size⟩
theorem RIn.end_ (h:RIn d w s A) (hw:w.heap.size≤d) (q:Nat):Below w.heap.size w ((A.drewN q).putObj d (.deferred none)) :=
 (below_d h.below q).trans ((Turn.putObj (A.drewN q) d (.deferred none) (T:=fun k=>k=d) rfl).below (fun j hj=>by omega) h.below.size)
theorem RIn.box {b:Nat}{t:TypeId}{v:Value}(_h:RIn d w s A) (hb:Box1 A b t v) (hbd:b<d) (ht:Turn (fun k=>k=d∨k=d+1) A B):Box1 B b t v :=
 hb.turn ht fun e=>by omega
end
theorem gone_any {m:Nat→Prop}{w:World}{P:Nat}{s:SetM}(h:IxAt m w P s) (hF:SetFit s) (id:Int) :
  Calls Tryz.prog 19 #[.pointer (some ⟨P,0,none⟩),.int .i64 id] w (Gives w (.bool (s.gone id))):=by
 have hM:=Lib.hid (MakeRow_any none 0 0 [] rfl 5 0 id ⟨#[]⟩ ⟨#[]⟩ w ⟨.inl rfl⟩ (by omega) (by simp) (by decide))
 have HI:=Lib.hid h
 clear h
 go_enter Tryz.func19,Tryz.ntmps19
 go_wp2_with fail
 refine hM.out.mono ?_
 rintro e w1 ⟨v,k,rfl,hb,hres⟩
 obtain ⟨S,h1,h2,h3⟩:=(HI.out.below hb).out
 have hc:=h1.cell
 rcases hres with ⟨hmay,rfl,hown⟩|⟨hno,rfl,rfl⟩
 ·obtain ⟨A,c,rfl,hlc, -, -,hsee⟩:=hown.open_
  have hlen:=make_len hmay
  have hH:=Lib.hid (setHas_any h3 hF A _ c _ rfl (by omega) hsee)
  have hg:s.gone id=s.has (makeR ⟨5, [],(⟨#[]⟩,⟨#[]⟩),0,id⟩):=by
   unfold SetM.gone
   rw[decide_eq_true (may_5.1 hmay),Bool.true_and]
   rfl
  generalize s.has (makeR ⟨5, [],(⟨#[]⟩,⟨#[]⟩),0,id⟩)=r at hH hg
  have HG:=Lib.hid hg
  generalize (makeR ⟨5, [],(⟨#[]⟩,⟨#[]⟩),0,id⟩).length=ln at hH hlc
  clear hM h1 h3 hmay hown hsee hlen hg
  go_wp2_with fail
  refine hH.out.mono ?_
  rintro e w2 ⟨rfl,hb2⟩
  go_wp2
  go_ret
  exact ⟨by rw[HG.out];rfl,hb.trans (hb2.mono hb.size)⟩
 ·have hg:s.gone id=false:=by
   unfold SetM.gone
   rw[decide_eq_false (fun e=>hno (may_5.2 e)),Bool.false_and]
  have HG:=Lib.hid hg
  clear hM h1 h3 hno hg
  go_wp2
  go_ret
  exact ⟨by rw[HG.out];rfl,hb⟩
end
section
open Go.RowKit Go.Shelf
attribute [local go_sem] Oper.semAt_some
structure OfBox (w w3:World) (p:Option Addr) (k:Nat):Prop where
 b1:Box1 w3 (w.heap.size+1) 29 (.pointer p)
 b2:Box1 w3 (w.heap.size+1+1) 48 (.slice (some ⟨w.heap.size,0,none⟩) 1 1)
 see:SeesM (fun j=>j=w.heap.size) w3 (some ⟨w.heap.size,0,none⟩) (bv [UInt8.ofNat k])
 below:Below w.heap.size w w3
 size:w3.heap.size=w.heap.size+3
theorem of_any (p:Option Addr) (k:Nat) (hk:k<256) (w:World):Calls Tryz.prog 50 #[.pointer p,.int .i64 (k:Nat)] w fun e w' =>
  e = .returned (.func (.func 99) #[] #[.pointer (some ⟨w.heap.size+1,0,none⟩),.pointer (some ⟨w.heap.size+1+1,0,none⟩)])∧OfBox w w' p k:=by
 obtain ⟨wa,hwa⟩:∃wa,w.alloc (.cells #[.int .u8 (k:Nat)] 5)=wa:=⟨_,rfl⟩
 have hz:wa.heap.size=w.heap.size+1:=by rw[←hwa];simp
 have hT:=Lib.hid (told_any p (some ⟨w.heap.size,0,none⟩) 1 1 wa)
 have hw:IntKind.u8.wrap (k:Nat)=(k:Nat):=by rw[IntKind.wrap_u8];omega
 have hs:Sees wa (w.heap.size+1) (some ⟨w.heap.size,0,none⟩) (bv [UInt8.ofNat k]):=by
  rw[←hwa]
  refine sees_new w [UInt8.ofNat k] _ _ ?_
  simp[bv,Nat.mod_eq_of_lt hk]
 have hs' : SeesM (fun j=>j=w.heap.size) wa (some ⟨w.heap.size,0,none⟩) (bv [UInt8.ofNat k]):=by
  rcases hs.out with e|⟨ad,e,_,h⟩
  ·simp[bv] at e
  ·injection e with e;subst e;exact ⟨.inr ⟨_,rfl,rfl,h⟩⟩
 have HS:=Lib.hid hs'
 have hb:Below w.heap.size w wa:=by rw[←hwa];exact (Below.refl _ w).alloc (Nat.le_refl _) _
 clear hs hs' hk
 go_enter Tryz.func50,Tryz.ntmps50
 go_wp2_with fail
 refine hT.out.mono ?_
 rintro e w3 ⟨rfl,hw3⟩
 have tb:=ToldBox.of hw3
 clear hw3 hT
 go_wp2
 go_ret
 have h1:=tb.b1
 have h2:=tb.b2
 have h3:=tb.size
 have h4:=tb.below
 rw[hz] at h1 h2 h3 h4
 exact ⟨by simp only[];rfl,h1,h2,HS.out.keep (Kept.of_below h4 fun j e=>by omega),hb.trans (h4.mono (by omega)),h3⟩
section
variable {m : Nat → Prop} {w : World} {P : Nat} {s : SetM}
structure Asks (m:Nat→Prop) (w:World) (p:Option Addr) (s:SetM) (x:Item) (L:List RowP):Prop where
 out:(∃P,p=some ⟨P,0,none⟩∧IxAt m w P s∧SetFit s∧L=rowsP s.all x)∨(p=none∧L = [])
theorem Asks.below {w' : World}{p:Option Addr}{x:Item}{L:List RowP}(h:Asks m w p s x L) (hb:Below w.heap.size w w'):Asks m w' p s x L:=by
 rcases h.out with ⟨P,h1,h2,h3,h4⟩|h
 ·exact ⟨.inl ⟨P,h1,h2.below hb,h3,h4⟩⟩
 ·exact ⟨.inr h⟩
theorem Asks.may {p:Option Addr}{x:Item}{L:List RowP}(h:Asks m w p s x L):∀r∈L,MayR r:=by
 rcases h.out with ⟨P,h1,h2,h3,rfl⟩|⟨_,rfl⟩
 ·exact fun r hr=>(mem_rowsP.1 hr).1
 ·simp
theorem Asks.few {p:Option Addr}{x:Item}{L:List RowP}(h:Asks m w p s x L):L.length≤1000:=by
 rcases h.out with ⟨P,h1,h2,h3,rfl⟩|⟨_,rfl⟩
 ·refine Nat.le_trans (List.length_filterMap_le _ _) (Nat.le_trans (List.length_filter_le _ _) (Nat.le_trans (all_len s) ?_))
  have:=h3.total;omega
 ·simp
theorem of_seq {p:Option Addr}{k:Nat}{L:List RowP}{w0:World}(h:Asks m w0 p s [UInt8.ofNat k] L) (hb:Below w0.heap.size w0 w) {w3:World}(hO:OfBox w w3 p k) (n:Nat) (W:World) (hW:Below w3.heap.size w3 W) :
  SeqN Fence.wide n Tryz.prog 99 #[.pointer (some ⟨w.heap.size+1,0,none⟩),.pointer (some ⟨w.heap.size+1+1,0,none⟩)] RowT.vals (fun j=>(j<w0.heap.size∨j=w.heap.size)∨j=w.heap.size+1∨j=w.heap.size+1+1) (RowOk L) (fun xs=>xs.map (·.1)=L) (fun pre=>pre.map (·.1) <+: L) L.length W:=by
 have hs:=hb.size
 have hz:=hO.size
 have hzW:=hW.size
 have c1:=(hO.b1.below hW (by omega)).cell
 have c2:=(hO.b2.below hW (by omega)).cell
 rcases h.out with ⟨P,rfl,h2,h3,rfl⟩|⟨rfl,rfl⟩
 ·exact seqRows_ix (h2.below (hb.trans (hO.below.mono hs))) h3 (fun j=>j<w0.heap.size∨j=w.heap.size) (fun j e=>by rcases e with e|e<;>omega) (fun j e => .inl (h2.lt j e)) _ _ 1 1 (hO.see.mono fun j e => .inr e) rfl W _ _ n hW c1 c2 (by omega) (by omega)
 ·exact seqRows_nil (fun j=>j<w0.heap.size∨j=w.heap.size) w3 _ 1 1 W _ _ n hW c1 c2 (by omega) (by omega)
def nextP (L:List RowP):Int:=L.foldl (fun n r=>max n (r.id+1)) 1
theorem next_of {p:Option Addr}{L:List RowP}(h:Asks m w p s [2] L):Calls Tryz.prog 17 #[.pointer p] w (Gives w (.int .i64 (nextP L))):=by
 refine (callsIn_wide (n:=5)).1 ?_
 obtain ⟨W0,hW0⟩:∃W0,w.alloc (.cells #[.int .i64 0] 3)=W0:=⟨_,rfl⟩
 obtain ⟨W2,hW2⟩:∃W2,W0.setCell ⟨w.heap.size,0,none⟩ (.int .i64 1)=W2:=⟨_,rfl⟩
 have nb:=NewBox.of hW0 hW2
 have cc1:=nb.cell
 have ff1:=nb.frozen
 have hnz:=nb.size
 have hO:=Lib.hid (of_any p 2 (by omega) W2)
 have hq:=fun w3 hb=>of_seq (w:=W2) (w3:=w3) (k:=2) h nb.below hb 4 w3 (Below.refl _ _)
 have HM:=Lib.hid h.may
 obtain ⟨N,hN⟩:∃N,nextP L=N:=⟨_,rfl⟩
 rw[hN]
 have HN:=Lib.hid hN
 clear h hN
 refine callsIn_of_wp_marks Tryz.func17 rfl trivial ?_ rfl
 simp only[Tryz.ntmps17,List.size_toArray,List.length_cons,List.length_nil,Nat.reduceAdd,Nat.reduceSub,Array.replicate_succ,Array.replicate_zero,List.push_toArray,List.append_toArray,List.nil_append,List.cons_append]
 gi_wp2_with fail
 refine ⟨trivial,(callsIn_wide.2 hO.out).mono ?_⟩
 rintro e w3 ⟨rfl,ob⟩
 have hD:=hq w3 ob
 have hz3:=ob.size
 have c2:=nb.box.below ob.below (by omega)
 have hb3:Below w.heap.size w w3:=nb.below.trans (ob.below.mono (by omega))
 rw[hnz] at hD
 clear hO hq cc1 ff1
 gi_wp2_with fail
 refine wpIn_rows (B1:=w.heap.size+1+1) (B2:=w.heap.size+1+1+1) rfl hD (fun k e=>by omega) (by omega)
  (fun s' pre W=>RIn w3.heap.size w s' W∧Box1 W w.heap.size 3 (.int .i64 (nextP (pre.map (·.1)))))
  (fun c s pre W=>False) ?hI (fun _ _ _ _ _ _ e=>e.elim) ?h0 ?round ?done (fun _ _ _ _ _ e=>e.elim)
 case hI=>exact fun s s' pre A B h ht hs=>⟨h.1.step (by omega) ht hs,h.1.box h.2 (by omega) ht⟩
 case h0=>exact ⟨⟨fun _ e=>e.elim,hb3,Nat.le_refl _⟩,c2⟩
 case round =>
  apply Exists.intro
  constructor
  ·intro l y b W K hb hK
   gi_wp2
   rw[hb.out]
   exact hK.out
  ·rintro l s' pre y b W ⟨hR,hx2⟩ hok h6 hsp hb2 hbW hsb
   have d2:=hx2.cell
   have f2:=hx2.frozen
   have hme:y.1∈L:=by obtain ⟨t,ht⟩:=hok.pre;rw[←ht];simp
   have hid1:=(HM.out _ hme).id1
   have hid2:=(HM.out _ hme).id2
   obtain ⟨v0,v1,v2,v3,v4,v5, -⟩:=h6
   have hbest:nextP ((pre ++ [y]).map (·.1))=max (nextP (pre.map (·.1))) (y.1.id+1):=by unfold nextP;rw[List.map_append,List.foldl_append];rfl
   have HB:=Lib.hid hbest
   obtain ⟨bv,hbv⟩:∃bv,nextP (pre.map (·.1))=bv:=⟨_,rfl⟩
   rw[hbv] at hx2 d2 HB
   obtain ⟨yi,hyi⟩:∃yi,y.1.id=yi:=⟨_,rfl⟩
   rw[hyi] at HB v5 hid1 hid2
   clear hbest hbv hyi hme
   gi_wp2_with fail
   have hst:Turn (fun k=>k=w.heap.size) W (W.setCell ⟨w.heap.size,0,none⟩ (.int .i64 (max bv (yi+1)))):=Turn.setCell _ _ _ rfl
   exact ⟨hst.mono fun k _ e=>by subst e;exact ⟨fun e=>by have:=hR.sep _ e;omega,by omega,by omega,by omega⟩,hR.put hst fun k e=>by omega,by rw[HB.out];exact hx2.set _⟩
 case done =>
  rintro s' xs W hS ⟨hR,hx2⟩ hK
  rw[hS,HN.out] at hx2
  have d2:=hx2.cell
  gi_wp2_with fail
  refine ⟨by simp,.inl ⟨_,_,rfl,run_takeDeferred hK,?_⟩⟩
  exact ⟨_,results_tmp rfl _ _ _,rfl,hR.end_ (by omega) 0⟩
end
end
section
open Go.RowKit Go.Shelf
attribute [local go_sem] Oper.semAt_some
def LabIs (w:World) (o:Option (List Lb)) (e:Ending) (w' : World):Prop :=
 ∃A n c,e = .returned (.tuple #[.slice A n c,.bool o.isSome])∧(o.getD []).length=n∧n≤c∧Sees w' w'.heap.size A (lv (o.getD []))∧Below w.heap.size w w'
theorem first5 (i:Nat) (w:World) (x1 x2 x3 x4:Int) (h1:x1=(i / 16777216:Nat) % 256) (h2:x2=(i / 65536:Nat) % 256) (h3:x3=(i / 256:Nat) % 256) (h4:x4=(i:Int) % 256) (t:TypeId) :
  SeesM (fun j=>j=w.heap.size) (w.alloc (.cells #[.int .u8 2,.int .u8 x1,.int .u8 x2,.int .u8 x3,.int .u8 x4] t)) (some ⟨w.heap.size,0,none⟩) (bv ([2]++four i)):=by
 have hs:Sees (w.alloc (.cells #[.int .u8 2,.int .u8 x1,.int .u8 x2,.int .u8 x3,.int .u8 x4] t)) (w.heap.size+1) (some ⟨w.heap.size,0,none⟩) (bv ([2]++four i)) :=
  sees_new w _ t _ (by subst h1;subst h2;subst h3;subst h4;simp[bv,four])
 rcases hs.out with e|⟨ad,e,_,h⟩
 ·simp[bv] at e
 ·injection e with e;subst e;exact ⟨.inr ⟨_,rfl,rfl,h⟩⟩
theorem labels_any {m:Nat→Prop}{w:World}{P:Nat}{s:SetM}(h:IxAt m w P s) (hF:SetFit s) (id:Int) :
  Calls Tryz.prog 30 #[.pointer (some ⟨P,0,none⟩),.int .i64 id] w (LabIs w (s.labOf id)):=by
 refine (callsIn_wide (n:=5)).1 ?_
 obtain ⟨W0,hW0⟩:∃W0,w.alloc (.cells #[.slice none 0 0] 22)=W0:=⟨_,rfl⟩
 obtain ⟨W1,hW1⟩:∃W1,W0.alloc (.cells #[.bool false] 4)=W1:=⟨_,rfl⟩
 have hz0:W0.heap.size=w.heap.size+1:=by rw[←hW0];simp
 have hz1:W1.heap.size=w.heap.size+1+1:=by rw[←hW1];simp[hz0]
 have r0:Box1 W1 w.heap.size 22 (.slice none 0 0):=by rw[←hW1, ←hW0];exact (Box1.new _ _ _).alloc _
 have r1:Box1 W1 (w.heap.size+1) 4 (.bool false):=by rw[←hW1, ←hz0];exact Box1.new _ _ _
 have hb1:Below w.heap.size w W1:=by rw[←hW1, ←hW0];exact ((Below.refl _ w).alloc (Nat.le_refl _) _).alloc (by simp) _
 have HI:=Lib.hid h
 have HF:=Lib.hid hF
 have HW0:=Lib.hid hW0
 have c0:=r0.cell
 have c1:=r1.cell
 have f0:=r0.frozen
 have f1:=r1.frozen
 by_cases hid:1≤id∧id≤1073741824
 ·obtain ⟨hi1,hi2⟩:=hid
  obtain ⟨i,rfl⟩:=Int.eq_ofNat_of_zero_le (show 0≤id by omega)
  have hG:s.labOf (i:Int)=(rowsP s.all ([2]++four i)).head?.map (·.labels):=by unfold SetM.labOf;rw[if_pos ⟨hi1,hi2⟩];rfl
  rw[hG]
  obtain ⟨Wf,hWf⟩:∃Wf,W1.alloc (.cells #[.int .u8 2,.int .u8 ((i:Int) / 16777216),.int .u8 ((i:Int) / 65536 % 256),.int .u8 ((i:Int) / 256 % 256),.int .u8 ((i:Int) % 256)] 5)=Wf:=⟨_,rfl⟩
  have hf5:SeesM (fun j=>j=w.heap.size+1+1) Wf (some ⟨w.heap.size+1+1,0,none⟩) (bv ([2]++four i)):=by
   have:=first5 i W1 ((i:Int) / 16777216) ((i:Int) / 65536 % 256) ((i:Int) / 256 % 256) ((i:Int) % 256) (by omega) (by omega) (by omega) (by omega) 5
   rw[hWf,hz1] at this
   exact this
  have hbf:Below w.heap.size w Wf:=by rw[←hWf];exact hb1.alloc hb1.size _
  have hzf:Wf.heap.size=w.heap.size+1+1+1:=by rw[←hWf];simp[hz1]
  have s0:Box1 Wf w.heap.size 22 (.slice none 0 0):=by rw[←hWf];exact r0.alloc _
  have s1:Box1 Wf (w.heap.size+1) 4 (.bool false):=by rw[←hWf];exact r1.alloc _
  have hT:=Lib.hid (told_any (some ⟨P,0,none⟩) (some ⟨w.heap.size+1+1,0,none⟩) 5 5 Wf)
  have hq:=fun w3 hb=>seqRows_ix (w:=Wf) (HI.out.below hbf) hF (fun k=>k<w.heap.size∨k=w.heap.size+1+1) (fun k e=>by rcases e with e|e<;>omega) (fun k e => .inl (h.lt k e)) ([2]++four i) (some ⟨w.heap.size+1+1,0,none⟩) 5 5 (hf5.mono fun k e => .inr e) rfl w3 (w.heap.size+1+1+1) (w.heap.size+1+1+1+1) 4 hb
  obtain ⟨L,hL⟩:∃L,rowsP s.all ([2]++four i)=L:=⟨_,rfl⟩
  rw[hL] at hq
  rw[hL]
  refine callsIn_of_wp_marks Tryz.func30 rfl trivial ?_ rfl
  simp only[Tryz.ntmps30,List.size_toArray,List.length_cons,List.length_nil,Nat.reduceAdd,Nat.reduceSub,Array.replicate_succ,Array.replicate_zero,List.push_toArray,List.append_toArray,List.nil_append,List.cons_append]
  clear h hF hG hf5 hL r0 r1
  gi_wp2_with fail
  refine ⟨trivial,(callsIn_wide.2 hT.out).mono ?_⟩
  rintro e w3 ⟨rfl,hw3⟩
  have tb:=ToldBox.of hw3
  have hz3:=tb.size
  have u1:=tb.b1.cell
  have u2:=tb.b2.cell
  rw[hzf] at u1 u2
  have hD:=hq w3 tb.below u1 u2 (by omega) (by omega)
  have t0:=s0.below tb.below (by omega)
  have t1:=s1.below tb.below (by omega)
  have hb3:Below w.heap.size w w3:=hbf.trans (tb.below.mono (by omega))
  clear hT hq hw3 c0 c1 f0 f1 u1 u2
  gi_wp2_with fail
  refine wpIn_rows (B1:=w.heap.size+1+1+1) (B2:=w.heap.size+1+1+1+1) rfl hD (fun k e=>by omega) (by omega)
   (fun s' pre W=>pre = []∧RIn w3.heap.size w s' W∧Box1 W w.heap.size 22 (.slice none 0 0)∧Box1 W (w.heap.size+1) 4 (.bool false))
   (fun c s' pre W=>c = .ret∧RIn w3.heap.size w s' W∧∃y:RowT,pre = [y]∧Box1 W w.heap.size 22 (.slice y.2.1 y.1.labels.length y.2.2)∧Box1 W (w.heap.size+1) 4 (.bool true)∧y.1.labels.length≤y.2.2∧SeesM (fun k=>k≠w3.heap.size∧k≠w3.heap.size+1∧k<W.heap.size) W y.2.1 (lv y.1.labels))
   ?hI ?hIx ?h0 ?round ?done ?stop
  case hI=>exact fun s s' pre A B h ht hs=>⟨h.1,h.2.1.step (by omega) ht hs,h.2.1.box h.2.2.1 (by omega) ht,h.2.1.box h.2.2.2 (by omega) ht⟩
  case hIx =>
   rintro c s s' pre A B ⟨h1,h2,y,h3,h4,h5,h6,h7⟩ ht hs
   exact ⟨h1,h2.step (by omega) ht hs,y,h3,h2.box h4 (by omega) ht,h2.box h5 (by omega) ht,h6,(h7.keep (Kept.of_turn ht fun k e=>⟨e.2.2,by omega⟩)).mono fun k e=>⟨e.1,e.2.1,Nat.lt_of_lt_of_le e.2.2 ht.size⟩⟩
  case h0=>exact ⟨rfl,⟨fun _ e=>e.elim,hb3,Nat.le_refl _⟩,t0,t1⟩
  case round =>
   apply Exists.intro
   constructor
   ·intro l y b W K hb hK
    gi_wp2
    rw[hb.out]
    exact hK.out
   ·rintro l s' pre y b W ⟨rfl,hR,hx1,hx2⟩ hok h6 hsp hb2 hbW hsb
    have d1:=hx1.cell
    have d2:=hx2.cell
    have f1:=hx1.frozen
    have f2:=hx2.frozen
    have hcap:=hok.cap
    obtain ⟨ll,hll⟩:∃ll,y.1.labels.length=ll:=⟨_,rfl⟩
    obtain ⟨v0,v1,v2,v3,v4,v5, -⟩:=h6
    rw[hll] at v1
    have HLL:=Lib.hid hll
    clear hll
    gi_wp2_with fail
    have hst:Turn (fun k=>k=w.heap.size∨k=w.heap.size+1) W ((W.setCell ⟨w.heap.size,0,none⟩ (.slice y.2.1 ll y.2.2)).setCell ⟨w.heap.size+1,0,none⟩ (.bool true)):=(Turn.setCell _ _ _ (.inl rfl)).trans (Turn.setCell _ _ _ (.inr rfl))
    refine ⟨hst.mono fun k _ e=>⟨fun e2=>by have:=hR.sep _ e2;omega,by omega,by omega,by omega⟩,rfl,hR.put hst (fun k e=>by omega),y,rfl,?_,?_,hcap,?_⟩
    ·rw[HLL.out];exact (hx1.set _).turn (Turn.setCell (T:=fun k=>k=w.heap.size+1) _ _ _ rfl) (by omega)
    ·exact (hx2.turn (Turn.setCell (T:=fun k=>k=w.heap.size) _ _ _ rfl) (by omega)).set _
    ·exact (hok.sees.keep (Kept.of_turn hst fun k e=>⟨hok.lt k e,fun e2=>by have:=hR.sep _ e;omega⟩)).mono fun k e=>⟨(hsp k e).1,(hsp k e).2,Nat.lt_of_lt_of_le (hok.lt k e) hst.size⟩
  case done =>
   rintro s' xs W hS ⟨rfl,hR,hx1,hx2⟩ hK
   have hL0:L = []:=by simpa using hS.symm
   have d1:=hx1.cell
   have d2:=hx2.cell
   have f1:=hx1.frozen
   have f2:=hx2.frozen
   have HL0:=Lib.hid hL0
   clear hS hL0
   gi_wp2_with fail
   have hst:Turn (fun k=>k=w.heap.size∨k=w.heap.size+1) W ((W.setCell ⟨w.heap.size,0,none⟩ (.slice none 0 0)).setCell ⟨w.heap.size+1,0,none⟩ (.bool false)):=(Turn.setCell _ _ _ (.inl rfl)).trans (Turn.setCell _ _ _ (.inr rfl))
   have y1:=(hx1.set (.slice none 0 0)).turn (Turn.setCell (T:=fun k=>k=w.heap.size+1) _ ⟨w.heap.size+1,0,none⟩ (.bool false) rfl) (by omega)
   have y2:=(hx2.turn (Turn.setCell (T:=fun k=>k=w.heap.size) _ ⟨w.heap.size,0,none⟩ (.slice none 0 0) rfl) (by omega)).set (.bool false)
   have hR2:=hR.put hst (fun k e=>by omega)
   have hK':=(hst.block _ (Array.getElem?_eq_some_iff.1 hK).1 (by omega)).trans hK
   generalize (W.setCell ⟨w.heap.size,0,none⟩ (.slice none 0 0)).setCell ⟨w.heap.size+1,0,none⟩ (.bool false)=WZ at y1 y2 hR2 hK' ⊢
   have z1:=(y1.turn (Turn.putObj WZ w3.heap.size (.deferred none) (T:=fun k=>k=w3.heap.size) rfl) (by omega)).cell
   have z2:=(y2.turn (Turn.putObj WZ w3.heap.size (.deferred none) (T:=fun k=>k=w3.heap.size) rfl) (by omega)).cell
   refine ⟨by simp,.inl ⟨_,_,rfl,run_takeDeferred hK',?_⟩⟩
   refine ⟨.tuple #[.slice none 0 0,.bool false],by simp[results,Tryz.f30,go_sem,z1,z2],?_⟩
   rw[HL0.out]
   exact ⟨none,0,0,rfl,rfl,Nat.le_refl _,Sees.nil _ _ _,hR2.end_ (by omega) 0⟩
  case stop =>
   rintro c s' pre W hS ⟨rfl,hR,y,rfl,hx1,hx2,hcap,hsee⟩ hK
   gi_wp2_with fail
   have ht:=Turn.putObj W w3.heap.size (.deferred none) (T:=fun k=>k=w3.heap.size) rfl
   have z1:=(hx1.turn ht (by omega)).cell
   have z2:=(hx2.turn ht (by omega)).cell
   have hh:L.head?=some y.1:=by obtain ⟨t,ht⟩:=hS;rw[←ht];simp
   refine ⟨by simp,.inl ⟨_,_,rfl,run_takeDeferred hK,?_⟩⟩
   refine ⟨.tuple #[.slice y.2.1 y.1.labels.length y.2.2,.bool true],by simp[results,Tryz.f30,go_sem,z1,z2],?_⟩
   rw[hh]
   exact ⟨_,_,_,rfl,rfl,hcap,(hsee.keep (Kept.of_turn ht fun k e=>⟨e.2.2,e.1⟩)).sees fun k e=>Nat.lt_of_lt_of_le e.2.2 ht.size,hR.end_ (by omega) 0⟩
 ·have hG:s.labOf id=none:=by unfold SetM.labOf;rw[if_neg hid]
  rw[hG]
  have hb0:(decide (id<1) || decide (1073741824<id))=true:=by
   rw[Bool.or_eq_true,decide_eq_true_eq,decide_eq_true_eq];omega
  have hst:Turn (fun k=>k=w.heap.size∨k=w.heap.size+1) W1 ((W1.setCell ⟨w.heap.size,0,none⟩ (.slice none 0 0)).setCell ⟨w.heap.size+1,0,none⟩ (.bool false)):=(Turn.setCell _ _ _ (.inl rfl)).trans (Turn.setCell _ _ _ (.inr rfl))
  have y1:=((r0.set (.slice none 0 0)).turn (Turn.setCell (T:=fun k=>k=w.heap.size+1) _ ⟨w.heap.size+1,0,none⟩ (.bool false) rfl) (by omega)).cell
  have y2:=((r1.turn (Turn.setCell (T:=fun k=>k=w.heap.size) _ ⟨w.heap.size,0,none⟩ (.slice none 0 0) rfl) (by omega)).set (.bool false)).cell
  have hbe:=hb1.trans (hst.below (fun k e=>by omega) hb1.size)
  have hidn:id<1∨1073741824<id:=by omega
  refine callsIn_of_wp_marks Tryz.func30 rfl trivial ?_ rfl
  simp only[Tryz.ntmps30,List.size_toArray,List.length_cons,List.length_nil,Nat.reduceAdd,Nat.reduceSub,Array.replicate_succ,Array.replicate_zero,List.push_toArray,List.append_toArray,List.nil_append,List.cons_append]
  clear h hF hG hid r0 r1
  rcases hidn with hlt|hgt
  ·gi_wp2_with fail
   refine ⟨.tuple #[.slice none 0 0,.bool false],by simp[results,Tryz.f30,go_sem,y1,y2],?_⟩
   exact ⟨none,0,0,rfl,rfl,Nat.le_refl _,Sees.nil _ _ _,hbe⟩
  ·have h1i:1≤id:=by omega
   gi_wp2_with fail
   refine ⟨.tuple #[.slice none 0 0,.bool false],by simp[results,Tryz.f30,go_sem,y1,y2],?_⟩
   exact ⟨none,0,0,rfl,rfl,Nat.le_refl _,Sees.nil _ _ _,hbe⟩
end
section
open Go.RowKit Go.Shelf
attribute [local go_sem] Oper.semAt_some
theorem id_any {m:Nat→Prop}{w:World}{P:Nat}{s:SetM}(h:IxAt m w P s) (hF:SetFit s) (A:Option Addr) (n c:Nat) (ls:List Lb) (hn:ls.length=n) (hS:Sees w w.heap.size A (lv ls)) (hlen:n≤1099511627776) (hsz:∀x∈ls,x.1.size≤9223372036854775807) :
  Calls Tryz.prog 31 #[.pointer (some ⟨P,0,none⟩),.slice A n c] w (Gives w (.tuple #[.int .i64 (s.idOf ls),.bool (decide (0<s.idOf ls))])):=by
 refine (callsIn_wide (n:=5)).1 ?_
 obtain ⟨Wb,hWb⟩:∃Wb,w.alloc (.cells #[.pointer (some ⟨P,0,none⟩)] 29)=Wb:=⟨_,rfl⟩
 have hbb:Below w.heap.size w Wb:=by rw[←hWb];exact (Below.refl _ w).alloc (Nat.le_refl _) _
 have hzb:Wb.heap.size=w.heap.size+1:=by rw[←hWb];simp
 have b0:Box1 Wb w.heap.size 29 (.pointer (some ⟨P,0,none⟩)):=by rw[←hWb];exact Box1.new _ _ _
 have hA:=Lib.hid ((Ahead_any A n c ls hn 1 0 0 ⟨#[]⟩ ⟨#[]⟩ Wb ((hS.below hbb).more (by omega)) hlen hsz (by decide)).mono fun _ _ e=>e.same)
 have HI:=Lib.hid h
 have HF:=Lib.hid hF
 clear h hn hlen hsz hF
 refine callsIn_of_wp_marks Tryz.func31 rfl trivial ?_ rfl
 simp only[Tryz.ntmps31,List.size_toArray,List.length_cons,List.length_nil,Nat.reduceAdd,Nat.reduceSub,Array.replicate_succ,Array.replicate_zero,List.push_toArray,List.append_toArray,List.nil_append,List.cons_append]
 gi_wp2_with fail
 refine ⟨trivial,(callsIn_wide.2 hA.out).mono ?_⟩
 rintro e w1 ⟨Bx,lx,cx,rfl,hb1,hll,hlc,hsee⟩
 have hsize1:=hb1.size
 have hbw1:Below w.heap.size w w1:=hbb.trans (hb1.mono (by omega))
 obtain ⟨W0,hW0⟩:∃W0,w1.alloc (.cells #[.int .i64 0] 3)=W0:=⟨_,rfl⟩
 obtain ⟨W2,hW2⟩:∃W2,W0.setCell ⟨w1.heap.size,0,none⟩ (.int .i64 0)=W2:=⟨_,rfl⟩
 have nb:=NewBox.of hW0 hW2
 have cc1:=nb.cell
 have ff1:=nb.frozen
 have b0' : Box1 W2 w.heap.size 29 (.pointer (some ⟨P,0,none⟩)):=(b0.below hb1 (by omega)).below nb.below (by omega)
 have c0:=b0'.cell
 have hT:=Lib.hid (told_any (some ⟨P,0,none⟩) Bx lx cx W2)
 have hnz:=nb.size
 clear hA hbb hb1 b0
 by_cases hm:MayL ls
 ·obtain ⟨ha1,ha2⟩:=ah_series hm 0
  have e0:(⟨1,ls,(⟨#[]⟩,⟨#[]⟩),0,0⟩:RowP)=⟨1,ls,lb0,0,0⟩:=rfl
  rw[e0,ha2]
  rw[e0,ha1] at hll hsee
  have HP:Hid (s.idOf ls=bestP s (rowsP s.all ([1]++marsh (sortN ls) ++ [0]))):=by unfold Hid SetM.idOf;rw[if_pos hm]
  have hseq:=seqRows_ix (HI.out.below hbw1) HF.out (fun k=>k<w1.heap.size) (fun k e=>e) (fun k e=>Nat.lt_of_lt_of_le (HI.out.lt k e) hbw1.size) _ Bx lx cx hsee.toM hll
  obtain ⟨L,hL⟩:∃L,rowsP s.all ([1]++marsh (sortN ls) ++ [0])=L:=⟨_,rfl⟩
  rw[hL] at hseq HP
  clear hL hm ha1 ha2 e0 hll hS hsee
  gi_wp2_with fail
  refine ⟨trivial,(callsIn_wide.2 hT.out).mono ?_⟩
  rintro e w3 ⟨rfl,hw3⟩
  have tb:=ToldBox.of hw3
  have hz3:=tb.size
  have hb13:Below w1.heap.size w1 w3:=nb.below.trans (tb.below.mono (by omega))
  have hD:=hseq w3 W2.heap.size (W2.heap.size+1) 4 hb13 tb.b1.cell tb.b2.cell (by omega) (by omega)
  have c1:=b0'.below tb.below (by omega)
  have c2:=nb.box.below tb.below (by omega)
  rw[hnz] at hD
  clear hT hseq hw3 cc1 ff1 c0
  gi_wp2_with fail
  refine wpIn_rows (B1:=w1.heap.size+1) (B2:=w1.heap.size+1+1) rfl hD (fun k e=>by omega) (by omega)
   (fun s' pre W=>RIn w3.heap.size w s' W∧Box1 W w.heap.size 29 (.pointer (some ⟨P,0,none⟩))∧Box1 W w1.heap.size 3 (.int .i64 (bestP s (pre.map (·.1)))))
   (fun c s pre W=>False) ?hI (fun _ _ _ _ _ _ e=>e.elim) ?h0 ?round ?done (fun _ _ _ _ _ e=>e.elim)
  case hI=>exact fun s s' pre A B h ht hs=>⟨h.1.step (by omega) ht hs,h.1.box h.2.1 (by omega) ht,h.1.box h.2.2 (by omega) ht⟩
  case h0=>exact ⟨⟨fun _ e=>e.elim,hbw1.trans (hb13.mono (by omega)),Nat.le_refl _⟩,c1,c2⟩
  case round =>
   apply Exists.intro
   constructor
   ·intro l y b W K hb hK
    gi_wp2
    rw[hb.out]
    exact hK.out
   ·rintro l s' pre y b W ⟨hR,hx1,hx2⟩ hok h6 hsp hb2 hbW hsb
    have hG:=Lib.hid (gone_any (HI.out.below hR.below) HF.out y.1.id)
    have d1:=hx1.cell
    have d2:=hx2.cell
    have f2:=hx2.frozen
    obtain ⟨v0,v1,v2,v3,v4,v5, -⟩:=h6
    have hbest:bestP s ((pre ++ [y]).map (·.1))=if s.gone y.1.id=true then bestP s (pre.map (·.1)) else max (bestP s (pre.map (·.1))) y.1.id:=by unfold bestP;rw[List.map_append,List.foldl_append];rfl
    have HB:=Lib.hid hbest
    obtain ⟨bv,hbv⟩:∃bv,bestP s (pre.map (·.1))=bv:=⟨_,rfl⟩
    rw[hbv] at hx2 d2 HB
    obtain ⟨yi,hyi⟩:∃yi,y.1.id=yi:=⟨_,rfl⟩
    rw[hyi] at hG HB v5
    clear hbest hbv hyi
    cases hg:s.gone yi with
    | true =>
     rw[hg] at hG HB
     gi_wp2_with fail
     refine ⟨trivial,(CallsIn.inRound l (callsIn_wide.2 hG.out)).mono ?_⟩
     rintro e w4 ⟨rfl,hb4⟩
     gi_wp2_with fail
     exact ⟨Turn.of_new hb4,hR.step (by omega) (Turn.of_new hb4) fun k e => .inl e,hx1.below hb4 hx1.lt,by rw[HB.out];exact hx2.below hb4 hx2.lt⟩
    | false =>
     rw[hg] at hG HB
     gi_wp2_with fail
     refine ⟨trivial,(CallsIn.inRound l (callsIn_wide.2 hG.out)).mono ?_⟩
     rintro e w4 ⟨rfl,hb4⟩
     have hx4:=hx2.below hb4 hx2.lt
     have d4:=hx4.cell
     have f4:=hx4.frozen
     have v5':=(hb4.cell (p:=⟨b,5,none⟩) hbW).trans v5
     clear d2 f2
     gi_wp2_with fail
     have hst:Turn (fun k=>k=w1.heap.size) W (w4.setCell ⟨w1.heap.size,0,none⟩ (.int .i64 (max bv yi))):=(Turn.of_new hb4).trans (Turn.setCell _ _ _ rfl)
     refine ⟨hst.mono fun k _ e=>by subst e;exact ⟨fun e=>by have:=hR.sep _ e;omega,by omega,by omega,by omega⟩,⟨fun k e=>hR.sep k e,hR.below.trans (hst.below (fun k e=>by omega) hR.below.size),Nat.le_trans hR.size hst.size⟩,hx1.turn hst (by omega),by rw[HB.out,if_neg (by simp)];exact hx4.set _⟩
  case done =>
   rintro s' xs W hS ⟨hR,hx1,hx2⟩ hK
   rw[hS, ←HP.out] at hx2
   have d2:=hx2.cell
   gi_wp2_with fail
   refine wpIn_wide.2 ?_
   go_quiet (fail)
   have hK' : (W.drewN nq).heap[w3.heap.size]?=some (.deferred (some [])):=hK
   have hbl:=(below_d hR.below nq).trans ((Turn.putObj (W.drewN nq) w3.heap.size (.deferred none) (T:=fun k=>k=w3.heap.size) rfl).below (fun j hj=>by omega) hR.below.size)
   gi_wp2_with fail
   refine ⟨by simp,.inl ⟨_,_,rfl,run_takeDeferred hK',?_⟩⟩
   exact ⟨_,by simp[results,Tryz.f31,go_sem],rfl,hbl⟩
 ·have ha2:=ah_bad hm 0
  have e0:(⟨1,ls,(⟨#[]⟩,⟨#[]⟩),0,0⟩:RowP)=⟨1,ls,lb0,0,0⟩:=rfl
  rw[e0,ha2]
  have HP:Hid (s.idOf ls=0):=by unfold Hid SetM.idOf;rw[if_neg hm]
  have d2:=nb.box.cell
  have hbw2:=hbw1.trans (nb.below.mono hbw1.size)
  clear hm ha2 e0 hll hS hsee hT
  gi_wp2_with fail
  refine wpIn_wide.2 ?_
  go_quiet (fail)
  gi_wp2_with fail
  exact ⟨.tuple #[.int .i64 0,.bool false],by simp[results,Tryz.f31,go_sem],by rw[HP.out];rfl,below_d hbw2 nq⟩
end
section
open Go.RowKit Go.Shelf
attribute [local go_sem] Oper.semAt_some
structure RowAsk (W:World) (y:RowT):Prop where
 see:Sees W W.heap.size y.2.1 (lv y.1.labels)
 cap:y.1.labels.length≤y.2.2
def AsksRow (w:World) (g:FuncId) (lb:Array Value) (L:List RowP) (p:RowP→Bool):Prop :=
 ∀(W:World) (y:RowT),Below w.heap.size w W→y.1∈L→RowAsk W y→Calls Tryz.prog g (#[rowVal y.1 y.2.1 y.2.2]++lb) W (Gives W (.bool (p y.1)))
theorem rows_newI (w:World) (b:Nat) (hb:w.heap.size=b) (cs:Array Value) (t:TypeId) (ll:List (List Int)) (h:∀i (hi:i<ll.length),∃Ai ci,cs[i]?=some (.slice Ai (ll[i]).length ci)∧(ll[i]).length≤ci∧SeesM (fun k=>k<b) w Ai (KI.iv ll[i])) :
  KI.RowsIn (fun k=>k<(w.alloc (.cells cs t)).heap.size) (w.alloc (.cells cs t)) (some ⟨b,0,none⟩) ll:=by
 refine ⟨fun i hi => ?_⟩
 obtain ⟨Ai,ci,h1,h2,h3⟩:=h i hi
 refine ⟨⟨b,0,none⟩,Ai,ci,rfl,by simp[hb],?_,h2,?_,fun x hx=>⟨trivial⟩⟩
 ·rw[Addr.add_lit,Nat.zero_add, ←hb,World.cell?_alloc_at _ _ _ _ rfl];exact h1
 ·exact (h3.keep (Kept.of_below (B:=b) (by rw[←hb];exact (Below.refl _ w).alloc (Nat.le_refl _) _) fun k e=>e)).mono fun k e=>by simp;omega
def NewI (w:World) (l:List Int) (e:Ending) (w' : World):Prop:=∃A c,e = .returned (.slice A l.length c)∧l.length≤c∧SeesM (fun k=>w.heap.size≤k∧k<w'.heap.size) w' A (KI.iv l)∧Below w.heap.size w w'
theorem newI_of {w w1 w' : World}{l:List Int}{e:Ending}(hb:Below w.heap.size w w1) (h:KI.RowVal w1 l e w'):NewI w l e w':=by
 obtain ⟨v,rfl,h1,h2⟩:=h
 obtain ⟨A,c,rfl,hc⟩:=KI.own_slice h1
 exact ⟨A,c,rfl,hc,(KI.own_seesM h1).mono fun k e=>⟨Nat.le_trans hb.size e.1,e.2⟩,hb.trans (h2.mono hb.size)⟩
theorem ints_1 {w:World}{A:Option Addr}{c:Nat}(l:List Int) (hl:l.length≤1000000) (hc:l.length≤c) (hs:Sees w w.heap.size A (KI.iv l)) (b:Nat) (hb:w.heap.size=b) :
  Calls Tryz.prog 95 #[.slice (some ⟨b,0,none⟩) 1 1] (w.alloc (.cells #[.slice A l.length c] 23)) (NewI w (uniqL KI.lt l)):=by
 have hR:=rows_newI w b hb #[.slice A l.length c] 23 [l] fun i hi=>by
  match i,hi with
  | 0,_=>exact ⟨A,c,rfl,hc,by rw[←hb];exact hs.toM⟩
 have:=KI.Ints_any (some ⟨b,0,none⟩) 1 1 [l] _ hR rfl (by omega) (by simpa using hl) (by simp;omega)
 rw[show [l].flatten=l from by simp] at this
 exact this.mono fun e w' hv=>newI_of ((Below.refl _ w).alloc (Nat.le_refl _) _) hv
theorem ids_any {w:World}{R0:Nat→Prop}{B1 B2:Nat}{L:List RowP}{p:RowP→Bool}{g:FuncId}{lb:Array Value}(eg:∀args w,(callFunc g args).run Tryz.prog w = .ok (.enter g args) w)
  (hq:∀w3,Below w.heap.size w w3→SeqN Fence.wide 4 Tryz.prog 99 #[.pointer (some ⟨B1,0,none⟩),.pointer (some ⟨B2,0,none⟩)] RowT.vals (fun k=>R0 k∨k=B1∨k=B2) (RowOk L) (fun xs=>xs.map (·.1)=L) (fun pre=>pre.map (·.1) <+: L) L.length w3)
  (hR0:∀k,R0 k→k<w.heap.size) (hB:B1<w.heap.size∧B2<w.heap.size) (hL:L.length≤1000) (hp:AsksRow w g lb L p) :
  Calls Tryz.prog 49 #[.func (.func 99) #[] #[.pointer (some ⟨B1,0,none⟩),.pointer (some ⟨B2,0,none⟩)],.func (.func g) #[] lb] w (NewI w (idsP L p)):=by
 refine (callsIn_wide (n:=5)).1 ?_
 obtain ⟨W0,hW0⟩:∃W0,w.alloc (.cells #[.func (.func g) #[] lb] 98)=W0:=⟨_,rfl⟩
 obtain ⟨W1,hW1⟩:∃W1,W0.alloc (.cells #[.slice none 0 0] 23)=W1:=⟨_,rfl⟩
 have hz0:W0.heap.size=w.heap.size+1:=by rw[←hW0];simp
 have hz1:W1.heap.size=w.heap.size+1+1:=by rw[←hW1];simp[hz0]
 have r0:Box1 W1 w.heap.size 98 (.func (.func g) #[] lb):=by rw[←hW1, ←hW0];exact (Box1.new _ _ _).alloc _
 have r1:Box1 W1 (w.heap.size+1) 23 (.slice none 0 0):=by rw[←hW1, ←hz0];exact Box1.new _ _ _
 have hb1:Below w.heap.size w W1:=by rw[←hW1, ←hW0];exact ((Below.refl _ w).alloc (Nat.le_refl _) _).alloc (by simp) _
 have hD:=hq W1 hb1
 have HP:=Lib.hid hp
 have HEG:=Lib.hid eg
 refine callsIn_of_wp_marks Tryz.func49 rfl trivial ?_ rfl
 simp only[Tryz.ntmps49,List.size_toArray,List.length_cons,List.length_nil,Nat.reduceAdd,Nat.reduceSub,Array.replicate_succ,Array.replicate_zero,List.push_toArray,List.append_toArray,List.nil_append,List.cons_append]
 clear hq hp eg
 obtain ⟨ti,hi,hy0,hy1,hy2⟩:=info_parts KI.iinfo
 gi_wp2_with fail
 refine wpIn_rows (B1:=B1) (B2:=B2) rfl hD (fun k e=>Nat.lt_of_lt_of_le (hR0 k e) (by omega)) (by omega)
  (fun s' pre W=>KI.IntsSt w (w.heap.size+1) (w.heap.size+1+1) (w.heap.size+1+1) s' (((pre.map (·.1)).filter p).map (·.id)) W∧Box1 W w.heap.size 98 (.func (.func g) #[] lb))
  (fun c s pre W=>False) ?hI (fun _ _ _ _ _ _ e=>e.elim) ?h0 ?round ?done (fun _ _ _ _ _ e=>e.elim)
 case hI=>exact fun s s' pre A B h ht hs=>⟨h.1.step (by omega) (Nat.le_refl _) (by omega) ht (fun k e => .inr (by omega)) hs,h.2.turn ht (by omega)⟩
 case h0=>exact ⟨⟨fun k e=>e.elim,hb1,by omega,_,r1,World.ownsRow_nil _ _ _ _,fun k e=>by simp[Value.ownBlock] at e⟩,r0⟩
 case round =>
  apply Exists.intro
  constructor
  ·intro l y b W K hb hK
   gi_wp2
   rw[hb.out]
   exact hK.out
  ·rintro l s' pre y b W ⟨hSt,hx1⟩ hok h6 hsp hb2 hbW hsb
   have hme:y.1∈L:=by obtain ⟨t,ht⟩:=hok.pre;rw[←ht];simp
   have hA:=Lib.hid (HP.out W y hSt.below hme ⟨hok.sees.sees hok.lt,hok.cap⟩)
   have heg:=HEG.out
   have d1:=hx1.cell
   obtain ⟨v0,v1,v2,v3,v4,v5, -⟩:=h6
   obtain ⟨v,hbox,hrow,hblk⟩:=hSt.out
   have hpl:(((pre.map (·.1)).filter p).map (·.id)).length≤1000:=by
    have h1:=hok.pre.length_le
    rw[List.length_append,List.length_map] at h1
    rw[List.length_map]
    have h2:=List.length_filter_le p (pre.map (·.1))
    rw[List.length_map] at h2
    omega
   have hst:((pre ++ [y]).map (·.1)).filter p=(pre.map (·.1)).filter p++if p y.1=true then [y.1] else []:=by
    rw[List.map_append,List.filter_append]
    congr 1
    cases h:p y.1<;>simp[h]
   have HST:=Lib.hid hst
   obtain ⟨ln,hln⟩:∃ln,(((pre.map (·.1)).filter p).map (·.id)).length=ln:=⟨_,rfl⟩
   rw[hln] at hpl hrow
   obtain ⟨Av,cv,rfl⟩:∃Av cv,v = .slice Av ln cv:=by
    rcases hrow.2 with ⟨rfl,hn⟩|⟨g,cap,cur,rfl, -⟩
    ·exact ⟨none,0,by rw[hn]⟩
    ·exact ⟨_,cap,rfl⟩
   have HLN:=Lib.hid hln
   obtain ⟨yi,hyi⟩:∃yi,y.1.id=yi:=⟨_,rfl⟩
   have HYI:=Lib.hid hyi
   have hvr:rowVal y.1 y.2.1 y.2.2 = .agg #[.int .i64 y.1.kind,.slice y.2.1 y.1.labels.length y.2.2,.string y.1.label.1,.string y.1.label.2,.int .i64 y.1.day,.int .i64 yi]:=by rw[←hyi]
   rw[hvr] at hA
   rw[hyi] at v5
   clear hst hln hyi hvr hme
   cases hp:p y.1 with
   | false =>
    rw[hp] at hA HST
    gi_wp2_with fail
    refine ⟨trivial,(CallsIn.inRound l (callsIn_wide.2 hA.out)).mono ?_⟩
    rintro e w4 ⟨rfl,hb4⟩
    gi_wp2_with fail
    exact ⟨Turn.of_new hb4,by rw[HST.out,if_neg (by simp),List.append_nil];exact hSt.step (by omega) (Nat.le_refl _) (by omega) (Turn.of_new (T:=fun _=>False) hb4) (fun k e=>e.elim) (fun k e => .inl e),hx1.below hb4 hx1.lt⟩
   | true =>
    rw[hp] at hA HST
    gi_wp2_with fail
    refine ⟨trivial,(CallsIn.inRound l (callsIn_wide.2 hA.out)).mono ?_⟩
    rintro e w4 ⟨rfl,hb4⟩
    have hz4:=hb4.size
    have hSt4:=hSt.step (s':=s') (by omega) (Nat.le_refl _) (by omega) (Turn.of_new (T:=fun _=>False) hb4) (fun k e=>e.elim) (fun k e => .inl e)
    have hbox4:=hbox.below hb4 hbox.lt
    have hrow4:=ownsRow_kept hrow fun k e=>hb4.block k (World.ownsRow.lt hrow k e).2
    have c5:=hbox4.cell
    have e5:=(hb4.cell (p:=⟨b,5,none⟩) hbW).trans v5
    have hobv:(Value.slice Av ln cv).ownBlock≠some (w.heap.size+1):=fun e=>by have:=(hblk _ e).1;omega
    have hdl:w.heap.size+1+1+2≤w4.heap.size:=by omega
    have hnb:Below w4.heap.size w4 (w4.alloc (.cells #[.int .i64 yi] 3)):=(Below.refl _ _).alloc (Nat.le_refl _) _
    have hsee:Sees (w4.alloc (.cells #[.int .i64 yi] 3)) (w4.heap.size+1) (some ⟨w4.heap.size,0,none⟩) [.int .i64 yi]:=⟨.inr ⟨_,rfl,by simp,fun j u hu=>by match j,hu with|0,hu=>(simp at hu;subst hu;rw[Addr.add_lit,World.cell?_alloc_at _ _ _ _ rfl];rfl)⟩⟩
    have hrow2:=hrow4.alloc (.cells #[.int .i64 yi] 3)
    clear v0 v1 v2 v3 v4 v5 d1 hA hD hrow hbox
    gi_wp2_with ((with_reducible refine wpListIn_append_v ?_ (.tmp 12) (.tmp 15) 23 ?_ 3 ti _ 1 8 ?_ hi hy0 hy1 hy2 ?_ ?_ (w.heap.size+1+1+2) (.slice Av ln cv) ln _ ?_ hrow2 _ (some ⟨w4.heap.size,0,none⟩) 1 1 [.int .i64 yi] ?_ ?_ hsee ?_ ?_ ?_ ?_ ?_);exact rfl;exact rfl;exact Tryz.underlying23;exact rfl;omega;exact rfl;exact rfl;exact rfl;(exact fun u hu=>by simp at hu;subst hu;rfl);(simp only[maxLen];omega);omega;(simp;omega);intro v' wn hown hon;obtain ⟨gv,cv',rfl⟩:=ownsRow_succ hown;have b3:=(hbox4.below hnb hbox4.lt).turn (Turn.onto (T:=fun k=>(Value.slice Av ln cv).ownBlock=some k) hon fun k e=>e) hobv;have c3:=b3.cell;have f3:=b3.frozen)
    have hput:=KI.ints_put hSt4 (by omega) (Nat.le_refl _) (by omega) hdl hbox4 (by rw[HLN.out];exact hrow4) hblk hnb (by rw[HLN.out];exact hown) hon
    have hT:=(Turn.of_new hb4).trans hput.2
    refine ⟨hT.mono fun j _ e => ?_,by rw[HST.out];simp only[↓reduceIte,List.map_append,List.map_singleton,HYI.out];exact hput.1,(hx1.below hb4 hx1.lt).turn hput.2 (fun e=>by rcases e with e|e;omega;have:=(hblk _ e).1;omega)⟩
    rcases e with rfl|e
    ·exact ⟨fun e=>by have:=(hSt.sep _ e).1;omega,fun e=>by rcases e with e|e|e;have:=hR0 _ e;omega;omega;omega,by omega,by omega⟩
    ·have h1:=hblk j e
     exact ⟨h1.2,fun e=>by rcases e with e|e|e;have:=hR0 _ e;omega;omega;omega,by omega,by omega⟩
 case done =>
  rintro s' xs W hS ⟨hSt,hx1⟩ hK
  rw[hz1] at hK
  rw[hS] at hSt
  obtain ⟨v,hbox,hrow,hblk⟩:=hSt.out
  have hlL:((L.filter p).map (·.id)).length≤1000:=by rw[List.length_map];exact Nat.le_trans (List.length_filter_le _ _) hL
  have hUd:idsP L p=uniqL KI.lt ((L.filter p).map (·.id)):=rfl
  obtain ⟨O,hO⟩:∃O,(L.filter p).map (·.id)=O:=⟨_,rfl⟩
  rw[hO] at hrow hlL hUd
  obtain ⟨Av,cv,rfl,hlc⟩:=KI.own_slice hrow
  have hse:Sees W W.heap.size Av (KI.iv O):=Sees.of_own hrow
  have c5:=hbox.cell
  have hI:=Lib.hid (ints_1 O (by omega) hlc hse W.heap.size rfl)
  have HU:=Lib.hid hUd
  have hbel:=hSt.below
  obtain ⟨ln,hln⟩:∃ln,O.length=ln:=⟨_,rfl⟩
  rw[hln] at c5 hI
  have hDW:w.heap.size+1+1<W.heap.size:=(Array.getElem?_eq_some_iff.1 hK).1
  clear hrow hse hUd hln hO hD
  gi_wp2_with fail
  refine ⟨trivial,(callsIn_wide.2 hI.out).mono ?_⟩
  rintro e w5 ⟨Az,cz,rfl,hcz,hsz,hb5⟩
  gi_wp2_with fail
  have hK':=(hb5.block _ (Array.getElem?_eq_some_iff.1 hK).1).trans hK
  have hbz:Below w.heap.size w w5:=hbel.trans (hb5.mono hbel.size)
  have htp:=Turn.putObj w5 (w.heap.size+1+1) (.deferred none) (T:=fun k=>k=w.heap.size+1+1) rfl
  refine ⟨by simp,.inl ⟨_,_,rfl,run_takeDeferred hK',?_⟩⟩
  have hWs:=hSt.size
  refine ⟨_,results_tmp rfl _ _ _,Az,cz,by rw[HU.out];rfl,by rw[HU.out];exact hcz,?_,hbz.trans (htp.below (fun k e=>by omega) hbz.size)⟩
  rw[HU.out]
  exact (hsz.keep (Kept.of_turn htp fun k e=>⟨e.2,by omega⟩)).mono fun k e=>⟨by omega,Nat.lt_of_lt_of_le e.2 htp.size⟩
end
end Go.Proofs.YtalmnodgjjcefaaGreatDoor
