/- Several texts in one: Append Range Mem IpPlain IpBuild IpBuild2. -/
import Derived.Test.YtalmnodgjjcefaaGreatDoorJTk
import Derived.Test.YtalmnodgjjcefaaGreatDoorJLow
import Derived.RangeFuncNested
import Derived.RangeFuncBound
import Derived.RangeFuncCalls
import Derived.RangeFuncLeaves
import Derived.Shelf.Abstract
import Derived.Shelf.RegionOpen
import Derived.OwnWalkIn
import Derived.TacticsInMore
import Derived.LoopNIn
import Derived.LoopIn
import Derived.Test.YtalmnodgjjcefaaGreatDoorJItm
import Derived.RangeFuncBox
import Derived.Test.YtalmnodgjjcefaaGreatDoorJFrm
set_option maxRecDepth 100000
set_option maxHeartbeats 3200000
namespace Go.Proofs.YtalmnodgjjcefaaGreatDoor
section
open Go.RowKit
section
variable {P : Program}
theorem run_append_v (w:World) (t ty e:TypeId) (i:TypeInfo) (z:Value) (size bytes:Nat) (ht:P.underlying t=some (.slice e)) (hi:P.info? e=some i) (hz:i.zero=some z)
  (hsize:i.size=size) (hby:i.bytes=bytes) (hzs:z.cells.size=size) (hsz:0<size)
  (base:Nat) (v:Value) (n:Nat) (xs:List Value) (hown:w.ownsRow base e size v n xs) (B:Nat) (A:Option Addr) (m c:Nat) (news:List Value) (hm:news.length=m*size) (hs:Sees w B A news)
  (h1:∀u∈news,u.oneCell'=true) (h63:n+m≤maxLen) (hbytes:(n+m)*bytes≤140737488355328) (hbase:base≤w.heap.size) :
  ∃v' w',(Builtin.append_ #[t,t] ty #[v,.slice A m c]).run P w = .ok v' w'∧w'.ownsRow base e size v' (n+m) (xs++news)∧Onto w w' v v':=by
 rcases hs.out with h0|⟨ad,rfl,hb,hc⟩
 ·subst h0
  have hm0:m=0:=by
   rcases Nat.eq_zero_or_pos m with h|h
   ·exact h
   ·have:=Nat.mul_pos h hsz;simp at hm;omega
  subst hm0
  rw[List.append_nil]
  refine ⟨v,w,?_,hown,Onto.refl _ _⟩
  rcases hown.2 with ⟨rfl,hx⟩|⟨g,cap,cur,rfl,_,_,hnc,_⟩
  ·cases A<;>simp[Builtin.append_,run_underlying ht,sizeOf,typeInfo,hi,Builtin.lenOf,Builtin.firstCells,loadCells,loadCellsFrom]
  ·cases A<;>simp[Builtin.append_,run_underlying ht,sizeOf,typeInfo,hi,Builtin.lenOf,Builtin.firstCells,hnc,storeCells,loadCells,loadCellsFrom]
 ·obtain ⟨v',w',hrun,h2,h3,_,h5⟩:=run_append_own_at (P:=P) w base t ty e i z size bytes ht hi hz hsize hby hzs hsz v n xs hown ad m c news hm hc h1 h63 hbytes hbase
  refine ⟨v',w',hrun,h2,h3,?_⟩
  rcases h5 with h5|h5
  ·exact .inl h5
  ·exact .inr ⟨_,h5,Nat.le_refl _⟩
theorem wp_append_v {w:World}{o:Oper}{a:Act}{K:Act→World→Prop}{Q:Exit→Act→World→Prop}(s x:Operand) (t:TypeId)
  (ho:o.op = .call { callee := .builtin .append,args := #[s,x],argTypes := #[t,t] })
  (e:TypeId) (i:TypeInfo) (z:Value) (size bytes:Nat) (ht:P.underlying t=some (.slice e)) (hi:P.info? e=some i) (hz:i.zero=some z)
  (hsize:i.size=size) (hby:i.bytes=bytes) (hzs:z.cells.size=size) (hsz:0<size)
  (base:Nat) (v:Value) (n:Nat) (xs:List Value) (hs:a.eval s=v) (hown:w.ownsRow base e size v n xs) (B:Nat) (A:Option Addr) (m c:Nat) (news:List Value) (hx:a.eval x = .slice A m c) (hm:news.length=m*size) (hsee:Sees w B A news)
  (h1:∀u∈news,u.oneCell'=true) (h63:n+m≤maxLen) (hbytes:(n+m)*bytes≤140737488355328) (hbase:base≤w.heap.size)
  (h:∀v' w',w'.ownsRow base e size v' (n+m) (xs++news)→Onto w w' v v'→K (a.put o.dst v') w'):o.wp P a w K Q:=by
 obtain ⟨v',w',hrun,h2,h3⟩:=run_append_v (P:=P) w t o.type e i z size bytes ht hi hz hsize hby hzs hsz base v n xs hown B A m c news hm hsee h1 h63 hbytes hbase
 unfold Oper.wp execOp
 simp only[ho,resolve,invoke,builtin,Sem.run_bind,Sem.run_pure,Result.andThen_ok,List.map_toArray,List.map_cons,List.map_nil,hs,hx,hrun]
 exact h v' w' h2 h3
theorem wpList_append_v {w:World}{ops:Array Oper}{rest:List Oper}{o:Oper}{a:Act}{Q:Exit→Act→World→Prop}(hgd:o.guard=none) (s x:Operand) (t:TypeId)
  (ho:o.op = .call { callee := .builtin .append,args := #[s,x],argTypes := #[t,t] })
  (e:TypeId) (i:TypeInfo) (z:Value) (size bytes:Nat) (ht:P.underlying t=some (.slice e)) (hi:P.info? e=some i) (hz:i.zero=some z)
  (hsize:i.size=size) (hby:i.bytes=bytes) (hzs:z.cells.size=size) (hsz:0<size)
  (base:Nat) (v:Value) (n:Nat) (xs:List Value) (hs:a.eval s=v) (hown:w.ownsRow base e size v n xs) (B:Nat) (A:Option Addr) (m c:Nat) (news:List Value) (hx:a.eval x = .slice A m c) (hm:news.length=m*size) (hsee:Sees w B A news)
  (h1:∀u∈news,u.oneCell'=true) (h63:n+m≤maxLen) (hbytes:(n+m)*bytes≤140737488355328) (hbase:base≤w.heap.size)
  (h:∀v' w',w'.ownsRow base e size v' (n+m) (xs++news)→Onto w w' v v'→wpList P ops Q rest (a.put o.dst v') w'):wpList P ops Q (o :: rest) a w :=
 wpList_plain hgd fun _ hK=>wp_append_v s x t ho e i z size bytes ht hi hz hsize hby hzs hsz base v n xs hs hown B A m c news hx hm hsee h1 h63 hbytes hbase fun v' w' h2 h3=>hK _ _ (h v' w' h2 h3)
theorem step_append_v {w:World}{ops:Array Oper}{o:Oper}{a:Act}{K:Act→World→Prop}{Q:Exit→Act→World→Prop}{E:Prop}(hgd:o.guard=none) (s x:Operand) (t:TypeId)
  (ho:o.op = .call { callee := .builtin .append,args := #[s,x],argTypes := #[t,t] })
  (e:TypeId) (i:TypeInfo) (z:Value) (size bytes:Nat) (ht:P.underlying t=some (.slice e)) (hi:P.info? e=some i) (hz:i.zero=some z)
  (hsize:i.size=size) (hby:i.bytes=bytes) (hzs:z.cells.size=size) (hsz:0<size)
  (base:Nat) (v:Value) (n:Nat) (xs:List Value) (hs:a.eval s=v) (hown:w.ownsRow base e size v n xs) (B:Nat) (A:Option Addr) (m c:Nat) (news:List Value) (hx:a.eval x = .slice A m c) (hm:news.length=m*size) (hsee:Sees w B A news)
  (h1:∀u∈news,u.oneCell'=true) (h63:n+m≤maxLen) (hbytes:(n+m)*bytes≤140737488355328) (hbase:base≤w.heap.size)
  (h:∀v' w',w'.ownsRow base e size v' (n+m) (xs++news)→Onto w w' v v'→K (a.put o.dst v') w') :
  if Region.wanted o (yielded ops a.tmps)=true then Oper.wp P o a w K Q else E:=by
 have hw:Region.wanted o (yielded ops a.tmps)=true:=by simp[Region.wanted,hgd]
 rw[if_pos hw]
 exact wp_append_v s x t ho e i z size bytes ht hi hz hsize hby hzs hsz base v n xs hs hown B A m c news hx hm hsee h1 h63 hbytes hbase h
end
theorem own_new (w:World) (base:Nat) (hb:base≤w.heap.size) (e:TypeId) (size n:Nat) (xs:List Value) (hx:xs.length=n*size) (hm:n≤maxLen) (cs:Array Value) (h:cs=xs.toArray) :
  (w.alloc (.cells cs e)).ownsRow base e size (.slice (some ⟨w.heap.size,0,none⟩) n n) n xs:=by
 subst h
 have h2:=World.ownsRow_lit (e:=e) (size:=size) (base:=base) w xs.toArray n hb hm (by simpa using hx)
 simpa using h2
theorem own_below {w w' : World}{base:Nat}{e:TypeId}{size n:Nat}{v:Value}{xs:List Value}(h:w.ownsRow base e size v n xs) (hb:Below w.heap.size w w'):w'.ownsRow base e size v n xs :=
 World.ownsRow.kept (row:=none) h ⟨hb.os,hb.tape,hb.output,hb.size,fun k hk _=>hb.block k hk⟩ (by cases v.ownBlock<;>simp)
theorem own_open {w:World}{base:Nat}{e:TypeId}{size n:Nat}{v:Value}{xs:List Value}(h:w.ownsRow base e size v n xs):∃A c,v = .slice A n c∧n≤c∧c≤maxLen∧Sees w w.heap.size A xs:=by
 rcases h.2 with ⟨rfl,hn⟩|⟨g,cap,cur,rfl,hb,hh,hc,hm,_⟩
 ·have h1:=h.1
  rw[hn,Nat.zero_mul] at h1
  exact ⟨none,0,by rw[hn],by omega,by simp[maxLen],⟨.inl (List.eq_nil_of_length_eq_zero h1)⟩⟩
 ·exact ⟨_,cap,rfl,hc,hm,Sees.of_own h⟩
theorem own_block {w:World}{base:Nat}{e:TypeId}{size n:Nat}{v:Value}{xs:List Value}(h:w.ownsRow base e size v n xs):∀k,v.ownBlock=some k→base≤k:=fun k hk=>(World.ownsRow.lt h k hk).1
end
section
open Go.RowKit
structure Turn (T:Nat→Prop) (A B:World):Prop where
 os:B.os=A.os
 tape:B.tape=A.tape
 output:B.output=A.output
 size:A.heap.size≤B.heap.size
 block:∀k,k<A.heap.size→¬ T k→B.heap[k]?=A.heap[k]?
section
variable {T T' : Nat → Prop} {A B C : World}
theorem Turn.refl (T:Nat→Prop) (A:World):Turn T A A:=⟨rfl,rfl,rfl,Nat.le_refl _,fun _ _ _=>rfl⟩
theorem Turn.trans' (h:Turn T A B) (k:Turn T' B C) (hT:∀j,j<A.heap.size→T' j→T j):Turn T A C :=
 ⟨k.os.trans h.os,k.tape.trans h.tape,k.output.trans h.output,Nat.le_trans h.size k.size,fun j hj hn=>(k.block j (Nat.lt_of_lt_of_le hj h.size) (fun e=>hn (hT j hj e))).trans (h.block j hj hn)⟩
theorem Turn.trans (h:Turn T A B) (k:Turn T B C):Turn T A C:=h.trans' k fun _ _ e=>e
theorem Turn.mono (h:Turn T A B) (hT:∀j,j<A.heap.size→T j→T' j):Turn T' A B:=⟨h.os,h.tape,h.output,h.size,fun j hj hn=>h.block j hj (fun e=>hn (hT j hj e))⟩
theorem Turn.below {b:Nat}(h:Turn T A B) (hT:∀j,T j→b≤j) (hb:b≤A.heap.size):Below b A B:=⟨h.os,h.tape,h.output,h.size,fun j hj=>h.block j (by omega) (fun e=>by have:=hT j e;omega)⟩
theorem Turn.of_below {b:Nat}(h:Below b A B) (hT:∀j,j<A.heap.size→b≤j→T j):Turn T A B:=⟨h.os,h.tape,h.output,h.size,fun j hj hn=>h.block j (by rcases Nat.lt_or_ge j b with g|g;exact g;exact absurd (hT j hj g) hn)⟩
theorem Turn.of_new (h:Below A.heap.size A B):Turn T A B := .of_below h fun j h1 h2=>by omega
theorem Turn.of_grown {row:Option Nat}(h:A.grownBy B row) (hT:∀k,row=some k→T k):Turn T A B:=⟨h.os,h.tape,h.output,h.size,fun j hj hn=>h.block j hj (fun e=>hn (hT j e.symm))⟩
theorem Turn.setCell (A:World) (p:Addr) (v:Value) (hT:T p.block):Turn T A (A.setCell p v):=⟨rfl,rfl,rfl,by simp[World.setCell],fun j _ hn=>Below.heap_setCell A p v j (fun e=>hn (e ▸ hT))⟩
theorem Turn.alloc (A:World) (o:Obj):Turn T A (A.alloc o) := .of_new ((Below.refl _ A).alloc (Nat.le_refl _) o)
theorem Turn.drewN (A:World) (q:Nat):Turn T A (A.drewN q) := .of_new (below_d (Below.refl _ A) q)
theorem Turn.drew (A:World):Turn T A A.drew := .of_new (below_drew (Below.refl _ A))
theorem Turn.putObj (A:World) (r:Nat) (o:Obj) (hT:T r):Turn T A (A.putObj r o):=⟨rfl,rfl,rfl,by simp,fun j _ hn=>World.putObj_heap_other (fun e=>hn (e ▸ hT))⟩
theorem Turn.onto {v v' : Value}(h:Onto A B v v') (hT:∀k,v.ownBlock=some k→T k):Turn T A B := .of_grown h.grown hT
theorem Turn.keep (h:Turn T A B) {p:Addr}(hp:p.block<A.heap.size) (hn:¬ T p.block):B.cell? p=A.cell? p:=World.cell?_of_block (h.block _ hp hn)
end
def grown (s:Nat→Prop) (A B:World):Nat→Prop:=fun k=>s k∨(A.heap.size≤k∧k<B.heap.size)
def SeqT {α:Type}(F:Fence) (n:Nat) (P:Program) (g:Nat) (lb:Array Value) (encs:α→Array Value) (R s0:Nat→Prop) (Ok:(Nat→Prop)→List α→α→World→Prop) (S Sp:List α→Prop) (N:Nat) (w:World):Prop :=
 ∀(l:Nat) (J Jx:(Nat→Prop)→List α→World→Prop) (W:World),Below w.heap.size w W →
  (∀s pre A B,J s pre A→Turn s A B→J (grown s A B) pre B)→(∀s pre A B,Jx s pre A→Turn s A B→Jx (grown s A B) pre B) →
  (∀s pre x W1,J s pre W1→pre.length<N→Ok s pre x W1→YieldAt F (n - 1) P l (encs x) W1 fun e W' =>
   (e = .returned (.bool true)∧J s (pre ++ [x]) W'∧Turn (fun k=>¬ s k∧¬ R k) W1 W')∨(e = .returned (.bool false)∧Jx s (pre ++ [x]) W'∧Turn (fun k=>¬ s k∧¬ R k) W1 W')) →
  J s0 [] W →
  CallsIn F n P g (#[.func (.yield l) #[] #[]]++lb) W fun e W'=>(∃v,e = .returned v)∧((∃s xs,S xs∧J s xs W')∨(∃s pre,Sp pre∧Jx s pre W'))
def postT {α:Type}(R s:Nat→Prop) (D:Nat) (I:(Nat→Prop)→List α→World→Prop) (Ix:Code→(Nat→Prop)→List α→World→Prop) (xs:List α) (W:World):Exit→Act→World→Prop
 | .normal,_,W'=>Turn (fun k=>¬ s k∧¬ R k∧k≠D∧k≠D+1) W W'∧I s xs W'
 | .ret,_,W'=>Turn (fun k=>¬ s k∧¬ R k∧k≠D∧k≠D+1) W W'∧Ix .ret s xs W'
 | .exit id,_,W'=>Turn (fun k=>¬ s k∧¬ R k∧k≠D∧k≠D+1) W W'∧Ix (.exit id) s xs W'
 | .goto t,_,W'=>Turn (fun k=>¬ s k∧¬ R k∧k≠D∧k≠D+1) W W'∧Ix (.goto t) s xs W'
 | .panic _,_,_=>False
 | .outgrown,_,_=>False
variable {F : Fence} {n : Nat} {P : Program}
theorem wpIn_rangeFunc_T {α:Type}{g:Operand}{ps:Array Tmp}{assign body:Code}{Q:Exit→Act→World→Prop}{a:Act}{w:World}
  (hro:F.round=none) (h1:1≤n) {gf:Nat}{lb:Array Value}(hg:a.eval g = .func (.func gf) #[] lb) (hFg:F.fn gf) (eg:∀args w,(callFunc gf args).run P w = .ok (.enter gf args) w)
  {encs:α→Array Value}{R s0:Nat→Prop}{Ok:(Nat→Prop)→List α→α→World→Prop}{S Sp:List α→Prop}{N:Nat}{w0:World}(hseq:SeqT F (n - 1) P gf lb encs R s0 Ok S Sp N w0) (hb0:Below w0.heap.size w0 w) (hps:∀x,(encs x).size=ps.size)
  (hR:∀k,R k∨s0 k→k<w.heap.size)
  (hOk:∀s pre x A B,Ok s pre x A→(∀k,s k∨R k→k≠w.heap.size∧k≠w.heap.size+1)→Turn (fun k=>k=w.heap.size∨k=w.heap.size+1) A B→Ok s pre x B)
  (I:(Nat→Prop)→List α→World→Prop) (Ix:Code→(Nat→Prop)→List α→World→Prop)
  (hI:∀s pre A B,I s pre A→Turn s A B→I (grown s A B) pre B) (hIx:∀c s pre A B,Ix c s pre A→Turn s A B→Ix c (grown s A B) pre B)
  (hI2:∀s pre A B,I s pre A→Turn (fun k=>k=w.heap.size∨k=w.heap.size+1) A B→I s pre B) (hIx2:∀c s pre A B,Ix c s pre A→Turn (fun k=>k=w.heap.size∨k=w.heap.size+1) A B→Ix c s pre B)
  (h0:I s0 [] w) (a₁:α→Act)
  (hassign:∀(l:Nat) (x:α) (W:World) (K:Act→World→Prop),K (a₁ x) W →
   assign.wpIn (F.inRound l) (n - 1 - 1) P (Exit.then K (fun _ _ _=>False)) { tmps:=(ps.zip (encs x)).foldl (fun t (p,v)=>t.setIfInBounds p v) a.tmps,defers := [] } W)
  (hbody:∀(l:Nat) (s:Nat→Prop) (pre:List α) (x:α) (W:World),I s pre W→pre.length<N→Ok s pre x W→w.heap.size+2≤W.heap.size→body.wpIn (F.inRound l) (n - 1 - 1) P (postT R s w.heap.size I Ix (pre ++ [x]) W) (a₁ x) W)
  (hdone:∀(s:Nat→Prop) (xs:List α) (W:World),S xs→I s xs W→W.heap[w.heap.size]?=some (.deferred (some []))→Q .normal { a with defers := { target := .collected w.heap.size,args := #[] } :: a.defers } W)
  (hstop:∀(c:Code) (s:Nat→Prop) (pre:List α) (W:World),Sp pre→Ix c s pre W→W.heap[w.heap.size]?=some (.deferred (some []))→c.wpIn F n P Q { a with defers := { target := .collected w.heap.size,args := #[] } :: a.defers } W) :
  (Code.rangeFunc g ps assign body).wpIn F n P Q a w:=by
 refine wpIn_rangeFunc ?_
 intro fn hfn
 rw[hro]
 obtain ⟨rec,hrec⟩:∃rec:LoopState→Option Code→Loop,rec=fun st pe => { state:=st,pending:=pe,fn,tmps:=a.tmps,params:=ps,assign,body,defers:=w.heap.size }:=⟨_,rfl⟩
 obtain ⟨W1,hW1⟩:∃W1,(w.alloc (.deferred (some []))).alloc (.loop (rec .ready none))=W1:=⟨_,rfl⟩
 have hL1:W1.heap[w.heap.size+1]?=some (.loop (rec .ready none)):=by
  rw[←hW1];have:=World.alloc_heap_new (w.alloc (.deferred (some []))) (.loop (rec .ready none));rwa [World.size_alloc] at this
 have hK1:W1.heap[w.heap.size]?=some (.deferred (some [])):=by
  rw[←hW1];exact (Below.heap_alloc _ _ _ (by simp)).trans (World.alloc_heap_new w _)
 have hI1:I s0 [] W1:=by rw[←hW1];exact hI2 _ _ _ _ (hI2 _ _ _ _ h0 (Turn.alloc w _)) (Turn.alloc _ _)
 have hb1:Below w0.heap.size w0 W1:=by
  rw[←hW1];exact hb0.trans ((((Below.refl _ w).alloc (Nat.le_refl _) _).alloc (by simp) _).mono hb0.size)
 refine ⟨w.heap.size+1, [{ target := .collected w.heap.size,args := #[] }],W1, { target := .fn (.func gf) lb,args := #[.func (.yield (w.heap.size+1)) #[] #[]] },W1,gf,
  #[.func (.yield (w.heap.size + 1)) #[] #[]] ++ lb, W1, ?_, ?_, ?_, ?_, fun _ => h1, ?_⟩
 ·rw[←hW1,hrec];exact run_enterLoop_outer _ _ _ _ _
 ·simp only[resolve,hg]
  simp[go_sem]
 ·intro f' hf';simp[Target.leads] at hf';subst hf';exact hFg
 ·simp[invoke,go_sem,eg]
 ·have book:∀ {s:Nat→Prop}{A B:World}{r:Nat}{o:Obj},Turn s A B→¬ s r→A.heap[r]?=some o→B.heap[r]?=some o∧¬ grown s A B r:=fun ht hs hr=>by
   have hlt:=(Array.getElem?_eq_some_iff.1 hr).1
   exact ⟨(ht.block _ hlt hs).trans hr,fun e=>by rcases e with e|e;exact hs e;omega⟩
  refine (hseq (w.heap.size+1)
   (fun s pre W=>I s pre W∧W.heap[w.heap.size+1]?=some (.loop (rec .ready none))∧W.heap[w.heap.size]?=some (.deferred (some []))∧¬ s (w.heap.size+1)∧¬ s w.heap.size)
   (fun s pre W=>∃c,Ix c s pre W∧W.heap[w.heap.size+1]?=some (.loop (rec .done (some c)))∧W.heap[w.heap.size]?=some (.deferred (some []))∧¬ s (w.heap.size+1)∧¬ s w.heap.size)
   W1 hb1
   (fun s pre A B h ht=>⟨hI s pre A B h.1 ht,(book ht h.2.2.2.1 h.2.1).1,(book ht h.2.2.2.2 h.2.2.1).1,(book ht h.2.2.2.1 h.2.1).2,(book ht h.2.2.2.2 h.2.2.1).2⟩)
   (fun s pre A B h ht=>by
    obtain ⟨c,h⟩:=h
    exact ⟨c,hIx c s pre A B h.1 ht,(book ht h.2.2.2.1 h.2.1).1,(book ht h.2.2.2.2 h.2.2.1).1,(book ht h.2.2.2.1 h.2.1).2,(book ht h.2.2.2.2 h.2.2.1).2⟩)
   ?_ ⟨hI1,hL1,hK1,fun e=>by have:=hR _ (.inr e);omega,fun e=>by have:=hR _ (.inr e);omega⟩).mono ?_
  ·
   rintro s pre x W ⟨hi,hl,hk,hsl,hsk⟩ hlen hok
   have hlt:w.heap.size+1<W.heap.size:=(Array.getElem?_eq_some_iff.1 hl).1
   have hy:=run_yield (P:=P) (args:=encs x) hl (by rw[hrec];exact hps x)
   rw[hrec] at hy
   refine ⟨fn,_,assign,body,hy,roundIn_of_wpIn hfn (hassign _ x W _ ⟨_,run_beginRound hl (by rw[hrec]),?_⟩)⟩
   have hl2:(W.putObj (w.heap.size+1) (.loop { rec .ready none with state := .busy })).heap[w.heap.size+1]?=some (.loop { rec .ready none with state := .busy }):=World.putObj_heap_same hlt
   have hk2:(W.putObj (w.heap.size+1) (.loop { rec .ready none with state := .busy })).heap[w.heap.size]?=some (.deferred (some [])):=(World.putObj_heap_other (by omega)).trans hk
   have ht2:∀o,Turn (fun k=>k=w.heap.size∨k=w.heap.size+1) W (W.putObj (w.heap.size+1) o):=fun o=>Turn.putObj W _ o (.inr rfl)
   refine wpIn_mono (hbody _ s pre x _ (hI2 _ _ _ _ hi (ht2 _)) hlen (hOk _ _ _ _ _ hok (fun k hk=>⟨fun e=>by subst e;rcases hk with h|h;exact hsk h;have:=hR _ (.inl h);omega,fun e=>by subst e;rcases hk with h|h;exact hsl h;have:=hR _ (.inl h);omega⟩) (ht2 _)) (by rw[World.putObj_size];exact hlt)) ?_
   have fin:∀(jump:Option Code) (W3:World),Turn (fun k=>¬ s k∧¬ R k∧k≠w.heap.size∧k≠w.heap.size+1) (W.putObj (w.heap.size+1) (.loop { rec .ready none with state := .busy })) W3 →
     (Instr.endRound (w.heap.size+1) jump).run P W3 = .ok (.bool jump.isNone) (W3.putObj (w.heap.size+1) (.loop (rec (if jump.isNone then .ready else .done) jump))) ∧
     W3.heap[w.heap.size+1]?=some (.loop { rec .ready none with state := .busy }) ∧
     (W3.putObj (w.heap.size+1) (.loop (rec (if jump.isNone then .ready else .done) jump))).heap[w.heap.size+1]?=some (.loop (rec (if jump.isNone then .ready else .done) jump)) ∧
     (W3.putObj (w.heap.size+1) (.loop (rec (if jump.isNone then .ready else .done) jump))).heap[w.heap.size]?=some (.deferred (some [])):=fun jump W3 hk3=>by
    have hl3:=(hk3.block (w.heap.size+1) (by simp;omega) (fun e=>e.2.2.2 rfl)).trans hl2
    have hk4:=(hk3.block w.heap.size (by simp;omega) (fun e=>e.2.2.1 rfl)).trans hk2
    have:=run_endRound (P:=P) jump hl3
    rw[hrec] at this ⊢
    exact ⟨this,by rw[hrec] at hl3;exact hl3,World.putObj_heap_same (Array.getElem?_eq_some_iff.1 hl3).1,(World.putObj_heap_other (by omega)).trans hk4⟩
   have tot:∀(o:Obj) (W3:World),Turn (fun k=>¬ s k∧¬ R k∧k≠w.heap.size∧k≠w.heap.size+1) (W.putObj (w.heap.size+1) (.loop { rec .ready none with state := .busy })) W3→Turn (fun k=>¬ s k∧¬ R k) W (W3.putObj (w.heap.size+1) o):=fun o W3 h=>by
    have hm:¬ s (w.heap.size+1)∧¬ R (w.heap.size+1):=⟨hsl,fun e=>by have:=hR _ (.inl e);omega⟩
    exact ((Turn.putObj W _ _ hm).trans (h.mono fun j _ e=>⟨e.1,e.2.1⟩)).trans (Turn.putObj W3 _ _ hm)
   have hp3:∀(W3:World) (o:Obj),Turn (fun k=>k=w.heap.size∨k=w.heap.size+1) W3 (W3.putObj (w.heap.size+1) o):=fun W3 o=>Turn.putObj W3 _ o (.inr rfl)
   rintro e a3 W3 hp
   cases e with
   | normal =>
    obtain ⟨hk3,hi3⟩:=hp
    obtain ⟨hr,hl3,hl4,hk4⟩:=fin none W3 hk3
    exact ⟨_,_,hr,.inl ⟨rfl,⟨hI2 _ _ _ _ hi3 (hp3 _ _),hl4,hk4,hsl,hsk⟩,tot _ _ hk3⟩⟩
   | ret =>
    obtain ⟨hk3,hi3⟩:=hp
    obtain ⟨hr,hl3,hl4,hk4⟩:=fin (some .ret) W3 hk3
    exact ⟨_,_,hr,.inr ⟨rfl,⟨.ret,hIx2 _ _ _ _ _ hi3 (hp3 _ _),hl4,hk4,hsl,hsk⟩,tot _ _ hk3⟩⟩
   | exit id =>
    obtain ⟨hk3,hi3⟩:=hp
    obtain ⟨hr,hl3,hl4,hk4⟩:=fin (some (.exit id)) W3 hk3
    exact ⟨_,_,hr,.inr ⟨rfl,⟨.exit id,hIx2 _ _ _ _ _ hi3 (hp3 _ _),hl4,hk4,hsl,hsk⟩,tot _ _ hk3⟩⟩
   | goto t =>
    obtain ⟨hk3,hi3⟩:=hp
    obtain ⟨hr,hl3,hl4,hk4⟩:=fin (some (.goto t)) W3 hk3
    exact ⟨_,_,hr,.inr ⟨rfl,⟨.goto t,hIx2 _ _ _ _ _ hi3 (hp3 _ _),hl4,hk4,hsl,hsk⟩,tot _ _ hk3⟩⟩
   | panic ch=>exact hp.elim
   | outgrown=>exact hp.elim
  ·rintro e W2 ⟨⟨v,rfl⟩,(⟨s,xs,hS,hi,hl,hk, -, -⟩|⟨s,pre,hSp,c,hi,hl,hk, -, -⟩)⟩
   ·exact ⟨none,_,by have:=run_endLoop (P:=P) hl (by rw[hrec];simp);rw[hrec] at this;exact this,hdone s xs _ hS (hI2 _ _ _ _ hi (Turn.putObj W2 _ _ (.inr rfl))) ((World.putObj_heap_other (by omega)).trans hk)⟩
   ·exact ⟨some c,_,by have:=run_endLoop (P:=P) hl (by rw[hrec];simp);rw[hrec] at this;exact this,hstop c s pre _ hSp (hIx2 _ _ _ _ _ hi (Turn.putObj W2 _ _ (.inr rfl))) ((World.putObj_heap_other (by omega)).trans hk)⟩
end
section
open Go.RowKit
structure SeesM (m:Nat→Prop) (w:World) (A:Option Addr) (xs:List Value):Prop where
 out:xs = []∨∃ad,A=some ad∧m ad.block∧∀j u,xs[j]?=some u→w.cell? (ad.add j)=some u
structure Sees2M (m:Nat→Prop) (w:World) (A:Option Addr) (ls:List (List UInt8)):Prop where
 out:∀i (hi:i<ls.length),∃ad Ai ci,A=some ad∧m ad.block∧w.cell? (ad.add i)=some (.slice Ai (ls[i]).length ci)∧(ls[i]).length≤ci∧SeesM m w Ai (bv ls[i])
structure Sees3M (m:Nat→Prop) (w:World) (A:Option Addr) (bl:List (List (List UInt8))):Prop where
 out:∀i (hi:i<bl.length),∃ad Ai ci,A=some ad∧m ad.block∧w.cell? (ad.add i)=some (.slice Ai (bl[i]).length ci)∧(bl[i]).length≤ci∧Sees2M m w Ai bl[i]
def Kept (m:Nat→Prop) (w w' : World):Prop:=∀k,m k→w'.heap[k]?=w.heap[k]?
section
variable {m m' : Nat → Prop} {w w' : World} {A : Option Addr}
theorem Kept.cell (h:Kept m w w') {p:Addr}(hp:m p.block):w'.cell? p=w.cell? p:=World.cell?_of_block (h _ hp)
theorem Kept.trans {w'' : World}(h:Kept m w w') (k:Kept m w' w''):Kept m w w'':=fun j hj=>(k j hj).trans (h j hj)
theorem Kept.refl (m:Nat→Prop) (w:World):Kept m w w:=fun _ _=>rfl
theorem Kept.mono (h:Kept m w w') (hm:∀k,m' k→m k):Kept m' w w':=fun j hj=>h j (hm j hj)
theorem Kept.of_turn {T:Nat→Prop}(h:Turn T w w') (hm:∀k,m k→k<w.heap.size∧¬ T k):Kept m w w':=fun j hj=>h.block j (hm j hj).1 (hm j hj).2
theorem Kept.of_below {B:Nat}(h:Below B w w') (hm:∀k,m k→k<B):Kept m w w':=fun j hj=>h.block j (hm j hj)
theorem Kept.drewN (m:Nat→Prop) (w:World) (q:Nat):Kept m w (w.drewN q):=fun _ _=>rfl
theorem SeesM.keep {xs:List Value}(h:SeesM m w A xs) (hk:Kept m w w'):SeesM m w' A xs:=by
 rcases h.out with h|⟨ad,e,hb,hc⟩
 ·exact ⟨.inl h⟩
 ·exact ⟨.inr ⟨ad,e,hb,fun j u hu=>(hk.cell (by rw[add_block];exact hb)).trans (hc j u hu)⟩⟩
theorem SeesM.mono {xs:List Value}(h:SeesM m w A xs) (hm:∀k,m k→m' k):SeesM m' w A xs:=by
 rcases h.out with h|⟨ad,e,hb,hc⟩
 ·exact ⟨.inl h⟩
 ·exact ⟨.inr ⟨ad,e,hm _ hb,hc⟩⟩
theorem SeesM.sees {xs:List Value}(h:SeesM m w A xs) {B:Nat}(hm:∀k,m k→k<B):Sees w B A xs:=by
 rcases h.out with h|⟨ad,e,hb,hc⟩
 ·exact ⟨.inl h⟩
 ·exact ⟨.inr ⟨ad,e,hm _ hb,hc⟩⟩
theorem Sees.toM {xs:List Value}{B:Nat}(h:Sees w B A xs):SeesM (fun k=>k<B) w A xs:=by
 rcases h.out with h|⟨ad,e,hb,hc⟩
 ·exact ⟨.inl h⟩
 ·exact ⟨.inr ⟨ad,e,hb,hc⟩⟩
theorem Sees2M.keep {ls:List (List UInt8)}(h:Sees2M m w A ls) (hk:Kept m w w'):Sees2M m w' A ls :=
 ⟨fun i hi=>by
  obtain ⟨ad,Ai,ci,h1,h2,h3,h4,h5⟩:=h.out i hi
  exact ⟨ad,Ai,ci,h1,h2,(hk.cell (by rw[add_block];exact h2)).trans h3,h4,h5.keep hk⟩⟩
theorem Sees2M.mono {ls:List (List UInt8)}(h:Sees2M m w A ls) (hm:∀k,m k→m' k):Sees2M m' w A ls :=
 ⟨fun i hi=>by
  obtain ⟨ad,Ai,ci,h1,h2,h3,h4,h5⟩:=h.out i hi
  exact ⟨ad,Ai,ci,h1,hm _ h2,h3,h4,h5.mono hm⟩⟩
theorem Sees2M.sees {ls:List (List UInt8)}(h:Sees2M m w A ls) {B:Nat}(hm:∀k,m k→k<B):Sees2 w B A ls :=
 ⟨fun i hi=>by
  obtain ⟨ad,Ai,ci,h1,h2,h3,h4,h5⟩:=h.out i hi
  exact ⟨ad,Ai,ci,h1,hm _ h2,h3,h4,h5.sees hm⟩⟩
theorem Sees3M.keep {bl:List (List (List UInt8))}(h:Sees3M m w A bl) (hk:Kept m w w'):Sees3M m w' A bl :=
 ⟨fun i hi=>by
  obtain ⟨ad,Ai,ci,h1,h2,h3,h4,h5⟩:=h.out i hi
  exact ⟨ad,Ai,ci,h1,h2,(hk.cell (by rw[add_block];exact h2)).trans h3,h4,h5.keep hk⟩⟩
theorem Sees3M.mono {bl:List (List (List UInt8))}(h:Sees3M m w A bl) (hm:∀k,m k→m' k):Sees3M m' w A bl :=
 ⟨fun i hi=>by
  obtain ⟨ad,Ai,ci,h1,h2,h3,h4,h5⟩:=h.out i hi
  exact ⟨ad,Ai,ci,h1,hm _ h2,h3,h4,h5.mono hm⟩⟩
end
structure Box1 (W:World) (B:Nat) (t:TypeId) (v:Value):Prop where
 out:Boxed W B t v
section
variable {W W' : World} {B : Nat} {t : TypeId} {v : Value}
theorem Box1.lt (h:Box1 W B t v):B<W.heap.size:=h.out.lt
theorem Box1.cell (h:Box1 W B t v):W.cell? ⟨B,0,none⟩=some v:=h.out.cell
theorem Box1.frozen (h:Box1 W B t v):W.frozen? ⟨B,0,none⟩=false:=h.out.frozen
theorem Box1.new (W:World) (t:TypeId) (v:Value):Box1 (W.alloc (.cells #[v] t)) W.heap.size t v:=⟨Boxed.new W t v⟩
theorem Box1.alloc (h:Box1 W B t v) (o:Obj):Box1 (W.alloc o) B t v:=⟨h.out.alloc o⟩
theorem Box1.turn {T:Nat→Prop}(h:Box1 W B t v) (ht:Turn T W W') (hn:¬ T B):Box1 W' B t v:=⟨(ht.block B h.lt hn).trans h.out⟩
theorem Box1.below {b:Nat}(h:Box1 W B t v) (hb:Below b W W') (hB:B<b):Box1 W' B t v:=⟨(hb.block B hB).trans h.out⟩
theorem Box1.set (h:Box1 W B t v) (v' : Value):Box1 (W.setCell ⟨B,0,none⟩ v') B t v':=⟨h.out.set v'⟩
end
structure SeesU (m:Nat→Prop) (w:World) (A:Option Addr) (xs:List Value):Prop where
 out:xs = []∨∃ad,A=some ad∧m ad.block∧∀j u,xs[j]?=some u→w.cell? (ad.add j)=some u∧w.frozen? (ad.add j)=false
section
variable {m m' : Nat → Prop} {w w' : World} {A : Option Addr} {xs : List Value}
theorem frozen_of_block {a:Addr}(h:w'.heap[a.block]?=w.heap[a.block]?):w'.frozen? a=w.frozen? a:=by unfold World.frozen?;rw[h]
theorem SeesU.toM (h:SeesU m w A xs):SeesM m w A xs:=by
 rcases h.out with h|⟨ad,e,hb,hc⟩
 ·exact ⟨.inl h⟩
 ·exact ⟨.inr ⟨ad,e,hb,fun j u hu=>(hc j u hu).1⟩⟩
theorem SeesU.keep (h:SeesU m w A xs) (hk:Kept m w w'):SeesU m w' A xs:=by
 rcases h.out with h|⟨ad,e,hb,hc⟩
 ·exact ⟨.inl h⟩
 ·exact ⟨.inr ⟨ad,e,hb,fun j u hu=>⟨(hk.cell (by rw[add_block];exact hb)).trans (hc j u hu).1,(frozen_of_block (hk _ (by rw[add_block];exact hb))).trans (hc j u hu).2⟩⟩⟩
theorem SeesU.mono (h:SeesU m w A xs) (hm:∀k,m k→m' k):SeesU m' w A xs:=by
 rcases h.out with h|⟨ad,e,hb,hc⟩
 ·exact ⟨.inl h⟩
 ·exact ⟨.inr ⟨ad,e,hm _ hb,hc⟩⟩
end
structure OwnQ (q:Nat→Prop) (w:World) (base:Nat) (v:Value) (ls:List (List UInt8)):Prop where
 out:∃vs:List Value,w.ownsRow base 48 1 v ls.length vs∧(∀k,v.ownBlock=some k→q k)∧∀i (hi:i<ls.length),∃Ai ci,vs[i]?=some (.slice Ai (ls[i]).length ci)∧(ls[i]).length≤ci∧SeesU (fun k=>q k∧v.ownBlock≠some k) w Ai (bv ls[i])
section
variable {q : Nat → Prop} {w w' : World} {base : Nat} {v v' : Value} {ls : List (List UInt8)}
theorem OwnQ.nil (q:Nat→Prop) (w:World) (base:Nat):OwnQ q w base (.slice none 0 0) []:=⟨[],World.ownsRow_nil w base _ 1,fun k hk=>by simp[Value.ownBlock] at hk,fun i hi=>absurd hi (by simp)⟩
theorem ownsRow_kept {e:TypeId}{sz n:Nat}{xs:List Value}(h:w.ownsRow base e sz v n xs) (hk:∀k,v.ownBlock=some k→w'.heap[k]?=w.heap[k]?):w'.ownsRow base e sz v n xs:=by
 refine ⟨h.1,?_⟩
 rcases h.2 with h2|⟨g,cap,cur,rfl,hb,hh,r⟩
 ·exact .inl h2
 ·exact .inr ⟨g,cap,cur,rfl,hb,(hk g rfl).trans hh,r⟩
theorem OwnQ.keep (h:OwnQ q w base v ls) (hk:Kept q w w'):OwnQ q w' base v ls:=by
 obtain ⟨vs,h1,h2,h3⟩:=h.out
 refine ⟨vs,ownsRow_kept h1 (fun k e=>hk k (h2 k e)),h2,fun i hi => ?_⟩
 obtain ⟨Ai,ci,g1,g2,g3⟩:=h3 i hi
 exact ⟨Ai,ci,g1,g2,g3.keep (hk.mono fun k e=>e.1)⟩
theorem OwnQ.mono {q' : Nat→Prop}(h:OwnQ q w base v ls) (hq:∀k,q k→q' k):OwnQ q' w base v ls:=by
 obtain ⟨vs,h1,h2,h3⟩:=h.out
 refine ⟨vs,h1,fun k e=>hq _ (h2 k e),fun i hi => ?_⟩
 obtain ⟨Ai,ci,g1,g2,g3⟩:=h3 i hi
 exact ⟨Ai,ci,g1,g2,g3.mono fun k e=>⟨hq _ e.1,e.2⟩⟩
theorem OwnQ.base_le {b:Nat}(h:OwnQ q w base v ls) (hb:b≤base):OwnQ q w b v ls:=by
 obtain ⟨vs,h1,h2,h3⟩:=h.out
 refine ⟨vs,⟨h1.1,?_⟩,h2,h3⟩
 rcases h1.2 with h|⟨g,cap,cur,hv,hg,r⟩
 ·exact .inl h
 ·exact .inr ⟨g,cap,cur,hv,Nat.le_trans hb hg,r⟩
theorem OwnQ.open_ (h:OwnQ q w base v ls):∃A c,v = .slice A ls.length c∧ls.length≤c∧Sees2M q w A ls:=by
 obtain ⟨vs,h1,h2,h3⟩:=h.out
 rcases h1.2 with ⟨rfl,hn⟩|⟨g,cap,cur,rfl,hb,hh,hc,hm,_⟩
 ·have:ls = []:=List.eq_nil_of_length_eq_zero hn
  subst this
  exact ⟨none,0,rfl,by simp,⟨fun i hi=>absurd hi (by simp)⟩⟩
 ·refine ⟨_,cap,rfl,hc,⟨fun i hi => ?_⟩⟩
  obtain ⟨Ai,ci,g1,g2,g3⟩:=h3 i hi
  exact ⟨_,Ai,ci,rfl,h2 g rfl,h1.cells (g:=g) rfl i _ g1,g2,(g3.mono fun k e=>e.1).toM⟩
theorem OwnQ.toS (h:OwnQ q w base v ls) (hq:∀k,q k→base≤k∧k<w.heap.size):OwnS w base v ls:=by
 obtain ⟨vs,h1,h2,h3⟩:=h.out
 refine ⟨vs,h1,fun i hi => ?_⟩
 obtain ⟨Ai,ci,g1,g2,g3⟩:=h3 i hi
 refine ⟨Ai,ci,g1,g2,?_⟩
 rcases g3.toM.out with e|⟨ad,e,⟨e1,e2⟩,e3⟩
 ·exact ⟨.inl e⟩
 ·exact ⟨.inr ⟨ad,e,(hq _ e1).1,(hq _ e1).2,fun e4=>e2 e4.symm,e3⟩⟩
theorem OwnQ.put {q2:Nat→Prop}{vs:List Value}(x:List UInt8) (Ax:Option Addr) (cx:Nat) (hq:∀k,q k→k<w.heap.size)
  (_h2:∀k,v.ownBlock=some k→q k) (h3:∀i (hi:i<ls.length),∃Ai ci,vs[i]?=some (.slice Ai (ls[i]).length ci)∧(ls[i]).length≤ci∧SeesU (fun k=>q k∧v.ownBlock≠some k) w Ai (bv ls[i])) (hvs:vs.length=ls.length)
  (hc:x.length≤cx) (hx:SeesU q2 w Ax (bv x)) (hq2:∀k,q2 k→k<w.heap.size∧v.ownBlock≠some k)
  (hown:w'.ownsRow base 48 1 v' (ls.length+1) (vs ++ [.slice Ax x.length cx])) (hon:Onto w w' v v'):OwnQ (fun k=>q k∨q2 k∨v'.ownBlock=some k) w' base v' (ls ++ [x]):=by
 have hk:∀k,k<w.heap.size→v.ownBlock≠some k→w'.heap[k]?=w.heap[k]?∧v'.ownBlock≠some k:=fun k h1 h2=>by
  refine ⟨hon.grown.block k h1 (fun e=>h2 e.symm),fun e => ?_⟩
  rcases hon.at_ with e2|⟨g,e2,hg⟩
  ·exact h2 (e2 ▸ e)
  ·rw[e2] at e;injection e with e;omega
 refine ⟨vs ++ [.slice Ax x.length cx],by rw[List.length_append];exact hown,fun k e => .inr (.inr e),fun i hi => ?_⟩
 by_cases hlt:i<ls.length
 ·obtain ⟨Ai,ci,g1,g2,g3⟩:=h3 i hlt
  rw[List.getElem_append_left hlt,List.getElem?_append_left (by omega)]
  exact ⟨Ai,ci,g1,g2,(g3.keep fun k e=>(hk k (hq k e.1) e.2).1).mono fun k e=>⟨.inl e.1,(hk k (hq k e.1) e.2).2⟩⟩
 ·have he:i=ls.length:=by simp at hi;omega
  subst he
  rw[List.getElem_append_right (Nat.le_refl _),List.getElem?_append_right (by omega)]
  refine ⟨Ax,cx,?_,?_,?_⟩
  ·simp[hvs]
  ·simpa using hc
  ·simp only[Nat.sub_self,List.getElem_cons_zero]
   exact (hx.keep fun k e=>(hk k (hq2 k e).1 (hq2 k e).2).1).mono fun k e=>⟨.inr (.inl e),(hk k (hq2 k e).1 (hq2 k e).2).2⟩
end
theorem ownB_seesM {w:World}{base n c:Nat}{A:Option Addr}{l:List UInt8}(h:OwnB w base (.slice A n c) l):SeesM (fun k=>base≤k∧k<w.heap.size) w A (bv l):=by
 rcases (SeesN.of_own h rfl none (by simp)).out with e|⟨ad,e,h1,h2, -,h3⟩
 ·exact ⟨.inl e⟩
 ·exact ⟨.inr ⟨ad,e,⟨h1,h2⟩,h3⟩⟩
theorem ownB_seesU {w:World}{base n c:Nat}{A:Option Addr}{l:List UInt8}(h:OwnB w base (.slice A n c) l):SeesU (fun k=>base≤k∧k<w.heap.size) w A (bv l):=by
 rcases h.2 with ⟨h0,h1⟩|⟨g,cap,cur,hv,hb,hh, -⟩
 ·refine ⟨.inl ?_⟩
  rw[List.eq_nil_of_length_eq_zero h1];rfl
 ·injection hv with hv hn hc
  subst hv hn hc
  unfold OwnB at h
  exact ⟨.inr ⟨_,rfl,⟨hb,(Array.getElem?_eq_some_iff.1 hh).1⟩,fun j u hu=>⟨World.ownsRow.cells h (g:=g) rfl j u hu,by rw[Addr.add_lit];exact World.ownsRow.frozenAt h (0+j)⟩⟩⟩
theorem coll_done {q:Nat→Prop}{W wp wn:World}{base bx:Nat}{t:TypeId}{v v' : Value}{ls:List (List UInt8)}{vs:List Value}{y:List UInt8}{Ac:Option Addr}{cc:Nat}
  (hbox:Box1 W bx t v) (hq:∀k,q k→base≤k∧k<W.heap.size) (hbb:bx<base) (hbW:base≤W.heap.size)
  (h1:W.ownsRow base 48 1 v ls.length vs) (h2:∀k,v.ownBlock=some k→q k) (h3:∀i (hi:i<ls.length),∃Ai ci,vs[i]?=some (.slice Ai (ls[i]).length ci)∧(ls[i]).length≤ci∧SeesU (fun k=>q k∧v.ownBlock≠some k) W Ai (bv ls[i]))
  (hr:Below W.heap.size W wp) (hy:SeesU (fun k=>W.heap.size≤k∧k<wp.heap.size) wp Ac (bv y)) (hc:y.length≤cc)
  (hown:wn.ownsRow base 48 1 v' (ls.length+1) (vs ++ [.slice Ac y.length cc])) (hon:Onto wp wn v v') :
  ∃q',(∀k,q' k→(q k∨W.heap.size≤k)∧k<(wn.setCell ⟨bx,0,none⟩ v').heap.size)∧OwnQ q' (wn.setCell ⟨bx,0,none⟩ v') base v' (ls ++ [y])∧Box1 (wn.setCell ⟨bx,0,none⟩ v') bx t v'∧Turn (fun k=>k=bx∨v.ownBlock=some k) W (wn.setCell ⟨bx,0,none⟩ v'):=by
 have hs1:=hr.size
 have hs2:=hon.size
 have hvs:vs.length=ls.length:=by have:=h1.1;omega
 have hbxv:v.ownBlock≠some bx:=fun e=>by have:=(hq _ (h2 _ e)).1;omega
 have hbx' : v'.ownBlock≠some bx:=fun e=>by
  rcases hon.at_ with e2|⟨g,e2,hg⟩
  ·exact hbxv (e2 ▸ e)
  ·rw[e2] at e;injection e with e;omega
 have hQ:OwnQ (fun k=>q k∨(W.heap.size≤k∧k<wp.heap.size)∨v'.ownBlock=some k) wn base v' (ls ++ [y]) :=
  OwnQ.put (w:=wp) y Ac cc (fun k e=>by have:=(hq k e).2;omega) h2 (fun i hi=>by
   obtain ⟨Ai,ci,g1,g2,g3⟩:=h3 i hi
   exact ⟨Ai,ci,g1,g2,g3.keep (Kept.of_below hr fun k e=>(hq k e.1).2)⟩) hvs hc hy (fun k e=>⟨e.2,fun e2=>by have:=(hq _ (h2 _ e2)).2;omega⟩) hown hon
 have hkS:Kept (fun k=>q k∨(W.heap.size≤k∧k<wp.heap.size)∨v'.ownBlock=some k) wn (wn.setCell ⟨bx,0,none⟩ v'):=fun k e=>Below.heap_setCell _ _ _ _ (fun e2=>by
  subst e2
  rcases e with e|e|e
  ·have:=(hq _ e).1;omega
  ·have:=e.1;omega
  ·exact hbx' e)
 refine ⟨_,fun k e=>⟨?_,?_⟩,hQ.keep hkS,?_,?_⟩
 ·rcases e with e|e|e
  ·exact .inl e
  ·exact .inr e.1
  ·rcases hon.at_ with e2|⟨g,e2,hg⟩
   ·exact .inl (h2 _ (e2 ▸ e))
   ·rw[e2] at e;injection e with e;exact .inr (by omega)
 ·rw[World.size_setCell]
  rcases e with e|e|e
  ·have:=(hq k e).2;omega
  ·omega
  ·exact (World.ownsRow.lt hown k e).2
 ·have b1:Box1 wn bx t v:=(hbox.below hr hbox.lt).turn (Turn.onto (T:=fun k=>v.ownBlock=some k) hon fun k e=>e) hbxv
  exact b1.set v'
 ·exact ((Turn.of_new hr).trans (Turn.onto hon fun k e => .inr e)).trans (Turn.setCell _ _ _ (.inl rfl))
end
section
open Go.RowKit
def frB (o:List Item):List UInt8:=frameOf 1 (packB o)
def outs (bl:List (List Item)):List UInt8:=bl.flatMap frB
def idxs:Nat→List (List Item)→List UInt8
 | _, [] => []
 | p,o :: t=>venc p++venc (o.headD []).length++o.headD []++idxs (p+(frB o).length) t
def tabB (bl:List (List Item)):List UInt8:=venc bl.length++idxs 0 bl
def place4 (n:Nat):List UInt8:=tail4 n
def fileB (ls:List Item):List UInt8:=outs (blk ls)++frameOf 2 (tabB (blk ls))++place4 (outs (blk ls)).length
def okB (ls:List Item):Bool:=risesB ls && !(ls.any badL)
def buildE (ls:List Item):Nat:=if 2000<ls.length then 2 else if ls.length=0∨okB ls=false then 1 else if 65535<(tabB (blk ls)).length then 2 else 0
theorem outs_append (a b:List (List Item)):outs (a++b)=outs a++outs b:=by simp[outs]
theorem outs_one (o:List Item):outs [o]=frB o:=by simp[outs]
theorem idxs_append:∀(p:Nat) (a b:List (List Item)),idxs p (a++b)=idxs p a++idxs (p+(outs a).length) b
 | p, [],b=>by simp[idxs,outs]
 | p,o :: t,b=>by
  have ih:=idxs_append (p+(frB o).length) t b
  have e:(outs (o :: t)).length=(frB o).length+(outs t).length:=by simp[outs]
  rw[List.cons_append]
  simp only[idxs]
  rw[ih,e, ←Nat.add_assoc]
  simp only[List.append_assoc]
theorem idxs_one (p:Nat) (o:List Item):idxs p [o]=venc p++venc (o.headD []).length++o.headD []:=by simp[idxs]
theorem take_snoc {α:Type}{l:List α}{k:Nat}(h:k<l.length):l.take (k+1)=l.take k ++ [l[k]]:=by
 rw[List.take_add_one,List.getElem?_eq_getElem h];rfl
theorem headD_get {o:List Item}(h:0<o.length):o.headD []=o[0]:=by
 cases o with
 | nil=>simp at h
 | cons x t=>rfl
theorem blk_at:∀(m:Nat) (ls:List Item) (j:Nat),ls.length≤m→(h:j<(blk ls).length)→(blk ls)[j]=(ls.drop (8*j)).take 8
 | 0,ls,j,hm,h=>by rw[blk_nil (by omega)] at h;simp at h
 | m+1,ls,j,hm,h=>by
  by_cases h0:ls.length=0
  ·rw[blk_nil h0] at h;simp at h
  ·have hc:=blk_cons (ls:=ls) (by omega)
   cases j with
   | zero=>simp[hc]
   | succ j =>
    have h2:j<(blk (ls.drop 8)).length:=by rw[hc] at h;simpa using h
    have:=blk_at m (ls.drop 8) j (by rw[List.length_drop];omega) h2
    simp only[hc,List.getElem_cons_succ,this,List.drop_drop]
    congr 2
    omega
theorem blk_len:∀(m:Nat) (ls:List Item),ls.length≤m→(blk ls).length=(ls.length+7) / 8
 | 0,ls,hm=>by rw[blk_nil (by omega)];simp;omega
 | m+1,ls,hm=>by
  by_cases h0:ls.length=0
  ·rw[blk_nil h0];simp;omega
  ·rw[blk_cons (by omega),List.length_cons,blk_len m _ (by rw[List.length_drop];omega),List.length_drop]
   omega
theorem blk_get {ls:List Item}{j:Nat}(h:j<(blk ls).length):(blk ls)[j]=(ls.drop (8*j)).take 8:=blk_at ls.length ls j (Nat.le_refl _) h
theorem blk_length (ls:List Item):(blk ls).length=(ls.length+7) / 8:=blk_len ls.length ls (Nat.le_refl _)
theorem blk_flat:∀(m:Nat) (ls:List Item),ls.length≤m→(blk ls).flatten=ls
 | 0,ls,hm=>by rw[blk_nil (by omega)];simp;exact List.eq_nil_of_length_eq_zero (show ls.length=0 by omega)
 | m+1,ls,hm=>by
  by_cases h0:ls.length=0
  ·rw[blk_nil h0];simp;exact List.eq_nil_of_length_eq_zero h0
  ·rw[blk_cons (by omega),List.flatten_cons,blk_flat m _ (by rw[List.length_drop];omega),List.take_append_drop]
theorem blk_flatten (ls:List Item):(blk ls).flatten=ls:=blk_flat ls.length ls (Nat.le_refl _)
structure OkTo (ls:List Item) (m:Nat):Prop where
 fine:∀i (h:i<ls.length),i<m→badL ls[i]=false
 up:∀i (h:i+1<ls.length),i+1<m→ahead ls[i] ls[i+1]=true
theorem OkTo.zero (ls:List Item):OkTo ls 0:=⟨fun _ _ h=>by omega,fun _ _ h=>by omega⟩
theorem rises_of:∀ {ls:List Item},(∀i (h:i+1<ls.length),ahead ls[i] ls[i+1]=true)→risesB ls=true
 | [],_=>rfl
 | [_],_=>rfl
 | a :: b :: t,h=>by
  have h0:=h 0 (by simp)
  have ih:=rises_of (ls:=b :: t) (fun i hi=>by have:=h (i+1) (by simpa using hi);simpa using this)
  simp only[List.getElem_cons_zero,List.getElem_cons_succ] at h0
  simp only[risesB,h0,ih,Bool.and_self]
theorem OkTo.ok {ls:List Item}{m:Nat}(h:OkTo ls m) (hm:ls.length≤m):okB ls=true:=by
 unfold okB
 rw[rises_of (fun i hi=>h.up i hi (by omega))]
 have:ls.any badL=false:=by
  rw[List.any_eq_false]
  intro x hx
  obtain ⟨i,hi,rfl⟩:=List.mem_iff_getElem.1 hx
  rw[h.fine i hi (by omega)];simp
 rw[this];rfl
theorem ok_parts {ls:List Item}(h:okB ls=true):risesB ls=true∧∀x∈ls,badL x=false:=by
 unfold okB at h
 rw[Bool.and_eq_true] at h
 refine ⟨h.1,fun x hx => ?_⟩
 have:=h.2
 rw[Bool.not_eq_true',List.any_eq_false] at this
 have:=this x hx
 simpa using this
theorem not_ok_ahead {ls:List Item}{i:Nat}(h:i+1<ls.length) (hn:ahead ls[i] ls[i+1]=false):okB ls=false:=by
 cases ho:okB ls with
 | false=>rfl
 | true =>
  have:=rises_pair (ok_parts ho).1 (i:=i) (j:=i+1) (by omega) h (by omega)
  rw[hn] at this;exact absurd this (by simp)
theorem block_get {ls:List Item}{k i:Nat}(h:i<((ls.drop k).take 8).length):((ls.drop k).take 8)[i]=ls[k+i]'(by rw[List.length_take,List.length_drop] at h;omega):=by
 rw[List.getElem_take,List.getElem_drop]
theorem OkTo.step {ls:List Item}{k:Nat}(h:OkTo ls (8*k)) (hk:8*k<ls.length) (hb:∀(_:0<k),ahead (ls[8*k - 1]'(by omega)) ls[8*k]=true) (hc:checkN ((ls.drop (8*k)).take 8)=0):OkTo ls (8*(k+1)):=by
 obtain ⟨h8,h1,h3,h4⟩:=check_ok hc
 have hl:((ls.drop (8*k)).take 8).length=min 8 (ls.length - 8*k):=by rw[List.length_take,List.length_drop]
 refine ⟨fun i hi him => ?_,fun i hi him => ?_⟩
 ·by_cases hlt:i<8*k
  ·exact h.fine i hi hlt
  ·have:=h3 (i - 8*k) (by omega)
   rw[block_get] at this
   simp only[show 8*k+(i - 8*k)=i from by omega] at this
   unfold badL
   rw[Bool.or_eq_false_iff,decide_eq_false_iff_not,decide_eq_false_iff_not]
   omega
 ·by_cases hlt:i+1<8*k
  ·exact h.up i hi hlt
  ·by_cases he:i+1=8*k
   ·have:=hb (by omega)
    simp only[←he] at this
    exact this
   ·have:=rises_pair h4 (i:=i - 8*k) (j:=i+1 - 8*k) (by omega) (by omega) (by omega)
    rw[block_get,block_get] at this
    simp only[show 8*k+(i - 8*k)=i from by omega,show 8*k+(i+1 - 8*k)=i+1 from by omega] at this
    exact this
theorem not_ok_block {ls:List Item}{k:Nat}(hk:8*k<ls.length) (hc:checkN ((ls.drop (8*k)).take 8)≠0):okB ls=false∧checkN ((ls.drop (8*k)).take 8)=1:=by
 have hl:((ls.drop (8*k)).take 8).length=min 8 (ls.length - 8*k):=by rw[List.length_take,List.length_drop]
 have h1:checkN ((ls.drop (8*k)).take 8)=1:=by
  rcases check_nz hc with h|h
  ·exact h
  ·unfold checkN at h;rw[if_neg (by omega)] at h;split at h<;>simp at h
 refine ⟨?_,h1⟩
 cases ho:okB ls with
 | false=>rfl
 | true =>
  exfalso
  obtain ⟨hr,hf⟩:=ok_parts ho
  apply hc
  unfold checkN
  rw[if_neg (by omega),if_neg]
  rintro (h|h|h)
  ·omega
  ·rw[List.any_eq_true] at h
   obtain ⟨x,hx,hb⟩:=h
   rw[hf x (List.mem_of_mem_drop (List.mem_of_mem_take hx))] at hb
   exact absurd hb (by simp)
  ·rw[rises_of (fun i hi=>by
    rw[block_get,block_get]
    exact rises_pair hr (by omega) (by omega) (by omega))] at h
   exact absurd h (by simp)
theorem block_ok {ls:List Item}(ho:okB ls=true) {k:Nat}(hk:8*k<ls.length):checkN ((ls.drop (8*k)).take 8)=0:=by
 by_cases h:checkN ((ls.drop (8*k)).take 8)=0
 ·exact h
 ·have:=(not_ok_block hk h).1;rw[ho] at this;exact absurd this (by simp)
theorem venc_le2 {u:Nat}(h:u<16384):(venc u).length≤2:=venc_len_aux 1 u (by omega)
theorem venc_le4 {u:Nat}(h:u<268435456):(venc u).length≤4:=venc_len_aux 3 u (by omega)
theorem packFrom_len2:∀(ls:List Item) (p:List UInt8),(∀x∈ls,x.length≤400)→(packFrom p ls).length≤404*ls.length
 | [],_,_=>by simp[packFrom]
 | x :: t,p,h=>by
  have hx:=h x (by simp)
  have ih:=packFrom_len2 t x (fun y hy=>h y (by simp[hy]))
  have hc:=common_le p x
  have v1:=venc_le2 (u:=common p x) (by omega)
  have v2:=venc_le2 (u:=x.length - common p x) (by omega)
  rw[packFrom_cons]
  simp only[List.length_append,List.length_drop,List.length_cons]
  omega
theorem packB_len2 {ls:List Item}(h:checkN ls=0):1≤(packB ls).length∧(packB ls).length≤3240:=by
 obtain ⟨h8,h1,_,_⟩:=check_ok h
 have:=packFrom_len2 ls [] (check_all h)
 have v1:=venc_le2 (u:=ls.length) (by omega)
 have v2:=venc_pos ls.length
 unfold packB
 rw[List.length_append]
 omega
theorem frameOf_len (kind:Int) (l:List UInt8):(frameOf kind l).length=1+(venc l.length).length+l.length+4:=by
 unfold frameOf;rw[sealB_len,List.length_cons,List.length_append];omega
theorem frB_len {o:List Item}(h:checkN o=0):(frB o).length≤3300:=by
 obtain ⟨h1,h2⟩:=packB_len2 h
 have v1:=venc_le2 (u:=(packB o).length) (by omega)
 unfold frB
 rw[frameOf_len]
 omega
theorem outs_len:∀(bl:List (List Item)),(∀o∈bl,checkN o=0)→(outs bl).length≤3300*bl.length
 | [],_=>by simp[outs]
 | o :: t,h=>by
  have h1:=frB_len (h o (by simp))
  have h2:=outs_len t fun x hx=>h x (by simp[hx])
  have e:(outs (o :: t)).length=(frB o).length+(outs t).length:=by simp[outs]
  rw[e,List.length_cons]
  omega
theorem head_len {o:List Item}(h:checkN o=0):(o.headD []).length≤400:=by
 cases o with
 | nil=>simp
 | cons x t=>exact check_all h x (by simp)
theorem idxs_len:∀(bl:List (List Item)) (p:Nat),(∀o∈bl,checkN o=0)→p+3300*bl.length<268435456→(idxs p bl).length≤406*bl.length
 | [],_,_,_=>by simp[idxs]
 | o :: t,p,h,hp=>by
  have h1:=frB_len (h o (by simp))
  have h2:=head_len (h o (by simp))
  rw[List.length_cons] at hp
  have h3:=idxs_len t (p+(frB o).length) (fun x hx=>h x (by simp[hx])) (by omega)
  have v1:=venc_le4 (u:=p) (by omega)
  have v2:=venc_le2 (u:=(o.headD []).length) (by omega)
  simp only[idxs,List.length_append,List.length_cons]
  omega
end
section
open Go.RowKit
def Apart2 (v x:Value):Prop:=∀k,v.ownBlock=some k→x.ownBlock≠some k
theorem Apart2.nil (x:Value):Apart2 (.slice none 0 0) x:=fun k h=>by simp[Value.ownBlock] at h
theorem OwnB.beside {w w' : World}{base:Nat}{v v' x:Value}{l:List UInt8}(h:OwnB w base x l) (hon:Onto w w' v v') (ha:Apart2 v x):OwnB w' base x l∧Apart2 v' x:=by
 refine ⟨World.ownsRow.kept h hon.grown ?_,fun k hk => ?_⟩
 ·cases hx:x.ownBlock with
  | none=>exact .inl rfl
  | some k=>exact .inr (fun e=>ha k e.symm hx)
 ·rcases hon.at_ with e|⟨g,e,hg⟩
  ·exact ha k (e ▸ hk)
  ·intro hx
   have:=(World.ownsRow.lt h k hx).2
   rw[e] at hk;injection hk with hk;omega
theorem Apart2.symm {v x:Value}(h:Apart2 v x):Apart2 x v:=fun k hk e=>h k e hk
theorem Apart2.new {w:World}{base:Nat}{v x:Value}{l m:List UInt8}(hv:OwnB w base v l) {w' : World}(hx:OwnB w' w.heap.size x m):Apart2 v x:=fun k hk e=>by
 have h1:=(World.ownsRow.lt hv k hk).2
 have h2:=(World.ownsRow.lt hx k e).1
 omega
theorem place_any (n:Nat) (hn:n<4294967296) (w:World) :
  Calls Tryz.prog 150 #[.int .i64 n] w (NewB w (place4 n)):=by
 have hsb:(n:Int)<4294967296:=by omega
 have hs0:(0:Int)≤(n:Int):=by omega
 go_enter Tryz.func150,Tryz.ntmps150
 go_wp2
 go_ret
 exact ⟨_,rfl,OwnB.new w w.heap.size (Nat.le_refl _) (place4 n) 4 rfl _ (tail4_arr n _ _ _ _ (by omega) (by omega) (by omega) (by omega)) (by simp[place4,tail4,maxLen]),(Below.refl _ w).alloc (Nat.le_refl _) _⟩
end
section
open Go.RowKit
def BuildIs (w:World) (ls:List Item) (e:Ending) (w' : World):Prop :=
 ∃v,e = .returned (.tuple #[v,.int .i64 (buildE ls:Nat)])∧OwnB w' w.heap.size v (if buildE ls=0 then fileB ls else [])∧Below w.heap.size w w'
theorem BuildIs.err {w w' : World}{ls:List Item}{k:Nat}(h:buildE ls=k) (hk:k≠0) (hb:Below w.heap.size w w') {z:Int}(hz:z=(k:Int)):BuildIs w ls (.returned (.tuple #[.slice none 0 0,.int .i64 z])) w':=by
 subst hz;subst h
 exact ⟨_,rfl,by rw[if_neg hk];exact OwnB.nil _ _,hb⟩
theorem buildE_bad {ls:List Item}(h:¬ 2000<ls.length) (ho:okB ls=false):buildE ls=1:=by unfold buildE;rw[if_neg h,if_pos (.inr ho)]
theorem below_undrewN {B:Nat}{w w' : World}{q:Nat}(h:Below B (w.drewN q) w'):Below B w w':=⟨h.os,h.tape,h.output,h.size,h.block⟩
theorem sees2_three (w:World) (A1 A2 A3:Option Addr) (n1 n2 n3 c1 c2 c3:Nat) (l1 l2 l3:List UInt8) (h1:l1.length=n1) (h2:l2.length=n2) (h3:l3.length=n3) (hc1:n1≤c1) (hc2:n2≤c2) (hc3:n3≤c3) (hs1:Sees w w.heap.size A1 (bv l1)) (hs2:Sees w w.heap.size A2 (bv l2)) (hs3:Sees w w.heap.size A3 (bv l3)) (t:TypeId) :
  Sees2 (w.alloc (.cells #[.slice A1 n1 c1,.slice A2 n2 c2,.slice A3 n3 c3] t)) (w.alloc (.cells #[.slice A1 n1 c1,.slice A2 n2 c2,.slice A3 n3 c3] t)).heap.size (some ⟨w.heap.size,0,none⟩) [l1,l2,l3]:=by
 subst h1
 subst h2
 subst h3
 refine ⟨fun i hi => ?_⟩
 match i,hi with
 | 0,_=>exact ⟨_,A1,c1,rfl,by simp,by rw[Addr.add_lit,World.cell?_alloc_at _ _ _ _ rfl];rfl,hc1,(hs1.alloc (Nat.le_refl _) _).more (by simp)⟩
 | 1,_=>exact ⟨_,A2,c2,rfl,by simp,by rw[Addr.add_lit,World.cell?_alloc_at _ _ _ _ rfl];rfl,hc2,(hs2.alloc (Nat.le_refl _) _).more (by simp)⟩
 | 2,_=>exact ⟨_,A3,c3,rfl,by simp,by rw[Addr.add_lit,World.cell?_alloc_at _ _ _ _ rfl];rfl,hc3,(hs3.alloc (Nat.le_refl _) _).more (by simp)⟩
theorem Build_any (A:Option Addr) (n c:Nat) (ls:List Item) (hn:ls.length=n) (hnc:n≤c) (w:World) (hS:Sees2 w w.heap.size A ls) (hH:Halves w) (hlen:n≤1099511627776) :
  Calls Tryz.prog 104 #[.slice A n c] w (BuildIs w ls):=by
 have HN:=Lib.hid hn
 by_cases hbig:2000<n
 ·have hb' : (2000:Int)<(n:Int):=by omega
  have HE:Hid (buildE ls=2):=by unfold Hid buildE;rw[hn,if_pos hbig]
  clear hn
  go_enter Tryz.func104,Tryz.ntmps104
  go_wp2
  go_ret2
  exact BuildIs.err HE.out (by omega) (Below.refl _ _) rfl
 have hb' : (n:Int)≤2000:=by omega
 by_cases h0:n=0
 ·have h0' : ((n:Int)==0)=true:=by rw[beq_iff_eq];omega
  have HE:Hid (buildE ls=1):=by unfold Hid buildE;rw[hn,if_neg hbig,if_pos (.inl h0)]
  clear hn
  go_enter Tryz.func104,Tryz.ntmps104
  go_wp2
  go_ret2
  exact BuildIs.err HE.out (by omega) (Below.refl _ _) rfl
 have h0' : ((n:Int)==0)=false:=by rw[beq_eq_false_iff_ne];omega
 have hSp:=Lib.hid (Split_any A n c ls hn hnc w hS (by omega))
 have hBL:=blk_length ls
 have hBA:=Lib.hid (fun j (h:j<(blk ls).length)=>blk_get h)
 obtain ⟨bl,hbl⟩:∃bl,blk ls=bl:=⟨_,rfl⟩
 unfold SplitIs at hSp
 rw[hbl] at hSp hBL
 have HBL:=Lib.hid hbl
 rw[hn] at hBL
 obtain ⟨N,hN⟩:∃N,bl.length=N:=⟨_,rfl⟩
 rw[hN] at hBL
 have HNN:=Lib.hid hN
 have hN1:1≤N:=by omega
 have hN250:N≤250:=by omega
 have HBLN:=Lib.hid hBL
 clear hn hbl hN hBL
 go_enter Tryz.func104,Tryz.ntmps104
 go_wp2_with fail
 refine hSp.out.mono ?_
 rintro en w2 ⟨v2,rfl,hown2,hb2⟩
 clear hSp
 have hs2:=hb2.size
 have hH2:=hH.below hb2 hH.1
 obtain ⟨AB,cB,eB,hcB,hcells⟩:=hown2.open_
 rw[HNN.out] at eB hcB
 subst eB
 have hP:=Lib.hid (Put_any none 0 0 [] rfl N (by unfold Is64;omega) w2 (Sees.nil _ _ _) (by simp))
 rw[List.nil_append] at hP
 go_wp2_with fail
 refine hP.out.mono ?_
 rintro en w3 ⟨v3,rfl,hown3,hon3⟩
 clear hP
 have hb3:=hon3.below_nil
 have hs3:=hb3.size
 have hown2':=Lib.hid hown2
 have hcells':=Lib.hid hcells
 clear hown2 hcells
 go_wp2_with fail
 go_loopg [4,6,30] N (fun g b x i wr=>∃k:Nat,k+g=N∧i = .int .i64 k∧OwnB wr w2.heap.size b (outs (bl.take k))∧OwnB wr w2.heap.size x (venc N++idxs 0 (bl.take k))∧Apart2 b x∧Below w2.heap.size w2 wr∧OkTo ls (8*k)∧Hid (∀o∈bl.take k,checkN o=0))
 case atStart=>exact ⟨0,by omega,rfl,OwnB.nil _ _,by simpa[idxs] using hown3,Apart2.nil _,hb3,OkTo.zero _,by unfold Hid;simp⟩
 case round =>
  obtain ⟨k,hk,rfl,hownb,hownx,hap,hbr,hok,hall⟩:=hrel
  have hsr:=hbr.size
  have hbw:Below w.heap.size w2 wr:=hbr.mono hs2
  by_cases hlt:k<N
  ·have hkl:k<bl.length:=by rw[HNN.out];exact hlt
   have hk8:8*k<ls.length:=by have h1:=HBLN.out;have h2:=HN.out;omega
   have hgetB:∀j (h:j<bl.length),bl[j]=(ls.drop (8*j)).take 8:=fun j h=>by
    have:=hBA.out j (by rw[HBL.out];exact h)
    simp only[HBL.out] at this
    exact this
   have hblk:=hgetB k hkl
   obtain ⟨ado,Ao,co,hado,hadob,hco,hoc,hso⟩:=hcells'.out k hkl
   have hco2:=(hbr.cell (p:=ado.add k) (by rw[add_block];exact hadob)).trans hco
   have hsoW:=hso.below hbw
   have htk:=take_snoc hkl
   obtain ⟨o,ho⟩:∃o,bl[k]=o:=⟨_,rfl⟩
   rw[ho] at hco2 hoc hsoW hblk htk
   have hol:1≤o.length:=by rw[hblk,List.length_take,List.length_drop];omega
   have hol8:o.length≤8:=by rw[hblk,List.length_take];omega
   have hhd:=headD_get hol
   have hx0:o[0]=ls[8*k]:=by
    have:=block_get (ls:=ls) (k:=8*k) (i:=0) (by rw[←hblk];exact hol)
    simp only[←hblk] at this
    exact this
   obtain ⟨adx,Ax,cx,hadx,hadxb,hcx,hxc,hsx⟩:=hsoW.out 0 hol
   have hcx' : wr.cell? adx=some (.slice Ax (o[0]).length cx):=by simpa[Addr.add] using hcx
   have HX0:=Lib.hid hx0
   have HHD:=Lib.hid hhd
   have HO:=Lib.hid hblk
   have HTK:=Lib.hid htk
   obtain ⟨x0,hxx⟩:∃x0,o[0]=x0:=⟨_,rfl⟩
   rw[hxx] at hcx' hxc hsx
   have HXX:=Lib.hid hxx
   obtain ⟨ol,hoL⟩:∃ol,o.length=ol:=⟨_,rfl⟩
   rw[hoL] at hco2 hoc hol hol8
   have HOL:=Lib.hid hoL
   obtain ⟨xl,hxL⟩:∃xl,x0.length=xl:=⟨_,rfl⟩
   rw[hxL] at hcx' hxc
   have HXL:=Lib.hid hxL
   clear hx0 hhd hblk htk ho hxx hoL hxL hcx hco hso
   subst hado
   subst hadx
   go_upto_region 11 with fail
   go_cut [50] (fun t wx=>∃bo,t = .bool bo∧(bo=true→okB ls=false)∧(bo=false→∀(_:0<k),ahead (ls[8*k - 1]'(by omega)) ls[8*k]=true)∧∃q,wx=wr.drewN q)
   case first =>
    by_cases hk0:k=0
    ·subst hk0
     go_quiet (fail)
     go_wp2_with fail
     go_meet
     exact ⟨false,rfl,fun h=>absurd h (by simp),fun _ h=>absurd h (by omega),_,rfl⟩
    ·have ik:(0:Int)<(k:Int):=by omega
     obtain ⟨j,rfl⟩:∃j,k=j+1:=⟨k - 1,by omega⟩
     have hjw:IntKind.i64.wrap (j:Int)=(j:Int):=by rw[IntKind.wrap_i64];omega
     have hjN:(j:Int)<(N:Int):=by omega
     have hj0:(0:Int)≤(j:Int):=by omega
     obtain ⟨ado',Ao',co',hado',hadob',hco',hoc',hso'⟩:=hcells'.out j (by omega)
     obtain rfl:=Option.some.inj hado'
     have hco2':=(hbr.cell (p:=ado.add j) (by rw[add_block];exact hadob')).trans hco'
     have hblk':=hgetB j (by omega)
     obtain ⟨o',ho'⟩:∃o',bl[j]'(by omega)=o':=⟨_,rfl⟩
     rw[ho'] at hco2' hoc' hso' hblk'
     have hol' : o'.length=8:=by rw[hblk',List.length_take,List.length_drop];omega
     have hx7:o'[7]=ls[8*(j+1) - 1]'(by omega):=by
      have:=block_get (ls:=ls) (k:=8*j) (i:=7) (by rw[←hblk'];omega)
      simp only[←hblk'] at this
      exact this
     obtain ⟨ady,Ay,cy,hady,hadyb,hcy,hyc,hsy⟩:=(hso'.below hbw).out 7 (by omega)
     obtain rfl:=hady
     rw[show ady.add 7=⟨ady.block,ady.off+7,none⟩ from by unfold Addr.add;rw[if_neg (by omega)]] at hcy
     have HX7:=Lib.hid hx7
     have HX0' : Hid (x0=ls[8*(j+1)]):=HXX.out.symm.trans HX0.out
     obtain ⟨y,hy⟩:∃y,o'[7]=y:=⟨_,rfl⟩
     rw[hy] at hcy hyc hsy
     have HY:=Lib.hid hy
     rw[hol'] at hco2' hoc'
     have hCmp:=fun q=>Lib.hid (Compare_any Ay Ax y.length xl cy cx y x0 rfl HXL.out (wr.drewN q) ((hsy.drewN q).more (by have:=hbw.size;show _≤wr.heap.size;omega)) ((hsx.drewN q).more (by have:=hbw.size;show _≤wr.heap.size;omega)))
     have hcl:=cmp_lt y x0
     obtain ⟨z,hz⟩:∃z,Lib.compareBytes y x0=z:=⟨_,rfl⟩
     rw[hz] at hcl
     simp only[hz] at hCmp
     have hah:ahead (ls[8*(j+1) - 1]'(by omega)) (ls[8*(j+1)])=decide (z<0):=by
      rw[←HX7.out, ←HX0'.out,HY.out,ahead_eq]
      exact decide_eq_decide.2 hcl.symm
     have HAH:=Lib.hid hah
     clear hx7 hy hz hcl hah hgetB
     by_cases hz:z<0
     ·go_quiet ((refine (hCmp _).out.mono ?_;rintro e w1 ⟨rfl,rfl⟩;exact ⟨rfl,_,rfl⟩))
      go_wp2_with fail
      go_meet
      exact ⟨false,by first|rfl|(rw[decide_eq_false (show ¬ 0≤z by omega)]),fun h=>absurd h (by simp),fun _ _=>by rw[HAH.out];exact decide_eq_true (by omega),_,rfl⟩
     ·have hz' : 0≤z:=by omega
      go_quiet ((refine (hCmp _).out.mono ?_;rintro e w1 ⟨rfl,rfl⟩;exact ⟨rfl,_,rfl⟩))
      go_wp2_with fail
      go_meet
      exact ⟨true,by first|rfl|(rw[decide_eq_true (show 0≤z by omega)]),fun _=>not_ok_ahead (i:=8*(j+1) - 1) (by omega) (by have:=HAH.out;simp only[show 8*(j+1) - 1+1=8*(j+1) from by omega];rw[this];exact decide_eq_false (by omega)),fun h=>absurd h (by simp),_,rfl⟩
   case rest =>
    obtain ⟨bo,rfl,hbt,hbf,q,rfl⟩:=hcut
    cases bo with
    | true =>
     have HE:=Lib.hid (buildE_bad (by have:=HN.out;omega) (hbt rfl))
     clear hbt hbf
     go_wp2_with fail
     go_ret2
     exact BuildIs.err HE.out (by omega) (hb2.trans (below_d hbw q)) rfl
    | false =>
    have hbf':=hbf rfl
    clear hbt hbf
    have hPk:=Lib.hid (Pack_any (some adx) ol co o HOL.out (wr.drewN q) ((hsoW.drew q).more (by have:=hbw.size;show _≤wr.heap.size;omega)) (by omega))
    by_cases hck:checkN o=0
    ·have hok2:=hok.step hk8 hbf' (by rw[←HO.out];exact hck)
     have hPl:=packB_len2 hck
     unfold PackIs at hPk
     rw[hck] at hPk
     simp only[if_true] at hPk
     have hB25:=outs_len (bl.take k) hall.out
     have hX25:=idxs_len (bl.take k) 0 hall.out (by rw[List.length_take];omega)
     have hkl2:(bl.take k).length=k:=by rw[List.length_take];omega
     have hvN:=venc_le4 (u:=N) (by omega)
     rw[hkl2] at hB25 hX25
     have hall2:Hid (∀o∈bl.take (k+1),checkN o=0):=by
      unfold Hid
      rw[HTK.out]
      intro z hz
      rcases List.mem_append.1 hz with h|h
      ·exact hall.out z h
      ·rw[List.mem_singleton] at h;rw[h];exact hck
     obtain ⟨Bs,hBs⟩:∃Bs,outs (bl.take k)=Bs:=⟨_,rfl⟩
     obtain ⟨Xs,hXs⟩:∃Xs,venc N++idxs 0 (bl.take k)=Xs:=⟨_,rfl⟩
     have hBs2:Hid (outs (bl.take (k+1))=Bs++frB o):=by unfold Hid;rw[HTK.out,outs_append,outs_one,hBs]
     have hXs2:Hid (venc N++idxs 0 (bl.take (k+1))=Xs++venc Bs.length++venc xl++x0):=by
      unfold Hid
      rw[HTK.out,idxs_append,idxs_one,Nat.zero_add,hBs,HHD.out,HXX.out,HXL.out, ←hXs]
      simp only[List.append_assoc]
     have hXl:Xs.length≤200000:=by rw[←hXs,List.length_append];omega
     rw[hBs] at hB25 hownb
     rw[hXs] at hownx
     have hmk:Hid (makeB 1 (packB o)=frB o):=by unfold Hid makeB makeErr frB;rw[if_pos (by rw[if_neg (by omega),if_neg (by omega)])]
     have hme:Hid (makeErr 1 (packB o).length=0):=by unfold Hid makeErr;rw[if_neg (by omega),if_neg (by omega)]
     obtain ⟨PB,hPB⟩:∃PB,packB o=PB:=⟨_,rfl⟩
     rw[hPB] at hPk hPl hmk hme
     have hfl:=frB_len hck
     obtain ⟨FB,hFB⟩:∃FB,frB o=FB:=⟨_,rfl⟩
     rw[hFB] at hmk hfl hBs2
     obtain ⟨lb,hlb⟩:∃lb,Bs.length=lb:=⟨_,rfl⟩
     obtain ⟨lx,hlx⟩:∃lx,Xs.length=lx:=⟨_,rfl⟩
     rw[hlb] at hB25 hXs2
     rw[hlx] at hXl
     have hxl4:xl≤400:=by have h1:=head_len hck;rw[HHD.out,HXX.out,HXL.out] at h1;exact h1
     have HLB:=Lib.hid hlb
     have HLX:=Lib.hid hlx
     have HOK2:=Lib.hid hok2
     have hvb:=venc_le4 (u:=lb) (by omega)
     have hvx:=venc_le2 (u:=xl) (by omega)
     clear hBs hXs hX25 hvN hPB hFB hlb hlx hok2 hck hok hbf' hkl2
     go_wp2_with fail
     refine hPk.out.mono ?_
     rintro en wa ⟨vp,rfl,hownp,hba0⟩
     clear hPk
     have hba:Below wr.heap.size wr wa:=below_undrewN hba0
     have hsa:=hba.size
     have hownb1:=hownb.below hba
     have hownx1:=hownx.below hba
     obtain ⟨AX,cX,eX, -, -, -,hsX⟩:=hownx1.open_
     rw[HLX.out] at eX
     obtain ⟨A4,c4,e4, -, -, -,hs4⟩:=hownb1.open_
     rw[HLB.out] at e4
     obtain ⟨lp,hlp⟩:∃lp,PB.length=lp:=⟨_,rfl⟩
     obtain ⟨Ap,cp,ep, -, -, -,hsp⟩:=hownp.open_
     rw[hlp] at ep hPl hme
     have HLP:=Lib.hid hlp
     subst eX
     subst e4
     subst ep
     have hcxa:wa.cell? adx=some (.slice Ax xl cx):=(hba.cell (by have:=hbw.size;omega)).trans hcx'
     have hpx:=Lib.hid (Put_any AX lx cX Xs HLX.out lb (by unfold Is64;omega) wa.drew (show Sees wa.drew wa.heap.size AX (bv Xs) from hsX.drew) (by rw[HLX.out];omega))
     have hol0:0<ol:=hol
     have hw1:IntKind.u64.wrap (lb:Int)=(lb:Int):=by rw[IntKind.wrap_u64];omega
     have hw2:IntKind.u64.wrap (xl:Int)=(xl:Int):=by rw[IntKind.wrap_u64];omega
     have hadxa:adx.block<wa.heap.size:=by have:=hbw.size;omega
     clear hlp hownp hownx1 hownx hownb
     go_wp2_with fail
     refine wp_region_noPanic ?_
     refine wp_region_held_drew (S:=fun w'=>w'.cell? adx=some (.slice Ax xl cx)) (by kernel_rfl) ?_ (fun hHeld => ?_)
     ·(exact hcxa)
     refine tq0 0 hHeld ?_
     try simp only[Act.put,S0,S1,S2]
     refine tq0 1 hHeld ?_
     try simp only[Act.put,S0,S1,S2]
     refine tq0 2 hHeld ?_
     try simp only[Act.put,S0,S1,S2]
     refine tq0 3 hHeld ?_
     try simp only[Act.put,S0,S1,S2]
     refine tq0 5 hHeld ?_
     try simp only[Act.put,S0,S1,S2]
     refine tq0 6 hHeld ?_
     try simp only[Act.put,S0,S1,S2]
     refine tq0 7 hHeld ?_
     try simp only[Act.put,S0,S1,S2]
     refine tq0 8 hHeld ?_
     try simp only[Act.put,S0,S1,S2]
     refine tq0 9 hHeld ?_
     try simp only[Act.put,S0,S1,S2]
     refine wpAnyH_ready (rs := [4]) (by kernel_rfl) (by simp) ?_
     refine AllReadyH.cons (tqi rfl) (fun K hK => ?_) AllReadyH.nil
     go_simp
     refine hpx.out.mono ?_
     rintro en wb ⟨v5,rfl,hown5,hon5⟩
     have hbb:Below wa.heap.size wa wb:=below_undrew hon5.below_nil
     obtain ⟨A5,c5,e5, -, -, -,hs5⟩:=hown5.open_
     have hl5:(Xs++venc lb).length=lx+(venc lb).length:=by rw[List.length_append,HLX.out]
     rw[hl5] at e5
     obtain ⟨l5,hl5'⟩:∃l5,lx+(venc lb).length=l5:=⟨_,rfl⟩
     rw[hl5'] at e5 hl5
     subst e5
     have hpx2:=Lib.hid (Put_any A5 l5 c5 (Xs++venc lb) hl5 xl (by unfold Is64;omega) wb hs5 (by rw[hl5];omega))
     have hl5b:l5≤210000:=by omega
     clear hl5 hl5'
     go_wp2_with fail
     refine hK.out _ _ ?_ ?_
     ·(exact (hbb.cell hadxa).trans hcxa)
     clear hK K hHeld;intro hHeld
     try simp only[Act.put,S0,S1,S2]
     refine wpAnyH_ready (rs := [10]) (by kernel_rfl) (by simp) ?_
     refine AllReadyH.cons (tqi rfl) (fun K hK => ?_) AllReadyH.nil
     go_simp
     refine hpx2.out.mono ?_
     rintro en wd ⟨v6,rfl,hown6,hon6⟩
     have hbd:Below wb.heap.size wb wd:=hon6.below_nil
     go_wp2_with fail
     refine hK.out _ _ ?_ ?_
     ·(exact ((hbb.trans (hbd.mono hbb.size)).cell hadxa).trans hcxa)
     clear hK K hHeld;intro hHeld
     try simp only[Act.put,S0,S1,S2]
     refine tq0 11 hHeld ?_
     try simp only[Act.put,S0,S1,S2]
     refine wpAnyH_done (by kernel_rfl) ?_ _
     refine NoPanic.normal ?_
     have hbad:Below wa.heap.size wa wd:=hbb.trans (hbd.mono hbb.size)
     have hbrd:Below wr.heap.size wr wd:=hba.trans (hbad.mono hsa)
     have hsd:=hbad.size
     have hcxd:wd.cell? adx=some (.slice Ax xl cx):=(hbad.cell hadxa).trans hcxa
     have hown6':=hown6.base_le (show w2.heap.size≤wb.heap.size from by have:=hbb.size;omega)
     have hownb6:=hownb1.below hbad
     have hap6:Apart2 v6 (.slice A4 lb c4):=(Apart2.new (hownb1.below hbb) hown6).symm
     have hl6:(Xs++venc lb++venc xl).length≤220000:=by rw[List.length_append,List.length_append,HLX.out];omega
     have HL6:=Lib.hid hl6
     have hsxd:Sees wd wd.heap.size Ax (bv x0):=((hsx.below (hbrd.mono (by have:=hbw.size;omega))).more (by have:=hbw.size;omega))
     clear hl6 hpx
     go_wp2_with (at_builtin;refine wpList_append_b rfl (.tmp 70) (.tmp 73) rfl w2.heap.size v6 _ (by rfl) hown6' wd.heap.size Ax xl cx x0 (by rfl) HXL.out hsxd (by have:=HL6.out;have:=HXL.out;omega) (by omega) ?_;intro v7 we hown7 hon7;have hbe:=hon7.below (show w2.heap.size≤wd.heap.size from by omega) hown6'.block)
     obtain ⟨hownb7,hap7⟩:=hownb6.beside hon7 hap6
     have hse:=hon7.size
     have hb2e:Below w2.heap.size w2 we:=hbr.trans ((hbrd.mono hsr).trans hbe)
     have hspe:Sees we we.heap.size Ap (bv PB):=(hsp.below (hbad.trans (hon7.below hsd (fun k hk=>Nat.le_trans hbb.size (hown6.block k hk))))).more (by omega)
     have hMk:=Lib.hid (Make_any 1 Ap lp cp PB HLP.out we hspe (hH2.below hb2e (by have:=hH.1;omega)) (by have:=HLP.out;omega))
     rw[hmk.out,HLP.out,hme.out] at hMk
     go_wp2_with fail
     refine hMk.out.mono ?_
     rintro en wf ⟨v8,rfl,hown8,hbf⟩
     clear hMk
     have hsf:=hbf.size
     obtain ⟨A8,c8,rfl, -, -, -,hs8⟩:=hown8.open_
     have hownb8:=hownb7.below hbf
     have hown7f:=hown7.below hbf
     have HFL:=Lib.hid hfl
     have hap8:Apart2 (.slice A4 lb c4) v7:=hap7.symm
     go_wp2_with (at_builtin;refine wpList_append_b rfl (.tmp 80) (.tmp 81) rfl w2.heap.size (.slice A4 lb c4) Bs (by rfl) hownb8 wf.heap.size A8 _ c8 FB (by rfl) rfl hs8 (by have:=HLB.out;have:=HFL.out;omega) (by omega) ?_;intro v9 wg hown9 hon9;have hbg:=hon9.below (show w2.heap.size≤wf.heap.size from by omega) hownb8.block)
     obtain ⟨hown7g,hap9⟩:=hown7f.beside hon9 hap8
     have hb2g:Below w2.heap.size w2 wg:=hb2e.trans ((hbf.mono (by omega)).trans hbg)
     go_roundg (N - (k+1))
     case measure=>omega
     case rel=>exact ⟨k+1,by omega,by go_num,by rw[hBs2.out];exact hown9,by rw[hXs2.out];exact hown7g,hap9,hb2g,HOK2.out,hall2⟩
    ·have hno:=not_ok_block hk8 (by rw[←HO.out];exact hck)
     rw[←HO.out] at hno
     unfold PackIs at hPk
     rw[hno.2] at hPk
     have HE:=Lib.hid (buildE_bad (by have:=HN.out;omega) hno.1)
     clear hno hck hbf'
     go_wp2_with fail
     refine hPk.out.mono ?_
     rintro en wa ⟨va,rfl, -,hba⟩
     go_wp2_with fail
     go_ret2
     exact BuildIs.err HE.out (by omega) (hb2.trans (hbw.trans ((hba.mono (by have:=hbw.size;show _≤wr.heap.size;omega):Below w.heap.size (wr.drewN q) wa) |> fun h=>below_undrewN h))) rfl
  ·have hkN:k=N:=by omega
   subst hkN
   have htk:bl.take k=bl:=List.take_of_length_le (by rw[HNN.out];exact Nat.le_refl _)
   have hall':=hall.out
   rw[htk] at hownb hownx hall'
   have hoko:okB ls=true:=hok.ok (by have h1:=HBLN.out;have h2:=HN.out;omega)
   have hB25:=outs_len bl hall'
   have hX25:=idxs_len bl 0 hall' (by rw[HNN.out];omega)
   rw[HNN.out] at hB25 hX25
   have hvN:=venc_le4 (u:=k) (by omega)
   have htab:Hid (tabB (blk ls)=venc k++idxs 0 bl):=by unfold Hid tabB;rw[HBL.out,HNN.out]
   obtain ⟨X,hX⟩:∃X,venc k++idxs 0 bl=X:=⟨_,rfl⟩
   have hXl:X.length≤110000:=by rw[←hX,List.length_append];omega
   rw[hX] at hownx htab
   obtain ⟨Bs,hBs⟩:∃Bs,outs bl=Bs:=⟨_,rfl⟩
   rw[hBs] at hownb hB25
   have HBS:Hid (outs (blk ls)=Bs):=by unfold Hid;rw[HBL.out,hBs]
   have hE:Hid (buildE ls=if 65535<X.length then 2 else 0):=by
    unfold Hid buildE
    rw[if_neg (by rw[HN.out];exact hbig),if_neg (by rw[HN.out,hoko];rintro (h|h);exact h0 h;exact absurd h (by simp)),htab.out]
   have hF:Hid (fileB ls=Bs++frameOf 2 X++place4 Bs.length):=by unfold Hid fileB;rw[HBS.out,htab.out]
   obtain ⟨lx,hlx⟩:∃lx,X.length=lx:=⟨_,rfl⟩
   obtain ⟨lb,hlb⟩:∃lb,Bs.length=lb:=⟨_,rfl⟩
   rw[hlb] at hB25 hF
   rw[hlx] at hE hXl
   obtain ⟨AX,cX,eX, -, -, -,hsX⟩:=hownx.open_
   obtain ⟨A4,c4,e4,hc4, -, -,hs4⟩:=hownb.open_
   rw[hlx] at eX
   rw[hlb] at e4 hc4
   subst eX
   subst e4
   have hMk:=Lib.hid (Make_any 2 AX lx cX X hlx wr hsX (hH2.below hbr (by have:=hH.1;omega)) (by omega))
   rw[hlx] at hMk
   have HLX:=Lib.hid hlx
   have HLB:=Lib.hid hlb
   have hbwr:Below w.heap.size w wr:=hb2.trans hbw
   clear htk hX hBs hlx hlb hX25 hvN hoko hok
   by_cases h6:65535<lx
   ·have hme:makeErr 2 lx=2:=by unfold makeErr;rw[if_neg (by omega),if_pos h6]
    rw[hme] at hMk
    have HE:Hid (buildE ls=2):=by unfold Hid;rw[hE.out,if_pos h6]
    go_wp2_with fail
    refine hMk.out.mono ?_
    rintro en wa ⟨va,rfl, -,hba⟩
    go_wp2_with fail
    go_ret2
    exact BuildIs.err HE.out (by omega) (hbwr.trans (hba.mono hbwr.size)) rfl
   ·have hme:makeErr 2 lx=0:=by unfold makeErr;rw[if_neg (by omega),if_neg h6]
    have hmb:makeB 2 X=frameOf 2 X:=by unfold makeB;rw[HLX.out,hme,if_pos rfl]
    have hfl:=frameOf_len 2 X
    have hvl:=venc_le4 (u:=lx) (by omega)
    rw[HLX.out] at hfl
    rw[hme,hmb] at hMk
    have HE:Hid (buildE ls=0):=by unfold Hid;rw[hE.out,if_neg h6]
    obtain ⟨FX,hFX⟩:∃FX,frameOf 2 X=FX:=⟨_,rfl⟩
    rw[hFX] at hMk hF hfl
    clear hme hmb hFX
    go_wp2_with fail
    refine hMk.out.mono ?_
    rintro en wa ⟨va,rfl,howna,hba⟩
    clear hMk
    have hsa:=hba.size
    obtain ⟨lf,hlf⟩:∃lf,FX.length=lf:=⟨_,rfl⟩
    obtain ⟨Aa,ca,ea,hca, -, -,hsFa⟩:=howna.open_
    rw[hlf] at ea hca hfl
    subst ea
    have HLF:=Lib.hid hlf
    have hfl2:lf≤200000:=by omega
    clear hlf hfl
    have hPl:=Lib.hid (place_any lb (by omega) wa)
    go_wp2_with fail
    refine hPl.out.mono ?_
    rintro en wb ⟨vb,rfl,hownp,hbb⟩
    clear hPl
    have hsb:=hbb.size
    obtain ⟨Ap,cp,ep,hcp, -, -,hsp⟩:=hownp.open_
    have hp4:(place4 lb).length=4:=by simp[place4,tail4]
    rw[hp4] at ep hcp
    subst ep
    have hbrb:Below wr.heap.size wr wb:=hba.trans (hbb.mono hsa)
    obtain ⟨PL,hPL⟩:∃PL,place4 lb=PL:=⟨_,rfl⟩
    rw[hPL] at hsp hF hp4
    have h3:=sees2_three wb A4 Aa Ap lb lf 4 c4 ca cp Bs FX PL HLB.out HLF.out hp4 hc4 hca hcp ((hs4.below hbrb).more hbrb.size) ((hsFa.below hbb).more hsb) hsp 48
    have hall3:∀i (hi:i < [Bs,FX,PL].length),([Bs,FX,PL][i]).length≤1000000:=by
     intro i hi
     match i,hi with
     | 0,_=>show Bs.length≤_;rw[HLB.out];omega
     | 1,_=>show FX.length≤_;rw[HLF.out];omega
     | 2,_=>show PL.length≤_;rw[hp4];omega
    have hCc:=Lib.hid (Concat_any (some ⟨wb.heap.size,0,none⟩) 3 3 [Bs,FX,PL] rfl _ h3 (by omega) hall3)
    rw[show [Bs,FX,PL].flatten=Bs++FX++PL from by simp, ←hF.out] at hCc
    have hb3a:Below wb.heap.size wb (wb.alloc (.cells #[.slice A4 lb c4,.slice Aa lf ca,.slice Ap 4 cp] 48)):=(Below.refl _ wb).alloc (Nat.le_refl _) _
    clear h3 hall3 hPL hp4
    go_wp2_with fail
    refine hCc.out.mono ?_
    rintro en wc ⟨vc,rfl,hownc,honc⟩
    go_wp2_with fail
    go_ret2
    have hbc:=honc.below_nil
    refine ⟨vc,by rw[HE.out];rfl,?_,?_⟩
    ·rw[if_pos HE.out]
     exact hownc.base_le (Nat.le_trans hbwr.size (Nat.le_trans hbrb.size hb3a.size))
    ·exact hbwr.trans ((hbrb.mono hbwr.size).trans ((hb3a.trans (hbc.mono hb3a.size)).mono (Nat.le_trans hbwr.size hbrb.size)))
end
end Go.Proofs.YtalmnodgjjcefaaGreatDoor
