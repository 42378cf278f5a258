/- The document's sets, by how many items they have: Add, Flush, Merge. -/
import Derived.Test.YtalmnodgjjcefaaGreatDoorZIpA
set_option maxRecDepth 100000
set_option maxHeartbeats 1600000
namespace Go.Proofs.YtalmnodgjjcefaaGreatDoor
section
open Go.RowKit Go.Maps
section
variable {q q' : Nat -> Prop} {w w' : World} {A : Option Addr} {xs : List Value} {P : Value -> Prop} {S S' : List Value -> Prop} {n m k b : Nat} {v : Value} {e : TypeId}
theorem uh{p:Addr}{u:Value}(h:w.cell? p=some u):p.block<w.1.size:=by unfold World.cell? at h;cases hh:w.heap[p.block]?with|none=>rw[hh]at h;cases h|some o=>exact(Array.getElem?_eq_some_iff.1 hh).1
theorem ag.lt(h:ag q w A xs):xs=[]\/∃ad,A=some ad/\q ad.block/\ad.block<w.1.size/\∀j u,xs[j]?=some u->w.cell? (ad.add j)=some u:=by rcases h.out with h|⟨ad,e,hb,hc⟩;exact .inl h;·cases xs with|nil=>exact .inl rfl|cons x r=>exact .inr ⟨ad,e,hb,by have:=uh (hc 0 x rfl);rwa [add_block]at this,hc⟩
theorem ag.all(h:ag q w A xs):ae w w.1.size A xs:=by rcases h.lt with h|⟨ad,e,-,hb,hc⟩;exact⟨.inl h⟩;exact⟨.inr ⟨ad,e,hb,hc⟩⟩
def Stp(q q':Nat->Prop)(w w':World):Prop:=∀k,q k->k<w.1.size->q' k/\w'.heap[k]?=w.heap[k]?
theorem Stp.az(hb:Below w.1.size w w'):Stp q q w w':=λk h hl=>⟨h,hb.block k hl⟩
theorem ag.step(h:ag q w A xs)(hs:Stp q q' w w'):ag q' w' A xs:=by rcases h.lt with h|⟨ad,e,hq,hl,hc⟩;exact⟨.inl h⟩;exact⟨.inr ⟨ad,e,(hs _ hq hl).1,λj u hu=>(World.cell?_of_block (by rw[add_block];exact(hs _ hq hl).2)).trans (hc j u hu)⟩⟩
def al(P:Value->Prop)(xs:List Value):Prop:=∀x∈xs,P x
def wt:Value->Nat
 | .slice _ n _=>n
 |_=>0
def sm(P:Value->Prop)(T:Nat)(xs:List Value):Prop:=al P xs/\(xs.map wt).sum<=T
def Cs(q:Nat->Prop)(S:List Value->Prop)(w:World)(A:Option Addr)(n:Nat):Prop:=∃xs:List Value,xs.length=n/\ag q w A xs/\S xs
theorem Cs.nil(h:S []):Cs q S w A 0:=⟨[],rfl,⟨.inl rfl⟩,h⟩
theorem al.nil:al P []:=by simp[al]
theorem sm.nil:sm P 0 []:=⟨al.nil,zs⟩
theorem al.app(xs ys:List Value)(h:al P xs)(g:al P ys):al P (xs++ys):=λx hx=>(List.mem_append.1 hx).elim (h x) (g x)
theorem sm.app{T U:Nat}(xs ys:List Value)(h:sm P T xs)(g:sm P U ys):sm P (T+U) (xs++ys):=⟨al.app _ _ h.1 g.1,by rw[List.map_append,List.sum_append];exact Nat.add_le_add h.2 g.2⟩
theorem Cs.step(h:Cs q S w A n)(hs:Stp q q' w w'):Cs q' S w' A n:=by obtain⟨xs,h1,h2,h3⟩:=h;exact⟨xs,h1,h2.step hs,h3⟩
theorem Cs.az(h:Cs q S w A n)(hb:Below w.1.size w w'):Cs q S w' A n:=h.step (.az hb)
theorem Cs.imp(h:Cs q S w A n)(hp:∀xs,S xs->S' xs):Cs q S' w A n:=by obtain⟨xs,h1,h2,h3⟩:=h;exact⟨xs,h1,h2,hp _ h3⟩
theorem ag.at_(h:ag q w A xs)(hk:k<xs.length):∃ad,A=some ad/\ad.block<w.1.size/\w.cell? (ad.add k)=some xs[k]:=by rcases h.lt with e|⟨ad,e,-,hb,hc⟩;rw[e]at hk;simp at hk;exact⟨ad,e,hb,hc k _ (List.getElem?_eq_getElem hk)⟩
theorem Cs.at_(h:Cs q (al P) w A n)(hk:k<n):∃ad x,A=some ad/\ad.block<w.1.size/\w.cell? (ad.add k)=some x/\P x:=by obtain⟨xs,h1,h2,h3⟩:=h;subst h1;obtain⟨ad,e,hb,hc⟩:=h2.at_ hk;exact⟨ad,_,e,hb,hc,h3 _ (List.getElem_mem _)⟩
theorem ag.take(h:ag q w A xs)(k:Nat):ag q w A (xs.take k):=by rcases h.out with e|⟨ad,e,hb,hc⟩;exact⟨.inl (by rw[e,List.take_nil])⟩;exact⟨.inr ⟨ad,e,hb,λj u hu=>hc j u (by rw[List.getElem?_take]at hu;split at hu;exact hu;cases hu)⟩⟩
theorem ag.drop(h:ag q w A xs)(k:Nat):ag q w (A.map (·.add k)) (xs.drop k):=by rcases h.out with e|⟨ad,e,hb,hc⟩;exact⟨.inl (by rw[e,List.drop_nil])⟩;subst e;refine⟨.inr ⟨ad.add k,rfl,zY,λj u hu=>?_⟩⟩;rw[add_add'];exact hc _ u (by rw[List.getElem?_drop]at hu;exact hu)
theorem al.take(h:al P xs)(k:Nat):al P (xs.take k):=λx hx=>h x (List.mem_of_mem_take hx)
theorem al.drop(h:al P xs)(k:Nat):al P (xs.drop k):=λx hx=>h x (List.mem_of_mem_drop hx)
theorem Cs.take(h:Cs q (al P) w A n)(hk:k<=n):Cs q (al P) w A k:=by obtain⟨xs,h1,h2,h3⟩:=h;exact⟨xs.take k,J6,h2.take k,h3.take k⟩
theorem Cs.drop(h:Cs q (al P) w A n)(k:Nat):Cs q (al P) w (A.map (·.add k)) (n-k):=by obtain⟨xs,h1,h2,h3⟩:=h;exact⟨xs.drop k,by rw[List.length_drop,h1],h2.drop k,h3.drop k⟩
theorem Cs.three{T i j:Nat}(h:Cs q (sm P T) w A n)(hi:i+j<=n):∃T1 T2 T3,T1+T2+T3<=T/\Cs q (sm P T1) w A i/\Cs q (sm P T2) w (A.map (·.add i)) j/\Cs q (sm P T3) w (A.map (·.add (i+j))) (n-(i+j)):=by obtain⟨xs,h1,h2,h3,h4⟩:=h;refine⟨_,_,_,?_,⟨xs.take i,J6,h2.take i,h3.take i,Nat.le_refl _⟩,⟨(xs.drop i).take j,D4,(h2.drop i).take j,(h3.drop i).take j,Nat.le_refl _⟩,⟨xs.drop (i+j),by rw[List.length_drop,h1],h2.drop _,h3.drop _,Nat.le_refl _⟩⟩;(have e:xs=xs.take i++((xs.drop i).take j++xs.drop (i+j)):=by rw[<-List.drop_drop,List.take_append_drop,List.take_append_drop]);(conv at h4=>lhs;rw[e,List.map_append,List.map_append,List.sum_append,List.sum_append]);omega
theorem Cs.lit(w:World)(us:List Value)(hu:S us)(e:TypeId)(bb:Nat)(hb:w.1.size=bb)(hq:q bb):Cs q S (w.alloc (.cells us.toArray e)) (some ⟨bb,0,none⟩) us.length:=by subst hb;refine⟨us,rfl,⟨.inr ⟨_,rfl,hq,λj x hx=>?_⟩⟩,hu⟩;rw[Addr.add_lit,World.cell?_alloc_at _ _ _ _ rfl];simpa using hx
theorem al.one{u:Value}(h:P u):al P [u]:=by simpa[al]using h
theorem sm.one{u:Value}(h:P u):sm P (wt u) [u]:=⟨al.one h,zs⟩
def Co(b:Nat)(e:TypeId)(S:List Value->Prop)(w:World)(v:Value)(n:Nat):Prop:=∃xs,w.ownsRow b e 1 v n xs/\S xs
theorem Co.nil(h:S []):Co b e S w (.slice none 0 0) 0:=⟨[],World.ownsRow_nil _ _ _ _,h⟩
theorem Co.az(h:Co b e S w v n)(hb:Below w.1.size w w'):Co b e S w' v n:=by obtain⟨xs,h1,h2⟩:=h;exact⟨xs,own_below h1 hb,h2⟩
theorem Co.lit(w:World)(us:List Value)(hu:S us)(e:TypeId)(hb:b<=w.1.size)(hm:us.length<=1000):Co b e S (w.alloc (.cells us.toArray e)) (.slice (some ⟨w.1.size,0,none⟩) us.length us.length) us.length:=
 ⟨us,qc w b hb e 1 _ us (by rw[Nat.mul_one]) fB _ rfl,hu⟩
theorem Co.open_(h:Co b e S w v n)(hq:∀k,b<=k->q k):∃A c,v=.slice A n c/\n<=c/\Cs q S w A n:=by obtain⟨xs,h1,h2⟩:=h;rcases h1.2 with⟨rfl,rfl⟩|⟨g,cap,cur,rfl,hg,hh,hc,-⟩;have:xs=[]:=List.eq_nil_of_length_eq_zero (by simpa using h1.1);exact⟨none,0,rfl,Nat.le_refl _,.nil (this▸h2)⟩;exact⟨_,cap,rfl,hc,xs,by rw[h1.1,Nat.mul_one],⟨.inr ⟨_,rfl,hq _ hg,h1.cells (g:=g) rfl⟩⟩,h2⟩
structure Gs(t e:TypeId):Prop where
 u:Tryz.prog.underlying t=some (.slice e)
 i:∃i z,Tryz.prog.info? e=some i/\i.zero=some z/\i.size=1/\i.bytes<=24/\z.cells.size=1
theorem Gs.of{t e:TypeId}{z:Value}{y:Nat}(hu:Tryz.prog.underlying t=some (.slice e))(h:(Tryz.prog.info? e).map (λi=>(i.zero,i.size,i.bytes))=some (some z,1,y))(hy:y<=24)(hz:z.cells.size=1):Gs t e:=by obtain⟨i,h0,h1,h2,h3⟩:=info_parts h;exact⟨hu,i,z,h0,h1,h2,zo,hz⟩
theorem MH:Gs 23 3:=.of (z:=.int .i64 0) (y:=8) zk zk (by decide) rfl
theorem mr:Gs 48 5:=.of (z:=.int .u8 0) (y:=1) zk zk (by decide) rfl
theorem MD:Gs 47 48:=.of (z:=.slice none 0 0) (y:=24) zk zk (by decide) rfl
theorem JV:Gs 72 47:=.of (z:=.slice none 0 0) (y:=24) zk zk (by decide) rfl
theorem bQ{t:TypeId}{Ip:List Value->Prop}(ht:Gs t e)(aa:∀xs,S' xs->∀x∈xs,x.oneCell'=true)(ad:∀xs ys,S xs->S' ys->Ip (xs++ys)){ops:Array Oper}{rest:List Oper}{o:Oper}{a:Act}{Q:Exit->Act->World->Prop}(aj:o.guard=none)(s x:Operand)(ho:o.op=.call {callee:=.builtin .append,args:=#[s,x],argTypes:=#[t,t]})(hs:Co b e S w (a.eval s) n)(hx:∃A c,a.eval x=.slice A m c/\Cs q S' w A m)(hl:n+m<=1000000000)(hb:b<=w.1.size)(h:∀v' w',Co b e Ip w' v' (n+m)->Below b w w'->Onto w w' (a.eval s) v'->wpList Tryz.prog ops Q rest (a.put o.dst v') w'):wpList Tryz.prog ops Q (o::rest) a w:=by obtain⟨xs,h1,h2⟩:=hs;obtain⟨A,c,cj,ys,g1,g2,g3⟩:=hx;obtain⟨hu,i,z,i1,i2,i3,i4,i5⟩:=ht;refine bE aj s x t ho e i z 1 i.bytes hu i1 i2 i3 rfl i5 zo b _ n xs rfl h1 _ A m c ys cj (by rw[g1,Nat.mul_one]) g2.all (aa _ g3) fB ?_ hb λv' w' k1 k2=>h v' w' ⟨_,k1,ad _ _ h2 g3⟩ (k2.below hb λk hk=>(World.ownsRow.lt h1 k hk).1) k2;exact Nat.le_trans (Nat.mul_le_mul hl i4) (by decide)
theorem bH{t:TypeId}{Ip:List Value->Prop}(ht:Gs t e)(aa:∀xs,S' xs->∀x∈xs,x.oneCell'=true)(ad:∀xs ys,S xs->S' ys->Ip (xs++ys)){ops:Array Oper}{rest:List Oper}{o:Oper}{a:Act}{Q:Exit->Act->World->Prop}(aj:o.guard=none)(s x:Operand)
  (ho:o.op=.call {callee:=.builtin .append,args:=#[s,x],argTypes:=#[t,t]})
  (hs:Co b e S w (a.eval s) n) (hx:∃A c,a.eval x=.slice A m c/\Cs q S' w A m) (hl:n+m<=1000000000) (hb:b<=w.1.size)
  (h:∀v' w',Co b e Ip w' v' (n+m)->Below b w w'->wpList Tryz.prog ops Q rest (a.put o.dst v') w'):wpList Tryz.prog ops Q (o::rest) a w:=
 bQ ht aa ad aj s x ho hs hx hl hb λv' w' h1 h2 _=>h v' w' h1 h2
theorem dh{t:TypeId}{Ip:List Value->Prop}{w0:World}{us:List Value}{c:Nat}(ht:Gs t e)(aa:∀xs,S' xs->∀x∈xs,x.oneCell'=true)(ad:∀xs ys,S xs->S' ys->Ip (xs++ys)){ops:Array Oper}{rest:List Oper}{o:Oper}{a:Act}{Q:Exit->Act->World->Prop}(aj:o.guard=none)(s x:Operand)(ho:o.op=.call {callee:=.builtin .append,args:=#[s,x],argTypes:=#[t,t]})(hw:w=w0.alloc (.cells us.toArray e))(hs:Co b e S w0 (a.eval s) n)(hx:a.eval x=.slice (some ⟨w0.1.size,0,none⟩) m c)(hm:us.length=m)(hu:S' us)(hl:n+m<=1000000000)(hb:b<=w0.1.size)(h:∀v' w',Co b e Ip w' v' (n+m)->Below b w0 w'->wpList Tryz.prog ops Q rest (a.put o.dst v') w'):wpList Tryz.prog ops Q (o::rest) a w:=by subst hw;subst hm;have hz:=(Below.refl b w0).alloc hb (.cells us.toArray e);exact bH (q:=λ_=>True) ht aa ad aj s x ho (hs.az ((Below.refl _ w0).alloc (Nat.le_refl _) _)) ⟨_,_,hx,Cs.lit w0 us hu _ _ rfl trivial⟩ hl (zu hz.size) λv' w' h1 h2=>h v' w' h1 (hz.trans h2)
theorem oq{t:TypeId}(ht:Gs t e)(aa:∀xs,S xs->∀x∈xs,x.oneCell'=true){ops:Array Oper}{rest:List Oper}{o:Oper}{a:Act}{Q:Exit->Act->World->Prop}(aj:o.guard=none)(s x:Operand)
  (ho:o.op=.call {callee:=.builtin .append,args:=#[s,x],argTypes:=#[t,t]})
  (hs:a.eval s=.slice none 0 0) (hx:∃A c,a.eval x=.slice A m c/\Cs q S w A m) (hl:m<=1000000000)
  (h:∀v' w',Co w.1.size e S w' v' m->Below w.1.size w w'->wpList Tryz.prog ops Q rest (a.put o.dst v') w'):wpList Tryz.prog ops Q (o::rest) a w:=
 bH ht aa (S:=λxs=>xs=[]) (Ip:=S) (λxs ys e h=>by rw[e];exact h) aj s x ho (n:=0) (b:=w.1.size) (by rw[hs];exact .nil rfl) hx zo (Nat.le_refl _) λv' w' h1 h2=>h v' w' (by rw[Nat.zero_add]at h1;exact h1) h2
def Dt(x:Value):Prop:=∃i:Int,x=.int .i64 i
theorem Dt.one(xs:List Value)(h:al Dt xs):∀x∈xs,x.oneCell'=true:=λx hx=>by obtain⟨i,rfl⟩:=h x hx;rfl
end
end
section
open Go.RowKit Go.Maps
def Dq(q:Nat->Prop)(S:List Value->Prop)(w:World)(n:Nat)(e:Ending)(w':World):Prop:=∃A m c,e=.returned (.slice A m c)/\m<=n/\m<=c/\Cs q S w' A m/\Below w.1.size w w'
theorem Dq.own{q:Nat->Prop}{S:List Value->Prop}{w w':World}{v:Value}{e:TypeId}{m n:Nat}(h:Co w.1.size e S w' v m)(hq:∀k,w.1.size<=k->q k)(hb:Below w.1.size w w')(hn:m<=n):Dq q S w n (.returned v) w':=by obtain⟨A,c,rfl,h1,h2⟩:=h.open_ hq;exact⟨A,m,c,rfl,hn,h1,h2,hb⟩
theorem M8{q:Nat->Prop}(A:Option Addr)(n c:Nat)(x:Int)(bu:n<=c)(w:World)(hq:∀k,w.1.size<=k->q k)(h:Cs q (al Dt) w A n)(hl:n<=1000000):
  Calls Tryz.prog 79 #[.slice A n c,.int .i64 x] w (Dq q (al Dt) w (n+1)):=by
 have HQ:=Lib.hid hq
 have HC:=Lib.hid h
 clear hq h
 go_enter Tryz.func79,Tryz.ntmps79
 go_wp2
 go_loopg [5] n (λg i wr=>∃k:Nat,k+g=n/\i=.int .i64 k/\wr=w)
 case atStart=>exact⟨0,zo,rfl,rfl⟩
 case round=>
  obtain⟨k,hk,rfl,rfl⟩:=hrel
  have hcut:k<=n:=by omega
  have a7:(k:Int)<=(c:Int):=by omega
  have cA:(k:Int)<=(n:Int):=by omega
  have h1:=Lib.hid (HC.out.take hcut)
  have h2:=Lib.hid (HC.out.drop k)
  have aa:(∃ad y,A=some ad/\k<n/\y<x/\wr.cell? (ad.add k)=some (.int .i64 y))\/(∃ad y,A=some ad/\k<n/\(y==x)=true/\¬y<x/\wr.cell? (ad.add k)=some (.int .i64 y))\/(∃ad y,A=some ad/\k<n/\(y==x)=false/\¬y<x/\¬c=k/\wr.cell? (ad.add k)=some (.int .i64 y))\/(∃ad,A=some ad/\n<=k/\c=k)\/(∃ad,A=some ad/\n<=k/\¬c=k)\/(A=none/\n<=k/\c=k)\/(A=none/\n<=k/\¬c=k):=by
   by_cases a6:k<n
   ·obtain⟨ad,v,e,-,hv,y,rfl⟩:=HC.out.at_ a6
    by_cases ah:y<x
    ·exact .inl ⟨ad,y,e,a6,ah,hv⟩
    ·cases hb:y==x with
     |true=>exact .inr (.inl ⟨ad,y,e,a6,hb,ah,hv⟩)
     |false=>exact .inr (.inr (.inl ⟨ad,y,e,a6,hb,ah,zo,hv⟩))
   ·cases A with
    |none=>by_cases e:c=k<;>simp[e,Nat.not_lt.1 a6]
    |some ad=>by_cases e:c=k<;>simp[e,Nat.not_lt.1 a6]
  rcases aa with⟨ad,y,rfl,a6,ah,ai⟩|⟨ad,y,rfl,a6,aj,ah,ai⟩|⟨ad,y,rfl,a6,aj,ah,b5,ai⟩|⟨ad,rfl,an,b5⟩|⟨ad,rfl,an,b5⟩|⟨rfl,an,b5⟩|⟨rfl,an,b5⟩
  ·go_wp2
   go_roundg (n-(k+1))
   case measure=>omega
   case rel=>exact⟨k+1,zo,by go_num,rfl⟩
  ·go_wp2
   go_ret
   exact⟨some ad,n,c,rfl,zo,bu,HC.out,Below.refl _ _⟩
  all_goals
   go_wp2_with (first
    |(at_builtin;refine bH MH Dt.one al.app rfl (.tmp 34) (.tmp 37) rfl (n:=0) (m:=k) (b:=wr.1.size) (.nil al.nil) ⟨_,_,rfl,h1.out⟩ zo (Nat.le_refl _) ?_;intro v1 w1 o1 b1;have z1:=b1.size;have bc:=o1.az ((Below.refl _ w1).alloc (Nat.le_refl _) (.cells #[.int .i64 x] 3));have g1:=Cs.lit (q:=λ_=>True) (S:=al Dt) w1 [.int .i64 x] (al.one ⟨x,rfl⟩) 3 _ rfl trivial)
    |(at_builtin;refine bH MH Dt.one al.app rfl (.tmp 39) (.tmp 41) rfl bc ⟨_,_,rfl,g1⟩ zo zt ?_;intro v2 w2 o2 b2;have aG:=b1.trans (((Below.refl _ w1).alloc z1 (.cells #[.int .i64 x] 3)).trans b2);have z2:=aG.size)
    |(at_builtin;refine bH MH Dt.one al.app rfl (.tmp 43) (.tmp 46) rfl (m:=n-k) o2 ⟨_,_,rfl,h2.out.az aG⟩ zo z2 ?_;intro v3 w3 o3 b3)
    |(at_builtin;refine bH MH Dt.one al.app rfl (.tmp 43) (.tmp 46) rfl (m:=0) o2 ⟨_,_,rfl,.nil (q:=λ_=>True) al.nil⟩ zo z2 ?_;intro v3 w3 o3 b3))
   go_ret
   exact .own o3 HQ.out (aG.trans b3) zo
def fO(q:Nat->Prop)(B:Nat)(w:World)(v:Value):Prop:=∃(y:Item)(A:Option Addr)(c:Nat),v=.slice A y.length c/\y.length<=c/\y.length<=B/\ag q w A (bv y)
theorem fO.one{q:Nat->Prop}{B:Nat}{w:World}(xs:List Value)(h:al (fO q B w) xs):∀x∈xs,x.oneCell'=true:=λx hx=>by obtain⟨y,A,c,rfl,-⟩:=h x hx;rfl
theorem fO.step{q q':Nat->Prop}{B:Nat}{w w':World}{x:Value}(h:fO q B w x)(hs:Stp q q' w w'):fO q' B w' x:=by obtain⟨y,A,c,h1,h2,h3,h4⟩:=h;exact⟨y,A,c,h1,h2,h3,h4.step hs⟩
theorem fO.az{q:Nat->Prop}{B:Nat}{w w':World}{x:Value}(h:fO q B w x)(hb:Below w.1.size w w'):fO q B w' x:=h.step (.az hb)
theorem Cs.drewN{q:Nat->Prop}{S:List Value->Prop}{w:World}{A:Option Addr}{n:Nat}(h:Cs q S w A n)(k:Nat):Cs q S (w.drewN k) A n:=h.az (ax (Below.refl _ _) k)
theorem MN{q q2:Nat->Prop}{B:Nat}{w0:World}(A:Option Addr)(n c:Nat)(x:Value)(bu:n<=c)(w:World)(h0:Below w0.1.size w0 w)(hq:∀k,w.1.size<=k->q k)(h:Cs q (al (fO q2 B w0)) w A n)(hx:fO q2 B w0 x)(hl:n<=1000000):
  Calls Tryz.prog 167 #[.slice A n c,x] w (Dq q (al (fO q2 B w0)) w (n+1)):=by
 have HQ:=Lib.hid hq
 have HC:=Lib.hid h
 have HX:=Lib.hid hx
 have HI:=Lib.hid (λv(hv:fO q2 B w0 v)=>hv.az h0)
 obtain⟨xk,xA,xc,rfl,-,-,gn⟩:=HI.out x hx
 have b9:=λp=>cK (w.drewN p) _ xA xk.length xc xk (gn.all.drewN p) rfl
 clear hq h hx gn h0
 go_enter Tryz.func167,Tryz.ntmps167
 go_wp2
 go_loopg [5] n (λg i wr=>∃k:Nat,k+g=n/\i=.int .i64 k/\∃p,wr=w.drewN p)
 case atStart=>exact⟨0,zo,rfl,0,rfl⟩
 case round=>
  obtain⟨k,hk,rfl,p,rfl⟩:=hrel
  have hcut:k<=n:=by omega
  have a7:(k:Int)<=(c:Int):=by omega
  have cA:(k:Int)<=(n:Int):=by omega
  have h1:=Lib.hid (HC.out.take hcut)
  have h2:=Lib.hid (HC.out.drop k)
  have aa:(∃ad yA yc,∃yk:Item,A=some ad/\k<n/\w.cell? (ad.add k)=some (.slice yA yk.length yc)/\ae w w.1.size yA (bv yk)/\(Op.bytesLess (strOf yk).toList (strOf xk).toList=true\/Op.bytesLess (strOf yk).toList (strOf xk).toList=false/\((strOf yk).toList==(strOf xk).toList)=true\/Op.bytesLess (strOf yk).toList (strOf xk).toList=false/\((strOf yk).toList==(strOf xk).toList)=false/\¬c=k))\/(∃ad,A=some ad/\k=n/\c=k)\/(∃ad,A=some ad/\k=n/\¬c=k)\/(A=none/\k=n/\c=k)\/(A=none/\k=n/\¬c=k):=by
   by_cases a6:k<n
   ·obtain⟨ad,v,e,-,hv,hy⟩:=HC.out.at_ a6
    obtain⟨yk,yA,yc,rfl,-,-,hs⟩:=HI.out v hy
    refine .inl ⟨ad,yA,yc,yk,e,a6,hv,hs.all,?_⟩
    cases Op.bytesLess (strOf yk).toList (strOf xk).toList with
    |true=>exact .inl rfl
    |false=>
     cases(strOf yk).toList==(strOf xk).toList with
     |true=>exact .inr (.inl ⟨rfl,rfl⟩)
     |false=>exact .inr (.inr ⟨rfl,rfl,zo⟩)
   ·have cA:k=n:=by omega
    subst cA
    cases A<;>by_cases e:c=k<;>simp[e]
  rcases aa with⟨ad,yA,yc,yk,rfl,a6,ai,hs,ah|⟨ah,b4⟩|⟨ah,b4,b5⟩⟩|⟨ad,rfl,rfl,b5⟩|⟨ad,rfl,rfl,b5⟩|⟨rfl,rfl,b5⟩|⟨rfl,rfl,b5⟩
  ·have an:=λp=>cK (w.drewN p) _ yA yk.length yc yk (hs.drewN p) rfl
   clear hs
   go_wp2
   go_quiet (fail)
   go_wp2
   go_roundg (n-(k+1))
   case measure=>omega
   case rel=>exact⟨k+1,zo,by go_num,_,rfl⟩
  ·have an:=λp=>cK (w.drewN p) _ yA yk.length yc yk (hs.drewN p) rfl
   clear hs
   go_wp2
   go_quiet (fail)
   go_wp2
   go_quiet (fail)
   go_wp2
   go_ret
   exact⟨some ad,n,c,rfl,zo,bu,((HC.out.drewN _).drewN _).drewN _,ax (ax (ax (Below.refl _ _) _) _) _⟩
  all_goals
   try(have an:=λp=>cK (w.drewN p) _ yA yk.length yc yk (hs.drewN p) rfl;clear hs)
   go_wp2
   go_quiet (fail)
   go_wp2
   go_quiet (fail)
   go_wp2_with (first
    |(at_builtin;refine bH MD fO.one al.app rfl (.tmp 38) (.tmp 41) rfl (n:=0) (m:=k) (b:=w.1.size) (.nil al.nil) ⟨_,_,rfl,h1.out.drewN _⟩ zo (Nat.le_refl _) ?_;intro v1 w1 o1 b1;have aj:=(ax (Below.refl _ w) _).trans b1;have z1:=aj.size;have bc:=o1.az ((Below.refl _ w1).alloc (Nat.le_refl _) (.cells #[.slice xA xk.length xc] 48));have g1:=Cs.lit (q:=λ_=>True) w1 [.slice xA xk.length xc] (al.one HX.out) 48 _ rfl trivial)
    |(at_builtin;refine bH MD fO.one al.app rfl (.tmp 43) (.tmp 45) rfl bc ⟨_,_,rfl,g1⟩ zo zt ?_;intro v2 w2 o2 b2;have aG:=aj.trans (((Below.refl _ w1).alloc z1 (.cells #[.slice xA xk.length xc] 48)).trans b2);have z2:=aG.size)
    |(at_builtin;refine bH MD fO.one al.app rfl (.tmp 47) (.tmp 50) rfl (m:=n-k) o2 ⟨_,_,rfl,h2.out.az aG⟩ zo z2 ?_;intro v3 w3 o3 b3)
    |(at_builtin;refine bH MD fO.one al.app rfl (.tmp 47) (.tmp 50) rfl (m:=0) o2 ⟨_,_,rfl,.nil (q:=λ_=>True) al.nil⟩ zo z2 ?_;intro v3 w3 o3 b3))
   go_ret
   exact .own o3 HQ.out (aG.trans b3) zo
def pU(q:Nat->Prop)(B:Nat)(w:World)(v:Value):Prop:=∃(A:Option Addr)(n c:Nat),v=.slice A n c/\n<=c/\Cs q (al (fO q B w)) w A n
theorem pU.one{q:Nat->Prop}{B T:Nat}{w:World}(xs:List Value)(h:sm (pU q B w) T xs):∀x∈xs,x.oneCell'=true:=λx hx=>by obtain⟨A,n,c,rfl,-⟩:=h.1 x hx;rfl
theorem JW{xs:List Value}{k:Nat}(h:k<xs.length):((xs.take (k+1)).map wt).sum=((xs.take k).map wt).sum+wt xs[k]:=by rw[List.take_succ_eq_append_getElem h,List.map_append,List.sum_append];simp
theorem Ez(xs:List Value)(k:Nat):((xs.take k).map wt).sum<=(xs.map wt).sum:=by(conv=>rhs;rw[<-List.take_append_drop k xs,List.map_append,List.sum_append]);omega
theorem mG{p:Prop}(h:p:=by rw[add_block];exact bL):p:=h
theorem vr{q q2:Nat->Prop}{B T:Nat}(A:Option Addr)(n c:Nat)(w:World)(hq:∀k,w.1.size<=k->q k)(hh:Cs q2 (sm (pU q B w) T) w A n)(hl:n<=1000000)(hT:T<=1000000):Calls Tryz.prog 122 #[.slice A n c] w (Dq q (al (fO q B w)) w T):=by obtain⟨xs,hn,hX,hP,hs⟩:=hh;have HQ:=Lib.hid hq;have HN:=Lib.hid hn;have HS:=Lib.hid hs;have HT:=Lib.hid hT;have HX:=Lib.hid hX;have HP:=Lib.hid hP;clear hq hn hs hT hX hP;go_enter Tryz.func122,Tryz.ntmps122;go_wp2;go_loopg [3,4] n (λg o i wr=>∃(k:Nat)(Ao:Option Addr)(lo co:Nat),k+g=n/\i=.int .i64 k/\o=.slice Ao lo co/\Hid (lo<=((xs.take k).map wt).sum)/\lo<=co/\Cs q (al (fO q B w)) wr Ao lo/\Below w.1.size w wr);(case atStart=>exact⟨0,none,0,0,zo,rfl,rfl,Nat.zero_le _,Nat.le_refl _,.nil al.nil,Below.refl _ _⟩);case round=>obtain⟨k,Ao,lo,co,hk,rfl,rfl,ba,aj,bc,hb⟩:=hrel;by_cases a6:k<n;(·have bb:k<xs.length:=zu HN.out;obtain⟨ad,rfl,bL,a7⟩:=HX.out.at_ bb;have hg:=JW bb;have b4:=Nat.le_trans (Ez xs (k+1)) HS.out;obtain⟨Ak,lk,ck,he,b5,bm⟩:=HP.out _ (List.getElem_mem bb);rw[he]at a7 hg;simp only[wt]at hg;have bf:lk<=1000000000:=zu HT.out;have cz:=Lib.hid hg;have hU:=Lib.hid b4;have HR:=Lib.hid bm;clear hg b4 bm he;obtain⟨wo,rfl⟩:∃wo:World,wo=wr:=⟨_,rfl⟩;go_wp2;go_loopg [3,5] lk (λg o i wr=>∃(j:Nat)(Ao:Option Addr)(lo co:Nat),j+g=lk/\i=.int .i64 j/\o=.slice Ao lo co/\Hid (lo<=((xs.take k).map wt).sum+j)/\lo<=co/\Cs q (al (fO q B w)) wr Ao lo/\Below w.1.size w wr);(case atStart=>exact⟨0,Ao,lo,co,zo,rfl,rfl,ba.out,aj,bc,hb⟩);case round=>obtain⟨j,Ap,lp,cp,hj,rfl,rfl,ev,an,ah,cj⟩:=hrel;clear ba aj bc hb;have ai:wr.cell? (ad.add k)=some (.slice Ak lk ck):=(cj.cell mG).trans a7;have bd:=cj.size;by_cases b8:j<lk;(·obtain⟨bk,x,rfl,-,hx,be⟩:=(HR.out.az cj).at_ b8;have aa:=Lib.hid (MN Ap lp cp x an wr cj (λj e=>HQ.out j zo) ah be (by have:=ev.out;have:=cz.out;have:=hU.out;have:=HT.out;omega));clear ah be;go_wp2_with fail;refine aa.out.mono ?_;rintro e w2 ⟨A2,l2,c2,rfl,bp,bh,bW,aG⟩;have a8:=cj.trans (aG.mono bd);clear aa aG;go_wp2_with fail;go_roundg (lk-(j+1));(case measure=>omega);case rel=>exact⟨j+1,A2,l2,c2,zo,by go_num,rfl,by unfold Hid;have:=ev.out;omega,bh,bW,a8⟩);·go_wp2_with fail;go_roundg (n-(k+1));(case measure=>omega);case rel=>exact⟨k+1,Ap,lp,cp,zo,by go_num,rfl,by unfold Hid;have:=ev.out;have:=cz.out;omega,an,ah,cj⟩);·have hle:=Nat.le_trans (Nat.le_trans ba.out (Ez xs k)) HS.out;clear ba;go_wp2;go_ret;exact⟨Ao,lo,co,rfl,hle,aj,bc,hb⟩
end
section
open Go.RowKit Go.Maps
def dB(x:Value):Prop:=∃b:UInt8,x=.int .u8 (b.toNat:Int)
theorem dB.wrap(z:Int):dB (.int .u8 (IntKind.u8.wrap z)):=⟨UInt8.ofNat (z%256).toNat,by rw[IntKind.wrap_u8];simp;omega⟩
theorem dB.of{z:Int}(h0:0<=z)(h1:z<256):dB (.int .u8 z):=⟨UInt8.ofNat z.toNat,by simp;omega⟩
theorem dB.one(xs:List Value)(h:al dB xs):∀x∈xs,x.oneCell'=true:=λx hx=>by obtain⟨i,rfl⟩:=h x hx;rfl
theorem Mb(l:List UInt8):al dB (bv l):=λx hx=>by obtain⟨b,-,rfl⟩:=List.mem_map.1 hx;exact⟨b,rfl⟩
theorem IH:∀{xs:List Value},al dB xs->∃l:List UInt8,xs=bv l/\l.length=xs.length
 |[],_=>⟨[],rfl,rfl⟩
 |x::xs,h=>by obtain⟨b,rfl⟩:=h x zs;obtain⟨l,rfl,hl⟩:=IH (xs:=xs) λy hy=>h y (by simp[hy]);exact⟨b::l,rfl,by simp[hl]⟩
section
variable {q : Nat -> Prop} {w w' : World} {A : Option Addr} {n : Nat}
theorem Cs.bytes(h:Cs q (al dB) w A n):∃l:List UInt8,l.length=n/\ag q w A (bv l):=by obtain⟨xs,h1,h2,h3⟩:=h;obtain⟨l,rfl,hl⟩:=IH h3;exact⟨l,by rw[hl,h1],h2⟩
theorem ag.ys{l:List UInt8}(h:ag q w A (bv l)):Cs q (al dB) w A l.length:=⟨_,by simp[bv],h,Mb l⟩
end
theorem I8{p:Prop}(h:p:=by go_roundg (n-(k+1));(case measure=>omega);case rel=>exact⟨k+1,_,zo,by go_num,rfl,rfl⟩):p:=h
theorem Na{q:Nat->Prop}(A:Option Addr)(n c:Nat)(w:World)(h:Cs q (al dB) w A n)(hl:n<=1000000000):Calls Tryz.prog 252 #[.slice A n c] w λe w'=>(∃u,e=.returned (.int .u32 u))/\w'=w:=by have HC:=Lib.hid h;clear h;go_enter Tryz.func252,Tryz.ntmps252;go_wp2;go_loopg [3,4] n (λg r i wr=>∃(k:Nat)(u:Int),k+g=n/\i=.int .i64 k/\r=.int .u32 u/\wr=w);(case atStart=>exact⟨0,_,zo,rfl,rfl,rfl⟩);case round=>obtain⟨k,u,hk,rfl,rfl,rfl⟩:=hrel;by_cases a6:k<n;(·obtain⟨ad,x,rfl,-,ai,b,rfl⟩:=HC.out.at_ a6;go_wp2;go_loopg [3,5] 8 (λg r i w2=>∃(j:Nat)(u:Int),j+g=8/\i=.int .i64 j/\r=.int .u32 u/\w2=wr);(case atStart=>exact⟨0,_,zo,rfl,rfl,rfl⟩);case round=>obtain⟨j,u,hj,rfl,rfl,rfl⟩:=hrel;by_cases cF:j<8;(·go_wp2;all_goals(go_roundg (8-(j+1));(case measure=>omega);case rel=>exact⟨j+1,_,zo,by go_num,rfl,rfl⟩));·go_wp2;exact I8);·go_wp2;go_ret;exact⟨⟨_,rfl⟩,rfl⟩
theorem GM{p:Prop}(h:p:=by go_wp2;go_ret;exact⟨rfl,Cs.lit _ [_,_,_,_] (by intro x hx;simp only[List.mem_cons,List.not_mem_nil,or_false]at hx;rcases hx with rfl|rfl|rfl|rfl<;>exact dB.wrap _) _ _ rfl rfl,(Below.refl _ _).alloc (Nat.le_refl _) _⟩):p:=h
theorem Ms{q:Nat->Prop}(A:Option Addr)(n c:Nat)(w:World)(h:Cs q (al dB) w A n)(hl:n<=1000000000):Calls Tryz.prog 222 #[.slice A n c] w λe w'=>e=.returned (.slice (some ⟨w.1.size,0,none⟩) 4 4)/\Cs (λk=>k=w.1.size) (al dB) w' (some ⟨w.1.size,0,none⟩) 4/\Below w.1.size w w':=by have hS:=Lib.hid (Na A n c w h hl);clear h;go_enter Tryz.func222,Tryz.ntmps222;go_wp2_with fail;refine hS.out.mono ?_;rintro e w1 ⟨⟨u,rfl⟩,rfl⟩;exact GM
theorem My(z:Int)(w:World):Calls Tryz.prog 127 #[.int .i64 z] w λe w'=>e=.returned (.slice (some ⟨w.1.size,0,none⟩) 4 4)/\Cs (λk=>k=w.1.size) (al dB) w' (some ⟨w.1.size,0,none⟩) 4/\Below w.1.size w w':=by go_enter Tryz.func127,Tryz.ntmps127;exact GM
end
section
open Go.RowKit Go.Maps
structure br(W:World)(B:Nat)(t:TypeId)(v0 v1:Value):Prop where
 out:W.heap[B]?=some (.cells #[v0,v1] t (0,0))
section
variable {W W' : World} {B : Nat} {t : TypeId} {v0 v1 : Value}
theorem br.lt(h:br W B t v0 v1):B<W.1.size:=(Array.getElem?_eq_some_iff.1 h.out).1
theorem br.cell0(h:br W B t v0 v1):W.cell? ⟨B,0,none⟩=some v0:=IQ
theorem br.cell1(h:br W B t v0 v1):W.cell? ⟨B,1,none⟩=some v1:=IQ
theorem br.frozen(h:br W B t v0 v1)(i:Nat):W.frozen? ⟨B,i,none⟩=false:=by simp[World.frozen?,h.out]
theorem br.new(W:World)(b:Nat)(hb:W.1.size=b)(t:TypeId)(v0 v1:Value):br (W.alloc (.cells #[v0,v1] t)) b t v0 v1:=⟨by subst hb;exact heap_alloc_new _ _⟩
theorem br.keep(h:br W B t v0 v1)(hk:W'.heap[B]?=W.heap[B]?):br W' B t v0 v1:=⟨hk.trans h.out⟩
theorem br.below{b:Nat}(h:br W B t v0 v1)(hb:Below b W W')(hB:B<b):br W' B t v0 v1:=h.keep (hb.block B hB)
theorem br.alloc(h:br W B t v0 v1)(o:Obj):br (W.alloc o) B t v0 v1:=h.keep (Below.heap_alloc _ _ _ h.lt)
theorem br.set0(h:br W B t v0 v1)(v:Value):br (W.setCell ⟨B,0,none⟩ v) B t v v1:=⟨by have:=heap_setCell_same W B 0 _ t v h.out;exact Ig⟩
theorem br.set1(h:br W B t v0 v1)(v:Value):br (W.setCell ⟨B,1,none⟩ v) B t v0 v:=⟨by have:=heap_setCell_same W B 1 _ t v h.out;exact Ig⟩
theorem br.far(h:br W B t v0 v1){a:Addr}(ha:B≠a.block)(v:Value):br (W.setCell a v) B t v0 v1:=h.keep (Below.heap_setCell _ _ _ _ ha)
end
theorem pU.step{q q':Nat->Prop}{B:Nat}{w w':World}{x:Value}(h:pU q B w x)(hs:Stp q q' w w'):pU q' B w' x:=by obtain⟨A,n,c,h1,h2,h3⟩:=h;exact⟨A,n,c,h1,h2,(h3.step hs).imp λxs hx x h=>(hx x h).step hs⟩
structure WS(q:Nat->Prop)(M:Nat)(w:World)(v:Value):Prop where
 out:∃(A:Option Addr)(n c:Nat)(F:Option Addr)(k d T:Nat),v=.agg #[.slice A n c,.slice F k d]/\n<=c/\k<=d/\k<=100/\n+T<=M/\Cs q (al (fO q 400 w)) w A n/\Cs q (sm (pU q 400 w) T) w F k
theorem WS.step{q q':Nat->Prop}{M:Nat}{w w':World}{v:Value}(h:WS q M w v)(hs:Stp q q' w w'):WS q' M w' v:=by obtain⟨A,n,c,F,k,d,T,h1,h2,h3,h4,h5,h6,h7⟩:=h.out;exact⟨⟨A,n,c,F,k,d,T,h1,h2,h3,h4,h5,(h6.step hs).imp λxs hx x h=>(hx x h).step hs,(h7.step hs).imp λxs hx=>⟨λx h=>(hx.1 x h).step hs,hx.2⟩⟩⟩
theorem WS.az{q:Nat->Prop}{M:Nat}{w w':World}{v:Value}(h:WS q M w v)(hb:Below w.1.size w w'):WS q M w' v:=h.step (.az hb)
theorem WS.more{q:Nat->Prop}{M N:Nat}{w:World}{v:Value}(h:WS q M w v)(hM:M<=N):WS q N w v:=by obtain⟨A,n,c,F,k,d,T,h1,h2,h3,h4,h5,h6⟩:=h.out;exact⟨⟨A,n,c,F,k,d,T,h1,h2,h3,h4,zo,h6⟩⟩
theorem WS.new(q:Nat->Prop)(w:World):WS q 0 w (.agg #[.slice none 0 0,.slice none 0 0]):=⟨⟨none,0,0,none,0,0,0,rfl,zo,zo,zo,zo,.nil al.nil,.nil sm.nil⟩⟩
theorem IG{p:Prop}(h:p:=by rw[<-bN];exact br.new w _ rfl _ _ _):p:=h
theorem LD{q:Nat->Prop}{M:Nat}{w:World}{v:Value}(h:WS q M w v)(hq:∀k,w.1.size<=k->q k)(hM:M<=100000):
  Calls Tryz.prog 123 #[v] w λe w'=>Dq q (al (fO q 400 w')) w M e w':=by
 obtain⟨A,n,c,F,k,d,T,rfl,h1,h2,h3,h4,h5,h6⟩:=h.out
 obtain⟨wb,bN⟩:∃wb,w.alloc (.cells #[.slice A n c,.slice F k d] 74)=wb:=⟨_,rfl⟩
 have bz:Below w.1.size w wb:=IL
 have cX:wb.1.size=w.1.size+1:=by rw[<-bN];simp
 have bb:br wb w.1.size 74 (.slice A n c) (.slice F k d):=IG
 have c0:=bb.cell0
 have c1:=bb.cell1
 have HF:=Lib.hid (h6.az bz)
 have HR:Hid (pU q 400 w (.slice A n c)):=⟨A,n,c,rfl,h1,h5⟩
 have HQ:=Lib.hid hq
 clear h h5 h6 hq
 go_enter Tryz.func123,Tryz.ntmps123
 go_wp2_with (first
  |(at_builtin;refine oq JV pU.one rfl (.tmp 4) (.tmp 6) rfl rfl ⟨_,_,rfl,HF.out⟩ zo ?_;intro v1 w1 o1 b1;have z1:=b1.size;have bd:=(bb.below b1 bb.lt).cell0;have bc:=o1.az ((Below.refl _ w1).alloc (Nat.le_refl _) (.cells #[.slice A n c] 47));have g1:=Cs.lit (q:=λ_=>True) w1 [.slice A n c] (sm.one HR.out) 47 _ rfl trivial)
  |(at_builtin;refine bH JV pU.one sm.app rfl (.tmp 8) (.tmp 11) rfl bc ⟨_,_,rfl,g1⟩ zo zt ?_;intro v2 w2 o2 b2;have aG:Below wb.1.size wb w2:=b1.trans (((Below.refl _ w1).alloc z1 (.cells #[.slice A n c] 47)).trans b2);obtain⟨A2,c2,rfl,bh,a6⟩:=o2.open_ (q:=λ_=>True) λ_ _=>trivial))
 have a8:=bz.trans (aG.mono bz.size)
 have bW:=a8.size
 have hI:=Lib.hid (vr A2 _ c2 w2 (λj e=>HQ.out j zo) (a6.imp λxs hx=>⟨λx h=>(hx.1 x h).step (.az a8),hx.2⟩) zo (by simp only[wt];omega))
 go_wp2_with fail
 refine hI.out.mono ?_
 rintro e w3 ⟨A3,m3,c3,rfl,aa,b4,an,bf⟩
 go_wp2
 go_ret
 exact⟨A3,m3,c3,rfl,by simp only[wt]at aa;omega,b4,an.imp λxs hx x h=>(hx x h).az bf,a8.trans (bf.mono bW)⟩
theorem Ni{q q2:Nat->Prop}{M B:Nat}{w:World}{v x:Value}(h:WS q M w v)(hq:∀k,w.1.size<=k->q k)(hM:M<=100000)(hx:fO q2 B w x):Calls Tryz.prog 81 #[v,x] w λe w'=>∃b,e=.returned (.bool b)/\Below w.1.size w w':=by obtain⟨A,n,c,F,k,d,T,rfl,h1⟩:=h.out;obtain⟨y,Bx,dx,rfl,-,-,cq⟩:=hx;obtain⟨wb,bN⟩:∃wb,w.alloc (.cells #[.slice A n c,.slice F k d] 74)=wb:=⟨_,rfl⟩;(have bz:Below w.1.size w wb:=IL);(have bb:br wb w.1.size 74 (.slice A n c) (.slice F k d):=IG);have c0:=bb.cell0;have c1:=bb.cell1;have cF:=Lib.hid (LD (h.az bz) (λj e=>hq j (zu bz.size)) hM);have HX:=Lib.hid (cq.step (.az bz));clear h hq h1 cq;go_enter Tryz.func81,Tryz.ntmps81;go_wp2_with fail;refine cF.out.mono ?_;rintro e w1 ⟨A1,l,c1,rfl,hl,hc,hC,aj⟩;have HC:=Lib.hid hC;(have ah:l<=1000000:=by omega);clear cF hC;go_wp2;go_loopg [6] l (λg i wr=>∃k:Nat,k+g=l/\i=.int .i64 k/\∃p,wr=w1.drewN p);(case atStart=>exact⟨0,zo,rfl,0,rfl⟩);case round=>obtain⟨k,hk,rfl,p,rfl⟩:=hrel;by_cases a6:k<l;(·obtain⟨ad,u,rfl,-,ai,y1,A1,ci,rfl,-,-,hs⟩:=HC.out.at_ a6;have an:=λr=>cK (w1.drewN r) _ A1 y1.length ci y1 (hs.all.drewN r) rfl;have b9:=λr=>cK (w1.drewN r) _ Bx y.length dx y ((HX.out.step (.az aj)).all.drewN r) rfl;clear hs;(cases hb:(strOf y1).toList==(strOf y).toList);(all_goals(go_wp2;go_quiet (fail);go_wp2));(·go_roundg (l-(k+1));(case measure=>omega);case rel=>exact⟨k+1,zo,by go_num,_,rfl⟩);·go_ret;exact⟨true,rfl,bz.trans ((ax (ax aj _) _).mono bz.size)⟩);·go_wp2;go_ret;exact⟨false,rfl,bz.trans ((ax aj _).mono bz.size)⟩
end
section
open Go.RowKit Go.Maps
def MV(q:Nat->Prop)(M:Nat)(w:World)(e:Ending)(w':World):Prop:=∃v' er,e=.returned (.tuple #[v',.int .i64 er])/\WS q M w' v'/\Below w.1.size w w'
def but(q:Nat->Prop)(b:Nat)(k:Nat):Prop:=q k/\k≠b/\k≠b+1
structure fh(w W:World)(t:TypeId)(v0 v1:Value):Prop where
 b1:br W w.1.size t v0 v1
 b2:br W (w.1.size+1) t (.slice none 0 0) (.slice none 0 0)
 below:Below w.1.size w W
section
variable {w W W' : World} {t : TypeId} {v0 v1 : Value} {q : Nat -> Prop} {M : Nat}
theorem fh.new{wa wb:World}(ha:w.alloc (.cells #[v0,v1] t)=wa)(hb:wa.alloc (.cells #[.slice none 0 0,.slice none 0 0] t)=wb):fh w wb t v0 v1/\wb.1.size=w.1.size+2:=by subst ha;subst hb;exact⟨⟨(br.new w _ rfl _ _ _).alloc _,br.new _ _ zs _ _ _,((Below.refl _ w).alloc (Nat.le_refl _) _).alloc zs _⟩,zs⟩
theorem fh.az(h:fh w W t v0 v1)(hb:Below W.1.size W W'):fh w W' t v0 v1:=⟨h.b1.below hb h.b1.lt,h.b2.below hb h.b2.lt,h.below.trans (hb.mono h.below.size)⟩
theorem fh.set0(h:fh w W t v0 v1)(v:Value):fh w (W.setCell ⟨w.1.size,0,none⟩ v) t v v1:=⟨h.b1.set0 v,h.b2.far zs _,h.below.setCell (p:=⟨w.1.size,0,none⟩) (Nat.le_refl _) _⟩
theorem fh.set1(h:fh w W t v0 v1)(v:Value):fh w (W.setCell ⟨w.1.size,1,none⟩ v) t v0 v:=⟨h.b1.set1 v,h.b2.far zs _,h.below.setCell (p:=⟨w.1.size,1,none⟩) (Nat.le_refl _) _⟩
theorem fh.facts(h:fh w W t v0 v1):W.cell? ⟨w.1.size,0,none⟩=some v0/\W.cell? ⟨w.1.size,1,none⟩=some v1/\W.cell? ⟨w.1.size+1,0,none⟩=some (.slice none 0 0)/\W.cell? ⟨w.1.size+1,1,none⟩=some (.slice none 0 0)/\W.frozen? ⟨w.1.size,0,none⟩=false/\W.frozen? ⟨w.1.size,1,none⟩=false/\W.frozen? ⟨w.1.size+1,0,none⟩=false/\W.frozen? ⟨w.1.size+1,1,none⟩=false:=
 ⟨h.b1.cell0,h.b1.cell1,h.b2.cell0,h.b2.cell1,h.b1.frozen _,h.b1.frozen _,h.b2.frozen _,h.b2.frozen _⟩
theorem but.set(W:World)(b:Nat){a:Addr}(ha:a.block=b\/a.block=b+1)(v:Value):Stp (but q b) (but q b) W (W.setCell a v):=λk hk _=>⟨hk,Below.heap_setCell _ _ _ _ (zu hk.2)⟩
theorem fh.end_(h:fh w W t v0 v1)(u0 u1:Value):((W.setCell ⟨w.1.size+1,0,none⟩ u0).setCell ⟨w.1.size+1,1,none⟩ u1).cell? ⟨w.1.size+1,0,none⟩=some u0/\((W.setCell ⟨w.1.size+1,0,none⟩ u0).setCell ⟨w.1.size+1,1,none⟩ u1).cell? ⟨w.1.size+1,1,none⟩=some u1/\Below w.1.size w ((W.setCell ⟨w.1.size+1,0,none⟩ u0).setCell ⟨w.1.size+1,1,none⟩ u1)/\Stp (but q w.1.size) q W ((W.setCell ⟨w.1.size+1,0,none⟩ u0).setCell ⟨w.1.size+1,1,none⟩ u1):=by have z:=(h.b2.set0 u0).set1 u1;exact⟨z.cell0,z.cell1,(h.below.setCell (p:=⟨w.1.size+1,0,none⟩) zs _).setCell (p:=⟨w.1.size+1,1,none⟩) zs _,λk hk _=>⟨hk.1,by have:=hk.2;rw[Below.heap_setCell _ _ _ _ kI,Below.heap_setCell _ _ _ _ kI]⟩⟩
theorem WS.but(h:WS q M w v0):WS (but q w.1.size) M w v0:=h.step λk hk hl=>⟨⟨hk,zo,zo⟩,rfl⟩
end
theorem o8{p:Prop}(h:p:=by simp[results,Tryz.results162,go_sem,z0,z1]):p:=h
theorem NZ{p:Prop}(h:p:=by exact⟨_,_,rfl,(HW.out.step hs).more zo,hb⟩):p:=h
theorem zX{p:Prop}(h:p:=by obtain⟨z0,z1,hb,hs⟩:=TW.out.end_ (q:=q) (.slice A n c) (.slice F k d);refine bodyPost_ret (v:=.tuple #[.agg #[.slice A n c,.slice F k d],.int .i64 1]) o8 rfl ?_;exact NZ):p:=h
theorem BL{p:Prop}(h:p:=by rw[<-cw];exact but.set w4 w.1.size (a:=⟨w.1.size,0,none⟩) (.inl rfl) _):p:=h
theorem Md{q:Nat->Prop}{M B:Nat}{w:World}{v x:Value}(h:WS q M w v)(hq:∀k,w.1.size<=k->q k)(hM:M<=100000)(hx:fO q B w x):Calls Tryz.prog 162 #[v,x] w (MV q (M+1) w):=by obtain⟨A,n,c,F,k,d,T,rfl,h1,h2,h3,h4,h5,h6⟩:=h.but.out;obtain⟨y,Bx,dx,rfl,ad,hy,cq⟩:=hx.step (q':=but q w.1.size) (w':=w) λk hk hl=>⟨⟨hk,zo,zo⟩,rfl⟩;obtain⟨wa,bn⟩:∃wa,w.alloc (.cells #[.slice A n c,.slice F k d] 74)=wa:=⟨_,rfl⟩;obtain⟨wb,bN⟩:∃wb,wa.alloc (.cells #[.slice none 0 0,.slice none 0 0] 74)=wb:=⟨_,rfl⟩;obtain⟨tw,hz⟩:=fh.new bn bN;(have be:wa.1.size=w.1.size+1:=by rw[<-bn];simp);obtain⟨c0,c1,r0,r1,f0,f1,f2,f3⟩:=tw.facts;have ba:∀k,wb.1.size<=k->but q w.1.size k:=λk e=>⟨hq k zo,zo,zo⟩;have HM:=Lib.hid h5;have HF:=Lib.hid h6;have HX:=Lib.hid cq;have HW:=Lib.hid (h.but.az tw.below);have hH:=Lib.hid (Ni HW.out ba hM (⟨y,Bx,dx,rfl,ad,hy,cq.step (.az tw.below)⟩:fO (but q w.1.size) B wb (.slice Bx y.length dx)));have HQ:=Lib.hid ba;have TW:=Lib.hid tw;obtain⟨lx,bc⟩:∃lx,y.length=lx:=⟨_,rfl⟩;rw[bc]at hH ad⊢;have HL:=Lib.hid bc;clear h hq ba tw h5 h6 cq bc hy;go_enter Tryz.func162,Tryz.ntmps162;by_cases hs:lx<1;(·go_wp2;exact zX);by_cases hg:400<lx;(·go_wp2;exact zX);go_wp2_with fail;refine hH.out.mono ?_;rintro e w1 ⟨b,rfl,aj⟩;replace TW:=Lib.hid (TW.out.az aj);replace HW:=Lib.hid (HW.out.az aj);have bs:=aj.size;clear c0 c1 r0 r1 f0 f1 f2 f3;obtain⟨c0,c1,r0,r1,f0,f1,f2,f3⟩:=TW.out.facts;cases b with|true=>(go_wp2;obtain⟨z0,z1,hb,hs⟩:=TW.out.end_ (q:=q) (.slice A n c) (.slice F k d);refine bodyPost_ret (v:=.tuple #[.agg #[.slice A n c,.slice F k d],.int .i64 0]) o8 rfl ?_;exact NZ)|false=>(by_cases aG:500<=n;(·go_wp2;obtain⟨z0,z1,hb,hs⟩:=TW.out.end_ (q:=q) (.slice A n c) (.slice F k d);refine bodyPost_ret (v:=.tuple #[.agg #[.slice A n c,.slice F k d],.int .i64 2]) o8 rfl ?_;exact NZ);·obtain⟨w2,eu⟩:∃w2,w1.alloc (.cells #[.slice Bx lx dx] 48)=w2:=⟨_,rfl⟩;obtain⟨w3,a8⟩:∃w3,w2.alloc (.cells #[.slice A n c,.slice (some ⟨w1.1.size,0,none⟩) 1 1] 47)=w3:=⟨_,rfl⟩;(have cb:w2.1.size=w1.1.size+1:=by rw[<-eu];simp);(have bm:Below w1.1.size w1 w2:=by rw[<-eu];exact(Below.refl _ w1).alloc (Nat.le_refl _) _);(have aa:Below w2.1.size w2 w3:=by rw[<-a8];exact(Below.refl _ w2).alloc (Nat.le_refl _) _);have ai:Below w1.1.size w1 w3:=bm.trans (aa.mono zo);have bf:=TW.out.below.trans (ai.mono (zu TW.out.below.size));have hB:fO (but q w.1.size) 400 w3 (.slice Bx lx dx):=⟨y,Bx,dx,by rw[HL.out],by rw[HL.out];exact ad,by rw[HL.out];omega,HX.out.step (.az bf)⟩;(have a7:Cs (but q w.1.size) (al (fO (but q w.1.size) 400 w3)) w2 (some ⟨w1.1.size,0,none⟩) 1:=by rw[<-eu];exact Cs.lit w1 [.slice Bx lx dx] (al.one hB) _ _ rfl (HQ.out _ zo));(have a6:Cs (but q w.1.size) (sm (pU (but q w.1.size) 400 w3) (n+1)) w3 (some ⟨w1.1.size+1,0,none⟩) 2:=by rw[<-a8];refine Cs.lit w2 [.slice A n c,.slice (some ⟨w1.1.size,0,none⟩) 1 1] ⟨λu hu=>?_,by simp[wt]⟩ _ _ cb (HQ.out _ zo);rw[a8];simp only[List.mem_cons,List.not_mem_nil,or_false]at hu;rcases hu with rfl|rfl;exact⟨A,n,c,rfl,h1,(HM.out.step (.az bf)).imp λxs hx x h=>(hx x h).step (.az bf)⟩;exact⟨_,1,1,rfl,Nat.le_refl _,a7.az aa⟩);have hI:=Lib.hid (vr (some ⟨w1.1.size+1,0,none⟩) 2 2 w3 (λj e=>HQ.out j (zu aa.size)) a6 zo zo);have ah:=TW.out.az ai;have bp:=Lib.hid ((HF.out.step (.az bf)).imp λxs hx=>⟨λx h=>(hx.1 x h).step (.az bf),hx.2⟩:Cs (but q w.1.size) (sm (pU (but q w.1.size) 400 w3) T) w3 F k);have bu:=Lib.hid ah;clear a7 a6 hB ah;go_wp2_with fail;refine hI.out.mono ?_;rintro e w4 ⟨A4,u,c4,rfl,eX,hr,bb,bh⟩;obtain⟨w5,cw⟩:∃w5,w4.setCell ⟨w.1.size,0,none⟩ (.slice A4 u c4)=w5:=⟨_,rfl⟩;have t4:=bu.out.az bh;(have t5:fh w w5 74 (.slice A4 u c4) (.slice F k d):=by rw[<-cw];exact t4.set0 _);(have s5:Stp (but q w.1.size) (but q w.1.size) w4 w5:=BL);have an:Hid (WS (but q w.1.size) (M+1) w5 (.agg #[.slice A4 u c4,.slice F k d])):=⟨⟨A4,u,c4,F,k,d,T,rfl,hr,h2,h3,zo,(bb.step s5).imp λxs hx x h=>((hx x h).az bh).step s5,((bp.out.az bh).step s5).imp λxs hx=>⟨λx h=>((hx.1 x h).step (.az bh)).step s5,hx.2⟩⟩⟩;have k0:=t4.b1.cell0;have k1:=t4.b1.frozen 0;clear c0 c1 r0 r1 f0 f1 f2 f3;obtain⟨c0,c1,r0,r1,f0,f1,f2,f3⟩:=t5.facts;replace TW:=Lib.hid t5;clear hI bb t4 t5 s5;go_wp2;obtain⟨z0,z1,hb,hs⟩:=TW.out.end_ (q:=q) (.slice A4 u c4) (.slice F k d);refine bodyPost_ret (v:=.tuple #[.agg #[.slice A4 u c4,.slice F k d],.int .i64 0]) o8 rfl ?_;exact⟨_,_,rfl,an.out.step hs,hb⟩)
end
end Go.Proofs.YtalmnodgjjcefaaGreatDoor
