/- Several texts in one: Core Base Plain Bits Vi Varint Vi2. -/
import Derived.Test.YtalmnodgjjcefaaGreatDoorRows
import Derived.WalkKit
import Derived.WalkSpells
import Derived.WalkLawsBesides
import Derived.Maps.AppendAt
import Derived.Deep.AppendLies
import Derived.Deep.Draws
import Derived.Lib.Hide
import Derived.Lib.LazyBuf
import Derived.BigQuiet
import Derived.Deep.QuietTactic
import Derived.Deep.LoopGhost
import Derived.Deep.DeepCutAuto
import Derived.Deep.DeepFit
import Derived.Deep.RegionHeld3
import Derived.Deep.Light
import Derived.Laws.BitsAllLaws
set_option maxRecDepth 100000
namespace Go.Proofs.YtalmnodgjjcefaaGreatDoor
theorem zo{p:Prop}(h:p:=by omega):p:=h
theorem zs{p:Prop}(h:p:=by simp):p:=h
theorem zt{p:Prop}(h:p:=by simp;omega):p:=h
theorem zk{p:Prop}(h:p:=by kernel_rfl):p:=h
theorem zr{p:Prop}(h:p:=by rfl):p:=h
theorem zu{a:Prop}(h:a){p:Prop}(q:a->p:=by intro;omega):p:=q h
set_option maxRecDepth 100000
set_option maxHeartbeats 400000
section
section
open Go.RowKit
structure ae(w:World)(B:Nat)(A:Option Addr)(xs:List Value):Prop where
 out:xs=[]\/∃ad,A=some ad/\ad.block<B/\∀j u,xs[j]?=some u->w.cell? (ad.add j)=some u
theorem add_block(a:Addr)(n:Nat):(a.add n).block=a.block:=by unfold Addr.add;split<;>rfl
theorem add_add'(a:Addr)(i j:Nat):(a.add i).add j=a.add (i+j):=by unfold Addr.add;by_cases hi:i=0<;>by_cases hj:j=0<;>simp[hi,hj,Nat.add_assoc]
section
variable {w w' : World} {B B' : Nat} {A : Option Addr} {xs ys : List Value}
theorem ae.nil(w:World)(B:Nat)(A:Option Addr):ae w B A []:=⟨.inl rfl⟩
theorem ae.at_{k:Nat}(h:ae w B A xs)(hk:k<xs.length):∃ad,A=some ad/\ad.block<B/\w.cell? (ad.add k)=some xs[k]:=by rcases h.out with h|⟨ad,e,hb,hc⟩;subst h;simp at hk;exact⟨ad,e,hb,hc k _ (List.getElem?_eq_getElem hk)⟩
theorem zY{p:Prop}(h:p:=by rw[add_block];exact hb):p:=h
theorem ae.keep(h:ae w B A xs)(hk:∀p:Addr,p.block<B->w'.cell? p=w.cell? p):ae w' B A xs:=by rcases h.out with h|⟨ad,e,hb,hc⟩;exact⟨.inl h⟩;exact⟨.inr ⟨ad,e,hb,λj u hu=>(hk _ zY).trans (hc j u hu)⟩⟩
theorem ae.more(h:ae w B A xs)(hB:B<=B'):ae w B' A xs:=by rcases h.out with h|⟨ad,e,hb,hc⟩;exact⟨.inl h⟩;exact⟨.inr ⟨ad,e,zo,hc⟩⟩
theorem ae.below(h:ae w B A xs)(hb:Below B w w'):ae w' B A xs:=h.keep λ_ hp=>hb.cell hp
theorem ae.drew(h:ae w B A xs):ae w.drew B A xs:=⟨h.out⟩
theorem ae.drewN(h:ae w B A xs)(k:Nat):ae (w.drewN k) B A xs:=⟨h.out⟩
theorem ae.alloc(h:ae w B A xs)(hB:B<=w.1.size)(o:Obj):ae (w.alloc o) B A xs:=h.keep λp hp=>World.cell?_alloc_lt w o p zo
theorem ae.cut(h:ae w B A xs){k cap:Nat}(hc:xs.length<=cap):ae w B (if cap=k then A else A.map (·.add (k*1))) (xs.drop k):=by by_cases hk:k<xs.length;(·rcases h.out with h|⟨ad,rfl,hb,ai⟩;subst h;simp at hk;rw[if_neg zo,Nat.mul_one];refine⟨.inr ⟨ad.add k,rfl,zY,λj u hu=>?_⟩⟩;rw[add_add'];exact ai _ u (by rw[<-hu,List.getElem?_drop]));exact⟨.inl (List.drop_eq_nil_of_le zo)⟩
theorem ae.wJ(h:ae w B A xs)(k:Nat):ae w B (A.map (λx=>x.add k)) (xs.drop k):=by by_cases hk:k<xs.length;have:=h.cut (k:=k) (cap:=xs.length) (Nat.le_refl _);rw[if_neg zo,Nat.mul_one]at this;exact this;exact⟨.inl (List.drop_eq_nil_of_le zo)⟩
theorem ae.CZ(w:World)(B:Nat)(A:Option Addr){k:Nat}(hk:xs.length<=k):ae w B A (xs.drop k):=⟨.inl (List.drop_eq_nil_of_le hk)⟩
theorem ae.take(h:ae w B A xs)(k:Nat):ae w B A (xs.take k):=by rcases h.out with h|⟨ad,e,hb,hc⟩;subst h;exact⟨.inl zs⟩;·refine⟨.inr ⟨ad,e,hb,λj u hu=>hc j u ?_⟩⟩;rw[List.getElem?_take]at hu;split at hu;exact hu;cases hu
theorem ae.fK{base:Nat}{e:TypeId}{size n c:Nat}(h:w.ownsRow base e size (.slice A n c) n xs):ae w w.1.size A xs:=by rcases h.2 with⟨h0,h1⟩|⟨g,cap,cur,hv,hb,hh,_⟩;refine⟨.inl ?_⟩;have:=h.1;rw[h1,Nat.zero_mul]at this;exact List.eq_nil_of_length_eq_zero this;(injection hv with hv);exact⟨.inr ⟨_,hv,(Array.getElem?_eq_some_iff.1 hh).1,h.cells (g:=g) (by simp[Value.ownBlock,hv])⟩⟩
end
structure Onto(w w':World)(v v':Value):Prop where
 grown:w.grownBy w' v.ownBlock
 at_:v'.ownBlock=v.ownBlock\/∃g,v'.ownBlock=some g/\w.1.size<=g
section
variable {w w' uU : World} {v v' NB : Value}
theorem Onto.refl(w:World)(v:Value):Onto w w v v:=⟨⟨rfl,rfl,rfl,Nat.le_refl _,λ_ _ _=>rfl⟩,.inl rfl⟩
theorem Onto.trans(h:Onto w w' v v')(k:Onto w' uU v' NB):Onto w uU v NB:=by have hs:=h.grown.size;refine⟨⟨k.grown.os.trans h.grown.os,k.grown.tape.trans h.grown.tape,k.grown.output.trans h.grown.output,Nat.le_trans hs k.grown.size,λi hi a8=>?_⟩,?_⟩;(·refine(k.grown.block i zo (λe=>?_)).trans (h.grown.block i hi a8);rcases h.at_ with h1|⟨g,h1,h2⟩;exact a8 (e.trans h1);rw[h1]at e;injection e;omega);·rcases k.at_ with h1|⟨g,h1,h2⟩;(·rcases h.at_ with h3|⟨g,h3,h4⟩;exact .inl (h1.trans h3);exact .inr ⟨g,h1.trans h3,h4⟩);exact .inr ⟨g,h1,zo⟩
theorem Onto.below(h:Onto w w' v v'){B:Nat}(hB:B<=w.1.size)(hv:∀k,v.ownBlock=some k->B<=k):Below B w w':=
 (Below.refl _ _).grown h.grown hB hv
theorem Onto.aK(h:Onto w w' (.slice none 0 0) v'):Below w.1.size w w':=h.below (Nat.le_refl _) (by simp[Value.ownBlock])
theorem Onto.size(h:Onto w w' v v'):w.1.size<=w'.1.size:=h.grown.size
theorem Onto.new(w:World)(o:Obj)(v:Value)(n m:Nat):Onto w (w.alloc o) v (.slice (some ⟨w.1.size,0,none⟩) n m):=⟨World.grownBy_alloc w o _,.inr ⟨_,rfl,Nat.le_refl _⟩⟩
theorem Onto.gG(w:World)(o:Obj)(v:Value):Onto w (w.alloc o) v v:=⟨World.grownBy_alloc w o _,.inl rfl⟩
end
def J4(w:World)(e:Ending)(w':World):Prop:=e=.returned (.bool true)/\Below w.1.size w w'
def cJ(w:World)(v:Value)(e:Ending)(w':World):Prop:=e=.returned v/\Below w.1.size w w'
theorem ax{B:Nat}{a w:World}(h:Below B a w)(q:Nat):Below B a (w.drewN q):=⟨h.os,h.tape,h.output,h.size,h.block⟩
theorem aW{B:Nat}{w w':World}(h:Below B w.drew w'):Below B w w':=⟨h.os,h.tape,h.output,h.size,h.block⟩
theorem bC{B:Nat}{a w:World}(h:Below B a w):Below B a w.drew:=⟨h.os,h.tape,h.output,h.size,h.block⟩
theorem nJ{b b':Bool}(h:b=b'):Ending.returned (.bool b)=.returned (.bool b'):=by rw[h]
end
section
open Go.RowKit
def bv(l:List UInt8):List Value:=l.map λb=>.int .u8 (b.toNat:Int)
theorem aY(l:List UInt8):(bv l).length=l.length:=by simp[bv]
theorem Cf(l m:List UInt8):bv (l++m)=bv l++bv m:=by simp[bv]
theorem kG(l:List UInt8)(j:Nat)(h:j<l.length):(bv l)[j]?=some (.int .u8 ((l[j]).toNat:Int)):=by simp[bv,h]
theorem eA(l:List UInt8)(k:Nat):bv (l.drop k)=(bv l).drop k:=by simp[bv,List.map_drop]
theorem jw(l:List UInt8)(k:Nat):bv (l.take k)=(bv l).take k:=by simp[bv,List.map_take]
theorem KD{l:List UInt8}:∀u∈bv l,u.oneCell'=true:=by intro u hu;simp only[bv,List.mem_map]at hu;obtain⟨b,_,rfl⟩:=hu;rfl
def aN(w:World)(base:Nat)(v:Value)(l:List UInt8):Prop:=w.ownsRow base 5 1 v l.length (bv l)
section
variable {w w' : World} {base : Nat} {v : Value} {l : List UInt8}
theorem aN.nil(w:World)(base:Nat):aN w base (.slice none 0 0) []:=World.ownsRow_nil w base _ 1
theorem aN.open_(h:aN w base v l):∃A c,v=.slice A l.length c/\l.length<=c/\c<=maxLen/\aN w base (.slice A l.length c) l/\ae w w.1.size A (bv l):=by have h':=h;rcases h.2 with⟨rfl,hn⟩|⟨g,cap,cur,rfl,hb,hh,hc,hm,_⟩;exact⟨none,0,by rw[hn],zo,by simp[maxLen],by rw[hn];exact h',⟨.inl (by rw[List.eq_nil_of_length_eq_zero hn];rfl)⟩⟩;exact⟨_,cap,rfl,hc,hm,h',ae.fK h'⟩
theorem aN.below(h:aN w base v l)(hb:Below w.1.size w w'):aN w' base v l:=
 World.ownsRow.kept (row:=none) h ⟨hb.os,hb.tape,hb.output,hb.size,λk hk _=>hb.block k hk⟩ (by cases v.ownBlock<;>simp)
theorem aN.aP(h:aN w base v l){b:Nat}(hb:b<=base):aN w b v l:=by refine⟨h.1,?_⟩;rcases h.2 with h2|⟨g,cap,cur,hv,hg,r⟩;exact .inl h2;exact .inr ⟨g,cap,cur,hv,zo,r⟩
end
theorem Tryz.binfo:(Tryz.prog.info? 5).map (λi=>(i.zero,i.size,i.bytes))=some (some (.int .u8 0),1,1):=by kernel_rfl
theorem fB{p:Prop}(h:p:=by simp only[maxLen];omega):p:=h
theorem uk(w:World)(ty:TypeId)(base:Nat)(v:Value)(l:List UInt8)(ah:aN w base v l)(B:Nat)(A:Option Addr)(m c:Nat)(news:List UInt8)(hm:news.length=m)(hs:ae w B A (bv news))(hlen:l.length+news.length<=140737488355328)(aa:base<=w.1.size):∃v' w',(Builtin.append_ #[48,48] ty #[v,.slice A m c]).run Tryz.prog w=.ok v' w'/\aN w' base v' (l++news)/\Onto w w' v v':=by obtain⟨i,hi,bR,bs,cb⟩:=info_parts Tryz.binfo;subst hm;rcases hs.out with h0|⟨ad,rfl,hb,hc⟩;(·(have hn:news=[]:=by simpa[bv]using h0);subst hn;rw[List.append_nil];refine⟨v,w,?_,ah,Onto.refl _ _⟩;rcases ah.2 with⟨rfl,hx⟩|⟨g,cap,cur,rfl,_,_,bu,_⟩;(cases A<;>simp[Builtin.append_,run_underlying Tryz.underlying48,sizeOf,typeInfo,hi,Builtin.lenOf,Builtin.firstCells,loadCells,loadCellsFrom]);cases A<;>simp[Builtin.append_,run_underlying Tryz.underlying48,sizeOf,typeInfo,hi,Builtin.lenOf,Builtin.firstCells,bu,storeCells,loadCells,loadCellsFrom]);·obtain⟨v',w',aj,h2,h3,_,h5⟩:=run_append_own_at (P:=Tryz.prog) w base 48 ty 5 i _ 1 1 Tryz.underlying48 hi bR bs cb rfl zo v l.length (bv l) ah ad news.length c (bv news) (by rw[aY,Nat.mul_one]) hc KD fB zo aa;refine⟨v',w',aj,?_,h3,?_⟩;unfold aN;rw[List.length_append,Cf];exact h2;·rcases h5 with h5|h5;exact .inl h5;exact .inr ⟨_,h5,Nat.le_refl _⟩
theorem aA{w:World}{ops:Array Oper}{rest:List Oper}{o:Oper}{a:Act}{Q:Exit->Act->World->Prop}(aj:o.guard=none)(s x:Operand)(ho:o.op=.call {callee:=.builtin .append,args:=#[s,x],argTypes:=#[48,48]})(base:Nat)(v:Value)(l:List UInt8)(hs:a.eval s=v)(ah:aN w base v l)(B:Nat)(A:Option Addr)(m c:Nat)(news:List UInt8)(hx:a.eval x=.slice A m c)(hm:news.length=m)(a7:ae w B A (bv news))(hlen:l.length+news.length<=140737488355328)(aa:base<=w.1.size)(h:∀v' w',aN w' base v' (l++news)->Onto w w' v v'->wpList Tryz.prog ops Q rest (a.put o.dst v') w'):wpList Tryz.prog ops Q (o::rest) a w:=by refine wpList_plain aj λK hK=>?_;obtain⟨v',w',hr,h2,h3⟩:=uk w o.type base v l ah B A m c news hm a7 hlen aa;unfold Oper.wp execOp;simp only[ho,resolve,invoke,builtin,Sem.run_bind,Sem.run_pure,Result.andThen_ok,List.map_toArray,List.map_cons,List.map_nil,hs,hx,hr];exact hK _ _ (h v' w' h2 h3)
theorem tT{p:Prop}(h:p:=by subst h;refine⟨.inr ⟨_,rfl,zs,λj u hu=>?_⟩⟩;rw[Addr.add_lit,World.cell?_alloc_at _ _ _ _ rfl];simpa using hu):p:=h
theorem dE(w:World)(l:List UInt8)(t:TypeId)(cs:Array Value)(h:cs=(bv l).toArray):ae (w.alloc (.cells cs t)) (w.1.size+1) (some ⟨w.1.size,0,none⟩) (bv l):=tT
theorem EU(w:World)(t:TypeId)(x:Int)(n:Nat)(hx:x=(n:Int)%256):ae (w.alloc (.cells #[.int .u8 x] t)) (w.1.size+1) (some ⟨w.1.size,0,none⟩) (bv [UInt8.ofNat n]):=
 dE w _ t _ (by subst hx;simp[bv])
theorem aN.alloc{w:World}{base:Nat}{v:Value}{l:List UInt8}(h:aN w base v l)(o:Obj):aN (w.alloc o) base v l:=World.ownsRow.alloc h o
theorem aN.new(w:World)(base:Nat)(hb:base<=w.1.size)(l:List UInt8)(n:Nat)(hn:n=l.length)(cs:Array Value)(h:cs=(bv l).toArray)(hm:l.length<=maxLen):aN (w.alloc (.cells cs 5)) base (.slice (some ⟨w.1.size,0,none⟩) n n) l:=by subst hn;have h2:=World.ownsRow_lit (e:=5) (size:=1) (base:=base) w cs l.length hb hm (by simp[h,aY]);unfold aN;rw[h]at h2⊢;exact h2
def sA(w:World)(base:Nat)(v:Value)(l:List UInt8)(e:Ending)(w':World):Prop:=
 ∃v',e=.returned v'/\aN w' base v' l/\Onto w w' v v'
theorem aN.block{w:World}{base:Nat}{v:Value}{l:List UInt8}(h:aN w base v l):∀k,v.ownBlock=some k->base<=k:=λk hk=>(World.ownsRow.lt h k hk).1
end
section
def bD(u:Nat):List UInt8:=if u<128 then[UInt8.ofNat u]else UInt8.ofNat (u%128+128)::bD (u/128)
termination_by u
decreasing_by omega
theorem ek{u:Nat}(h:u<128):bD u=[UInt8.ofNat u]:=by rw[bD,if_pos h]
theorem kB{u:Nat}(h:128<=u):bD u=UInt8.ofNat (u%128+128)::bD (u/128):=by rw[bD,if_neg zo]
theorem jk:∀(n u:Nat),u<128^(n+1)->(bD u).length<=n+1:=by intro n;induction n with|zero=>intro u h;rw[ek zo];simp|succ n ih=>intro u h;by_cases hu:u<128;rw[ek hu];simp;rw[kB zo];(have h2:u/128<128^(n+1):=by rw[Nat.div_lt_iff_lt_mul zo,<-Nat.pow_succ];exact h);have:=ih _ h2;simp only[List.length_cons];omega
def kh(n:Nat):Prop:=n<18446744073709551616
theorem kh.div{n:Nat}(h:kh n)(k:Nat):kh (n/k):=Nat.lt_of_le_of_lt (Nat.div_le_self _ _) h
theorem kg{u:Nat}(h:kh u):(bD u).length<=10:=jk 9 u (by unfold kh at h;omega)
theorem FE(u:Nat):0<(bD u).length:=by by_cases hu:u<128;rw[ek hu];simp;rw[kB zo];simp
theorem vC(n:Nat):((UInt8.ofNat n).toNat:Int)=(n:Int)%256:=by simp
theorem jY(n:Nat)(h:n<256):(UInt8.ofNat n).toNat=n:=by simp;omega
def sc:Nat->List UInt8->Nat->Nat->Nat×Nat×Nat
 |0,_,_,_=>(0,0,11)
 |_+1,[],_,_=>(0,0,10)
 |f+1,c::r,n,x=>if c.toNat<128 then if(n=9/\1<c.toNat)\/(0<n/\c.toNat=0)then(0,0,11)else(x+c.toNat*2^(7*n)%18446744073709551616,n+1,0)else sc f r (n+1) (x+c.toNat%128*2^(7*n)%18446744073709551616)
def aE(b:List UInt8):Nat×Nat×Nat:=sc 10 b 0 0
theorem Hg(l:List UInt8)(k X:Nat)(hk:k<10)(h:k=l.length):sc (10-k) (l.drop k) k X=(0,0,10):=by rw[show 10-k=(9-k)+1 from zo,List.drop_eq_nil_of_le zo];rfl
theorem J9(l:List UInt8)(k X:Nat)(hk:k<10)(h:k<l.length):sc (10-k) (l.drop k) k X=if l[k].toNat<128 then if(k=9/\1<l[k].toNat)\/(0<k/\l[k].toNat=0)then(0,0,11)else(X+l[k].toNat*2^(7*k)%18446744073709551616,k+1,0)else sc (10-(k+1)) (l.drop (k+1)) (k+1) (X+l[k].toNat%128*2^(7*k)%18446744073709551616):=by rw[show 10-k=(10-(k+1))+1 from zo,List.drop_eq_getElem_cons h];rfl
end
section
theorem pE(m i:Nat)(hi:i<=64):(m*2^i%18446744073709551616)%2^i=0:=by(have h:(18446744073709551616:Nat)=2^i*2^(64-i):=by rw[<-Nat.pow_add,show i+(64-i)=64 from zo]);rw[h,Nat.mod_mul_right_mod];exact Nat.mul_mod_left m (2^i)
theorem GF(X k:Nat)(c:UInt8)(hX:X<2^(7*k))(aa:kh X)(hk:k<=9):bits .or .u64 (X:Int) (IntKind.u64.wrap (IntKind.u64.wrap (bits .and .u8 (c.toNat:Int) 127)*2^(7*k)))=((X+c.toNat%128*2^(7*k)%18446744073709551616:Nat):Int):=by have hc:=c.toNat_lt;(have h1:bits .and .u8 (c.toNat:Int) 127=((c.toNat%128:Nat):Int):=by have:=u8_and_nat c.toNat 127 zo zo;rw[nat_mask7]at this;exact this);rw[h1,IntKind.wrap_u64,IntKind.wrap_u64];(have h2:(((c.toNat%128:Nat):Int)%18446744073709551616*2^(7*k))%18446744073709551616=((c.toNat%128*2^(7*k)%18446744073709551616:Nat):Int):=by rw[Int.emod_eq_of_lt (a:=((c.toNat%128:Nat):Int)) zo zo];generalize c.toNat%128=m;rw[Int.natCast_emod,Int.natCast_mul,Int.natCast_pow];rfl);rw[h2,u64_or_nat _ _ aa (Nat.mod_lt _ zo),Nat.or_comm,nat_join (7*k) _ _ (pE _ _ zo) hX,Nat.add_comm]
theorem ye(X k:Nat)(m:Nat)(hm:m<128)(hX:X<2^(7*k))(aa:kh X)(hk:k<=9):X+m*2^(7*k)%18446744073709551616<2^(7*(k+1))/\kh (X+m*2^(7*k)%18446744073709551616):=by have hle:m*2^(7*k)%18446744073709551616<=m*2^(7*k):=Nat.mod_le _ _;have h1:m*2^(7*k)<=127*2^(7*k):=Nat.mul_le_mul_right _ zo;(have h2:2^(7*(k+1))=128*2^(7*k):=by rw[show 7*(k+1)=7+7*k from zo,Nat.pow_add]);refine⟨zo,?_⟩;have hz:=pE m (7*k) zo;have h:=nat_join (7*k) _ X hz hX;unfold kh;rw[Nat.add_comm,<-h];exact Nat.or_lt_two_pow (n:=64) (Nat.mod_lt _ zo) aa
end
section
open Go.RowKit
theorem M0{k1 k2 k3:IntKind}{a a' b b' c c':Int}(h1:a=a')(h2:b=b')(h3:c=c'):Ending.returned (.tuple #[.int k1 a,.int k2 b,.int k3 c])=.returned (.tuple #[.int k1 a',.int k2 b',.int k3 c']):=by rw[h1,h2,h3]
theorem Lt(k:Nat):bits .or .u8 ((k:Int)%256) 128=((UInt8.ofNat (k%128+128)).toNat:Int):=by rw[vC];(have h:((k:Int)%256)=((k%256:Nat):Int):=by omega);rw[h];(have h2:∀n:Fin 256,bits .or .u8 ((n.val:Nat):Int) 128=((n.val%128+128:Nat):Int):=by decide+kernel);have h3:=h2 ⟨k%256,zo⟩;simp only at h3;rw[h3];omega
theorem Hv(base:Nat)(v:Value)(xs:List UInt8)(u:Nat)(hu:kh u)(w:World)(ah:aN w base v xs)(aa:base<=w.1.size)(hlen:xs.length<=1099511627776):Calls Tryz.prog 203 #[v,.int .u64 u] w (sA w base v (xs++bD u)):=by have HV:=Lib.hid (kg hu);go_enter Tryz.func203,Tryz.ntmps203;go_wp2;go_loopw [0,1] (λb n wr=>∃(l:List UInt8)(k:Nat),kh k/\n=.int .u64 k/\aN wr base b l/\Hid (l++bD k=xs++bD u)/\Onto w wr v b) (λ_ n _=>(intOf n).toNat);(case atStart=>exact⟨xs,u,hu,rfl,ah,rfl,Onto.refl _ _⟩);case round=>obtain⟨l,k,hk,rfl,hl,a8,bc⟩:=hrel;(have cP:l.length<=1099511627776+10:=by have h1:=congrArg List.length a8.out;simp only[List.length_append]at h1;have h2:=HV.out;omega);have b7:=bc.size;by_cases hc:128<=k;(·go_wp2_with (at_builtin;refine aA rfl (.tmp 7) (.tmp 11) rfl base u0 l zr (hl.alloc _) (wr.1.size+1) _ 1 _ [UInt8.ofNat (k%128+128)] zr rfl (dE _ _ _ _ (by simp[bv,Lt])) zt zt ?_;intro v1 w1 an bk);go_roundw;(case rel=>exact⟨l++[UInt8.ofNat (k%128+128)],k/128,hk.div 128,by go_num,an,(by rw[kB hc]at a8;have:=a8.out;show _=_;rw[<-this];simp),bc.trans ((Onto.gG _ _ _).trans bk)⟩);case measure=>simp[intOf];omega);·go_wp2_with (at_builtin;refine aA rfl (.tmp 15) (.tmp 18) rfl base u0 l zr (hl.alloc _) (wr.1.size+1) _ 1 _ [UInt8.ofNat k] zr rfl (dE _ _ _ _ (by simp[bv];omega)) zt zt ?_;intro v1 w1 an bk);go_ret;exact⟨v1,rfl,by have h:=a8.out;rw[ek zo]at h;rw[<-h];exact an,bc.trans ((Onto.gG _ _ _).trans bk)⟩
theorem iU(A:Option Addr)(n c:Nat)(l:List UInt8)(hn:l.length=n)(w:World)(h:ae w w.1.size A (bv l))(hlen:l.length<=1099511627776):Calls Tryz.prog 204 #[.slice A n c] w (sA w w.1.size (.slice none 0 0) l):=by subst hn;have he:=λ(W:World)(a:Option Addr)(n c:Nat)=>Lib.run_eql_slice_nil (P:=Tryz.prog) W 48 5 a n c 0 0 Tryz.underlying48;cases A with|none=>((have hn:l=[]:=by rcases h.out with h|⟨ad,h,_⟩;simpa[bv]using h;cases h);subst hn;go_enter Tryz.func204,Tryz.ntmps204;go_wp2;go_ret;exact⟨_,rfl,aN.nil _ _,Onto.refl _ _⟩)|some ad=>go_enter Tryz.func204,Tryz.ntmps204;go_wp2_with (at_builtin;refine aA rfl (.tmp 5) (.tmp 6) rfl w.1.size (.slice (some ⟨w.1.size,0,none⟩) 0 0) [] zr (aN.new _ _ (Nat.le_refl _) [] 0 rfl _ rfl (by simp[maxLen])) w.1.size (some ad) l.length c l zr rfl (h.alloc (Nat.le_refl _) _) zt zs ?_;intro v1 w1 an bk);go_ret;exact⟨v1,rfl,an,(Onto.new _ _ _ _ _).trans bk⟩
theorem GN{p:Prop}(h:p:=by rw[beq_eq_false_iff_ne];omega):p:=h
theorem Gl{p:Prop}(h:p:=by rw[beq_iff_eq];omega):p:=h
theorem zh{p:Prop}(h:p:=by go_wp2;go_ret3;rw[HF.out];exact⟨M0 HO.out (by show _=((k+1:Nat):Int);omega) rfl,rfl⟩):p:=h
theorem IZ{p:Prop}(h:p:=by go_ret3;rw[HF.out];exact⟨rfl,rfl⟩):p:=h
theorem IP{p:Prop}(h:p:=by rw[aY];omega):p:=h
theorem Ey(A:Option Addr)(c:Nat)(l:List UInt8)(w:World)(h:ae w w.1.size A (bv l))(hlen:l.length<=1099511627776):Calls Tryz.prog 248 #[.slice A l.length c] w λe w'=>e=.returned (.tuple #[.int .u64 ((aE l).1:Nat),.int .i64 ((aE l).2.1:Nat),.int .i64 ((aE l).2.2:Nat)])/\w=w':=by go_enter Tryz.func248,Tryz.ntmps248;go_wp2;go_step3;go_wp2;go_step3;go_wp2;go_loop [5,6] (λx n=>∃k X:Nat,k<=10/\k<=l.length/\n=.int .i64 k/\x=.int .u64 X/\Hid (X<2^(7*k)/\kh X)/\Hid (sc (10-k) (l.drop k) k X=aE l)) (λ_ n=>10-(intOf n).toNat);(case atStart=>exact⟨0,0,zo,zo,rfl,rfl,⟨zs,by simp[kh]⟩,rfl⟩);case round=>obtain⟨k,X,hk,a7,rfl,rfl,hX,hv⟩:=hrel;by_cases aa:k=10;(·subst aa;have HF:Hid (aE l=(0,0,11)):=hv.out.symm;clear hv;go_wp2;exact IZ);by_cases aj:k=l.length;(·have HF:Hid (aE l=(0,0,10)):=hv.out.symm.trans (Hg l k X zo aj);clear hv;go_wp2;exact IZ);obtain⟨ad,rfl,hb,ai⟩:=h.at_ (k:=k) IP;have HV:Hid (aE l=_):=hv.out.symm.trans (J9 l k X zo zo);clear hv;rw[show(bv l)[k]'(IP)=.int .u8 ((l[k]'zo).toNat:Int)from by simp[bv]]at ai;generalize aG:l[k]'zo=cb at ai HV;clear aG;have an:(cb.toNat:Int)<256:=zu cb.toNat_lt;have HO:=Lib.hid (GF X k cb hX.out.1 hX.out.2 zo);by_cases cX:(cb.toNat:Int)<128;(·by_cases cu:k=9/\(1:Int)<(cb.toNat:Int);(·(have HF:Hid (aE l=(0,0,11)):=by have:=HV.out;rw[if_pos zo,if_pos zo]at this;exact this);clear HV;obtain⟨h9,a6⟩:=cu;(have a8:9<=k:=by omega);clear h9;go_wp2;all_goals(go_ret3;rw[HF.out];exact⟨rfl,rfl⟩));by_cases cw:0<k/\cb.toNat=0;(·(have HF:Hid (aE l=(0,0,11)):=by have:=HV.out;rw[if_pos zo,if_pos zo]at this;exact this);clear HV cu;obtain⟨cc,hc0⟩:=cw;(have bu:((cb.toNat:Int)==0)=true:=Gl);(have ah:(cb.toNat:Int)<=0:=by omega);clear hc0;by_cases h9:9<=k;(·go_wp2;exact IZ);·go_wp2;exact IZ);(have HF:Hid (aE l=(X+cb.toNat%128*2^(7*k)%18446744073709551616,k+1,0)):=by have:=HV.out;rw[if_pos zo,if_neg zo]at this;rw[Nat.mod_eq_of_lt (a:=cb.toNat) (show cb.toNat<128 from zo)];exact this);clear HV;by_cases h0:k<=0;clear cu cw;exact zh;·(have bu:((cb.toNat:Int)==0)=false:=GN);(have ah:1<=(cb.toNat:Int):=by omega);by_cases h9:9<=k;(have hc1:(cb.toNat:Int)<=1:=by omega);clear cu cw;exact zh;clear cu cw;exact zh);·(have HF:Hid (aE l=sc (10-(k+1)) (l.drop (k+1)) (k+1) (X+cb.toNat%128*2^(7*k)%18446744073709551616)):=by have:=HV.out;rw[if_neg zo]at this;exact this);clear HV;go_wp2;go_round;(case rel=>exact⟨k+1,_,zo,zo,by go_num,by rw[HO.out],ye X k _ zo hX.out.1 hX.out.2 zo,HF.out.symm⟩);case measure=>simp[intOf];omega
def tJ(w:World)(u:Int)(ku:IntKind)(l:List UInt8)(e:Int)(en:Ending)(w':World):Prop:=
 ∃v',en=.returned (.tuple #[.int ku u,v',.int .i64 e])/\aN w' w.1.size v' l/\Below w.1.size w w'
theorem Fx:∀(f:Nat)(l:List UInt8)(n x:Nat),(sc f l n x).2.1<=n+l.length/\((sc f l n x).2.2≠0->(sc f l n x).2.1=0/\(sc f l n x).1=0):=by intro f;induction f with|zero=>intro l n x;simp[sc]|succ f ih=>(intro l n x;cases l with|nil=>simp[sc]|cons c r=>simp only[sc];split;(·split;simp;·simp;try omega);have:=ih r (n+1) (x+c.toNat%128*2^(7*n)%18446744073709551616);simp only[List.length_cons];refine⟨zo,this.2⟩)
theorem wP(l:List UInt8):(aE l).2.1<=l.length:=by have:=(Fx 10 l 0 0).1;unfold aE;omega
theorem CQ(l:List UInt8)(h:(aE l).2.2≠0):(aE l).2.1=0/\(aE l).1=0:=(Fx 10 l 0 0).2 h
end
section
open Go.RowKit
theorem iE{p:Prop}(h:p:=by rw[bne_iff_ne];omega):p:=h
theorem ql(A:Option Addr)(n0 c:Nat)(l:List UInt8)(hn0:l.length=n0)(w:World)(hS:ae w w.1.size A (bv l))(hlen:l.length<=1099511627776)(hc:l.length<=c):Calls Tryz.prog 214 #[.slice A n0 c] w (tJ w ((aE l).1:Nat) .u64 (if(aE l).2.2=0 then l.drop (aE l).2.1 else[]) ((aE l).2.2:Nat)):=by subst hn0;have hle:=wP l;have ai:=Lib.hid hc;have ad:=CQ l;have HT:=Lib.hid (Ey A c l w hS hlen);generalize hU:aE l=U at hle ad HT⊢;clear hU;obtain⟨x,n,e⟩:=U;simp only at hle ad HT⊢;by_cases he:e=0;(·subst he;clear ad;go_enter Tryz.func214,Tryz.ntmps214;go_wp2_with fail;refine HT.out.mono ?_;rintro e w' ⟨rfl,rfl⟩;go_wp2_with fail;all_goals(refine(iU _ _ _ (l.drop n) zs _ (by rw[eA];first|exact hS.wJ n|exact ae.CZ _ _ _ (by rw[aY];have:=ai.out;omega)) zt).mono ?_;rintro e w' ⟨v1,rfl,ah,bc⟩;go_wp2_with fail;go_ret3;exact⟨_,rfl,ah,bc.aK⟩));·obtain⟨rfl,rfl⟩:=ad he;(have aa:((e:Int) !=0)=true:=iE);rw[if_neg he];clear he ad;go_enter Tryz.func214,Tryz.ntmps214;go_wp2_with fail;refine HT.out.mono ?_;rintro e w' ⟨rfl,rfl⟩;go_wp2_with fail;go_ret3;exact⟨_,rfl,aN.nil _ _,Below.refl _ _⟩
theorem jc(A:Option Addr)(n c:Nat)(l:List UInt8)(hn:l.length=n)(u:Nat)(hu:kh u)(w:World)(hS:ae w w.1.size A (bv l))(hlen:l.length<=1099511627776):Calls Tryz.prog 147 #[.slice A n c,.int .u64 u] w (sA w w.1.size (.slice none 0 0) (l++bD u)):=by go_enter Tryz.func147,Tryz.ntmps147;go_wp2_with fail;refine(iU A n c l hn _ hS hlen).mono ?_;rintro e w1 ⟨v1,rfl,ah,bc⟩;go_wp2_with fail;refine(Hv w.1.size v1 l u hu w1 ah bc.size hlen).mono ?_;rintro e w2 ⟨v2,rfl,ba,bb⟩;go_wp2_with fail;go_ret;exact⟨v2,rfl,ba,bc.trans bb⟩
theorem qo(l:List UInt8)(k:Nat)(h:k<l.length):(bv l)[k]'(by rw[aY];exact h)=.int .u8 ((l[k]).toNat:Int):=by simp[bv]
end
section
open Go.RowKit
theorem Ci(l r:List UInt8)(k:Nat)(h1:k<l.length)(h2:k<r.length)(h:l.take k=r.take k):(l[k]=r[k]->l.take (k+1)=r.take (k+1))/\(l[k]≠r[k]->(l==r)=false):=by refine⟨λe=>?_,λe=>?_⟩;rw[List.take_succ_eq_append_getElem h1,List.take_succ_eq_append_getElem h2,h,e];rw[beq_eq_false_iff_ne];rintro rfl;exact e rfl
def ML(w:World)(l m:List UInt8)(e:Ending)(w':World):Prop:=e=.returned (.bool (l==m))/\∃k,w'=w.drewN k
theorem Je{p:Prop}(h:p:=by rw[aY];have:=hl.out;have:=hr.out;omega):p:=h
theorem Cq(A B:Option Addr)(n m c d:Nat)(l r:List UInt8)(hn:l.length=n)(hm:r.length=m)(w:World)(hS:ae w w.1.size A (bv l))(bF:ae w w.1.size B (bv r))(hlen:l.length<=1099511627776):Calls Tryz.prog 247 #[.slice A n c,.slice B m d] w (ML w l r):=by by_cases a8:n=m;(·subst a8;(have b7:n<=1099511627776:=by omega);have hl:=Lib.hid hn;have hr:=Lib.hid hm;clear hn hm;go_enter Tryz.func247,Tryz.ntmps247;go_wp2;go_loopg [13] n (λg i wr=>∃k:Nat,k+g=n/\i=.int .i64 k/\Aside (l.take k=r.take k)/\∃q,wr=w.drewN q);(case atStart=>exact⟨0,zo,rfl,by simp[Aside],0,rfl⟩);case round=>obtain⟨k,hk,rfl,heq,q,rfl⟩:=hrel;by_cases a6:k<n;(·obtain⟨ad,rfl,hb,ai⟩:=hS.at_ (k:=k) Je;obtain⟨cb,rfl,aG,ah⟩:=bF.at_ (k:=k) Je;have aa:=Lib.hid (Ci l r k (zu hl.out) (zu hr.out) heq.out);rw[qo l k (zu hl.out)]at ai;rw[qo r k (zu hr.out)]at ah;generalize l[k]'(zu hl.out)=x at ai aa;generalize r[k]'(zu hr.out)=y at ah aa;clear heq;by_cases bc:x=y;(·subst bc;have hT:=Lib.hid (aa.out.1 rfl);clear aa;go_wp2;go_quiet (fail);go_wp2;go_roundg (n-(k+1));(case measure=>omega);case rel=>exact⟨k+1,zo,by go_num,hT.out,_,rfl⟩);·(have cj:((x.toNat:Int) !=(y.toNat:Int))=true:=by rw[bne_iff_ne];exact λe=>bc (UInt8.toNat_inj.1 zo));have HF:Hid ((l==r)=false):=aa.out.2 bc;clear bc aa;go_wp2;go_quiet (fail);go_wp2;go_ret;unfold ML;rw[HF.out];exact⟨rfl,_,World.drewN_drewN _ _ _⟩);·go_wp2;go_ret;have h1:=hl.out;have h2:=hr.out;(have:l=r:=by have:=heq.out;rw[List.take_of_length_le zo,List.take_of_length_le zo]at this;exact this);subst this;unfold ML;exact⟨zs,_,rfl⟩);·(have bp:((n:Int) !=(m:Int))=true:=iE);(have HF:Hid ((l==r)=false):=by unfold Hid;rw[beq_eq_false_iff_ne];rintro rfl;exact a8 (hn.symm.trans hm));clear a8 hn hm;go_enter Tryz.func247,Tryz.ntmps247;go_wp2;go_ret;unfold ML;rw[HF.out];exact⟨rfl,0,rfl⟩
end
end
end Go.Proofs.YtalmnodgjjcefaaGreatDoor
