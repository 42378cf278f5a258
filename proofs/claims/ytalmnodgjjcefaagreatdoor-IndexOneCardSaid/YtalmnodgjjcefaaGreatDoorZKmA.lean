/- Several texts in one: KmPlain KmHeap KmDown KmHp KmElB KmRowsB KmSwapB. -/
import Derived.Lib.Hide
import Derived.Test.YtalmnodgjjcefaaGreatDoorZIpA
import Derived.Test.YtalmnodgjjcefaaGreatDoorZItm
import Derived.BigRegion
set_option maxRecDepth 100000
namespace Go.Proofs.YtalmnodgjjcefaaGreatDoor
set_option maxRecDepth 100000
set_option maxHeartbeats 1600000
section
section
structure fo{κ:Type}(lt:κ->κ->Bool):Prop where
 irrefl:∀a,lt a a=false
 trans:∀a b c,lt a b=true->lt b c=true->lt a c=true
 JQ:∀a b,lt a b=false->lt b a=false->a=b
section
variable {κ : Type} {lt : κ -> κ -> Bool}
theorem fo.asymm(h:fo lt){a b:κ}(aa:lt a b=true):lt b a=false:=by cases h2:lt b a with|false=>rfl|true=>have:=h.trans _ _ _ aa h2;rw[h.irrefl]at this;cases this
theorem fo.ntrans(h:fo lt){a b c:κ}(h1:lt b a=false)(h2:lt c b=false):lt c a=false:=by cases h3:lt c a with|false=>rfl|true=>(cases h4:lt a b with|true=>have:=h.trans _ _ _ h3 h4;rw[h2]at this;cases this|false=>have e:=h.JQ _ _ h4 h1;subst e;rw[h3]at h2;cases h2)
def Wk(lt:κ->κ->Bool)(l:List κ):Prop:=l.Pairwise λx y=>lt y x=false
def Ri(lt:κ->κ->Bool)(l:List κ):Prop:=l.Pairwise λx y=>lt x y=true
def zq(lt:κ->κ->Bool)(x:κ):List κ->List κ
 |[]=>[x]
 |y::t=>if lt x y=true then x::y::t else y::zq lt x t
def bI(lt:κ->κ->Bool):List κ->List κ
 |[]=>[]
 |x::t=>zq lt x (bI lt t)
theorem ot(x:κ):∀l,(zq lt x l).Perm (x::l)
 |[]=>.refl _
 |y::t=>by unfold zq;split;exact .refl _;exact((ot x t).cons y).trans (.swap x y t)
theorem cQ:∀l,(bI lt l).Perm l
 |[]=>.refl _
 |x::t=>(ot x _).trans ((cQ t).cons x)
theorem Bl(h:fo lt)(x:κ):∀l,Wk lt l->Wk lt (zq lt x l)
 |[],_=>by simp[zq,Wk]
 |y::t,hw=>by unfold Wk at hw;rw[List.pairwise_cons]at hw;unfold zq;split;(·rename_i hx;unfold Wk;rw[List.pairwise_cons];refine⟨λz hz=>?_,List.pairwise_cons.2 hw⟩;rcases List.mem_cons.1 hz with rfl|hz;exact h.asymm hx;exact h.ntrans (h.asymm hx) (hw.1 z hz));·rename_i hx;rw[Bool.not_eq_true]at hx;unfold Wk;rw[List.pairwise_cons];refine⟨λz hz=>?_,Bl h x t hw.2⟩;rcases List.mem_cons.1 ((ot x t).mem_iff.1 hz)with rfl|hz;exact hx;exact hw.1 z hz
theorem gO(h:fo lt):∀l,Wk lt (bI lt l)
 |[]=>List.Pairwise.nil
 |x::t=>Bl h x _ (gO h t)
theorem sY(h:fo lt):∀{l m:List κ},l.Perm m->Wk lt l->Wk lt m->l=m
 |[],m,p,_,_=>p.nil_eq
 |x::l,[],p,_,_=>absurd p.length_eq zs
 |x::l,y::m,p,hl,hm=>by have aa:=hl;have bd:=hm;unfold Wk at aa bd;rw[List.pairwise_cons]at aa bd;(have e:x=y:=by rcases List.mem_cons.1 (p.mem_iff.1 (List.mem_cons_self))with h1|h1;exact h1;·rcases List.mem_cons.1 (p.mem_iff.2 (List.mem_cons_self))with h2|h2;exact h2.symm;exact h.JQ _ _ (bd.1 x h1) (aa.1 y h2));subst e;rw[sY h p.cons_inv aa.2 bd.2]
theorem wX(h:fo lt){l m:List κ}(p:m.Perm l)(hm:Wk lt m):bI lt l=m:=sY h ((cQ l).trans p.symm) (gO h l) hm
theorem xm(h:fo lt){l pre rest:List κ}(p:(pre++rest).Perm l)(hw:Wk lt pre)(hle:∀x∈pre,∀y∈rest,lt y x=false):bI lt l=pre++bI lt rest:=
 wX h ((List.Perm.append_left pre (cQ rest)).trans p) (List.pairwise_append.2 ⟨hw,gO h rest,λx hx y hy=>hle x hx y ((cQ rest).mem_iff.1 hy)⟩)
variable [DecidableEq κ]
def dw(a:κ)(n:Nat):List κ->List (κ×Nat)
 |[]=>[(a,n)]
 |x::t=>if x=a then dw a (n+1) t else(a,n)::dw x 1 t
def runs:List κ->List (κ×Nat)
 |[]=>[]
 |x::t=>dw x 1 t
def aM(lt:κ->κ->Bool)(l:List κ):List κ:=(runs (bI lt l)).map (·.1)
theorem k8(h:fo lt):∀(l:List κ)(a:κ)(n:Nat),1<=n->Wk lt (a::l)->∀x m,(x,m)∈dw a n l↔x∈a::l/\m=l.count x+(if x=a then n else 0)
 |[],a,n,hn,_,x,m=>by simp only[dw,List.mem_singleton,Prod.mk.injEq,List.count_nil];constructor;rintro⟨rfl,rfl⟩;simp;rintro⟨rfl,e⟩;simp at e;exact⟨rfl,e⟩
 |y::t,a,n,hn,hw,x,m=>by have aa:=hw;unfold Wk at aa;rw[List.pairwise_cons]at aa;unfold dw;split;(·rename_i hy;subst hy;have ih:=k8 h t y (n+1) zo (by unfold Wk;exact aa.2) x m;rw[ih];simp only[List.mem_cons,List.count_cons,beq_iff_eq];by_cases e:x=y;subst e;simp;omega;rw[if_neg e,if_neg (λg=>e g.symm)];simp[e]);·rename_i hy;have ih:=k8 h t y 1 zo aa.2 x m;rw[List.mem_cons,ih];(have eu:a∉y::t:=λe=>by rcases List.mem_cons.1 e with e|e;exact hy e.symm;have h1:=aa.1 y zs;have h2:=aa.2;rw[List.pairwise_cons]at h2;exact hy (h.JQ _ _ h1 (h2.1 a e)));by_cases e:x=a;(·subst e;have h3:(y::t).count x=0:=List.count_eq_zero.2 eu;rw[h3];constructor;(·rintro(g|⟨g,_⟩);(injection g with _ g);exact⟨zs,by simpa using g⟩;exact absurd g eu);rintro⟨_,g⟩;left;simpa using g);·simp only[Prod.mk.injEq,List.mem_cons,List.count_cons,beq_iff_eq];rw[if_neg e];by_cases e2:x=y;subst e2;simp[e];rw[if_neg e2,if_neg (λg=>e2 g.symm)];simp[e,e2]
theorem nR(h:fo lt){l:List κ}(hw:Wk lt l)(x:κ)(m:Nat):(x,m)∈runs l↔x∈l/\m=l.count x:=by cases l with|nil=>simp[runs]|cons a t=>unfold runs;rw[k8 h t a 1 zo hw];simp only[List.count_cons,beq_iff_eq];by_cases e:x=a;subst e;simp;rw[if_neg e,if_neg (λg=>e g.symm)]
theorem qE(h:fo lt):∀(l:List κ)(a:κ)(n:Nat),Wk lt (a::l)->Ri lt ((dw a n l).map (·.1))
 |[],a,n,_=>by simp[dw,Ri]
 |y::t,a,n,hw=>by have aa:=hw;unfold Wk at aa;rw[List.pairwise_cons]at aa;unfold dw;split;rename_i hy;subst hy;exact qE h t y (n+1) aa.2;·rename_i hy;have ih:=qE h t y 1 aa.2;rw[List.map_cons];refine List.pairwise_cons.2 ⟨λz hz=>?_,ih⟩;obtain⟨⟨z',m⟩,hm,rfl⟩:=List.mem_map.1 hz;have h1:=((k8 h t y 1 zo aa.2 z' m).1 hm).1;have h2:=aa.1 z' h1;cases h3:lt a z' with|true=>rfl|false=>(exfalso;have e:=h.JQ _ _ h3 h2;rcases List.mem_cons.1 h1 with g|g;exact hy (g.symm.trans e.symm);have h4:=List.pairwise_cons.1 aa.2;have h5:=h4.1 z' g;rw[<-e]at h5;exact hy (h.JQ _ _ (aa.1 y zs) h5))
theorem Bh(h:fo lt){l:List κ}(hw:Wk lt l):Ri lt ((runs l).map (·.1)):=by cases l with|nil=>simp[runs,Ri]|cons a t=>exact qE h t a 1 hw
theorem eK(h:fo lt)(l:List κ):Ri lt (aM lt l):=Bh h (gO h l)
theorem aZ(h:fo lt)(l:List κ)(x:κ):x∈aM lt l↔x∈l:=by unfold aM;rw[List.mem_map];constructor;rintro⟨⟨y,m⟩,hm,rfl⟩;exact(cQ l).mem_iff.1 ((nR h (gO h l) y m).1 hm).1;intro hx;exact⟨(x,(bI lt l).count x),(nR h (gO h l) _ _).2 ⟨(cQ l).mem_iff.2 hx,rfl⟩,rfl⟩
omit [DecidableEq κ]in
theorem kU(h:fo lt):∀{l m:List κ},Ri lt l->Ri lt m->(∀x,x∈l↔x∈m)->l=m
 |[],[],_,_,_=>rfl
 |[],y::m,_,_,e=>absurd ((e y).2 zs) zs
 |x::l,[],_,_,e=>absurd ((e x).1 zs) zs
 |x::l,y::m,hl,hm,e=>by have aa:=List.pairwise_cons.1 hl;have bd:=List.pairwise_cons.1 hm;(have bc:x=y:=by rcases List.mem_cons.1 ((e x).1 zs)with h1|h1;exact h1;·rcases List.mem_cons.1 ((e y).2 zs)with h2|h2;exact h2.symm;have:=h.trans _ _ _ (aa.1 y h2) (bd.1 x h1);rw[h.irrefl]at this;cases this);subst bc;congr 1;refine kU h aa.2 bd.2 λz=>?_;constructor;(·intro hz;rcases List.mem_cons.1 ((e z).1 (by simp[hz]))with g|g;subst g;have:=aa.1 z hz;rw[h.irrefl]at this;(cases this);exact g);·intro hz;rcases List.mem_cons.1 ((e z).2 (by simp[hz]))with g|g;subst g;have:=bd.1 z hz;rw[h.irrefl]at this;(cases this);exact g
theorem qm(h:fo lt){l m:List κ}(hm:Ri lt m)(he:∀x,x∈m↔x∈l):aM lt l=m:=
 kU h (eK h l) hm λx=>(aZ h l x).trans (he x).symm
theorem pK(h:fo lt){l m:List κ}(he:∀x,x∈l↔x∈m):aM lt l=aM lt m:=
 kU h (eK h l) (eK h m) λx=>(aZ h l x).trans ((he x).trans (aZ h m x).symm)
theorem cZ(_h:fo lt)(l:List κ):(aM lt l).length<=l.length:=by(have hA:∀(t:List κ)(a:κ)(n:Nat),(dw a n t).length<=t.length+1:=λt=>by induction t with|nil=>intro a n;simp[dw]|cons y t ih=>intro a n;unfold dw;split;have:=ih a (n+1);simp;omega;have:=ih y 1;simp;omega);(have hR:∀t:List κ,(runs t).length<=t.length:=λt=>by cases t with|nil=>simp[runs]|cons a t=>exact hA t a 1);unfold aM;rw[List.length_map];have:=hR (bI lt l);rwa [(cQ l).length_eq]at this
end
end
section
section
variable {γ : Type} [Inhabited γ]
def fC(L:List γ)(k:Nat):γ:=L[k]?.getD default
def fX(L:List γ)(i j:Nat):List γ:=(L.set i (fC L j)).set j (fC L i)
theorem dJ{L:List γ}{k:Nat}(h:k<L.length):fC L k=L[k]:=by unfold fC;rw[List.getElem?_eq_getElem h];rfl
theorem gy(L:List γ)(i j:Nat):(fX L i j).length=L.length:=by simp[fX]
theorem mi{L:List γ}{i j:Nat}(hi:i<L.length)(hj:j<L.length):(fX L i j).Perm L:=by have h:=Array.swap_perm (xs:=L.toArray) (i:=i) (j:=j) (by simpa using hi) JA;have h2:=h.toList;simp only[Array.swap,List.getElem_toArray,List.set_toArray]at h2;unfold fX;rw[dJ hi,dJ hj];exact h2
theorem iK{L:List γ}{i j:Nat}(hi:i<L.length)(hj:j<L.length)(k:Nat):fC (fX L i j) k=if k=j then fC L i else if k=i then fC L j else fC L k:=by unfold fX;(conv=>lhs;unfold fC);rw[List.getElem?_set,List.length_set,List.getElem?_set];by_cases h1:k=j;subst h1;simp[hj];rfl;·by_cases h2:k=i;subst h2;simp[hi,Ne.symm h1,h1];rfl;simp[Ne.symm h1,h1,Ne.symm h2,h2,fC]
theorem Cx(L:List γ)(i j k:Nat)(h1:k≠i)(h2:k≠j):(fX L i j)[k]?=L[k]?:=by unfold fX;rw[List.getElem?_set_ne (Ne.symm h2),List.getElem?_set_ne (Ne.symm h1)]
structure Wo(less:γ->γ->Bool):Prop where
 asymm:∀a b,less a b=true->less b a=false
 ntrans:∀a b c,less b a=false->less c b=false->less c a=false
 irrefl:∀a,less a a=false
variable {less : γ -> γ -> Bool}
def Hp(less:γ->γ->Bool)(s n:Nat)(L:List γ):Prop:=∀j,0<j->j<n->s<=(j-1)/2->less (fC L j) (fC L ((j-1)/2))=false
structure kA(less:γ->γ->Bool)(s n:Nat)(L0 L:List γ)(i:Nat):Prop where
 perm:L.Perm L0
 out:∀k,n<=k->L[k]?=L0[k]?
 le:s<=i
 hp:∀j,0<j->j<n->s<=(j-1)/2->(j-1)/2≠i->less (fC L j) (fC L ((j-1)/2))=false
 up:0<i->s<=(i-1)/2->∀j,0<j->j<n->(j-1)/2=i->less (fC L j) (fC L ((i-1)/2))=false
theorem kA.start{s n:Nat}{L:List γ}(h:Hp less (s+1) n L):kA less s n L L s:=
 ⟨.refl _,λ_ _=>rfl,Nat.le_refl _,λj h1 h2 h3 h4=>h j h1 h2 zo,λh1 h2=>zo⟩
def vM(less:γ->γ->Bool)(n:Nat)(L:List γ)(i:Nat):Nat:=if 2*i+2<n/\less (fC L (2*i+2)) (fC L (2*i+1))=true then 2*i+2 else 2*i+1
theorem FA(hw:Wo less){n i k:Nat}{L:List γ}(h0:0<k)(hk:k<n)(hp:(k-1)/2=i):less (fC L k) (fC L (vM less n L i))=false:=by unfold vM;(have:k=2*i+1\/k=2*i+2:=by omega);split;(·rename_i h;rcases this with rfl|rfl;exact hw.asymm _ _ h.2;exact hw.irrefl _);·rename_i h;rcases this with rfl|rfl;exact hw.irrefl _;·cases h2:less (fC L (2*i+2)) (fC L (2*i+1))with|false=>rfl|true=>exact absurd ⟨hk,h2⟩ h
theorem Kj{n i:Nat}{L:List γ}(h:2*i+1<n):vM less n L i<n/\i<vM less n L i/\(vM less n L i-1)/2=i:=by unfold vM;split;rename_i h2;omega;omega
theorem kA.K7{s n i:Nat}{L0 L:List γ}(h:kA less s n L0 L i)(hn:n<=2*i+1):Hp less s n L:=λj h1 h2 h3=>
 h.hp j h1 h2 h3 zo
theorem kA.ET(hw:Wo less){s n i:Nat}{L0 L:List γ}(h:kA less s n L0 L i)(hl:less (fC L (vM less n L i)) (fC L i)=false):Hp less s n L:=λj h1 h2 h3=>by by_cases hj:(j-1)/2=i;rw[hj];exact hw.ntrans _ _ _ hl (FA hw h1 h2 hj);exact h.hp j h1 h2 h3 hj
theorem kA.step(hw:Wo less){s n i:Nat}{L0 L:List γ}(h:kA less s n L0 L i)(hn:n<=L.length)(hk:2*i+1<n)(hl:less (fC L (vM less n L i)) (fC L i)=true):kA less s n L0 (fX L i (vM less n L i)) (vM less n L i):=by obtain⟨k1,k2,k3⟩:=Kj (less:=less) (L:=L) hk;have bd:=λk(h0:0<k)(h1:k<n)(h2:(k-1)/2=i)=>FA hw (L:=L) h0 h1 h2;generalize vM less n L i=j at*;have ba:=iK (L:=L) (i:=i) (j:=j) zo zo;refine⟨(mi zo zo).trans h.perm,λk cA=>(Cx L i j k zo zo).trans (h.out k cA),by have:=h.le;omega,λk h1 h2 h3 h4=>?_,λ_ _ k h1 h2 h3=>?_⟩;(·by_cases hp:(k-1)/2=i;(·rw[hp,ba i,if_neg zo,if_pos rfl,ba k];by_cases ah:k=j;rw[if_pos ah];exact hw.asymm _ _ hl;rw[if_neg ah,if_neg zo];exact bd k h1 h2 hp);·by_cases aj:k=i;subst aj;rw[ba k,if_neg zo,if_pos rfl,ba ((k-1)/2),if_neg zo,if_neg zo];exact h.up h1 h3 j zo k1 k3;rw[ba k,if_neg (by rintro rfl;exact hp k3),if_neg aj,ba ((k-1)/2),if_neg h4,if_neg hp];exact h.hp k h1 h2 h3 hp);·rw[k3,ba i,if_neg zo,if_pos rfl,ba k,if_neg zo,if_neg zo];have:=h.hp k h1 h2 (zu h.le) zo;rwa [h3]at this
theorem Hp.top(hw:Wo less){n:Nat}{L:List γ}(h:Hp less 0 n L):∀j,j<n->less (fC L j) (fC L 0)=false:=by intro j;induction j using Nat.strongRecOn with|ind j ih=>intro hj;by_cases h0:j=0;subst h0;exact hw.irrefl _;exact hw.ntrans _ _ _ (ih ((j-1)/2) zo zo) (h j zo hj zo)
theorem Hp.leaves(n:Nat)(L:List γ):Hp less (n/2) n L:=λj h1 h2 h3=>by omega
theorem Hp.set0{n:Nat}{L:List γ}(h:Hp less 0 n L)(x:γ):Hp less 1 n (L.set 0 x):=λj h1 h2 h3=>by have:=h j h1 h2 zo;unfold fC at*;rwa [List.getElem?_set_ne zo,List.getElem?_set_ne zo]
theorem Hp.Mq{n:Nat}{L:List γ}(h:Hp less 1 (n+1) L)(hn:L.length=n+1):Hp less 1 n (fX L 0 n):=λj h1 h2 h3=>by have:=h j h1 zo h3;have h4:=iK (L:=L) (i:=0) (j:=n) zo zo;rw[h4 j,if_neg zo,if_neg zo,h4 ((j-1)/2),if_neg zo,if_neg zo];exact this
theorem Hp.congr{s n:Nat}{L M:List γ}(h:Hp less s n L)(he:∀k,k<n->M[k]?=L[k]?):Hp less s n M:=λj h1 h2 h3=>by have:=h j h1 h2 h3;unfold fC at*;rwa [he j h2,he ((j-1)/2) zo]
end
section
variable {β κ : Type} {lt : κ -> κ -> Bool} (key : β -> κ)
def eM[Inhabited β](lt:κ->κ->Bool)(key:β->κ)(a b:List β):Bool:=lt (key (a.headD default)) (key (b.headD default))
theorem kE[Inhabited β](h:fo lt):Wo (eM lt key) where
 asymm _ _ e:=h.asymm e
 ntrans _ _ _ h1 h2:=h.ntrans h1 h2
 irrefl _:=h.irrefl _
structure eY[Inhabited β](lt:κ->κ->Bool)(key:β->κ)(all pre:List β)(L:List (List β)):Prop where
 perm:(pre++L.flatten).Perm all
 wk:Wk lt (pre.map key)
 le:∀x∈pre,∀y∈L.flatten,lt (key y) (key x)=false
 some:∀r∈L,r≠[]
 rows:∀r∈L,Wk lt (r.map key)
 hp:Hp (eM lt key) 0 L.length L
variable {key} [Inhabited β]
theorem eY.start{all:List β}{L M:List (List β)}(hm:L.Perm M)(hp:M.flatten.Perm all)(h1:∀r∈M,r≠[])(h2:∀r∈M,Wk lt (r.map key))(h3:Hp (eM lt key) 0 L.length L):eY lt key all [] L:=
 ⟨(hm.flatten).trans hp,List.Pairwise.nil,zs,λr hr=>h1 r (hm.mem_iff.1 hr),λr hr=>h2 r (hm.mem_iff.1 hr),h3⟩
theorem eY.least(h:fo lt){all pre:List β}{L:List (List β)}{x:β}{r:List β}{T:List (List β)}(hI:eY lt key all pre L)(hL:L=(x::r)::T):∀y∈L.flatten,lt (key y) (key x)=false:=by intro y hy;obtain⟨s,hs,a8⟩:=List.mem_flatten.1 hy;obtain⟨j,hj,e⟩:=List.mem_iff_getElem.1 hs;have aa:=hI.hp.top (kE key h) j hj;rw[dJ hj,e,dJ zo,show L[0]'zo=x::r from by simp[hL]]at aa;have hw:=hI.rows s hs;cases s with|nil=>simp at a8|cons a t=>(have h1:lt (key a) (key x)=false:=aa;rcases List.mem_cons.1 a8 with rfl|ad;exact h1;have h2:=(List.pairwise_cons.1 hw).1 (key y) (List.mem_map.2 ⟨y,ad,rfl⟩);exact h.ntrans h1 h2)
theorem eY.told(h:fo lt){all pre:List β}{L:List (List β)}{x:β}{r:List β}{T:List (List β)}(hI:eY lt key all pre L)(hL:L=(x::r)::T):(pre.map key++[key x])<+:bI lt (all.map key):=by have hle:=hI.least h hL;(have hp:((pre.map key++[key x])++(r++T.flatten).map key).Perm (all.map key):=by have:=hI.perm.map key;rw[hL]at this;exact Ig);rw[xm h hp ?_ ?_];exact List.prefix_append _ _;refine List.pairwise_append.2 ⟨hI.wk,List.pairwise_singleton _ _,λa ha b hb=>?_⟩;obtain⟨a',aa,rfl⟩:=List.mem_map.1 ha;simp only[List.mem_singleton]at hb;subst hb;exact hI.le a' aa x (by rw[hL];simp);·intro a ha b hb;obtain⟨b',e1,rfl⟩:=List.mem_map.1 hb;(have ad:b'∈L.flatten:=by rw[hL];simp at e1⊢;rcases e1 with g|g;exact .inr (.inl g);exact .inr (.inr g));rcases List.mem_append.1 ha with ha|ha;obtain⟨a',aa,rfl⟩:=List.mem_map.1 ha;exact hI.le a' aa b' ad;simp only[List.mem_singleton]at ha;subst ha;exact hle b' ad
theorem eY.done(h:fo lt){all pre:List β}(hI:eY lt key all pre []):pre.map key=bI lt (all.map key):=by have:=hI.perm;simp only[List.flatten_nil,List.append_nil]at this;exact(wX h (this.map key) hI.wk).symm
theorem eY.next(h:fo lt){all pre:List β}{L:List (List β)}{x:β}{r:List β}{T M:List (List β)}(hI:eY lt key all pre L)(hL:L=(x::r)::T)(hM:M.Perm (if r=[]then T else r::T))(hp:Hp (eM lt key) 0 M.length M):eY lt key all (pre++[x]) M:=by have hle:=hI.least h hL;(have bp:M.flatten.Perm (r++T.flatten):=by refine hM.flatten.trans ?_;split;rename_i e;subst e;exact .refl _;exact .refl _);(have bz:∀y∈M.flatten,y∈L.flatten:=λy hy=>by have:=bp.mem_iff.1 hy;rw[hL];simp at this⊢;rcases this with g|g;exact .inr (.inl g);exact .inr (.inr g));(have bm:∀s∈M,s≠[]/\Wk lt (s.map key):=λs hs=>by have:=hM.mem_iff.1 hs;split at this;exact⟨hI.some s (by rw[hL];simp[this]),hI.rows s (by rw[hL];simp[this])⟩;·rename_i e;rcases List.mem_cons.1 this with rfl|g;refine⟨e,?_⟩;have:=hI.rows (x::s) (by rw[hL];simp);exact(List.pairwise_cons.1 this).2;exact⟨hI.some s (by rw[hL];simp[g]),hI.rows s (by rw[hL];simp[g])⟩);refine⟨?_,?_,?_,λs hs=>(bm s hs).1,λs hs=>(bm s hs).2,hp⟩;refine List.Perm.trans ?_ hI.perm;rw[hL,List.append_assoc];refine List.Perm.append_left pre ?_;simp only[List.flatten_cons,List.cons_append,List.nil_append];exact bp.cons x;rw[List.map_append];refine List.pairwise_append.2 ⟨hI.wk,List.pairwise_singleton _ _,λa ha b hb=>?_⟩;obtain⟨a',aa,rfl⟩:=List.mem_map.1 ha;simp only[List.map_cons,List.map_nil,List.mem_singleton]at hb;subst hb;exact hI.le a' aa x (by rw[hL];simp);·intro a ha b hb;rcases List.mem_append.1 ha with ha|ha;exact hI.le a ha b (bz b hb);simp only[List.mem_singleton]at ha;subst ha;exact hle b (bz b hb)
end
end
section
open Go.RowKit
structure sZ{γ:Type}[Inhabited γ](τ:TypeId)(a:Addr)(fN fL fS fP:FuncId)(less:γ->γ->Bool)(Ne:γ->Prop)(St:List γ->World->Prop):Prop where
 wo:Wo less
 mN:∀w,(method 454 τ (.pointer (some a)) "Len").run Tryz.prog w=.ok (fN,.pointer (some a)) w
 mL:∀w,(method 454 τ (.pointer (some a)) "Less").run Tryz.prog w=.ok (fL,.pointer (some a)) w
 mS:∀w,(method 454 τ (.pointer (some a)) "Swap").run Tryz.prog w=.ok (fS,.pointer (some a)) w
 mP:∀w,(method 454 τ (.pointer (some a)) "Pop").run Tryz.prog w=.ok (fP,.pointer (some a)) w
 eN:∀args w,(callFunc fN args).run Tryz.prog w=.ok (.enter fN args) w
 eL:∀args w,(callFunc fL args).run Tryz.prog w=.ok (.enter fL args) w
 eS:∀args w,(callFunc fS args).run Tryz.prog w=.ok (.enter fS args) w
 eP:∀args w,(callFunc fP args).run Tryz.prog w=.ok (.enter fP args) w
 drew:∀L w q,St L w->St L (w.drewN q)
 eH:∀L w,St L w->L.length<=1000000
 len:∀L w,St L w->Calls Tryz.prog fN #[.pointer (some a)] w λe w'=>e=.returned (.int .i64 (L.length:Nat))/\w=w'
 lss:∀L w(i j:Int),St L w->0<=i->i<(L.length:Nat)->0<=j->j<(L.length:Nat)->Ne (fC L i.toNat)->Ne (fC L j.toNat)->Calls Tryz.prog fL #[.pointer (some a),.int .i64 i,.int .i64 j] w (gR w (less (fC L i.toNat) (fC L j.toNat)))
 swp:∀L w(i j:Int),St L w->0<=i->i<(L.length:Nat)->0<=j->j<(L.length:Nat)->Calls Tryz.prog fS #[.pointer (some a),.int .i64 i,.int .i64 j] w λe w'=>e=.returned (.tuple #[])/\St (fX L i.toNat j.toNat) w'
 pop:∀L w,St L w->L≠[]->Calls Tryz.prog fP #[.pointer (some a)] w λe w'=>(∃v,e=.returned v)/\St L.dropLast w'
def J0{γ:Type}[Inhabited γ](less:γ->γ->Bool)(St:List γ->World->Prop)(L0:List γ)(s n:Nat)(e:Ending)(w':World):Prop:=
 ∃(b:Bool)(L:List γ),e=.returned (.bool b)/\St L w'/\Hp less s n L/\L.Perm L0/\∀k,n<=k->L[k]?=L0[k]?
theorem Gq{p:Prop}(h:p:=by rw[iK zo zo j];split;exact a8.out _ zo;split;exact a8.out _ zo;exact a8.out _ hj):p:=h
theorem L8{p:Prop}(h:p:=by rw[ad.out]at bb;(have bW:Hid (∀j,j<n->Ne (fC (fX L k (2*k+1)) j)):=λj hj=>Gq);have an:=Lib.hid (H.swp L _ (k:Int) (2*(k:Int)+1) aa zo zo zo zo);rw[show(2*(k:Int)+1).toNat=2*k+1 from zo,show((k:Int)).toNat=k from zo]at an;clear ad bf hd aa;go_wp2_with fail;refine an.out.mono ?_;rintro e w3 ⟨rfl,ai⟩;clear an;go_wp2_with fail;go_roundg (n-(2*k+1));(case measure=>omega);case rel=>exact⟨2*k+1,_,zo,by go_num,ai,bb,bW.out⟩):p:=h
theorem tg{p:Prop}(h:p:=by rw[ad.out];exact bf.out):p:=h
theorem rC{γ:Type}[Inhabited γ]{τ:TypeId}{a:Addr}{fN fL fS fP:FuncId}{less:γ->γ->Bool}{Ne:γ->Prop}{St:List γ->World->Prop}(H:sZ τ a fN fL fS fP less Ne St)(L0:List γ)(w:World)(bo:St L0 w)(s n:Nat)(hn:n<=L0.length)(hs:s<=n)(er:Hp less (s+1) n L0)(bz:∀k,k<n->Ne (fC L0 k)):Calls Tryz.prog 237 #[.iface τ (.pointer (some a)),.int .i64 s,.int .i64 n] w (J0 less St L0 s n):=by have cx:n<=1000000:=Nat.le_trans hn (H.eH _ _ bo);have mL:=H.mL;have mS:=H.mS;have eL:=H.eL;have eS:=H.eS;have hD:=kA.start er;go_enter Tryz.func237,Tryz.ntmps237;go_wp2_with fail;go_loopg [7] (n-s) (λg i wr=>∃(k:Nat)(L:List γ),k+g=n/\i=.int .i64 k/\St L wr/\kA less s n L0 L k/\∀k,k<n->Ne (fC L k));(case atStart=>exact⟨s,L0,zo,rfl,bo,hD,bz⟩);case round=>obtain⟨k,L,hk,rfl,be,hd,bd⟩:=hrel;have a8:=Lib.hid bd;clear er bo hD bz bd;have hlen:L.length=L0.length:=hd.perm.length_eq;(have e5:n<=L.length:=by omega);clear hlen;by_cases h1:2*k+1<n;(·by_cases h2:2*k+2<n;(·obtain⟨b1,aj⟩:∃b1,less (fC L (2*k+2)) (fC L (2*k+1))=b1:=⟨_,rfl⟩;have a7:=Lib.hid (H.lss L wr (2*(k:Int)+1+1) (2*(k:Int)+1) be zo zo zo zo (a8.out _ zo) (a8.out _ zo));rw[show(2*(k:Int)+1+1).toNat=2*k+2 from zo,show(2*(k:Int)+1).toNat=2*k+1 from zo,aj]at a7;have ba:=Lib.hid aj;clear aj;go_wp2_with fail;refine a7.out.mono ?_;rintro e w1 ⟨rfl,q1,rfl⟩;have bm:=H.drew _ _ q1 be;clear a7 be;cases b1 with|true=>((have ah:vM less n L k=2*k+2:=by unfold vM;rw[if_pos ⟨h2,ba.out⟩]);obtain⟨b2,aG⟩:∃b2,less (fC L (2*k+2)) (fC L k)=b2:=⟨_,rfl⟩;have a6:=Lib.hid (H.lss L _ (2*(k:Int)+1+1) (k:Int) bm zo zo zo zo (a8.out _ zo) (a8.out _ zo));rw[show(2*(k:Int)+1+1).toNat=2*k+2 from zo,show((k:Int)).toNat=k from zo,aG]at a6;have bf:=Lib.hid aG;have ad:=Lib.hid ah;clear aG ba ah;go_wp2_with fail;refine a6.out.mono ?_;rintro e w2 ⟨rfl,q2,rfl⟩;have aa:=H.drew _ _ q2 bm;rw[World.drewN_drewN]at aa;clear a6 bm;cases b2 with|true=>(have bb:=hd.step H.wo e5 h1 tg;rw[ad.out]at bb;(have bW:Hid (∀j,j<n->Ne (fC (fX L k (2*k+2)) j)):=λj hj=>Gq);have an:=Lib.hid (H.swp L _ (k:Int) (2*(k:Int)+1+1) aa zo zo zo zo);rw[show(2*(k:Int)+1+1).toNat=2*k+2 from zo,show((k:Int)).toNat=k from zo]at an;clear ad bf hd aa;go_wp2_with fail;refine an.out.mono ?_;rintro e w3 ⟨rfl,ai⟩;clear an;go_wp2_with fail;go_roundg (n-(2*k+2));(case measure=>omega);case rel=>exact⟨2*k+2,_,zo,by go_num,ai,bb,bW.out⟩)|false=>have hp:=hd.ET H.wo tg;have cn:=hd.perm;have bc:=Lib.hid hd.out;clear ad bf hd;go_wp2_with fail;go_ret;exact⟨_,L,rfl,aa,hp,cn,bc.out⟩)|false=>((have ah:vM less n L k=2*k+1:=by unfold vM;rw[if_neg (λe=>by have:=e.2;rw[ba.out]at this;cases this)]);obtain⟨b2,aG⟩:∃b2,less (fC L (2*k+1)) (fC L k)=b2:=⟨_,rfl⟩;have a6:=Lib.hid (H.lss L _ (2*(k:Int)+1) (k:Int) bm zo zo zo zo (a8.out _ zo) (a8.out _ zo));rw[show(2*(k:Int)+1).toNat=2*k+1 from zo,show((k:Int)).toNat=k from zo,aG]at a6;have bf:=Lib.hid aG;have ad:=Lib.hid ah;clear aG ba ah;go_wp2_with fail;refine a6.out.mono ?_;rintro e w2 ⟨rfl,q2,rfl⟩;have aa:=H.drew _ _ q2 bm;rw[World.drewN_drewN]at aa;clear a6 bm;cases b2 with|true=>(have bb:=hd.step H.wo e5 h1 tg;exact L8)|false=>have hp:=hd.ET H.wo tg;have cn:=hd.perm;have bc:=Lib.hid hd.out;clear ad bf hd;go_wp2_with fail;go_ret;exact⟨_,L,rfl,aa,hp,cn,bc.out⟩));·(have ah:vM less n L k=2*k+1:=by unfold vM;rw[if_neg (λe=>h2 e.1)]);obtain⟨b2,aG⟩:∃b2,less (fC L (2*k+1)) (fC L k)=b2:=⟨_,rfl⟩;have a6:=Lib.hid (H.lss L wr (2*(k:Int)+1) (k:Int) be zo zo zo zo (a8.out _ zo) (a8.out _ zo));rw[show(2*(k:Int)+1).toNat=2*k+1 from zo,show((k:Int)).toNat=k from zo,aG]at a6;have bf:=Lib.hid aG;have ad:=Lib.hid ah;clear aG ah;go_wp2_with fail;refine a6.out.mono ?_;rintro e w2 ⟨rfl,q2,rfl⟩;have aa:=H.drew _ _ q2 be;clear a6 be;cases b2 with|true=>(have bb:=hd.step H.wo e5 h1 tg;exact L8)|false=>have hp:=hd.ET H.wo tg;have cn:=hd.perm;have bc:=Lib.hid hd.out;clear ad bf hd;go_wp2_with fail;go_ret;exact⟨_,L,rfl,aa,hp,cn,bc.out⟩);·have hp:=hd.K7 zo;have cn:=hd.perm;have bc:=Lib.hid hd.out;clear hd;go_wp2_with fail;go_ret;exact⟨_,L,rfl,be,hp,cn,bc.out⟩
end
section
open Go.RowKit
def zz{γ:Type}[Inhabited γ](less:γ->γ->Bool)(St:List γ->World->Prop)(L0:List γ)(e:Ending)(w':World):Prop:=
 ∃(v:Value)(L:List γ),e=.returned v/\St L w'/\Hp less 0 L.length L/\L.Perm L0
section
variable {γ : Type} [Inhabited γ] {τ : TypeId} {a : Addr} {fN fL fS fP : FuncId} {less : γ -> γ -> Bool} {Ne : γ -> Prop} {St : List γ -> World -> Prop}
theorem G5(w:World):Calls Tryz.prog 238 #[.iface τ (.pointer (some a)),.int .i64 0] w λe w'=>e=.returned (.tuple #[])/\w=w':=by(have hq:IntKind.i64.wrap (Int.tdiv (-1) 2)=0:=by decide);go_enter Tryz.func238,Tryz.ntmps238;go_wp2_with fail;go_loop [1] (λi=>i=.int .i64 0) (λ_=>0);(case atStart=>rfl);case round=>subst hrel;go_wp2_with fail;go_end0;exact⟨rfl,rfl⟩
theorem BJ(H:sZ τ a fN fL fS fP less Ne St)(L0:List γ)(w:World)(bo:St L0 w)(er:Hp less 1 L0.length L0)(bz:∀r∈L0,Ne r):Calls Tryz.prog 198 #[.iface τ (.pointer (some a)),.int .i64 0] w (zz less St L0):=by have mN:=H.mN;have eN:=H.eN;have hN:=Lib.hid (H.len _ _ bo);have hD:=Lib.hid (rC H L0 w bo 0 L0.length (Nat.le_refl _) (Nat.zero_le _) er (λk hk=>by rw[dJ hk];exact bz _ (List.getElem_mem hk)));obtain⟨n,hn⟩:∃n,L0.length=n:=⟨_,rfl⟩;rw[hn]at hN hD;have HN:=Lib.hid hn;clear er hn bo bz;go_enter Tryz.func198,Tryz.ntmps198;go_wp2_with fail;refine hN.out.mono ?_;rintro e w' ⟨rfl,rfl⟩;go_wp2_with fail;refine hD.out.mono ?_;rintro e w' ⟨b,L,rfl,be,hp,bf,-⟩;rw[<-HN.out,<-bf.length_eq]at hp;clear hN hD mN eN;cases b with|true=>go_wp2_with fail;go_end0;exact⟨_,L,rfl,be,hp,bf⟩|false=>(go_wp2_with fail;refine(G5 _).mono ?_;rintro e w2 ⟨rfl,rfl⟩;go_wp2_with fail;go_end0;exact⟨_,L,rfl,be,hp,bf⟩)
theorem wZ(H:sZ τ a fN fL fS fP less Ne St)(L0:List γ)(w:World)(bo:St L0 w)(bz:∀r∈L0,Ne r):Calls Tryz.prog 196 #[.iface τ (.pointer (some a))] w (zz less St L0):=by have mN:=H.mN;have eN:=H.eN;have hN:=Lib.hid (H.len _ _ bo);have h6:=H.eH _ _ bo;have ah:=Hp.leaves (less:=less) L0.length L0;have b5:=Lib.hid bz;clear bz;obtain⟨n,hn⟩:∃n,L0.length=n:=⟨_,rfl⟩;rw[hn]at hN h6 ah;have HN:=Lib.hid hn;clear hn;go_enter Tryz.func196,Tryz.ntmps196;go_wp2_with fail;refine hN.out.mono ?_;rintro e w' ⟨rfl,rfl⟩;go_wp2_with fail;go_loopg [3] (n/2) (λg i wr=>∃(L:List γ),i=.int .i64 ((g:Int)-1)/\g<=n/2/\St L wr/\Hp less g n L/\L.Perm L0);(case atStart=>exact⟨L0,by first|rfl|(congr 1;omega),Nat.le_refl _,bo,ah,.refl _⟩);case round=>obtain⟨L,rfl,hg,be,hp,bf⟩:=hrel;clear hN bo ah mN eN;(have hlen:L.length=n:=by rw[bf.length_eq];exact HN.out);by_cases h0:1<=gk;(·have hD:=Lib.hid (rC H L wr be (gk-1) n zo zo (by rw[show gk-1+1=gk from zo];exact hp) (λk hk=>by rw[dJ zo];exact b5.out _ (bf.mem_iff.1 (List.getElem_mem _))));(have hc:(((gk-1:Nat):Int))=(gk:Int)-1:=by omega);rw[hc]at hD;clear hc be hlen;go_wp2_with fail;refine hD.out.mono ?_;rintro e w' ⟨b,L2,rfl,aa,an,ad,-⟩;clear hD;go_wp2_with fail;go_roundg (gk-1);(case measure=>omega);case rel=>exact⟨L2,by congr 1;omega,zo,aa,an,ad.trans bf⟩);·(have e8:gk=0:=by omega);(have bL:Hp less 0 L.length L:=by rw[hlen];rw[e8]at hp;exact hp);clear hlen e8 hp;go_wp2_with fail;go_end0;exact⟨_,L,rfl,be,bL,bf⟩
theorem pZ(H:sZ τ a fN fL fS fP less Ne St)(x:γ)(T:List γ)(w:World)(bo:St (x::T) w)(er:Hp less 1 (x::T).length (x::T))(bz:∀r∈T,Ne r):Calls Tryz.prog 197 #[.iface τ (.pointer (some a))] w (zz less St T):=by have mN:=H.mN;have eN:=H.eN;have mS:=H.mS;have eS:=H.eS;have mP:=H.mP;have eP:=H.eP;have hN:=Lib.hid (H.len _ _ bo);have h6:=H.eH _ _ bo;obtain⟨n,hn⟩:∃n,T.length=n:=⟨_,rfl⟩;(have hlen:(x::T).length=n+1:=by simp[hn]);have hS:=Lib.hid (H.swp _ _ 0 (n:Int) bo zo zo zo zo);rw[show(0:Int).toNat=0 from rfl,Int.toNat_natCast]at hS;obtain⟨M,hM⟩:∃M,fX (x::T) 0 n=M:=⟨_,rfl⟩;(have cn:M.Perm (x::T):=by rw[<-hM];exact mi zo zo);(have ah:M[n]?=some x:=by have h1:=iK (L:=x::T) (i:=0) (j:=n) zo zo n;rw[hM,if_pos rfl]at h1;(have h2:n<M.length:=by rw[cn.length_eq];omega);rw[List.getElem?_eq_getElem h2,<-dJ h2,h1];rfl);(have aG:Hp less 1 n M:=by rw[<-hM];rw[hlen]at er;exact er.Mq hlen);(have ba:∀k,k<n->Ne (fC M k):=λk hk=>by rw[<-hM,iK zo zo k,if_neg zo];(have hT:∀j,j<T.length->Ne (fC (x::T) (j+1)):=λj hj=>by rw[dJ zt];exact bz _ zs);split;(·have:=hT (n-1) zo;rwa [show n-1+1=n from zo]at this);·have:=hT (k-1) zo;rwa [show k-1+1=k from zo]at this);have bb:=Lib.hid ba;clear ba bz;rw[hM]at hS;rw[hlen]at hN h6;(have bN:M.length=n+1:=by rw[cn.length_eq];exact hlen);have bY:=Lib.hid bN;have a7:=Lib.hid ah;(have bd:(((n+1:Nat):Int))-1=(n:Int):=by omega);clear er hn hM bo hlen bN ah;go_enter Tryz.func197,Tryz.ntmps197;go_wp2_with fail;refine hN.out.mono ?_;rintro e w' ⟨rfl,rfl⟩;go_wp2_with fail;refine hS.out.mono ?_;rintro e w1 ⟨rfl,bm⟩;have hD:=Lib.hid (rC H M w1 bm 0 n (zu bY.out) zo aG bb.out);clear hN hS bm aG;go_wp2_with fail;refine hD.out.mono ?_;rintro e w2 ⟨b,L,rfl,aa,an,ad,aj⟩;(have bf:L.length=n+1:=by rw[ad.length_eq];exact bY.out);have bc:L[n]?=some x:=(aj n (Nat.le_refl _)).trans a7.out;(have a6:L=L.dropLast++[x]:=by(have a8:L≠[]:=λe=>by rw[e]at bf;simp at bf);have h1:=(List.dropLast_concat_getLast a8).symm;(have h2:L.getLast a8=x:=by rw[List.getLast_eq_getElem];have h3:L[n]?=some (L[n]'zo):=List.getElem?_eq_getElem _;rw[bc]at h3;have h4:=Option.some.inj h3;rw[h4];congr 1;omega);rw[h2]at h1;exact h1);(have hT:L.dropLast.Perm T:=by(have h1:(L.dropLast++[x]).Perm (x::T):=by rw[<-a6];exact ad.trans cn);have h2:(x::L.dropLast).Perm (L.dropLast++[x]):=(List.perm_append_singleton x L.dropLast).symm;exact(h2.trans h1).cons_inv);(have en:Hp less 0 L.dropLast.length L.dropLast:=by(have h3:L.dropLast.length=n:=by rw[List.length_dropLast];omega);rw[h3];exact an.congr λk hk=>by rw[List.getElem?_dropLast,if_pos zo]);have hP:=Lib.hid (H.pop _ _ aa (λe=>by rw[e]at bf;simp at bf));clear hD aj bf bc a6 an aa;go_wp2_with fail;refine hP.out.mono ?_;rintro e w3 ⟨⟨v,rfl⟩,ai⟩;clear hP;go_wp2_with fail;go_ret;exact⟨_,_,rfl,ai,en,hT⟩
end
end
namespace KB
open Go.RowKit
abbrev El:=Item×(Option Addr×Nat)
abbrev Key:=Item
instance:Inhabited El:=⟨([],(none,0))⟩
def val(y:El):Value:=.slice y.2.1 y.1.length y.2.2
def key(y:El):Key:=y.1
def lt(a b:Key):Bool:=ahead a b
def fZ(x y:El):Int:=Lib.compareBytes x.1 y.1
structure gp(m:Nat->Prop)(w:World)(x:El):Prop where
 aD:ag m w x.2.1 (bv x.1)
 cap:x.1.length<=x.2.2
theorem gp.keep{m:Nat->Prop}{w w':World}{x:El}(h:gp m w x)(hk:Kept m w w'):gp m w' x:=⟨h.aD.keep hk,h.cap⟩
theorem gp.mono{m m':Nat->Prop}{w:World}{x:El}(h:gp m w x)(hm:∀k,m k->m' k):gp m' w x:=⟨h.aD.mono hm,h.cap⟩
theorem ordr:fo lt where
 irrefl a:=jE a
 trans _ _ _ h1 h2:=e7 h1 h2
 JQ _ _ h1 h2:=C9 h1 h2
theorem fQ(x y:El):decide (fZ x y<0)=lt (key x) (key y):=Go.Proofs.YtalmnodgjjcefaaGreatDoor.fQ x.1 y.1
theorem zw(x y:El):fZ x y=0↔key x=key y:=by unfold fZ key;exact⟨λh=>vW x.1 y.1 h,λh=>by rw[h];exact xJ y.1⟩
theorem val_one(x:El):(val x).oneCell'=true:=rfl
def bB:FuncId:=134
theorem jI(args:Array Value)(w:World):(callFunc bB args).run Tryz.prog w=.ok (.enter bB args) w:=enters_of Tryz.func134 zk rfl args w
theorem nu{m:Nat->Prop}(x y:El)(w:World)(hx:gp m w x)(hy:gp m w y)(hm:∀k,m k->k<w.1.size):
  Calls Tryz.prog bB #[val x,val y] w λe w'=>e=.returned (.int .i64 (fZ x y))/\w=w':=
 eZ x.2.1 y.2.1 x.1.length y.1.length x.2.2 y.2.2 x.1 y.1 rfl rfl w (hx.aD.aD hm) (hy.aD.aD hm)
end KB
theorem Cu{p:Prop}(h:p:=by obtain⟨v,vs,h1,h2,h3,h4⟩:=h.out;refine⟨⟨v,vs,(hk P (.inl h.at_)).trans h1,ao h2 λk e=>hk k (.inl (h3 k e).1),h3,λi hi=>?_⟩,h.at_,λr hr x hx=>(h.ok r hr x hx).keep (hk.mono λk e=>.inr e),h.apart,λk e=>Nat.lt_of_lt_of_le (h.lt k e) hs,h.eH⟩;obtain⟨Ai,ci,g1,g2,g3⟩:=h4 i hi;exact⟨Ai,ci,g1,g2,g3.keep (hk.mono λk e=>.inl e.1)⟩):p:=h
theorem qA{p:Prop}(h:p:=by exact⟨ad,e1,trivial,by simpa[Addr.add]using this⟩):p:=h
theorem Bp{p:Prop}(h:p:=by obtain⟨Ai,ci,g1,g2,g3⟩:=h4 i hi;exact⟨Ai,ci,g1,g2,g3.mono λk e=>⟨e.1,e.2.1,λe2=>e.2.2 (by rw[e2];rfl)⟩⟩):p:=h
namespace KB
open Go.RowKit
structure aL(m q:Nat->Prop)(w:World)(base P:Nat)(L:List (List El)):Prop where
 out:∃(v:Value)(vs:List Value),w.heap[P]?=some (.cells #[v,.func (.func bB) #[] #[]] 283 (0,0))/\w.ownsRow base 47 1 v L.length vs/\(∀k,v.ownBlock=some k->q k/\k≠P)/\
  ∀i(hi:i<L.length),∃Ai ci,vs[i]?=some (.slice Ai (L[i]).length ci)/\(L[i]).length<=ci/\ag (λk=>q k/\k≠P/\v.ownBlock≠some k) w Ai ((L[i]).map val)
 at_:q P
 ok:∀r∈L,∀x∈r,gp m w x
 apart:∀k,m k->¬q k
 lt:∀k,q k\/m k->k<w.1.size
 eH:L.length<=1000000
section
variable {m q : Nat -> Prop} {w w' : World} {base P : Nat} {L : List (List El)}
theorem aL.keep(h:aL m q w base P L)(hk:Kept (λk=>q k\/m k) w w')(hs:w.1.size<=w'.1.size):aL m q w' base P L:=Cu
theorem aL.drewN(h:aL m q w base P L)(n:Nat):aL m q (w.drewN n) base P L:=h.keep (Kept.drewN _ _ _) (Nat.le_refl _)
theorem aL.some(h:aL m q w base P L)(hL:0<L.length):∃g cap vs,w.heap[P]?=some (.cells #[.slice (some ⟨g,0,none⟩) L.length cap,.func (.func bB) #[] #[]] 283 (0,0))/\w.ownsRow base 47 1 (.slice (some ⟨g,0,none⟩) L.length cap) L.length vs/\q g/\g≠P/\L.length<=cap/\∀i(hi:i<L.length),∃Ai ci,vs[i]?=some (.slice Ai (L[i]).length ci)/\(L[i]).length<=ci/\ag (λk=>q k/\k≠P/\k≠g) w Ai ((L[i]).map val):=by obtain⟨v,vs,h1,h2,h3,h4⟩:=h.out;rcases h2.2 with⟨rfl,hn⟩|⟨g,cap,cur,rfl,-,-,hc,-⟩;omega;refine⟨g,cap,vs,h1,h2,(h3 g rfl).1,(h3 g rfl).2,hc,λi hi=>?_⟩;exact Bp
theorem aJ{g:Nat}{cs:Array Value}{t:TypeId}(h:w.heap[g]?=some (.cells cs t (0,0)))(j:Nat):w.cell? ⟨g,j,none⟩=cs[j]?/\w.frozen? ⟨g,j,none⟩=false:=by simp[World.cell?,World.frozen?,h]
theorem uB(h:aL m q w base P L):Calls Tryz.prog 330 #[.pointer (some ⟨P,0,none⟩)] w λe w'=>e=.returned (.int .i64 (L.length:Nat))/\w=w':=by obtain⟨v,vs,h1,h2,h3,h4⟩:=h.out;have hc0:=(aJ h1 0).1;(have b4:∃A c,v=.slice A L.length c:=by rcases h2.2 with⟨rfl,hn⟩|⟨g,cap,cur,rfl,-⟩;exact⟨none,0,by rw[hn]⟩;exact⟨_,cap,rfl⟩);obtain⟨A,c,rfl⟩:=b4;simp only[List.getElem?_toArray,List.getElem?_cons_zero]at hc0;clear h1 h2 h3 h4 h;go_enter Tryz.func330,Tryz.ntmps330;exact KN
theorem rE(h:aL m q w base P L)(i j:Int)(bh:0<=i)(hi:i<(L.length:Nat))(eg:0<=j)(hj:j<(L.length:Nat))(aj:fC L i.toNat≠[])(an:fC L j.toNat≠[]):Calls Tryz.prog 331 #[.pointer (some ⟨P,0,none⟩),.int .i64 i,.int .i64 j] w (gR w (eM lt key (fC L i.toNat) (fC L j.toNat))):=by obtain⟨i,rfl⟩:=Int.eq_ofNat_of_zero_le bh;obtain⟨j,rfl⟩:=Int.eq_ofNat_of_zero_le eg;rw[Int.toNat_natCast]at aj an;rw[Int.toNat_natCast,Int.toNat_natCast];(have ai:i<L.length:=by omega);(have ah:j<L.length:=by omega);obtain⟨g,cap,vs,h1,h2,h3,h4,h5,h6⟩:=h.some zo;obtain⟨Ai,ci,i1,i2,i3⟩:=h6 i ai;obtain⟨Aj,cj,j1,j2,j3⟩:=h6 j ah;rw[dJ ai]at aj;rw[dJ ah]at an;have a6:=h.ok _ (List.getElem_mem ai);have aG:=h.ok _ (List.getElem_mem ah);rw[dJ ai,dJ ah];have ei:=World.ownsRow.cellAt h2 i zo;have ej:=World.ownsRow.cellAt h2 j zo;rw[i1]at ei;rw[j1]at ej;generalize L[i]=ri at*;generalize L[j]=rj at*;cases ri with|nil=>exact absurd rfl aj|cons x ri=>(cases rj with|nil=>exact absurd rfl an|cons y rj=>(have a7:∀k,m k->k<w.1.size:=λk e=>h.lt k (.inr e);have aa:=λn=>Lib.hid (nu (m:=m) x y (w.drewN n) ((a6 x zs).keep (Kept.drewN _ _ _)) ((aG y zs).keep (Kept.drewN _ _ _)) a7);have bc:eM lt key (x::ri) (y::rj)=decide (fZ x y<0):=(fQ x y).symm;rw[bc];(have ii:0<(ri.length+1:Nat):=by omega);(obtain⟨ba,rfl,-,xi⟩:∃ad,Ai=some ad/\True/\w.cell? ad=some (val x):=by rcases i3.out with e|⟨ad,e1,-,e2⟩;simp at e;have:=e2 0 (val x) zs;exact qA);(obtain⟨a8,rfl,-,xj⟩:∃ad,Aj=some ad/\True/\w.cell? ad=some (val y):=by rcases j3.out with e|⟨ad,e1,-,e2⟩;simp at e;have:=e2 0 (val y) zs;exact qA);have p0:=(aJ h1 0).1;have p1:=(aJ h1 1).1;simp only[List.getElem?_toArray,List.getElem?_cons_zero,List.getElem?_cons_succ]at p0 p1;obtain⟨N,hN⟩:∃N,L.length=N:=⟨_,rfl⟩;rw[hN]at p0 h5 hi hj;simp only[List.length_cons]at ei ej i2 j2;generalize fZ x y=r at aa⊢;generalize val x=vx at aa xi;generalize val y=vy at aa xj;unfold bB at p1 aa;clear hN h1 h2 h6 i3 j3 aj an a6 aG bc ai ah i1 j1 h a7 bh eg;go_enter Tryz.func331,Tryz.ntmps331;go_wp2;go_quiet ((refine(aa _).out.mono ?_;rintro e w' ⟨rfl,rfl⟩;exact⟨rfl,_,rfl⟩));go_wp2;go_ret;exact⟨rfl,_,rfl⟩))
end
end KB
theorem Nv{p:Prop}(h:p:=by refine key.mono λe w' ⟨he,hw⟩=>⟨he,?_,?_⟩;(·obtain⟨s1,g1⟩:=World.ownsRow.stored h2 i (.slice Aj (L[j]).length cj);obtain⟨s2,g2⟩:=World.ownsRow.stored s1 j (.slice Ai (L[i]).length ci);(have aj:Kept (λk=>k≠g) w w':=λk hk=>by rw[hw.heap];exact(Below.heap_setCell _ _ _ _ hk).trans (Below.heap_setCell _ _ _ _ hk));(have hz:w'.1.size=w.1.size:=by rw[hw.heap];simp);refine⟨⟨.slice (some ⟨g,0,none⟩) L.length cap,(vs.set i (.slice Aj (L[j]).length cj)).set j (.slice Ai (L[i]).length ci),(aj P (Ne.symm h4)).trans ?_,ao (w:=(w.setCell ⟨g,i,none⟩ (.slice Aj (L[j]).length cj)).setCell ⟨g,j,none⟩ (.slice Ai (L[i]).length ci)) ?_ (λk _=>by rw[hw.heap]),?_,?_⟩,h.at_,?_,h.apart,λk e=>by rw[hz];exact h.lt k e,?_⟩;exact h1;rw[gy];exact s2;intro k e;obtain rfl:g=k:=Option.some.inj e;exact⟨h3,h4⟩;(·intro k hk;rw[gy]at hk;have hg:=iK ai ah k;rw[dJ (by rw[gy];exact hk)]at hg;have aa:∀{A:Option Addr}{xs:List Value},ag (λk=>q k/\k≠P/\k≠g) w A xs->ag (λk=>q k/\k≠P/\(Value.slice (some ⟨g,0,none⟩) L.length cap).ownBlock≠some k) w' A xs:=λhs=>(hs.keep (aj.mono λk e=>e.2.2)).mono λk e=>⟨e.1,e.2.1,λe2=>e.2.2 (Option.some.inj e2).symm⟩;rw[List.getElem?_set,List.length_set,List.getElem?_set];by_cases e1:k=j;rw[if_pos e1,dJ ai]at hg;rw[hg,if_pos e1.symm,if_pos zo];exact⟨Ai,ci,rfl,i2,aa i3⟩;·rw[if_neg e1]at hg;rw[if_neg (λe=>e1 e.symm)];by_cases e2:k=i;rw[if_pos e2,dJ ah]at hg;rw[hg,if_pos e2.symm,if_pos zo];exact⟨Aj,cj,rfl,j2,aa j3⟩;rw[if_neg e2,dJ hk]at hg;rw[hg,if_neg (λe=>e2 e.symm)];obtain⟨Ak,ck,k1,k2,k3⟩:=h6 k hk;exact⟨Ak,ck,k1,k2,aa k3⟩);intro r hr x hx;exact(h.ok r ((mi ai ah).mem_iff.1 hr) x hx).keep (aj.mono λk e e2=>h.apart k e (e2▸h3));rw[gy];exact h.eH);exact hw.turn ((ab.setCell _ _ _ h3).trans (ab.setCell _ _ _ h3))):p:=h
theorem Lf{p:Prop}(h:p:=by refine⟨⟨.slice (some ⟨g,0,none⟩) (L.length-1) cap,vs.dropLast,?_,?_,?_,?_⟩,h.at_,?_,h.apart,λk e=>by rw[hz];exact h.lt k e,by rw[List.length_dropLast];have:=h.eH;omega⟩;rw[hw.heap];have hP:=heap_setCell_same w P 0 _ _ (.slice (some ⟨g,0,none⟩) (L.length-1) cap) h1;rw[hP];rfl;rw[List.length_dropLast];exact ao bm λk e=>aj k (by obtain rfl:g=k:=Option.some.inj e;exact h4);intro k e;obtain rfl:g=k:=Option.some.inj e;exact⟨h3,h4⟩;intro k hk;rw[List.length_dropLast]at hk;obtain⟨Ak,ck,k1,k2,k3⟩:=h6 k zo;rw[List.getElem_dropLast,List.getElem?_dropLast,if_pos zo];exact⟨Ak,ck,k1,k2,(k3.keep (aj.mono λk e=>e.2.1)).mono λk e=>⟨e.1,e.2.1,λe2=>e.2.2 (Option.some.inj e2).symm⟩⟩;intro r hr x hx;exact(h.ok r ((List.dropLast_sublist L).subset hr) x hx).keep (aj.mono λk e e2=>h.apart k e (e2▸h.at_))):p:=h
theorem Ib{p:Prop}(h:p:=by by_cases e:i=j;subst e;have:=i1.symm.trans j1;rw[<-Option.some.inj this];exact sV w P g i L.length cap _ ai h.eH h5 h4 p0 (ei.trans i1) (World.ownsRow.frozenAt h2 i) ⟨_,_,_,rfl⟩;exact wA w P g i j L.length cap _ _ e ai ah h.eH h5 h4 p0 (ei.trans i1) (ej.trans j1) (World.ownsRow.frozenAt h2 i) (World.ownsRow.frozenAt h2 j) ⟨_,_,_,rfl⟩ ⟨_,_,_,rfl⟩):p:=h
theorem LQ{p:Prop}(h:p:=by have hx:vs=vs.dropLast++[vs.getLast (λe=>by rw[e]at bd;simp at bd;omega)]:=(List.dropLast_concat_getLast _).symm;have ad:=h2;rw[hx]at ad;refine ownsRow_pop (last:=[vs.getLast (λe=>by rw[e]at bd;simp at bd;omega)]) (by rw[List.length_dropLast];omega) ?_;rw[<-hn];exact ad):p:=h
theorem JK{p:Prop}(h:p:=by go_wp2;go_region;all_goals(go_end0;exact⟨rfl,rfl,rfl,rfl,rfl⟩)):p:=h
theorem BZ{p:Prop}(h:p:=by rw[hw.heap];exact Below.heap_setCell _ _ _ _ hk):p:=h
namespace KB
open Go.RowKit
structure su(w' w:World):Prop where
 heap:w'.heap=w.heap
 os:w'.os=w.os
 tape:w'.tape=w.tape
 output:w'.output=w.output
section
variable {m q : Nat -> Prop} {w w' : World} {base P : Nat} {L : List (List El)}
theorem su.turn{T:Nat->Prop}{w w' v:World}(h:su w' w)(ht:ab T v w):ab T v w':=
 ⟨h.os.trans ht.os,h.tape.trans ht.tape,h.output.trans ht.output,by rw[h.heap];exact ht.size,λk a b=>by rw[h.heap];exact ht.block k a b⟩
theorem wA(w:World)(P g i j N cap:Nat)(xi xj:Value)(a8:i≠j)(hi:i<N)(hj:j<N)(_:N<=1000000)(_:N<=cap)(ad:g≠P)(p0:w.cell? ⟨P,0,none⟩=some (.slice (some ⟨g,0,none⟩) N cap))(ci:w.cell? ⟨g,i,none⟩=some xi)(cj:w.cell? ⟨g,j,none⟩=some xj)(fi:w.frozen? ⟨g,i,none⟩=false)(fj:w.frozen? ⟨g,j,none⟩=false)(oi:∃a n c,xi=.slice a n c)(oj:∃a n c,xj=.slice a n c):Calls Tryz.prog 333 #[.pointer (some ⟨P,0,none⟩),.int .i64 i,.int .i64 j] w λe w'=>e=.returned (.tuple #[])/\su w' ((w.setCell ⟨g,i,none⟩ xj).setCell ⟨g,j,none⟩ xi):=by obtain⟨ai,ni,ki,rfl⟩:=oi;obtain⟨aj,nj,kj,rfl⟩:=oj;go_enter Tryz.func333,Tryz.ntmps333;exact JK
theorem sV(w:World)(P g i N cap:Nat)(xi:Value)(hi:i<N)(_:N<=1000000)(_:N<=cap)(_:g≠P)(p0:w.cell? ⟨P,0,none⟩=some (.slice (some ⟨g,0,none⟩) N cap))(ci:w.cell? ⟨g,i,none⟩=some xi)(fi:w.frozen? ⟨g,i,none⟩=false)(oi:∃a n c,xi=.slice a n c):Calls Tryz.prog 333 #[.pointer (some ⟨P,0,none⟩),.int .i64 i,.int .i64 i] w λe w'=>e=.returned (.tuple #[])/\su w' ((w.setCell ⟨g,i,none⟩ xi).setCell ⟨g,i,none⟩ xi):=by obtain⟨ai,ni,ki,rfl⟩:=oi;go_enter Tryz.func333,Tryz.ntmps333;exact JK
theorem qZ(h:aL m q w base P L)(i j:Int)(bh:0<=i)(hi:i<(L.length:Nat))(eg:0<=j)(hj:j<(L.length:Nat)):Calls Tryz.prog 333 #[.pointer (some ⟨P,0,none⟩),.int .i64 i,.int .i64 j] w λe w'=>e=.returned (.tuple #[])/\aL m q w' base P (fX L i.toNat j.toNat)/\ab q w w':=by obtain⟨i,rfl⟩:=Int.eq_ofNat_of_zero_le bh;obtain⟨j,rfl⟩:=Int.eq_ofNat_of_zero_le eg;rw[Int.toNat_natCast,Int.toNat_natCast];(have ai:i<L.length:=by omega);(have ah:j<L.length:=by omega);obtain⟨g,cap,vs,h1,h2,h3,h4,h5,h6⟩:=h.some zo;obtain⟨Ai,ci,i1,i2,i3⟩:=h6 i ai;obtain⟨Aj,cj,j1,j2,j3⟩:=h6 j ah;have ei:=World.ownsRow.cellAt h2 i zo;have ej:=World.ownsRow.cellAt h2 j zo;have p0:=(aJ h1 0).1;simp only[List.getElem?_toArray,List.getElem?_cons_zero]at p0;have bd:vs.length=L.length:=zu h2.1;(have key:Calls Tryz.prog 333 #[.pointer (some ⟨P,0,none⟩),.int .i64 i,.int .i64 j] w λe w'=>e=.returned (.tuple #[])/\su w' ((w.setCell ⟨g,i,none⟩ (.slice Aj (L[j]).length cj)).setCell ⟨g,j,none⟩ (.slice Ai (L[i]).length ci)):=Ib);exact Nv
theorem uY(w:World)(P g N cap:Nat)(xn _f:Value)(ah:0<N)(hN:N<=1000000)(aa:N<=cap)(_:g≠P)(p0:w.cell? ⟨P,0,none⟩=some (.slice (some ⟨g,0,none⟩) N cap))(cn:w.cell? ⟨g,N-1,none⟩=some xn)(f0:w.frozen? ⟨P,0,none⟩=false)(on:∃a n c,xn=.slice a n c):Calls Tryz.prog 332 #[.pointer (some ⟨P,0,none⟩)] w λe w'=>(∃v,e=.returned v)/\su w' (w.setCell ⟨P,0,none⟩ (.slice (some ⟨g,0,none⟩) (N-1:Nat) cap)):=by obtain⟨an,nn,kn,rfl⟩:=on;obtain⟨j,hj⟩:∃j,N-1=j:=⟨_,rfl⟩;rw[hj]at cn⊢;(have bz:IntKind.i64.wrap ((N:Int)-1)=(j:Int):=gb);(have nl:j<N:=by omega);(have bm:((N:Int)-1)=(j:Int):=by omega);(obtain rfl:N=j+1:=by omega);clear hj bz bm;go_enter Tryz.func332,Tryz.ntmps332;go_wp2;go_ret;exact⟨⟨_,rfl⟩,rfl,rfl,rfl,rfl⟩
theorem uQ(h:aL m q w base P L)(hL:L≠[]):Calls Tryz.prog 332 #[.pointer (some ⟨P,0,none⟩)] w λe w'=>(∃v,e=.returned v)/\aL m q w' base P L.dropLast/\ab q w w':=by have cB:0<L.length:=List.length_pos_iff.2 hL;obtain⟨g,cap,vs,h1,h2,h3,h4,h5,h6⟩:=h.some cB;obtain⟨An,cn,n1,n2,n3⟩:=h6 (L.length-1) zo;have en:=World.ownsRow.cellAt h2 (L.length-1) zo;have bd:vs.length=L.length:=zu h2.1;have p0:=(aJ h1 0).1;have f0:=(aJ h1 0).2;simp only[List.getElem?_toArray,List.getElem?_cons_zero]at p0;refine(uY w P g L.length cap _ (.func (.func bB) #[] #[]) cB h.eH h5 h4 p0 (en.trans n1) f0 ⟨_,_,_,rfl⟩).mono λe w' ⟨he,hw⟩=>⟨he,?_,?_⟩;have aj:Kept (λk=>k≠P) w w':=λk hk=>BZ;(have hz:w'.1.size=w.1.size:=by rw[hw.heap];simp);(have hn:L.length=(L.length-1)+1:=by omega);have bm:w.ownsRow base 47 1 (.slice (some ⟨g,0,none⟩) (L.length-1) cap) (L.length-1) vs.dropLast:=LQ;exact Lf;exact hw.turn (ab.setCell _ _ _ h.at_)
structure Ke(m q:Nat->Prop)(base P:Nat)(W0:World)(L:List (List El))(w:World):Prop where
 rows:aL m q w base P L
 turn:ab q W0 w
theorem nD(m q:Nat->Prop)(base P:Nat)(W0:World):sZ 281 ⟨P,0,none⟩ 330 331 333 332 (eM lt key) (λr=>r≠[]) (Ke m q base P W0) where
 wo:=kE key ordr
 mN w:=by kernel_rfl
 mL w:=by kernel_rfl
 mS w:=by kernel_rfl
 mP w:=by kernel_rfl
 eN:=enters_of Tryz.func330 zk rfl
 eL:=enters_of Tryz.func331 zk rfl
 eS:=enters_of Tryz.func333 zk rfl
 eP:=enters_of Tryz.func332 zk rfl
 drew L w n h:=⟨h.rows.drewN n,h.turn.trans (ab.drewN _ _)⟩
 eH L w h:=h.rows.eH
 len L w h:=uB h.rows
 lss L w i j h h1 h2 h3 h4 n1 n2:=rE h.rows i j h1 h2 h3 h4 n1 n2
 swp L w i j h h1 h2 h3 h4:=(qZ h.rows i j h1 h2 h3 h4).mono λe w' ⟨he,hr,ht⟩=>⟨he,hr,h.turn.trans ht⟩
 pop L w h hL:=(uQ h.rows hL).mono λe w' ⟨he,hr,ht⟩=>⟨he,hr,h.turn.trans ht⟩
end
end KB
end
theorem Nz{p:Prop}(h:p:=by obtain⟨s1,g1⟩:=World.ownsRow.stored h2 0 (.slice A1 r.length (c0-1));(have aj:Kept (λk=>k≠g) w w':=λk hk=>BZ);(have hz:w'.1.size=w.1.size:=by rw[hw.heap];simp);have bd:vs.length=T.length+1:=zu h2.1;refine⟨⟨⟨.slice (some ⟨g,0,none⟩) (T.length+1) cap,vs.set 0 (.slice A1 r.length (c0-1)),(aj P (Ne.symm h4)).trans h1,ao (w:=w.setCell ⟨g,0,none⟩ (.slice A1 r.length (c0-1))) s1 (λk _=>by rw[hw.heap]),λk e=>?_,λi hi=>?_⟩,h.at_,λs hs y hy=>?_,h.apart,λk e=>by rw[hz];exact h.lt k e,h.eH⟩,?_⟩;obtain rfl:g=k:=Option.some.inj e;exact⟨h3,h4⟩;(·have aa:∀{A:Option Addr}{xs:List Value},ag (λk=>q k/\k≠P/\k≠g) w A xs->ag (λk=>q k/\k≠P/\(Value.slice (some ⟨g,0,none⟩) (T.length+1) cap).ownBlock≠some k) w' A xs:=λhs=>(hs.keep (aj.mono λk e=>e.2.2)).mono λk e=>⟨e.1,e.2.1,λe2=>e.2.2 (Option.some.inj e2).symm⟩;match i,hi with|0,hi=>(refine⟨A1,c0-1,?_,by simp;omega,aa ?_⟩;rw[List.getElem?_set_self zo];rfl;·show ag _ w A1 (r.map val);rcases hs.out with e|⟨ad,e,e2,e3⟩;simp at e;·subst e;by_cases hr:r=[];subst hr;exact⟨.inl rfl⟩;have cB:0<r.length:=List.length_pos_iff.2 hr;rw[cz,if_neg zo];refine⟨.inr ⟨ad.add 1,rfl,by rw[add_block];exact e2,λj u hu=>?_⟩⟩;rw[add_add',Nat.add_comm];exact e3 (j+1) u (by simpa using hu))|i+1,hi=>(obtain⟨Ai,ci,i1,i2,i3⟩:=h6 (i+1) (by simpa using hi);rw[List.getElem?_set_ne zo];exact⟨Ai,ci,i1,i2,aa i3⟩));(have ah:gp m w y:=by rcases List.mem_cons.1 hs with rfl|hs;exact h.ok (x::s) zs y (by simp[hy]);exact h.ok s (by simp[hs]) y hy);exact ah.keep (aj.mono λk e e2=>h.apart k e (e2▸h3));exact hw.turn (ab.setCell _ _ _ h3)):p:=h
theorem jz{p:Prop}(h:p:=by apply List.ext_getElem?;intro t;by_cases ht:t<d.size;rw[List.getElem?_take,if_pos ht];(have hs:t<(putCells enc 0 d cur).size:=by unfold putCells;simp;omega);rw[List.getElem?_eq_getElem (by rw[Array.length_toList];exact hs),Array.getElem_toList,List.getElem?_map,Array.getElem?_toList,Array.getElem?_eq_getElem ht];unfold putCells;rw[Array.getElem_mapIdx,if_pos ⟨Nat.zero_le _,zo⟩];simp[ht];rw[List.getElem?_eq_none J6,List.getElem?_eq_none (by rw[List.length_map,Array.length_toList];omega)]):p:=h
theorem MS{p:Prop}(h:p:=by subst he;rw[List.getElem_append_right (Nat.le_refl _),List.getElem?_append_right zo];have a8:∀k,wr.1.size<=k->k≠P/\v.ownBlock≠some k:=λk hk=>⟨zo,λe=>by have:=(h3 k e).1.2;omega⟩;refine⟨some ⟨g1,0,none⟩,c1,by simp[bd],by simpa using c7,?_⟩;simp only[Nat.sub_self,List.getElem_cons_zero];exact(hx.keep λk e=>aa k e.2 (a8 k e.1).2 (a8 k e.1).1).mono λk e=>⟨⟨by have:=h.at_.2;have:=e.1;omega,by have:=e.2;omega⟩,(a8 k e.1).1,aj k e.2 (a8 k e.1).2⟩):p:=h
theorem vP{p:Prop}(h:p:=by have:=cF.size;(rcases e with e|e;(have:=k5.out k e;omega);exact e.2)):p:=h
theorem ie{p:Prop}(h:p:=by simp only[List.length_map,Array.length_toList]at hi hj;have:=hs i j (Nat.zero_le _) an (by rw[<-ai];exact hj);rw[getElem!_pos d' i hi,getElem!_pos d' j hj]at this;have e:∀x y:α,ltOf (λx y:α=>fZ x.1 y.1) x y=lt (key x.1) (key y.1):=λx y=>fQ x.1 y.1;rw[e]at this;exact Ig):p:=h
theorem Ii{p:Prop}(h:p:=by have e:∀x y:α,ltOf (λx y:α=>fZ x.1 y.1) x y=lt (key x.1) (key y.1):=λx y=>fQ x.1 y.1;exact⟨λx=>by rw[e];exact ordr.irrefl _,λx y z h1 h2=>by rw[e]at*;exact ordr.trans _ _ _ h1 h2,λx y z h1 h2=>by rw[e]at*;exact ordr.ntrans h2 h1⟩):p:=h
theorem Ll{p:Prop}(h:p:=by have h1:=World.ownsRow.cellAt ah j zo;rw[<-cc,<-cF,List.getElem?_map]at h1;have h2:=World.ownsRow.frozenAt ah j;rw[Nat.zero_add];refine⟨?_,h2⟩;rw[h1,getElem!_pos _ j hj,List.getElem_toArray,List.getElem?_eq_getElem JA];rfl):p:=h
theorem gh{p:Prop}(h:p:=by by_cases a6:i<L.length;obtain⟨Ai,ci,g1,g2,g3⟩:=h4 i a6;rw[List.getElem_append_left a6,List.getElem?_append_left zo];exact⟨Ai,ci,g1,g2,(g3.keep (ai.mono λk e=>⟨e.1.2,e.2⟩)).mono λk e=>⟨⟨e.1.1,by have:=e.1.2;omega⟩,e.2.1,aj k (zu e.1.2) e.2.2⟩⟩;have he:i=L.length:=tc;exact MS):p:=h
theorem Lu{p:Prop}(h:p:=by rw[<-cw,b3.out];exact⟨rfl,rfl,rfl,rfl⟩):p:=h
theorem Cb{p:Prop}(h:p:=by refine(nu (m:=m) x.1 y.1 _ (x.2.keep hk) (y.2.keep hk) (λk e=>Nat.lt_of_lt_of_le (hm k e).1 (ng _ _ _ _ _ _))).mono λe w' ⟨he,hw⟩=>⟨he,0,#[],?_⟩;rw[<-hw,grow_empty];rfl):p:=h
theorem pQ{p:Prop}(h:p:=by rw[List.getElem_append_left a6,List.getElem?_append_left zo];exact⟨Ai,ci,g1,g2,(g3.keep ai).mono λk e=>by rcases e with e|e;exact .inl e;exact .inr ⟨e.1,zo,aj k zo e.2.2⟩⟩):p:=h
theorem Ji{p:Prop}(h:p:=by show((w.heap.modify g (onCells (putCells enc 0 d)))++os)[k]?=_;rw[Array.getElem?_append_left (by simpa using hk),Array.getElem?_modify]):p:=h
theorem JB{p:Prop}(h:p:=by obtain⟨g1,c1,e⟩:=ownsRow_succ (k:=lk-1) (by rw[show lk-1+1=lk from zo];exact an);exact⟨g1,c1,by rw[e,show lk-1+1=lk from zo]⟩):p:=h
theorem tV{p:Prop}(h:p:=by refine bodyPost_ret (results_none rfl _ _ _) rfl ?_;exact⟨⟨_,rfl⟩,.inr ⟨s,_,by rw[List.map_append];exact i6.out,l5⟩⟩):p:=h
theorem wS{p:Prop}(h:p:=by go_ret;refine⟨v1,rfl,?_,((Onto.new _ _ (.slice none 0 0) _ _).trans bk).aK⟩;rw[HN.out];simpa using an):p:=h
theorem Bz{p:Prop}(h:p:=by exact ao ah λk e=>Below.heap_setCell _ _ _ _ (λe2=>ad (by rw[<-show k=P from e2];exact e))):p:=h
theorem II{p:Prop}(h:p:=by rw[cz.out,List.flatten_append,List.flatten_append];exact hrel.out.2.append (by simpa using bf)):p:=h
theorem Fg{p:Prop}(h:p:=by (have e2:dl.toArray.extract 0 n=dl.toArray:=by rw[<-bd];exact Array.extract_size);rw[e1,e2]at aj;exact aj):p:=h
theorem xX{p:Prop}(h:p:=by have:=cF.size;omega):p:=h
theorem tt{p:Prop}(h:p:=by rw[b3.out];exact i2):p:=h
theorem tm{p:Prop}(h:p:=by simp[Value.ownBlock]at e):p:=h
theorem EV{p:Prop}(h:p:=by obtain⟨Ai,ci,j1,j2,j3⟩:=r6 i hi;exact⟨Ai,ci,j1,j2,j3.keep (bo.mono λk e=>.inl e.1)⟩):p:=h
theorem tQ{p:Prop}(h:p:=by rw[jh enc w g m' dk os k (hm k hk).1,if_neg (λe=>(hm k hk).2 e.symm)]):p:=h
theorem EW{p:Prop}(h:p:=by have:=hrel.out.2;rw[List.take_of_length_le (zu HN.out)]at this;exact this):p:=h
theorem Fv{p:Prop}(h:p:=by show _<=((w.heap.modify g (onCells (putCells enc 0 d)))++os).size;simp):p:=h
end Go.Proofs.YtalmnodgjjcefaaGreatDoor
