/- Several texts in one: IpTell IpWays IpFew IpAwake IpTurn IpRef. -/
import Derived.Test.YtalmnodgjjcefaaGreatDoorZIpD
import Derived.Test.YtalmnodgjjcefaaGreatDoorZItm
namespace Go.Proofs.YtalmnodgjjcefaaGreatDoor
section
section
open Go.RowKit
def GG(a b:Item):Prop:=ahead a b=true
theorem nW{ls:List Item}(h:bZ ls=true):ls.Pairwise GG:=
 List.pairwise_iff_getElem.2 λ_ _ hi hj an=>dZ h hi hj an
def dG(ls:List Item)(x:Item):List Item:=ls.filter λy=>!ahead y x
theorem tq{o:List Item}{x:Item}(h:∀y∈o,ahead y x=false):dG o x=o:=
 List.filter_eq_self.2 λy hy=>by rw[h y hy];rfl
theorem yz{o:List Item}{x:Item}(h:∀y∈o,ahead y x=true):dG o x=[]:=
 List.filter_eq_nil_iff.2 λy hy=>by rw[h y hy];simp
theorem qW{x:Item}:∀{o:List Item},o.Pairwise GG->o.drop (aO x o)=dG o x
 |[],_=>rfl
 |a::t,h=>by obtain⟨h1,h2⟩:=List.pairwise_cons.1 h;by_cases ha:ahead a x=true;simp only[aO,if_pos ha,List.drop_succ_cons];rw[qW h2];unfold dG;rw[List.filter_cons_of_neg (by rw[ha];simp)];·simp only[aO,if_neg ha,List.drop_zero];rw[Bool.not_eq_true]at ha;refine(tq λy hy=>?_).symm;simp only[List.mem_cons]at hy;rcases hy with rfl|hy;exact ha;rw[<-Bool.not_eq_true];intro e;have:=e7 (h1 y hy) e;rw[ha]at this;cases this
theorem lV{x:Item}:∀(bl:List (List Item)),(∀o∈bl,o.Pairwise GG)->bl.flatMap (λo=>o.drop (aO x o))=dG bl.flatten x
 |[],_=>rfl
 |o::t,h=>by rw[List.flatMap_cons,qW (h o zs),lV t λy hy=>h y (by simp[hy])];unfold dG;rw[List.flatten_cons,List.filter_append]
theorem qw{ls:List Item}(h:okB ls=true)(h0:0<ls.length)(x:Item):nX ls x=dG ls x:=by have aa:=nW (fx h).1;have bp:=pM ls;rw[<-bp]at aa;obtain⟨aG,an⟩:=List.pairwise_flatten.1 aa;have df:=dN ls;(have hb:(bU ls).length=(blk ls).length:=by simp[bU]);have a6:Gr (bU ls) x<(bU ls).length:=iW zo;obtain⟨bi,ai⟩:∃bi,Gr (bU ls) x=bi:=⟨_,rfl⟩;unfold nX;rw[ai]at a6⊢;rw[lV _ λo ho=>aG o (List.mem_of_mem_drop ho)];(have hle:∀y,GG y ((bU ls)[bi])->0<bi->ahead y x=true:=λy hy cB=>by unfold Gr at ai;split at ai;rename_i hf;unfold gI at hf;rw[decide_eq_true_eq]at hf;obtain⟨h1,h2⟩:=hf;subst ai;rw[<-h2];exact hy;exact e7 hy (pA a6 zo));(have ah:dG ((blk ls).take bi).flatten x=[]:=by refine yz λy hy=>?_;obtain⟨o,ho,aj⟩:=List.mem_flatten.1 hy;obtain⟨j,hj,e⟩:=List.mem_iff_getElem.1 ho;rw[List.length_take]at hj;rw[List.getElem_take]at e;have ad:=List.pairwise_iff_getElem.1 an j bi zo zo zo;refine hle y ?_ zo;have a8:=oP (List.getElem_mem (zo:bi<(blk ls).length));(have cB:0<((blk ls)[bi]'zo).length:=by obtain⟨k,hk,e2⟩:=a8;rw[e2,List.length_take,List.length_drop];omega);(have h2:(bU ls)[bi]=((blk ls)[bi]'zo).headD []:=by simp[bU]);rw[h2];refine ad y (by rw[e];exact aj) _ ?_;cases hc:(blk ls)[bi]'zo with|nil=>rw[hc]at cB;simp at cB|cons a t=>simp);(have:dG (blk ls).flatten x=dG ((blk ls).take bi).flatten x++dG ((blk ls).drop bi).flatten x:=by unfold dG;rw[<-List.filter_append,<-List.flatten_append,List.take_append_drop]);rw[ah,List.nil_append]at this;rw[<-this,bp]
theorem zS{ls:List Item}(hp:ls.Pairwise GG)(x:Item):(dG ls x).head?=some x↔x∈ls:=by constructor;intro h;have:=List.mem_of_mem_head? (by rw[h];rfl:x∈(dG ls x).head?);exact(List.mem_filter.1 this).1;·intro h;have hm:x∈dG ls x:=List.mem_filter.2 ⟨h,by rw[jE];rfl⟩;have ah:(dG ls x).Pairwise GG:=hp.sublist List.filter_sublist;cases hf:dG ls x with|nil=>rw[hf]at hm;simp at hm|cons a t=>(rw[hf]at hm ah;simp only[List.head?_cons,Option.some.injEq];simp only[List.mem_cons]at hm;rcases hm with rfl|hm;rfl;exfalso;have h1:=(List.pairwise_cons.1 ah).1 x hm;(have h2:a∈dG ls x:=by rw[hf];simp);have h3:=(List.mem_filter.1 h2).2;unfold GG at h1;rw[h1]at h3;cases h3)
theorem tA(a b:UInt8)(s t:List UInt8):preB (a::s) (b::t)=(decide (a=b)&&preB s t):=by unfold preB;rw[<-Bool.decide_and,decide_eq_decide,List.cons_prefix_cons]
theorem DX(y:Item):preB [] y=true:=by unfold preB;simp
theorem sj(a:UInt8)(s:List UInt8):preB (a::s) []=false:=by unfold preB;simp
theorem lU:∀{x y:Item},preB x y=true->ahead y x=false
 |[],y,_=>by cases y<;>rfl
 |a::s,[],h=>by rw[sj]at h;cases h
 |a::s,b::t,h=>by rw[tA,Bool.and_eq_true,decide_eq_true_eq]at h;obtain⟨rfl,h⟩:=h;rw[me,lU h];simp[UInt8.lt_irrefl]
theorem tz:∀{x y z:Item},ahead y x=false->preB x y=false->ahead y z=true->preB x z=false
 |[],y,_,_,h,_=>by rw[DX]at h;cases h
 |a::s,[],_,h,_,_=>by cases h
 |a::s,b::t,[],_,_,h=>by cases h
 |a::s,b::t,c::u,h1,h2,h3=>by rw[me,Bool.or_eq_false_iff,decide_eq_false_iff_not,Bool.and_eq_false_iff]at h1;rw[me,Bool.or_eq_true,decide_eq_true_eq,Bool.and_eq_true,beq_iff_eq]at h3;rw[tA,Bool.and_eq_false_iff,decide_eq_false_iff_not]at h2⊢;obtain⟨k1,k2⟩:=h1;by_cases cn:b=a;(·subst cn;(have k3:ahead t s=false:=by rcases k2 with k2|k2;simp at k2;exact k2);(have k4:preB s t=false:=by rcases h2 with h2|h2;exact absurd rfl h2;exact h2);rcases h3 with h3|⟨rfl,h3⟩;(exact .inl λe=>by subst e;exact UInt8.lt_irrefl _ h3);exact .inr (tz k3 k4 h3));·refine .inl λe=>?_;subst e;rcases h3 with h3|⟨e2,_⟩;exact k1 h3;exact cn e2
theorem takeWhile_filter{p:Item->Bool}{R:Item->Item->Prop}:∀{o:List Item},o.Pairwise R->(∀a∈o,∀b∈o,R a b->p a=false->p b=false)->o.takeWhile p=o.filter p
 |[],_,_=>rfl
 |a::t,h,hs=>by obtain⟨h1,h2⟩:=List.pairwise_cons.1 h;by_cases ha:p a=true;rw[List.takeWhile_cons,if_pos ha,List.filter_cons_of_pos ha,takeWhile_filter h2 λx hx y hy=>hs x (by simp[hx]) y (by simp[hy])];rw[Bool.not_eq_true]at ha;rw[List.takeWhile_cons,if_neg (by rw[ha];simp),List.filter_cons_of_neg (by rw[ha];simp)];refine(List.filter_eq_nil_iff.2 λy hy=>?_).symm;rw[hs a zs y (by simp[hy]) (h1 y hy) ha];simp
theorem uq{ls:List Item}(hp:ls.Pairwise GG)(x:Item):(dG ls x).takeWhile (preB x)=ls.filter (preB x):=by have ah:(dG ls x).Pairwise GG:=hp.sublist List.filter_sublist;rw[takeWhile_filter ah λa ha b hb aa e=>?_];(·unfold dG;rw[List.filter_filter];refine List.filter_congr λy _=>?_;cases h:preB x y with|false=>simp|true=>rw[lU h];rfl);have:=(List.mem_filter.1 ha).2;exact tz Ig e aa
end
section
open Go.RowKit
def qS(w:World)(ls:List Item)(e:Ending)(w':World):Prop:=∃v,e=.returned v/\dj w' w.1.size v ls/\Below w.1.size w w'
theorem qS.open_{w w':World}{ls:List Item}{e:Ending}(h:qS w ls e w'):∃A c,e=.returned (.slice A ls.length c)/\ls.length<=c/\bj w' w'.1.size A ls/\Below w.1.size w w':=by obtain⟨v,rfl,h1,h2⟩:=h;obtain⟨A,c,rfl,h3,h4⟩:=h1.open_;exact⟨A,c,rfl,h3,h4,h2⟩
theorem yo{ls:List Item}(h:okB ls=true):∀y∈ls,1<=y.length/\y.length<=400:=λy hy=>by have:=(fx h).2 y hy;unfold da at this;rw[Bool.or_eq_false_iff,decide_eq_false_iff_not,decide_eq_false_iff_not]at this;omega
section
variable {w : World} {P : Nat} {ls : List Item} {Bx : Option Addr} {lx dx : Nat} {x : Item}
theorem DO(h:bX (λk=>k<w.1.size) w P ls)(hx:ae w w.1.size Bx (bv x))(a7:x.length=lx)(most:Int):Calls Tryz.prog 116 #[.pointer (some ⟨P,0,none⟩),.slice Bx lx dx,.int .i64 most] w (qS w ((dG ls x).take most.toNat)):=by have hs:=jB h (λk e=>e) x Bx lx dx hx a7;rw[qw h.rJ h.many]at hs;exact Hi w _ Bx lx dx most (dG ls x) (λy hy=>(yo h.rJ y (List.mem_filter.1 hy).1).2) (Nat.le_trans (List.length_filter_le _ _) h.eH) hs
theorem Gk(h:bX (λk=>k<w.1.size) w P ls)(hx:ae w w.1.size Bx (bv x))(a7:x.length=lx):Calls Tryz.prog 323 #[.pointer (some ⟨P,0,none⟩),.slice Bx lx dx] w (cJ w (.bool (decide (x∈ls)))):=by have hs:=jB h (λk e=>e) x Bx lx dx hx a7;rw[qw h.rJ h.many]at hs;have:=JS w _ Bx lx dx x _ hx a7 hs;rwa [show decide ((dG ls x).head?=some x)=decide (x∈ls)from by rw[decide_eq_decide];exact zS (nW (fx h.rJ).1) x]at this
theorem xa(h:bX (λk=>k<w.1.size) w P ls)(hx:ae w w.1.size Bx (bv x))(a7:x.length=lx):Calls Tryz.prog 324 #[.pointer (some ⟨P,0,none⟩),.slice Bx lx dx] w (qS w (ls.filter (preB x))):=by have hs:=jB h (λk e=>e) x Bx lx dx hx a7;rw[qw h.rJ h.many]at hs;have:=CL w _ Bx lx dx x hx a7 (dG ls x) (λy hy=>(yo h.rJ y (List.mem_filter.1 hy).1).2) (Nat.le_trans (List.length_filter_le _ _) h.eH) hs;rw[uq (nW (fx h.rJ).1)]at this;exact this
end
theorem Cm(ls:List Item):dG ls []=ls:=tq λy _=>by cases y<;>rfl
def JH(w:World)(ls:List Item)(e:Ending)(w':World):Prop:=∃P,e=.returned (.tuple #[.pointer (some ⟨P,0,none⟩),.int .i64 0])/\bX (λk=>w.1.size<=k/\k<w'.1.size) w' P ls/\Below w.1.size w w'
theorem tC(A:Option Addr)(n c:Nat)(b:List UInt8)(ei:b.length=n)(bu:n<=c)(cx:n<=1000000)(w:World)(hS:ae w w.1.size A (bv b))(hH:bO w)(ls:List Item)(h:iR b=some ls):Calls Tryz.prog 106 #[.slice A n c] w (JH w ls):=(FV A n c b ei bu cx w hS hH hH.1).mono λe w' ⟨p,he,hb,h1,h2⟩=>by obtain⟨rfl,hp⟩:=h2 ls h;refine⟨_,?_,hp,hb⟩;rw[he,h];rfl
theorem bX.later{w w':World}{P:Nat}{ls:List Item}(h:bX (λk=>k<w.1.size) w P ls)(hb:Below w.1.size w w'):bX (λk=>k<w'.1.size) w' P ls:=
 (h.keep (Kept.of_below hb λ_ e=>e)).mono λ_ e=>Nat.lt_of_lt_of_le e hb.size
theorem rN(A:Option Addr)(n c:Nat)(ls:List Item)(hn:ls.length=n)(bu:n<=c)(w:World)(hS:bj w w.1.size A ls)(hH:bO w)(hlen:n<=1099511627776)(h:bV ls=0):Calls Tryz.prog 104 #[.slice A n c] w λe w'=>∃v,e=.returned (.tuple #[v,.int .i64 0])/\aN w' w.1.size v (dq ls)/\Below w.1.size w w':=(tL A n c ls hn bu w hS hH hlen).mono λe w' ⟨v,he,ah,hb⟩=>by rw[if_pos h]at ah;exact⟨v,by rw[he,h];rfl,ah,hb⟩
end
end
end Go.Proofs.YtalmnodgjjcefaaGreatDoor
