/- Several texts in one: KmPlain KmHeap KmDown KmHp KmElB KmRowsB KmSwapB. -/
import Derived.Lib.Hide
import Derived.Test.YtalmnodgjjcefaaGreatDoorJIpA
import Derived.Test.YtalmnodgjjcefaaGreatDoorJItm
import Derived.BigRegion
set_option maxRecDepth 100000
set_option maxHeartbeats 1600000
namespace Go.Proofs.YtalmnodgjjcefaaGreatDoor
section
structure Ordr {κ:Type}(lt:κ→κ→Bool):Prop where
 irrefl:∀a,lt a a=false
 trans:∀a b c,lt a b=true→lt b c=true→lt a c=true
 tri:∀a b,lt a b=false→lt b a=false→a=b
section
variable {κ : Type} {lt : κ → κ → Bool}
theorem Ordr.asymm (h:Ordr lt) {a b:κ}(hab:lt a b=true):lt b a=false:=by
 cases h2:lt b a with
 | false=>rfl
 | true=>have:=h.trans _ _ _ hab h2;rw[h.irrefl] at this;cases this
theorem Ordr.ntrans (h:Ordr lt) {a b c:κ}(h1:lt b a=false) (h2:lt c b=false):lt c a=false:=by
 cases h3:lt c a with
 | false=>rfl
 | true =>
  cases h4:lt a b with
  | true=>have:=h.trans _ _ _ h3 h4;rw[h2] at this;cases this
  | false=>have e:=h.tri _ _ h4 h1;subst e;rw[h3] at h2;cases h2
def Wk (lt:κ→κ→Bool) (l:List κ):Prop:=l.Pairwise fun x y=>lt y x=false
def Ri (lt:κ→κ→Bool) (l:List κ):Prop:=l.Pairwise fun x y=>lt x y=true
def insK (lt:κ→κ→Bool) (x:κ):List κ→List κ
 | [] => [x]
 | y :: t=>if lt x y=true then x :: y :: t else y :: insK lt x t
def sortK (lt:κ→κ→Bool):List κ→List κ
 | [] => []
 | x :: t=>insK lt x (sortK lt t)
theorem insK_perm (x:κ):∀l,(insK lt x l).Perm (x :: l)
 | [] => .refl _
 | y :: t=>by
  unfold insK
  split
  ·exact .refl _
  ·exact ((insK_perm x t).cons y).trans (.swap x y t)
theorem sortK_perm:∀l,(sortK lt l).Perm l
 | [] => .refl _
 | x :: t=>(insK_perm x _).trans ((sortK_perm t).cons x)
theorem insK_wk (h:Ordr lt) (x:κ):∀l,Wk lt l→Wk lt (insK lt x l)
 | [],_=>by simp[insK,Wk]
 | y :: t,hw=>by
  unfold Wk at hw
  rw[List.pairwise_cons] at hw
  unfold insK
  split
  ·rename_i hx
   unfold Wk
   rw[List.pairwise_cons]
   refine ⟨fun z hz => ?_,List.pairwise_cons.2 hw⟩
   rcases List.mem_cons.1 hz with rfl|hz
   ·exact h.asymm hx
   ·exact h.ntrans (h.asymm hx) (hw.1 z hz)
  ·rename_i hx
   rw[Bool.not_eq_true] at hx
   unfold Wk
   rw[List.pairwise_cons]
   refine ⟨fun z hz => ?_,insK_wk h x t hw.2⟩
   rcases List.mem_cons.1 ((insK_perm x t).mem_iff.1 hz) with rfl|hz
   ·exact hx
   ·exact hw.1 z hz
theorem sortK_wk (h:Ordr lt):∀l,Wk lt (sortK lt l)
 | []=>List.Pairwise.nil
 | x :: t=>insK_wk h x _ (sortK_wk h t)
theorem wk_unique (h:Ordr lt):∀ {l m:List κ},l.Perm m→Wk lt l→Wk lt m→l=m
 | [],m,p,_,_=>p.nil_eq
 | x :: l, [],p,_,_=>absurd p.length_eq (by simp)
 | x :: l,y :: m,p,hl,hm=>by
  have hl':=hl
  have hm':=hm
  unfold Wk at hl' hm'
  rw[List.pairwise_cons] at hl' hm'
  have e:x=y:=by
   rcases List.mem_cons.1 (p.mem_iff.1 (List.mem_cons_self)) with h1|h1
   ·exact h1
   ·rcases List.mem_cons.1 (p.mem_iff.2 (List.mem_cons_self)) with h2|h2
    ·exact h2.symm
    ·exact h.tri _ _ (hm'.1 x h1) (hl'.1 y h2)
  subst e
  rw[wk_unique h p.cons_inv hl'.2 hm'.2]
theorem sortK_of (h:Ordr lt) {l m:List κ}(p:m.Perm l) (hm:Wk lt m):sortK lt l=m:=wk_unique h ((sortK_perm l).trans p.symm) (sortK_wk h l) hm
theorem sortK_split (h:Ordr lt) {l pre rest:List κ}(p:(pre++rest).Perm l) (hw:Wk lt pre) (hle:∀x∈pre,∀y∈rest,lt y x=false):sortK lt l=pre++sortK lt rest :=
 sortK_of h ((List.Perm.append_left pre (sortK_perm rest)).trans p) (List.pairwise_append.2 ⟨hw,sortK_wk h rest,fun x hx y hy=>hle x hx y ((sortK_perm rest).mem_iff.1 hy)⟩)
variable [DecidableEq κ]
def runsA (a:κ) (n:Nat):List κ→List (κ×Nat)
 | [] => [(a,n)]
 | x :: t=>if x=a then runsA a (n+1) t else (a,n) :: runsA x 1 t
def runs:List κ→List (κ×Nat)
 | [] => []
 | x :: t=>runsA x 1 t
def uniqL (lt:κ→κ→Bool) (l:List κ):List κ:=(runs (sortK lt l)).map (·.1)
theorem runsA_mem (h:Ordr lt):∀(l:List κ) (a:κ) (n:Nat),1≤n→Wk lt (a :: l)→∀x m,(x,m)∈runsA a n l↔x∈a :: l∧m=l.count x+(if x=a then n else 0)
 | [],a,n,hn,_,x,m=>by
  simp only[runsA,List.mem_singleton,Prod.mk.injEq,List.count_nil]
  constructor
  ·rintro ⟨rfl,rfl⟩;simp
  ·rintro ⟨rfl,e⟩;simp at e;exact ⟨rfl,e⟩
 | y :: t,a,n,hn,hw,x,m=>by
  have hw':=hw
  unfold Wk at hw'
  rw[List.pairwise_cons] at hw'
  unfold runsA
  split
  ·rename_i hy
   subst hy
   have ih:=runsA_mem h t y (n+1) (by omega) (by
    unfold Wk;exact hw'.2) x m
   rw[ih]
   simp only[List.mem_cons,List.count_cons,beq_iff_eq]
   by_cases e:x=y
   ·subst e;simp;omega
   ·rw[if_neg e,if_neg (fun g=>e g.symm)];simp[e]
  ·rename_i hy
   have ih:=runsA_mem h t y 1 (by omega) hw'.2 x m
   rw[List.mem_cons,ih]
   have hna:a ∉ y :: t:=fun e=>by
    rcases List.mem_cons.1 e with e|e
    ·exact hy e.symm
    ·have h1:=hw'.1 y (by simp)
     have h2:=hw'.2
     rw[List.pairwise_cons] at h2
     exact hy (h.tri _ _ h1 (h2.1 a e))
   by_cases e:x=a
   ·subst e
    have h3:(y :: t).count x=0:=List.count_eq_zero.2 hna
    rw[h3]
    constructor
    ·rintro (g|⟨g,_⟩)
     ·injection g with _ g
      exact ⟨by simp,by simpa using g⟩
     ·exact absurd g hna
    ·rintro ⟨_,g⟩;left;simpa using g
   ·simp only[Prod.mk.injEq,List.mem_cons,List.count_cons,beq_iff_eq]
    rw[if_neg e]
    by_cases e2:x=y
    ·subst e2;simp[e]
    ·rw[if_neg e2,if_neg (fun g=>e2 g.symm)];simp[e,e2]
theorem runs_mem (h:Ordr lt) {l:List κ}(hw:Wk lt l) (x:κ) (m:Nat):(x,m)∈runs l↔x∈l∧m=l.count x:=by
 cases l with
 | nil=>simp[runs]
 | cons a t =>
  unfold runs
  rw[runsA_mem h t a 1 (by omega) hw]
  simp only[List.count_cons,beq_iff_eq]
  by_cases e:x=a
  ·subst e;simp
  ·rw[if_neg e,if_neg (fun g=>e g.symm)]
theorem runsA_ri (h:Ordr lt):∀(l:List κ) (a:κ) (n:Nat),Wk lt (a :: l)→Ri lt ((runsA a n l).map (·.1))
 | [],a,n,_=>by simp[runsA,Ri]
 | y :: t,a,n,hw=>by
  have hw':=hw
  unfold Wk at hw'
  rw[List.pairwise_cons] at hw'
  unfold runsA
  split
  ·rename_i hy;subst hy;exact runsA_ri h t y (n+1) hw'.2
  ·rename_i hy
   have ih:=runsA_ri h t y 1 hw'.2
   rw[List.map_cons]
   refine List.pairwise_cons.2 ⟨fun z hz => ?_,ih⟩
   obtain ⟨⟨z',m⟩,hm,rfl⟩:=List.mem_map.1 hz
   have h1:=((runsA_mem h t y 1 (by omega) hw'.2 z' m).1 hm).1
   have h2:=hw'.1 z' h1
   cases h3:lt a z' with
   | true=>rfl
   | false =>
    exfalso
    have e:=h.tri _ _ h3 h2
    rcases List.mem_cons.1 h1 with g|g
    ·exact hy (g.symm.trans e.symm)
    ·have h4:=List.pairwise_cons.1 hw'.2
     have h5:=h4.1 z' g
     rw[←e] at h5
     exact hy (h.tri _ _ (hw'.1 y (by simp)) h5)
theorem runs_ri (h:Ordr lt) {l:List κ}(hw:Wk lt l):Ri lt ((runs l).map (·.1)):=by
 cases l with
 | nil=>simp[runs,Ri]
 | cons a t=>exact runsA_ri h t a 1 hw
theorem uniqL_ri (h:Ordr lt) (l:List κ):Ri lt (uniqL lt l):=runs_ri h (sortK_wk h l)
theorem uniqL_mem (h:Ordr lt) (l:List κ) (x:κ):x∈uniqL lt l↔x∈l:=by
 unfold uniqL
 rw[List.mem_map]
 constructor
 ·rintro ⟨⟨y,m⟩,hm,rfl⟩
  exact (sortK_perm l).mem_iff.1 ((runs_mem h (sortK_wk h l) y m).1 hm).1
 ·intro hx
  exact ⟨(x,(sortK lt l).count x),(runs_mem h (sortK_wk h l) _ _).2 ⟨(sortK_perm l).mem_iff.2 hx,rfl⟩,rfl⟩
omit [DecidableEq κ] in
theorem ri_unique (h:Ordr lt):∀ {l m:List κ},Ri lt l→Ri lt m→(∀x,x∈l↔x∈m)→l=m
 | [], [],_,_,_=>rfl
 | [],y :: m,_,_,e=>absurd ((e y).2 (by simp)) (by simp)
 | x :: l, [],_,_,e=>absurd ((e x).1 (by simp)) (by simp)
 | x :: l,y :: m,hl,hm,e=>by
  have hl':=List.pairwise_cons.1 hl
  have hm':=List.pairwise_cons.1 hm
  have hxy:x=y:=by
   rcases List.mem_cons.1 ((e x).1 (by simp)) with h1|h1
   ·exact h1
   ·rcases List.mem_cons.1 ((e y).2 (by simp)) with h2|h2
    ·exact h2.symm
    ·have:=h.trans _ _ _ (hl'.1 y h2) (hm'.1 x h1)
     rw[h.irrefl] at this;cases this
  subst hxy
  congr 1
  refine ri_unique h hl'.2 hm'.2 fun z => ?_
  constructor
  ·intro hz
   rcases List.mem_cons.1 ((e z).1 (by simp[hz])) with g|g
   ·subst g;have:=hl'.1 z hz;rw[h.irrefl] at this;cases this
   ·exact g
  ·intro hz
   rcases List.mem_cons.1 ((e z).2 (by simp[hz])) with g|g
   ·subst g;have:=hm'.1 z hz;rw[h.irrefl] at this;cases this
   ·exact g
theorem uniqL_of (h:Ordr lt) {l m:List κ}(hm:Ri lt m) (he:∀x,x∈m↔x∈l):uniqL lt l=m :=
 ri_unique h (uniqL_ri h l) hm fun x=>(uniqL_mem h l x).trans (he x).symm
theorem uniqL_congr (h:Ordr lt) {l m:List κ}(he:∀x,x∈l↔x∈m):uniqL lt l=uniqL lt m :=
 ri_unique h (uniqL_ri h l) (uniqL_ri h m) fun x=>(uniqL_mem h l x).trans ((he x).trans (uniqL_mem h m x).symm)
theorem uniqL_len (_h:Ordr lt) (l:List κ):(uniqL lt l).length≤l.length:=by
 have hA:∀(t:List κ) (a:κ) (n:Nat),(runsA a n t).length≤t.length+1:=fun t=>by
  induction t with
  | nil=>intro a n;simp[runsA]
  | cons y t ih =>
   intro a n
   unfold runsA
   split
   ·have:=ih a (n+1);simp;omega
   ·have:=ih y 1;simp;omega
 have hR:∀t:List κ,(runs t).length≤t.length:=fun t=>by
  cases t with
  | nil=>simp[runs]
  | cons a t=>exact hA t a 1
 unfold uniqL
 rw[List.length_map]
 have:=hR (sortK lt l)
 rwa [(sortK_perm l).length_eq] at this
end
end
section
section
variable {γ : Type} [Inhabited γ]
def atG (L:List γ) (k:Nat):γ:=L[k]?.getD default
def swapG (L:List γ) (i j:Nat):List γ:=(L.set i (atG L j)).set j (atG L i)
theorem atG_eq {L:List γ}{k:Nat}(h:k<L.length):atG L k=L[k]:=by unfold atG;rw[List.getElem?_eq_getElem h];rfl
theorem swapG_length (L:List γ) (i j:Nat):(swapG L i j).length=L.length:=by simp[swapG]
theorem swapG_perm {L:List γ}{i j:Nat}(hi:i<L.length) (hj:j<L.length):(swapG L i j).Perm L:=by
 have h:=Array.swap_perm (xs:=L.toArray) (i:=i) (j:=j) (by simpa using hi) (by simpa using hj)
 have h2:=h.toList
 simp only[Array.swap,List.getElem_toArray,List.set_toArray] at h2
 unfold swapG
 rw[atG_eq hi,atG_eq hj]
 exact h2
theorem swapG_at {L:List γ}{i j:Nat}(hi:i<L.length) (hj:j<L.length) (k:Nat):atG (swapG L i j) k=if k=j then atG L i else if k=i then atG L j else atG L k:=by
 unfold swapG
 conv=>lhs;unfold atG
 rw[List.getElem?_set,List.length_set,List.getElem?_set]
 by_cases h1:k=j
 ·subst h1;simp[hj];rfl
 ·by_cases h2:k=i
  ·subst h2;simp[hi,Ne.symm h1,h1];rfl
  ·simp[Ne.symm h1,h1,Ne.symm h2,h2,atG]
theorem swapG_get (L:List γ) (i j k:Nat) (h1:k≠i) (h2:k≠j):(swapG L i j)[k]?=L[k]?:=by
 unfold swapG
 rw[List.getElem?_set_ne (Ne.symm h2),List.getElem?_set_ne (Ne.symm h1)]
structure Wo (less:γ→γ→Bool):Prop where
 asymm:∀a b,less a b=true→less b a=false
 ntrans:∀a b c,less b a=false→less c b=false→less c a=false
 irrefl:∀a,less a a=false
variable {less : γ → γ → Bool}
def Hp (less:γ→γ→Bool) (s n:Nat) (L:List γ):Prop:=∀j,0<j→j<n→s≤(j - 1) / 2→less (atG L j) (atG L ((j - 1) / 2))=false
structure DownI (less:γ→γ→Bool) (s n:Nat) (L0 L:List γ) (i:Nat):Prop where
 perm:L.Perm L0
 out:∀k,n≤k→L[k]?=L0[k]?
 le:s≤i
 hp:∀j,0<j→j<n→s≤(j - 1) / 2→(j - 1) / 2≠i→less (atG L j) (atG L ((j - 1) / 2))=false
 up:0<i→s≤(i - 1) / 2→∀j,0<j→j<n→(j - 1) / 2=i→less (atG L j) (atG L ((i - 1) / 2))=false
theorem DownI.start {s n:Nat}{L:List γ}(h:Hp less (s+1) n L):DownI less s n L L s :=
 ⟨.refl _,fun _ _=>rfl,Nat.le_refl _,fun j h1 h2 h3 h4=>h j h1 h2 (by omega),fun h1 h2=>by omega⟩
def kid (less:γ→γ→Bool) (n:Nat) (L:List γ) (i:Nat):Nat:=if 2*i+2<n∧less (atG L (2*i+2)) (atG L (2*i+1))=true then 2*i+2 else 2*i+1
theorem kid_le (hw:Wo less) {n i k:Nat}{L:List γ}(h0:0<k) (hk:k<n) (hp:(k - 1) / 2=i):less (atG L k) (atG L (kid less n L i))=false:=by
 unfold kid
 have:k=2*i+1∨k=2*i+2:=by omega
 split
 ·rename_i h
  rcases this with rfl|rfl
  ·exact hw.asymm _ _ h.2
  ·exact hw.irrefl _
 ·rename_i h
  rcases this with rfl|rfl
  ·exact hw.irrefl _
  ·cases h2:less (atG L (2*i+2)) (atG L (2*i+1)) with
   | false=>rfl
   | true=>exact absurd ⟨hk,h2⟩ h
theorem kid_lt {n i:Nat}{L:List γ}(h:2*i+1<n):kid less n L i<n∧i<kid less n L i∧(kid less n L i - 1) / 2=i:=by
 unfold kid
 split
 ·rename_i h2;omega
 ·omega
theorem DownI.stop1 {s n i:Nat}{L0 L:List γ}(h:DownI less s n L0 L i) (hn:n≤2*i+1):Hp less s n L:=fun j h1 h2 h3 =>
 h.hp j h1 h2 h3 (by omega)
theorem DownI.stop2 (hw:Wo less) {s n i:Nat}{L0 L:List γ}(h:DownI less s n L0 L i) (hl:less (atG L (kid less n L i)) (atG L i)=false):Hp less s n L:=fun j h1 h2 h3=>by
 by_cases hj:(j - 1) / 2=i
 ·rw[hj]
  exact hw.ntrans _ _ _ hl (kid_le hw h1 h2 hj)
 ·exact h.hp j h1 h2 h3 hj
theorem DownI.step (hw:Wo less) {s n i:Nat}{L0 L:List γ}(h:DownI less s n L0 L i) (hn:n≤L.length) (hk:2*i+1<n) (hl:less (atG L (kid less n L i)) (atG L i)=true) :
  DownI less s n L0 (swapG L i (kid less n L i)) (kid less n L i):=by
 obtain ⟨k1,k2,k3⟩:=kid_lt (less:=less) (L:=L) hk
 have hmin:=fun k (h0:0<k) (h1:k<n) (h2:(k - 1) / 2=i)=>kid_le hw (L:=L) h0 h1 h2
 generalize kid less n L i=j at *
 have hat:=swapG_at (L:=L) (i:=i) (j:=j) (by omega) (by omega)
 refine ⟨(swapG_perm (by omega) (by omega)).trans h.perm,fun k hkn=>(swapG_get L i j k (by omega) (by omega)).trans (h.out k hkn),by have:=h.le;omega,fun k h1 h2 h3 h4 => ?_,fun _ _ k h1 h2 h3 => ?_⟩
 ·by_cases hp:(k - 1) / 2=i
  ·rw[hp,hat i,if_neg (by omega),if_pos rfl,hat k]
   by_cases hkj:k=j
   ·rw[if_pos hkj];exact hw.asymm _ _ hl
   ·rw[if_neg hkj,if_neg (by omega)]
    exact hmin k h1 h2 hp
  ·by_cases hki:k=i
   ·subst hki
    rw[hat k,if_neg (by omega),if_pos rfl,hat ((k - 1) / 2),if_neg (by omega),if_neg (by omega)]
    exact h.up h1 h3 j (by omega) k1 k3
   ·rw[hat k,if_neg (by rintro rfl;exact hp k3),if_neg hki,hat ((k - 1) / 2),if_neg h4,if_neg hp]
    exact h.hp k h1 h2 h3 hp
 ·rw[k3,hat i,if_neg (by omega),if_pos rfl,hat k,if_neg (by omega),if_neg (by omega)]
  have:=h.hp k h1 h2 (by have:=h.le;omega) (by omega)
  rwa [h3] at this
theorem Hp.top (hw:Wo less) {n:Nat}{L:List γ}(h:Hp less 0 n L):∀j,j<n→less (atG L j) (atG L 0)=false:=by
 intro j
 induction j using Nat.strongRecOn with
 | ind j ih =>
  intro hj
  by_cases h0:j=0
  ·subst h0;exact hw.irrefl _
  ·exact hw.ntrans _ _ _ (ih ((j - 1) / 2) (by omega) (by omega)) (h j (by omega) hj (by omega))
theorem Hp.leaves (n:Nat) (L:List γ):Hp less (n / 2) n L:=fun j h1 h2 h3=>by omega
theorem Hp.set0 {n:Nat}{L:List γ}(h:Hp less 0 n L) (x:γ):Hp less 1 n (L.set 0 x):=fun j h1 h2 h3=>by
 have:=h j h1 h2 (by omega)
 unfold atG at *
 rwa [List.getElem?_set_ne (by omega),List.getElem?_set_ne (by omega)]
theorem Hp.swap0 {n:Nat}{L:List γ}(h:Hp less 1 (n+1) L) (hn:L.length=n+1):Hp less 1 n (swapG L 0 n):=fun j h1 h2 h3=>by
 have:=h j h1 (by omega) h3
 have h4:=swapG_at (L:=L) (i:=0) (j:=n) (by omega) (by omega)
 rw[h4 j,if_neg (by omega),if_neg (by omega),h4 ((j - 1) / 2),if_neg (by omega),if_neg (by omega)]
 exact this
theorem Hp.congr {s n:Nat}{L M:List γ}(h:Hp less s n L) (he:∀k,k<n→M[k]?=L[k]?):Hp less s n M:=fun j h1 h2 h3=>by
 have:=h j h1 h2 h3
 unfold atG at *
 rwa [he j h2,he ((j - 1) / 2) (by omega)]
end
section
variable {β κ : Type} {lt : κ → κ → Bool} (key : β → κ)
def headLess [Inhabited β] (lt:κ→κ→Bool) (key:β→κ) (a b:List β):Bool:=lt (key (a.headD default)) (key (b.headD default))
theorem headLess_wo [Inhabited β] (h:Ordr lt):Wo (headLess lt key) where
 asymm _ _ e:=h.asymm e
 ntrans _ _ _ h1 h2:=h.ntrans h1 h2
 irrefl _:=h.irrefl _
structure MergeI [Inhabited β] (lt:κ→κ→Bool) (key:β→κ) (all pre:List β) (L:List (List β)):Prop where
 perm:(pre++L.flatten).Perm all
 wk:Wk lt (pre.map key)
 le:∀x∈pre,∀y∈L.flatten,lt (key y) (key x)=false
 some:∀r∈L,r ≠ []
 rows:∀r∈L,Wk lt (r.map key)
 hp:Hp (headLess lt key) 0 L.length L
variable {key} [Inhabited β]
theorem MergeI.start {all:List β}{L M:List (List β)}(hm:L.Perm M) (hp:M.flatten.Perm all) (h1:∀r∈M,r ≠ []) (h2:∀r∈M,Wk lt (r.map key)) (h3:Hp (headLess lt key) 0 L.length L):MergeI lt key all [] L :=
 ⟨(hm.flatten).trans hp,List.Pairwise.nil,by simp,fun r hr=>h1 r (hm.mem_iff.1 hr),fun r hr=>h2 r (hm.mem_iff.1 hr),h3⟩
theorem MergeI.least (h:Ordr lt) {all pre:List β}{L:List (List β)}{x:β}{r:List β}{T:List (List β)}(hI:MergeI lt key all pre L) (hL:L=(x :: r) :: T):∀y∈L.flatten,lt (key y) (key x)=false:=by
 intro y hy
 obtain ⟨s,hs,hys⟩:=List.mem_flatten.1 hy
 obtain ⟨j,hj,e⟩:=List.mem_iff_getElem.1 hs
 have htop:=hI.hp.top (headLess_wo key h) j hj
 rw[atG_eq hj,e,atG_eq (by omega),show L[0]'(by omega)=x :: r from by simp[hL]] at htop
 have hw:=hI.rows s hs
 cases s with
 | nil=>simp at hys
 | cons a t =>
  have h1:lt (key a) (key x)=false:=htop
  rcases List.mem_cons.1 hys with rfl|hyt
  ·exact h1
  ·have h2:=(List.pairwise_cons.1 hw).1 (key y) (List.mem_map.2 ⟨y,hyt,rfl⟩)
   exact h.ntrans h1 h2
theorem MergeI.told (h:Ordr lt) {all pre:List β}{L:List (List β)}{x:β}{r:List β}{T:List (List β)}(hI:MergeI lt key all pre L) (hL:L=(x :: r) :: T):(pre.map key ++ [key x]) <+: sortK lt (all.map key):=by
 have hle:=hI.least h hL
 have hp:((pre.map key ++ [key x])++(r++T.flatten).map key).Perm (all.map key):=by
  have:=hI.perm.map key
  rw[hL] at this
  simpa using this
 rw[sortK_split h hp ?_ ?_]
 ·exact List.prefix_append _ _
 ·refine List.pairwise_append.2 ⟨hI.wk,List.pairwise_singleton _ _,fun a ha b hb => ?_⟩
  obtain ⟨a',ha',rfl⟩:=List.mem_map.1 ha
  simp only[List.mem_singleton] at hb
  subst hb
  exact hI.le a' ha' x (by rw[hL];simp)
 ·intro a ha b hb
  obtain ⟨b',hb',rfl⟩:=List.mem_map.1 hb
  have hbL:b'∈L.flatten:=by rw[hL];simp at hb' ⊢;rcases hb' with g|g;exact .inr (.inl g);exact .inr (.inr g)
  rcases List.mem_append.1 ha with ha|ha
  ·obtain ⟨a',ha',rfl⟩:=List.mem_map.1 ha
   exact hI.le a' ha' b' hbL
  ·simp only[List.mem_singleton] at ha
   subst ha
   exact hle b' hbL
theorem MergeI.done (h:Ordr lt) {all pre:List β}(hI:MergeI lt key all pre []):pre.map key=sortK lt (all.map key):=by
 have:=hI.perm
 simp only[List.flatten_nil,List.append_nil] at this
 exact (sortK_of h (this.map key) hI.wk).symm
theorem MergeI.next (h:Ordr lt) {all pre:List β}{L:List (List β)}{x:β}{r:List β}{T M:List (List β)}(hI:MergeI lt key all pre L) (hL:L=(x :: r) :: T) (hM:M.Perm (if r = [] then T else r :: T)) (hp:Hp (headLess lt key) 0 M.length M) :
  MergeI lt key all (pre ++ [x]) M:=by
 have hle:=hI.least h hL
 have hfl:M.flatten.Perm (r++T.flatten):=by
  refine hM.flatten.trans ?_
  split
  ·rename_i e;subst e;exact .refl _
  ·exact .refl _
 have hsub:∀y∈M.flatten,y∈L.flatten:=fun y hy=>by
  have:=hfl.mem_iff.1 hy
  rw[hL];simp at this ⊢;rcases this with g|g;exact .inr (.inl g);exact .inr (.inr g)
 have hrow:∀s∈M,s ≠ []∧Wk lt (s.map key):=fun s hs=>by
  have:=hM.mem_iff.1 hs
  split at this
  ·exact ⟨hI.some s (by rw[hL];simp[this]),hI.rows s (by rw[hL];simp[this])⟩
  ·rename_i e
   rcases List.mem_cons.1 this with rfl|g
   ·refine ⟨e,?_⟩
    have:=hI.rows (x :: s) (by rw[hL];simp)
    exact (List.pairwise_cons.1 this).2
   ·exact ⟨hI.some s (by rw[hL];simp[g]),hI.rows s (by rw[hL];simp[g])⟩
 refine ⟨?_,?_,?_,fun s hs=>(hrow s hs).1,fun s hs=>(hrow s hs).2,hp⟩
 ·refine List.Perm.trans ?_ hI.perm
  rw[hL,List.append_assoc]
  refine List.Perm.append_left pre ?_
  simp only[List.flatten_cons,List.cons_append,List.nil_append]
  exact hfl.cons x
 ·rw[List.map_append]
  refine List.pairwise_append.2 ⟨hI.wk,List.pairwise_singleton _ _,fun a ha b hb => ?_⟩
  obtain ⟨a',ha',rfl⟩:=List.mem_map.1 ha
  simp only[List.map_cons,List.map_nil,List.mem_singleton] at hb
  subst hb
  exact hI.le a' ha' x (by rw[hL];simp)
 ·intro a ha b hb
  rcases List.mem_append.1 ha with ha|ha
  ·exact hI.le a ha b (hsub b hb)
  ·simp only[List.mem_singleton] at ha
   subst ha
   exact hle b (hsub b hb)
end
end
section
open Go.RowKit
structure HeapI {γ:Type} [Inhabited γ] (τ:TypeId) (a:Addr) (fN fL fS fP:FuncId) (less:γ→γ→Bool) (Ne:γ→Prop) (St:List γ→World→Prop):Prop where
 wo:Wo less
 mN:∀w,(method 454 τ (.pointer (some a)) "Len").run Tryz.prog w = .ok (fN,.pointer (some a)) w
 mL:∀w,(method 454 τ (.pointer (some a)) "Less").run Tryz.prog w = .ok (fL,.pointer (some a)) w
 mS:∀w,(method 454 τ (.pointer (some a)) "Swap").run Tryz.prog w = .ok (fS,.pointer (some a)) w
 mP:∀w,(method 454 τ (.pointer (some a)) "Pop").run Tryz.prog w = .ok (fP,.pointer (some a)) w
 eN:∀args w,(callFunc fN args).run Tryz.prog w = .ok (.enter fN args) w
 eL:∀args w,(callFunc fL args).run Tryz.prog w = .ok (.enter fL args) w
 eS:∀args w,(callFunc fS args).run Tryz.prog w = .ok (.enter fS args) w
 eP:∀args w,(callFunc fP args).run Tryz.prog w = .ok (.enter fP args) w
 drew:∀L w q,St L w→St L (w.drewN q)
 few:∀L w,St L w→L.length≤1000000
 len:∀L w,St L w→Calls Tryz.prog fN #[.pointer (some a)] w fun e w'=>e = .returned (.int .i64 (L.length:Nat))∧w=w'
 lss:∀L w (i j:Int),St L w→0≤i→i<(L.length:Nat)→0≤j→j<(L.length:Nat)→Ne (atG L i.toNat)→Ne (atG L j.toNat)→Calls Tryz.prog fL #[.pointer (some a),.int .i64 i,.int .i64 j] w (BoolIs w (less (atG L i.toNat) (atG L j.toNat)))
 swp:∀L w (i j:Int),St L w→0≤i→i<(L.length:Nat)→0≤j→j<(L.length:Nat)→Calls Tryz.prog fS #[.pointer (some a),.int .i64 i,.int .i64 j] w fun e w'=>e = .returned (.tuple #[])∧St (swapG L i.toNat j.toNat) w'
 pop:∀L w,St L w→L ≠ []→Calls Tryz.prog fP #[.pointer (some a)] w fun e w'=>(∃v,e = .returned v)∧St L.dropLast w'
def DownIs {γ:Type} [Inhabited γ] (less:γ→γ→Bool) (St:List γ→World→Prop) (L0:List γ) (s n:Nat) (e:Ending) (w' : World):Prop :=
 ∃(b:Bool) (L:List γ),e = .returned (.bool b)∧St L w'∧Hp less s n L∧L.Perm L0∧∀k,n≤k→L[k]?=L0[k]?
theorem down_any {γ:Type} [Inhabited γ] {τ:TypeId}{a:Addr}{fN fL fS fP:FuncId}{less:γ→γ→Bool}{Ne:γ→Prop}{St:List γ→World→Prop}(H:HeapI τ a fN fL fS fP less Ne St)
  (L0:List γ) (w:World) (hSt:St L0 w) (s n:Nat) (hn:n≤L0.length) (hs:s≤n) (hHp:Hp less (s+1) n L0) (hNe:∀k,k<n→Ne (atG L0 k)) :
  Calls Tryz.prog 237 #[.iface τ (.pointer (some a)),.int .i64 s,.int .i64 n] w (DownIs less St L0 s n):=by
 have hn6:n≤1000000:=Nat.le_trans hn (H.few _ _ hSt)
 have mL:=H.mL
 have mS:=H.mS
 have eL:=H.eL
 have eS:=H.eS
 have hD:=DownI.start hHp
 go_enter Tryz.func237,Tryz.ntmps237
 go_wp2_with fail
 go_loopg [7] (n - s) (fun g i wr=>∃(k:Nat) (L:List γ),k+g=n∧i = .int .i64 k∧St L wr∧DownI less s n L0 L k∧∀k,k<n→Ne (atG L k))
 case atStart=>exact ⟨s,L0,by omega,rfl,hSt,hD,hNe⟩
 case round =>
  obtain ⟨k,L,hk,rfl,hst,hd,hne'⟩:=hrel
  have hne:=Lib.hid hne'
  clear hHp hSt hD hNe hne'
  have hlen:L.length=L0.length:=hd.perm.length_eq
  have hLn:n≤L.length:=by omega
  clear hlen
  by_cases h1:2*k+1<n
  ·by_cases h2:2*k+2<n
   ·obtain ⟨b1,hb1⟩:∃b1,less (atG L (2*k+2)) (atG L (2*k+1))=b1:=⟨_,rfl⟩
    have hC1:=Lib.hid (H.lss L wr (2*(k:Int)+1+1) (2*(k:Int)+1) hst (by omega) (by omega) (by omega) (by omega) (hne.out _ (by omega)) (hne.out _ (by omega)))
    rw[show (2*(k:Int)+1+1).toNat=2*k+2 from by omega,show (2*(k:Int)+1).toNat=2*k+1 from by omega,hb1] at hC1
    have HB1:=Lib.hid hb1
    clear hb1
    go_wp2_with fail
    refine hC1.out.mono ?_
    rintro e w1 ⟨rfl,q1,rfl⟩
    have hst1:=H.drew _ _ q1 hst
    clear hC1 hst
    cases b1 with
    | true =>
     have hkid:kid less n L k=2*k+2:=by unfold kid;rw[if_pos ⟨h2,HB1.out⟩]
     obtain ⟨b2,hb2⟩:∃b2,less (atG L (2*k+2)) (atG L k)=b2:=⟨_,rfl⟩
     have hC2:=Lib.hid (H.lss L _ (2*(k:Int)+1+1) (k:Int) hst1 (by omega) (by omega) (by omega) (by omega) (hne.out _ (by omega)) (hne.out _ (by omega)))
     rw[show (2*(k:Int)+1+1).toNat=2*k+2 from by omega,show ((k:Int)).toNat=k from by omega,hb2] at hC2
     have HB2:=Lib.hid hb2
     have HKID:=Lib.hid hkid
     clear hb2 HB1 hkid
     go_wp2_with fail
     refine hC2.out.mono ?_
     rintro e w2 ⟨rfl,q2,rfl⟩
     have hst2:=H.drew _ _ q2 hst1
     rw[World.drewN_drewN] at hst2
     clear hC2 hst1
     cases b2 with
     | true =>
      have hd2:=hd.step H.wo hLn h1 (by rw[HKID.out];exact HB2.out)
      rw[HKID.out] at hd2
      have hne2:Hid (∀j,j<n→Ne (atG (swapG L k (2*k+2)) j)):=fun j hj=>by rw[swapG_at (by omega) (by omega) j];split;exact hne.out _ (by omega);split;exact hne.out _ (by omega);exact hne.out _ hj
      have hC3:=Lib.hid (H.swp L _ (k:Int) (2*(k:Int)+1+1) hst2 (by omega) (by omega) (by omega) (by omega))
      rw[show (2*(k:Int)+1+1).toNat=2*k+2 from by omega,show ((k:Int)).toNat=k from by omega] at hC3
      clear HKID HB2 hd hst2
      go_wp2_with fail
      refine hC3.out.mono ?_
      rintro e w3 ⟨rfl,hst3⟩
      clear hC3
      go_wp2_with fail
      go_roundg (n - (2*k+2))
      case measure=>omega
      case rel=>exact ⟨2*k+2,_,by omega,by go_num,hst3,hd2,hne2.out⟩
     | false =>
      have hp:=hd.stop2 H.wo (by rw[HKID.out];exact HB2.out)
      have hpm:=hd.perm
      have hout:=Lib.hid hd.out
      clear HKID HB2 hd
      go_wp2_with fail
      go_ret
      exact ⟨_,L,rfl,hst2,hp,hpm,hout.out⟩
    | false =>
     have hkid:kid less n L k=2*k+1:=by unfold kid;rw[if_neg (fun e=>by have:=e.2;rw[HB1.out] at this;cases this)]
     obtain ⟨b2,hb2⟩:∃b2,less (atG L (2*k+1)) (atG L k)=b2:=⟨_,rfl⟩
     have hC2:=Lib.hid (H.lss L _ (2*(k:Int)+1) (k:Int) hst1 (by omega) (by omega) (by omega) (by omega) (hne.out _ (by omega)) (hne.out _ (by omega)))
     rw[show (2*(k:Int)+1).toNat=2*k+1 from by omega,show ((k:Int)).toNat=k from by omega,hb2] at hC2
     have HB2:=Lib.hid hb2
     have HKID:=Lib.hid hkid
     clear hb2 HB1 hkid
     go_wp2_with fail
     refine hC2.out.mono ?_
     rintro e w2 ⟨rfl,q2,rfl⟩
     have hst2:=H.drew _ _ q2 hst1
     rw[World.drewN_drewN] at hst2
     clear hC2 hst1
     cases b2 with
     | true =>
      have hd2:=hd.step H.wo hLn h1 (by rw[HKID.out];exact HB2.out)
      rw[HKID.out] at hd2
      have hne2:Hid (∀j,j<n→Ne (atG (swapG L k (2*k+1)) j)):=fun j hj=>by rw[swapG_at (by omega) (by omega) j];split;exact hne.out _ (by omega);split;exact hne.out _ (by omega);exact hne.out _ hj
      have hC3:=Lib.hid (H.swp L _ (k:Int) (2*(k:Int)+1) hst2 (by omega) (by omega) (by omega) (by omega))
      rw[show (2*(k:Int)+1).toNat=2*k+1 from by omega,show ((k:Int)).toNat=k from by omega] at hC3
      clear HKID HB2 hd hst2
      go_wp2_with fail
      refine hC3.out.mono ?_
      rintro e w3 ⟨rfl,hst3⟩
      clear hC3
      go_wp2_with fail
      go_roundg (n - (2*k+1))
      case measure=>omega
      case rel=>exact ⟨2*k+1,_,by omega,by go_num,hst3,hd2,hne2.out⟩
     | false =>
      have hp:=hd.stop2 H.wo (by rw[HKID.out];exact HB2.out)
      have hpm:=hd.perm
      have hout:=Lib.hid hd.out
      clear HKID HB2 hd
      go_wp2_with fail
      go_ret
      exact ⟨_,L,rfl,hst2,hp,hpm,hout.out⟩
   ·have hkid:kid less n L k=2*k+1:=by unfold kid;rw[if_neg (fun e=>h2 e.1)]
    obtain ⟨b2,hb2⟩:∃b2,less (atG L (2*k+1)) (atG L k)=b2:=⟨_,rfl⟩
    have hC2:=Lib.hid (H.lss L wr (2*(k:Int)+1) (k:Int) hst (by omega) (by omega) (by omega) (by omega) (hne.out _ (by omega)) (hne.out _ (by omega)))
    rw[show (2*(k:Int)+1).toNat=2*k+1 from by omega,show ((k:Int)).toNat=k from by omega,hb2] at hC2
    have HB2:=Lib.hid hb2
    have HKID:=Lib.hid hkid
    clear hb2 hkid
    go_wp2_with fail
    refine hC2.out.mono ?_
    rintro e w2 ⟨rfl,q2,rfl⟩
    have hst2:=H.drew _ _ q2 hst
    clear hC2 hst
    cases b2 with
    | true =>
     have hd2:=hd.step H.wo hLn h1 (by rw[HKID.out];exact HB2.out)
     rw[HKID.out] at hd2
     have hne2:Hid (∀j,j<n→Ne (atG (swapG L k (2*k+1)) j)):=fun j hj=>by rw[swapG_at (by omega) (by omega) j];split;exact hne.out _ (by omega);split;exact hne.out _ (by omega);exact hne.out _ hj
     have hC3:=Lib.hid (H.swp L _ (k:Int) (2*(k:Int)+1) hst2 (by omega) (by omega) (by omega) (by omega))
     rw[show (2*(k:Int)+1).toNat=2*k+1 from by omega,show ((k:Int)).toNat=k from by omega] at hC3
     clear HKID HB2 hd hst2
     go_wp2_with fail
     refine hC3.out.mono ?_
     rintro e w3 ⟨rfl,hst3⟩
     clear hC3
     go_wp2_with fail
     go_roundg (n - (2*k+1))
     case measure=>omega
     case rel=>exact ⟨2*k+1,_,by omega,by go_num,hst3,hd2,hne2.out⟩
    | false =>
     have hp:=hd.stop2 H.wo (by rw[HKID.out];exact HB2.out)
     have hpm:=hd.perm
     have hout:=Lib.hid hd.out
     clear HKID HB2 hd
     go_wp2_with fail
     go_ret
     exact ⟨_,L,rfl,hst2,hp,hpm,hout.out⟩
  ·have hp:=hd.stop1 (by omega)
   have hpm:=hd.perm
   have hout:=Lib.hid hd.out
   clear hd
   go_wp2_with fail
   go_ret
   exact ⟨_,L,rfl,hst,hp,hpm,hout.out⟩
end
section
open Go.RowKit
def HeapIs {γ:Type} [Inhabited γ] (less:γ→γ→Bool) (St:List γ→World→Prop) (L0:List γ) (e:Ending) (w' : World):Prop :=
 ∃(v:Value) (L:List γ),e = .returned v∧St L w'∧Hp less 0 L.length L∧L.Perm L0
section
variable {γ : Type} [Inhabited γ] {τ : TypeId} {a : Addr} {fN fL fS fP : FuncId} {less : γ → γ → Bool} {Ne : γ → Prop} {St : List γ → World → Prop}
theorem up0_any (w:World):Calls Tryz.prog 238 #[.iface τ (.pointer (some a)),.int .i64 0] w fun e w'=>e = .returned (.tuple #[])∧w=w':=by
 have hq:IntKind.i64.wrap (Int.tdiv (-1) 2)=0:=by decide
 go_enter Tryz.func238,Tryz.ntmps238
 go_wp2_with fail
 go_loop [1] (fun i=>i = .int .i64 0) (fun _=>0)
 case atStart=>rfl
 case round =>
  subst hrel
  go_wp2_with fail
  go_end0
  exact ⟨rfl,rfl⟩
theorem Fix_any (H:HeapI τ a fN fL fS fP less Ne St) (L0:List γ) (w:World) (hSt:St L0 w) (hHp:Hp less 1 L0.length L0) (hNe:∀r∈L0,Ne r) :
  Calls Tryz.prog 198 #[.iface τ (.pointer (some a)),.int .i64 0] w (HeapIs less St L0):=by
 have mN:=H.mN
 have eN:=H.eN
 have hN:=Lib.hid (H.len _ _ hSt)
 have hD:=Lib.hid (down_any H L0 w hSt 0 L0.length (Nat.le_refl _) (Nat.zero_le _) hHp (fun k hk=>by rw[atG_eq hk];exact hNe _ (List.getElem_mem hk)))
 obtain ⟨n,hn⟩:∃n,L0.length=n:=⟨_,rfl⟩
 rw[hn] at hN hD
 have HN:=Lib.hid hn
 clear hHp hn hSt hNe
 go_enter Tryz.func198,Tryz.ntmps198
 go_wp2_with fail
 refine hN.out.mono ?_
 rintro e w' ⟨rfl,rfl⟩
 go_wp2_with fail
 refine hD.out.mono ?_
 rintro e w' ⟨b,L,rfl,hst,hp,hperm, -⟩
 rw[←HN.out, ←hperm.length_eq] at hp
 clear hN hD mN eN
 cases b with
 | true =>
  go_wp2_with fail
  go_end0
  exact ⟨_,L,rfl,hst,hp,hperm⟩
 | false =>
  go_wp2_with fail
  refine (up0_any _).mono ?_
  rintro e w2 ⟨rfl,rfl⟩
  go_wp2_with fail
  go_end0
  exact ⟨_,L,rfl,hst,hp,hperm⟩
theorem Init_any (H:HeapI τ a fN fL fS fP less Ne St) (L0:List γ) (w:World) (hSt:St L0 w) (hNe:∀r∈L0,Ne r) :
  Calls Tryz.prog 196 #[.iface τ (.pointer (some a))] w (HeapIs less St L0):=by
 have mN:=H.mN
 have eN:=H.eN
 have hN:=Lib.hid (H.len _ _ hSt)
 have h6:=H.few _ _ hSt
 have hlv:=Hp.leaves (less:=less) L0.length L0
 have HNE:=Lib.hid hNe
 clear hNe
 obtain ⟨n,hn⟩:∃n,L0.length=n:=⟨_,rfl⟩
 rw[hn] at hN h6 hlv
 have HN:=Lib.hid hn
 clear hn
 go_enter Tryz.func196,Tryz.ntmps196
 go_wp2_with fail
 refine hN.out.mono ?_
 rintro e w' ⟨rfl,rfl⟩
 go_wp2_with fail
 go_loopg [3] (n / 2) (fun g i wr=>∃(L:List γ),i = .int .i64 ((g:Int) - 1)∧g≤n / 2∧St L wr∧Hp less g n L∧L.Perm L0)
 case atStart=>exact ⟨L0,by first|rfl|(congr 1;omega),Nat.le_refl _,hSt,hlv,.refl _⟩
 case round =>
  obtain ⟨L,rfl,hg,hst,hp,hperm⟩:=hrel
  clear hN hSt hlv mN eN
  have hlen:L.length=n:=by rw[hperm.length_eq];exact HN.out
  by_cases h0:1≤gk
  ·have hD:=Lib.hid (down_any H L wr hst (gk - 1) n (by omega) (by omega) (by rw[show gk - 1+1=gk from by omega];exact hp) (fun k hk=>by rw[atG_eq (by omega)];exact HNE.out _ (hperm.mem_iff.1 (List.getElem_mem _))))
   have hc:(((gk - 1:Nat):Int))=(gk:Int) - 1:=by omega
   rw[hc] at hD
   clear hc hst hlen
   go_wp2_with fail
   refine hD.out.mono ?_
   rintro e w' ⟨b,L2,rfl,hst2,hp2,hperm2, -⟩
   clear hD
   go_wp2_with fail
   go_roundg (gk - 1)
   case measure=>omega
   case rel=>exact ⟨L2,by congr 1;omega,by omega,hst2,hp2,hperm2.trans hperm⟩
  ·have hg0:gk=0:=by omega
   have hp0:Hp less 0 L.length L:=by rw[hlen];rw[hg0] at hp;exact hp
   clear hlen hg0 hp
   go_wp2_with fail
   go_end0
   exact ⟨_,L,rfl,hst,hp0,hperm⟩
theorem Pop_any (H:HeapI τ a fN fL fS fP less Ne St) (x:γ) (T:List γ) (w:World) (hSt:St (x :: T) w) (hHp:Hp less 1 (x :: T).length (x :: T)) (hNe:∀r∈T,Ne r) :
  Calls Tryz.prog 197 #[.iface τ (.pointer (some a))] w (HeapIs less St T):=by
 have mN:=H.mN
 have eN:=H.eN
 have mS:=H.mS
 have eS:=H.eS
 have mP:=H.mP
 have eP:=H.eP
 have hN:=Lib.hid (H.len _ _ hSt)
 have h6:=H.few _ _ hSt
 obtain ⟨n,hn⟩:∃n,T.length=n:=⟨_,rfl⟩
 have hlen:(x :: T).length=n+1:=by simp[hn]
 have hS:=Lib.hid (H.swp _ _ 0 (n:Int) hSt (by omega) (by omega) (by omega) (by omega))
 rw[show (0:Int).toNat=0 from rfl,Int.toNat_natCast] at hS
 obtain ⟨M,hM⟩:∃M,swapG (x :: T) 0 n=M:=⟨_,rfl⟩
 have hpm:M.Perm (x :: T):=by rw[←hM];exact swapG_perm (by omega) (by omega)
 have hlast:M[n]?=some x:=by
  have h1:=swapG_at (L:=x :: T) (i:=0) (j:=n) (by omega) (by omega) n
  rw[hM,if_pos rfl] at h1
  have h2:n<M.length:=by rw[hpm.length_eq];omega
  rw[List.getElem?_eq_getElem h2, ←atG_eq h2,h1]
  rfl
 have hp1:Hp less 1 n M:=by rw[←hM];rw[hlen] at hHp;exact hHp.swap0 hlen
 have hneM:∀k,k<n→Ne (atG M k):=fun k hk=>by
  rw[←hM,swapG_at (by omega) (by omega) k,if_neg (by omega)]
  have hT:∀j,j<T.length→Ne (atG (x :: T) (j+1)):=fun j hj=>by
   rw[atG_eq (by simp;omega)];exact hNe _ (by simp)
  split
  ·have:=hT (n - 1) (by omega)
   rwa [show n - 1+1=n from by omega] at this
  ·have:=hT (k - 1) (by omega)
   rwa [show k - 1+1=k from by omega] at this
 have HNEM:=Lib.hid hneM
 clear hneM hNe
 rw[hM] at hS
 rw[hlen] at hN h6
 have hML:M.length=n+1:=by rw[hpm.length_eq];exact hlen
 have HML:=Lib.hid hML
 have HLAST:=Lib.hid hlast
 have hcast:(((n+1:Nat):Int)) - 1=(n:Int):=by omega
 clear hHp hn hM hSt hlen hML hlast
 go_enter Tryz.func197,Tryz.ntmps197
 go_wp2_with fail
 refine hN.out.mono ?_
 rintro e w' ⟨rfl,rfl⟩
 go_wp2_with fail
 refine hS.out.mono ?_
 rintro e w1 ⟨rfl,hst1⟩
 have hD:=Lib.hid (down_any H M w1 hst1 0 n (by have:=HML.out;omega) (by omega) hp1 HNEM.out)
 clear hN hS hst1 hp1
 go_wp2_with fail
 refine hD.out.mono ?_
 rintro e w2 ⟨b,L,rfl,hst2,hp2,hperm2,hout2⟩
 have hL1:L.length=n+1:=by rw[hperm2.length_eq];exact HML.out
 have hlx:L[n]?=some x:=(hout2 n (Nat.le_refl _)).trans HLAST.out
 have hLe:L=L.dropLast ++ [x]:=by
  have hne:L ≠ []:=fun e=>by rw[e] at hL1;simp at hL1
  have h1:=(List.dropLast_concat_getLast hne).symm
  have h2:L.getLast hne=x:=by
   rw[List.getLast_eq_getElem]
   have h3:L[n]?=some (L[n]'(by omega)):=List.getElem?_eq_getElem _
   rw[hlx] at h3
   have h4:=Option.some.inj h3
   rw[h4]
   congr 1
   omega
  rw[h2] at h1
  exact h1
 have hT:L.dropLast.Perm T:=by
  have h1:(L.dropLast ++ [x]).Perm (x :: T):=by rw[←hLe];exact hperm2.trans hpm
  have h2:(x :: L.dropLast).Perm (L.dropLast ++ [x]):=(List.perm_append_singleton x L.dropLast).symm
  exact (h2.trans h1).cons_inv
 have hp3:Hp less 0 L.dropLast.length L.dropLast:=by
  have h3:L.dropLast.length=n:=by rw[List.length_dropLast];omega
  rw[h3]
  exact hp2.congr fun k hk=>by rw[List.getElem?_dropLast,if_pos (by omega)]
 have hP:=Lib.hid (H.pop _ _ hst2 (fun e=>by rw[e] at hL1;simp at hL1))
 clear hD hout2 hL1 hlx hLe hp2 hst2
 go_wp2_with fail
 refine hP.out.mono ?_
 rintro e w3 ⟨⟨v,rfl⟩,hst3⟩
 clear hP
 go_wp2_with fail
 go_ret
 exact ⟨_,_,rfl,hst3,hp3,hT⟩
end
end
namespace KB
open Go.RowKit
abbrev El:=Item×(Option Addr×Nat)
abbrev Key:=Item
instance:Inhabited El:=⟨([],(none,0))⟩
def val (y:El):Value := .slice y.2.1 y.1.length y.2.2
def key (y:El):Key:=y.1
def lt (a b:Key):Bool:=ahead a b
def cmpI (x y:El):Int:=Lib.compareBytes x.1 y.1
structure EOk (m:Nat→Prop) (w:World) (x:El):Prop where
 sees:SeesM m w x.2.1 (bv x.1)
 cap:x.1.length≤x.2.2
theorem EOk.keep {m:Nat→Prop}{w w' : World}{x:El}(h:EOk m w x) (hk:Kept m w w'):EOk m w' x:=⟨h.sees.keep hk,h.cap⟩
theorem EOk.mono {m m' : Nat→Prop}{w:World}{x:El}(h:EOk m w x) (hm:∀k,m k→m' k):EOk m' w x:=⟨h.sees.mono hm,h.cap⟩
theorem ordr:Ordr lt where
 irrefl a:=ahead_irrefl a
 trans _ _ _ h1 h2:=ahead_trans h1 h2
 tri _ _ h1 h2:=ahead_tri h1 h2
theorem cmp_neg (x y:El):decide (cmpI x y<0)=lt (key x) (key y):=Go.Proofs.YtalmnodgjjcefaaGreatDoor.cmp_neg x.1 y.1
theorem cmp_ne (x y:El):cmpI x y=0↔key x=key y:=by
 unfold cmpI key
 exact ⟨fun h=>cmp_zero x.1 y.1 h,fun h=>by rw[h];exact cmp_self y.1⟩
theorem val_one (x:El):(val x).oneCell'=true:=rfl
def cmpF:FuncId:=134
theorem enters_cmp (args:Array Value) (w:World):(callFunc cmpF args).run Tryz.prog w = .ok (.enter cmpF args) w:=enters_of Tryz.func134 (by kernel_rfl) rfl args w
theorem cmp_any {m:Nat→Prop}(x y:El) (w:World) (hx:EOk m w x) (hy:EOk m w y) (hm:∀k,m k→k<w.heap.size) :
  Calls Tryz.prog cmpF #[val x,val y] w fun e w'=>e = .returned (.int .i64 (cmpI x y))∧w=w' :=
 Compare_any x.2.1 y.2.1 x.1.length y.1.length x.2.2 y.2.2 x.1 y.1 rfl rfl w (hx.sees.sees hm) (hy.sees.sees hm)
end KB
namespace KB
open Go.RowKit
structure RowsAt (m q:Nat→Prop) (w:World) (base P:Nat) (L:List (List El)):Prop where
 out:∃(v:Value) (vs:List Value),w.heap[P]?=some (.cells #[v,.func (.func cmpF) #[] #[]] 283 (0,0))∧w.ownsRow base 47 1 v L.length vs∧(∀k,v.ownBlock=some k→q k∧k≠P) ∧
  ∀i (hi:i<L.length),∃Ai ci,vs[i]?=some (.slice Ai (L[i]).length ci)∧(L[i]).length≤ci∧SeesM (fun k=>q k∧k≠P∧v.ownBlock≠some k) w Ai ((L[i]).map val)
 at_:q P
 ok:∀r∈L,∀x∈r,EOk m w x
 apart:∀k,m k→¬ q k
 lt:∀k,q k∨m k→k<w.heap.size
 few:L.length≤1000000
section
variable {m q : Nat → Prop} {w w' : World} {base P : Nat} {L : List (List El)}
theorem RowsAt.keep (h:RowsAt m q w base P L) (hk:Kept (fun k=>q k∨m k) w w') (hs:w.heap.size≤w'.heap.size):RowsAt m q w' base P L:=by
 obtain ⟨v,vs,h1,h2,h3,h4⟩:=h.out
 refine ⟨⟨v,vs,(hk P (.inl h.at_)).trans h1,ownsRow_kept h2 fun k e=>hk k (.inl (h3 k e).1),h3,fun i hi => ?_⟩,h.at_,fun r hr x hx=>(h.ok r hr x hx).keep (hk.mono fun k e => .inr e),h.apart,fun k e=>Nat.lt_of_lt_of_le (h.lt k e) hs,h.few⟩
 obtain ⟨Ai,ci,g1,g2,g3⟩:=h4 i hi
 exact ⟨Ai,ci,g1,g2,g3.keep (hk.mono fun k e => .inl e.1)⟩
theorem RowsAt.drewN (h:RowsAt m q w base P L) (n:Nat):RowsAt m q (w.drewN n) base P L:=h.keep (Kept.drewN _ _ _) (Nat.le_refl _)
theorem RowsAt.some (h:RowsAt m q w base P L) (hL:0<L.length):∃g cap vs,w.heap[P]?=some (.cells #[.slice (some ⟨g,0,none⟩) L.length cap,.func (.func cmpF) #[] #[]] 283 (0,0))∧w.ownsRow base 47 1 (.slice (some ⟨g,0,none⟩) L.length cap) L.length vs∧q g∧g≠P∧L.length≤cap ∧
  ∀i (hi:i<L.length),∃Ai ci,vs[i]?=some (.slice Ai (L[i]).length ci)∧(L[i]).length≤ci∧SeesM (fun k=>q k∧k≠P∧k≠g) w Ai ((L[i]).map val):=by
 obtain ⟨v,vs,h1,h2,h3,h4⟩:=h.out
 rcases h2.2 with ⟨rfl,hn⟩|⟨g,cap,cur,rfl, -, -,hc, -⟩
 ·omega
 ·refine ⟨g,cap,vs,h1,h2,(h3 g rfl).1,(h3 g rfl).2,hc,fun i hi => ?_⟩
  obtain ⟨Ai,ci,g1,g2,g3⟩:=h4 i hi
  exact ⟨Ai,ci,g1,g2,g3.mono fun k e=>⟨e.1,e.2.1,fun e2=>e.2.2 (by rw[e2];rfl)⟩⟩
theorem cells_of {g:Nat}{cs:Array Value}{t:TypeId}(h:w.heap[g]?=some (.cells cs t (0,0))) (j:Nat):w.cell? ⟨g,j,none⟩=cs[j]?∧w.frozen? ⟨g,j,none⟩=false:=by
 simp[World.cell?,World.frozen?,h]
theorem len_any (h:RowsAt m q w base P L):Calls Tryz.prog 330 #[.pointer (some ⟨P,0,none⟩)] w fun e w'=>e = .returned (.int .i64 (L.length:Nat))∧w=w':=by
 obtain ⟨v,vs,h1,h2,h3,h4⟩:=h.out
 have hc0:=(cells_of h1 0).1
 have hsl:∃A c,v = .slice A L.length c:=by
  rcases h2.2 with ⟨rfl,hn⟩|⟨g,cap,cur,rfl, -⟩
  ·exact ⟨none,0,by rw[hn]⟩
  ·exact ⟨_,cap,rfl⟩
 obtain ⟨A,c,rfl⟩:=hsl
 simp only[List.getElem?_toArray,List.getElem?_cons_zero] at hc0
 clear h1 h2 h3 h4 h
 go_enter Tryz.func330,Tryz.ntmps330
 go_wp2
 go_ret
 exact ⟨rfl,rfl⟩
theorem less_any (h:RowsAt m q w base P L) (i j:Int) (hi0:0≤i) (hi:i<(L.length:Nat)) (hj0:0≤j) (hj:j<(L.length:Nat)) (hri:atG L i.toNat ≠ []) (hrj:atG L j.toNat ≠ []) :
  Calls Tryz.prog 331 #[.pointer (some ⟨P,0,none⟩),.int .i64 i,.int .i64 j] w (BoolIs w (headLess lt key (atG L i.toNat) (atG L j.toNat))):=by
 obtain ⟨i,rfl⟩:=Int.eq_ofNat_of_zero_le hi0
 obtain ⟨j,rfl⟩:=Int.eq_ofNat_of_zero_le hj0
 rw[Int.toNat_natCast] at hri hrj
 rw[Int.toNat_natCast,Int.toNat_natCast]
 have hiL:i<L.length:=by omega
 have hjL:j<L.length:=by omega
 obtain ⟨g,cap,vs,h1,h2,h3,h4,h5,h6⟩:=h.some (by omega)
 obtain ⟨Ai,ci,i1,i2,i3⟩:=h6 i hiL
 obtain ⟨Aj,cj,j1,j2,j3⟩:=h6 j hjL
 rw[atG_eq hiL] at hri
 rw[atG_eq hjL] at hrj
 have hoi:=h.ok _ (List.getElem_mem hiL)
 have hoj:=h.ok _ (List.getElem_mem hjL)
 rw[atG_eq hiL,atG_eq hjL]
 have ei:=World.ownsRow.cellAt h2 i (by omega)
 have ej:=World.ownsRow.cellAt h2 j (by omega)
 rw[i1] at ei
 rw[j1] at ej
 generalize L[i]=ri at *
 generalize L[j]=rj at *
 cases ri with
 | nil=>exact absurd rfl hri
 | cons x ri =>
  cases rj with
  | nil=>exact absurd rfl hrj
  | cons y rj =>
   have hmlt:∀k,m k→k<w.heap.size:=fun k e=>h.lt k (.inr e)
   have hcmp:=fun n=>Lib.hid (cmp_any (m:=m) x y (w.drewN n) ((hoi x (by simp)).keep (Kept.drewN _ _ _)) ((hoj y (by simp)).keep (Kept.drewN _ _ _)) hmlt)
   have hres:headLess lt key (x :: ri) (y :: rj)=decide (cmpI x y<0):=(cmp_neg x y).symm
   rw[hres]
   have ii:0<(ri.length+1:Nat):=by omega
   obtain ⟨adi,rfl, -,xi⟩:∃ad,Ai=some ad∧True∧w.cell? ad=some (val x):=by
    rcases i3.out with e|⟨ad,e1, -,e2⟩
    ·simp at e
    ·have:=e2 0 (val x) (by simp)
     exact ⟨ad,e1,trivial,by simpa[Addr.add] using this⟩
   obtain ⟨adj,rfl, -,xj⟩:∃ad,Aj=some ad∧True∧w.cell? ad=some (val y):=by
    rcases j3.out with e|⟨ad,e1, -,e2⟩
    ·simp at e
    ·have:=e2 0 (val y) (by simp)
     exact ⟨ad,e1,trivial,by simpa[Addr.add] using this⟩
   have p0:=(cells_of h1 0).1
   have p1:=(cells_of h1 1).1
   simp only[List.getElem?_toArray,List.getElem?_cons_zero,List.getElem?_cons_succ] at p0 p1
   obtain ⟨N,hN⟩:∃N,L.length=N:=⟨_,rfl⟩
   rw[hN] at p0 h5 hi hj
   simp only[List.length_cons] at ei ej i2 j2
   generalize cmpI x y=r at hcmp ⊢
   generalize val x=vx at hcmp xi
   generalize val y=vy at hcmp xj
   unfold cmpF at p1 hcmp
   clear hN h1 h2 h6 i3 j3 hri hrj hoi hoj hres hiL hjL i1 j1 h hmlt hi0 hj0
   go_enter Tryz.func331,Tryz.ntmps331
   go_wp2
   go_quiet ((refine (hcmp _).out.mono ?_;rintro e w' ⟨rfl,rfl⟩;exact ⟨rfl,_,rfl⟩))
   go_wp2
   go_ret
   exact ⟨rfl,_,rfl⟩
end
end KB
namespace KB
open Go.RowKit
structure Alk (w' w:World):Prop where
 heap:w'.heap=w.heap
 os:w'.os=w.os
 tape:w'.tape=w.tape
 output:w'.output=w.output
section
variable {m q : Nat → Prop} {w w' : World} {base P : Nat} {L : List (List El)}
theorem Alk.turn {T:Nat→Prop}{w w' v:World}(h:Alk w' w) (ht:Turn T v w):Turn T v w' :=
 ⟨h.os.trans ht.os,h.tape.trans ht.tape,h.output.trans ht.output,by rw[h.heap];exact ht.size,fun k a b=>by rw[h.heap];exact ht.block k a b⟩
theorem swap_raw (w:World) (P g i j N cap:Nat) (xi xj:Value) (hne:i≠j) (hi:i<N) (hj:j<N) (_hN:N≤1000000) (_hcap:N≤cap) (hPg:g≠P)
  (p0:w.cell? ⟨P,0,none⟩=some (.slice (some ⟨g,0,none⟩) N cap)) (ci:w.cell? ⟨g,i,none⟩=some xi) (cj:w.cell? ⟨g,j,none⟩=some xj) (fi:w.frozen? ⟨g,i,none⟩=false) (fj:w.frozen? ⟨g,j,none⟩=false)
  (oi:∃a n c,xi = .slice a n c) (oj:∃a n c,xj = .slice a n c) :
  Calls Tryz.prog 333 #[.pointer (some ⟨P,0,none⟩),.int .i64 i,.int .i64 j] w fun e w'=>e = .returned (.tuple #[])∧Alk w' ((w.setCell ⟨g,i,none⟩ xj).setCell ⟨g,j,none⟩ xi):=by
 obtain ⟨ai,ni,ki,rfl⟩:=oi
 obtain ⟨aj,nj,kj,rfl⟩:=oj
 go_enter Tryz.func333,Tryz.ntmps333
 go_wp2
 go_region
 all_goals (go_end0;exact ⟨rfl,rfl,rfl,rfl,rfl⟩)
theorem swap_raw1 (w:World) (P g i N cap:Nat) (xi:Value) (hi:i<N) (_hN:N≤1000000) (_hcap:N≤cap) (_hPg:g≠P)
  (p0:w.cell? ⟨P,0,none⟩=some (.slice (some ⟨g,0,none⟩) N cap)) (ci:w.cell? ⟨g,i,none⟩=some xi) (fi:w.frozen? ⟨g,i,none⟩=false)
  (oi:∃a n c,xi = .slice a n c) :
  Calls Tryz.prog 333 #[.pointer (some ⟨P,0,none⟩),.int .i64 i,.int .i64 i] w fun e w'=>e = .returned (.tuple #[])∧Alk w' ((w.setCell ⟨g,i,none⟩ xi).setCell ⟨g,i,none⟩ xi):=by
 obtain ⟨ai,ni,ki,rfl⟩:=oi
 go_enter Tryz.func333,Tryz.ntmps333
 go_wp2
 go_region
 all_goals (go_end0;exact ⟨rfl,rfl,rfl,rfl,rfl⟩)
theorem swap_any (h:RowsAt m q w base P L) (i j:Int) (hi0:0≤i) (hi:i<(L.length:Nat)) (hj0:0≤j) (hj:j<(L.length:Nat)) :
  Calls Tryz.prog 333 #[.pointer (some ⟨P,0,none⟩),.int .i64 i,.int .i64 j] w fun e w'=>e = .returned (.tuple #[])∧RowsAt m q w' base P (swapG L i.toNat j.toNat)∧Turn q w w':=by
 obtain ⟨i,rfl⟩:=Int.eq_ofNat_of_zero_le hi0
 obtain ⟨j,rfl⟩:=Int.eq_ofNat_of_zero_le hj0
 rw[Int.toNat_natCast,Int.toNat_natCast]
 have hiL:i<L.length:=by omega
 have hjL:j<L.length:=by omega
 obtain ⟨g,cap,vs,h1,h2,h3,h4,h5,h6⟩:=h.some (by omega)
 obtain ⟨Ai,ci,i1,i2,i3⟩:=h6 i hiL
 obtain ⟨Aj,cj,j1,j2,j3⟩:=h6 j hjL
 have ei:=World.ownsRow.cellAt h2 i (by omega)
 have ej:=World.ownsRow.cellAt h2 j (by omega)
 have p0:=(cells_of h1 0).1
 simp only[List.getElem?_toArray,List.getElem?_cons_zero] at p0
 have hvs:vs.length=L.length:=by have:=h2.1;omega
 have key:Calls Tryz.prog 333 #[.pointer (some ⟨P,0,none⟩),.int .i64 i,.int .i64 j] w fun e w'=>e = .returned (.tuple #[])∧Alk w' ((w.setCell ⟨g,i,none⟩ (.slice Aj (L[j]).length cj)).setCell ⟨g,j,none⟩ (.slice Ai (L[i]).length ci)):=by
  by_cases e:i=j
  ·subst e
   have:=i1.symm.trans j1
   rw[←Option.some.inj this]
   exact swap_raw1 w P g i L.length cap _ hiL h.few h5 h4 p0 (ei.trans i1) (World.ownsRow.frozenAt h2 i) ⟨_,_,_,rfl⟩
  ·exact swap_raw w P g i j L.length cap _ _ e hiL hjL h.few h5 h4 p0 (ei.trans i1) (ej.trans j1) (World.ownsRow.frozenAt h2 i) (World.ownsRow.frozenAt h2 j) ⟨_,_,_,rfl⟩ ⟨_,_,_,rfl⟩
 refine key.mono fun e w' ⟨he,hw⟩=>⟨he,?_,?_⟩
 ·obtain ⟨s1,g1⟩:=World.ownsRow.stored h2 i (.slice Aj (L[j]).length cj)
  obtain ⟨s2,g2⟩:=World.ownsRow.stored s1 j (.slice Ai (L[i]).length ci)
  have hkk:Kept (fun k=>k≠g) w w':=fun k hk=>by
   rw[hw.heap]
   exact (Below.heap_setCell _ _ _ _ hk).trans (Below.heap_setCell _ _ _ _ hk)
  have hz:w'.heap.size=w.heap.size:=by rw[hw.heap];simp
  refine ⟨⟨.slice (some ⟨g,0,none⟩) L.length cap,(vs.set i (.slice Aj (L[j]).length cj)).set j (.slice Ai (L[i]).length ci),(hkk P (Ne.symm h4)).trans ?_,ownsRow_kept (w:=(w.setCell ⟨g,i,none⟩ (.slice Aj (L[j]).length cj)).setCell ⟨g,j,none⟩ (.slice Ai (L[i]).length ci)) ?_ (fun k _=>by rw[hw.heap]),?_,?_⟩,h.at_,?_,h.apart,fun k e=>by rw[hz];exact h.lt k e,?_⟩
  ·exact h1
  ·rw[swapG_length];exact s2
  ·intro k e
   obtain rfl:g=k:=Option.some.inj e
   exact ⟨h3,h4⟩
  ·intro k hk
   rw[swapG_length] at hk
   have hg:=swapG_at hiL hjL k
   rw[atG_eq (by rw[swapG_length];exact hk)] at hg
   have hkeep:∀ {A:Option Addr}{xs:List Value},SeesM (fun k=>q k∧k≠P∧k≠g) w A xs→SeesM (fun k=>q k∧k≠P∧(Value.slice (some ⟨g,0,none⟩) L.length cap).ownBlock≠some k) w' A xs:=fun hs =>
    (hs.keep (hkk.mono fun k e=>e.2.2)).mono fun k e=>⟨e.1,e.2.1,fun e2=>e.2.2 (Option.some.inj e2).symm⟩
   rw[List.getElem?_set,List.length_set,List.getElem?_set]
   by_cases e1:k=j
   ·rw[if_pos e1,atG_eq hiL] at hg
    rw[hg,if_pos e1.symm,if_pos (by omega)]
    exact ⟨Ai,ci,rfl,i2,hkeep i3⟩
   ·rw[if_neg e1] at hg
    rw[if_neg (fun e=>e1 e.symm)]
    by_cases e2:k=i
    ·rw[if_pos e2,atG_eq hjL] at hg
     rw[hg,if_pos e2.symm,if_pos (by omega)]
     exact ⟨Aj,cj,rfl,j2,hkeep j3⟩
    ·rw[if_neg e2,atG_eq hk] at hg
     rw[hg,if_neg (fun e=>e2 e.symm)]
     obtain ⟨Ak,ck,k1,k2,k3⟩:=h6 k hk
     exact ⟨Ak,ck,k1,k2,hkeep k3⟩
  ·intro r hr x hx
   exact (h.ok r ((swapG_perm hiL hjL).mem_iff.1 hr) x hx).keep (hkk.mono fun k e e2=>h.apart k e (e2 ▸ h3))
  ·rw[swapG_length];exact h.few
 ·exact hw.turn ((Turn.setCell _ _ _ h3).trans (Turn.setCell _ _ _ h3))
theorem pop_raw (w:World) (P g N cap:Nat) (xn _f:Value) (hN0:0<N) (hN:N≤1000000) (hcap:N≤cap) (_hPg:g≠P)
  (p0:w.cell? ⟨P,0,none⟩=some (.slice (some ⟨g,0,none⟩) N cap)) (cn:w.cell? ⟨g,N - 1,none⟩=some xn) (f0:w.frozen? ⟨P,0,none⟩=false) (on:∃a n c,xn = .slice a n c) :
  Calls Tryz.prog 332 #[.pointer (some ⟨P,0,none⟩)] w fun e w'=>(∃v,e = .returned v)∧Alk w' (w.setCell ⟨P,0,none⟩ (.slice (some ⟨g,0,none⟩) (N - 1:Nat) cap)):=by
 obtain ⟨an,nn,kn,rfl⟩:=on
 obtain ⟨j,hj⟩:∃j,N - 1=j:=⟨_,rfl⟩
 rw[hj] at cn ⊢
 have hsub:IntKind.i64.wrap ((N:Int) - 1)=(j:Int):=by rw[IntKind.wrap_i64];omega
 have hjN:j<N:=by omega
 have hsub2:((N:Int) - 1)=(j:Int):=by omega
 obtain rfl:N=j+1:=by omega
 clear hj hsub hsub2
 go_enter Tryz.func332,Tryz.ntmps332
 go_wp2
 go_ret
 exact ⟨⟨_,rfl⟩,rfl,rfl,rfl,rfl⟩
theorem pop_any (h:RowsAt m q w base P L) (hL:L ≠ []) :
  Calls Tryz.prog 332 #[.pointer (some ⟨P,0,none⟩)] w fun e w'=>(∃v,e = .returned v)∧RowsAt m q w' base P L.dropLast∧Turn q w w':=by
 have hpos:0<L.length:=List.length_pos_iff.2 hL
 obtain ⟨g,cap,vs,h1,h2,h3,h4,h5,h6⟩:=h.some hpos
 obtain ⟨An,cn,n1,n2,n3⟩:=h6 (L.length - 1) (by omega)
 have en:=World.ownsRow.cellAt h2 (L.length - 1) (by omega)
 have hvs:vs.length=L.length:=by have:=h2.1;omega
 have p0:=(cells_of h1 0).1
 have f0:=(cells_of h1 0).2
 simp only[List.getElem?_toArray,List.getElem?_cons_zero] at p0
 refine (pop_raw w P g L.length cap _ (.func (.func cmpF) #[] #[]) hpos h.few h5 h4 p0 (en.trans n1) f0 ⟨_,_,_,rfl⟩).mono fun e w' ⟨he,hw⟩=>⟨he,?_,?_⟩
 ·have hkk:Kept (fun k=>k≠P) w w':=fun k hk=>by
   rw[hw.heap]
   exact Below.heap_setCell _ _ _ _ hk
  have hz:w'.heap.size=w.heap.size:=by rw[hw.heap];simp
  have hn:L.length=(L.length - 1)+1:=by omega
  have hrow:w.ownsRow base 47 1 (.slice (some ⟨g,0,none⟩) (L.length - 1) cap) (L.length - 1) vs.dropLast:=by
   have hx:vs=vs.dropLast ++ [vs.getLast (fun e=>by rw[e] at hvs;simp at hvs;omega)]:=(List.dropLast_concat_getLast _).symm
   have h2':=h2
   rw[hx] at h2'
   refine ownsRow_pop (last := [vs.getLast (fun e=>by rw[e] at hvs;simp at hvs;omega)]) (by rw[List.length_dropLast];omega) ?_
   rw[←hn]
   exact h2'
  refine ⟨⟨.slice (some ⟨g,0,none⟩) (L.length - 1) cap,vs.dropLast,?_,?_,?_,?_⟩,h.at_,?_,h.apart,fun k e=>by rw[hz];exact h.lt k e,by rw[List.length_dropLast];have:=h.few;omega⟩
  ·rw[hw.heap]
   have hP:=heap_setCell_same w P 0 _ _ (.slice (some ⟨g,0,none⟩) (L.length - 1) cap) h1
   rw[hP]
   rfl
  ·rw[List.length_dropLast]
   exact ownsRow_kept hrow fun k e=>hkk k (by obtain rfl:g=k:=Option.some.inj e;exact h4)
  ·intro k e
   obtain rfl:g=k:=Option.some.inj e
   exact ⟨h3,h4⟩
  ·intro k hk
   rw[List.length_dropLast] at hk
   obtain ⟨Ak,ck,k1,k2,k3⟩:=h6 k (by omega)
   rw[List.getElem_dropLast,List.getElem?_dropLast,if_pos (by omega)]
   exact ⟨Ak,ck,k1,k2,(k3.keep (hkk.mono fun k e=>e.2.1)).mono fun k e=>⟨e.1,e.2.1,fun e2=>e.2.2 (Option.some.inj e2).symm⟩⟩
  ·intro r hr x hx
   exact (h.ok r ((List.dropLast_sublist L).subset hr) x hx).keep (hkk.mono fun k e e2=>h.apart k e (e2 ▸ h.at_))
 ·exact hw.turn (Turn.setCell _ _ _ h.at_)
structure StAt (m q:Nat→Prop) (base P:Nat) (W0:World) (L:List (List El)) (w:World):Prop where
 rows:RowsAt m q w base P L
 turn:Turn q W0 w
theorem heapI (m q:Nat→Prop) (base P:Nat) (W0:World):HeapI 281 ⟨P,0,none⟩ 330 331 333 332 (headLess lt key) (fun r=>r ≠ []) (StAt m q base P W0) where
 wo:=headLess_wo key ordr
 mN w:=by kernel_rfl
 mL w:=by kernel_rfl
 mS w:=by kernel_rfl
 mP w:=by kernel_rfl
 eN:=enters_of Tryz.func330 (by kernel_rfl) rfl
 eL:=enters_of Tryz.func331 (by kernel_rfl) rfl
 eS:=enters_of Tryz.func333 (by kernel_rfl) rfl
 eP:=enters_of Tryz.func332 (by kernel_rfl) rfl
 drew L w n h:=⟨h.rows.drewN n,h.turn.trans (Turn.drewN _ _)⟩
 few L w h:=h.rows.few
 len L w h:=len_any h.rows
 lss L w i j h h1 h2 h3 h4 n1 n2:=less_any h.rows i j h1 h2 h3 h4 n1 n2
 swp L w i j h h1 h2 h3 h4:=(swap_any h.rows i j h1 h2 h3 h4).mono fun e w' ⟨he,hr,ht⟩=>⟨he,hr,h.turn.trans ht⟩
 pop L w h hL:=(pop_any h.rows hL).mono fun e w' ⟨he,hr,ht⟩=>⟨he,hr,h.turn.trans ht⟩
end
end KB
end Go.Proofs.YtalmnodgjjcefaaGreatDoor
