/- Several texts in one: LbCmp LbCmp2 LbCmp3 LbSort LbRow LbSortF. -/
import Derived.Test.YtalmnodgjjcefaaGreatDoorJLbA
import Derived.Test.YtalmnodgjjcefaaGreatDoorJIpA
import Derived.Shelf.SlSortCmp.WholeK
set_option maxRecDepth 100000
set_option maxHeartbeats 400000
namespace Go.Proofs.YtalmnodgjjcefaaGreatDoor
section
open Go.RowKit
def cmpB (x y:ByteArray):Int:=if Op.bytesLess x.toList y.toList=true then -1 else if (x.toList==y.toList)=true then 0 else 1
theorem cmpB_lt {x y:ByteArray}(h:Op.bytesLess x.toList y.toList=true):cmpB x y = -1:=if_pos h
theorem cmpB_eq {x y:ByteArray}(h:Op.bytesLess x.toList y.toList=false) (h2:(x.toList==y.toList)=true):cmpB x y=0:=by
 unfold cmpB;rw[h,if_neg (by simp),if_pos h2]
theorem cmpB_gt {x y:ByteArray}(h:Op.bytesLess x.toList y.toList=false) (h2:(x.toList==y.toList)=false):cmpB x y=1:=by
 unfold cmpB;rw[h,if_neg (by simp),h2,if_neg (by simp)]
def IntOf (w:World) (i:Int) (e:Ending) (w' : World):Prop:=e = .returned (.int .i64 i)∧w=w'
theorem isNaN_any (x:ByteArray) (w:World) :
  Calls Tryz.prog 131 #[.string x] w fun e w'=>e = .returned (.bool false)∧w=w':=by
 go_enter Tryz.func131,Tryz.ntmps131
 go_wp2
 go_ret
 exact ⟨by simp,rfl⟩
theorem cmpCompare_any (x y:ByteArray) (w:World) :
  Calls Tryz.prog 86 #[.string x,.string y] w (IntOf w (cmpB x y)):=by
 have hx:=isNaN_any x w
 have hy:=isNaN_any y w
 rcases hb:Op.bytesLess x.toList y.toList with _|_
 ·rcases he:(x.toList==y.toList) with _|_
  ·rw[cmpB_gt hb he]
   have hn:(!(x.toList==y.toList))=true:=by rw[he];rfl
   clear he
   go_enter Tryz.func86,Tryz.ntmps86
   go_wp2_with fail
   refine hx.mono ?_
   rintro e w1 ⟨rfl,rfl⟩
   go_wp2_with fail
   refine hy.mono ?_
   rintro e w1 ⟨rfl,rfl⟩
   go_wp2
   go_ret
   exact ⟨rfl,rfl⟩
  ·rw[cmpB_eq hb he]
   have hn:(!(x.toList==y.toList))=false:=by rw[he];rfl
   clear he
   go_enter Tryz.func86,Tryz.ntmps86
   go_wp2_with fail
   refine hx.mono ?_
   rintro e w1 ⟨rfl,rfl⟩
   go_wp2_with fail
   refine hy.mono ?_
   rintro e w1 ⟨rfl,rfl⟩
   go_wp2
   go_ret
   exact ⟨rfl,rfl⟩
 ·rw[cmpB_lt hb]
  go_enter Tryz.func86,Tryz.ntmps86
  go_wp2_with fail
  refine hx.mono ?_
  rintro e w1 ⟨rfl,rfl⟩
  go_wp2_with fail
  refine hy.mono ?_
  rintro e w1 ⟨rfl,rfl⟩
  go_wp2
  go_ret
  exact ⟨rfl,rfl⟩
end
section
open Go.RowKit
theorem bytes_same {a b:ByteArray}(h:a.toList=b.toList):a=b:=by
 apply ByteArray.ext
 apply Array.toList_inj.1
 rw[←Lib.toList_data, ←Lib.toList_data]
 exact h
theorem bytesLess_irrefl (l:List UInt8):Op.bytesLess l l=false:=by
 induction l with
 | nil=>rfl
 | cons a t ih=>simp[Op.bytesLess,ih]
end
section
open Go.RowKit
def sameLs:List Lb→List Lb→Bool
 | x :: a,y :: b=>x.1.toList==y.1.toList && x.2.toList==y.2.toList && sameLs a b
 | [], []=>true
 | _,_=>false
theorem sameLs_self (a:List Lb):sameLs a a=true:=by
 induction a with
 | nil=>rfl
 | cons x a ih=>unfold sameLs;rw[ih];simp
theorem sameLs_true:∀ {a b:List Lb},sameLs a b=true→a=b
 | [], [],_=>rfl
 | (a1,a2) :: a,(b1,b2) :: b,h=>by
  unfold sameLs at h
  simp only[Bool.and_eq_true,beq_iff_eq] at h
  rw[bytes_same h.1.1,bytes_same h.1.2,sameLs_true h.2]
 | [],_ :: _,h=>by simp[sameLs] at h
 | _ :: _, [],h=>by simp[sameLs] at h
theorem sameLs_len:∀ {a b:List Lb},a.length≠b.length→sameLs a b=false:=by
 intro a b h
 cases hs:sameLs a b with
 | false=>rfl
 | true=>exact absurd (congrArg List.length (sameLs_true hs)) h
theorem sameLs_at {a b:List Lb}{k:Nat}(h:k<a.length) (h2:k<b.length):sameLs (a.drop k) (b.drop k)=(a[k].1.toList==b[k].1.toList && a[k].2.toList==b[k].2.toList && sameLs (a.drop (k+1)) (b.drop (k+1))):=by
 rw[List.drop_eq_getElem_cons h,List.drop_eq_getElem_cons h2];rfl
theorem sameLs_end {a b:List Lb}{k:Nat}(h:a.length≤k) (h2:b.length≤k):sameLs (a.drop k) (b.drop k)=true:=by
 rw[List.drop_eq_nil_of_le h,List.drop_eq_nil_of_le h2];rfl
def BoolIsL (w:World) (b:Bool) (e:Ending) (w' : World):Prop:=e = .returned (.bool b)∧∃q,w'=w.drewN q
end
section
open Go.RowKit
theorem less_trans:∀ {a b c:List UInt8},Op.bytesLess a b=true→Op.bytesLess b c=true→Op.bytesLess a c=true
 | _,_, [],_,h=>by simp[Op.bytesLess] at h
 | _, [],_ :: _,h,_=>by simp[Op.bytesLess] at h
 | [],_ :: _,_ :: _,_,_=>rfl
 | x :: a,y :: b,z :: c,h1,h2=>by
  simp only[Op.bytesLess,Bool.or_eq_true,Bool.and_eq_true,decide_eq_true_eq,beq_iff_eq] at *
  rcases h1 with h1|⟨h1,h1'⟩
  ·rcases h2 with h2|⟨h2,h2'⟩
   ·exact .inl (UInt8.lt_trans h1 h2)
   ·exact .inl (h2 ▸ h1)
  ·rcases h2 with h2|⟨h2,h2'⟩
   ·exact .inl (h1 ▸ h2)
   ·exact .inr ⟨h1.trans h2,less_trans h1' h2'⟩
theorem less_total:∀ {a b:List UInt8},Op.bytesLess a b=false→Op.bytesLess b a=false→a=b
 | [], [],_,_=>rfl
 | [],_ :: _,h,_=>by simp[Op.bytesLess] at h
 | _ :: _, [],_,h=>by simp[Op.bytesLess] at h
 | x :: a,y :: b,h1,h2=>by
  simp only[Op.bytesLess,Bool.or_eq_false_iff,Bool.and_eq_false_iff,decide_eq_false_iff_not,beq_eq_false_iff_ne] at h1 h2
  have e:x=y:=by
   have a1:=h1.1
   have a2:=h2.1
   rw[UInt8.lt_iff_toNat_lt] at a1 a2
   exact UInt8.toNat_inj.1 (by omega)
  subst e
  have b1:=h1.2.resolve_left (by simp)
  have b2:=h2.2.resolve_left (by simp)
  rw[less_total b1 b2]
theorem less_asymm {a b:List UInt8}(h:Op.bytesLess a b=true):Op.bytesLess b a=false:=by
 cases h2:Op.bytesLess b a with
 | false=>rfl
 | true=>have:=less_trans h h2;rw[bytesLess_irrefl] at this;exact absurd this (by simp)
def ltN (x y:Lb):Bool:=Op.bytesLess x.1.toList y.1.toList
theorem ltN_irrefl (x:Lb):ltN x x=false:=bytesLess_irrefl _
theorem ltN_trans {x y z:Lb}(h:ltN x y=true) (h2:ltN y z=true):ltN x z=true:=less_trans h h2
theorem ltN_total {x y:Lb}(h:ltN x y=false) (h2:ltN y x=false):x.1=y.1:=bytes_same (less_total h h2)
theorem ltN_ne {x y:Lb}(h:ltN x y=true):x.1≠y.1:=fun e=>by unfold ltN at h;rw[e,bytesLess_irrefl] at h;exact absurd h (by simp)
theorem ltN_asymm {x y:Lb}(h:ltN x y=true):ltN y x=false:=less_asymm h
theorem ltN_ntrans {x y z:Lb}(h:ltN x y=false) (h2:ltN y z=false):ltN x z=false:=by
 cases h3:ltN x z with
 | false=>rfl
 | true =>
  cases h4:ltN y x with
  | true=>have:=ltN_trans h4 h3;rw[h2] at this;exact absurd this (by simp)
  | false =>
   have e:=ltN_total h h4
   unfold ltN at *
   rw[e] at h3
   rw[h3] at h2
   exact absurd h2 (by simp)
def insN (x:Lb):List Lb→List Lb
 | [] => [x]
 | y :: t=>if ltN x y=true then x :: y :: t else y :: insN x t
def sortN:List Lb→List Lb
 | [] => []
 | x :: t=>insN x (sortN t)
theorem insN_perm (x:Lb):∀l,(insN x l).Perm (x :: l)
 | [] => .refl _
 | y :: t=>by
  unfold insN
  split
  ·exact .refl _
  ·exact ((insN_perm x t).cons y).trans (.swap x y t)
theorem sortN_perm:∀l,(sortN l).Perm l
 | [] => .refl _
 | x :: t=>(insN_perm x _).trans ((sortN_perm t).cons x)
def Up (l:List Lb):Prop:=l.Pairwise fun x y=>ltN x y=true
def Weak (l:List Lb):Prop:=l.Pairwise fun x y=>ltN y x=false
def Dist (l:List Lb):Prop:=l.Pairwise fun x y=>x.1≠y.1
theorem insN_weak (x:Lb):∀l,Weak l→Weak (insN x l)
 | [],_=>by simp[insN,Weak]
 | y :: t,h=>by
  unfold Weak at h
  rw[List.pairwise_cons] at h
  unfold insN
  split
  ·rename_i hx
   unfold Weak
   rw[List.pairwise_cons]
   refine ⟨fun z hz => ?_,List.pairwise_cons.2 h⟩
   rcases List.mem_cons.1 hz with rfl|hz
   ·exact ltN_asymm hx
   ·exact ltN_ntrans (h.1 z hz) (ltN_asymm hx)
  ·rename_i hx
   rw[Bool.not_eq_true] at hx
   unfold Weak
   rw[List.pairwise_cons]
   refine ⟨fun z hz => ?_,insN_weak x t h.2⟩
   rcases List.mem_cons.1 ((insN_perm x t).mem_iff.1 hz) with rfl|hz
   ·exact hx
   ·exact h.1 z hz
theorem sortN_weak:∀l,Weak (sortN l)
 | []=>List.Pairwise.nil
 | x :: t=>insN_weak x _ (sortN_weak t)
theorem Dist.perm {l m:List Lb}(h:Dist l) (p:m.Perm l):Dist m:=(p.pairwise_iff (R:=fun x y:Lb=>x.1≠y.1) (fun h e=>h e.symm)).2 h
theorem up_of {l:List Lb}(hw:Weak l) (hd:Dist l):Up l:=by
 unfold Up Weak Dist at *
 refine (List.pairwise_and_iff.2 ⟨hw,hd⟩).imp ?_
 intro x y ⟨h1,h2⟩
 cases h:ltN x y with
 | true=>rfl
 | false=>exact absurd (ltN_total h h1) h2
theorem Up.dist {l:List Lb}(h:Up l):Dist l:=h.imp fun hx=>ltN_ne hx
theorem up_unique:∀ {l m:List Lb},l.Perm m→Up l→Up m→l=m
 | [],m,p,_,_=>p.nil_eq
 | x :: l, [],p,_,_=>absurd p.length_eq (by simp)
 | x :: l,y :: m,p,hl,hm=>by
  unfold Up at hl hm
  rw[List.pairwise_cons] at hl hm
  have e:x=y:=by
   rcases List.mem_cons.1 (p.mem_iff.1 (List.mem_cons_self)) with h|h
   ·exact h
   ·rcases List.mem_cons.1 (p.mem_iff.2 (List.mem_cons_self)) with h2|h2
    ·exact h2.symm
    ·have:=ltN_trans (hl.1 y h2) (hm.1 x h)
     rw[ltN_irrefl] at this
     exact absurd this (by simp)
  subst e
  rw[up_unique p.cons_inv hl.2 hm.2]
theorem sortN_up {l:List Lb}(h:Dist l):Up (sortN l):=up_of (sortN_weak l) (h.perm (sortN_perm l))
theorem up_of_near:∀ {l:List Lb},Weak l→(∀i (h:i+1<l.length),l[i].1≠l[i+1].1)→Up l
 | [],_,_=>List.Pairwise.nil
 | [x],_,_=>by simp[Up]
 | x :: y :: t,hw,hn=>by
  have hw':=hw
  unfold Weak at hw
  rw[List.pairwise_cons] at hw
  have ih:=up_of_near (l:=y :: t) hw.2 (fun i h=>by have:=hn (i+1) (by simpa using h);simpa using this)
  have hxy:ltN x y=true:=by
   cases h:ltN x y with
   | true=>rfl
   | false=>exact absurd (ltN_total h (hw.1 y (by simp))) (by have:=hn 0 (by simp);simpa using this)
  have ih':=ih
  unfold Up at ih ⊢
  rw[List.pairwise_cons] at ih ⊢
  refine ⟨fun z hz => ?_,ih'⟩
  rcases List.mem_cons.1 hz with rfl|hz
  ·exact hxy
  ·exact ltN_trans hxy (ih.1 z hz)
def okL (x:Lb):Bool:=nameB x.1 && decide (1≤x.2.size) && decide (x.2.size≤16)
structure MayL (l:List Lb):Prop where
 some:1≤l.length
 few:l.length≤6
 ok:∀x∈l,okL x=true
 dist:Dist l
theorem MayL.perm {l m:List Lb}(h:MayL l) (p:m.Perm l):MayL m:=⟨by rw[p.length_eq];exact h.some,by rw[p.length_eq];exact h.few,fun x hx=>h.ok x (p.mem_iff.1 hx),h.dist.perm p⟩
theorem sortN_length (l:List Lb):(sortN l).length=l.length:=(sortN_perm l).length_eq
theorem MayL.sort {l:List Lb}(h:MayL l):MayL (sortN l):=h.perm (sortN_perm l)
theorem sortN_of_perm {l m:List Lb}(p:m.Perm l) (h:Up m):sortN l=m:=up_unique ((sortN_perm l).trans p.symm) (sortN_up (h.dist.perm p.symm)) h
theorem sortN_sort {l:List Lb}(h:Dist l):sortN (sortN l)=sortN l:=sortN_of_perm (.refl _) (sortN_up h)
end
section
open Go.RowKit
theorem lv_append (l m:List Lb):lv (l++m)=lv l++lv m:=by simp[lv]
theorem lv_one (l:List Lb):∀u∈lv l,u.oneCell'=true:=by
 intro u hu
 simp only[lv,List.mem_flatMap,List.mem_cons,List.not_mem_nil,or_false] at hu
 obtain ⟨x, -,hu⟩:=hu
 rcases hu with rfl|rfl<;>rfl
theorem Tryz.linfo:(Tryz.prog.info? 83).map (fun i=>(i.zero,i.size,i.bytes))=some (some (.agg #[.string ⟨#[]⟩,.string ⟨#[]⟩]),2,32):=by kernel_rfl
theorem info_partsL {o:Option TypeInfo}{z:Option Value}{s b:Nat}(h:o.map (fun i=>(i.zero,i.size,i.bytes))=some (z,s,b)):∃i,o=some i∧i.zero=z∧i.size=s∧i.bytes=b:=by
 cases o with
 | none=>simp at h
 | some i =>
  simp only[Option.map_some,Option.some.injEq,Prod.mk.injEq] at h
  exact ⟨i,rfl,h.1,h.2.1,h.2.2⟩
def OwnL (w:World) (base:Nat) (v:Value) (ls:List Lb):Prop:=w.ownsRow base 83 2 v ls.length (lv ls)
theorem OwnL.nil (w:World) (base:Nat):OwnL w base (.slice none 0 0) []:=World.ownsRow_nil w base _ 2
theorem OwnL.open_ {w:World}{base:Nat}{v:Value}{ls:List Lb}(h:OwnL w base v ls):∃A c,v = .slice A ls.length c∧ls.length≤c∧c≤maxLen∧Sees w w.heap.size A (lv ls):=own_open h
theorem OwnL.below {w w' : World}{base:Nat}{v:Value}{ls:List Lb}(h:OwnL w base v ls) (hb:Below w.heap.size w w'):OwnL w' base v ls:=own_below h hb
theorem OwnL.alloc {w:World}{base:Nat}{v:Value}{ls:List Lb}(h:OwnL w base v ls) (o:Obj):OwnL (w.alloc o) base v ls:=World.ownsRow.alloc h o
theorem OwnL.base_le {w:World}{base b:Nat}{v:Value}{ls:List Lb}(h:OwnL w base v ls) (hb:b≤base):OwnL w b v ls:=by
 refine ⟨h.1,?_⟩
 rcases h.2 with h|⟨g,cap,cur,rfl,hg,r⟩
 ·exact .inl h
 ·exact .inr ⟨g,cap,cur,rfl,Nat.le_trans hb hg,r⟩
theorem OwnL.block {w:World}{base:Nat}{v:Value}{ls:List Lb}(h:OwnL w base v ls):∀k,v.ownBlock=some k→base≤k:=own_block h
theorem OwnL.drewN {w:World}{base:Nat}{v:Value}{ls:List Lb}(h:OwnL w base v ls) (k:Nat):OwnL (w.drewN k) base v ls:=h
theorem OwnL.new (w:World) (base:Nat) (hb:base≤w.heap.size) (ls:List Lb) (n:Nat) (hn:n=ls.length) (cs:Array Value) (h:cs=(lv ls).toArray) (hm:ls.length≤maxLen):OwnL (w.alloc (.cells cs 83)) base (.slice (some ⟨w.heap.size,0,none⟩) n n) ls:=by
 subst hn
 exact own_new w base hb _ 2 _ _ (by rw[lv_length,Nat.mul_comm]) hm cs h
theorem sees_newL (w:World) (ls:List Lb) (t:TypeId) (cs:Array Value) (h:cs=(lv ls).toArray):Sees (w.alloc (.cells cs t)) (w.heap.size+1) (some ⟨w.heap.size,0,none⟩) (lv ls):=by
 subst h
 refine ⟨.inr ⟨_,rfl,by simp,fun j x hj => ?_⟩⟩
 have:=World.cell?_alloc_at (w:=w) (lv ls).toArray t w.heap.size j rfl
 unfold Addr.add
 by_cases h0:j=0
 ·subst h0;rw[if_pos rfl,this];simpa using hj
 ·rw[if_neg h0];simp only[Nat.zero_add];rw[this];simpa using hj
theorem wpList_append_l {w:World}{ops:Array Oper}{rest:List Oper}{o:Oper}{a:Act}{Q:Exit→Act→World→Prop}(hgd:o.guard=none) (s x:Operand)
  (ho:o.op = .call { callee := .builtin .append,args := #[s,x],argTypes := #[22,22] })
  (base:Nat) (v:Value) (l:List Lb) (hs:a.eval s=v) (hown:OwnL w base v l) (B:Nat) (A:Option Addr) (m c:Nat) (news:List Lb) (hx:a.eval x = .slice A m c) (hm:news.length=m) (hsee:Sees w B A (lv news))
  (h63:l.length+m≤1099511627776) (hbase:base≤w.heap.size)
  (h:∀v' w',OwnL w' base v' (l++news)→Onto w w' v v'→wpList Tryz.prog ops Q rest (a.put o.dst v') w'):wpList Tryz.prog ops Q (o :: rest) a w:=by
 obtain ⟨i0,hi0,hz0,hz1,hz2⟩:=info_partsL Tryz.linfo
 refine wpList_append_v hgd s x _ ho 83 i0 _ 2 32 Tryz.underlying22 hi0 hz0 hz1 hz2 rfl (by omega) base v l.length (lv l) hs hown B A m c (lv news) hx (by rw[lv_length,hm,Nat.mul_comm]) hsee (lv_one _) (by simp only[maxLen];omega) (by omega) hbase fun v' w' h2 h3=>h v' w' ?_ h3
 unfold OwnL
 rw[lv_append,List.length_append,hm]
 exact h2
def RetL (w:World) (base:Nat) (v0:Value) (ls:List Lb) (e:Ending) (w' : World):Prop:=∃v,e = .returned v∧OwnL w' base v ls∧Onto w w' v0 v
theorem CloneL_any (A:Option Addr) (n c:Nat) (l:List Lb) (hn:l.length=n) (w:World) (h:Sees w w.heap.size A (lv l)) (hlen:l.length≤1099511627776) :
  Calls Tryz.prog 83 #[.slice A n c] w (RetL w w.heap.size (.slice none 0 0) l):=by
 subst hn
 have he:=fun (W:World) (a:Option Addr) (n c:Nat)=>Lib.run_eql_slice_nil (P:=Tryz.prog) W 22 83 a n c 0 0 Tryz.underlying22
 cases A with
 | none =>
  have hn:l = []:=by
   rcases h.out with h|⟨ad,h,_⟩
   ·cases l with
    | nil=>rfl
    | cons x t=>simp[lv] at h
   ·cases h
  subst hn
  go_enter Tryz.func83,Tryz.ntmps83
  go_wp2
  go_ret
  exact ⟨_,rfl,OwnL.nil _ _,Onto.refl _ _⟩
 | some ad =>
  go_enter Tryz.func83,Tryz.ntmps83
  go_wp2_with (at_builtin;refine wpList_append_l rfl (.tmp 5) (.tmp 6) rfl w.heap.size (.slice (some ⟨w.heap.size,0,none⟩) 0 0) [] (by rfl) (OwnL.new _ _ (Nat.le_refl _) [] 0 rfl _ rfl (by simp[maxLen])) w.heap.size (some ad) l.length c l (by rfl) rfl (h.alloc (Nat.le_refl _) _) (by simp;omega) (by simp) ?_;intro v1 w1 hown1 hon1)
  go_ret
  exact ⟨v1,rfl,hown1,(Onto.new _ _ _ _ _).trans hon1⟩
end
section
open Go.RowKit Go.Shelf Go.Sort
def encL (x:Lb):List Value := [.string x.1,.string x.2]
theorem flat_lv (d:Array Lb):(flatK encL 2 d).toList=lv d.toList:=by
 apply List.ext_getElem?
 intro t
 by_cases ht:t<d.size*2
 ·have h1:=get_flatK encL 2 d t ht
  have hs:t<(flatK encL 2 d).size:=by rw[size_flatK];exact ht
  rw[getElem!_pos _ t hs] at h1
  obtain ⟨q,hq⟩:∃q,t / 2=q:=⟨_,rfl⟩
  have hk:q<d.size:=by omega
  have hk' : q<d.toList.length:=by rw[Array.length_toList];exact hk
  have h2:=lv_at d.toList q hk'
  rw[hq,getElem!_pos d q hk] at h1
  rw[List.getElem?_eq_getElem (by rw[Array.length_toList];exact hs),Array.getElem_toList,h1]
  rcases Nat.mod_two_eq_zero_or_one t with hm|hm
  ·rw[hm]
   have e:t=2*q:=by omega
   subst e
   rw[h2.1];simp[encL]
  ·rw[hm]
   have e:t=2*q+1:=by omega
   subst e
   rw[h2.2];simp[encL]
 ·rw[List.getElem?_eq_none (by rw[Array.length_toList,size_flatK];omega),List.getElem?_eq_none (by rw[lv_length,Array.length_toList];omega)]
theorem ltOf_ltN (x y:Lb):ltOf (fun x y:Lb=>cmpB x.1 y.1) x y=ltN x y:=by
 unfold ltOf ltN
 cases h:Op.bytesLess x.1.toList y.1.toList with
 | true=>show decide (cmpB x.1 y.1<0)=_;rw[cmpB_lt h];rfl
 | false =>
  cases h2:(x.1.toList==y.1.toList) with
  | true=>show decide (cmpB x.1 y.1<0)=_;rw[cmpB_eq h h2];rfl
  | false=>show decide (cmpB x.1 y.1<0)=_;rw[cmpB_gt h h2];rfl
theorem swoN:SWO (ltOf fun x y:Lb=>cmpB x.1 y.1) where
 irrefl x:=by rw[ltOf_ltN];exact ltN_irrefl x
 trans x y z h1 h2:=by rw[ltOf_ltN] at *;exact ltN_trans h1 h2
 ntrans x y z h1 h2:=by rw[ltOf_ltN] at *;exact ltN_ntrans h1 h2
theorem canonFn_any (x y:Lb) (W:World):Calls Tryz.prog 85 #[.agg #[.string x.1,.string x.2],.agg #[.string y.1,.string y.2]] W fun e w'=>e = .returned (.int .i64 (cmpB x.1 y.1))∧∃q os',w'=grow (W.drewN q) os':=by
 have hC:∀W,Hid (Calls Tryz.prog 86 #[.string x.1,.string y.1] W _):=fun W=>Lib.hid (cmpCompare_any x.1 y.1 W)
 generalize cmpB x.1 y.1=r at hC ⊢
 go_enter Tryz.func85,Tryz.ntmps85
 go_wp2_with fail
 refine (hC _).out.mono ?_
 rintro e w1 ⟨rfl,rfl⟩
 go_wp2
 go_ret
 exact ⟨rfl,0,_,by rw[alloc_eq_grow,alloc_eq_grow,grow_grow];rfl⟩
theorem put_heap (w:World) (g m:Nat) (F:Array Value) (os:Array Obj) (k:Nat) (hk:k<w.heap.size):(grow (putRow id (Sort.ahead w m) g 0 F) os).heap[k]?=if g=k then (w.heap[k]?).map (onCells (putCells id 0 F)) else w.heap[k]?:=by
 show ((w.heap.modify g (onCells (putCells id 0 F)))++os)[k]?=_
 rw[Array.getElem?_append_left (by simpa using hk),Array.getElem?_modify]
theorem put_size (w:World) (g m:Nat) (F:Array Value) (os:Array Obj):w.heap.size≤(grow (putRow id (Sort.ahead w m) g 0 F) os).heap.size:=by
 show _≤((w.heap.modify g (onCells (putCells id 0 F)))++os).size
 simp
theorem put_cells (F cur:Array Value) (h:F.size≤cur.size):(putCells id 0 F cur).toList.take F.size=F.toList:=by
 apply List.ext_getElem?
 intro t
 by_cases ht:t<F.size
 ·rw[List.getElem?_take,if_pos ht]
  have hs:t<(putCells id 0 F cur).size:=by unfold putCells;simp;omega
  rw[List.getElem?_eq_getElem (by rw[Array.length_toList];exact hs),List.getElem?_eq_getElem (by rw[Array.length_toList];exact ht),Array.getElem_toList,Array.getElem_toList]
  unfold putCells
  rw[Array.getElem_mapIdx,if_pos ⟨Nat.zero_le _,by omega⟩]
  simp[getElem!_pos,ht]
 ·rw[List.getElem?_eq_none (by rw[List.length_take];omega),List.getElem?_eq_none (by rw[Array.length_toList];omega)]
theorem SortFunc_any (base g cap:Nat) (n:Nat) (ls:List Lb) (hn:ls.length=n) (w:World) (hown:OwnL w base (.slice (some ⟨g,0,none⟩) n cap) ls) (hlen:n≤1099511627776) :
  Calls Tryz.prog 84 #[.slice (some ⟨g,0,none⟩) n cap,.func (.func 85) #[] #[]] w fun e w' =>
   e = .returned (.tuple #[])∧∃ls',ls'.Perm ls∧Weak ls'∧OwnL w' base (.slice (some ⟨g,0,none⟩) n cap) ls'∧Below g w w':=by
 have hown0:=hown
 rcases hown.2 with ⟨h,_⟩|⟨g',cap',cur,he,hbg,hh,hnc,hcm,hcs,htk⟩
 ·cases h
 injection he with h1 h2 h3
 injection h1 with h1
 injection h1 with h1
 subst h1
 subst h3
 have hgs:g<w.heap.size:=by
  rcases Nat.lt_or_ge g w.heap.size with h|h
  ·exact h
  ·rw[Array.getElem?_eq_none h] at hh;cases hh
 have hsz:ls.toArray.size=n:=by simpa using hn
 have hF:(flatK encL 2 ls.toArray).toList=lv ls:=flat_lv ls.toArray
 have hH:HoldsK encL 2 w g 0 ls.toArray:=by
  intro j hj
  have hj2:=hj
  rw[size_flatK,hsz] at hj2
  have hjc:j<cur.size:=by omega
  constructor
  ·unfold World.cell?
   rw[hh]
   simp only[Nat.zero_add,Option.isSome_none,Bool.false_eq_true,if_false]
   have e1:(lv ls)[j]?=(flatK encL 2 ls.toArray)[j]?:=by rw[←hF,Array.getElem?_toList]
   rw[←htk,List.getElem?_take,if_pos (by rw[hn];exact hj2),Array.getElem?_toList] at e1
   rw[e1,Array.getElem?_eq_getElem hj,getElem!_pos _ j hj]
   rfl
  ·unfold World.frozen?
   rw[hh]
   simp
 have eg:∀args w,(callFunc 85 args).run Tryz.prog w = .ok (.enter 85 args) w:=enters_of Tryz.func85 (by kernel_rfl) rfl
 have hcon:=AnyQ.slices_SortFunc Tryz.sortLb 2 Tryz.isAgg83 Tryz.sizeOf83 encL (fun _=>rfl) (fun x v hv=>by simp[encL] at hv;rcases hv with rfl|rfl<;>rfl) (fun x y=>cmpB x.1 y.1) swoN 85 #[] g 0 cap ls.toArray w eg (fun _ _ _ _ x y=>canonFn_any x y _) hH hgs (by rw[hsz];omega)
 change Calls Tryz.prog 84 _ _ _ at hcon
 rw[hsz] at hcon
 refine hcon.mono ?_
 rintro e w' ⟨rfl,d',m,os,hp,hs,rfl⟩
 obtain ⟨hps, -,hpp⟩:=hp
 rw[hsz] at hps
 have hpm:d'.toList.Perm ls:=by
  have e1:d'.extract 0 n=d':=by rw[←hps];exact Array.extract_size
  have e2:ls.toArray.extract 0 n=ls.toArray:=by rw[←hsz];exact Array.extract_size
  rw[e1,e2] at hpp
  exact hpp
 have hFs:(flatK encL 2 d').size=n*2:=by rw[size_flatK,hps]
 refine ⟨rfl,d'.toList,hpm,?_,⟨by rw[lv_length,Nat.mul_comm],.inr ⟨g,cap,putCells id 0 (flatK encL 2 d') cur,?_,hbg,?_,?_,hcm,?_,?_⟩⟩,rfl,rfl,rfl,put_size _ _ _ _ _,?_⟩
 ·refine List.pairwise_iff_getElem.2 fun i j hi hj hij => ?_
  have:=hs i j (Nat.zero_le _) hij (by rw[Array.length_toList,hps] at hj;exact hj)
  rw[Array.length_toList] at hi hj
  rw[getElem!_pos d' i hi,getElem!_pos d' j hj,ltOf_ltN] at this
  simpa using this
 ·rw[hpm.length_eq,hn]
 ·show (grow (putRow id (Sort.ahead w m) g 0 (flatK encL 2 d')) os).heap[g]?=_
  rw[put_heap w g m _ os g hgs,if_pos rfl,hh]
  rfl
 ·rw[hpm.length_eq];exact hnc
 ·unfold putCells;rw[Array.size_mapIdx];exact hcs
 ·have:=put_cells (flatK encL 2 d') cur (by rw[hFs,hcs];rw[hn] at hnc;omega)
  rw[flat_lv,hFs] at this
  rw[hpm.length_eq,hn]
  exact this
 ·intro k hk
  show (grow (putRow id (Sort.ahead w m) g 0 (flatK encL 2 d')) os).heap[k]?=_
  rw[put_heap w g m _ os k (by omega),if_neg (by omega)]
end
end Go.Proofs.YtalmnodgjjcefaaGreatDoor
