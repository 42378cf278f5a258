/- An index as a row of series: a series is put in, or dropped: plain lists. -/
import Derived.Test.YtalmnodgjjcefaaGreatDoorJTgA
import Derived.Test.YtalmnodgjjcefaaGreatDoorJRwE
import Derived.Test.YtalmnodgjjcefaaGreatDoorJRwC
import Derived.Test.YtalmnodgjjcefaaGreatDoorJRwB
import Derived.Test.YtalmnodgjjcefaaGreatDoorJLbD
import Derived.Test.YtalmnodgjjcefaaGreatDoorJFlA
import Derived.Test.YtalmnodgjjcefaaGreatDoorJKmK
namespace Go.Proofs.YtalmnodgjjcefaaGreatDoor
section
open Go.RowKit
open Classical in
noncomputable def rowB (b:Item):Option RowP:=if h:∃r,MayR r∧sortN r.labels=r.labels∧makeR r=b then some h.choose else none
theorem canonR_same {r:RowP}(h:sortN r.labels=r.labels):canonR r=r:=by unfold canonR;rw[h]
theorem make_inj2 {r s:RowP}(hr:MayR r) (h1:sortN r.labels=r.labels) (hs:MayR s) (h2:sortN s.labels=s.labels) (h:makeR r=makeR s):r=s:=by
 rw[←canonR_same h1, ←canonR_same h2];exact make_inj hr hs h
theorem rowB_some {b:Item}{r:RowP}(h:rowB b=some r):MayR r∧sortN r.labels=r.labels∧makeR r=b:=by
 unfold rowB at h
 split at h
 ·rename_i hx
  injection h with h
  subst h
  exact hx.choose_spec
 ·cases h
theorem rowB_of {r:RowP}(h:MayR r) (hs:sortN r.labels=r.labels):rowB (makeR r)=some r:=by
 have hx:∃s,MayR s∧sortN s.labels=s.labels∧makeR s=makeR r:=⟨r,h,hs,rfl⟩
 unfold rowB
 rw[dif_pos hx]
 obtain ⟨h1,h2,h3⟩:=hx.choose_spec
 rw[make_inj2 h1 h2 h hs h3]
theorem rowB_none {b:Item}(h:NoRow b):rowB b=none:=by
 cases e:rowB b with
 | none=>rfl
 | some r=>exact absurd (rowB_some e).2.2 (h r (rowB_some e).1)
noncomputable def rowsP (A:List Item) (x:Item):List RowP:=(A.filter (preB x)).filterMap rowB
theorem mem_rowsP {A:List Item}{x:Item}{r:RowP} : r∈rowsP A x↔MayR r∧sortN r.labels=r.labels∧makeR r∈A∧preB x (makeR r)=true:=by
 unfold rowsP
 rw[List.mem_filterMap]
 constructor
 ·rintro ⟨b,hb,e⟩
  obtain ⟨h1,h2,rfl⟩:=rowB_some e
  obtain ⟨h3,h4⟩:=List.mem_filter.1 hb
  exact ⟨h1,h2,h3,h4⟩
 ·rintro ⟨h1,h2,h3,h4⟩
  exact ⟨_,List.mem_filter.2 ⟨h3,h4⟩,rowB_of h1 h2⟩
theorem preB_iff {x y:Item} : preB x y=true↔∃t,y=x++t:=by
 unfold preB
 rw[decide_eq_true_eq]
 constructor
 ·rintro ⟨t,ht⟩;exact ⟨t,ht.symm⟩
 ·rintro ⟨t,ht⟩;exact ⟨t,ht.symm⟩
theorem split_zero:∀ {s t p q:List UInt8},(∀c∈s,1≤c.toNat)→(∀c∈t,1≤c.toNat)→s++0 :: p=t++0 :: q→s=t∧p=q
 | [], [],_,_,_,_,h=>⟨rfl,by simpa using h⟩
 | [],d :: t,_,_,_,ht,h=>by
  have:=ht d (by simp)
  simp at h
  rw[←h.1] at this
  exact absurd this (by decide)
 | c :: s, [],_,_,hs,_,h=>by
  have:=hs c (by simp)
  simp at h
  rw[h.1] at this
  exact absurd this (by decide)
 | c :: s,d :: t,p,q,hs,ht,h=>by
  simp only[List.cons_append,List.cons.injEq] at h
  obtain ⟨h1,h2⟩:=split_zero (fun x hx=>hs x (by simp[hx])) (fun x hx=>ht x (by simp[hx])) h.2
  exact ⟨by rw[h.1,h1],h2⟩
theorem escN_pos (l:List UInt8):∀c∈esc l,1≤c.toNat:=by
 intro c hc
 unfold esc at hc
 rcases List.mem_append.1 hc with hc|hc
 ·obtain ⟨d,_,hd⟩:=List.mem_flatMap.1 hc
  unfold escB at hd
  split at hd
  ·simp at hd
   rcases hd with rfl|rfl
   ·decide
   ·rw[UInt8.toNat_add,show (3:UInt8).toNat=3 from rfl];omega
  ·simp at hd;subst hd;omega
 ·simp at hc;subst hc;decide
theorem marsh_pos (l:List Lb):∀c∈marsh l,1≤c.toNat:=by
 intro c hc
 unfold marsh at hc
 obtain ⟨x,_,hx⟩:=List.mem_flatMap.1 hc
 rcases List.mem_append.1 hx with h|h
 ·exact escN_pos _ _ h
 ·exact escN_pos _ _ h
theorem kind_head {r:RowP}(h:MayR r) {k:UInt8}{t:List UInt8}(_:1≤k.toNat) (e:makeR r=k :: t):r.kind=(k.toNat:Int):=by
 obtain ⟨u,hu,h1,h5⟩:=make_head h
 rw[hu] at e
 injection e with e _
 have:k.toNat=r.kind.toNat:=by rw[←e,ofNat_nat,Nat.mod_eq_of_lt (by omega)]
 omega
theorem pre_kind {r:RowP}(h:MayR r) {k:UInt8}(hk:1≤k.toNat):preB [k] (makeR r)=true↔r.kind=(k.toNat:Int):=by
 rw[preB_iff]
 constructor
 ·rintro ⟨t,ht⟩
  exact kind_head h hk ht
 ·intro e
  obtain ⟨u,hu,h1,h5⟩:=make_head h
  refine ⟨u,?_⟩
  rw[hu,e,Int.toNat_natCast,UInt8.ofNat_toNat]
  rfl
theorem pre_series {r:RowP}(h:MayR r) (c:List Lb):preB ([1]++marsh c ++ [0]) (makeR r)=true↔r.kind=1∧sortN r.labels=c:=by
 rw[preB_iff]
 constructor
 ·rintro ⟨t,ht⟩
  have hk:r.kind=1:=kind_head h (k:=1) (t:=marsh c ++ [0]++t) (by decide) (by rw[ht];simp)
  refine ⟨hk,?_⟩
  rw[make1 hk] at ht
  have:marsh (sortN r.labels)++0 :: four r.id.toNat=marsh c++0 :: t:=by simpa using ht
  exact marsh_inj (split_zero (marsh_pos _) (marsh_pos _) this).1
 ·rintro ⟨hk,e⟩
  exact ⟨four r.id.toNat,by rw[make1 hk,e]⟩
theorem pre_number {r:RowP}(h:MayR r) {i:Nat}(hi:i<4294967296):preB ([2]++four i) (makeR r)=true↔r.kind=2∧r.id=(i:Int):=by
 have h1:=h.id1
 have h2:=h.id2
 rw[preB_iff]
 constructor
 ·rintro ⟨t,ht⟩
  have hk:r.kind=2:=kind_head h (k:=2) (t:=four i++t) (by decide) (by rw[ht];simp)
  refine ⟨hk,?_⟩
  rw[make2 hk,List.append_assoc,List.append_assoc] at ht
  have h3:=List.append_inj_left (List.append_cancel_left ht) (by rw[four_len,four_len])
  have:=four_inj (by omega) hi h3
  omega
 ·rintro ⟨hk,e⟩
  exact ⟨marsh (sortN r.labels),by rw[make2 hk,e,Int.toNat_natCast]⟩
theorem pre_tag {r:RowP}(h:MayR r) (x:Lb):preB ([3]++escL x) (makeR r)=true↔r.kind=3∧r.label=x:=by
 rw[preB_iff]
 constructor
 ·rintro ⟨t,ht⟩
  have hk:r.kind=3:=kind_head h (k:=3) (t:=escL x++t) (by decide) (by rw[ht];simp)
  refine ⟨hk,?_⟩
  rw[make3 hk,List.append_assoc,List.append_assoc] at ht
  exact (escL_app_inj (List.append_cancel_left ht)).1
 ·rintro ⟨hk,e⟩
  exact ⟨four r.id.toNat,by rw[make3 hk,e]⟩
theorem may_1 {l:List Lb}{i:Int} : MayR ⟨1,l,lb0,0,i⟩↔1≤i∧i≤1073741824∧MayL l:=by
 constructor
 ·intro h
  refine ⟨h.id1,h.id2,?_⟩
  rcases h.kinds with ⟨_,b,_⟩|⟨a,_⟩|⟨a,_⟩|⟨a,_⟩
  ·exact b
  all_goals (simp at a)
 ·rintro ⟨h1,h2,h3⟩
  exact ⟨h1,h2,by simp,by simp,.inl ⟨.inl rfl,h3,rfl,rfl⟩⟩
theorem may_5 {i:Int} : MayR ⟨5, [],lb0,0,i⟩↔1≤i∧i≤1073741824 :=
 ⟨fun h=>⟨h.id1,h.id2⟩,fun h=>⟨h.1,h.2,by simp,by simp,.inr (.inr (.inr ⟨rfl,rfl,rfl,rfl⟩))⟩⟩
theorem may_4 {x:Lb}{i d:Int}(hx:okL x=true) (h1:1≤i) (h2:i≤1073741824) (h3:0≤d) (h4:d≤2147483647):MayR ⟨4, [],x,d,i⟩:=⟨h1,h2,h3,h4,.inr (.inr (.inl ⟨rfl,rfl,hx⟩))⟩
theorem ah_series {l:List Lb}(h:MayL l) (i:Int):ahB ⟨1,l,lb0,0,i⟩ = [1]++marsh (sortN l) ++ [0]∧ahE ⟨1,l,lb0,0,i⟩=0:=by
 have hm:MayR { (⟨1,l,lb0,0,i⟩:RowP) with id:=1 }∧(⟨1,l,lb0,0,i⟩:RowP).kind≠2:=⟨may_1.2 ⟨by simp,by simp,h⟩,by simp⟩
 unfold ahB ahE
 rw[if_pos hm,if_pos hm]
 refine ⟨?_,rfl⟩
 rw[make1 (r := { (⟨1,l,lb0,0,i⟩:RowP) with id:=1 }) rfl,List.length_append,four_len]
 exact List.take_left' (by omega)
theorem ah_bad {l:List Lb}(h:¬ MayL l) (i:Int):ahE ⟨1,l,lb0,0,i⟩=120:=by
 unfold ahE
 rw[if_neg]
 intro hm
 exact h (may_1.1 hm.1).2.2
theorem ah_tag {x:Lb}(h:okL x=true) (i:Int):ahB ⟨3, [],x,0,i⟩ = [3]++escL x:=by
 have hm:MayR { (⟨3, [],x,0,i⟩:RowP) with id:=1 }∧(⟨3, [],x,0,i⟩:RowP).kind≠2:=⟨⟨by simp,by simp,by simp,by simp,.inr (.inl ⟨rfl,rfl,h,rfl⟩)⟩,by simp⟩
 unfold ahB
 rw[if_pos hm]
 rw[make3 (r := { (⟨3, [],x,0,i⟩:RowP) with id:=1 }) rfl,List.length_append,four_len]
 exact List.take_left' (by omega)
end
section
open Go.RowKit
def SetM.gone (s:SetM) (id:Int):Bool:=decide (1≤id∧id≤1073741824) && s.has (makeR ⟨5, [],lb0,0,id⟩)
def bestP (s:SetM) (L:List RowP):Int:=L.foldl (fun b r=>if s.gone r.id=true then b else max b r.id) 0
open Classical in
noncomputable def SetM.idOf (s:SetM) (l:List Lb):Int:=if MayL l then bestP s (rowsP s.all ([1]++marsh (sortN l) ++ [0])) else 0
noncomputable def SetM.labOf (s:SetM) (id:Int):Option (List Lb):=if 1≤id∧id≤1073741824 then (rowsP s.all ([2]++four id.toNat)).head?.map (·.labels) else none
noncomputable def SetM.next (s:SetM):Int:=(rowsP s.all [2]).foldl (fun n r=>max n (r.id+1)) 1
def SetM.adds (s:SetM) (l:List Item):SetM:=l.foldl (fun s b=>(s.add b).1) s
open Classical in
noncomputable def SetM.wantOf (s:SetM) (l:List Lb) (day:Int):List Item :=
 if s.idOf l=0 then uniqL ahead (itemsOf (sortN l) s.next (wants (sortN l) [day])) else (sortN l).map fun x=>makeR ⟨4, [],x,day,s.idOf l⟩
noncomputable def SetM.newOf (s:SetM) (l:List Lb):Int:=if s.idOf l=0 then s.next else s.idOf l
open Classical in
noncomputable def SetM.addOf (s:SetM) (l:List Lb) (day:Int):SetM×Int×Nat :=
 if ¬ MayL l then (s,0,70) else if day<0∨2147483647<day then (s,0,1) else (s.adds (s.wantOf l day),s.newOf l,0)
noncomputable def SetM.dropOf (s:SetM) (id:Int):SetM×Nat:=if (s.labOf id).isSome=true then (s.adds [makeR ⟨5, [],lb0,0,id⟩],0) else (s,60)
def idsP (L:List RowP) (p:RowP→Bool):List Int:=uniqL KI.lt ((L.filter p).map (·.id))
def SetM.fitR (s:SetM) (fs:List Flt) (r:RowP):Bool:=allB fs r.labels && !s.gone r.id
noncomputable def SetM.fitT (s:SetM) (fs:List Flt) (r:RowP):Bool:=(s.labOf r.id).isSome && (allB fs ((s.labOf r.id).getD []) && !s.gone r.id)
noncomputable def SetM.find (s:SetM) (fs:List Flt):List Int :=
 if h:exactN fs<fs.length then idsP (rowsP s.all ([3]++escL (fs[exactN fs].name,fs[exactN fs].value))) (s.fitT fs) else idsP (rowsP s.all [2]) (s.fitR fs)
def onB (a b:Int) (r:RowP):Bool:=decide (a≤r.day∧r.day≤b)
noncomputable def SetM.on (s:SetM) (fs:List Flt) (a b:Int):List Int:=KI.meetL [s.find fs,idsP (rowsP s.all [4]) (onB a b)]
noncomputable def SetM.raw (s:SetM) (g:Lb→ByteArray):List Item:=((rowsP s.all [2]).filter fun r => !s.gone r.id).flatMap fun r=>(r.labels.map fun x=>(g x).data.toList).filter fun t => !t.isEmpty
noncomputable def SetM.texts (s:SetM) (g:Lb→ByteArray):List Item:=uniqL ahead (s.raw g)
theorem SetM.has_iff (s:SetM) (x:Item):s.has x=true↔x∈s.all:=by rw[SetM.has_eq,decide_eq_true_eq]
theorem add_has {s:SetM}{x:Item}(h:s.has x=true):(s.add x).1=s:=by
 unfold SetM.add
 rw[if_pos h]
 split<;>rfl
theorem add_new {s:SetM}{x:Item}(hb:badL x=false) (hn:s.has x=false) (hl:s.mem.length<500):s.add x=(⟨uniqL ahead (s.mem ++ [x]),s.fs⟩,0):=by
 unfold SetM.add
 rw[if_neg (by rw[hb];simp),if_neg (by rw[hn];simp),if_neg (by omega)]
theorem add_ok {s:SetM}{x:Item}(hb:badL x=false) (hl:s.mem.length<500):(s.add x).2=0∧∀y,y∈(s.add x).1.all↔y∈s.all∨y=x:=by
 cases h:s.has x with
 | true =>
  rw[add_has h]
  refine ⟨?_,fun y=>⟨.inl,?_⟩⟩
  ·unfold SetM.add
   rw[if_neg (by rw[hb];simp),if_pos h]
  ·rintro (e|rfl)
   ·exact e
   ·exact (s.has_iff _).1 h
 | false =>
  rw[add_new hb h hl]
  refine ⟨rfl,fun y => ?_⟩
  rw[mem_all,mem_all]
  simp only[uniqL_mem KBo,List.mem_append,List.mem_singleton]
  constructor
  ·rintro (e|e|e)
   ·exact .inl (.inl e)
   ·exact .inl (.inr e)
   ·exact .inr e
  ·rintro ((e|e)|e)
   ·exact .inl e
   ·exact .inr (.inl e)
   ·exact .inr (.inr e)
theorem add_mem_len (s:SetM) (x:Item):(s.add x).1.mem.length≤s.mem.length+1:=by
 unfold SetM.add
 split
 ·simp
 ·split
  ·simp
  ·split
   ·simp
   ·have:=uniqL_len KBo (s.mem ++ [x])
    rw[List.length_append] at this
    exact this
theorem adds_nil (s:SetM):s.adds []=s:=rfl
theorem adds_cons (s:SetM) (x:Item) (l:List Item):s.adds (x :: l)=(s.add x).1.adds l:=rfl
theorem adds_append (s:SetM) (l m:List Item):s.adds (l++m)=(s.adds l).adds m:=List.foldl_append
theorem adds_ok {l:List Item} : ∀ {s:SetM}{n:Nat},SetOk s→s.total≤n→SetOk (s.adds l)∧(s.adds l).total≤n+l.length:=by
 induction l with
 | nil=>intro s n h ht;exact ⟨h,ht⟩
 | cons x l ih =>
  intro s n h ht
  have h1:=add_total s x
  have:=ih (n:=n+1) (h.add x) (by omega)
  rw[adds_cons,List.length_cons]
  exact ⟨this.1,by omega⟩
theorem adds_mem_len (l:List Item):∀s:SetM,(s.adds l).mem.length≤s.mem.length+l.length:=by
 induction l with
 | nil=>intro s;exact Nat.le_refl _
 | cons x l ih =>
  intro s
  have h1:=add_mem_len s x
  have h2:=ih (s.add x).1
  rw[adds_cons,List.length_cons]
  omega
theorem adds_all {l:List Item}(hl:∀x∈l,badL x=false):∀ {s:SetM},s.mem.length+l.length≤500→∀y,y∈(s.adds l).all↔y∈s.all∨y∈l:=by
 induction l with
 | nil=>intro s _ y;simp[adds_nil]
 | cons x l ih =>
  intro s hn y
  rw[List.length_cons] at hn
  have h1:=add_mem_len s x
  have h2:=(add_ok (s:=s) (hl x (by simp)) (by omega)).2 y
  rw[adds_cons,ih (fun z hz=>hl z (by simp[hz])) (by omega),h2,List.mem_cons]
  constructor
  ·rintro ((e|e)|e)
   ·exact .inl e
   ·exact .inr (.inl e)
   ·exact .inr (.inr e)
  ·rintro (e|e|e)
   ·exact .inl (.inl e)
   ·exact .inl (.inr e)
   ·exact .inr e
theorem adds_filter (t:SetM) (l:List Item):∀s:SetM,(∀x,t.has x=true→s.has x=true)→(hl:∀x∈l,badL x=false)→s.mem.length+l.length≤500→s.adds (l.filter fun x => !t.has x)=s.adds l:=by
 induction l with
 | nil=>intro s _ _ _;rfl
 | cons x l ih =>
  intro s hst hl hn
  rw[List.length_cons] at hn
  have h1:=add_mem_len s x
  have hnew:∀y,t.has y=true→(s.add x).1.has y=true:=fun y hy=>by
   rw[SetM.has_iff,(add_ok (hl x (by simp)) (by omega)).2 y]
   exact .inl ((s.has_iff y).1 (hst y hy))
  have h2:=ih (s.add x).1 hnew (fun z hz=>hl z (by simp[hz])) (by omega)
  cases hx:t.has x with
  | true =>
   rw[List.filter_cons_of_neg (by rw[hx];simp),adds_cons, ←h2,add_has (hst x hx)]
  | false =>
   rw[List.filter_cons_of_pos (by rw[hx];rfl),adds_cons,adds_cons,h2]
theorem make_bad {r:RowP}(h:MayR r):badL (makeR r)=false:=by
 have:=make_len h
 unfold badL
 rw[decide_eq_false (by omega),decide_eq_false (by omega)]
 rfl
end
section
open Go.RowKit
structure Ser where
 lab:List Lb
 gone:Bool
 days:List Int
def SaidX (X:List Ser) (r:RowP):Prop:=∃(i:Nat) (t:Ser),X[i]?=some t∧r.id=((i+1:Nat):Int) ∧
 (((r.kind=1∨r.kind=2)∧r.labels=t.lab∧r.label=lb0∧r.day=0)∨(r.kind=3∧r.labels = []∧r.label∈t.lab∧r.day=0) ∨
  (r.kind=4∧r.labels = []∧r.label∈t.lab∧r.day∈t.days)∨(r.kind=5∧r.labels = []∧r.label=lb0∧r.day=0∧t.gone=true))
structure Inv (A:List Item) (X:List Ser):Prop where
 lab:∀t∈X,MayL t.lab∧sortN t.lab=t.lab
 day:∀t∈X,∀d∈t.days,0≤d∧d≤2147483647
 few:X.length≤1000
 item:∀b,b∈A↔∃r,SaidX X r∧makeR r=b
 live:∀(i j:Nat) (t u:Ser),X[i]?=some t→X[j]?=some u→t.lab=u.lab→t.gone=false→u.gone=false→i=j
theorem Inv.new:Inv SetM.new.all []:=by
 refine ⟨by simp,by simp,by simp,fun b => ?_,by simp⟩
 rw[mem_all]
 simp[SetM.new,SaidX]
section
variable {A : List Item} {X : List Ser} {r : RowP}
theorem Inv.may (h:Inv A X) (hr:SaidX X r):MayR r∧sortN r.labels=r.labels:=by
 obtain ⟨i,t,ht,hid,hk⟩:=hr
 have htX:=List.mem_of_getElem? ht
 have hi:=(List.getElem?_eq_some_iff.1 ht).1
 have hl:=h.lab t htX
 have hf:=h.few
 have h1:1≤r.id:=by omega
 have h2:r.id≤1073741824:=by omega
 rcases hk with ⟨a,b,c,d⟩|⟨a,b,c,d⟩|⟨a,b,c,d⟩|⟨a,b,c,d,_⟩
 ·exact ⟨⟨h1,h2,by omega,by omega,.inl ⟨a,by rw[b];exact hl.1,c,d⟩⟩,by rw[b];exact hl.2⟩
 ·exact ⟨⟨h1,h2,by omega,by omega,.inr (.inl ⟨a,b,hl.1.ok _ c,d⟩)⟩,by rw[b];rfl⟩
 ·have:=h.day t htX _ d
  exact ⟨⟨h1,h2,this.1,this.2,.inr (.inr (.inl ⟨a,b,hl.1.ok _ c⟩))⟩,by rw[b];rfl⟩
 ·exact ⟨⟨h1,h2,by omega,by omega,.inr (.inr (.inr ⟨a,b,c,d⟩))⟩,by rw[b];rfl⟩
theorem Inv.make (h:Inv A X) (h1:MayR r) (h2:sortN r.labels=r.labels):makeR r∈A↔SaidX X r:=by
 rw[h.item]
 constructor
 ·rintro ⟨q,hq,e⟩
  obtain ⟨g1,g2⟩:=h.may hq
  rw[←make_inj2 g1 g2 h1 h2 e];exact hq
 ·exact fun hr=>⟨r,hr,rfl⟩
theorem Inv.row (h:Inv A X) {x:Item} : r∈rowsP A x↔SaidX X r∧preB x (makeR r)=true:=by
 rw[mem_rowsP]
 constructor
 ·rintro ⟨h1,h2,h3,h4⟩
  exact ⟨(h.make h1 h2).1 h3,h4⟩
 ·rintro ⟨h1,h2⟩
  obtain ⟨g1,g2⟩:=h.may h1
  exact ⟨g1,g2,(h.make g1 g2).2 h1,h2⟩
def atX (X:List Ser) (id:Int):Option Ser:=if 1≤id then X[(id - 1).toNat]? else none
theorem atX_iff {id:Int}{t:Ser} : atX X id=some t↔∃i:Nat,X[i]?=some t∧id=((i+1:Nat):Int):=by
 unfold atX
 constructor
 ·intro h
  split at h
  ·exact ⟨_,h,by omega⟩
  ·cases h
 ·rintro ⟨i,h,rfl⟩
  rw[if_pos (by omega),show (((i+1:Nat):Int) - 1).toNat=i from by omega]
  exact h
theorem atX_mem {id:Int}{t:Ser}(h:atX X id=some t):t∈X:=by
 obtain ⟨i,h,_⟩:=atX_iff.1 h
 exact List.mem_of_getElem? h
theorem atX_le {id:Int}{t:Ser}(h:atX X id=some t):1≤id∧id≤X.length:=by
 obtain ⟨i,h2,rfl⟩:=atX_iff.1 h
 have:=(List.getElem?_eq_some_iff.1 h2).1
 omega
theorem row1:SaidX X r∧r.kind=1↔∃t,atX X r.id=some t∧r=⟨1,t.lab,lb0,0,r.id⟩:=by
 constructor
 ·rintro ⟨⟨i,t,ht,hid,hk⟩,h1⟩
  refine ⟨t,atX_iff.2 ⟨i,ht,hid⟩,?_⟩
  rcases hk with ⟨a,b,c,d⟩|⟨a,b,c,d⟩|⟨a,b,c,d⟩|⟨a,b,c,d,_⟩
  ·exact ext_row h1 b c d rfl
  all_goals omega
 ·rintro ⟨t,ht,e⟩
  obtain ⟨i,ht,hid⟩:=atX_iff.1 ht
  rw[e]
  exact ⟨⟨i,t,ht,by rw[←hid],.inl ⟨.inl rfl,rfl,rfl,rfl⟩⟩,rfl⟩
theorem row2:SaidX X r∧r.kind=2↔∃t,atX X r.id=some t∧r=⟨2,t.lab,lb0,0,r.id⟩:=by
 constructor
 ·rintro ⟨⟨i,t,ht,hid,hk⟩,h1⟩
  refine ⟨t,atX_iff.2 ⟨i,ht,hid⟩,?_⟩
  rcases hk with ⟨a,b,c,d⟩|⟨a,b,c,d⟩|⟨a,b,c,d⟩|⟨a,b,c,d,_⟩
  ·exact ext_row h1 b c d rfl
  all_goals omega
 ·rintro ⟨t,ht,e⟩
  obtain ⟨i,ht,hid⟩:=atX_iff.1 ht
  rw[e]
  exact ⟨⟨i,t,ht,by rw[←hid],.inl ⟨.inr rfl,rfl,rfl,rfl⟩⟩,rfl⟩
theorem row3:SaidX X r∧r.kind=3↔∃t,atX X r.id=some t∧r.label∈t.lab∧r=⟨3, [],r.label,0,r.id⟩:=by
 constructor
 ·rintro ⟨⟨i,t,ht,hid,hk⟩,h1⟩
  refine ⟨t,atX_iff.2 ⟨i,ht,hid⟩,?_⟩
  rcases hk with ⟨a,b,c,d⟩|⟨a,b,c,d⟩|⟨a,b,c,d⟩|⟨a,b,c,d,_⟩
  ·omega
  ·exact ⟨c,ext_row h1 b rfl d rfl⟩
  all_goals omega
 ·rintro ⟨t,ht,hl,e⟩
  obtain ⟨i,ht,hid⟩:=atX_iff.1 ht
  rw[e]
  exact ⟨⟨i,t,ht,by rw[←hid],.inr (.inl ⟨rfl,rfl,hl,rfl⟩)⟩,rfl⟩
theorem row4:SaidX X r∧r.kind=4↔∃t,atX X r.id=some t∧r.label∈t.lab∧r.day∈t.days∧r=⟨4, [],r.label,r.day,r.id⟩:=by
 constructor
 ·rintro ⟨⟨i,t,ht,hid,hk⟩,h1⟩
  refine ⟨t,atX_iff.2 ⟨i,ht,hid⟩,?_⟩
  rcases hk with ⟨a,b,c,d⟩|⟨a,b,c,d⟩|⟨a,b,c,d⟩|⟨a,b,c,d,_⟩
  ·omega
  ·omega
  ·exact ⟨c,d,ext_row h1 b rfl rfl rfl⟩
  ·omega
 ·rintro ⟨t,ht,hl,hd,e⟩
  obtain ⟨i,ht,hid⟩:=atX_iff.1 ht
  rw[e]
  exact ⟨⟨i,t,ht,by rw[←hid],.inr (.inr (.inl ⟨rfl,rfl,hl,hd⟩))⟩,rfl⟩
theorem row5:SaidX X r∧r.kind=5↔∃t,atX X r.id=some t∧t.gone=true∧r=⟨5, [],lb0,0,r.id⟩:=by
 constructor
 ·rintro ⟨⟨i,t,ht,hid,hk⟩,h1⟩
  refine ⟨t,atX_iff.2 ⟨i,ht,hid⟩,?_⟩
  rcases hk with ⟨a,b,c,d⟩|⟨a,b,c,d⟩|⟨a,b,c,d⟩|⟨a,b,c,d,g⟩
  ·omega
  ·omega
  ·omega
  ·exact ⟨g,ext_row h1 b c d rfl⟩
 ·rintro ⟨t,ht,hg,e⟩
  obtain ⟨i,ht,hid⟩:=atX_iff.1 ht
  rw[e]
  exact ⟨⟨i,t,ht,by rw[←hid],.inr (.inr (.inr ⟨rfl,rfl,rfl,rfl,hg⟩))⟩,rfl⟩
end
section
variable {s : SetM} {X : List Ser}
def goneX (X:List Ser) (id:Int):Bool:=(atX X id).any (·.gone)
theorem Inv.gone (h:Inv s.all X) (id:Int):s.gone id=goneX X id:=by
 rw[Bool.eq_iff_iff]
 unfold SetM.gone goneX
 rw[Bool.and_eq_true,decide_eq_true_eq,SetM.has_iff,Option.any_eq_true]
 constructor
 ·rintro ⟨h1,h2⟩
  have h3:=(h.make (r:=⟨5, [],lb0,0,id⟩) (may_5.2 h1) rfl).1 h2
  obtain ⟨t,g1,g2, -⟩:=(row5 (r:=⟨5, [],lb0,0,id⟩)).1 ⟨h3,rfl⟩
  exact ⟨t,g1,g2⟩
 ·rintro ⟨t,g1,g2⟩
  have h3:=(row5 (r:=⟨5, [],lb0,0,id⟩)).2 ⟨t,g1,g2,rfl⟩
  have h4:=h.may h3.1
  exact ⟨may_5.1 h4.1,(h.make h4.1 h4.2).2 h3.1⟩
theorem Inv.rows1 (h:Inv s.all X) (c:List Lb) (r:RowP):r∈rowsP s.all ([1]++marsh c ++ [0])↔∃t,atX X r.id=some t∧t.lab=c∧r=⟨1,t.lab,lb0,0,r.id⟩:=by
 rw[h.row]
 constructor
 ·rintro ⟨h1,h2⟩
  obtain ⟨g1,g2⟩:=h.may h1
  obtain ⟨h3,h4⟩:=(pre_series g1 c).1 h2
  obtain ⟨t,ht,e⟩:=row1.1 ⟨h1,h3⟩
  refine ⟨t,ht,?_,e⟩
  rw[g2] at h4
  rw[←h4,e]
 ·rintro ⟨t,ht,hc,e⟩
  obtain ⟨h1,h2⟩:=row1.2 ⟨t,ht,e⟩
  obtain ⟨g1,g2⟩:=h.may h1
  refine ⟨h1,(pre_series g1 c).2 ⟨h2,?_⟩⟩
  rw[g2, ←hc,e]
theorem Inv.rows2 (h:Inv s.all X) (r:RowP):r∈rowsP s.all [2]↔∃t,atX X r.id=some t∧r=⟨2,t.lab,lb0,0,r.id⟩:=by
 rw[h.row, ←row2]
 constructor
 ·rintro ⟨h1,h2⟩
  exact ⟨h1,(pre_kind (k:=2) (h.may h1).1 (by decide)).1 h2⟩
 ·rintro ⟨h1,h2⟩
  exact ⟨h1,(pre_kind (k:=2) (h.may h1).1 (by decide)).2 h2⟩
theorem Inv.rows4 (h:Inv s.all X) (r:RowP):r∈rowsP s.all [4]↔∃t,atX X r.id=some t∧r.label∈t.lab∧r.day∈t.days∧r=⟨4, [],r.label,r.day,r.id⟩:=by
 rw[h.row, ←row4]
 constructor
 ·rintro ⟨h1,h2⟩
  exact ⟨h1,(pre_kind (k:=4) (h.may h1).1 (by decide)).1 h2⟩
 ·rintro ⟨h1,h2⟩
  exact ⟨h1,(pre_kind (k:=4) (h.may h1).1 (by decide)).2 h2⟩
theorem Inv.rowsI (h:Inv s.all X) {id:Int}(h1:1≤id) (h2:id≤1073741824) (r:RowP):r∈rowsP s.all ([2]++four id.toNat)↔r.id=id∧∃t,atX X id=some t∧r=⟨2,t.lab,lb0,0,id⟩:=by
 rw[h.row]
 constructor
 ·rintro ⟨h3,h4⟩
  obtain ⟨h5,h6⟩:=(pre_number (h.may h3).1 (by omega)).1 h4
  have h7:r.id=id:=by omega
  obtain ⟨t,ht,e⟩:=row2.1 ⟨h3,h5⟩
  rw[h7] at ht e
  exact ⟨h7,t,ht,e⟩
 ·rintro ⟨h3,t,ht,e⟩
  rw[←h3] at ht e
  obtain ⟨h5,h6⟩:=row2.2 ⟨t,ht,e⟩
  exact ⟨h5,(pre_number (h.may h5).1 (by omega)).2 ⟨h6,by omega⟩⟩
theorem Inv.rows3 (h:Inv s.all X) (x:Lb) (r:RowP):r∈rowsP s.all ([3]++escL x)↔r.label=x∧∃t,atX X r.id=some t∧x∈t.lab∧r=⟨3, [],x,0,r.id⟩:=by
 rw[h.row]
 constructor
 ·rintro ⟨h1,h2⟩
  obtain ⟨h3,rfl⟩:=(pre_tag (h.may h1).1 x).1 h2
  obtain ⟨t,g1,g2,g3⟩:=row3.1 ⟨h1,h3⟩
  exact ⟨rfl,t,g1,g2,g3⟩
 ·rintro ⟨rfl,t,g1,g2,g3⟩
  obtain ⟨h1,h2⟩:=row3.2 ⟨t,g1,g2,g3⟩
  exact ⟨h1,(pre_tag (h.may h1).1 _).2 ⟨h2,rfl⟩⟩
theorem Inv.labOf (h:Inv s.all X) (id:Int):s.labOf id=(atX X id).map (·.lab):=by
 unfold SetM.labOf
 have hf:=h.few
 by_cases h1:1≤id∧id≤1073741824
 ·rw[if_pos h1]
  cases e:rowsP s.all ([2]++four id.toNat) with
  | nil =>
   cases e2:atX X id with
   | none=>rfl
   | some t =>
    have:=(h.rowsI h1.1 h1.2 ⟨2,t.lab,lb0,0,id⟩).2 ⟨rfl,t,e2,rfl⟩
    rw[e] at this
    cases this
  | cons r l =>
   obtain ⟨_,t,ht,er⟩:=(h.rowsI h1.1 h1.2 r).1 (by rw[e];simp)
   rw[ht,er]
   rfl
 ·rw[if_neg h1]
  cases e2:atX X id with
  | none=>rfl
  | some t=>have:=atX_le e2;omega
theorem max_fold (L:List RowP):∀(n m:Int),n≤m→(∀r∈L,r.id+1≤m)→(n=m∨∃r∈L,r.id+1=m)→L.foldl (fun n r=>max n (r.id+1)) n=m:=by
 induction L with
 | nil=>intro n m _ _ h;rcases h with h|⟨r,hr,_⟩;exact h;cases hr
 | cons x L ih =>
  intro n m hn hm h
  rw[List.foldl_cons]
  have hx:=hm x (by simp)
  refine ih _ m (by omega) (fun r hr=>hm r (by simp[hr])) ?_
  rcases h with h|⟨r,hr,e⟩
  ·exact .inl (by omega)
  ·rcases List.mem_cons.1 hr with rfl|hr
   ·exact .inl (by omega)
   ·exact .inr ⟨r,hr,e⟩
theorem Inv.next (h:Inv s.all X):s.next=((X.length+1:Nat):Int):=by
 unfold SetM.next
 refine max_fold _ _ _ (by omega) (fun r hr => ?_) ?_
 ·obtain ⟨t,ht,_⟩:=(h.rows2 r).1 hr
  have:=atX_le ht
  omega
 ·rcases Nat.eq_zero_or_pos X.length with h0|h0
  ·exact .inl (by omega)
  ·obtain ⟨t,ht⟩:∃t,X[X.length - 1]?=some t:=⟨_,List.getElem?_eq_getElem (by omega)⟩
   exact .inr ⟨⟨2,t.lab,lb0,0,(X.length:Nat)⟩,(h.rows2 _).2 ⟨t,atX_iff.2 ⟨X.length - 1,ht,by show ((X.length:Nat):Int)=_;omega⟩,rfl⟩,by show ((X.length:Nat):Int)+1=_;omega⟩
def idX (X:List Ser) (c:List Lb):Int:=match X.findIdx? (fun t=>decide (t.lab=c) && !t.gone) with
 | some i=>((i+1:Nat):Int)
 | none=>0
theorem idX_some {c:List Lb}{i:Nat}(h:X.findIdx? (fun t=>decide (t.lab=c) && !t.gone)=some i):∃t,X[i]?=some t∧t.lab=c∧t.gone=false:=by
 obtain ⟨h1,h2, -⟩:=List.findIdx?_eq_some_iff_getElem.1 h
 rw[Bool.and_eq_true,decide_eq_true_eq,Bool.not_eq_true'] at h2
 exact ⟨_,List.getElem?_eq_getElem h1,h2.1,h2.2⟩
theorem idX_none {c:List Lb}(h:X.findIdx? (fun t=>decide (t.lab=c) && !t.gone)=none) {t:Ser}(ht:t∈X) (hc:t.lab=c):t.gone=true:=by
 have:=List.findIdx?_eq_none_iff.1 h t ht
 rw[Bool.and_eq_false_iff,decide_eq_false_iff_not,Bool.not_eq_false'] at this
 exact this.resolve_left (fun e=>e hc)
theorem best_none (s:SetM) (L:List RowP) (h:∀r∈L,s.gone r.id=true):∀b:Int,L.foldl (fun b r=>if s.gone r.id=true then b else max b r.id) b=b:=by
 induction L with
 | nil=>intro b;rfl
 | cons x L ih =>
  intro b
  rw[List.foldl_cons,if_pos (h x (by simp))]
  exact ih (fun r hr=>h r (by simp[hr])) b
theorem best_some (s:SetM) (L:List RowP) (v:Int) (h:∀r∈L,s.gone r.id=true∨r.id=v):∀b:Int,b≤v→(b=v∨∃r∈L,s.gone r.id=false)→L.foldl (fun b r=>if s.gone r.id=true then b else max b r.id) b=v:=by
 induction L with
 | nil=>intro b _ h;rcases h with h|⟨r,hr,_⟩;exact h;cases hr
 | cons x L ih =>
  intro b hb hx
  rw[List.foldl_cons]
  have h' : ∀r∈L,s.gone r.id=true∨r.id=v:=fun r hr=>h r (by simp[hr])
  by_cases hg:s.gone x.id=true
  ·rw[if_pos hg]
   refine ih h' b hb ?_
   rcases hx with hx|⟨r,hr,e⟩
   ·exact .inl hx
   ·rcases List.mem_cons.1 hr with rfl|hr
    ·rw[hg] at e;cases e
    ·exact .inr ⟨r,hr,e⟩
  ·rw[if_neg hg]
   have:=(h x (by simp)).resolve_left hg
   exact ih h' _ (by omega) (.inl (by omega))
theorem Inv.idOf (h:Inv s.all X) {l:List Lb}(hl:MayL l):s.idOf l=idX X (sortN l):=by
 unfold SetM.idOf
 rw[if_pos hl]
 unfold bestP idX
 cases e:X.findIdx? (fun t=>decide (t.lab=sortN l) && !t.gone) with
 | none =>
  refine best_none s _ (fun r hr => ?_) 0
  obtain ⟨t,ht,hc, -⟩:=(h.rows1 _ r).1 hr
  rw[h.gone]
  unfold goneX
  rw[ht,Option.any_some]
  exact idX_none e (atX_mem ht) hc
 | some i =>
  obtain ⟨t,ht,hc,hg⟩:=idX_some e
  refine best_some s _ _ (fun r hr => ?_) 0 (by show (0:Int)≤((i+1:Nat):Int);omega) (.inr ⟨⟨1,t.lab,lb0,0,((i+1:Nat):Int)⟩,(h.rows1 _ _).2 ⟨t,atX_iff.2 ⟨i,ht,rfl⟩,hc,rfl⟩,?_⟩)
  ·obtain ⟨u,hu,huc, -⟩:=(h.rows1 _ r).1 hr
   cases hug:u.gone with
   | true=>exact .inl (by rw[h.gone];unfold goneX;rw[hu,Option.any_some,hug])
   | false =>
    obtain ⟨j,hj,hid⟩:=atX_iff.1 hu
    have:=h.live j i u t hj ht (by rw[huc,hc]) hug hg
    subst this
    exact .inr hid
  ·rw[h.gone]
   unfold goneX
   rw[show atX X (⟨1,t.lab,lb0,0,((i+1:Nat):Int)⟩:RowP).id=some t from atX_iff.2 ⟨i,ht,rfl⟩,Option.any_some,hg]
end
def idsXa (p:Ser→Bool):Nat→List Ser→List Int
 | _, [] => []
 | i,t :: X=>if p t=true then (i:Int) :: idsXa p (i+1) X else idsXa p (i+1) X
def idsX (X:List Ser) (p:Ser→Bool):List Int:=idsXa p 1 X
theorem mem_idsXa (p:Ser→Bool) (v:Int):∀(X:List Ser) (i:Nat),v∈idsXa p i X↔∃(k:Nat) (t:Ser),X[k]?=some t∧v=((i+k:Nat):Int)∧p t=true
 | [],i=>by simp[idsXa]
 | t :: X,i=>by
  have ih:=mem_idsXa p v X (i+1)
  unfold idsXa
  have hs:(∃(k:Nat) (u:Ser),(t :: X)[k]?=some u∧v=((i+k:Nat):Int)∧p u=true)↔(v=(i:Int)∧p t=true)∨∃(k:Nat) (u:Ser),X[k]?=some u∧v=((i+1+k:Nat):Int)∧p u=true:=by
   constructor
   ·rintro ⟨k,u,h1,h2,h3⟩
    cases k with
    | zero=>rw[List.getElem?_cons_zero] at h1;injection h1 with h1;subst h1;exact .inl ⟨by omega,h3⟩
    | succ k=>rw[List.getElem?_cons_succ] at h1;exact .inr ⟨k,u,h1,by omega,h3⟩
   ·rintro (⟨h1,h2⟩|⟨k,u,h1,h2,h3⟩)
    ·exact ⟨0,t,by simp,by omega,h2⟩
    ·exact ⟨k+1,u,by rw[List.getElem?_cons_succ];exact h1,by omega,h3⟩
  rw[hs]
  split
  ·rename_i hp
   rw[List.mem_cons,ih]
   constructor
   ·rintro (h|h)
    ·exact .inl ⟨h,hp⟩
    ·exact .inr h
   ·rintro (h|h)
    ·exact .inl h.1
    ·exact .inr h
  ·rename_i hp
   rw[ih]
   constructor
   ·exact .inr
   ·rintro (h|h)
    ·exact absurd h.2 hp
    ·exact h
theorem mem_idsX {X:List Ser}{p:Ser→Bool}{v:Int} : v∈idsX X p↔∃t,atX X v=some t∧p t=true:=by
 unfold idsX
 rw[mem_idsXa]
 constructor
 ·rintro ⟨k,t,h1,h2,h3⟩
  exact ⟨t,atX_iff.2 ⟨k,h1,by omega⟩,h3⟩
 ·rintro ⟨t,h1,h3⟩
  obtain ⟨k,h1,h2⟩:=atX_iff.1 h1
  exact ⟨k,t,h1,by omega,h3⟩
theorem ri_idsXa (p:Ser→Bool):∀(X:List Ser) (i:Nat),Ri KI.lt (idsXa p i X)
 | [],_=>List.Pairwise.nil
 | t :: X,i=>by
  unfold idsXa
  split
  ·refine List.pairwise_cons.2 ⟨fun v hv => ?_,ri_idsXa p X (i+1)⟩
   obtain ⟨k,_,_,h2,_⟩:=(mem_idsXa p v X (i+1)).1 hv
   show decide ((i:Int)<v)=true
   rw[decide_eq_true_eq];omega
  ·exact ri_idsXa p X (i+1)
theorem idsX_of {X:List Ser}{p:Ser→Bool}{l:List Int}(h:∀v,v∈l↔∃t,atX X v=some t∧p t=true):uniqL KI.lt l=idsX X p :=
 uniqL_of KI.ordr (ri_idsXa p X 1) fun v=>by rw[h];exact mem_idsX
theorem mem_idsP {L:List RowP}{p:RowP→Bool}{v:Int} : v∈(L.filter p).map (·.id)↔∃r∈L,r.id=v∧p r=true:=by
 rw[List.mem_map]
 constructor
 ·rintro ⟨r,hr,e⟩
  obtain ⟨h1,h2⟩:=List.mem_filter.1 hr
  exact ⟨r,h1,e,h2⟩
 ·rintro ⟨r,hr,e,h2⟩
  exact ⟨r,List.mem_filter.2 ⟨hr,h2⟩,e⟩
theorem getL_mem:∀(ls:List Lb) (n:ByteArray),getL ls n≠⟨#[]⟩→(n,getL ls n)∈ls
 | [],n,h=>absurd rfl h
 | x :: t,n,h=>by
  unfold getL at h ⊢
  split at h
  ·rename_i e
   rw[if_pos e]
   have:x.1=n:=bytes_same (eq_of_beq e)
   rw[←this]
   exact List.mem_cons_self
  ·rename_i e
   rw[if_neg e]
   exact List.mem_cons_of_mem _ (getL_mem t n h)
theorem exact_at:∀(fs:List Flt) (h:exactN fs<fs.length),exactF fs[exactN fs]=true
 | f :: t,h=>by
  by_cases e:exactF f=true
  ·have:exactN (f :: t)=0:=by unfold exactN;rw[if_pos e]
   simp only[this,List.getElem_cons_zero]
   exact e
  ·have h2:exactN (f :: t)=exactN t+1:=by rw[exactN,if_neg e]
   have h' : exactN t<t.length:=by rw[h2] at h;simpa using h
   simp only[h2,List.getElem_cons_succ]
   exact exact_at t h'
theorem exact_mem {f:Flt}(h:exactF f=true) {ls:List Lb}(ho:oneB f ls=true):(f.name,f.value)∈ls:=by
 unfold exactF at h
 rw[Bool.and_eq_true,Bool.and_eq_true,Bool.not_eq_true',Bool.not_eq_true',Bool.not_eq_true'] at h
 obtain ⟨h1,h2,h3⟩:=h
 unfold oneB isB at ho
 rw[h1,h2] at ho
 simp only[Bool.bne_false,Bool.false_eq_true,if_false] at ho
 have e:getL ls f.name=f.value:=bytes_same (eq_of_beq ho)
 have hne:getL ls f.name≠⟨#[]⟩:=fun x=>by
  rw[e] at x
  rw[x,Lib.toList_data] at h3
  simp at h3
 have:=getL_mem ls f.name hne
 rw[e] at this
 exact this
def fitX (fs:List Flt) (t:Ser):Bool:=allB fs t.lab && !t.gone
def onX (a b:Int) (t:Ser):Bool:=t.days.any fun d=>decide (a≤d∧d≤b)
section
variable {s : SetM} {X : List Ser}
theorem goneX_at {id:Int}{t:Ser}(h:atX X id=some t):goneX X id=t.gone:=by unfold goneX;rw[h];rfl
theorem Inv.find (h:Inv s.all X) (fs:List Flt):s.find fs=idsX X (fitX fs):=by
 unfold SetM.find
 split
 ·rename_i hk
  refine idsX_of fun v => ?_
  rw[mem_idsP]
  constructor
  ·rintro ⟨r,hr,rfl,hp⟩
   obtain ⟨-,t,ht,hx, -⟩:=(h.rows3 _ r).1 hr
   refine ⟨t,ht,?_⟩
   unfold SetM.fitT at hp
   rw[h.labOf,ht,h.gone,goneX_at ht] at hp
   exact hp
  ·rintro ⟨t,ht,hp⟩
   have hp':=hp
   unfold fitX at hp'
   rw[Bool.and_eq_true] at hp'
   have ho:oneB fs[exactN fs] t.lab=true:=List.all_eq_true.1 hp'.1 _ (List.getElem_mem hk)
   have hx:=exact_mem (exact_at fs hk) ho
   refine ⟨⟨3, [],(fs[exactN fs].name,fs[exactN fs].value),0,v⟩,(h.rows3 _ _).2 ⟨rfl,t,ht,hx,rfl⟩,rfl,?_⟩
   unfold SetM.fitT
   show ((s.labOf v).isSome && (allB fs ((s.labOf v).getD []) && !s.gone v))=true
   rw[h.labOf,ht,h.gone,goneX_at ht]
   exact hp
 ·refine idsX_of fun v => ?_
  rw[mem_idsP]
  constructor
  ·rintro ⟨r,hr,rfl,hp⟩
   obtain ⟨t,ht,e⟩:=(h.rows2 r).1 hr
   refine ⟨t,ht,?_⟩
   unfold SetM.fitR at hp
   rw[h.gone,goneX_at ht,e] at hp
   exact hp
  ·rintro ⟨t,ht,hp⟩
   refine ⟨⟨2,t.lab,lb0,0,v⟩,(h.rows2 _).2 ⟨t,ht,rfl⟩,rfl,?_⟩
   unfold SetM.fitR
   show (allB fs t.lab && !s.gone v)=true
   rw[h.gone,goneX_at ht]
   exact hp
theorem Inv.on (h:Inv s.all X) (fs:List Flt) (a b:Int):s.on fs a b=idsX X fun t=>fitX fs t && onX a b t:=by
 unfold SetM.on KI.meetL
 rw[h.find]
 have hq:∀v,v∈idsP (rowsP s.all [4]) (onB a b)↔∃t,atX X v=some t∧onX a b t=true:=fun v=>by
  unfold idsP
  rw[uniqL_mem KI.ordr,mem_idsP]
  constructor
  ·rintro ⟨r,hr,rfl,hp⟩
   obtain ⟨t,ht, -,hd, -⟩:=(h.rows4 r).1 hr
   exact ⟨t,ht,List.any_eq_true.2 ⟨r.day,hd,hp⟩⟩
  ·rintro ⟨t,ht,hp⟩
   obtain ⟨d,hd,hp⟩:=List.any_eq_true.1 hp
   obtain ⟨x,hx⟩:=List.exists_mem_of_length_pos (show 0<t.lab.length from (h.lab t (atX_mem ht)).1.some)
   exact ⟨⟨4, [],x,d,v⟩,(h.rows4 _).2 ⟨t,ht,hx,hd,rfl⟩,rfl,hp⟩
 rw[←idsX_of (l:=(uniqL KI.lt [idsX X (fitX fs),idsP (rowsP s.all [4]) (onB a b)].flatten).filter fun x => [idsX X (fitX fs),idsP (rowsP s.all [4]) (onB a b)].all fun r=>decide (x∈r)) (X:=X) (p:=fun t=>fitX fs t && onX a b t) ?_]
 ·exact (uniqL_of KI.ordr ((uniqL_ri KI.ordr _).filter _) fun x=>Iff.rfl).symm
 ·intro v
  rw[List.mem_filter,uniqL_mem KI.ordr]
  simp only[List.flatten_cons,List.flatten_nil,List.append_nil,List.mem_append,List.all_cons,List.all_nil,Bool.and_true,Bool.and_eq_true,decide_eq_true_eq]
  constructor
  ·rintro ⟨-,h1,h2⟩
   obtain ⟨t,ht,hp⟩:=mem_idsX.1 h1
   obtain ⟨u,hu,hp2⟩:=(hq v).1 h2
   rw[ht] at hu
   injection hu with hu
   subst hu
   exact ⟨t,ht,hp,hp2⟩
  ·rintro ⟨t,ht,hp,hp2⟩
   have h1:=mem_idsX.2 ⟨t,ht,hp⟩
   exact ⟨.inl h1,h1,(hq v).2 ⟨t,ht,hp2⟩⟩
def textsX (X:List Ser) (g:Lb→ByteArray):List Item:=uniqL ahead ((X.filter fun t => !t.gone).flatMap fun t=>(t.lab.map fun x=>(g x).data.toList).filter fun y => !y.isEmpty)
theorem Inv.texts (h:Inv s.all X) (g:Lb→ByteArray):s.texts g=textsX X g:=by
 unfold SetM.texts textsX SetM.raw
 refine uniqL_congr KBo fun y => ?_
 rw[List.mem_flatMap,List.mem_flatMap]
 constructor
 ·rintro ⟨r,hr,hy⟩
  obtain ⟨h1,h2⟩:=List.mem_filter.1 hr
  obtain ⟨t,ht,e⟩:=(h.rows2 r).1 h1
  rw[h.gone,goneX_at ht] at h2
  rw[e] at hy
  exact ⟨t,List.mem_filter.2 ⟨atX_mem ht,h2⟩,hy⟩
 ·rintro ⟨t,ht,hy⟩
  obtain ⟨h1,h2⟩:=List.mem_filter.1 ht
  obtain ⟨i,hi⟩:=List.getElem?_of_mem h1
  have ha:atX X ((i+1:Nat):Int)=some t:=atX_iff.2 ⟨i,hi,rfl⟩
  exact ⟨⟨2,t.lab,lb0,0,((i+1:Nat):Int)⟩,List.mem_filter.2 ⟨(h.rows2 _).2 ⟨t,ha,rfl⟩,by show (!s.gone ((i+1:Nat):Int))=true;rw[h.gone,goneX_at ha];exact h2⟩,hy⟩
end
end
section
open Go.RowKit
def addX (X:List Ser) (c:List Lb) (day:Int):List Ser:=match X.findIdx? (fun t=>decide (t.lab=c) && !t.gone) with
 | some i=>X.modify i fun t=>⟨t.lab,t.gone,day :: t.days⟩
 | none=>X ++ [⟨c,false, [day]⟩]
def dropX (X:List Ser) (id:Int):List Ser:=X.modify (id - 1).toNat fun t=>⟨t.lab,true,t.days⟩
theorem mod_at {X:List Ser}{f:Ser→Ser}{i j:Nat}{t:Ser} : (X.modify i f)[j]?=some t↔∃u,X[j]?=some u∧t=if i=j then f u else u:=by
 rw[List.getElem?_modify]
 cases X[j]? with
 | none=>simp
 | some u=>simp[eq_comm]
theorem mod_mem {X:List Ser}{f:Ser→Ser}{i:Nat}{t:Ser}(h:t∈X.modify i f):∃u∈X,t=f u∨t=u:=by
 obtain ⟨j,hj⟩:=List.getElem?_of_mem h
 obtain ⟨u,hu,e⟩:=mod_at.1 hj
 refine ⟨u,List.mem_of_getElem? hu,?_⟩
 split at e
 ·exact .inl e
 ·exact .inr e
section
variable {X : List Ser} {r : RowP}
theorem rowIn_day {i:Nat}{t:Ser}(ht:X[i]?=some t) (day:Int):SaidX (X.modify i fun t=>⟨t.lab,t.gone,day :: t.days⟩) r↔SaidX X r∨∃x∈t.lab,r=⟨4, [],x,day,((i+1:Nat):Int)⟩:=by
 constructor
 ·rintro ⟨j,u,hu,hid,hk⟩
  obtain ⟨v,hv,e⟩:=mod_at.1 hu
  by_cases hij:i=j
  ·subst hij
   rw[if_pos rfl] at e
   rw[ht] at hv
   injection hv with hv
   subst hv e
   rcases hk with hk|hk|⟨a,b,c,d⟩|hk
   ·exact .inl ⟨i,t,ht,hid,.inl hk⟩
   ·exact .inl ⟨i,t,ht,hid,.inr (.inl hk)⟩
   ·rcases List.mem_cons.1 d with d|d
    ·exact .inr ⟨r.label,c,ext_row a b rfl d hid⟩
    ·exact .inl ⟨i,t,ht,hid,.inr (.inr (.inl ⟨a,b,c,d⟩))⟩
   ·exact .inl ⟨i,t,ht,hid,.inr (.inr (.inr hk))⟩
  ·rw[if_neg hij] at e
   subst e
   exact .inl ⟨j,u,hv,hid,hk⟩
 ·rintro (⟨j,u,hu,hid,hk⟩|⟨x,hx,rfl⟩)
  ·refine ⟨j,_,mod_at.2 ⟨u,hu,rfl⟩,hid,?_⟩
   split
   ·rcases hk with hk|hk|⟨a,b,c,d⟩|hk
    ·exact .inl hk
    ·exact .inr (.inl hk)
    ·exact .inr (.inr (.inl ⟨a,b,c,List.mem_cons_of_mem _ d⟩))
    ·exact .inr (.inr (.inr hk))
   ·exact hk
  ·refine ⟨i,_,mod_at.2 ⟨t,ht,rfl⟩,rfl,?_⟩
   rw[if_pos rfl]
   exact .inr (.inr (.inl ⟨rfl,rfl,hx,List.mem_cons_self⟩))
theorem rowIn_drop {i:Nat}{t:Ser}(ht:X[i]?=some t):SaidX (X.modify i fun t=>⟨t.lab,true,t.days⟩) r↔SaidX X r∨r=⟨5, [],lb0,0,((i+1:Nat):Int)⟩:=by
 constructor
 ·rintro ⟨j,u,hu,hid,hk⟩
  obtain ⟨v,hv,e⟩:=mod_at.1 hu
  by_cases hij:i=j
  ·subst hij
   rw[if_pos rfl] at e
   rw[ht] at hv
   injection hv with hv
   subst hv e
   rcases hk with hk|hk|hk|⟨a,b,c,d,_⟩
   ·exact .inl ⟨i,t,ht,hid,.inl hk⟩
   ·exact .inl ⟨i,t,ht,hid,.inr (.inl hk)⟩
   ·exact .inl ⟨i,t,ht,hid,.inr (.inr (.inl hk))⟩
   ·exact .inr (ext_row a b c d hid)
  ·rw[if_neg hij] at e
   subst e
   exact .inl ⟨j,u,hv,hid,hk⟩
 ·rintro (⟨j,u,hu,hid,hk⟩|rfl)
  ·refine ⟨j,_,mod_at.2 ⟨u,hu,rfl⟩,hid,?_⟩
   split
   ·rcases hk with hk|hk|hk|⟨a,b,c,d,_⟩
    ·exact .inl hk
    ·exact .inr (.inl hk)
    ·exact .inr (.inr (.inl hk))
    ·exact .inr (.inr (.inr ⟨a,b,c,d,rfl⟩))
   ·exact hk
  ·refine ⟨i,_,mod_at.2 ⟨t,ht,rfl⟩,rfl,?_⟩
   rw[if_pos rfl]
   exact .inr (.inr (.inr ⟨rfl,rfl,rfl,rfl,rfl⟩))
theorem rowIn_new (c:List Lb) (day:Int):SaidX (X ++ [⟨c,false, [day]⟩]) r↔SaidX X r∨∃q∈wants c [day],r=rowOf c ((X.length+1:Nat):Int) q:=by
 have hw:(∃q∈wants c [day],r=rowOf c ((X.length+1:Nat):Int) q)↔r=⟨1,c,lb0,0,((X.length+1:Nat):Int)⟩∨r=⟨2,c,lb0,0,((X.length+1:Nat):Int)⟩∨∃x∈c,r=⟨3, [],x,0,((X.length+1:Nat):Int)⟩∨r=⟨4, [],x,day,((X.length+1:Nat):Int)⟩:=by
  unfold wants
  simp only[List.mem_append,List.mem_cons,List.not_mem_nil,or_false,List.mem_flatMap,perL,List.map_cons,List.map_nil]
  constructor
  ·rintro ⟨q,((rfl|rfl)|⟨x,hx,rfl|rfl⟩),rfl⟩
   ·exact .inl rfl
   ·exact .inr (.inl rfl)
   ·exact .inr (.inr ⟨x,hx,.inl rfl⟩)
   ·exact .inr (.inr ⟨x,hx,.inr rfl⟩)
  ·rintro (rfl|rfl|⟨x,hx,rfl|rfl⟩)
   ·exact ⟨_,.inl (.inl rfl),rfl⟩
   ·exact ⟨_,.inl (.inr rfl),rfl⟩
   ·exact ⟨_,.inr ⟨x,hx,.inl rfl⟩,rfl⟩
   ·exact ⟨_,.inr ⟨x,hx,.inr rfl⟩,rfl⟩
 rw[hw]
 constructor
 ·rintro ⟨j,u,hu,hid,hk⟩
  rcases Nat.lt_or_ge j X.length with hj|hj
  ·rw[List.getElem?_append_left hj] at hu
   exact .inl ⟨j,u,hu,hid,hk⟩
  ·rw[List.getElem?_append_right hj] at hu
   have hj0:j - X.length=0:=by
    rcases Nat.eq_zero_or_pos (j - X.length) with h|h
    ·exact h
    ·rw[List.getElem?_eq_none (by simp;omega)] at hu;cases hu
   have hjl:j=X.length:=by omega
   rw[hj0,List.getElem?_cons_zero] at hu
   injection hu with hu
   subst hu hjl
   rcases hk with ⟨a|a,b,c,d⟩|⟨a,b,c,d⟩|⟨a,b,c,d⟩|⟨a,b,c,d,g⟩
   ·exact .inr (.inl (ext_row a b c d hid))
   ·exact .inr (.inr (.inl (ext_row a b c d hid)))
   ·exact .inr (.inr (.inr ⟨r.label,c,.inl (ext_row a b rfl d hid)⟩))
   ·exact .inr (.inr (.inr ⟨r.label,c,.inr (ext_row a b rfl (by simpa using d) hid)⟩))
   ·cases g
 ·have hl:(X ++ [(⟨c,false, [day]⟩:Ser)])[X.length]?=some ⟨c,false, [day]⟩:=by simp
  rintro (⟨j,u,hu,hid,hk⟩|rfl|rfl|⟨x,hx,rfl|rfl⟩)
  ·exact ⟨j,u,by rw[List.getElem?_append_left (List.getElem?_eq_some_iff.1 hu).1];exact hu,hid,hk⟩
  ·exact ⟨_,_,hl,rfl,.inl ⟨.inl rfl,rfl,rfl,rfl⟩⟩
  ·exact ⟨_,_,hl,rfl,.inl ⟨.inr rfl,rfl,rfl,rfl⟩⟩
  ·exact ⟨_,_,hl,rfl,.inr (.inl ⟨rfl,rfl,hx,rfl⟩)⟩
  ·exact ⟨_,_,hl,rfl,.inr (.inr (.inl ⟨rfl,rfl,hx,by simp⟩))⟩
end
section
variable {s : SetM} {X : List Ser} {l : List Lb} {day : Int}
theorem Inv.want_new (h:Inv s.all X) (hl:MayL l) (he:X.findIdx? (fun t=>decide (t.lab=sortN l) && !t.gone)=none):s.wantOf l day=uniqL ahead (itemsOf (sortN l) ((X.length+1:Nat):Int) (wants (sortN l) [day]))∧s.newOf l=((X.length+1:Nat):Int):=by
 have h0:s.idOf l=0:=by rw[h.idOf hl];unfold idX;rw[he]
 unfold SetM.wantOf SetM.newOf
 rw[if_pos h0,if_pos h0,h.next]
 exact ⟨rfl,rfl⟩
theorem Inv.want_old (h:Inv s.all X) (hl:MayL l) {i:Nat}(he:X.findIdx? (fun t=>decide (t.lab=sortN l) && !t.gone)=some i):s.wantOf l day=((sortN l).map fun x=>makeR ⟨4, [],x,day,((i+1:Nat):Int)⟩)∧s.newOf l=((i+1:Nat):Int):=by
 have h0:s.idOf l=((i+1:Nat):Int):=by rw[h.idOf hl];unfold idX;rw[he]
 unfold SetM.wantOf SetM.newOf
 rw[if_neg (by omega),if_neg (by omega),h0]
 exact ⟨rfl,rfl⟩
theorem itemsOf_mem {c:List Lb}{i:Int}{w:List RQ}{b:Item} : b∈itemsOf c i w↔∃q∈w,makeR (rowOf c i q)=b:=by unfold itemsOf;rw[List.mem_map]
theorem Inv.want_len (h:Inv s.all X) (hl:MayL l):(s.wantOf l day).length≤14:=by
 have h6:=hl.few
 have hs:=sortN_length l
 cases he:X.findIdx? (fun t=>decide (t.lab=sortN l) && !t.gone) with
 | none =>
  rw[(h.want_new hl he).1]
  refine Nat.le_trans (uniqL_len KBo _) ?_
  unfold itemsOf
  rw[List.length_map,wants_len,hs]
  simp only[List.length_cons,List.length_nil]
  omega
 | some i =>
  rw[(h.want_old hl he).1,List.length_map,hs]
  omega
theorem Inv.want_may (_:Inv s.all X) (hf:X.length<1000) (hl:MayL l) (h0:0≤day) (h1:day≤2147483647):∀q∈wants (sortN l) [day],MayR (rowOf (sortN l) ((X.length+1:Nat):Int) q):=by
 have hs:=hl.sort
 intro q hq
 have hr:=(rowIn_new (X:=X) (r:=rowOf (sortN l) ((X.length+1:Nat):Int) q) (sortN l) day).2 (.inr ⟨q,hq,rfl⟩)
 obtain ⟨j,u,hu,hid,hk⟩:=hr
 unfold wants at hq
 simp only[List.mem_append,List.mem_cons,List.not_mem_nil,or_false,List.mem_flatMap,perL,List.map_cons,List.map_nil] at hq
 rcases hq with ((rfl|rfl)|⟨x,hx,rfl|rfl⟩)
 ·exact may_1.2 ⟨by omega,by omega,hs⟩
 ·exact ⟨by show (1:Int)≤((X.length+1:Nat):Int);omega,by show ((X.length+1:Nat):Int)≤1073741824;omega,by simp[rowOf],by simp[rowOf],.inl ⟨.inr rfl,hs,rfl,rfl⟩⟩
 ·exact ⟨by show (1:Int)≤((X.length+1:Nat):Int);omega,by show ((X.length+1:Nat):Int)≤1073741824;omega,by simp[rowOf],by simp[rowOf],.inr (.inl ⟨rfl,rfl,hs.ok x hx,rfl⟩)⟩
 ·exact may_4 (hs.ok x hx) (by omega) (by omega) h0 h1
theorem Inv.want_bad (h:Inv s.all X) (hf:X.length<1000) (hl:MayL l) (h0:0≤day) (h1:day≤2147483647):∀b∈s.wantOf l day,badL b=false:=by
 have hs:=hl.sort
 intro b hb
 cases he:X.findIdx? (fun t=>decide (t.lab=sortN l) && !t.gone) with
 | none =>
  rw[(h.want_new hl he).1,uniqL_mem KBo,itemsOf_mem] at hb
  obtain ⟨q,hq,rfl⟩:=hb
  exact make_bad (h.want_may hf hl h0 h1 q hq)
 | some i =>
  have hi:=(List.getElem?_eq_some_iff.1 (idX_some he).choose_spec.1).1
  rw[(h.want_old hl he).1,List.mem_map] at hb
  obtain ⟨x,hx,rfl⟩:=hb
  exact make_bad (may_4 (hs.ok x hx) (by omega) (by omega) h0 h1)
theorem Inv.add (h:Inv s.all X) (hf:X.length<1000) (hl:MayL l) (h0:0≤day) (h1:day≤2147483647) (hm:s.mem.length+14≤500):Inv (s.adds (s.wantOf l day)).all (addX X (sortN l) day):=by
 have hs:=hl.sort
 have hss:=sortN_sort hl.dist
 have hwl:=h.want_len (day:=day) hl
 have hall:=adds_all (h.want_bad hf hl h0 h1) (s:=s) (by omega)
 unfold addX
 cases he:X.findIdx? (fun t=>decide (t.lab=sortN l) && !t.gone) with
 | none =>
  have hw:=(h.want_new (day:=day) hl he).1
  refine ⟨fun t ht => ?_,fun t ht d hd => ?_,by simp;omega,fun b => ?_,fun i j t u ht hu hlab hg1 hg2 => ?_⟩
  ·rcases List.mem_append.1 ht with ht|ht
   ·exact h.lab t ht
   ·rw[List.mem_singleton.1 ht];exact ⟨hs,hss⟩
  ·rcases List.mem_append.1 ht with ht|ht
   ·exact h.day t ht d hd
   ·rw[List.mem_singleton.1 ht] at hd
    rw[List.mem_singleton.1 hd];exact ⟨h0,h1⟩
  ·rw[hall,h.item,hw,uniqL_mem KBo,itemsOf_mem]
   constructor
   ·rintro (⟨r,hr,e⟩|⟨q,hq,e⟩)
    ·exact ⟨r,(rowIn_new _ _).2 (.inl hr),e⟩
    ·exact ⟨_,(rowIn_new _ _).2 (.inr ⟨q,hq,rfl⟩),e⟩
   ·rintro ⟨r,hr,e⟩
    rcases (rowIn_new _ _).1 hr with hr|⟨q,hq,rfl⟩
    ·exact .inl ⟨r,hr,e⟩
    ·exact .inr ⟨q,hq,e⟩
  ·have hcase:∀(k:Nat) (v:Ser),(X ++ [(⟨sortN l,false, [day]⟩:Ser)])[k]?=some v→X[k]?=some v∨(k=X.length∧v=⟨sortN l,false, [day]⟩):=fun k v hv=>by
    rcases Nat.lt_or_ge k X.length with hk|hk
    ·rw[List.getElem?_append_left hk] at hv;exact .inl hv
    ·rw[List.getElem?_append_right hk] at hv
     have hk0:k - X.length=0:=by
      rcases Nat.eq_zero_or_pos (k - X.length) with g|g
      ·exact g
      ·rw[List.getElem?_eq_none (by simp;omega)] at hv;cases hv
     rw[hk0,List.getElem?_cons_zero] at hv
     injection hv with hv
     exact .inr ⟨by omega,hv.symm⟩
   rcases hcase i t ht with ht|⟨ei,et⟩<;>rcases hcase j u hu with hu|⟨ej,eu⟩
   ·exact h.live i j t u ht hu hlab hg1 hg2
   ·rw[eu] at hlab
    have:=idX_none he (List.mem_of_getElem? ht) hlab
    rw[this] at hg1;cases hg1
   ·rw[et] at hlab
    have:=idX_none he (List.mem_of_getElem? hu) hlab.symm
    rw[this] at hg2;cases hg2
   ·omega
 | some i =>
  obtain ⟨t0,ht0,hc0,hg0⟩:=idX_some he
  have hw:=(h.want_old (day:=day) hl he).1
  refine ⟨fun t ht => ?_,fun t ht d hd => ?_,by simp;exact h.few,fun b => ?_,fun j k t u ht hu hlab hg1 hg2 => ?_⟩
  ·obtain ⟨v,hv,e|e⟩:=mod_mem ht
   ·rw[e];exact h.lab v hv
   ·rw[e];exact h.lab v hv
  ·obtain ⟨v,hv,e|e⟩:=mod_mem ht
   ·rw[e] at hd
    rcases List.mem_cons.1 hd with rfl|hd
    ·exact ⟨h0,h1⟩
    ·exact h.day v hv d hd
   ·rw[e] at hd;exact h.day v hv d hd
  ·rw[hall,h.item,hw,List.mem_map]
   constructor
   ·rintro (⟨r,hr,e⟩|⟨x,hx,e⟩)
    ·exact ⟨r,(rowIn_day ht0 day).2 (.inl hr),e⟩
    ·exact ⟨_,(rowIn_day ht0 day).2 (.inr ⟨x,by rw[hc0];exact hx,rfl⟩),e⟩
   ·rintro ⟨r,hr,e⟩
    rcases (rowIn_day ht0 day).1 hr with hr|⟨x,hx,rfl⟩
    ·exact .inl ⟨r,hr,e⟩
    ·exact .inr ⟨x,by rw[←hc0];exact hx,e⟩
  ·obtain ⟨v,hv,et⟩:=mod_at.1 ht
   obtain ⟨v2,hv2,eu⟩:=mod_at.1 hu
   have f1:t.lab=v.lab∧t.gone=v.gone:=by rw[et];split<;>exact ⟨rfl,rfl⟩
   have f2:u.lab=v2.lab∧u.gone=v2.gone:=by rw[eu];split<;>exact ⟨rfl,rfl⟩
   exact h.live j k v v2 hv hv2 (by rw[←f1.1, ←f2.1];exact hlab) (by rw[←f1.2];exact hg1) (by rw[←f2.2];exact hg2)
theorem Inv.drop (h:Inv s.all X) {id:Int}{t:Ser}(ht:atX X id=some t) (hm:s.mem.length+1≤500):Inv (s.adds [makeR ⟨5, [],lb0,0,id⟩]).all (dropX X id):=by
 obtain ⟨i,hi,rfl⟩:=atX_iff.1 ht
 have hlt:=(List.getElem?_eq_some_iff.1 hi).1
 have hfw:=h.few
 have hbad:badL (makeR ⟨5, [],lb0,0,((i+1:Nat):Int)⟩)=false:=make_bad (may_5.2 (by omega))
 have hall:=adds_all (l := [makeR ⟨5, [],lb0,0,((i+1:Nat):Int)⟩]) (s:=s) (fun x hx=>by rw[List.mem_singleton.1 hx];exact hbad) (by simpa using hm)
 unfold dropX
 rw[show (((i+1:Nat):Int) - 1).toNat=i from by omega]
 refine ⟨fun t ht => ?_,fun t ht d hd => ?_,by simp;exact h.few,fun b => ?_,fun j k t u ht hu hlab hg1 hg2 => ?_⟩
 ·obtain ⟨v,hv,e|e⟩:=mod_mem ht
  ·rw[e];exact h.lab v hv
  ·rw[e];exact h.lab v hv
 ·obtain ⟨v,hv,e|e⟩:=mod_mem ht
  ·rw[e] at hd;exact h.day v hv d hd
  ·rw[e] at hd;exact h.day v hv d hd
 ·rw[hall,h.item,List.mem_singleton]
  constructor
  ·rintro (⟨r,hr,e⟩|e)
   ·exact ⟨r,(rowIn_drop hi).2 (.inl hr),e⟩
   ·exact ⟨_,(rowIn_drop hi).2 (.inr rfl),e.symm⟩
  ·rintro ⟨r,hr,e⟩
   rcases (rowIn_drop hi).1 hr with hr|rfl
   ·exact .inl ⟨r,hr,e⟩
   ·exact .inr e.symm
 ·obtain ⟨v,hv,et⟩:=mod_at.1 ht
  obtain ⟨v2,hv2,eu⟩:=mod_at.1 hu
  have f1:t.lab=v.lab∧v.gone=false:=by
   rw[et] at hg1 ⊢
   split at hg1
   ·cases hg1
   ·rename_i hne;rw[if_neg hne];exact ⟨rfl,hg1⟩
  have f2:u.lab=v2.lab∧v2.gone=false:=by
   rw[eu] at hg2 ⊢
   split at hg2
   ·cases hg2
   ·rename_i hne;rw[if_neg hne];exact ⟨rfl,hg2⟩
  exact h.live j k v v2 hv hv2 (by rw[←f1.1, ←f2.1];exact hlab) f1.2 f2.2
theorem Inv.flush (h:Inv s.all X):Inv s.flush.1.all X:=by rw[flush_all];exact h
end
end
end Go.Proofs.YtalmnodgjjcefaaGreatDoor
