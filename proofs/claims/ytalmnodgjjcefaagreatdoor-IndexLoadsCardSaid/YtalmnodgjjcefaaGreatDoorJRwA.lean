/- Several texts in one: RwPlain RwNum RwMay RwMake. -/
import Derived.Test.YtalmnodgjjcefaaGreatDoorJTk
import Derived.Test.YtalmnodgjjcefaaGreatDoorJLbD
import Derived.Test.YtalmnodgjjcefaaGreatDoorJLbA
import Derived.Test.YtalmnodgjjcefaaGreatDoorJLbC
import Derived.Test.YtalmnodgjjcefaaGreatDoorJItm
import Derived.Test.YtalmnodgjjcefaaGreatDoorJLow
set_option maxRecDepth 100000
set_option maxHeartbeats 6400000
namespace Go.Proofs.YtalmnodgjjcefaaGreatDoor
section
open Go.RowKit
def four (n:Nat):List UInt8 := [UInt8.ofNat (n / 16777216),UInt8.ofNat (n / 65536),UInt8.ofNat (n / 256),UInt8.ofNat n]
theorem four_len (n:Nat):(four n).length=4:=rfl
def num (b:List UInt8):Nat:=(b[0]?.getD 0).toNat*16777216+(b[1]?.getD 0).toNat*65536+(b[2]?.getD 0).toNat*256+(b[3]?.getD 0).toNat
theorem ofNat_nat (n:Nat):(UInt8.ofNat n).toNat=n % 256:=by simp
theorem num_four (n:Nat) (r:List UInt8) (h:n<4294967296):num (four n++r)=n:=by
 simp only[four,num,List.cons_append,List.nil_append,List.getElem?_cons_zero,List.getElem?_cons_succ,Option.getD_some,ofNat_nat]
 omega
theorem four_inj {n m:Nat}(hn:n<4294967296) (hm:m<4294967296) (h:four n=four m):n=m:=by
 have h1:=num_four n [] hn
 have h2:=num_four m [] hm
 rw[List.append_nil] at h1 h2
 rw[←h1, ←h2,h]
structure RowP where
 kind:Int
 labels:List Lb
 label:Lb
 day:Int
 id:Int
def lb0:Lb:=(⟨#[]⟩,⟨#[]⟩)
structure MayR (r:RowP):Prop where
 id1:1≤r.id
 id2:r.id≤1073741824
 day1:0≤r.day
 day2:r.day≤2147483647
 kinds:((r.kind=1∨r.kind=2)∧MayL r.labels∧r.label=lb0∧r.day=0)∨(r.kind=3∧r.labels = []∧okL r.label=true∧r.day=0) ∨
  (r.kind=4∧r.labels = []∧okL r.label=true)∨(r.kind=5∧r.labels = []∧r.label=lb0∧r.day=0)
def escL (x:Lb):List UInt8:=esc x.1.data.toList++esc x.2.data.toList
def makeR (r:RowP):List UInt8 :=
 if r.kind=1 then [1]++marsh (sortN r.labels) ++ [0]++four r.id.toNat
 else if r.kind=2 then [2]++four r.id.toNat++marsh (sortN r.labels)
 else if r.kind=3 then [3]++escL r.label++four r.id.toNat
 else if r.kind=4 then [4]++four r.day.toNat++escL r.label++four r.id.toNat
 else [5]++four r.id.toNat
def canonR (r:RowP):RowP := { r with labels:=sortN r.labels }
theorem canonR_may {r:RowP}(h:MayR r):MayR (canonR r):=by
 refine ⟨h.id1,h.id2,h.day1,h.day2,?_⟩
 rcases h.kinds with ⟨a,b,c,d⟩|⟨a,b,c,d⟩|⟨a,b,c⟩|⟨a,b,c,d⟩
 ·exact .inl ⟨a,b.sort,c,d⟩
 ·exact .inr (.inl ⟨a,by show sortN r.labels = [];rw[b];rfl,c,d⟩)
 ·exact .inr (.inr (.inl ⟨a,by show sortN r.labels = [];rw[b];rfl,c⟩))
 ·exact .inr (.inr (.inr ⟨a,by show sortN r.labels = [];rw[b];rfl,c,d⟩))
theorem MayR.sorts {r:RowP}(h:MayR r):sortN (sortN r.labels)=sortN r.labels:=by
 rcases h.kinds with ⟨a,b,c,d⟩|⟨a,b,c,d⟩|⟨a,b,c⟩|⟨a,b,c,d⟩
 ·exact sortN_sort b.dist
 ·rw[b];rfl
 ·rw[b];rfl
 ·rw[b];rfl
theorem make1 {r:RowP}(h:r.kind=1):makeR r = [1]++marsh (sortN r.labels) ++ [0]++four r.id.toNat:=by unfold makeR;rw[if_pos h]
theorem make2 {r:RowP}(h:r.kind=2):makeR r = [2]++four r.id.toNat++marsh (sortN r.labels):=by unfold makeR;rw[if_neg (by omega),if_pos h]
theorem make3 {r:RowP}(h:r.kind=3):makeR r = [3]++escL r.label++four r.id.toNat:=by unfold makeR;rw[if_neg (by omega),if_neg (by omega),if_pos h]
theorem make4 {r:RowP}(h:r.kind=4):makeR r = [4]++four r.day.toNat++escL r.label++four r.id.toNat:=by unfold makeR;rw[if_neg (by omega),if_neg (by omega),if_neg (by omega),if_pos h]
theorem make5 {r:RowP}(h:r.kind=5):makeR r = [5]++four r.id.toNat:=by unfold makeR;rw[if_neg (by omega),if_neg (by omega),if_neg (by omega),if_neg (by omega)]
theorem canonR_make {r:RowP}(h:MayR r):makeR (canonR r)=makeR r:=by
 have:=h.sorts
 unfold makeR canonR
 simp only
 rw[this]
theorem may1 {x:Lb} : MayL [x]↔okL x=true:=by
 constructor
 ·intro h;exact h.ok x (by simp)
 ·intro h;exact ⟨by simp,by simp,by simpa using h,by simp[Dist]⟩
theorem make_head {r:RowP}(h:MayR r):∃t,makeR r=UInt8.ofNat r.kind.toNat :: t∧1≤r.kind∧r.kind≤5:=by
 rcases h.kinds with ⟨a|a,b,c,d⟩|⟨a,b,c,d⟩|⟨a,b,c⟩|⟨a,b,c,d⟩
 ·rw[make1 a,a];exact ⟨_,rfl,by decide,by decide⟩
 ·rw[make2 a,a];exact ⟨_,rfl,by decide,by decide⟩
 ·rw[make3 a,a];exact ⟨_,rfl,by decide,by decide⟩
 ·rw[make4 a,a];exact ⟨_,rfl,by decide,by decide⟩
 ·rw[make5 a,a];exact ⟨_,rfl,by decide,by decide⟩
theorem marsh_len:∀(m:List Lb),(∀x∈m,1≤x.1.size∧x.1.size≤12∧1≤x.2.size∧x.2.size≤16)→(marsh m).length≤58*m.length∧(m ≠ []→4≤(marsh m).length)
 | [],_=>by simp[marsh]
 | x :: t,h=>by
  have h1:=h x (by simp)
  have h2:=(marsh_len t fun y hy=>h y (by simp[hy])).1
  have e1:=esc_len x.1.data.toList
  have e2:=esc_len x.2.data.toList
  have g1:=esc_longer x.1.data.toList
  have g2:=esc_longer x.2.data.toList
  have l1:x.1.data.toList.length=x.1.size:=Array.length_toList
  have l2:x.2.data.toList.length=x.2.size:=Array.length_toList
  rw[marsh_cons,List.length_append,List.length_append,List.length_cons]
  refine ⟨by omega,fun _=>by omega⟩
where
 esc_longer (l:List UInt8):l.length+1≤(esc l).length:=by
  unfold esc
  rw[List.length_append]
  have h2:∀l:List UInt8,l.length≤(l.flatMap escB).length:=by
   intro l
   induction l with
   | nil=>simp
   | cons c t ih =>
    have:1≤(escB c).length:=by unfold escB;split<;>simp
    rw[List.flatMap_cons,List.length_append,List.length_cons];omega
  have:=h2 l
  rw[List.length_cons,List.length_nil];omega
theorem escL_len {x:Lb}(h:okL x=true):4≤(escL x).length∧(escL x).length≤58:=by
 have h1:=okL_size h
 have e1:=esc_len x.1.data.toList
 have e2:=esc_len x.2.data.toList
 have g1:=marsh_len.esc_longer x.1.data.toList
 have g2:=marsh_len.esc_longer x.2.data.toList
 have l1:x.1.data.toList.length=x.1.size:=Array.length_toList
 have l2:x.2.data.toList.length=x.2.size:=Array.length_toList
 unfold escL
 rw[List.length_append]
 omega
theorem MayL.marsh_len {l:List Lb}(h:MayL l):4≤(marsh (sortN l)).length∧(marsh (sortN l)).length≤348:=by
 have h1:=Go.Proofs.YtalmnodgjjcefaaGreatDoor.marsh_len (sortN l) fun x hx=>okL_size (h.sort.ok x hx)
 have h2:=h.sort.few
 have h3:=h.sort.some
 have h4:=h1.2 (fun e=>by rw[e] at h3;simp at h3)
 omega
theorem make_len {r:RowP}(h:MayR r):5≤(makeR r).length∧(makeR r).length≤354:=by
 rcases h.kinds with ⟨e|e,b,c,d⟩|⟨a,b,c,d⟩|⟨a,b,c⟩|⟨a,b,c,d⟩
 ·rw[make1 e]
  have:=b.marsh_len
  simp only[List.length_append,List.length_cons,List.length_nil,four_len]
  omega
 ·rw[make2 e]
  have:=b.marsh_len
  simp only[List.length_append,List.length_cons,List.length_nil,four_len]
  omega
 ·rw[make3 a]
  have:=escL_len c
  simp only[List.length_append,List.length_cons,List.length_nil,four_len]
  omega
 ·rw[make4 a]
  have:=escL_len c
  simp only[List.length_append,List.length_cons,List.length_nil,four_len]
  omega
 ·rw[make5 a]
  simp[four_len]
theorem lb_ext {x y:Lb}(h1:x.1.data.toList=y.1.data.toList) (h2:x.2.data.toList=y.2.data.toList):x=y:=by
 have e1:x.1=y.1:=by rw[←strOf_list x.1, ←strOf_list y.1,h1]
 have e2:x.2=y.2:=by rw[←strOf_list x.2, ←strOf_list y.2,h2]
 exact Prod.ext e1 e2
theorem esc_app_inj {s t p q:List UInt8}(h:esc s++p=esc t++q):s=t∧p=q:=by
 have h1:=cutR_esc s p
 rw[h,cutR_esc t q] at h1
 have e:s=t:=(Prod.ext_iff.1 h1).1.symm
 subst e
 exact ⟨rfl,List.append_cancel_left h⟩
theorem escL_app_inj {x y:Lb}{p q:List UInt8}(h:escL x++p=escL y++q):x=y∧p=q:=by
 unfold escL at h
 rw[List.append_assoc,List.append_assoc] at h
 obtain ⟨h1,h⟩:=esc_app_inj h
 obtain ⟨h2,h⟩:=esc_app_inj h
 exact ⟨lb_ext h1 h2,h⟩
theorem make_inj {r s:RowP}(hr:MayR r) (hs:MayR s) (h:makeR r=makeR s):canonR r=canonR s:=by
 obtain ⟨t,e,k1,k2⟩:=make_head hr
 obtain ⟨u,f,g1,g2⟩:=make_head hs
 have hk:r.kind=s.kind:=by
  rw[e,f] at h
  have:=congrArg UInt8.toNat (List.cons_eq_cons.1 h).1
  rw[ofNat_nat,ofNat_nat] at this
  omega
 clear e f t u
 have hi1:=hr.id1
 have hi2:=hr.id2
 have hi3:=hs.id1
 have hi4:=hs.id2
 have hd1:=hr.day1
 have hd2:=hr.day2
 have hd3:=hs.day1
 have hd4:=hs.day2
 have ext:r.day=s.day→r.id=s.id→sortN r.labels=sortN s.labels→r.label=s.label→canonR r=canonR s:=fun h1 h2 h3 h4=>by
  unfold canonR
  rw[hk,h1,h2,h3,h4]
 rcases hr.kinds with ⟨e|e,b,c,d1⟩|⟨a,b,c,d1⟩|⟨a,b,c⟩|⟨a,b,c,d1⟩<;>rcases hs.kinds with ⟨e' | e',b',c',d1'⟩|⟨a',b',c',d1'⟩|⟨a',b',c'⟩|⟨a',b',c',d1'⟩<;>try (exfalso;omega)
 ·rw[make1 e,make1 e'] at h
  have h1:(marsh (sortN r.labels)++([0]:List UInt8)).length=(marsh (sortN s.labels)++([0]:List UInt8)).length:=by
   have:=congrArg List.length h
   simp only[List.length_append,List.length_cons,List.length_nil,four_len] at this ⊢
   omega
  rw[List.append_assoc,List.append_assoc,List.append_assoc,List.append_assoc] at h
  have h2:=List.append_cancel_left h
  rw[←List.append_assoc, ←List.append_assoc] at h2
  obtain ⟨h3,h4⟩:=List.append_inj h2 h1
  have h5:=marsh_inj (List.append_inj' h3 rfl).1
  have h6:=four_inj (by omega) (by omega) h4
  exact ext (by omega) (by omega) h5 (c.trans c'.symm)
 ·rw[make2 e,make2 e'] at h
  rw[List.append_assoc,List.append_assoc] at h
  obtain ⟨h3,h4⟩:=List.append_inj (List.append_cancel_left h) rfl
  have h5:=marsh_inj h4
  have h6:=four_inj (by omega) (by omega) h3
  exact ext (by omega) (by omega) h5 (c.trans c'.symm)
 ·rw[make3 a,make3 a'] at h
  rw[List.append_assoc,List.append_assoc] at h
  obtain ⟨h3,h4⟩:=escL_app_inj (List.append_cancel_left h)
  have h6:=four_inj (by omega) (by omega) h4
  exact ext (by omega) (by omega) (by rw[b,b']) h3
 ·rw[make4 a,make4 a'] at h
  rw[List.append_assoc,List.append_assoc,List.append_assoc,List.append_assoc] at h
  obtain ⟨h2,h⟩:=List.append_inj (List.append_cancel_left h) rfl
  obtain ⟨h3,h4⟩:=escL_app_inj h
  have h5:=four_inj (by omega) (by omega) h2
  have h6:=four_inj (by omega) (by omega) h4
  exact ext (by omega) (by omega) (by rw[b,b']) h3
 ·rw[make5 a,make5 a'] at h
  have h6:=four_inj (by omega) (by omega) (List.append_cancel_left h)
  exact ext (by omega) (by omega) (by rw[b,b']) (c.trans c'.symm)
def NoRow (b:List UInt8):Prop:=∀r,MayR r→makeR r≠b
end
section
open Go.RowKit
theorem four_cells (s:Nat) (t:TypeId) (w:World) (x1 x2 x3 x4:Int) (h1:x1=(s / 16777216:Nat) % 256) (h2:x2=(s / 65536:Nat) % 256) (h3:x3=(s / 256:Nat) % 256) (h4:x4=(s:Int) % 256) :
  Sees (w.alloc (.cells #[.int .u8 x1,.int .u8 x2,.int .u8 x3,.int .u8 x4] t)) (w.heap.size+1) (some ⟨w.heap.size,0,none⟩) (bv (four s)) :=
 sees_new w _ t _ (by subst h1;subst h2;subst h3;subst h4;simp[bv,four])
theorem number_any (base:Nat) (v:Value) (l:List UInt8) (s:Nat) (w:World) (hown:OwnB w base v l) (hbase:base≤w.heap.size) (hs:s<4294967296) (hlen:l.length≤1099511627776) :
  Calls Tryz.prog 91 #[v,.int .i64 s] w (RetB w base v (l++four s)):=by
 have hsb:(s:Int)<4294967296:=by omega
 clear hs
 go_enter Tryz.func91,Tryz.ntmps91
 go_wp2_with (at_builtin;refine wpList_append_b rfl (.tmp 5) (.tmp 17) rfl base v l (by rfl) (hown.alloc _) (w.heap.size+1) _ 4 _ (four s) (by rfl) rfl (four_cells s _ _ _ _ _ _ (by omega) (by omega) (by omega) (by omega)) (by simp[four];omega) (by simp;omega) ?_;intro v1 w1 hown1 hon1)
 go_ret
 exact ⟨v1,rfl,hown1,(Onto.of_alloc _ _ _).trans hon1⟩
def NewR (w:World) (l:List UInt8) (e:Ending) (w' : World):Prop:=∃v,e = .returned v∧OwnB w' w.heap.size v l∧Below w.heap.size w w'
theorem sees2_threeR (w:World) (A1 A2 A3:Option Addr) (n1 n2 n3 c1 c2 c3:Nat) (l1 l2 l3:List UInt8) (h1:l1.length=n1) (h2:l2.length=n2) (h3:l3.length=n3) (hc1:n1≤c1) (hc2:n2≤c2) (hc3:n3≤c3)
  (hs1:Sees w w.heap.size A1 (bv l1)) (hs2:Sees w w.heap.size A2 (bv l2)) (hs3:Sees w w.heap.size A3 (bv l3)) (t:TypeId) :
  Sees2 (w.alloc (.cells #[.slice A1 n1 c1,.slice A2 n2 c2,.slice A3 n3 c3] t)) (w.alloc (.cells #[.slice A1 n1 c1,.slice A2 n2 c2,.slice A3 n3 c3] t)).heap.size (some ⟨w.heap.size,0,none⟩) [l1,l2,l3]:=by
 subst h1
 subst h2
 subst h3
 refine ⟨fun i hi => ?_⟩
 match i,hi with
 | 0,_=>exact ⟨_,A1,c1,rfl,by simp,by rw[Addr.add_lit,World.cell?_alloc_at _ _ _ _ rfl];rfl,hc1,(hs1.alloc (Nat.le_refl _) _).more (by simp)⟩
 | 1,_=>exact ⟨_,A2,c2,rfl,by simp,by rw[Addr.add_lit,World.cell?_alloc_at _ _ _ _ rfl];rfl,hc2,(hs2.alloc (Nat.le_refl _) _).more (by simp)⟩
 | 2,_=>exact ⟨_,A3,c3,rfl,by simp,by rw[Addr.add_lit,World.cell?_alloc_at _ _ _ _ rfl];rfl,hc3,(hs3.alloc (Nat.le_refl _) _).more (by simp)⟩
theorem tag_any (A:Option Addr) (n c:Nat) (l:List UInt8) (x1 x2:ByteArray) (hn:l.length=n) (hnc:n≤c) (w:World) (hS:Sees w w.heap.size A (bv l)) (hl:n≤1000000) (hx1:x1.size≤400000) (hx2:x2.size≤400000) :
  Calls Tryz.prog 92 #[.slice A n c,.agg #[.string x1,.string x2]] w (NewR w (l++escL (x1,x2))):=by
 have HN:=Lib.hid hn
 have hE1:=fun W=>Lib.hid (Escape_any x1 W (by omega))
 have hE2:=fun W=>Lib.hid (Escape_any x2 W (by omega))
 have he1:=esc_len x1.data.toList
 have he2:=esc_len x2.data.toList
 have l1:x1.data.toList.length=x1.size:=Array.length_toList
 have l2:x2.data.toList.length=x2.size:=Array.length_toList
 obtain ⟨F,hF⟩:∃F,l++escL (x1,x2)=F:=⟨_,rfl⟩
 rw[hF]
 unfold escL at hF
 simp only at hF
 obtain ⟨X,hX⟩:∃X,esc x1.data.toList=X:=⟨_,rfl⟩
 obtain ⟨Y,hY⟩:∃Y,esc x2.data.toList=Y:=⟨_,rfl⟩
 rw[hX] at hE1 hF he1
 rw[hY] at hE2 hF he2
 have hXl:X.length≤1000000:=by omega
 have hYl:Y.length≤1000000:=by omega
 have HX:=Lib.hid hXl
 have HY:=Lib.hid hYl
 have HF:=Lib.hid hF
 clear hn hF hX hY he1 he2 l1 l2 hx1 hx2 hXl hYl
 go_enter Tryz.func92,Tryz.ntmps92
 go_wp2_with fail
 have f0:(w.alloc (.cells #[.string x1,.string x2] 83)).cell? ⟨w.heap.size,0,none⟩=some (.string x1):=by rw[World.cell?_alloc_at _ _ _ _ rfl];rfl
 have f1:(w.alloc (.cells #[.string x1,.string x2] 83)).cell? ⟨w.heap.size,1,none⟩=some (.string x2):=by rw[World.cell?_alloc_at _ _ _ _ rfl];rfl
 have hW:Below w.heap.size w (w.alloc (.cells #[.string x1,.string x2] 83)):=(Below.refl _ _).alloc (Nat.le_refl _) _
 have hWs:w.heap.size<(w.alloc (.cells #[.string x1,.string x2] 83)).heap.size:=by simp
 generalize w.alloc (.cells #[.string x1,.string x2] 83)=W1 at f0 f1 hW hWs ⊢
 refine wp_region_noPanic ?_
 refine wp_region_held_drew (S:=fun w'=>w'.cell? ⟨w.heap.size,0,none⟩=some (.string x1)∧w'.cell? ⟨w.heap.size,1,none⟩=some (.string x2)) (by kernel_rfl) ?_ (fun hHeld => ?_)
 ·(exact ⟨f0,f1⟩)
 refine tq0 0 hHeld ?_
 try simp only[Act.put,S0,S1,S2]
 refine tq0 1 hHeld ?_
 try simp only[Act.put,S0,S1,S2]
 refine tq0 2 hHeld ?_
 try simp only[Act.put,S0,S1,S2]
 refine tq0 4 hHeld ?_
 try simp only[Act.put,S0,S1,S2]
 refine tq0 5 hHeld ?_
 try simp only[Act.put,S0,S1,S2]
 refine wpAnyH_ready (rs := [3]) (by kernel_rfl) (by simp) ?_
 refine AllReadyH.cons (tqi rfl) (fun K hK => ?_) AllReadyH.nil
 go_simp
 refine (hE1 W1.drew).out.mono ?_
 rintro en wa ⟨v1,rfl,hown1,hon1⟩
 have hba:Below W1.heap.size W1 wa:=below_undrew hon1.below_nil
 have hsa:=hba.size
 obtain ⟨Aa,ca,rfl,hca, -, -,hsa1⟩:=hown1.open_
 go_wp2_with fail
 refine hK.out _ _ ?_ ?_
 ·(exact ⟨(hba.cell hWs).trans f0,(hba.cell hWs).trans f1⟩)
 clear hK K hHeld;intro hHeld
 try simp only[Act.put,S0,S1,S2]
 refine wpAnyH_ready (rs := [6]) (by kernel_rfl) (by simp) ?_
 refine AllReadyH.cons (tqi rfl) (fun K hK => ?_) AllReadyH.nil
 go_simp
 refine (hE2 wa).out.mono ?_
 rintro en wb ⟨v2,rfl,hown2,hon2⟩
 have hbb:Below wa.heap.size wa wb:=hon2.below_nil
 have hsb:=hbb.size
 obtain ⟨Ab,cb,rfl,hcb, -, -,hsb1⟩:=hown2.open_
 go_wp2_with fail
 refine hK.out _ _ ?_ ?_
 ·(exact ⟨((hba.trans (hbb.mono hsa)).cell hWs).trans f0,((hba.trans (hbb.mono hsa)).cell hWs).trans f1⟩)
 clear hK K hHeld;intro hHeld
 try simp only[Act.put,S0,S1,S2]
 refine wpAnyH_ready (rs := [7]) (by kernel_rfl) (by simp) ?_
 refine AllReadyH.cons (tqi rfl) (fun K hK => ?_) AllReadyH.nil
 have hbW:Below W1.heap.size W1 wb:=hba.trans (hbb.mono hsa)
 have hb3:Below wb.heap.size wb (wb.alloc (.cells #[.slice A n c,.slice Aa X.length ca,.slice Ab Y.length cb] 48)):=(Below.refl _ wb).alloc (Nat.le_refl _) _
 go_simp
 go_wp2_with fail
 refine hK.out _ _ ?_ ?_
 ·(exact ⟨((hbW.trans (hb3.mono hbW.size)).cell hWs).trans f0,((hbW.trans (hb3.mono hbW.size)).cell hWs).trans f1⟩)
 clear hK K hHeld;intro hHeld
 try simp only[Act.put,S0,S1,S2]
 refine wpAnyH_ready (rs := [8]) (by kernel_rfl) (by simp) ?_
 refine AllReadyH.cons (tqi rfl) (fun K hK => ?_) AllReadyH.nil
 have hbw:=hW.trans (hbW.mono hW.size)
 have h3:=sees2_threeR wb A Aa Ab n X.length Y.length c ca cb l X Y HN.out rfl rfl hnc hca hcb ((hS.below hbw).more hbw.size) ((hsa1.below hbb).more hsb) hsb1 48
 have hall3:∀i (hi:i < [l,X,Y].length),([l,X,Y][i]).length≤1000000:=by
  intro i hi
  match i,hi with
  | 0,_=>show l.length≤_;rw[HN.out];omega
  | 1,_=>exact HX.out
  | 2,_=>exact HY.out
 have hCc:=Lib.hid (Concat_any (some ⟨wb.heap.size,0,none⟩) 3 3 [l,X,Y] rfl _ h3 (by omega) hall3)
 rw[show [l,X,Y].flatten=l++(X++Y) from by simp,HF.out] at hCc
 clear h3 hall3
 go_simp
 refine hCc.out.mono ?_
 rintro en wc ⟨vc,rfl,hownc,honc⟩
 have hb4:=honc.below_nil
 go_wp2_with fail
 refine hK.out _ _ ?_ ?_
 ·(exact ⟨((hbW.trans ((hb3.trans (hb4.mono hb3.size)).mono hbW.size)).cell hWs).trans f0,((hbW.trans ((hb3.trans (hb4.mono hb3.size)).mono hbW.size)).cell hWs).trans f1⟩)
 clear hK K hHeld;intro hHeld
 try simp only[Act.put,S0,S1,S2]
 refine tq0 9 hHeld ?_
 try simp only[Act.put,S0,S1,S2]
 refine wpAnyH_done (by kernel_rfl) ?_ _
 refine NoPanic.normal ?_
 go_wp2_with fail
 go_ret
 exact ⟨vc,rfl,hownc.base_le (Nat.le_trans hbw.size hb3.size),hbw.trans ((hb3.trans (hb4.mono hb3.size)).mono hbw.size)⟩
end
section
open Go.RowKit
theorem sees_newL' (w:World) (b:Nat) (hb:w.heap.size=b) (ls:List Lb) (t:TypeId) (cs:Array Value) (h:cs=(lv ls).toArray):Sees (w.alloc (.cells cs t)) (b+1) (some ⟨b,0,none⟩) (lv ls):=by
 subst hb;exact sees_newL w ls t cs h
theorem right_any (x1 x2:ByteArray) (w:World) (h1:x1.size≤9223372036854775807) :
  Calls Tryz.prog 135 #[.agg #[.string x1,.string x2]] w (Gives w (.bool (okL (x1,x2)))):=by
 obtain ⟨o,ho⟩:∃o,okL (x1,x2)=o:=⟨_,rfl⟩
 have hm:=may1 (x:=(x1,x2))
 rw[ho] at hm ⊢
 have HM:=Lib.hid hm
 have hC:=fun W A (hS:Sees W W.heap.size A (lv [(x1,x2)]))=>Lib.hid (Canon_any A 1 1 [(x1,x2)] rfl W hS (by omega) (fun x hx=>by simp at hx;subst hx;exact h1))
 clear ho hm h1
 go_enter Tryz.func135,Tryz.ntmps135
 go_wp2_with fail
 have hb:Below w.heap.size w ((w.alloc (.cells #[.string x1,.string x2] 83)).alloc (.cells #[.string x1,.string x2] 83)):=((Below.refl _ _).alloc (Nat.le_refl _) _).alloc (by simp) _
 refine (hC _ _ ((sees_newL' _ (w.heap.size+1) (by simp) [(x1,x2)] _ _ rfl).more (by simp))).out.mono ?_
 rintro en w2 ⟨v,k,rfl,hb2,hres⟩
 have hb3:Below w.heap.size w w2:=hb.trans (hb2.mono hb.size)
 clear hC hb hb2
 rcases hres with ⟨hma,rfl, -⟩|⟨hma,rfl, -⟩
 ·obtain rfl:o=true:=HM.out.1 hma
  go_wp2
  go_ret
  exact ⟨rfl,hb3⟩
 ·have:¬ o=true:=fun e=>hma (HM.out.2 e)
  obtain rfl:o=false:=by cases o;rfl;exact absurd rfl this
  go_wp2
  go_ret
  exact ⟨rfl,hb3⟩
def MayIs (w:World) (r:RowP) (e:Ending) (w' : World):Prop:=∃b:Bool,(b=true↔MayR r)∧e = .returned (.bool b)∧Below w.heap.size w w'
theorem MayIs.no {w w' : World}{r:RowP}(h:¬ MayR r) (hb:Below w.heap.size w w'):MayIs w r (.returned (.bool false)) w':=⟨false,⟨fun e=>absurd e (by simp),fun e=>absurd e h⟩,rfl,hb⟩
def noL (x1 x2:ByteArray):Bool:=x1.toList == [] && x2.toList == []
theorem noL_ite {α:Type}(x1 x2:ByteArray) (f:Bool→α):(if x1.toList = [] then if x2.toList = [] then f true else f false else f false)=f (noL x1 x2):=by
 unfold noL
 by_cases h:x1.toList = []
 ·by_cases h2:x2.toList = []
  ·rw[if_pos h,if_pos h2,h,h2];rfl
  ·rw[if_pos h,if_neg h2,beq_eq_false_iff_ne.2 h2,Bool.and_false]
 ·rw[if_neg h,beq_eq_false_iff_ne.2 h,Bool.false_and]
def MayB (k d:Int) (ba bs o bn:Bool):Prop:=((k=1∨k=2)∧ba=true∧bn=true∧d=0)∨(k=3∧bs=false∧o=true∧d=0)∨(k=4∧bs=false∧o=true)∨(k=5∧bs=false∧bn=true∧d=0)
theorem mayB_iff {k d i:Int}{ls:List Lb}{x:Lb}{ba bs o bn:Bool}(hi1:1≤i) (hi2:i≤1073741824) (hd1:0≤d) (hd2:d≤2147483647) (ha:ba=true↔MayL ls) (hs:bs=false↔ls = []) (ho:okL x=o) (hn:bn=true↔x=lb0) :
  MayR ⟨k,ls,x,d,i⟩↔MayB k d ba bs o bn:=by
 unfold MayB
 rw[ha,hs, ←ho,hn]
 exact ⟨fun h=>h.kinds,fun h=>⟨hi1,hi2,hd1,hd2,h⟩⟩
theorem noL_iff {x1 x2:ByteArray} : noL x1 x2=true↔(x1,x2)=lb0:=by
 unfold noL lb0
 rw[Bool.and_eq_true,beq_iff_eq,beq_iff_eq]
 have h:∀x:ByteArray,x.toList = []↔x=⟨#[]⟩:=fun x=>by
  constructor
  ·intro h;apply bytes_same;rw[h,Lib.toList_data]
  ·rintro rfl;rw[Lib.toList_data]
 rw[h,h]
 constructor
 ·rintro ⟨rfl,rfl⟩;rfl
 ·intro h;exact ⟨(Prod.ext_iff.1 h).1,(Prod.ext_iff.1 h).2⟩
theorem may_any (A:Option Addr) (n c:Nat) (ls:List Lb) (hn:ls.length=n) (k d i:Int) (x1 x2:ByteArray) (w:World) (hS:Sees w w.heap.size A (lv ls)) (hlen:n≤1099511627776) (hsz:∀x∈ls,x.1.size≤9223372036854775807) (h1:x1.size≤9223372036854775807) :
  Calls Tryz.prog 89 #[.agg #[.int .i64 k,.slice A n c,.string x1,.string x2,.int .i64 d,.int .i64 i]] w (MayIs w ⟨k,ls,(x1,x2),d,i⟩):=by
 obtain ⟨W1,hW1⟩:∃W1,w.alloc (.cells #[.int .i64 k,.slice A n c,.string x1,.string x2,.int .i64 d,.int .i64 i] 92)=W1:=⟨_,rfl⟩
 have hb1:Below w.heap.size w W1:=hW1 ▸ (Below.refl _ _).alloc (Nat.le_refl _) _
 have hcell:∀j,j<6→W1.cell? ⟨w.heap.size,j,none⟩ = #[.int .i64 k,.slice A n c,.string x1,.string x2,.int .i64 d,.int .i64 i][j]?:=fun j hj=>by
  rw[←hW1,World.cell?_alloc_at _ _ _ _ rfl]
 have c3:=hcell 4 (by omega)
 have c4:=hcell 5 (by omega)
 simp only[List.getElem?_toArray,List.getElem?_cons_zero,List.getElem?_cons_succ] at c3 c4
 by_cases hi1:i<1
 ·go_enter Tryz.func89,Tryz.ntmps89
  go_wp2
  go_ret
  exact MayIs.no (fun h=>by have:=h.id1;simp only at this;omega) hb1
 by_cases hi2:1073741824<i
 ·go_enter Tryz.func89,Tryz.ntmps89
  go_wp2
  go_ret
  exact MayIs.no (fun h=>by have:=h.id2;simp only at this;omega) hb1
 by_cases hd1:d<0
 ·go_enter Tryz.func89,Tryz.ntmps89
  go_wp2
  go_ret
  exact MayIs.no (fun h=>by have:=h.day1;simp only at this;omega) hb1
 by_cases hd2:2147483647<d
 ·go_enter Tryz.func89,Tryz.ntmps89
  go_wp2
  go_ret
  exact MayIs.no (fun h=>by have:=h.day2;simp only at this;omega) hb1
 have hs1:w.heap.size<W1.heap.size:=by rw[←hW1];simp
 have hC:=Lib.hid (Canon_any A n c ls hn W1 ((hS.below hb1).more hb1.size) hlen hsz)
 have hR:=fun W=>Lib.hid (right_any x1 x2 W h1)
 have hN:=noL_iff (x1:=x1) (x2:=x2)
 obtain ⟨o,ho⟩:∃o,okL (x1,x2)=o:=⟨_,rfl⟩
 rw[ho] at hR
 have HO:=Lib.hid ho
 have HN:=Lib.hid hn
 have c0:=hcell 0 (by omega)
 have c1:=hcell 1 (by omega)
 have c2:=hcell 2 (by omega)
 have c2':=hcell 3 (by omega)
 simp only[List.getElem?_toArray,List.getElem?_cons_zero,List.getElem?_cons_succ] at c0 c1 c2 c2'
 clear hn ho hcell
 go_enter Tryz.func89,Tryz.ntmps89
 go_wp2_with fail
 refine hC.out.mono ?_
 rintro en w2 ⟨v,kk,rfl,hb2,hres⟩
 replace c0:=(hb2.cell hs1).trans c0
 replace c1:=(hb2.cell hs1).trans c1
 replace c2:=(hb2.cell hs1).trans c2
 replace c2':=(hb2.cell hs1).trans c2'
 replace c3:=(hb2.cell hs1).trans c3
 replace c4:=(hb2.cell hs1).trans c4
 have hs2:w.heap.size<w2.heap.size:=Nat.lt_of_lt_of_le hs1 hb2.size
 clear hC hW1
 go_wp2_with fail
 refine wp_region_noPanic ?_
 refine wp_region_held_drew (S:=fun w'=>w'.cell? ⟨w.heap.size,1,none⟩=some (.slice A n c)∧w'.cell? ⟨w.heap.size,2,none⟩=some (.string x1)∧w'.cell? ⟨w.heap.size,3,none⟩=some (.string x2)) (by kernel_rfl) ?_ (fun hHeld => ?_)
 ·(exact ⟨c1,c2,c2'⟩)
 refine tq0 0 hHeld ?_
 try simp only[Act.put,S0,S1,S2]
 refine tq0 1 hHeld ?_
 try simp only[Act.put,S0,S1,S2]
 refine tq0 2 hHeld ?_
 try simp only[Act.put,S0,S1,S2]
 refine tq0 3 hHeld ?_
 try simp only[Act.put,S0,S1,S2]
 refine tq0 4 hHeld ?_
 try simp only[Act.put,S0,S1,S2]
 refine tq0 5 hHeld ?_
 try simp only[Act.put,S0,S1,S2]
 refine tq0 6 hHeld ?_
 try simp only[Act.put,S0,S1,S2]
 refine tq0 7 hHeld ?_
 try simp only[Act.put,S0,S1,S2]
 refine tq0 9 hHeld ?_
 try simp only[Act.put,S0,S1,S2]
 refine tq0 10 hHeld ?_
 try simp only[Act.put,S0,S1,S2]
 refine tq0 11 hHeld ?_
 try simp only[Act.put,S0,S1,S2]
 refine wpAnyH_take (i:=12) (oi := { dst:=some 45,op:=Op.binOp BinOp.eql 83 (Operand.tmp 43) (Operand.tmp 44) 83,type:=4,pos := "rows.go:58",after := #[{ on:=10,ground:=Ground.data }, { on:=11,ground:=Ground.data }, { on:=15,ground:=Ground.gcOnly Departure.lateStores }],guard:=none }) (v := .bool (noL x1 x2)) rfl (by kernel_rfl) (by kernel_rfl) (by kernel_rfl) (fun _ _ _ h=>h) (Or.inl ⟨by rfl,?_⟩) hHeld ?_
 ·(intro w' hSw;(try dsimp only at hSw);go_split_ands;go_simp;first|done|with_reducible rfl|exact noL_ite x1 x2 (fun b=>Result.ok (Next.value (.bool b)) w'))
 try simp only[Act.put,S0,S1,S2]
 refine wpAnyH_ready (rs := [8]) (by kernel_rfl) (by simp) ?_
 refine AllReadyH.cons (tqi rfl) (fun K hK => ?_) AllReadyH.nil
 go_simp
 refine (hR w2.drew).out.mono ?_
 rintro en w3 ⟨rfl,hb3'⟩
 have hb3:Below w2.heap.size w2 w3:=below_undrew hb3'
 go_wp2_with fail
 refine hK.out _ _ ?_ ?_
 ·(exact ⟨(hb3.cell hs2).trans c1,(hb3.cell hs2).trans c2,(hb3.cell hs2).trans c2'⟩)
 clear hK K hHeld;intro hHeld
 try simp only[Act.put,S0,S1,S2]
 refine tq0 13 hHeld ?_
 try simp only[Act.put,S0,S1,S2]
 refine tq0 14 hHeld ?_
 try simp only[Act.put,S0,S1,S2]
 refine tq0 15 hHeld ?_
 try simp only[Act.put,S0,S1,S2]
 refine tq0 16 hHeld ?_
 try simp only[Act.put,S0,S1,S2]
 refine wpAnyH_done (by kernel_rfl) ?_ _
 refine NoPanic.normal ?_
 have hb03:Below w.heap.size w w3:=hb1.trans ((hb2.trans (hb3.mono hb2.size)).mono hb1.size)
 have hba:((kk:Int)==0)=true↔MayL ls:=by
  rcases hres with ⟨h,rfl, -⟩|⟨h,rfl, -⟩
  ·exact ⟨fun _=>h,fun _=>rfl⟩
  ·exact ⟨fun e=>absurd e (by decide),fun e=>absurd e h⟩
 have hbs:decide (0<n)=false↔ls = []:=by
  rw[decide_eq_false_iff_not, ←List.length_eq_zero_iff,HN.out];omega
 have hmr:=fun k=>mayB_iff (k:=k) hi1 hi2 hd1 hd2 hba hbs HO.out hN
 replace c0:=(hb3.cell hs2).trans c0
 replace c3:=(hb3.cell hs2).trans c3
 clear hres hba hbs hN hb2 hb3 hb3' c1 c2 c2' c4
 generalize ((kk:Int)==0)=ba at hmr ⊢
 generalize decide (0<n)=bs at hmr ⊢
 generalize noL x1 x2=bn at hmr ⊢
 have HF:Hid (∀(b:Bool) (W:World),Below w.heap.size w W→(b=true↔MayB k d ba bs o bn)→MayIs w ⟨k,ls,(x1,x2),d,i⟩ (.returned (.bool b)) W):=fun b W hb he=>⟨b,he.trans (hmr k).symm,rfl,hb⟩
 clear hmr
 by_cases k1:k≤0
 ·(go_wp2;go_ret;refine HF.out _ _ hb03 ?_;unfold MayB;simp;try omega)
 by_cases k2:k≤1
 ·have k1' : 1≤k:=by omega
  cases ba with
  | false=>(go_wp2;go_ret;refine HF.out _ _ hb03 ?_;unfold MayB;simp;try omega)
  | true =>
  cases bn with
  | false=>(go_wp2;go_ret;refine HF.out _ _ hb03 ?_;unfold MayB;simp;try omega)
  | true=>(by_cases d0:0<d;(case pos=>(go_wp2;go_ret;refine HF.out _ _ hb03 ?_;unfold MayB;simp;try omega));obtain rfl:d=0:=(by omega);(go_wp2;go_ret;refine HF.out _ _ hb03 ?_;unfold MayB;simp;try omega))
 by_cases k3:k≤2
 ·have k1' : 2≤k:=by omega
  cases ba with
  | false=>(go_wp2;go_ret;refine HF.out _ _ hb03 ?_;unfold MayB;simp;try omega)
  | true =>
  cases bn with
  | false=>(go_wp2;go_ret;refine HF.out _ _ hb03 ?_;unfold MayB;simp;try omega)
  | true=>(by_cases d0:0<d;(case pos=>(go_wp2;go_ret;refine HF.out _ _ hb03 ?_;unfold MayB;simp;try omega));obtain rfl:d=0:=(by omega);(go_wp2;go_ret;refine HF.out _ _ hb03 ?_;unfold MayB;simp;try omega))
 by_cases k4:k≤3
 ·have k1' : 3≤k:=by omega
  cases bs with
  | true=>(go_wp2;go_ret;refine HF.out _ _ hb03 ?_;unfold MayB;simp;try omega)
  | false =>
  cases o with
  | false=>(go_wp2;go_ret;refine HF.out _ _ hb03 ?_;unfold MayB;simp;try omega)
  | true=>(by_cases d0:0<d;(case pos=>(go_wp2;go_ret;refine HF.out _ _ hb03 ?_;unfold MayB;simp;try omega));obtain rfl:d=0:=(by omega);(go_wp2;go_ret;refine HF.out _ _ hb03 ?_;unfold MayB;simp;try omega))
 by_cases k5:k≤4
 ·have k1' : 4≤k:=by omega
  cases bs with
  | true=>(go_wp2;go_ret;refine HF.out _ _ hb03 ?_;unfold MayB;simp;try omega)
  | false =>
  cases o with
  | false=>(go_wp2;go_ret;refine HF.out _ _ hb03 ?_;unfold MayB;simp;try omega)
  | true=>(go_wp2;go_ret;refine HF.out _ _ hb03 ?_;unfold MayB;simp;try omega)
 by_cases k6:k≤5
 ·obtain rfl:k=5:=by omega
  cases bs with
  | true=>(go_wp2;go_ret;refine HF.out _ _ hb03 ?_;unfold MayB;simp;try omega)
  | false =>
  cases bn with
  | false=>(go_wp2;go_ret;refine HF.out _ _ hb03 ?_;unfold MayB;simp;try omega)
  | true=>(by_cases d0:0<d;(case pos=>(go_wp2;go_ret;refine HF.out _ _ hb03 ?_;unfold MayB;simp;try omega));obtain rfl:d=0:=(by omega);(go_wp2;go_ret;refine HF.out _ _ hb03 ?_;unfold MayB;simp;try omega))
 (go_wp2;go_ret;refine HF.out _ _ hb03 ?_;unfold MayB;simp;try omega)
end
section
open Go.RowKit
def MakeOut (w:World) (r:RowP) (e:Ending) (w' : World):Prop :=
 ∃(v:Value) (k:Nat),e = .returned (.tuple #[v,.int .i64 k])∧Below w.heap.size w w'∧((MayR r∧k=0∧OwnB w' w.heap.size v (makeR r))∨(¬ MayR r∧k=120∧v = .slice none 0 0))
theorem MayR.nat {r:RowP}(h:MayR r):∃i d:Nat,r.id=(i:Int)∧r.day=(d:Int)∧r.id.toNat=i∧r.day.toNat=d∧i<4294967296∧d<4294967296:=by
 have h1:=h.id1
 have h2:=h.id2
 have h3:=h.day1
 have h4:=h.day2
 exact ⟨r.id.toNat,r.day.toNat,by omega,by omega,rfl,rfl,by omega,by omega⟩
theorem KI_new (w:World) (o:Obj):Below w.heap.size w (w.alloc o):=(Below.refl _ w).alloc (Nat.le_refl _) _
theorem MakeRow_any (A:Option Addr) (n c:Nat) (ls:List Lb) (hn:ls.length=n) (k d i:Int) (x1 x2:ByteArray) (w:World) (hS:Sees w w.heap.size A (lv ls)) (hlen:n≤1099511627776) (hsz:∀x∈ls,x.1.size≤9223372036854775807) (h1:x1.size≤9223372036854775807) :
  Calls Tryz.prog 47 #[.agg #[.int .i64 k,.slice A n c,.string x1,.string x2,.int .i64 d,.int .i64 i]] w (MakeOut w ⟨k,ls,(x1,x2),d,i⟩):=by
 obtain ⟨W1,hW1⟩:∃W1,w.alloc (.cells #[.int .i64 k,.slice A n c,.string x1,.string x2,.int .i64 d,.int .i64 i] 92)=W1:=⟨_,rfl⟩
 have hb1:Below w.heap.size w W1:=hW1 ▸ (Below.refl _ _).alloc (Nat.le_refl _) _
 have hcell:∀j,j<6→W1.cell? ⟨w.heap.size,j,none⟩ = #[.int .i64 k,.slice A n c,.string x1,.string x2,.int .i64 d,.int .i64 i][j]?:=fun j hj=>by
  rw[←hW1,World.cell?_alloc_at _ _ _ _ rfl]
 have c0:=hcell 0 (by omega)
 have c1:=hcell 1 (by omega)
 have c2:=hcell 2 (by omega)
 have c2':=hcell 3 (by omega)
 have c3:=hcell 4 (by omega)
 have c4:=hcell 5 (by omega)
 simp only[List.getElem?_toArray,List.getElem?_cons_zero,List.getElem?_cons_succ] at c0 c1 c2 c2' c3 c4
 have hs1:w.heap.size<W1.heap.size:=by rw[←hW1];simp
 have hM:=Lib.hid (may_any A n c ls hn k d i x1 x2 W1 ((hS.below hb1).more hb1.size) hlen hsz h1)
 have HN:=Lib.hid hn
 have HSZ:=Lib.hid hsz
 clear hcell hn hsz
 go_enter Tryz.func47,Tryz.ntmps47
 go_wp2_with fail
 refine hM.out.mono ?_
 rintro en w2 ⟨b,hb,rfl,hb2⟩
 clear hM
 cases b with
 | false =>
  have HNO:Hid (¬ MayR ⟨k,ls,(x1,x2),d,i⟩):=fun h=>absurd (hb.2 h) (by simp)
  clear hb
  go_wp2_with fail
  go_ret2
  exact ⟨_,120,rfl,hb1.trans (hb2.mono hb1.size),.inr ⟨HNO.out,rfl,rfl⟩⟩
 | true =>
  have hmr:=hb.1 rfl
  clear hb
  have hs2:=hb2.size
  replace c0:=(hb2.cell hs1).trans c0
  replace c1:=(hb2.cell hs1).trans c1
  replace c2:=(hb2.cell hs1).trans c2
  replace c2':=(hb2.cell hs1).trans c2'
  replace c3:=(hb2.cell hs1).trans c3
  replace c4:=(hb2.cell hs1).trans c4
  have hb02:=hb1.trans (hb2.mono hb1.size)
  have hMa:=Lib.hid (Marshal_any A n c ls HN.out w2 ((hS.below hb02).more hb02.size) hlen HSZ.out)
  obtain ⟨id,dn,hi,hd,hi',hd',hi4,hd4⟩:=hmr.nat
  simp only at hi hd hi' hd'
  obtain rfl:=hi
  obtain rfl:=hd
  have hs12:w.heap.size<w2.heap.size:=by omega
  have HMR:=Lib.hid hmr
  have HW1:=Lib.hid hW1
  clear hmr hW1 hb1 hb2 hi' hd'
  go_wp2_with fail
  refine hMa.out.mono ?_
  rintro en w3 ⟨v3,k3,rfl,hb3,hres⟩
  clear hMa
  have hs3:=hb3.size
  replace c0:=(hb3.cell hs12).trans c0
  replace c1:=(hb3.cell hs12).trans c1
  replace c2:=(hb3.cell hs12).trans c2
  replace c2':=(hb3.cell hs12).trans c2'
  replace c3:=(hb3.cell hs12).trans c3
  replace c4:=(hb3.cell hs12).trans c4
  have hb03:=hb02.trans (hb3.mono hb02.size)
  have HRES:=Lib.hid hres
  clear hres hb3 hb02
  have hs13:w.heap.size<w3.heap.size:=by omega
  have hpre:∀(kb:UInt8) (x:Int),x=(kb.toNat:Int)→∃W4,w3.alloc (.cells #[.int .u8 x] 5)=W4∧OwnB W4 w3.heap.size (.slice (some ⟨w3.heap.size,0,none⟩) 1 1) [kb]∧Below w3.heap.size w3 W4:=fun kb x hx=>by
   subst hx
   exact ⟨_,rfl,OwnB.new w3 w3.heap.size (Nat.le_refl _) [kb] 1 rfl _ rfl (by simp[maxLen]),KI_new w3 _⟩
  rcases HMR.out.kinds with ⟨hk|hk,hmay,hx,hd0⟩|⟨hk,hl,hx,hd0⟩|⟨hk,hl,hx⟩|⟨hk,hl,hx,hd0⟩
  ·simp only at hk hmay hx hd0
   obtain rfl:=hk
   rcases HRES.out with ⟨-, -,hown⟩|⟨hno, -, -⟩
   rotate_left
   ·exact absurd hmay hno
   have hml:=hmay.marsh_len
   have hE:=make1 (r:=⟨1,ls,(x1,x2),(dn:Int),(id:Int)⟩) rfl
   simp only[Int.toNat_natCast] at hE
   obtain ⟨M,hM⟩:∃M,marsh (sortN ls)=M:=⟨_,rfl⟩
   rw[hM] at hown hE hml
   have HE:=Lib.hid hE
   obtain ⟨A3,c3',rfl,hc3, -,hown',hs3'⟩:=hown.open_
   have HML:=Lib.hid hml
   clear hM hml hx hd0 hmay HRES hE
   obtain ⟨W4,hW4,own4,hb4⟩:=hpre 1 1 rfl
   have e0:=(hb4.cell hs13).trans c0
   have e2:=(hb4.cell hs13).trans c2
   have e2':=(hb4.cell hs13).trans c2'
   have e3:=(hb4.cell hs13).trans c3
   have e4:=(hb4.cell hs13).trans c4
   have hs4:=hb4.size
   have hfin:Hid (∀(v:Value) (W:World),Below w3.heap.size W4 W→OwnB W w3.heap.size v (makeR ⟨1,ls,(x1,x2),dn,id⟩)→MakeOut w ⟨1,ls,(x1,x2),dn,id⟩ (.returned (.tuple #[v,.int .i64 0])) W):=fun v W hb ho =>
    ⟨v,0,rfl,hb03.trans ((hb4.trans hb).mono (Nat.le_of_lt hs13)),.inl ⟨HMR.out,rfl,ho.base_le (Nat.le_of_lt hs13)⟩⟩
   have hs34:=(hs3'.below hb4).more hs4
   go_wp2_with (first
    | (at_builtin;refine wpList_append_b rfl (.tmp 36) (.tmp 37) rfl w3.heap.size (.slice (some ⟨w3.heap.size,0,none⟩) 1 1) [1] (by rfl) own4 W4.heap.size A3 M.length c3' M (by rfl) rfl hs34 (by have:=HML.out;simp;omega) hs4 ?_;intro va wa howna hona;have hba:Below w3.heap.size W4 wa:=hona.below hs4 own4.block;have hsa:=hba.size;replace e4:=(hba.cell hs13).trans e4)
    | (at_builtin;refine wpList_append_b rfl (.tmp 38) (.tmp 39) rfl w3.heap.size va ([1]++M) (by rfl) (howna.alloc _) (wa.heap.size+1) _ 1 _ [0] (by rfl) rfl (sees_new _ [0] _ _ rfl) (by have:=HML.out;simp;omega) (by simp;omega) ?_;intro vb wb hownb honb;have hbb:Below w3.heap.size wa wb:=((Below.refl _ wa).alloc (by omega) _).trans (honb.below (by simp;omega) howna.block);have hsb:=hbb.size;replace e4:=(hbb.cell hs13).trans e4)
    | fail)
   refine (number_any w3.heap.size vb _ id wb hownb (by omega) hi4 (by have:=HML.out;simp;omega)).mono ?_
   rintro en wc ⟨vc,rfl,hownc,honc⟩
   go_wp2_with fail
   go_ret2
   exact hfin.out _ _ (hba.trans (hbb.trans (honc.below (by omega) hownb.block))) (by rw[HE.out];exact hownc)
  ·simp only at hk hmay hx hd0
   obtain rfl:=hk
   rcases HRES.out with ⟨-, -,hown⟩|⟨hno, -, -⟩
   rotate_left
   ·exact absurd hmay hno
   have hml:=hmay.marsh_len
   have hE:=make2 (r:=⟨2,ls,(x1,x2),(dn:Int),(id:Int)⟩) rfl
   simp only[Int.toNat_natCast] at hE
   obtain ⟨M,hM⟩:∃M,marsh (sortN ls)=M:=⟨_,rfl⟩
   rw[hM] at hown hE hml
   have HE:=Lib.hid hE
   obtain ⟨A3,c3',rfl,hc3, -,hown',hs3'⟩:=hown.open_
   have HML:=Lib.hid hml
   clear hM hml hx hd0 hmay HRES hE
   obtain ⟨W4,hW4,own4,hb4⟩:=hpre 2 2 rfl
   have e0:=(hb4.cell hs13).trans c0
   have e2:=(hb4.cell hs13).trans c2
   have e2':=(hb4.cell hs13).trans c2'
   have e3:=(hb4.cell hs13).trans c3
   have e4:=(hb4.cell hs13).trans c4
   have hs4:=hb4.size
   have hfin:Hid (∀(v:Value) (W:World),Below w3.heap.size W4 W→OwnB W w3.heap.size v (makeR ⟨2,ls,(x1,x2),dn,id⟩)→MakeOut w ⟨2,ls,(x1,x2),dn,id⟩ (.returned (.tuple #[v,.int .i64 0])) W):=fun v W hb ho =>
    ⟨v,0,rfl,hb03.trans ((hb4.trans hb).mono (Nat.le_of_lt hs13)),.inl ⟨HMR.out,rfl,ho.base_le (Nat.le_of_lt hs13)⟩⟩
   have hs34:=(hs3'.below hb4).more hs4
   go_wp2_with fail
   refine (number_any w3.heap.size _ _ id W4 own4 (by omega) hi4 (by simp)).mono ?_
   rintro en wa ⟨va,rfl,howna,hona⟩
   have hba:Below w3.heap.size W4 wa:=hona.below hs4 own4.block
   have hsa:=hba.size
   go_wp2_with (at_builtin;refine wpList_append_b rfl (.tmp 33) (.tmp 34) rfl w3.heap.size va _ (by rfl) howna wa.heap.size A3 M.length c3' M (by rfl) rfl (((hs3'.below hb4).below hba).more (by omega)) (by have:=HML.out;simp[four_len];omega) (by omega) ?_;intro vb wb hownb honb)
   go_ret2
   exact hfin.out _ _ (hba.trans (honb.below (by omega) howna.block)) (by rw[HE.out];exact hownb)
  ·simp only at hk hl hx
   obtain rfl:=hk
   have hll:=escL_len hx
   have hE:=make3 (r:=⟨3,ls,(x1,x2),(dn:Int),(id:Int)⟩) rfl
   simp only[Int.toNat_natCast] at hE
   obtain ⟨sz1,sz2⟩:x1.size≤400000∧x2.size≤400000:=by have:=okL_size hx;simp only at this;omega
   obtain ⟨M,hM⟩:∃M,escL (x1,x2)=M:=⟨_,rfl⟩
   rw[hM] at hE hll
   have HE:=Lib.hid hE
   have HML:=Lib.hid hll
   have HT:=fun A n c l hn hnc W hS hl=>Lib.hid (tag_any A n c l x1 x2 hn hnc W hS hl sz1 sz2)
   rw[hM] at HT
   clear hM hll hx hl HRES hE sz1 sz2
   obtain ⟨W4,hW4,own4,hb4⟩:=hpre 3 3 rfl
   have e0:=(hb4.cell hs13).trans c0
   have e2:=(hb4.cell hs13).trans c2
   have e2':=(hb4.cell hs13).trans c2'
   have e3:=(hb4.cell hs13).trans c3
   have e4:=(hb4.cell hs13).trans c4
   have hs4:=hb4.size
   have hfin:Hid (∀(v:Value) (W:World),Below w3.heap.size W4 W→OwnB W w3.heap.size v (makeR ⟨3,ls,(x1,x2),dn,id⟩)→MakeOut w ⟨3,ls,(x1,x2),dn,id⟩ (.returned (.tuple #[v,.int .i64 0])) W):=fun v W hb ho =>
    ⟨v,0,rfl,hb03.trans ((hb4.trans hb).mono (Nat.le_of_lt hs13)),.inl ⟨HMR.out,rfl,ho.base_le (Nat.le_of_lt hs13)⟩⟩
   go_wp2_with fail
   refine (HT _ 1 1 [3] rfl (Nat.le_refl _) W4 (Sees.of_own own4) (by omega)).out.mono ?_
   rintro en wa ⟨va,rfl,howna,hba'⟩
   have hba:Below w3.heap.size W4 wa:=hba'.mono hs4
   have hsa:=hba.size
   replace e4:=(hba.cell hs13).trans e4
   go_wp2_with fail
   refine (number_any w3.heap.size va _ id wa (howna.base_le hs4) (by omega) hi4 (by have:=HML.out;simp;omega)).mono ?_
   rintro en wc ⟨vc,rfl,hownc,honc⟩
   go_wp2_with fail
   go_ret2
   exact hfin.out _ _ (hba.trans (honc.below (by omega) (howna.base_le hs4).block)) (by rw[HE.out];exact hownc)
  ·simp only at hk hl hx
   obtain rfl:=hk
   have hll:=escL_len hx
   have hE:=make4 (r:=⟨4,ls,(x1,x2),(dn:Int),(id:Int)⟩) rfl
   simp only[Int.toNat_natCast] at hE
   obtain ⟨sz1,sz2⟩:x1.size≤400000∧x2.size≤400000:=by have:=okL_size hx;simp only at this;omega
   obtain ⟨M,hM⟩:∃M,escL (x1,x2)=M:=⟨_,rfl⟩
   rw[hM] at hE hll
   have HE:=Lib.hid hE
   have HML:=Lib.hid hll
   have HT:=fun A n c l hn hnc W hS hl=>Lib.hid (tag_any A n c l x1 x2 hn hnc W hS hl sz1 sz2)
   rw[hM] at HT
   clear hM hll hx hl HRES hE sz1 sz2
   obtain ⟨W4,hW4,own4,hb4⟩:=hpre 4 4 rfl
   have e0:=(hb4.cell hs13).trans c0
   have e2:=(hb4.cell hs13).trans c2
   have e2':=(hb4.cell hs13).trans c2'
   have e3:=(hb4.cell hs13).trans c3
   have e4:=(hb4.cell hs13).trans c4
   have hs4:=hb4.size
   have hfin:Hid (∀(v:Value) (W:World),Below w3.heap.size W4 W→OwnB W w3.heap.size v (makeR ⟨4,ls,(x1,x2),dn,id⟩)→MakeOut w ⟨4,ls,(x1,x2),dn,id⟩ (.returned (.tuple #[v,.int .i64 0])) W):=fun v W hb ho =>
    ⟨v,0,rfl,hb03.trans ((hb4.trans hb).mono (Nat.le_of_lt hs13)),.inl ⟨HMR.out,rfl,ho.base_le (Nat.le_of_lt hs13)⟩⟩
   go_wp2_with fail
   refine (number_any w3.heap.size _ _ dn W4 own4 (by omega) hd4 (by simp)).mono ?_
   rintro en w5 ⟨v5,rfl,hown5,hon5⟩
   have hb5:Below w3.heap.size W4 w5:=hon5.below hs4 own4.block
   have hs5':=hb5.size
   replace e0:=(hb5.cell hs13).trans e0
   replace e2:=(hb5.cell hs13).trans e2
   replace e2':=(hb5.cell hs13).trans e2'
   replace e4:=(hb5.cell hs13).trans e4
   obtain ⟨A5,c5,rfl,hc5, -, -,hs5⟩:=hown5.open_
   go_wp2_with fail
   refine (HT A5 _ c5 _ rfl hc5 w5 hs5 (by simp[four_len])).out.mono ?_
   rintro en wa ⟨va,rfl,howna,hba'⟩
   have hba:Below w3.heap.size W4 wa:=hb5.trans (hba'.mono (by omega))
   have hsa:=hba.size
   replace e4:=(hba'.cell (by show w.heap.size<w5.heap.size;omega)).trans e4
   go_wp2_with fail
   refine (number_any w3.heap.size va _ id wa (howna.base_le (by omega)) (by omega) hi4 (by have:=HML.out;simp[four_len];omega)).mono ?_
   rintro en wc ⟨vc,rfl,hownc,honc⟩
   go_wp2_with fail
   go_ret2
   exact hfin.out _ _ (hba.trans (honc.below (by omega) (howna.base_le (by omega)).block)) (by rw[HE.out];exact hownc)
  ·simp only at hk hl hx hd0
   obtain rfl:=hk
   have hE:=make5 (r:=⟨5,ls,(x1,x2),(dn:Int),(id:Int)⟩) rfl
   simp only[Int.toNat_natCast] at hE
   have HE:=Lib.hid hE
   clear hx hl HRES hE hd0
   obtain ⟨W4,hW4,own4,hb4⟩:=hpre 5 5 rfl
   have e0:=(hb4.cell hs13).trans c0
   have e2:=(hb4.cell hs13).trans c2
   have e2':=(hb4.cell hs13).trans c2'
   have e3:=(hb4.cell hs13).trans c3
   have e4:=(hb4.cell hs13).trans c4
   have hs4:=hb4.size
   have hfin:Hid (∀(v:Value) (W:World),Below w3.heap.size W4 W→OwnB W w3.heap.size v (makeR ⟨5,ls,(x1,x2),dn,id⟩)→MakeOut w ⟨5,ls,(x1,x2),dn,id⟩ (.returned (.tuple #[v,.int .i64 0])) W):=fun v W hb ho =>
    ⟨v,0,rfl,hb03.trans ((hb4.trans hb).mono (Nat.le_of_lt hs13)),.inl ⟨HMR.out,rfl,ho.base_le (Nat.le_of_lt hs13)⟩⟩
   go_wp2_with fail
   refine (number_any w3.heap.size _ _ id W4 own4 (by omega) hi4 (by simp)).mono ?_
   rintro en wc ⟨vc,rfl,hownc,honc⟩
   go_wp2_with fail
   go_ret2
   exact hfin.out _ _ (honc.below hs4 own4.block) (by rw[HE.out];exact hownc)
end
end Go.Proofs.YtalmnodgjjcefaaGreatDoor
