/- Several texts in one: LbBase LbName LbText LbCut. -/
import Derived.Test.YtalmnodgjjcefaaGreatDoorJLow
import Derived.Test.YtalmnodgjjcefaaGreatDoorJShelf
import Derived.Test.YtalmnodgjjcefaaGreatDoorJItm
import Derived.Test.YtalmnodgjjcefaaGreatDoorJIpB
set_option maxRecDepth 100000
set_option maxHeartbeats 1600000
namespace Go.Proofs.YtalmnodgjjcefaaGreatDoor
section
open Go.RowKit
abbrev Lb:=ByteArray×ByteArray
def lv (ls:List Lb):List Value:=ls.flatMap fun x => [.string x.1,.string x.2]
theorem lv_length (ls:List Lb):(lv ls).length=2*ls.length:=by
 induction ls with
 | nil=>rfl
 | cons x t ih=>simp only[lv,List.flatMap_cons,List.length_append,List.length_cons,List.length_nil] at *;omega
theorem lv_at (ls:List Lb) (k:Nat) (h:k<ls.length):(lv ls)[2*k]?=some (.string ls[k].1)∧(lv ls)[2*k+1]?=some (.string ls[k].2):=by
 induction ls generalizing k with
 | nil=>simp at h
 | cons x t ih =>
  cases k with
  | zero=>exact ⟨rfl,rfl⟩
  | succ k =>
   have:=ih k (by simpa using h)
   rw[show 2*(k+1)=2*k+1+1 from by omega]
   exact this
theorem add_field (a:Addr) (m j:Nat) (hj:0<j):a.add (m+j)=⟨(a.add m).block,(a.add m).off+j,none⟩:=by
 unfold Addr.add
 by_cases hm:m=0
 ·subst hm
  rw[if_neg (by omega),if_pos rfl]
  simp
 ·rw[if_neg (by omega),if_neg hm]
  simp[Nat.add_assoc]
theorem Sees.lb {w:World}{B:Nat}{A:Option Addr}{ls:List Lb}(h:Sees w B A (lv ls)) {k:Nat}(hk:k<ls.length):∃ad,A=some ad∧ad.block<B∧w.cell? (ad.add (k*2))=some (.string ls[k].1)∧w.cell? ⟨(ad.add (k*2)).block,(ad.add (k*2)).off+1,none⟩=some (.string ls[k].2):=by
 rcases h.out with h|⟨ad,e,hb,hc⟩
 ·have:=lv_length ls
  rw[h] at this
  simp at this
  omega
 ·obtain ⟨h1,h2⟩:=lv_at ls k hk
  exact ⟨ad,e,hb,by rw[Nat.mul_comm];exact hc _ _ h1,by rw[←add_field ad _ 1 (by omega),Nat.mul_comm];exact hc _ _ h2⟩
def getL:List Lb→ByteArray→ByteArray
 | x :: t,n=>if x.1.toList==n.toList then x.2 else getL t n
 | [],_=>⟨#[]⟩
def idxL:List Lb→ByteArray→Nat
 | x :: t,n=>if x.1.toList==n.toList then 0 else idxL t n+1
 | [],_=>0
theorem getFn_any (p:Addr) (x:Lb) (s:ByteArray) (w:World) (hp:w.cell? p=some (.string s)) :
  Calls Tryz.prog 202 #[.agg #[.string x.1,.string x.2],.pointer (some p)] w (Gives w (.bool (x.1.toList==s.toList))):=by
 have hb:=World.block_lt_of_cell? w _ hp
 go_enter Tryz.func202,Tryz.ntmps202
 go_wp2
 go_ret
 exact ⟨rfl,(Below.refl _ w).alloc (Nat.le_refl _) _⟩
theorem idxL_at {ls:List Lb}{n:ByteArray}{k:Nat}(h:k<ls.length):idxL (ls.drop k) n=if ls[k].1.toList==n.toList then 0 else idxL (ls.drop (k+1)) n+1:=by
 rw[List.drop_eq_getElem_cons h]
 rfl
theorem idxL_end {ls:List Lb}{n:ByteArray}{k:Nat}(h:ls.length≤k):idxL (ls.drop k) n=0:=by
 rw[List.drop_eq_nil_of_le h]
 rfl
theorem idxL_get:∀(ls:List Lb) (n:ByteArray),(∀h:idxL ls n<ls.length,getL ls n=ls[idxL ls n].2)∧(ls.length≤idxL ls n→getL ls n=⟨#[]⟩)
 | [],n=>⟨fun h=>absurd h (by simp[idxL]),fun _=>rfl⟩
 | x :: t,n=>by
  have ih:=idxL_get t n
  by_cases hb:(x.1.toList==n.toList)=true
  ·have e:idxL (x :: t) n=0:=by simp only[idxL];rw[if_pos hb]
   have e2:getL (x :: t) n=x.2:=by simp only[getL];rw[if_pos hb]
   refine ⟨fun h => ?_,fun h => ?_⟩
   ·simp only[e,e2,List.getElem_cons_zero]
   ·rw[e] at h;simp at h
  ·have e:idxL (x :: t) n=idxL t n+1:=by simp only[idxL];rw[if_neg hb]
   have e2:getL (x :: t) n=getL t n:=by simp only[getL];rw[if_neg hb]
   refine ⟨fun h => ?_,fun h => ?_⟩
   ·simp only[e,e2,List.getElem_cons_succ]
    exact ih.1 (by rw[e] at h;simpa using h)
   ·rw[e2];exact ih.2 (by rw[e] at h;simpa using h)
theorem idxL_le:∀(ls:List Lb) (n:ByteArray),idxL ls n≤ls.length
 | [],n=>by simp[idxL]
 | x :: t,n=>by have:=idxL_le t n;simp only[idxL,List.length_cons];split<;>omega
def idxZ (ls:List Lb) (n:ByteArray):Int:=if idxL ls n<ls.length then (idxL ls n:Int) else -1
theorem IndexFuncL_any (A:Option Addr) (n c:Nat) (ls:List Lb) (s:ByteArray) (p:Addr) (hn:ls.length=n) (w:World) (hS:Sees w w.heap.size A (lv ls)) (hp:w.cell? p=some (.string s)) (hlen:n≤1099511627776) :
  Calls Tryz.prog 201 #[.slice A n c,.func (.func 202) #[] #[.pointer (some p)]] w (Gives w (.int .i64 (idxZ ls s))):=by
 have hpb:=World.block_lt_of_cell? w _ hp
 have hle:=idxL_le ls s
 obtain ⟨Z,hZ⟩:∃Z,idxZ ls s=Z:=⟨_,rfl⟩
 rw[hZ]
 unfold idxZ at hZ
 obtain ⟨X,hX⟩:∃X,idxL ls s=X:=⟨_,rfl⟩
 rw[hX,hn] at hZ
 rw[hX,hn] at hle
 have HZ:=Lib.hid hZ
 have HX:=Lib.hid hX
 have HN:=Lib.hid hn
 clear hn hX hZ
 go_enter Tryz.func201,Tryz.ntmps201
 go_wp2
 go_loopg [8] n (fun g i wr=>∃k:Nat,k+g=n∧i = .int .i64 k∧Hid (X=k+idxL (ls.drop k) s)∧Below w.heap.size w wr)
 case atStart=>exact ⟨0,by omega,rfl,by unfold Hid;rw[←HX.out];simp,Below.refl _ _⟩
 case round =>
  obtain ⟨k,hk,rfl,heq,hbr⟩:=hrel
  by_cases hlt:k<n
  ·obtain ⟨ad,rfl,hadB,hc0,hc1⟩:=(hS.below hbr).lb (k:=k) (by have:=HN.out;omega)
   have hstep:=Lib.hid (heq.out.trans (congrArg (k + ·) (idxL_at (ls:=ls) (n:=s) (k:=k) (by have:=HN.out;omega))))
   generalize ls[k]'(by have:=HN.out;omega)=x at hc0 hc1 hstep
   have hC:=Lib.hid (getFn_any p x s wr ((hbr.cell hpb).trans hp))
   clear heq
   obtain ⟨b,hb⟩:∃b,(x.1.toList==s.toList)=b:=⟨_,rfl⟩
   rw[hb] at hstep hC
   cases b with
   | true =>
    have HF:Hid (X=k):=by have:=hstep.out;rw[if_pos rfl] at this;exact this
    clear hstep
    go_wp2_with fail
    refine hC.out.mono ?_
    rintro e w1 ⟨rfl,hb1⟩
    go_wp2
    go_ret
    have hz:=HZ.out
    rw[HF.out,if_pos hlt] at hz
    rw[←hz]
    exact ⟨rfl,hbr.trans (hb1.mono hbr.size)⟩
   | false =>
    have hT:Hid (X=(k+1)+idxL (ls.drop (k+1)) s):=by have:=hstep.out;rw[if_neg (by simp)] at this;unfold Hid;omega
    clear hstep
    go_wp2_with fail
    refine hC.out.mono ?_
    rintro e w1 ⟨rfl,hb1⟩
    go_wp2
    go_roundg (n - (k+1))
    case measure=>omega
    case rel=>exact ⟨k+1,by omega,by go_num,hT,hbr.trans (hb1.mono hbr.size)⟩
  ·have HF:Hid (X=n):=by have:=heq.out;rw[idxL_end (by have:=HN.out;omega)] at this;unfold Hid;omega
   clear heq
   go_wp2
   go_ret
   have hz:=HZ.out
   rw[HF.out,if_neg (by omega)] at hz
   rw[←hz]
   exact ⟨rfl,hbr⟩
theorem Get_any (A:Option Addr) (n c:Nat) (ls:List Lb) (s:ByteArray) (hn:ls.length=n) (w:World) (hS:Sees w w.heap.size A (lv ls)) (hlen:n≤1099511627776) :
  Calls Tryz.prog 144 #[.slice A n c,.string s] w (Gives w (.string (getL ls s))):=by
 have hb0:Below w.heap.size w (w.alloc (.cells #[.string s] 9)):=(Below.refl _ w).alloc (Nat.le_refl _) _
 have hI:=IndexFuncL_any A n c ls s ⟨w.heap.size,0,none⟩ hn (w.alloc (.cells #[.string s] 9)) ((hS.below hb0).more hb0.size) (by rw[World.cell?_alloc_at _ _ _ _ rfl];rfl) hlen
 have hle:=idxL_le ls s
 have hg:=idxL_get ls s
 unfold idxZ at hI
 by_cases hx:idxL ls s<ls.length
 ·rw[if_pos hx] at hI
  have hG' : ∀X,idxL ls s=X→∀h:X<ls.length,getL ls s=ls[X].2:=by rintro X rfl h;exact hg.1 h
  obtain ⟨X,hX⟩:∃X,idxL ls s=X:=⟨_,rfl⟩
  rw[hX] at hI hx
  have hG:=hG' X hX hx
  clear hG' hX
  generalize getL ls s=G at hG ⊢
  have HG:=Lib.hid hG
  have HI:=Lib.hid hI
  have hxn:X<n:=by omega
  have HX:=Lib.hid hx
  have HN:=Lib.hid hn
  clear hn hg hle hG hI
  go_enter Tryz.func144,Tryz.ntmps144
  go_wp2_with fail
  refine HI.out.mono ?_
  rintro e w1 ⟨rfl,hb1⟩
  have hb01:=hb0.trans (hb1.mono hb0.size)
  obtain ⟨ad,rfl,hadB,hc0,hc1⟩:=(hS.below hb01).lb (k:=X) HX.out
  go_wp2
  go_ret
  rw[HG.out]
  exact ⟨rfl,hb01⟩
 ·rw[if_neg hx] at hI
  have hG:=hg.2 (by omega)
  rw[hG]
  have HI:=Lib.hid hI
  clear hn hg hle hG hI hx
  go_enter Tryz.func144,Tryz.ntmps144
  go_wp2_with fail
  refine HI.out.mono ?_
  rintro e w1 ⟨rfl,hb1⟩
  go_wp2
  go_ret
  exact ⟨rfl,hb0.trans (hb1.mono hb0.size)⟩
end
section
open Go.RowKit
def nameCh (c:UInt8):Bool:=decide (c.toNat=95) || (decide (97≤c.toNat) && decide (c.toNat≤122)) || (decide (48≤c.toNat) && decide (c.toNat≤57))
def nameB (s:ByteArray):Bool:=decide (1≤s.size) && decide (s.size≤12) && s.data.toList.all nameCh
def nameCs:List UInt8 := [97,98,99,100,101,102,103,104,105,106,107,108,109,110,111,112,113,114,115,116,117,118,119,120,121,122,48,49,50,51,52,53,54,55,56,57,95]
theorem nameCs_has (c:UInt8):nameCs.contains c=nameCh c:=by
 have h:∀n,n<256→nameCs.contains (UInt8.ofNat n)=nameCh (UInt8.ofNat n):=by decide +kernel
 have:=h c.toNat c.toNat_lt
 simpa using this
theorem trim_all (l:List UInt8):(Lib.trimS l nameCs).isEmpty=l.all nameCh:=by
 have hd:∀m:List UInt8,(m.dropWhile (nameCs.contains ·)).isEmpty=m.all nameCh:=by
  intro m
  induction m with
  | nil=>rfl
  | cons a t ih =>
   rw[List.dropWhile_cons,List.all_cons,nameCs_has]
   cases h:nameCh a
   ·rfl
   ·simpa using ih
 have ha:∀m:List UInt8,(m.dropWhile (nameCs.contains ·)).all nameCh=m.all nameCh:=by
  intro m
  induction m with
  | nil=>rfl
  | cons a t ih =>
   rw[List.dropWhile_cons,nameCs_has]
   cases h:nameCh a
   ·rfl
   ·rw[List.all_cons,h];simpa using ih
 unfold Lib.trimS Lib.trimLeftS Lib.trimRightS
 rw[hd,List.all_reverse,ha,List.all_reverse]
theorem str_empty (l:List UInt8):(⟨l.toArray⟩:ByteArray).toList.isEmpty=l.isEmpty:=by rw[Lib.toList_data]
theorem Name_any (s:ByteArray) (w:World) (hs:s.size≤9223372036854775807) :
  Calls Tryz.prog 87 #[.string s] w (Gives w (.bool (nameB s))):=by
 have hT:=Any.strings_Trim_laid Tryz.lays160 (by kernel_rfl) s ⟨nameCs.toArray⟩ w hs (by decide) (ascii_of_all (by decide))
 change Calls Tryz.prog 132 #[.string s,.string ⟨#[97,98,99,100,101,102,103,104,105,106,107,108,109,110,111,112,113,114,115,116,117,118,119,120,121,122,48,49,50,51,52,53,54,55,56,57,95]⟩] w (fun e w'=>e = .returned (.string ⟨(Lib.trimS s.data.toList nameCs).toArray⟩)∧Below w.heap.size w w') at hT
 have he:=str_empty (Lib.trimS s.data.toList nameCs)
 rw[trim_all] at he
 obtain ⟨X,hX⟩:∃X,nameB s=X:=⟨_,rfl⟩
 rw[hX]
 unfold nameB at hX
 generalize (⟨(Lib.trimS s.data.toList nameCs).toArray⟩:ByteArray)=r at hT he
 generalize s.data.toList.all nameCh=b at he hX
 have HT:=Lib.hid hT
 by_cases h1:1≤s.size
 ·by_cases h2:s.size≤12
  ·rw[decide_eq_true h1,decide_eq_true h2] at hX
   have HX:Hid (X=b):=by unfold Hid;rw[←hX];rfl
   have h1' : (1:Int)≤(s.size:Int):=by omega
   have h2' : (s.size:Int)≤12:=by omega
   clear hX hT
   cases b
   all_goals
    go_enter Tryz.func87,Tryz.ntmps87
    go_wp2_with fail
    refine HT.out.mono ?_
    rintro e w1 ⟨rfl,hb⟩
    go_wp2
    go_ret
    rw[HX.out]
    exact ⟨rfl,hb⟩
  ·rw[decide_eq_true h1,decide_eq_false h2] at hX
   have HX:Hid (X=false):=by unfold Hid;rw[←hX];rfl
   have h1' : (1:Int)≤(s.size:Int):=by omega
   have h2' : (12:Int)<(s.size:Int):=by omega
   clear hX hT h2
   go_enter Tryz.func87,Tryz.ntmps87
   go_wp2
   go_ret
   rw[HX.out]
   exact ⟨rfl,Below.refl _ _⟩
 ·rw[decide_eq_false h1] at hX
  have HX:Hid (X=false):=by unfold Hid;rw[←hX];rfl
  have h1' : (s.size:Int)<1:=by omega
  clear hX hT h1
  go_enter Tryz.func87,Tryz.ntmps87
  go_wp2
  go_ret
  rw[HX.out]
  exact ⟨rfl,Below.refl _ _⟩
end
section
open Go.RowKit
def escB (c:UInt8):List UInt8:=if c.toNat<3 then [2,UInt8.ofNat (c.toNat+3)] else [c]
def esc (l:List UInt8):List UInt8:=l.flatMap escB ++ [1]
theorem escB_len (c:UInt8):(escB c).length≤2:=by unfold escB;split<;>simp
theorem esc_at {l:List UInt8}{k:Nat}(h:k<l.length):(l.drop k).flatMap escB=escB l[k]++(l.drop (k+1)).flatMap escB:=by
 rw[List.drop_eq_getElem_cons h]
 rfl
theorem esc_len (l:List UInt8):(esc l).length≤2*l.length+1:=by
 unfold esc
 rw[List.length_append]
 have:(l.flatMap escB).length≤2*l.length:=by
  induction l with
  | nil=>simp
  | cons c t ih=>have:=escB_len c;simp only[List.flatMap_cons,List.length_append,List.length_cons];omega
 rw[List.length_singleton]
 omega
theorem escape_any (base:Nat) (v:Value) (xs:List UInt8) (s:ByteArray) (w:World) (hown:OwnB w base v xs) (hbase:base≤w.heap.size) (hx:xs.length≤1099511627776) (hs:s.size≤1099511627776) :
  Calls Tryz.prog 136 #[v,.string s] w (RetB w base v (xs++esc s.data.toList)):=by
 obtain ⟨Z,hZ⟩:∃Z,s.data.toList.flatMap escB=Z:=⟨_,rfl⟩
 have HZ:=Lib.hid hZ
 have HE:Hid (esc s.data.toList=Z ++ [1]):=by unfold Hid esc;rw[hZ]
 clear hZ
 go_enter Tryz.func136,Tryz.ntmps136
 go_wp2
 go_loopg [0,9] s.size (fun g b i wr=>∃(k:Nat) (X:List UInt8),k+g=s.size∧i = .int .i64 k∧OwnB wr base b X∧X.length≤xs.length+2*k∧Aside (X++(s.data.toList.drop k).flatMap escB=xs++Z)∧Onto w wr v b)
 case atStart=>exact ⟨0,xs,by omega,rfl,hown,by omega,(by show _=_;rw[←HZ.out];rfl),Onto.refl _ _⟩
 case round =>
  obtain ⟨k,X,hk,rfl,hX,hXl,hcat,hon⟩:=hrel
  have hsr:=hon.size
  by_cases hlt:k<s.size
  ·have hat:=Lib.hid (esc_at (l:=s.data.toList) (k:=k) (by simpa using hlt))
   have hsk:Hid (s.data.toList[k]'(by simpa using hlt)=s[k]):=rfl
   rw[hsk.out] at hat
   by_cases h3:s[k].toNat<3
   ·have hT:∀c:UInt8,c=s[k]→Aside ((X ++ [2,UInt8.ofNat (c.toNat+3)])++(s.data.toList.drop (k+1)).flatMap escB=xs++Z):=by
     rintro c rfl
     have h1:=hcat.out
     have h2:=hat.out
     have h4:escB s[k] = [2,UInt8.ofNat (s[k].toNat+3)]:=by unfold escB;rw[if_pos h3]
     show _=_
     rw[←h1,h2,h4,List.append_assoc]
    have hTT:=Lib.hid hT
    clear hcat hat hT
    obtain ⟨b0,hb0⟩:∃b,((s[k].toNat:Int)==0)=b:=⟨_,rfl⟩
    obtain ⟨b1,hb1⟩:∃b,((s[k].toNat:Int)==1)=b:=⟨_,rfl⟩
    obtain ⟨b2,hb2⟩:∃b,((s[k].toNat:Int)==2)=b:=⟨_,rfl⟩
    have hbs:b0=true∨(b0=false∧b1=true)∨(b0=false∧b1=false∧b2=true):=by
     subst hb0;subst hb1;subst hb2
     simp only[beq_iff_eq,beq_eq_false_iff_ne,ne_eq]
     omega
    have hlt3:(s[k].toNat:Int)<3:=by omega
    rcases hbs with rfl|⟨rfl,rfl⟩|⟨rfl,rfl,rfl⟩
    all_goals
     go_wp2_with (at_builtin;refine wpList_append_b rfl (.tmp 22) (.tmp 25) rfl base u0 X (by rfl) (hX.alloc _) (wr.heap.size+1) _ 2 _ [2,UInt8.ofNat (s[k].toNat+3)] (by rfl) rfl (sees_new _ _ _ _ (by simp[bv];omega)) (by simp;omega) (by simp;omega) ?_;intro v1 w1 hown1 hon1)
     go_roundg (s.size - (k+1))
     case measure=>omega
     case rel=>exact ⟨k+1,X ++ [2,UInt8.ofNat (s[k].toNat+3)],by omega,by go_num,hown1,by simp;omega,hTT.out _ rfl,hon.trans ((Onto.of_alloc _ _ _).trans hon1)⟩
   ·have hT:Aside ((X ++ [s[k]])++(s.data.toList.drop (k+1)).flatMap escB=xs++Z):=by
     have h1:=hcat.out
     have h2:=hat.out
     have h4:escB s[k] = [s[k]]:=by unfold escB;rw[if_neg h3]
     show _=_
     rw[←h1,h2,h4,List.append_assoc]
    have hb0:((s[k].toNat:Int)==0)=false:=by rw[beq_eq_false_iff_ne];omega
    have hb1:((s[k].toNat:Int)==1)=false:=by rw[beq_eq_false_iff_ne];omega
    have hb2:((s[k].toNat:Int)==2)=false:=by rw[beq_eq_false_iff_ne];omega
    clear hcat hat h3
    go_wp2_with (at_builtin;refine wpList_append_b rfl (.tmp 27) (.tmp 29) rfl base u0 X (by rfl) (hX.alloc _) (wr.heap.size+1) _ 1 _ [s[k]] (by rfl) rfl (sees_new _ _ _ _ (by simp[bv])) (by simp;omega) (by simp;omega) ?_;intro v1 w1 hown1 hon1)
    go_roundg (s.size - (k+1))
    case measure=>omega
    case rel=>exact ⟨k+1,X ++ [s[k]],by omega,by go_num,hown1,by simp;omega,hT,hon.trans ((Onto.of_alloc _ _ _).trans hon1)⟩
  ·have hE2:Hid (X ++ [1]=xs++esc s.data.toList):=by
    have:=hcat.out
    rw[List.drop_eq_nil_of_le (by simp;omega)] at this
    unfold Hid
    rw[HE.out, ←List.append_assoc, ←this]
    simp
   clear hcat
   go_wp2_with (at_builtin;refine wpList_append_b rfl (.tmp 32) (.tmp 33) rfl base u0 X (by rfl) (hX.alloc _) (wr.heap.size+1) _ 1 _ [1] (by rfl) rfl (sees_new _ _ _ _ (by simp[bv])) (by simp;omega) (by simp;omega) ?_;intro v1 w1 hown1 hon1)
   go_ret
   rw[hE2.out] at hown1
   exact ⟨v1,rfl,hown1,hon.trans ((Onto.of_alloc _ _ _).trans hon1)⟩
theorem Escape_any (s:ByteArray) (w:World) (hs:s.size≤1099511627776) :
  Calls Tryz.prog 138 #[.string s] w (RetB w w.heap.size (.slice none 0 0) (esc s.data.toList)):=by
 have h:=escape_any w.heap.size (.slice none 0 0) [] s w (OwnB.nil _ _) (Nat.le_refl _) (by simp) hs
 rw[List.nil_append] at h
 generalize esc s.data.toList=Z at h ⊢
 have H:=Lib.hid h
 clear h
 go_enter Tryz.func138,Tryz.ntmps138
 go_wp2_with fail
 refine H.out.mono ?_
 rintro e w1 ⟨v,rfl,hown,hon⟩
 go_wp2
 go_ret
 exact ⟨v,rfl,hown,hon⟩
end
section
open Go.RowKit
def cutF:List UInt8→List UInt8→Nat→List UInt8×Nat×Nat
 | [],_,_=>([],0,10)
 | [c],acc,i=>if c.toNat=1 then (acc,i+1,0) else if c.toNat=0 then ([],0,11) else ([],0,10)
 | c :: d :: r,acc,i =>
  if c.toNat=1 then (acc,i+1,0) else if c.toNat=0 then ([],0,11)
  else if c.toNat=2 then (if d.toNat<3∨5<d.toNat then ([],0,11) else cutF r (acc ++ [UInt8.ofNat (d.toNat - 3)]) (i+2))
  else cutF (d :: r) (acc ++ [c]) (i+1)
theorem cut_end {b:List UInt8}{k:Nat}(acc:List UInt8) (h:b.length≤k):cutF (b.drop k) acc k=([],0,10):=by
 rw[List.drop_eq_nil_of_le h]
 rfl
theorem cut_stop {b:List UInt8}{k:Nat}(acc:List UInt8) (h:k<b.length) (hc:b[k].toNat=1):cutF (b.drop k) acc k=(acc,k+1,0):=by
 rw[List.drop_eq_getElem_cons h]
 cases b.drop (k+1)<;>simp only[cutF]<;>rw[if_pos hc]
theorem cut_none {b:List UInt8}{k:Nat}(acc:List UInt8) (h:k<b.length) (hc:b[k].toNat=0):cutF (b.drop k) acc k=([],0,11):=by
 rw[List.drop_eq_getElem_cons h]
 cases b.drop (k+1)<;>simp only[cutF]<;>rw[if_neg (by omega),if_pos hc]
theorem cut_short {b:List UInt8}{k:Nat}(acc:List UInt8) (h:k<b.length) (hc:b[k].toNat=2) (h2:b.length≤k+1):cutF (b.drop k) acc k=([],0,10):=by
 rw[List.drop_eq_getElem_cons h,List.drop_eq_nil_of_le h2]
 simp only[cutF]
 rw[if_neg (by omega),if_neg (by omega)]
theorem cut_bad {b:List UInt8}{k:Nat}(acc:List UInt8) (h:k<b.length) (hc:b[k].toNat=2) (h2:k+1<b.length) (hd:b[k+1].toNat<3∨5<b[k+1].toNat):cutF (b.drop k) acc k=([],0,11):=by
 rw[List.drop_eq_getElem_cons h,List.drop_eq_getElem_cons h2]
 simp only[cutF]
 rw[if_neg (by omega),if_neg (by omega),if_pos hc,if_pos hd]
theorem cut_mark {b:List UInt8}{k:Nat}(acc:List UInt8) (h:k<b.length) (hc:b[k].toNat=2) (h2:k+1<b.length) (hd:¬ (b[k+1].toNat<3∨5<b[k+1].toNat)) :
  cutF (b.drop k) acc k=cutF (b.drop (k+2)) (acc ++ [UInt8.ofNat (b[k+1].toNat - 3)]) (k+2):=by
 rw[List.drop_eq_getElem_cons h,List.drop_eq_getElem_cons h2]
 simp only[cutF]
 rw[if_neg (by omega),if_neg (by omega),if_pos hc,if_neg hd]
theorem cut_byte {b:List UInt8}{k:Nat}(acc:List UInt8) (h:k<b.length) (hc:3≤b[k].toNat) :
  cutF (b.drop k) acc k=cutF (b.drop (k+1)) (acc ++ [b[k]]) (k+1):=by
 rw[List.drop_eq_getElem_cons h]
 cases b.drop (k+1) with
 | nil=>simp only[cutF];rw[if_neg (by omega),if_neg (by omega)]
 | cons d r=>simp only[cutF];rw[if_neg (by omega),if_neg (by omega),if_neg (by omega)]
def cutR (b:List UInt8):List UInt8×Nat×Nat:=cutF b [] 0
theorem bv_get' (l:List UInt8) (k:Nat) (h:k<l.length):(bv l)[k]'(by rw[bv_length];exact h) = .int .u8 ((l[k]).toNat:Int):=by simp[bv]
theorem add_succ' (a:Addr) (k:Nat):a.add (k+1)=⟨a.block,a.off+(k+1),none⟩:=by unfold Addr.add;rw[if_neg (by omega)]
def CutIs (w:World) (r:List UInt8×Nat×Nat) (e:Ending) (w' : World):Prop:=e = .returned (.tuple #[.string (strOf r.1),.int .i64 (r.2.1:Nat),.int .i64 (r.2.2:Nat)])∧Below w.heap.size w w'
theorem cut_out {w w' : World}{r:List UInt8×Nat×Nat}{t:List UInt8}{n e:Nat}(h:r=(t,n,e)) (hb:Below w.heap.size w w') {x:Value}{y z:Int}(hx:x = .string (strOf t)) (hy:y=(n:Int)) (hz:z=(e:Int)) :
  CutIs w r (.returned (.tuple #[x,.int .i64 y,.int .i64 z])) w':=by
 subst h
 subst hx
 subst hy
 subst hz
 exact ⟨rfl,hb⟩
theorem cut_any (A:Option Addr) (n c:Nat) (b:List UInt8) (hn:b.length=n) (w:World) (hS:Sees w w.heap.size A (bv b)) (hlen:n≤1099511627776) :
  Calls Tryz.prog 155 #[.slice A n c] w (CutIs w (cutR b)):=by
 have HN:=Lib.hid hn
 obtain ⟨R,hR⟩:∃R,cutR b=R:=⟨_,rfl⟩
 rw[hR]
 have HR:=Lib.hid hR
 clear hn hR
 go_enter Tryz.func155,Tryz.ntmps155
 go_wp2
 go_loopg [5,6] n (fun g o i wr=>∃(k:Nat) (X:List UInt8),k+g=n∧i = .int .i64 k∧OwnB wr w.heap.size o X∧X.length≤k∧Hid (R=cutF (b.drop k) X k)∧Below w.heap.size w wr)
 case atStart=>exact ⟨0, [],by omega,rfl,OwnB.nil _ _,by simp,HR.out.symm,Below.refl _ _⟩
 case round =>
  obtain ⟨k,X,hk,rfl,hX,hXl,heq,hbr⟩:=hrel
  have hsr:=hbr.size
  by_cases hlt:k<n
  ·have hkl:k<b.length:=by have:=HN.out;omega
   obtain ⟨ad,rfl,hadB,hcell⟩:=(hS.below hbr).at_ (k:=k) (by rw[bv_length];exact hkl)
   rw[bv_get' b k hkl] at hcell
   by_cases h1:b[k].toNat=1
   ·have hF:=Lib.hid (heq.out.trans (cut_stop X hkl h1))
    have e1:((b[k].toNat:Int)==1)=true:=by rw[beq_iff_eq];omega
    generalize b[k]=x at hcell e1
    obtain ⟨Ax,cx,rfl,hcx, -, -,hsX⟩:=hX.open_
    have cv:=run_str wr _ Ax X.length cx X hsX rfl
    clear heq h1
    go_wp2
    go_ret3
    exact cut_out hF.out hbr rfl (by omega) rfl
   ·by_cases h0:b[k].toNat=0
    ·have hF:=Lib.hid (heq.out.trans (cut_none X hkl h0))
     have e1:((b[k].toNat:Int)==1)=false:=by rw[beq_eq_false_iff_ne];omega
     have e0:((b[k].toNat:Int)==0)=true:=by rw[beq_iff_eq];omega
     generalize b[k]=x at hcell e1 e0
     clear heq h1 h0
     go_wp2
     go_ret3
     exact cut_out hF.out hbr rfl rfl rfl
    ·have e1:((b[k].toNat:Int)==1)=false:=by rw[beq_eq_false_iff_ne];omega
     have e0:((b[k].toNat:Int)==0)=false:=by rw[beq_eq_false_iff_ne];omega
     by_cases h2:b[k].toNat=2
     ·have e2:((b[k].toNat:Int)==2)=true:=by rw[beq_iff_eq];omega
      by_cases hend:k+1<n
      ·have hkl2:k+1<b.length:=by have:=HN.out;omega
       have ee:((k:Int)+1==(n:Int))=false:=by rw[beq_eq_false_iff_ne];omega
       obtain ⟨ad2,hA, -,hcell2⟩:=(hS.below hbr).at_ (k:=k+1) (by rw[bv_length];exact hkl2)
       injection hA with hA
       subst hA
       rw[bv_get' b (k+1) hkl2,add_succ'] at hcell2
       by_cases hd:b[k+1].toNat<3∨5<b[k+1].toNat
       ·have hF:=Lib.hid (heq.out.trans (cut_bad X hkl h2 hkl2 hd))
        generalize b[k]=x at hcell e1 e0 e2
        generalize b[k+1]=y at hcell2 hd
        clear heq h1 h0 h2
        by_cases hd3:y.toNat<3
        ·have d1:(y.toNat:Int)<3:=by omega
         clear hd
         go_wp2
         go_ret3
         exact cut_out hF.out hbr rfl rfl rfl
        ·have d1:(3:Int)≤(y.toNat:Int):=by omega
         have d2:(5:Int)<(y.toNat:Int):=by omega
         clear hd hd3
         go_wp2
         go_ret3
         exact cut_out hF.out hbr rfl rfl rfl
       ·have hT:=Lib.hid (heq.out.trans (cut_mark X hkl h2 hkl2 hd))
        generalize b[k]=x at hcell e1 e0 e2
        have d1:(3:Int)≤(b[k+1].toNat:Int):=by omega
        have d2:(b[k+1].toNat:Int)≤5:=by omega
        have hsub:IntKind.u8.wrap ((b[k+1].toNat:Int) - 3)=(b[k+1].toNat:Int) - 3:=by rw[IntKind.wrap_u8];omega
        have hnew:Hid ((b[k+1].toNat:Int) - 3=((UInt8.ofNat (b[k+1].toNat - 3)).toNat:Int)):=by unfold Hid;rw[u8_nat _ (by omega)];omega
        generalize b[k+1]=y at hcell2 d1 d2 hT hsub hnew
        clear heq h1 h0 h2 hd
        go_wp2_with (at_builtin;refine wpList_append_b rfl (.tmp 52) (.tmp 58) rfl w.heap.size u5 X (by rfl) (hX.alloc _) (wr.heap.size+1) _ 1 _ [UInt8.ofNat (y.toNat - 3)] (by rfl) rfl (sees_new _ _ _ _ (by simp only[bv,List.map_cons,List.map_nil];rw[←hnew.out])) (by simp;omega) (by simp;omega) ?_;intro v1 w1 hown1 hon1)
        go_roundg (n - (k+2))
        case measure=>omega
        case rel=>exact ⟨k+2,X ++ [UInt8.ofNat (y.toNat - 3)],by omega,by go_num,hown1,by simp;omega,hT,hbr.trans (((Below.refl _ _).alloc hsr _).trans (hon1.below (by simp;omega) hX.block))⟩
      ·have hF:=Lib.hid (heq.out.trans (cut_short X hkl h2 (by have:=HN.out;omega)))
       have ee:((k:Int)+1==(n:Int))=true:=by rw[beq_iff_eq];omega
       generalize b[k]=x at hcell e1 e0 e2
       clear heq h1 h0 h2 hend
       go_wp2
       go_ret3
       exact cut_out hF.out hbr rfl rfl rfl
     ·have hT:=Lib.hid (heq.out.trans (cut_byte X hkl (by omega)))
      have e2:((b[k].toNat:Int)==2)=false:=by rw[beq_eq_false_iff_ne];omega
      generalize b[k]=x at hcell e1 e0 e2 hT
      clear heq h1 h0 h2
      go_wp2_with (at_builtin;refine wpList_append_b rfl (.tmp 17) (.tmp 22) rfl w.heap.size u5 X (by rfl) (hX.alloc _) (wr.heap.size+1) _ 1 _ [x] (by rfl) rfl (sees_new _ _ _ _ (by simp[bv])) (by simp;omega) (by simp;omega) ?_;intro v1 w1 hown1 hon1)
      go_roundg (n - (k+1))
      case measure=>omega
      case rel=>exact ⟨k+1,X ++ [x],by omega,by go_num,hown1,by simp;omega,hT,hbr.trans (((Below.refl _ _).alloc hsr _).trans (hon1.below (by simp;omega) hX.block))⟩
  ·have hF:=Lib.hid (heq.out.trans (cut_end X (by have:=HN.out;omega)))
   clear heq
   go_wp2
   go_ret3
   exact cut_out hF.out hbr rfl rfl rfl
theorem cutF_le:∀(l acc:List UInt8) (i:Nat),(cutF l acc i).2.1≤i+l.length∧((cutF l acc i).2.2≠0→(cutF l acc i).1 = []∧(cutF l acc i).2.1=0)
 | [],_,_=>by simp[cutF]
 | [c],acc,i=>by
  simp only[cutF]
  split
  ·simp
  ·split<;>simp
 | c :: d :: r,acc,i=>by
  have h1:=cutF_le r (acc ++ [UInt8.ofNat (d.toNat - 3)]) (i+2)
  have h2:=cutF_le (d :: r) (acc ++ [c]) (i+1)
  simp only[cutF,List.length_cons] at *
  split
  ·simp
  ·split
   ·simp
   ·split
    ·split
     ·simp
     ·exact ⟨by omega,h1.2⟩
    ·exact ⟨by omega,h2.2⟩
def CutOut (w:World) (b:List UInt8) (r:List UInt8×Nat×Nat) (e:Ending) (w' : World):Prop :=
 ∃v,e = .returned (.tuple #[.string (strOf r.1),v,.int .i64 (r.2.2:Nat)])∧OwnB w' w.heap.size v (if r.2.2=0 then b.drop r.2.1 else [])∧Below w.heap.size w w'
theorem Cut_any (A:Option Addr) (n c:Nat) (b:List UInt8) (hn:b.length=n) (hnc:n≤c) (w:World) (hS:Sees w w.heap.size A (bv b)) (hlen:n≤1099511627776) :
  Calls Tryz.prog 111 #[.slice A n c] w (CutOut w b (cutR b)):=by
 have hC:=cut_any A n c b hn w hS hlen
 have hle:=cutF_le b [] 0
 change (cutR b).2.1≤_∧((cutR b).2.2≠0→(cutR b).1 = []∧(cutR b).2.1=0) at hle
 obtain ⟨t,k,e,hR⟩:∃t k e,cutR b=(t,k,e):=⟨_,_,_,rfl⟩
 rw[hR] at hC hle ⊢
 have HC:=Lib.hid hC
 have HN:=Lib.hid hn
 simp only[Nat.zero_add] at hle
 by_cases he:e=0
 ·subst he
  have hkn:k≤n:=by have:=hle.1;omega
  have g1:(k:Int)≤(n:Int):=by omega
  have g2:(k:Int)≤(c:Int):=by omega
  have hHH:=Lib.hid hnc
  clear hC hle hR hn
  go_enter Tryz.func111,Tryz.ntmps111
  go_wp2_with fail
  refine HC.out.mono ?_
  rintro en w1 ⟨rfl,hb1⟩
  have hS1:=(hS.below hb1).more hb1.size
  go_wp2_with fail
  all_goals
   refine (bytesClone_any _ _ _ (b.drop k) (by rw[List.length_drop,HN.out]) _ (by rw[bv_drop];first|exact hS1.cut' k|exact Sees.cut0 _ _ _ (by rw[bv_length];have:=HN.out;omega)) (by rw[List.length_drop];have:=HN.out;omega)).mono ?_
   rintro en w2 ⟨v1,rfl,hown,hon⟩
   go_wp2_with fail
   go_ret3
   exact ⟨v1,rfl,hown.base_le hb1.size,hb1.trans (hon.below_nil.mono hb1.size)⟩
 ·have hez:((e:Int) != 0)=true:=by rw[bne_iff_ne];omega
  obtain ⟨ht,hk⟩:=hle.2 he
  subst ht
  subst hk
  have HE:Hid ((if e=0 then b.drop 0 else []) = []):=if_neg he
  clear hC hle hR hn he
  go_enter Tryz.func111,Tryz.ntmps111
  go_wp2_with fail
  refine HC.out.mono ?_
  rintro en w1 ⟨rfl,hb1⟩
  go_wp2_with fail
  go_ret3
  unfold CutOut
  simp only
  rw[HE.out]
  exact ⟨_,rfl,OwnB.nil _ _,hb1⟩
end
end Go.Proofs.YtalmnodgjjcefaaGreatDoor
