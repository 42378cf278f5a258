/- Several texts in one: Str Words ItCmp ItCommon ItRefCommon Rises ItRises Ref9 ItSeek ItSeek2 ItCheck ItPack Concat ItNumber RowOwn ItSt ItUnpackPlain ItEq ItUnpack Rows2 ItSplit ItCommonPlain ItBackPlain FrPlain2. -/
import Derived.Test.YtalmnodgjjcefaaGreatDoorJLow
import Derived.Lib.SlBytesConst
import Derived.Lib.UnsafeStr
import Derived.Lib.BytesEntry
import Derived.Laws.Externs
import Derived.Sort.Walk0
import Derived.Lib.AppendZeros
import Derived.StillTailTactics
import Derived.Test.YtalmnodgjjcefaaGreatDoorJFrm
set_option maxRecDepth 100000
set_option maxHeartbeats 3200000
namespace Go.Proofs.YtalmnodgjjcefaaGreatDoor
section
open Go.RowKit
def strOf (l:List UInt8):ByteArray:=⟨l.toArray⟩
theorem run_str (w:World) (B:Nat) (A:Option Addr) (n c:Nat) (l:List UInt8) (hs:Sees w B A (bv l)) (hn:l.length=n) :
  (convert 48 9 (.slice A n c)).run Tryz.prog w = .ok (.string (strOf l)) w:=by
 subst hn
 cases A with
 | none =>
  rcases hs.out with h|⟨ad,h,_⟩
  ·have:l = []:=by simpa[bv] using h
   subst this
   exact run_convert_bytes_nil w _ _ Tryz.underlying48 Tryz.underlying5 _ _ _ Tryz.underlying9
  ·cases h
 | some a =>
  have hc:∀j u,(bv l)[j]?=some u→w.cell? (a.add j)=some u:=by
   intro j u hu
   rcases hs.out with h|⟨ad,h,_,hc⟩
   ·rw[h] at hu;simp at hu
   ·injection h with h
    subst h
    exact hc j u hu
  have hl:=run_loadCells_list (P:=Tryz.prog) w a (bv l) hc
  rw[run_convert_bytes_string w 48 9 5 _ l.length c Tryz.underlying48 Tryz.underlying5 Tryz.underlying9]
  have hb:bv l=(l.map fun b=>(b.toNat:Int)).map (Value.int .u8):=by simp[bv]
  rw[hb,List.length_map,List.length_map] at hl
  rw[run_bytesToString w _ l.length c _ hl,foldl_push_bytes]
  have hm:l.map ((fun n:Int=>UInt8.ofNat n.toNat) ∘ fun b:UInt8=>(b.toNat:Int))=l:=by
   have:((fun n:Int=>UInt8.ofNat n.toNat) ∘ fun b:UInt8=>(b.toNat:Int))=id:=by funext b;simp
   rw[this,List.map_id]
  rw[List.map_map,hm]
  simp[strOf,ByteArray.empty,ByteArray.emptyWithCapacity]
  rfl
theorem strOf_toList (l:List UInt8):(strOf l).toList=l:=by rw[Lib.toList_data];rfl
end
section
open Go.RowKit
abbrev Item:=List UInt8
structure Sees2 (w:World) (B:Nat) (A:Option Addr) (ls:List (List UInt8)):Prop where
 out:∀i (hi:i<ls.length),∃ad Ai ci,A=some ad∧ad.block<B∧w.cell? (ad.add i)=some (.slice Ai (ls[i]).length ci)∧(ls[i]).length≤ci∧Sees w B Ai (bv ls[i])
theorem Sees2.below {w w' : World}{B:Nat}{A:Option Addr}{ls:List (List UInt8)}(h:Sees2 w B A ls) (hb:Below B w w'):Sees2 w' B A ls :=
 ⟨fun i hi=>by
  obtain ⟨ad,Ai,ci,h1,h2,h3,h4,h5⟩:=h.out i hi
  exact ⟨ad,Ai,ci,h1,h2,(hb.cell (by rw[add_block];exact h2)).trans h3,h4,h5.below hb⟩⟩
end
section
open Go.RowKit
def ahead (l r:List UInt8):Bool:=Op.bytesLess l r
theorem ahead_eq (l r:List UInt8):ahead l r=decide (l<r):=Go.Proofs.bytesLess_eq l r
theorem cmp_lt:∀(l r:List UInt8),Lib.compareBytes l r<0↔l<r
 | [], []=>by simp[Lib.compareBytes]
 | [],_ :: _=>by simp[Lib.compareBytes]
 | _ :: _, []=>by simp[Lib.compareBytes]
 | a :: s,b :: t=>by
  have ih:=cmp_lt s t
  unfold Lib.compareBytes
  rw[List.cons_lt_cons_iff]
  by_cases h:a<b
  ·simp[h]
  ·by_cases h2:b<a
   ·have:¬ a=b:=by rintro rfl;exact h h2
    simp[h,h2,this]
   ·have:a=b:=UInt8.le_antisymm (UInt8.not_lt.1 h2) (UInt8.not_lt.1 h)
    simp[this,ih]
theorem cmp_neg (l r:List UInt8):decide (Lib.compareBytes l r<0)=ahead l r:=by rw[ahead_eq,decide_eq_decide];exact cmp_lt l r
theorem cmp_pos (l r:List UInt8):decide (0≤Lib.compareBytes l r) = !ahead l r:=by
 rw[←cmp_neg, ←decide_not,decide_eq_decide];omega
theorem cmp_self:∀l:List UInt8,Lib.compareBytes l l=0
 | []=>rfl
 | a :: s=>by unfold Lib.compareBytes;simp[UInt8.lt_irrefl,cmp_self s]
theorem cmp_zero:∀(l r:List UInt8),Lib.compareBytes l r=0→l=r
 | [], [],_=>rfl
 | [],_ :: _,h=>by simp[Lib.compareBytes] at h
 | _ :: _, [],h=>by simp[Lib.compareBytes] at h
 | a :: s,b :: t,h=>by
  unfold Lib.compareBytes at h
  by_cases h1:a<b
  ·simp[h1] at h
  ·by_cases h2:b<a
   ·simp[h1,h2] at h
   ·have:a=b:=UInt8.le_antisymm (UInt8.not_lt.1 h2) (UInt8.not_lt.1 h1)
    subst this
    simp only[h1,if_false] at h
    rw[cmp_zero s t h]
theorem ahead_irrefl (l:List UInt8):ahead l l=false:=by rw[ahead_eq,decide_eq_false_iff_not];exact List.lt_irrefl l
theorem ahead_trans {a b c:List UInt8}(h:ahead a b=true) (k:ahead b c=true):ahead a c=true:=by
 rw[ahead_eq,decide_eq_true_eq] at *
 exact List.lt_trans h k
theorem ahead_tri {a b:List UInt8}(h:ahead a b=false) (k:ahead b a=false):a=b:=by
 rw[ahead_eq,decide_eq_false_iff_not] at *
 exact List.le_antisymm (List.not_lt.1 k) (List.not_lt.1 h)
theorem run_bytesOf (w:World) (B:Nat) (A:Option Addr) (n c:Nat) (l:List UInt8) (hs:Sees w B A (bv l)) (hn:l.length=n) :
  (Extern.Bytes.bytesOf (.slice A n c)).run Tryz.prog w = .ok (strOf l) w:=by
 subst hn
 cases A with
 | none =>
  rcases hs.out with h|⟨ad,h,_⟩
  ·have:l = []:=by simpa[bv] using h
   subst this
   rfl
  ·cases h
 | some a =>
  have hc:∀j u,(bv l)[j]?=some u→w.cell? (a.add j)=some u:=by
   intro j u hu
   rcases hs.out with h|⟨ad,h,_,hc⟩
   ·rw[h] at hu;simp at hu
   ·injection h with h
    subst h
    exact hc j u hu
  have hl:=Lib.run_loadBytesX (P:=Tryz.prog) w (l.map fun b=>(b.toNat:Int)) a .empty (fun j x hj=>hc j _ (by
   rw[List.getElem?_map] at hj
   simp only[bv,List.getElem?_map]
   cases hlj:l[j]? with
   | none=>rw[hlj] at hj;cases hj
   | some y=>rw[hlj] at hj;simp only[Option.map_some,Option.some.injEq] at hj ⊢;rw[hj]))
  rw[List.length_map] at hl
  show (Extern.Bytes.loadBytes a l.length .empty).run Tryz.prog w=_
  rw[hl]
  congr 1
  apply ByteArray.ext
  have hm:Lib.bytesOf (l.map fun b=>(b.toNat:Int))=l:=by
   simp[Lib.bytesOf,List.map_map,Function.comp_def]
  rw[hm]
  simp[strOf,ByteArray.empty,ByteArray.emptyWithCapacity]
  rfl
theorem run_compareSlices (w:World) (B1 B2:Nat) (A B:Option Addr) (n c m d:Nat) (l r:List UInt8) (hs:Sees w B1 A (bv l)) (hs2:Sees w B2 B (bv r)) (hn:l.length=n) (hm:r.length=m) :
  (Extern.BytealgCompare.compare #[.slice A n c,.slice B m d]).run Tryz.prog w = .ok (.int .i64 (Lib.compareBytes l r)) w:=by
 change Sem.run Tryz.prog (do pure (goInt (Extern.BytealgCompare.cmp (←Extern.Bytes.bytesOf (.slice A n c)) (←Extern.Bytes.bytesOf (.slice B m d))))) w=_
 simp only[Sem.run_bind,Sem.run_pure,run_bytesOf w B1 A n c l hs hn,run_bytesOf w B2 B m d r hs2 hm,Result.andThen]
 rw[Lib.cmp_eq]
 rfl
theorem Compare_any (A B:Option Addr) (n m c d:Nat) (l r:List UInt8) (hn:l.length=n) (hm:r.length=m) (w:World) (hS:Sees w w.heap.size A (bv l)) (hS2:Sees w w.heap.size B (bv r)) :
  Calls Tryz.prog 134 #[.slice A n c,.slice B m d] w fun e w'=>e = .returned (.int .i64 (Lib.compareBytes l r))∧w=w':=by
 go_enter Tryz.func134,Tryz.ntmps134
 go_wp2
 rw[run_callFunc_extern Tryz.func191 (by kernel_rfl) (by kernel_rfl) (by kernel_rfl) (e:=Extern.BytealgCompare.compare) (by kernel_rfl),run_compareSlices w _ _ A B n c m d l r hS hS2 hn hm]
 simp only[Result.andThen]
 rw[Oper.upon_value]
 go_wp2
 go_ret
 exact ⟨rfl,rfl⟩
end
section
open Go.RowKit
def common:List UInt8→List UInt8→Nat
 | a :: s,b :: t=>if a=b then common s t+1 else 0
 | _,_=>0
theorem common_end {l r:List UInt8}{k:Nat}(h:l.length≤k∨r.length≤k):common (l.drop k) (r.drop k)=0:=by
 rcases h with h|h
 ·rw[List.drop_eq_nil_of_le h];rfl
 ·rw[List.drop_eq_nil_of_le h];cases l.drop k<;>rfl
theorem common_at {l r:List UInt8}{k:Nat}(h1:k<l.length) (h2:k<r.length):common (l.drop k) (r.drop k)=if l[k]=r[k] then common (l.drop (k+1)) (r.drop (k+1))+1 else 0:=by
 rw[List.drop_eq_getElem_cons h1,List.drop_eq_getElem_cons h2]
 rfl
theorem common_le:∀(l r:List UInt8),common l r≤l.length∧common l r≤r.length
 | a :: s,b :: t=>by
  have ih:=common_le s t
  simp only[common,List.length_cons]
  split<;>omega
 | [],r=>by simp[common]
 | a :: s, []=>by simp[common]
theorem Common_any (A B:Option Addr) (n m c d:Nat) (l r:List UInt8) (hn:l.length=n) (hm:r.length=m) (w:World) (hS:Sees w w.heap.size A (bv l)) (hS2:Sees w w.heap.size B (bv r)) (hlen:l.length≤1099511627776) (hlen2:r.length≤1099511627776) :
  Calls Tryz.prog 206 #[.slice A n c,.slice B m d] w fun e w'=>e = .returned (.int .i64 (common l r:Nat))∧∃q,w'=w.drewN q:=by
 have hnb:n≤1099511627776:=by omega
 have hmb:m≤1099511627776:=by omega
 obtain ⟨X,hX⟩:∃X,common l r=X:=⟨_,rfl⟩
 have hXl:=common_le l r
 rw[hX] at hXl ⊢
 have HX:=Lib.hid hX
 have HL:=Lib.hid hXl
 have hl:=Lib.hid hn
 have hr:=Lib.hid hm
 clear hn hm hX hXl hlen hlen2
 go_enter Tryz.func206,Tryz.ntmps206
 go_wp2
 go_loopg [11] n (fun g i wr=>∃k:Nat,k+g=n∧k≤m∧i = .int .i64 k∧Hid (X=k+common (l.drop k) (r.drop k))∧∃q,wr=w.drewN q)
 case atStart=>exact ⟨0,by omega,by omega,rfl,by unfold Hid;rw[←HX.out];simp,0,rfl⟩
 case round =>
  obtain ⟨k,hk,hkm,rfl,heq,q,rfl⟩:=hrel
  by_cases hlt:k<n∧k<m
  ·obtain ⟨hlt1,hlt2⟩:=hlt
   obtain ⟨ad,rfl,hb,hcell⟩:=hS.at_ (k:=k) (by rw[bv_length];have:=hl.out;have:=hr.out;omega)
   obtain ⟨ad2,rfl,hb2,hcell2⟩:=hS2.at_ (k:=k) (by rw[bv_length];have:=hl.out;have:=hr.out;omega)
   have hstep:=Lib.hid (heq.out.trans (congrArg (k + ·) (common_at (l:=l) (r:=r) (k:=k) (by have:=hl.out;omega) (by have:=hr.out;omega))))
   rw[bv_get l k (by have:=hl.out;omega)] at hcell
   rw[bv_get r k (by have:=hr.out;omega)] at hcell2
   generalize l[k]'(by have:=hl.out;omega)=x at hcell hstep
   generalize r[k]'(by have:=hr.out;omega)=y at hcell2 hstep
   clear heq
   by_cases hxy:x=y
   ·subst hxy
    have hT:Hid (X=(k+1)+common (l.drop (k+1)) (r.drop (k+1))):=by have:=hstep.out;rw[if_pos rfl] at this;unfold Hid;omega
    clear hstep
    go_wp2
    go_quiet (fail)
    go_wp2
    go_roundg (n - (k+1))
    case measure=>omega
    case rel=>exact ⟨k+1,by omega,by omega,by go_num,hT,_,rfl⟩
   ·have hx1:((x.toNat:Int) != (y.toNat:Int))=true:=by rw[bne_iff_ne];exact fun e=>hxy (UInt8.toNat_inj.1 (by omega))
    have HF:Hid (X=k):=by have:=hstep.out;rw[if_neg hxy] at this;unfold Hid;omega
    clear hxy hstep
    go_wp2
    go_quiet (fail)
    go_wp2
    go_ret
    rw[HF.out]
    exact ⟨rfl,_,World.drewN_drewN _ _ _⟩
  ·have HF:Hid (X=k):=by have:=heq.out;rw[common_end (by have:=hl.out;have:=hr.out;omega)] at this;unfold Hid;omega
   clear heq
   go_wp2
   go_ret
   rw[HF.out]
   refine ⟨?_,q,rfl⟩
   have hmin:min (n:Int) (m:Int)=(k:Int):=by omega
   show Ending.returned (.int .i64 (min (n:Int) (m:Int)))=_
   rw[hmin]
end
section
open Go.RowKit
def risesB:List (List UInt8)→Bool
 | a :: b :: t=>ahead a b && risesB (b :: t)
 | _=>true
theorem rises_end {ls:List (List UInt8)}{k:Nat}(h:ls.length≤k+1):risesB (ls.drop k)=true:=by
 by_cases hk:k<ls.length
 ·rw[List.drop_eq_getElem_cons hk,List.drop_eq_nil_of_le (by omega)];rfl
 ·rw[List.drop_eq_nil_of_le (by omega)];rfl
theorem rises_at {ls:List (List UInt8)}{k:Nat}(h:k+1<ls.length):risesB (ls.drop k)=(ahead ls[k] ls[k+1] && risesB (ls.drop (k+1))):=by
 rw[List.drop_eq_getElem_cons (i:=k) (by omega),List.drop_eq_getElem_cons (i:=k+1) h]
 rfl
def BoolIs (w:World) (b:Bool) (e:Ending) (w' : World):Prop:=e = .returned (.bool b)∧∃q,w'=w.drewN q
def cmpFn:Value := .func (.func 134) #[] #[]
end
section
open Go.RowKit
theorem rises_any (A:Option Addr) (n c:Nat) (ls:List (List UInt8)) (hn:ls.length=n) (w:World) (hS:Sees2 w w.heap.size A ls) (hlen:n≤1099511627776) :
  Calls Tryz.prog 242 #[.slice A n c,cmpFn] w (BoolIs w (risesB ls)):=by
 unfold cmpFn
 obtain ⟨X,hX⟩:∃X,risesB ls=X:=⟨_,rfl⟩
 rw[hX]
 have HX:=Lib.hid hX
 have HN:=Lib.hid hn
 clear hn hX
 by_cases hn0:n=0
 ·subst hn0
  have HF:Hid (X=true):=HX.out.symm.trans (rises_end (k:=0) (by have:=HN.out;omega))
  clear HX
  go_enter Tryz.func242,Tryz.ntmps242
  go_wp2
  go_loop [5] (fun i=>i = .int .i64 1) (fun _=>0)
  case atStart=>rfl
  case round =>
   subst hrel
   go_wp2
   go_ret
   unfold BoolIs
   rw[HF.out]
   exact ⟨rfl,0,rfl⟩
 go_enter Tryz.func242,Tryz.ntmps242
 go_wp2
 go_loopg [5] n (fun g i wr=>∃k:Nat,k+g=n+1∧1≤k∧i = .int .i64 k∧Hid (X=risesB (ls.drop (k - 1)))∧∃q,wr=w.drewN q)
 case atStart=>exact ⟨1,by omega,by omega,rfl,HX.out.symm,0,rfl⟩
 case round =>
  obtain ⟨k,hk,hk1,rfl,heq,q,rfl⟩:=hrel
  by_cases hlt:k<n
  ·obtain ⟨j,hj⟩:∃j,k - 1=j:=⟨_,rfl⟩
   have hjn:j<n:=by omega
   have hjk:k=j+1:=by omega
   obtain ⟨ad,Ai,ci,rfl,hadB,hcell,hci,hsee⟩:=hS.out j (by have:=HN.out;omega)
   obtain ⟨ad2,Aj,cj,he2,hadB2,hcell2,hcj,hsee2⟩:=hS.out k (by have:=HN.out;omega)
   injection he2 with he2
   subst he2
   rw[hj] at heq
   have hstep:Hid (X=(ahead (ls[j]'(by have:=HN.out;omega)) (ls[k]'(by have:=HN.out;omega)) && risesB (ls.drop k))):=by
    have:=heq.out.trans (rises_at (ls:=ls) (k:=j) (by have:=HN.out;omega))
    simp only[hjk]
    exact this
   clear heq
   obtain ⟨L,hL⟩:∃L,ls[j]'(by have:=HN.out;omega)=L:=⟨_,rfl⟩
   obtain ⟨R,hR⟩:∃R,ls[k]'(by have:=HN.out;omega)=R:=⟨_,rfl⟩
   rw[hL] at hcell hci hsee hstep
   rw[hR] at hcell2 hcj hsee2 hstep
   have hC:=fun p=>Lib.hid (Compare_any Ai Aj L.length R.length ci cj L R rfl rfl (w.drewN (q+p)) (hsee.drewN _) (hsee2.drewN _))
   clear hL hR
   have hsub:IntKind.i64.wrap ((k:Int) - 1)=(j:Int):=by rw[IntKind.wrap_i64];omega
   clear hj hjk
   by_cases hah:ahead L R=true
   ·have hT:Hid (X=risesB (ls.drop (k+1 - 1))):=by have:=hstep.out;rw[hah,Bool.true_and] at this;exact this
    have hcm:=Lib.hid hah
    clear hstep hah
    have hlt0:Lib.compareBytes L R<0:=(cmp_lt L R).2 (by have:=hcm.out;rw[ahead_eq,decide_eq_true_eq] at this;exact this)
    generalize Lib.compareBytes L R=z at hC hlt0
    go_wp2
    go_quiet ((refine (hC _).out.mono ?_;rintro e w1 ⟨rfl,rfl⟩;exact ⟨rfl,_,rfl⟩))
    go_wp2
    go_roundg (n - k)
    case measure=>omega
    case rel=>exact ⟨k+1,by omega,by omega,by go_num,hT,_,rfl⟩
   ·rw[Bool.not_eq_true] at hah
    have HF:Hid (X=false):=by have:=hstep.out;rw[hah,Bool.false_and] at this;exact this
    have hge0:0≤Lib.compareBytes L R:=by have:=cmp_pos L R;rw[hah] at this;simpa using this
    clear hstep hah
    generalize Lib.compareBytes L R=z at hC hge0
    go_wp2
    go_quiet ((refine (hC _).out.mono ?_;rintro e w1 ⟨rfl,rfl⟩;exact ⟨rfl,_,rfl⟩))
    go_wp2
    go_ret
    unfold BoolIs
    rw[HF.out]
    exact ⟨rfl,_,World.drewN_drewN _ _ _⟩
  ·have HF:Hid (X=true):=heq.out.trans (rises_end (by have:=HN.out;omega))
   clear heq
   go_wp2
   go_ret
   unfold BoolIs
   rw[HF.out]
   exact ⟨rfl,q,rfl⟩
end
section
open Go.RowKit
def NumIs (w:World) (k:Nat) (e:Ending) (w' : World):Prop:=e = .returned (.int .i64 (k:Nat))∧∃q,w'=w.drewN q
end
section
open Go.RowKit
def firstNot (x:List UInt8):List (List UInt8)→Nat
 | a :: t=>if ahead a x then firstNot x t+1 else 0
 | []=>0
theorem firstNot_eq {x : List UInt8} : ∀ {ls : List (List UInt8)} {k : Nat}, k ≤ ls.length → (∀ j (h : j < ls.length), j < k → ahead ls[j] x = true) → (∀ h : k < ls.length, ahead ls[k] x = false) → firstNot x ls = k
  | [], k, h, _, _ => by have : k = 0 := by simpa using h
                         subst this; rfl
  | a :: t, 0, _, _, h2 => by
    have := h2 (by simp)
    simp only [List.getElem_cons_zero] at this
    simp [firstNot, this]
  | a :: t, k + 1, h, h1, h2 => by
    have h0 := h1 0 (by simp) (by omega)
    simp only [List.getElem_cons_zero] at h0
    have ih := firstNot_eq (ls := t) (k := k) (by simpa using h) (fun j hj hjk => by have := h1 (j + 1) (by simpa using hj) (by omega); simpa using this) (fun hk => by have := h2 (by simpa using hk); simpa using this)
    simp [firstNot, h0, ih]
theorem firstNot_le (x:List UInt8):∀ls:List (List UInt8),firstNot x ls≤ls.length
 | []=>by simp[firstNot]
 | a :: t=>by have:=firstNot_le x t;simp only[firstNot,List.length_cons];split<;>omega
theorem firstNot_lt {x:List UInt8} : ∀ {ls:List (List UInt8)}{j:Nat}(h:j<ls.length),j<firstNot x ls→ahead ls[j] x=true
 | a :: t,0,_,h=>by
  simp only[firstNot] at h
  split at h
  ·assumption
  ·omega
 | a :: t,j+1,hj,h=>by
  simp only[firstNot] at h
  split at h
  ·simpa using firstNot_lt (ls:=t) (j:=j) (by simpa using hj) (by omega)
  ·omega
theorem rises_pair:∀ {ls:List (List UInt8)}(_:risesB ls=true) {i j:Nat}(hi:i<ls.length) (hj:j<ls.length),i<j→ahead ls[i] ls[j]=true
 | [a],_,i,j,hi,hj,hij=>by simp at hi hj;omega
 | a :: b :: t,h,i,j,hi,hj,hij=>by
  simp only[risesB,Bool.and_eq_true] at h
  have ih := @rises_pair (b :: t) h.2
  match i,j,hij with
  | 0,1,_=>simpa using h.1
  | 0,j+2,_=>exact ahead_trans h.1 (ih (i:=0) (j:=j+1) (by simp) (by simpa using hj) (by omega))
  | i+1,j+1,_=>simpa using ih (i:=i) (j:=j) (by simpa using hi) (by simpa using hj) (by omega)
end
section
open Go.RowKit
def SeekIs (w:World) (ls:List (List UInt8)) (x:List UInt8) (e:Ending) (w' : World):Prop:=w'=w∧∃k:Nat,k≤ls.length∧(risesB ls=true→k=firstNot x ls)∧e = .returned (.int .i64 (k:Nat))
def Halved (ls:List (List UInt8)) (x:List UInt8) (i j:Nat):Prop :=
 risesB ls=true→(∀a (h:a<ls.length),a<i→ahead ls[a] x=true)∧(∀a (h:a<ls.length),j≤a→ahead ls[a] x=false)
theorem Halved.lo {ls:List (List UInt8)}{x:List UInt8}{i j k:Nat}(h:Halved ls x i j) (hk:k<ls.length) (e:ahead ls[k] x=true):Halved ls x (k+1) j:=fun hr=>by
 refine ⟨fun a ha hak => ?_,(h hr).2⟩
 by_cases hak2:a=k
 ·subst hak2;exact e
 ·exact ahead_trans (rises_pair hr ha hk (by omega)) e
theorem Halved.hi {ls:List (List UInt8)}{x:List UInt8}{i j k:Nat}(h:Halved ls x i j) (hk:k<ls.length) (e:ahead ls[k] x=false):Halved ls x i k:=fun hr=>by
 refine ⟨(h hr).1,fun a ha hak => ?_⟩
 by_cases hak2:a=k
 ·subst hak2;exact e
 ·have h1:=rises_pair hr hk ha (by omega)
  rw[←Bool.not_eq_true]
  intro h2
  rw[ahead_trans h1 h2] at e
  cases e
theorem Halved.done {ls:List (List UInt8)}{x:List UInt8}{i:Nat}(h:Halved ls x i i) (hi:i≤ls.length) (hr:risesB ls=true):i=firstNot x ls :=
 (firstNot_eq hi (h hr).1 (fun hk=>(h hr).2 i hk (Nat.le_refl _))).symm
theorem seek_any (A B:Option Addr) (n c m d:Nat) (ls:List (List UInt8)) (x:List UInt8) (hn:ls.length=n) (hm:x.length=m) (w:World) (hS:Sees2 w w.heap.size A ls) (hS2:Sees w w.heap.size B (bv x)) (hlen:n≤1099511627776) :
  Calls Tryz.prog 250 #[.slice A n c,.slice B m d,cmpFn] w (SeekIs w ls x):=by
 unfold cmpFn
 have HN:=Lib.hid hn
 have HM:=Lib.hid hm
 clear hn hm
 go_enter Tryz.func250,Tryz.ntmps250
 go_wp2
 go_loopg [7,8] n (fun g f t wr=>∃i j:Nat,i≤j∧j≤n∧j≤i+g∧f = .int .i64 i∧t = .int .i64 j∧Hid (Halved ls x i j)∧wr=w)
 case atStart=>exact ⟨0,n,by omega,by omega,by omega,rfl,rfl,(fun _=>⟨fun a _ ha=>absurd ha (by omega),fun a ha h=>absurd ha (by have:=HN.out;omega)⟩),rfl⟩
 case round =>
  obtain ⟨i,j,hij,hjn,hg,rfl,rfl,heq,rfl⟩:=hrel
  by_cases hlt:i<j
  ·obtain ⟨k,hk⟩:∃k,(i+j) / 2=k:=⟨_,rfl⟩
   have hki:i≤k:=by omega
   have hkj:k<j:=by omega
   have hq:((i:Int)+(j:Int)).tdiv 2=(k:Int):=by rw[Int.tdiv_eq_ediv_of_nonneg (by omega)];omega
   obtain ⟨ad,Ai,ci,rfl,hadB,hcell,hci,hsee⟩:=hS.out k (by have:=HN.out;omega)
   obtain ⟨L,hL⟩:∃L,ls[k]'(by have:=HN.out;omega)=L:=⟨_,rfl⟩
   have hlo:ahead (ls[k]'(by have:=HN.out;omega)) x=true→Hid (Halved ls x (k+1) j):=fun e=>heq.out.lo _ e
   have hhi:ahead (ls[k]'(by have:=HN.out;omega)) x=false→Hid (Halved ls x i k):=fun e=>heq.out.hi _ e
   rw[hL] at hcell hci hsee hlo hhi
   have hC:=Lib.hid (Compare_any Ai B L.length m ci d L x rfl HM.out _ hsee hS2)
   clear hL heq
   obtain ⟨b,hb⟩:∃b,ahead L x=b:=⟨_,rfl⟩
   rw[hb] at hlo hhi
   have h1:=cmp_neg L x
   rw[hb] at h1
   clear hb
   generalize Lib.compareBytes L x=z at hC h1
   have hkd:(↑((i+j) / 2):Int)=(k:Int):=by omega
   have hkd2:((i:Int)+(j:Int)) / 2=(k:Int):=by omega
   clear hk
   cases b with
   | true =>
    have hz:z<0:=by simpa using h1
    have hT:=hlo rfl
    clear hlo hhi h1
    go_wp2_with fail
    refine hC.out.mono ?_
    rintro e w1 ⟨rfl,rfl⟩
    go_wp2
    go_roundg (j - (k+1))
    case measure=>omega
    case rel=>exact ⟨k+1,j,by omega,by omega,by omega,by go_num,rfl,hT,rfl⟩
   | false =>
    have hz:0≤z:=by simpa using h1
    have hT:=hhi rfl
    clear hlo hhi h1
    go_wp2_with fail
    refine hC.out.mono ?_
    rintro e w1 ⟨rfl,rfl⟩
    go_wp2
    go_roundg (k - i)
    case measure=>omega
    case rel=>exact ⟨i,k,by omega,by omega,by omega,rfl,by go_num,hT,rfl⟩
  ·obtain rfl:i=j:=by omega
   go_wp2
   go_ret
   exact ⟨rfl,i,by have:=HN.out;omega,heq.out.done (by have:=HN.out;omega),rfl⟩
theorem Seek_any (A B:Option Addr) (n c m d:Nat) (ls:List (List UInt8)) (x:List UInt8) (hn:ls.length=n) (hm:x.length=m) (w:World) (hS:Sees2 w w.heap.size A ls) (hS2:Sees w w.heap.size B (bv x)) (hlen:n≤1099511627776) :
  Calls Tryz.prog 217 #[.slice A n c,.slice B m d] w (SeekIs w ls x):=by
 have hC:=Lib.hid (seek_any A B n c m d ls x hn hm w hS hS2 hlen)
 clear hn hm hS hS2
 go_enter Tryz.func217,Tryz.ntmps217
 go_wp2_with fail
 refine hC.out.mono ?_
 rintro e w1 ⟨rfl,k,h1,h2,rfl⟩
 have H2:=Lib.hid h2
 clear h2
 go_wp2
 go_ret
 exact ⟨rfl,k,h1,H2.out,rfl⟩
end
section
open Go.RowKit
def badL (l:List UInt8):Bool:=decide (l.length<1) || decide (400<l.length)
def checkN (ls:List (List UInt8)):Nat:=if 8<ls.length then 2 else if ls.length=0∨ls.any badL=true∨risesB ls=false then 1 else 0
theorem bad_any (A:Option Addr) (n c:Nat) (l:List UInt8) (hn:l.length=n) (w:World) :
  Calls Tryz.prog 240 #[.slice A n c] w fun e w'=>e = .returned (.bool (badL l))∧w=w':=by
 have hb:badL l=(decide ((n:Int)<1) || decide (400<(n:Int))):=by unfold badL;rw[hn];congr 1<;>rw[decide_eq_decide]<;>omega
 rw[hb]
 clear hb hn
 go_enter Tryz.func240,Tryz.ntmps240
 go_wp2
 all_goals
  go_ret
  exact ⟨rfl,rfl⟩
theorem any_at {ls:List (List UInt8)}{k:Nat}(h:k<ls.length):(ls.drop k).any badL=(badL ls[k] || (ls.drop (k+1)).any badL):=by
 rw[List.drop_eq_getElem_cons h]
 rfl
def IdxIs (w:World) (b:Bool) (e:Ending) (w' : World):Prop:=w'=w∧∃z:Int,decide (0≤z)=b∧e = .returned (.int .i64 z)
theorem IndexFunc_any (A:Option Addr) (n c:Nat) (ls:List (List UInt8)) (hn:ls.length=n) (w:World) (hS:Sees2 w w.heap.size A ls) (hlen:n≤1099511627776) :
  Calls Tryz.prog 139 #[.slice A n c,.func (.func 240) #[] #[]] w (IdxIs w (ls.any badL)):=by
 obtain ⟨X,hX⟩:∃X,ls.any badL=X:=⟨_,rfl⟩
 rw[hX]
 have HX:=Lib.hid hX
 have HN:=Lib.hid hn
 clear hn hX
 go_enter Tryz.func139,Tryz.ntmps139
 go_wp2
 go_loopg [8] n (fun g i wr=>∃k:Nat,k+g=n∧i = .int .i64 k∧Hid (X=(ls.drop k).any badL)∧wr=w)
 case atStart=>exact ⟨0,by omega,rfl,HX.out.symm,rfl⟩
 case round =>
  obtain ⟨k,hk,rfl,heq,rfl⟩:=hrel
  by_cases hlt:k<n
  ·obtain ⟨ad,Ai,ci,rfl,hadB,hcell,hci,hsee⟩:=hS.out k (by have:=HN.out;omega)
   have hstep:=Lib.hid (heq.out.trans (any_at (ls:=ls) (k:=k) (by have:=HN.out;omega)))
   obtain ⟨L,hL⟩:∃L,ls[k]'(by have:=HN.out;omega)=L:=⟨_,rfl⟩
   rw[hL] at hcell hci hsee hstep
   have hC:=Lib.hid (bad_any Ai L.length ci L rfl wr)
   clear hL heq
   obtain ⟨b,hb⟩:∃b,badL L=b:=⟨_,rfl⟩
   rw[hb] at hstep hC
   clear hb
   cases b with
   | true =>
    have HF:Hid (X=true):=by have:=hstep.out;rw[Bool.true_or] at this;exact this
    clear hstep
    go_wp2_with fail
    refine hC.out.mono ?_
    rintro e w1 ⟨rfl,rfl⟩
    go_wp2
    go_ret
    rw[HF.out]
    exact ⟨rfl,k,by simp,rfl⟩
   | false =>
    have hT:Hid (X=(ls.drop (k+1)).any badL):=by have:=hstep.out;rw[Bool.false_or] at this;exact this
    clear hstep
    go_wp2_with fail
    refine hC.out.mono ?_
    rintro e w1 ⟨rfl,rfl⟩
    go_wp2
    go_roundg (n - (k+1))
    case measure=>omega
    case rel=>exact ⟨k+1,by omega,by go_num,hT,rfl⟩
  ·have HF:Hid (X=false):=by have:=heq.out;rw[List.drop_eq_nil_of_le (by have:=HN.out;omega)] at this;exact this
   clear heq
   go_wp2
   go_ret
   rw[HF.out]
   exact ⟨rfl, -1,by decide,rfl⟩
theorem ContainsFunc_any (A:Option Addr) (n c:Nat) (ls:List (List UInt8)) (hn:ls.length=n) (w:World) (hS:Sees2 w w.heap.size A ls) (hlen:n≤1099511627776) :
  Calls Tryz.prog 241 #[.slice A n c,.func (.func 240) #[] #[]] w fun e w'=>e = .returned (.bool (ls.any badL))∧w=w':=by
 have hC:=Lib.hid (IndexFunc_any A n c ls hn w hS hlen)
 clear hn hS
 generalize ls.any badL=X at hC ⊢
 go_enter Tryz.func241,Tryz.ntmps241
 go_wp2_with fail
 refine hC.out.mono ?_
 rintro e w1 ⟨rfl,z,h1,rfl⟩
 subst h1
 go_wp2
 go_ret
 exact ⟨rfl,rfl⟩
theorem Check_any (A:Option Addr) (n c:Nat) (ls:List (List UInt8)) (hn:ls.length=n) (w:World) (hS:Sees2 w w.heap.size A ls) (hlen:n≤1099511627776) :
  Calls Tryz.prog 205 #[.slice A n c] w (NumIs w (checkN ls)):=by
 obtain ⟨X,hX⟩:∃X,checkN ls=X:=⟨_,rfl⟩
 rw[hX]
 unfold checkN at hX
 rw[hn] at hX
 by_cases h8:8<n
 ·rw[if_pos h8] at hX
  have HX:=Lib.hid hX
  clear hX hn
  go_enter Tryz.func205,Tryz.ntmps205
  go_wp2
  go_ret
  rw[←HX.out]
  exact ⟨rfl,0,rfl⟩
 rw[if_neg h8] at hX
 by_cases h0:n=0
 ·rw[if_pos (.inl h0)] at hX
  have HX:=Lib.hid hX
  have hz:((n:Int)==0)=true:=by rw[beq_iff_eq];omega
  clear hX hn h0
  go_enter Tryz.func205,Tryz.ntmps205
  go_wp2
  go_ret
  rw[←HX.out]
  exact ⟨rfl,0,rfl⟩
 have hz:((n:Int)==0)=false:=by rw[beq_eq_false_iff_ne];omega
 have hC:=Lib.hid (ContainsFunc_any A n c ls hn w hS hlen)
 have hR:=Lib.hid (rises_any A n c ls hn w hS hlen)
 by_cases hb:ls.any badL=true
 ·rw[if_pos (.inr (.inl hb))] at hX
  rw[hb] at hC
  have HX:=Lib.hid hX
  clear hX hn hb hR h0
  go_enter Tryz.func205,Tryz.ntmps205
  go_wp2_with fail
  refine hC.out.mono ?_
  rintro e w1 ⟨rfl,rfl⟩
  go_wp2
  go_ret
  rw[←HX.out]
  exact ⟨rfl,0,rfl⟩
 rw[Bool.not_eq_true] at hb
 rw[hb] at hC
 by_cases hr:risesB ls=false
 ·rw[if_pos (.inr (.inr hr))] at hX
  rw[hr] at hR
  have HX:=Lib.hid hX
  clear hX hn hb hr h0
  go_enter Tryz.func205,Tryz.ntmps205
  go_wp2_with fail
  refine hC.out.mono ?_
  rintro e w1 ⟨rfl,rfl⟩
  go_wp2_with fail
  refine hR.out.mono ?_
  rintro e w1 ⟨rfl,q,rfl⟩
  go_wp2
  go_ret
  rw[←HX.out]
  exact ⟨rfl,q,rfl⟩
 ·rw[if_neg (by rw[hb];simp[hr,h0])] at hX
  rw[Bool.not_eq_false] at hr
  rw[hr] at hR
  have HX:=Lib.hid hX
  clear hX hn hb hr h0
  go_enter Tryz.func205,Tryz.ntmps205
  go_wp2_with fail
  refine hC.out.mono ?_
  rintro e w1 ⟨rfl,rfl⟩
  go_wp2_with fail
  refine hR.out.mono ?_
  rintro e w1 ⟨rfl,q,rfl⟩
  go_wp2
  go_ret
  rw[←HX.out]
  exact ⟨rfl,q,rfl⟩
end
section
open Go.RowKit
def packFrom:List UInt8→List (List UInt8)→List UInt8
 | _, [] => []
 | p,x :: t=>venc (common p x)++venc (x.length - common p x)++x.drop (common p x)++packFrom x t
def packB (ls:List (List UInt8)):List UInt8:=venc ls.length++packFrom [] ls
theorem packFrom_at {ls:List (List UInt8)}{k:Nat}(p:List UInt8) (h:k<ls.length):packFrom p (ls.drop k)=venc (common p ls[k])++venc (ls[k].length - common p ls[k])++ls[k].drop (common p ls[k])++packFrom ls[k] (ls.drop (k+1)):=by
 rw[List.drop_eq_getElem_cons h]
 rfl
theorem packFrom_end {ls:List (List UInt8)}{k:Nat}(p:List UInt8) (h:ls.length≤k):packFrom p (ls.drop k) = []:=by
 rw[List.drop_eq_nil_of_le h]
 rfl
theorem check_ok {ls:List (List UInt8)}(h:checkN ls=0):ls.length≤8∧1≤ls.length∧(∀i (hi:i<ls.length),1≤ls[i].length∧ls[i].length≤400)∧risesB ls=true:=by
 unfold checkN at h
 split at h
 ·cases h
 ·split at h
  ·cases h
  ·rename_i h1 h2
   have hb:ls.any badL=false:=by rw[←Bool.not_eq_true];exact fun e=>h2 (.inr (.inl e))
   have hr:risesB ls=true:=by rw[←Bool.not_eq_false];exact fun e=>h2 (.inr (.inr e))
   refine ⟨by omega,by have:=fun e=>h2 (.inl e);omega,fun i hi => ?_,hr⟩
   have:=List.any_eq_false.1 hb ls[i] (List.getElem_mem hi)
   unfold badL at this
   simp only[Bool.or_eq_true,decide_eq_true_eq,not_or] at this
   omega
theorem check_nz {ls:List (List UInt8)}(h:checkN ls≠0):checkN ls=1∨checkN ls=2:=by
 unfold checkN at *
 split
 ·exact .inr rfl
 ·rename_i h1
  rw[if_neg h1] at h
  split
  ·exact .inl rfl
  ·rename_i h2;rw[if_neg h2] at h;exact absurd rfl h
def PackIs (w:World) (ls:List (List UInt8)) (e:Ending) (w' : World):Prop :=
 ∃v,e = .returned (.tuple #[v,.int .i64 (checkN ls:Nat)])∧OwnB w' w.heap.size v (if checkN ls=0 then packB ls else [])∧Below w.heap.size w w'
theorem Pack_any (A:Option Addr) (n c:Nat) (ls:List (List UInt8)) (hn:ls.length=n) (w:World) (hS:Sees2 w w.heap.size A ls) (hlen:n≤1099511627776) :
  Calls Tryz.prog 148 #[.slice A n c] w (PackIs w ls):=by
 have hC:=Lib.hid (Check_any A n c ls hn w hS hlen)
 by_cases hk:checkN ls=0
 ·obtain ⟨h8,h1,hall,hrise⟩:=check_ok hk
  have HK:=Lib.hid hk
  rw[hk] at hC
  have HA:=Lib.hid hall
  have hn8:n≤8:=by omega
  have HN:=Lib.hid hn
  clear hk hall hrise h8 h1 hn hlen
  go_enter Tryz.func148,Tryz.ntmps148
  go_wp2_with fail
  refine hC.out.mono ?_
  rintro e w1 ⟨rfl,q,rfl⟩
  go_wp2_with fail
  refine (Put_any none 0 0 [] rfl n (by unfold Is64;omega) (w.drewN q) (Sees.nil _ _ _) (by simp)).mono ?_
  rintro e w2 ⟨v2,rfl,hown2,hon2⟩
  have hb2:Below w.heap.size w w2:=(below_d (Below.refl _ w) q).trans hon2.below_nil
  rw[List.nil_append] at hown2
  clear hC hon2
  go_wp2_with fail
  go_loopg [5,6,21] n (fun g b a i wr=>∃(k:Nat) (X P:List UInt8) (Ap:Option Addr) (cp:Nat),k+g=n∧i = .int .i64 k∧OwnB wr w.heap.size b X∧X.length≤10+1000*k∧a = .slice Ap P.length cp∧P.length≤400∧Sees wr wr.heap.size Ap (bv P)∧Aside (X++packFrom P (ls.drop k)=packB ls)∧Below w.heap.size w wr)
  case atStart=>exact ⟨0,venc n, [],none,0,by omega,rfl,hown2,by have:=venc_len (u:=n) (by unfold Is64;omega);omega,rfl,by simp,Sees.nil _ _ _,(by show _=_;unfold packB;rw[HN.out];rfl),hb2⟩
  case round =>
   obtain ⟨k,X,P,Ap,cp,hk,rfl,hX,hXl,rfl,hP,hSP,hcat,hbr⟩:=hrel
   have hsr:=hbr.size
   by_cases hlt:k<n
   ·obtain ⟨ad,Ai,ci,rfl,hadB,hcell,hci,hsee⟩:=(hS.below hbr).out k (by have:=HN.out;omega)
    have hLl:=HA.out k (by have:=HN.out;omega)
    have hfr:=Lib.hid (packFrom_at (ls:=ls) (k:=k) P (by have:=HN.out;omega))
    obtain ⟨L,hL⟩:∃L,ls[k]'(by have:=HN.out;omega)=L:=⟨_,rfl⟩
    rw[hL] at hcell hci hsee hLl hfr
    clear hL
    obtain ⟨hL1,hL2⟩:=hLl
    have hcm:=common_le P L
    have hCm:=Lib.hid (Common_any Ap Ai P.length L.length cp ci P L rfl rfl wr hSP (hsee.more hsr) (by omega) (by omega))
    generalize common P L=cm at hcm hCm hfr
    obtain ⟨hc1,hc2⟩:=hcm
    obtain ⟨d,hd⟩:∃d,L.length - cm=d:=⟨_,rfl⟩
    rw[hd] at hfr
    have hsub:IntKind.i64.wrap ((L.length:Int) - (cm:Int))=(d:Int):=by rw[IntKind.wrap_i64];omega
    have hd4:d≤400:=by omega
    obtain ⟨A0,c0,rfl,hXc,hXm,hX',hXs⟩:=hX.open_
    go_wp2_with fail
    refine hCm.out.mono ?_
    rintro e w3 ⟨rfl,q,rfl⟩
    go_wp2_with fail
    refine (Put_any A0 X.length c0 X rfl cm (by unfold Is64;omega) (wr.drewN q) (hXs.drewN q) (by omega)).mono ?_
    rintro e w4 ⟨v4,rfl,hown4,hon4⟩
    have hbr4:Below wr.heap.size wr w4:=(below_d (Below.refl _ wr) q).trans hon4.below_nil
    have hvc:=venc_len (u:=cm) (by unfold Is64;omega)
    have hvd:=venc_len (u:=d) (by unfold Is64;omega)
    obtain ⟨Y,hY⟩:∃Y,X++venc cm=Y:=⟨_,rfl⟩
    rw[hY] at hown4
    have hYl:Y.length≤X.length+10:=by rw[←hY,List.length_append];omega
    have HY:=Lib.hid hY
    clear hY
    obtain ⟨A4,c4,rfl,hc4,hm4,hown4',hs4⟩:=hown4.open_
    go_wp2_with fail
    refine (Put_any A4 Y.length c4 Y rfl d (by unfold Is64;omega) w4 hs4 (by omega)).mono ?_
    rintro e w5 ⟨v5,rfl,hown5,hon5⟩
    have hbr5:Below wr.heap.size wr w5:=hbr4.trans (hon5.below_nil.mono hbr4.size)
    have hb5:Below w.heap.size w w5:=hbr.trans (hbr5.mono hsr)
    have hs5:=hbr5.size
    have hsee5:Sees w5 w5.heap.size Ai (bv L):=(hsee.below (hbr5.mono hsr)).more (by omega)
    obtain ⟨Z,hZ⟩:∃Z,Y++venc d=Z:=⟨_,rfl⟩
    rw[hZ] at hown5
    have hZl:Z.length≤Y.length+10:=by rw[←hZ,List.length_append];omega
    have HZ:=Lib.hid hZ
    clear hZ
    have hown5w:OwnB w5 w.heap.size v5 Z:=hown5.base_le (by have:=hbr4.size;omega)
    go_wp2_with (at_builtin;refine wpList_append_b rfl (.tmp 38) (.tmp 41) rfl w.heap.size v5 Z (by rfl) hown5w _ _ _ _ (L.drop cm) (by rfl) (by simp;omega) (by rw[bv_drop];first|exact hsee5.cut' cm|(have hcut:=hsee5.cut (k:=cm) (cap:=ci) (by rw[bv_length];exact hci);simp only[Nat.mul_one] at hcut;exact hcut)|exact Sees.cut0 _ _ _ (by rw[bv_length];omega)) (by rw[List.length_drop];omega) (by omega) ?_;intro v6 w6 hown6 hon6)
    all_goals
     have hbr6:Below wr.heap.size wr w6:=hbr4.trans ((hon5.trans hon6).below_nil.mono hbr4.size)
     have hs6:=hbr6.size
     go_roundg (n - (k+1))
     case measure=>omega
     case rel=>exact ⟨k+1,Z++L.drop cm,L,Ai,_,by omega,by go_num,hown6,by rw[List.length_append,List.length_drop];omega,rfl,hL2,(hsee.below (hbr6.mono hsr)).more (by omega),(by have h1:=hcat.out;have h2:=hfr.out;have h3:=HY.out;have h4:=HZ.out;show _=_;rw[←h1,h2, ←h4, ←h3];simp),hbr.trans (hbr6.mono hsr)⟩
   ·have HF:Hid (X=packB ls):=by have:=hcat.out;rw[packFrom_end _ (by have:=HN.out;omega),List.append_nil] at this;exact this
    have HE:Hid ((if checkN ls=0 then packB ls else [])=packB ls):=if_pos HK.out
    clear hcat
    go_wp2_with fail
    go_ret2
    unfold PackIs
    rw[HE.out,HK.out, ←HF.out]
    exact ⟨_,rfl,hX,hbr⟩
 ·have HK:=Lib.hid (check_nz hk)
  have HE:Hid ((if checkN ls=0 then packB ls else []) = []):=if_neg hk
  obtain ⟨X,hX⟩:∃X,checkN ls=X:=⟨_,rfl⟩
  rw[hX] at hk HK hC
  have HX:=Lib.hid hX
  have hz:((X:Int) != 0)=true:=by rw[bne_iff_ne];omega
  clear hX hk hn
  go_enter Tryz.func148,Tryz.ntmps148
  go_wp2_with fail
  refine hC.out.mono ?_
  rintro e w1 ⟨rfl,q,rfl⟩
  go_wp2
  go_ret2
  unfold PackIs
  rw[HE.out,HX.out]
  exact ⟨_,rfl,OwnB.nil _ _,below_d (Below.refl _ w) q⟩
end
section
open Go.RowKit
theorem Grow_any (n:Nat) (w:World) (hn:n≤1000000000) :
  Calls Tryz.prog 192 #[.slice none 0 0,.int .i64 n] w (RetB w w.heap.size (.slice none 0 0) []):=by
 obtain ⟨i,hi,hz0,hz1,hz2⟩:=info_parts Tryz.binfo
 by_cases h0:0<n
 ·have hr:=Lib.run_append_nil_zeros (P:=Tryz.prog) w 48 3 48 5 i (.int .u8 0) .i64 .i64 Tryz.underlying48 Tryz.underlying3 hi hz0 n h0 (by omega) (by omega) (by rw[hz2];omega)
  have hge:=grownCap_ge w n 0 5
  have hmx:=grownCap_le_maxLen w n 0 5 (by simp only[maxLen];omega)
  generalize grownCap w n 0 5=cap at hr hge hmx
  have HR:=Lib.hid hr
  have hmade:=Lib.hid (World.ownsRow_made (base:=w.heap.size) (e:=5) (size:=1) w.drew (Builtin.zeroCells (Value.int .u8 0).cells n++Builtin.zeroCells (Value.int .u8 0).cells (cap - n)) cap (Nat.le_refl _) hmx (by simp[Builtin.zeroCells,Value.cells];omega))
  clear hr hi hz0 hz1 hz2
  go_enter Tryz.func192,Tryz.ntmps192
  go_wp2_with (at_builtin;refine Lib.wpList_append_run _ rfl (.tmp 20) (.tmp 21) _ _ rfl _ _ rfl rfl _ _ HR.out ?_)
  go_ret
  exact ⟨_,rfl,hmade.out,⟨⟨rfl,rfl,rfl,by simp,fun k hk _=>by show (w.heap.push _)[k]?=w.heap[k]?;rw[Array.getElem?_push,if_neg (Nat.ne_of_lt hk)]⟩,.inr ⟨_,rfl,Nat.le_refl _⟩⟩⟩
 ·obtain rfl:n=0:=by omega
  clear h0 hi hz0 hz1 hz2
  go_enter Tryz.func192,Tryz.ntmps192
  go_wp2
  go_ret
  exact ⟨_,rfl,OwnB.nil _ _,Onto.refl _ _⟩
theorem flat_at {ls:List (List UInt8)}{k:Nat}(h:k<ls.length):(ls.drop k).flatten=ls[k]++(ls.drop (k+1)).flatten:=by
 rw[List.drop_eq_getElem_cons h]
 rfl
theorem Concat_any (A:Option Addr) (n c:Nat) (ls:List (List UInt8)) (hn:ls.length=n) (w:World) (hS:Sees2 w w.heap.size A ls) (h100:n≤100) (hall:∀i (hi:i<ls.length),(ls[i]).length≤1000000) :
  Calls Tryz.prog 137 #[.slice A n c] w (RetB w w.heap.size (.slice none 0 0) ls.flatten):=by
 have HN:=Lib.hid hn
 have HA:=Lib.hid hall
 obtain ⟨F,hF⟩:∃F,ls.flatten=F:=⟨_,rfl⟩
 rw[hF]
 have HF:=Lib.hid hF
 clear hn hall hF
 go_enter Tryz.func137,Tryz.ntmps137
 go_wp2
 go_loopg [3,11] n (fun g s i wr=>∃k t:Nat,k+g=n∧i = .int .i64 k∧s = .int .i64 t∧t≤1000000*k∧wr=w)
 case atStart=>exact ⟨0,0,by omega,rfl,rfl,by omega,rfl⟩
 case round =>
  obtain ⟨k,t,hk,rfl,rfl,ht,rfl⟩:=hrel
  by_cases hlt:k<n
  ·obtain ⟨ad,Ai,ci,rfl,hadB,hcell,hci,hsee⟩:=hS.out k (by have:=HN.out;omega)
   have hLl:=HA.out k (by have:=HN.out;omega)
   obtain ⟨L,hL⟩:∃L,ls[k]'(by have:=HN.out;omega)=L:=⟨_,rfl⟩
   rw[hL] at hcell hci hsee hLl
   clear hL
   go_wp2
   go_roundg (n - (k+1))
   case measure=>omega
   case rel=>exact ⟨k+1,t+L.length,by omega,by go_num,by go_num,by omega,rfl⟩
  ·go_wp2_with fail
   refine (Grow_any t wr (by omega)).mono ?_
   rintro e w1 ⟨v1,rfl,hown1,hon1⟩
   go_wp2_with fail
   go_loopg [6,27] n (fun g b i wx=>∃(k:Nat) (X:List UInt8),k+g=n∧i = .int .i64 k∧OwnB wx wr.heap.size b X∧X.length≤1000000*k∧Aside (X++(ls.drop k).flatten=F)∧Onto wr wx (.slice none 0 0) b)
   case atStart=>exact ⟨0, [],by omega,rfl,hown1,by simp,HF.out,hon1⟩
   case round =>
    obtain ⟨k,X,hk,rfl,hX,hXl,hcat,hon⟩:=hrel
    have hbr:=hon.below_nil
    have hsr:=hbr.size
    by_cases hlt:k<n
    ·obtain ⟨ad,Ai,ci,rfl,hadB,hcell,hci,hsee⟩:=(hS.below hbr).out k (by have:=HN.out;omega)
     have hLl:=HA.out k (by have:=HN.out;omega)
     have hfl:=Lib.hid (flat_at (ls:=ls) (k:=k) (by have:=HN.out;omega))
     obtain ⟨L,hL⟩:∃L,ls[k]'(by have:=HN.out;omega)=L:=⟨_,rfl⟩
     rw[hL] at hcell hci hsee hLl hfl
     clear hL
     obtain ⟨A0,c0,rfl,hXc,hXm,hX',hXs⟩:=hX.open_
     go_wp2_with (at_builtin;refine wpList_append_b rfl (.tmp 31) (.tmp 32) rfl _ (.slice A0 X.length c0) X (by rfl) hX _ Ai L.length ci L (by rfl) rfl hsee (by omega) hsr ?_;intro v2 w2 hown2 hon2)
     go_roundg (n - (k+1))
     case measure=>omega
     case rel=>exact ⟨k+1,X++L,by omega,by go_num,hown2,by rw[List.length_append];omega,(by have h1:=hcat.out;have h2:=hfl.out;show _=_;rw[←h1,h2,List.append_assoc]),hon.trans hon2⟩
    ·have HE:Hid (X=F):=by have:=hcat.out;rw[List.drop_eq_nil_of_le (by have:=HN.out;omega)] at this;unfold Hid;simpa using this
     clear hcat
     go_wp2_with fail
     go_ret
     rw[←HE.out]
     exact ⟨_,rfl,hX,hon⟩
end
section
open Go.RowKit
def OneErr (w:World) (b:Nat) (e:Int):Prop:=w.heap[b]?=some (.cells #[.int .i64 e] 31 (0,0))
def OneRow (w:World) (b:Nat) (A:Option Addr) (n c:Nat):Prop:=w.heap[b]?=some (.cells #[.slice A n c] 48 (0,0))
def numR (l:List UInt8):Nat×List UInt8×Nat :=
 if (vtake l).2.2≠0 then (0,l,(vtake l).2.2) else if 400<(vtake l).1 then (0,l,11) else ((vtake l).1,l.drop (vtake l).2.1,0)
def ptrTo (b:Nat):Value := .pointer (some ⟨b,0,none⟩)
def NumErr (w:World) (bF:Nat) (e:Nat) (en:Ending) (w' : World):Prop:=en = .returned (.int .i64 0)∧∃w1,Below w.heap.size w w1∧w'=w1.setCell ⟨bF,0,none⟩ (.int .i64 (e:Nat))
def NumOk (w:World) (bR:Nat) (u:Nat) (r:List UInt8) (en:Ending) (w' : World):Prop:=en = .returned (.int .i64 (u:Nat))∧∃w1 v,Below w.heap.size w w1∧OwnB w1 w.heap.size v r∧w'=w1.setCell ⟨bR,0,none⟩ v
theorem number_idle (bF bR:Nat) (e0:Nat) (he:e0≠0) (w:World) (hF:OneErr w bF e0) :
  Calls Tryz.prog 213 #[ptrTo bF,ptrTo bR] w fun e w'=>e = .returned (.int .i64 0)∧w=w':=by
 have hcF:=cell_of_one hF
 have hz:((e0:Int) != 0)=true:=by rw[bne_iff_ne];omega
 unfold ptrTo
 clear hF he
 go_enter Tryz.func213,Tryz.ntmps213
 go_wp2
 go_ret
 exact ⟨rfl,rfl⟩
theorem number_err (bF bR:Nat) (A:Option Addr) (n c:Nat) (l:List UInt8) (hn:l.length=n) (hnc:n≤c) (hlen:n≤1000000) (w:World) (hF:OneErr w bF 0) (hR:OneRow w bR A n c) (hS:Sees w w.heap.size A (bv l)) (e:Nat) (he:(numR l).2.2=e) (he0:e≠0) :
  Calls Tryz.prog 213 #[ptrTo bF,ptrTo bR] w (NumErr w bF e):=by
 have hcF:=cell_of_one hF
 have hcR:=cell_of_one hR
 have hT:=Lib.hid (Take_any A n c l hn w hS (by omega) (by omega))
 have hbF:=lt_of_block hF
 have hF':=fun (w' : World) (hb:Below w.heap.size w w')=>free_of_one ((hb.block bF hbF).trans hF)
 have hF2:=fun (w' : World) (hb:Below w.heap.size w w')=>cell_of_one ((hb.block bF hbF).trans hF)
 have hz:((0:Int) != 0)=false:=rfl
 unfold numR at he
 unfold ptrTo
 by_cases h1:(vtake l).2.2=0
 ·rw[if_neg (fun hh=>hh h1)] at he
  simp only[h1,if_true] at hT
  by_cases h2:400<(vtake l).1
  ·rw[if_pos h2] at he
   simp only at he
   have HE:=Lib.hid he
   have hu64:Hid ((vtake l).1=(vtake l).1):=rfl
   generalize (vtake l).1=u at hT h2
   clear hu64
   generalize l.drop (vtake l).2.1=r at hT
   have h2' : (400:Int)<(u:Int):=by omega
   clear he h2 h1 hF hR hn
   go_enter Tryz.func213,Tryz.ntmps213
   go_wp2_with fail
   refine hT.out.mono ?_
   rintro en w1 ⟨v,rfl,hown,hb⟩
   have hfz:=hF' w1 hb
   have hfc:=hF2 w1 hb
   go_wp2_with fail
   go_ret
   exact ⟨rfl,w1,hb,by rw[←HE.out];rfl⟩
  ·rw[if_neg h2] at he
   exact absurd he.symm he0
 ·rw[if_pos h1] at he
  simp only at he
  simp only[h1,if_false] at hT
  rw[he] at hT
  generalize (vtake l).1=u at hT
  have hz2:((e:Int) != 0)=true:=by rw[bne_iff_ne];omega
  clear he h1 hF hR hn he0
  go_enter Tryz.func213,Tryz.ntmps213
  go_wp2_with fail
  refine hT.out.mono ?_
  rintro en w1 ⟨v,rfl,hown,hb⟩
  have hfz:=hF' w1 hb
  have hfc:=hF2 w1 hb
  go_wp2_with fail
  go_ret
  exact ⟨rfl,w1,hb,rfl⟩
theorem number_ok (bF bR:Nat) (A:Option Addr) (n c:Nat) (l:List UInt8) (hn:l.length=n) (hnc:n≤c) (hlen:n≤1000000) (w:World) (hF:OneErr w bF 0) (hR:OneRow w bR A n c) (hS:Sees w w.heap.size A (bv l)) (u:Nat) (r:List UInt8) (he:numR l=(u,r,0)) :
  Calls Tryz.prog 213 #[ptrTo bF,ptrTo bR] w (NumOk w bR u r):=by
 have hcF:=cell_of_one hF
 have hcR:=cell_of_one hR
 have hT:=Lib.hid (Take_any A n c l hn w hS (by omega) (by omega))
 have hbR:=lt_of_block hR
 have hR':=fun (w' : World) (hb:Below w.heap.size w w')=>free_of_one ((hb.block bR hbR).trans hR)
 have hR2:=fun (w' : World) (hb:Below w.heap.size w w')=>cell_of_one ((hb.block bR hbR).trans hR)
 have hz:((0:Int) != 0)=false:=rfl
 unfold numR at he
 unfold ptrTo
 by_cases h1:(vtake l).2.2=0
 ·rw[if_neg (fun hh=>hh h1)] at he
  simp only[h1,if_true] at hT
  by_cases h2:400<(vtake l).1
  ·rw[if_pos h2] at he
   injection he with _ he
   injection he with _ he
   cases he
  ·rw[if_neg h2] at he
   injection he with he1 he
   injection he with he2 he
   rw[he1,he2] at hT
   have h2' : (u:Int)≤400:=by omega
   have h2d:decide ((400:Int)<(u:Int))=false:=by rw[decide_eq_false_iff_not];omega
   clear he1 he2 he h1 h2 hF hR hn
   go_enter Tryz.func213,Tryz.ntmps213
   go_wp2_with fail
   refine hT.out.mono ?_
   rintro en w1 ⟨v,rfl,hown,hb⟩
   obtain ⟨A1,c1,rfl,hc1,hm1,hown',hs1⟩:=hown.open_
   have hfz:=hR' w1 hb
   have hfc:=hR2 w1 hb
   go_wp2_with fail
   go_ret
   exact ⟨rfl,w1,_,hb,hown,rfl⟩
 ·rw[if_pos h1] at he
  injection he with _ he
  injection he with _ he
  exact absurd he h1
end
section
open Go.RowKit
structure SeesN (w:World) (base:Nat) (ob:Option Nat) (A:Option Addr) (xs:List Value):Prop where
 out:xs = []∨∃ad,A=some ad∧base≤ad.block∧ad.block<w.heap.size∧some ad.block≠ob∧∀j u,xs[j]?=some u→w.cell? (ad.add j)=some u
section
variable {w w' : World} {base : Nat} {ob : Option Nat} {A : Option Addr} {xs : List Value}
theorem SeesN.sees (h:SeesN w base ob A xs):Sees w w.heap.size A xs:=by
 rcases h.out with h|⟨ad,e,_,h1,_,h2⟩
 ·exact ⟨.inl h⟩
 ·exact ⟨.inr ⟨ad,e,h1,h2⟩⟩
theorem SeesN.kept (h:SeesN w base ob A xs) (ob' : Option Nat) (hs:w.heap.size≤w'.heap.size) (hk:∀b,base≤b→b<w.heap.size→some b≠ob→w'.heap[b]?=w.heap[b]?) (ho:∀b,base≤b→b<w.heap.size→some b≠ob→some b≠ob'):SeesN w' base ob' A xs:=by
 rcases h.out with h|⟨ad,e,h0,h1,h3,h2⟩
 ·exact ⟨.inl h⟩
 ·exact ⟨.inr ⟨ad,e,h0,by omega,ho _ h0 h1 h3,fun j u hu=>(World.cell?_of_block (a:=ad.add j) (by rw[add_block];exact hk _ h0 h1 h3)).trans (h2 j u hu)⟩⟩
theorem SeesN.below (h:SeesN w base ob A xs) (hb:Below w.heap.size w w'):SeesN w' base ob A xs:=h.kept ob hb.size (fun b _ hb1 _=>hb.block b hb1) (fun _ _ _ h=>h)
theorem SeesN.setCell (h:SeesN w base ob A xs) {a:Addr}(ha:a.block<base) (u:Value):SeesN (w.setCell a u) base ob A xs :=
 h.kept ob (by rw[World.size_setCell];exact Nat.le_refl _) (fun b h0 _ _=>Below.heap_setCell _ _ _ _ (by omega)) (fun _ _ _ h=>h)
theorem SeesN.of_own {l:List UInt8}{v:Value}(h:OwnB w base v l) {n c:Nat}(hv:v = .slice A n c) (ob:Option Nat) (ho:∀b,v.ownBlock=some b→some b≠ob):SeesN w base ob A (bv l):=by
 subst hv
 obtain ⟨A',c',e,_,_,_,hs⟩:=h.open_
 injection e with e1 e2 e3
 subst e1
 rcases h.2 with ⟨h0,h1⟩|⟨g,cap,cur,hv,hb,hh,_⟩
 ·refine ⟨.inl ?_⟩
  rw[List.eq_nil_of_length_eq_zero h1];rfl
 ·injection hv with hv
  subst hv
  rcases hs.out with h|⟨ad,e,h1,h2⟩
  ·exact ⟨.inl h⟩
  ·injection e with e
   subst e
   exact ⟨.inr ⟨_,rfl,hb,h1,ho _ rfl,h2⟩⟩
end
structure OwnS (w:World) (base:Nat) (v:Value) (ls:List (List UInt8)):Prop where
 out:∃vs:List Value,w.ownsRow base 48 1 v ls.length vs∧∀i (hi:i<ls.length),∃Ai ci,vs[i]?=some (.slice Ai (ls[i]).length ci)∧(ls[i]).length≤ci∧SeesN w base v.ownBlock Ai (bv ls[i])
section
variable {w w' : World} {base : Nat} {v : Value} {ls : List (List UInt8)}
theorem OwnS.nil (w:World) (base:Nat):OwnS w base (.slice none 0 0) []:=⟨[],World.ownsRow_nil w base _ 1,fun i hi=>absurd hi (by simp)⟩
theorem OwnS.below (h:OwnS w base v ls) (hb:Below w.heap.size w w'):OwnS w' base v ls:=by
 obtain ⟨vs,h1,h2⟩:=h.out
 refine ⟨vs,World.ownsRow.kept (row:=none) h1 ⟨hb.os,hb.tape,hb.output,hb.size,fun k hk _=>hb.block k hk⟩ (by cases v.ownBlock<;>simp),fun i hi => ?_⟩
 obtain ⟨Ai,ci,h3,h4,h5⟩:=h2 i hi
 exact ⟨Ai,ci,h3,h4,h5.below hb⟩
theorem OwnS.setCell (h:OwnS w base v ls) {a:Addr}(ha:a.block<base) (u:Value):OwnS (w.setCell a u) base v ls:=by
 obtain ⟨vs,h1,h2⟩:=h.out
 refine ⟨vs,Go.RowKit.ownsRow_setCell_below h1 ha u,fun i hi => ?_⟩
 obtain ⟨Ai,ci,h3,h4,h5⟩:=h2 i hi
 exact ⟨Ai,ci,h3,h4,h5.setCell ha u⟩
theorem OwnS.open_ (h:OwnS w base v ls):∃A c,v = .slice A ls.length c∧ls.length≤c∧Sees2 w w.heap.size A ls:=by
 obtain ⟨vs,h1,h2⟩:=h.out
 rcases h1.2 with ⟨rfl,hn⟩|⟨g,cap,cur,rfl,hb,hh,hc,hm,_⟩
 ·have:ls = []:=List.eq_nil_of_length_eq_zero hn
  subst this
  exact ⟨none,0,rfl,by simp,⟨fun i hi=>absurd hi (by simp)⟩⟩
 ·refine ⟨_,cap,rfl,hc,⟨fun i hi => ?_⟩⟩
  obtain ⟨Ai,ci,h3,h4,h5⟩:=h2 i hi
  exact ⟨_,Ai,ci,rfl,(Array.getElem?_eq_some_iff.1 hh).1,h1.cells (g:=g) rfl i _ h3,h4,h5.sees⟩
end
theorem Tryz.sinfo:(Tryz.prog.info? 48).map (fun i=>(i.zero,i.size,i.bytes))=some (some (.slice none 0 0),1,24):=by kernel_rfl
theorem OwnS.put {w w' : World}{base:Nat}{v v' : Value}{ls:List (List UInt8)}{vs:List Value}(x:List UInt8) (Ax:Option Addr) (cx:Nat)
  (h:∀i (hi:i<ls.length),∃Ai ci,vs[i]?=some (.slice Ai (ls[i]).length ci)∧(ls[i]).length≤ci∧SeesN w base v.ownBlock Ai (bv ls[i])) (hvs:vs.length=ls.length)
  (hc:x.length≤cx) (hx:SeesN w base v.ownBlock Ax (bv x)) (hown:w'.ownsRow base 48 1 v' (ls.length+1) (vs ++ [.slice Ax x.length cx])) (hg:w.grownBy w' v.ownBlock)
  (ho:v'.ownBlock=v.ownBlock∨v'.ownBlock=some w.heap.size):OwnS w' base v' (ls ++ [x]):=by
 have kp:∀ {A:Option Addr}{xs:List Value},SeesN w base v.ownBlock A xs→SeesN w' base v'.ownBlock A xs:=fun hs =>
  hs.kept _ hg.size (fun b _ h1 h2=>hg.block b h1 (fun e=>h2 e)) (fun b _ h1 h2=>by
   rcases ho with e|e
   ·rw[e];exact h2
   ·rw[e];intro e2;injection e2 with e2;omega)
 refine ⟨vs ++ [.slice Ax x.length cx],by rw[List.length_append];exact hown,fun i hi => ?_⟩
 by_cases hlt:i<ls.length
 ·obtain ⟨Ai,ci,h3,h4,h5⟩:=h i hlt
  rw[List.getElem_append_left hlt,List.getElem?_append_left (by omega)]
  exact ⟨Ai,ci,h3,h4,kp h5⟩
 ·have he:i=ls.length:=by simp at hi;omega
  subst he
  rw[List.getElem_append_right (Nat.le_refl _),List.getElem?_append_right (by omega)]
  refine ⟨Ax,cx,?_,?_,?_⟩
  ·simp[hvs]
  ·simpa using hc
  ·simpa using kp hx
theorem wpList_append_s {w:World}{ops:Array Oper}{rest:List Oper}{o:Oper}{a:Act}{Q:Exit→Act→World→Prop}(hgd:o.guard=none) (s x:Operand)
  (ho:o.op = .call { callee := .builtin .append,args := #[s,x],argTypes := #[47,47] })
  (base:Nat) (v:Value) (ls:List (List UInt8)) (hs:a.eval s=v) (hown:OwnS w base v ls) (ad:Addr) (c:Nat) (y:List UInt8) (Ay:Option Addr) (cy:Nat)
  (hx:a.eval x = .slice (some ad) 1 c) (hy:w.cell? ad=some (.slice Ay y.length cy)) (hyc:y.length≤cy) (hsee:SeesN w base v.ownBlock Ay (bv y))
  (hlen:ls.length≤1000000) (hbase:base≤w.heap.size)
  (h:∀v' w',OwnS w' base v' (ls ++ [y])→w.grownBy w' v.ownBlock→(v'.ownBlock=v.ownBlock∨v'.ownBlock=some w.heap.size)→wpList Tryz.prog ops Q rest (a.put o.dst v') w'):wpList Tryz.prog ops Q (o :: rest) a w:=by
 obtain ⟨i,hi,hz0,hz1,hz2⟩:=info_parts Tryz.sinfo
 obtain ⟨vs,h1,h2⟩:=hown.out
 have hvs:vs.length=ls.length:=by have:=h1.1;omega
 exact wpList_append_own_at w hgd s x 47 ho base 48 i _ 1 24 Tryz.underlying47 hi hz0 hz1 hz2 rfl (by omega) v ls.length vs hs h1 ad 1 c [Value.slice Ay y.length cy] hx rfl
  (fun j u hu=>by
   match j,hu with
   | 0,hu =>
    simp at hu
    subst hu
    simpa[Addr.add] using hy)
  (fun u hu=>by simp at hu;subst hu;rfl) (by simp only[maxLen];omega) (by omega) hbase
  (fun v' w' g1 g2 _ g4=>h v' w' (OwnS.put y Ay cy h2 hvs hyc hsee g1 g2 g4) g2 g4)
end
section
open Go.RowKit
structure SeesX (w:World) (b:Nat) (A:Option Addr) (xs:List Value):Prop where
 out:xs = []∨∃ad,A=some ad∧ad.block<w.heap.size∧(ad.block<b∨b+1<ad.block)∧∀j u,xs[j]?=some u→w.cell? (ad.add j)=some u
theorem SeesX.sees {w:World}{b:Nat}{A:Option Addr}{xs:List Value}(h:SeesX w b A xs):Sees w w.heap.size A xs:=by
 rcases h.out with h|⟨ad,e,h1,_,h2⟩
 ·exact ⟨.inl h⟩
 ·exact ⟨.inr ⟨ad,e,h1,h2⟩⟩
theorem SeesX.kept {w w' : World}{b:Nat}{A:Option Addr}{xs:List Value}(h:SeesX w b A xs) (hs:w.heap.size≤w'.heap.size) (hk:∀k,k<w.heap.size→(k<b∨b+1<k)→w'.heap[k]?=w.heap[k]?):SeesX w' b A xs:=by
 rcases h.out with h|⟨ad,e,h1,h3,h2⟩
 ·exact ⟨.inl h⟩
 ·exact ⟨.inr ⟨ad,e,by omega,h3,fun j u hu=>(World.cell?_of_block (a:=ad.add j) (by rw[add_block];exact hk _ h1 h3)).trans (h2 j u hu)⟩⟩
theorem SeesX.cut {w:World}{b:Nat}{A:Option Addr}{xs:List Value}(h:SeesX w b A xs) {k cap:Nat}(hc:xs.length≤cap):SeesX w b (if cap=k then A else A.map (fun x=>x.add k)) (xs.drop k):=by
 by_cases hk:k<xs.length
 ·rcases h.out with h|⟨ad,rfl,h1,h3,hcell⟩
  ·subst h;simp at hk
  ·rw[if_neg (by omega)]
   refine ⟨.inr ⟨ad.add k,rfl,by rw[add_block];exact h1,by rw[add_block];exact h3,fun j u hu => ?_⟩⟩
   rw[add_add']
   exact hcell _ u (by rw[←hu,List.getElem?_drop])
 ·exact ⟨.inl (List.drop_eq_nil_of_le (by omega))⟩
theorem sees2_pair (w:World) (A1 A2:Option Addr) (n1 n2 c1 c2:Nat) (l1 l2:List UInt8) (h1:l1.length=n1) (h2:l2.length=n2) (hc1:n1≤c1) (hc2:n2≤c2) (hs1:Sees w w.heap.size A1 (bv l1)) (hs2:Sees w w.heap.size A2 (bv l2)) (t:TypeId) :
  Sees2 (w.alloc (.cells #[.slice A1 n1 c1,.slice A2 n2 c2] t)) (w.alloc (.cells #[.slice A1 n1 c1,.slice A2 n2 c2] t)).heap.size (some ⟨w.heap.size,0,none⟩) [l1,l2]:=by
 subst h1
 subst h2
 refine ⟨fun i hi => ?_⟩
 match i,hi with
 | 0,_=>exact ⟨_,A1,c1,rfl,by simp,by rw[Addr.add_lit,World.cell?_alloc_at _ _ _ _ rfl];rfl,hc1,(hs1.alloc (Nat.le_refl _) _).more (by simp)⟩
 | 1,_=>exact ⟨_,A2,c2,rfl,by simp,by rw[Addr.add_lit,World.cell?_alloc_at _ _ _ _ rfl];rfl,hc2,(hs2.alloc (Nat.le_refl _) _).more (by simp)⟩
theorem SeesX.of_sees {w:World}{b:Nat}{A:Option Addr}{xs:List Value}(h:Sees w b A xs) (hb:b≤w.heap.size):SeesX w b A xs:=by
 rcases h.out with h|⟨ad,e,h1,h2⟩
 ·exact ⟨.inl h⟩
 ·exact ⟨.inr ⟨ad,e,by omega,.inl h1,h2⟩⟩
theorem SeesX.of_own {w:World}{base b:Nat}{v:Value}{A:Option Addr}{n c:Nat}{l:List UInt8}(h:OwnB w base v l) (hv:v = .slice A n c) (hb:b+1<base):SeesX w b A (bv l):=by
 rcases (SeesN.of_own h hv none (by simp)).out with h|⟨ad,e,h0,h1,_,h2⟩
 ·exact ⟨.inl h⟩
 ·exact ⟨.inr ⟨ad,e,h1,.inr (by omega),h2⟩⟩
theorem SeesX.kept2 {w w' : World}{b:Nat}{A:Option Addr}{xs:List Value}{ob:Option Nat}(h:SeesX w b A xs) (hA:∀ad:Addr,A=some ad→some ad.block≠ob) (hs:w.heap.size≤w'.heap.size) (hk:∀k,k<w.heap.size→some k≠ob→w'.heap[k]?=w.heap[k]?):SeesX w' b A xs:=by
 rcases h.out with h|⟨ad,e,h1,h3,h2⟩
 ·exact ⟨.inl h⟩
 ·exact ⟨.inr ⟨ad,e,by omega,h3,fun j u hu=>(World.cell?_of_block (a:=ad.add j) (by rw[add_block];exact hk _ h1 (hA _ e))).trans (h2 j u hu)⟩⟩
structure Later (B:Nat) (w w' : World):Prop where
 size:w.heap.size≤w'.heap.size
 block:∀k,B≤k→k<w.heap.size→w'.heap[k]?=w.heap[k]?
theorem Later.trans {B:Nat}{w w' w'' : World}(h:Later B w w') (k:Later B w' w''):Later B w w'' :=
 ⟨Nat.le_trans h.size k.size,fun i h1 h2=>(k.block i h1 (Nat.lt_of_lt_of_le h2 h.size)).trans (h.block i h1 h2)⟩
theorem Later.of_below {B:Nat}{w w' : World}(h:Below w.heap.size w w'):Later B w w':=⟨h.size,fun k _ hk=>h.block k hk⟩
theorem SeesN.later {w w' : World}{base:Nat}{ob:Option Nat}{A:Option Addr}{xs:List Value}(h:SeesN w base ob A xs) (hl:Later base w w'):SeesN w' base ob A xs :=
 h.kept ob hl.size (fun b h0 h1 _=>hl.block b h0 h1) (fun _ _ _ h=>h)
theorem OwnS.later {w w' : World}{base:Nat}{v:Value}{ls:List (List UInt8)}(h:OwnS w base v ls) (hl:Later base w w'):OwnS w' base v ls:=by
 obtain ⟨vs,h1,h2⟩:=h.out
 refine ⟨vs,⟨h1.1,?_⟩,fun i hi => ?_⟩
 ·rcases h1.2 with h3|⟨g,cap,cur,hv,hg,hh,r⟩
  ·exact .inl h3
  ·exact .inr ⟨g,cap,cur,hv,hg,(hl.block g hg (Array.getElem?_eq_some_iff.1 hh).1).trans hh,r⟩
 ·obtain ⟨Ai,ci,h3,h4,h5⟩:=h2 i hi
  exact ⟨Ai,ci,h3,h4,h5.later hl⟩
structure St (w0 w:World) (A:Option Addr) (n c:Nat) (r:List UInt8) (e:Nat):Prop where
 err:OneErr w (w0.heap.size+1) e
 row:OneRow w w0.heap.size A n c
 len:r.length=n
 nc:n≤c
 small:n≤1000000
 sees:SeesX w w0.heap.size A (bv r)
 below:Below w0.heap.size w0 w
section
variable {w0 w : World} {A : Option Addr} {n c : Nat} {r : List UInt8} {e : Nat}
theorem St.size (h:St w0 w A n c r e):w0.heap.size+2≤w.heap.size:=lt_of_block h.err
theorem St.keep (h:St w0 w A n c r e) {w1:World}(hb:Below w.heap.size w w1):St w0 w1 A n c r e:=by
 have hs:=h.size
 exact ⟨(hb.block _ (by omega)).trans h.err,(hb.block _ (by omega)).trans h.row,h.len,h.nc,h.small,h.sees.kept hb.size (fun k hk _=>hb.block k hk),h.below.trans (hb.mono (by omega))⟩
theorem St.setErr (h:St w0 w A n c r e) (e' : Nat):St w0 (w.setCell ⟨w0.heap.size+1,0,none⟩ (.int .i64 (e' : Nat))) A n c r e':=by
 have hs:=h.size
 refine ⟨one_setCell h.err,?_,h.len,h.nc,h.small,h.sees.kept (by rw[World.size_setCell];exact Nat.le_refl _) (fun k _ hk=>Below.heap_setCell _ _ _ _ (by simp only;omega)),h.below.trans ?_⟩
 ·exact (Below.heap_setCell _ _ _ _ (by simp only;omega)).trans h.row
 ·exact ⟨rfl,rfl,rfl,by rw[World.size_setCell];exact Nat.le_refl _,fun k hk=>Below.heap_setCell _ _ _ _ (by simp only;omega)⟩
theorem St.grown (h:St w0 w A n c r e) {w' : World}{ob:Option Nat}(hg:w.grownBy w' ob) (hob:∀k,ob=some k→w0.heap.size+2≤k) (hA:∀ad:Addr,A=some ad→some ad.block≠ob):St w0 w' A n c r e:=by
 have hs:=h.size
 have hne:∀k,k<w0.heap.size+2→some k≠ob:=fun k hk e=>by have:=hob k e.symm;omega
 exact ⟨(hg.block _ (by omega) (hne _ (by omega))).trans h.err,(hg.block _ (by omega) (hne _ (by omega))).trans h.row,h.len,h.nc,h.small,h.sees.kept2 hA hg.size (fun k hk h2=>hg.block k hk h2),h.below.trans ((Below.refl _ w).grown hg (by omega) (fun k hk=>by have:=hob k hk;omega))⟩
theorem later_setCell (B:Nat) (w:World) (a:Addr) (u:Value) (h:a.block<B):Later B w (w.setCell a u) :=
 ⟨by rw[World.size_setCell];exact Nat.le_refl _,fun k h1 _=>Below.heap_setCell _ _ _ _ (by omega)⟩
theorem St.setRow (h:St w0 w A n c r e) {A' : Option Addr}{c' : Nat}{r' : List UInt8}(hc:r'.length≤c') (hs' : r'.length≤1000000) (hx:SeesX w w0.heap.size A' (bv r')):St w0 (w.setCell ⟨w0.heap.size,0,none⟩ (.slice A' r'.length c')) A' r'.length c' r' e:=by
 have hs:=h.size
 refine ⟨(Below.heap_setCell _ _ _ _ (by simp only;omega)).trans h.err,one_setCell h.row,rfl,hc,hs',hx.kept (by rw[World.size_setCell];exact Nat.le_refl _) (fun k _ hk=>Below.heap_setCell _ _ _ _ (by simp only;omega)),h.below.trans ?_⟩
 exact ⟨rfl,rfl,rfl,by rw[World.size_setCell];exact Nat.le_refl _,fun k hk=>Below.heap_setCell _ _ _ _ (by simp only;omega)⟩
theorem St.num_idle (h:St w0 w A n c r e) (he:e≠0) :
  Calls Tryz.prog 213 #[ptrTo (w0.heap.size+1),ptrTo w0.heap.size] w fun en w'=>en = .returned (.int .i64 0)∧w=w':=number_idle _ _ e he w h.err
def StErr (w0 w:World) (A:Option Addr) (n c:Nat) (r:List UInt8) (e:Nat) (en:Ending) (w' : World):Prop:=en = .returned (.int .i64 0)∧St w0 w' A n c r e∧Later (w0.heap.size+2) w w'
def StOk (w0 w:World) (u:Nat) (r:List UInt8) (en:Ending) (w' : World):Prop:=en = .returned (.int .i64 (u:Nat))∧∃A c,St w0 w' A r.length c r 0∧Later (w0.heap.size+2) w w'∧∀ad:Addr,A=some ad→w.heap.size≤ad.block
theorem St.num_err (h:St w0 w A n c r 0) (e:Nat) (he:(numR r).2.2=e) (he0:e≠0) :
  Calls Tryz.prog 213 #[ptrTo (w0.heap.size+1),ptrTo w0.heap.size] w (StErr w0 w A n c r e):=by
 refine (number_err _ _ A n c r h.len h.nc h.small w h.err h.row h.sees.sees e he he0).mono ?_
 rintro en w' ⟨rfl,w1,hb,rfl⟩
 exact ⟨rfl,(h.keep hb).setErr e,(Later.of_below hb).trans (later_setCell _ _ _ _ (by simp))⟩
theorem numR_len (l:List UInt8):(numR l).2.1.length≤l.length∧(numR l).1≤400:=by
 unfold numR
 split
 ·simp
 ·split
  ·simp
  ·simp only[List.length_drop];omega
theorem St.num_ok (h:St w0 w A n c r 0) (u:Nat) (r' : List UInt8) (he:numR r=(u,r',0)) :
  Calls Tryz.prog 213 #[ptrTo (w0.heap.size+1),ptrTo w0.heap.size] w (StOk w0 w u r'):=by
 have hs:=h.size
 refine (number_ok _ _ A n c r h.len h.nc h.small w h.err h.row h.sees.sees u r' he).mono ?_
 rintro en w' ⟨rfl,w1,v,hb,hown,rfl⟩
 obtain ⟨A1,c1,rfl,hc1,hm1,hown',hs1⟩:=hown.open_
 have hl:=(numR_len r).1
 rw[he] at hl
 refine ⟨rfl,A1,c1,(h.keep hb).setRow hc1 ?_ (SeesX.of_own hown' rfl (by omega)),(Later.of_below hb).trans (later_setCell _ _ _ _ (by simp)),fun ad e=>by subst e;exact ((World.ownsRow.lt hown') _ rfl).1⟩
 have:=h.small
 have:=h.len
 simp only at hl
 omega
end
end
section
open Go.RowKit
def itemsR:Nat→List (List UInt8)→List UInt8→List UInt8→List (List UInt8)×Nat
 | 0,acc,_,_=>(acc,0)
 | j+1,acc,p,r =>
  if (numR r).2.2≠0 then ([],(numR r).2.2) else if p.length<(numR r).1 then ([],11)
  else if (numR (numR r).2.1).2.2≠0 then ([],(numR (numR r).2.1).2.2) else if (numR (numR r).2.1).2.1.length<(numR (numR r).2.1).1 then ([],10)
  else itemsR j (acc ++ [p.take (numR r).1++(numR (numR r).2.1).2.1.take (numR (numR r).2.1).1]) (p.take (numR r).1++(numR (numR r).2.1).2.1.take (numR (numR r).2.1).1) ((numR (numR r).2.1).2.1.drop (numR (numR r).2.1).1)
def unpackR (b:List UInt8):List (List UInt8)×Nat :=
 if (numR b).2.2≠0 then ([],(numR b).2.2)
 else if (itemsR (numR b).1 [] [] (numR b).2.1).2≠0 then ([],(itemsR (numR b).1 [] [] (numR b).2.1).2)
 else if checkN (itemsR (numR b).1 [] [] (numR b).2.1).1=0∧packB (itemsR (numR b).1 [] [] (numR b).2.1).1=b then ((itemsR (numR b).1 [] [] (numR b).2.1).1,0) else ([],11)
theorem items_err1 {j:Nat}{acc:List (List UInt8)}{p r r1:List UInt8}{u e:Nat}(h:numR r=(u,r1,e)) (he:e≠0):itemsR (j+1) acc p r=([],e):=by
 simp only[itemsR,h];rw[if_pos he]
theorem items_big {j:Nat}{acc:List (List UInt8)}{p r r1:List UInt8}{u:Nat}(h:numR r=(u,r1,0)) (hu:p.length<u):itemsR (j+1) acc p r=([],11):=by
 simp only[itemsR,h];rw[if_neg (by simp),if_pos hu]
theorem items_err2 {j:Nat}{acc:List (List UInt8)}{p r r1 r2:List UInt8}{u v e:Nat}(h:numR r=(u,r1,0)) (hu:¬ p.length<u) (h2:numR r1=(v,r2,e)) (he:e≠0):itemsR (j+1) acc p r=([],e):=by
 simp only[itemsR,h,h2];rw[if_neg (by simp),if_neg hu,if_pos he]
theorem items_short {j:Nat}{acc:List (List UInt8)}{p r r1 r2:List UInt8}{u v:Nat}(h:numR r=(u,r1,0)) (hu:¬ p.length<u) (h2:numR r1=(v,r2,0)) (hv:r2.length<v):itemsR (j+1) acc p r=([],10):=by
 simp only[itemsR,h,h2];rw[if_neg (by simp),if_neg hu,if_neg (by simp),if_pos hv]
theorem items_more {j:Nat}{acc:List (List UInt8)}{p r r1 r2:List UInt8}{u v:Nat}(h:numR r=(u,r1,0)) (hu:¬ p.length<u) (h2:numR r1=(v,r2,0)) (hv:¬ r2.length<v) :
  itemsR (j+1) acc p r=itemsR j (acc ++ [p.take u++r2.take v]) (p.take u++r2.take v) (r2.drop v):=by
 simp only[itemsR,h,h2];rw[if_neg (by simp),if_neg hu,if_neg (by simp),if_neg hv]
end
section
open Go.RowKit
theorem strOf_eq (l r:List UInt8):((strOf l).toList==(strOf r).toList)=decide (l=r):=by
 rw[strOf_toList,strOf_toList,Bool.eq_iff_iff,beq_iff_eq,decide_eq_true_eq]
theorem BytesEqual_any (A B:Option Addr) (n m c d:Nat) (l r:List UInt8) (hn:l.length=n) (hm:r.length=m) (w:World) (hS:Sees w w.heap.size A (bv l)) (hS2:Sees w w.heap.size B (bv r)) :
  Calls Tryz.prog 114 #[.slice A n c,.slice B m d] w fun e w'=>e = .returned (.bool (decide (l=r)))∧w=w':=by
 have h1:=run_str w _ A n c l hS hn
 have h2:=run_str w _ B m d r hS2 hm
 have h3:=strOf_eq l r
 generalize decide (l=r)=X at h3 ⊢
 generalize strOf l=s at h1 h3
 generalize strOf r=t at h2 h3
 clear hn hm hS hS2
 go_enter Tryz.func114,Tryz.ntmps114
 go_wp2
 go_ret
 exact ⟨rfl,rfl⟩
end
section
open Go.RowKit
def UnpackIs (w:World) (b:List UInt8) (en:Ending) (w' : World):Prop :=
 ∃v,en = .returned (.tuple #[v,.int .i64 ((unpackR b).2:Nat)])∧OwnS w' (w.heap.size+2) v (unpackR b).1∧Below w.heap.size w w'
theorem St.init (w:World) (A:Option Addr) (n c:Nat) (b:List UInt8) (hn:b.length=n) (hnc:n≤c) (hsm:n≤1000000) (hS:Sees w w.heap.size A (bv b)) :
  St w ((w.alloc (.cells #[.slice A n c] 48)).alloc (.cells #[.int .i64 0] 31)) A n c b 0:=by
 have hb1:Below w.heap.size w (w.alloc (.cells #[.slice A n c] 48)):=(Below.refl _ w).alloc (Nat.le_refl _) _
 have hs1:(w.alloc (.cells #[.slice A n c] 48)).heap.size=w.heap.size+1:=by simp
 have hb2:Below (w.heap.size+1) (w.alloc (.cells #[.slice A n c] 48)) ((w.alloc (.cells #[.slice A n c] 48)).alloc (.cells #[.int .i64 0] 31)):=(Below.refl _ _).alloc (by omega) _
 have hb:Below w.heap.size w ((w.alloc (.cells #[.slice A n c] 48)).alloc (.cells #[.int .i64 0] 31)):=hb1.trans (hb2.mono (by omega))
 refine ⟨?_,?_,hn,hnc,hsm,?_,hb⟩
 ·have:=heap_alloc_new (w.alloc (.cells #[.slice A n c] 48)) (.cells #[.int .i64 0] 31)
  rw[hs1] at this
  exact this
 ·exact (hb2.block _ (by omega)).trans (heap_alloc_new w _)
 ·exact SeesX.of_sees (hS.below hb) hb.size
theorem Unpack_first (A:Option Addr) (n c:Nat) (b:List UInt8) (hn:b.length=n) (hnc:n≤c) (hsm:n≤1000000) (w:World) (hS:Sees w w.heap.size A (bv b)) (u e:Nat) (r:List UInt8) (hnum:numR b=(u,r,e)) (he:e≠0) :
  Calls Tryz.prog 154 #[.slice A n c] w (UnpackIs w b):=by
 have hU:Hid (unpackR b=([],e)):=by unfold Hid unpackR;rw[hnum];simp only;rw[if_pos he]
 have he2:=Lib.hid (show (numR b).2.2=e by rw[hnum])
 have he1:((e:Int) != 0)=true:=by rw[bne_iff_ne];omega
 have hN:=Lib.hid hn
 have he0:=Lib.hid he
 clear hnum he hn
 go_enter Tryz.func154,Tryz.ntmps154
 go_wp2_with fail
 refine (St.num_err (w0:=w) (A:=A) (n:=n) (c:=c) (r:=b) ?st e he2.out he0.out).mono ?_
 case st=>exact St.init w A n c b hN.out hnc hsm hS
 rintro en w1 ⟨rfl,hst,hlt⟩
 have hc1:=cell_of_one hst.err
 go_wp2_with fail
 go_loopg [17] 0 (fun g i wr=>i = .int .i64 0∧wr=w1)
 case atStart=>exact ⟨rfl,rfl⟩
 case round =>
  obtain ⟨rfl,rfl⟩:=hrel
  go_wp2
  go_quiet (fail)
  go_wp2
  go_ret2
  unfold UnpackIs
  rw[hU.out]
  exact ⟨_,rfl,OwnS.nil _ _,below_d hst.below _⟩
def unpackOf (b:List UInt8) (X:List (List UInt8)×Nat):List (List UInt8)×Nat :=
 if X.2≠0 then ([],X.2) else if checkN X.1=0∧packB X.1=b then (X.1,0) else ([],11)
theorem Unpack_rest (A:Option Addr) (n c:Nat) (b:List UInt8) (hn:b.length=n) (hnc:n≤c) (hsm:n≤1000000) (w:World) (hS:Sees w w.heap.size A (bv b)) (u:Nat) (r:List UInt8) (hnum:numR b=(u,r,0)) :
  Calls Tryz.prog 154 #[.slice A n c] w (UnpackIs w b):=by
 obtain ⟨X,hX⟩:∃X,itemsR u [] [] r=X:=⟨_,rfl⟩
 have hU:Hid (unpackR b=unpackOf b X):=by unfold Hid unpackR unpackOf;rw[hnum];simp only;rw[if_neg (by simp),hX]
 have hu4:u≤400:=by have:=(numR_len b).2;rw[hnum] at this;exact this
 have hN:=Lib.hid hn
 have hNum:=Lib.hid hnum
 have HX:=Lib.hid hX
 clear hn hX hnum
 go_enter Tryz.func154,Tryz.ntmps154
 go_wp2_with fail
 refine (St.num_ok (w0:=w) (A:=A) (n:=n) (c:=c) (r:=b) ?st u r hNum.out).mono ?_
 case st=>exact St.init w A n c b hN.out hnc hsm hS
 rintro en w1 ⟨rfl,A1,c1,hst1,hlt1, -⟩
 clear hlt1
 go_wp2_with fail
 go_loopg [7,8,17] u (fun g lv a i wr=>∃(k:Nat) (ls:List (List UInt8)) (P:List UInt8) (Ah:Option Addr) (ch:Nat) (Ar:Option Addr) (cr:Nat) (q:List UInt8),k+g=u∧i = .int .i64 k∧OwnS wr (w.heap.size+2) lv ls∧ls.length=k∧a = .slice Ah P.length ch∧P.length≤ch∧P.length≤400*k∧SeesN wr (w.heap.size+2) lv.ownBlock Ah (bv P)∧St w wr Ar q.length cr q 0∧Hid (X=itemsR (u - k) ls P q))
 case atStart=>exact ⟨0, [], [],none,0,A1,c1,r,by omega,rfl,OwnS.nil _ _,rfl,rfl,by simp,by simp,⟨.inl rfl⟩,hst1,by unfold Hid;rw[Nat.sub_zero];exact HX.out.symm⟩
 case round =>
  obtain ⟨k,ls,P,Ah,ch,Ar,cr,q,hk,rfl,hown,hlk,rfl,hPc,hPl,hsP,hst,heq⟩:=hrel
  by_cases hlt:k<u
  ·obtain ⟨j,hj⟩:∃j,u - k=j+1:=⟨u - k - 1,by omega⟩
   rw[hj] at heq
   obtain ⟨u1,q1,e1,h1⟩:∃u1 q1 e1,numR q=(u1,q1,e1):=⟨_,_,_,rfl⟩
   by_cases he1:e1=0
   ·subst he1
    have hu1:u1≤400:=by have:=(numR_len q).2;rw[h1] at this;exact this
    by_cases hbig:P.length<u1
    ·have HF:Hid (unpackR b=([],11)):=by unfold Hid;rw[hU.out,heq.out,items_big h1 hbig];rfl
     have h1H:=Lib.hid h1
     clear heq h1 hj
     go_wp2_with fail
     refine (hst.num_ok u1 q1 h1H.out).mono ?_
     rintro en w2 ⟨rfl,A2,c2,hst2,hl2, -⟩
     have hcF:=cell_of_one hst2.err
     have hfF:=free_of_one hst2.err
     have hst3:=hst2.setErr 11
     have hcF3:=cell_of_one hst3.err
     go_wp2_with fail
     refine (hst3.num_idle (by decide)).mono ?_
     rintro en w3 ⟨rfl,rfl⟩
     go_wp2_with fail
     go_quiet (fail)
     go_wp2
     go_ret2
     unfold UnpackIs
     rw[HF.out]
     exact ⟨_,rfl,OwnS.nil _ _,below_d hst3.below _⟩
    ·obtain ⟨u2,q2,e2,h2⟩:∃u2 q2 e2,numR q1=(u2,q2,e2):=⟨_,_,_,rfl⟩
     by_cases he2:e2=0
     ·subst he2
      have hu2:u2≤400:=by have:=(numR_len q1).2;rw[h2] at this;exact this
      have h1H:=Lib.hid h1
      have h2H:=Lib.hid h2
      by_cases hsh:q2.length<u2
      ·have HF:Hid (unpackR b=([],10)):=by unfold Hid;rw[hU.out,heq.out,items_short h1 hbig h2 hsh];rfl
       clear heq h1 h2 hj
       go_wp2_with fail
       refine (hst.num_ok u1 q1 h1H.out).mono ?_
       rintro en w2 ⟨rfl,A2,c2,hst2,hl2, -⟩
       have hcF:=cell_of_one hst2.err
       go_wp2_with fail
       refine (hst2.num_ok u2 q2 h2H.out).mono ?_
       rintro en w3 ⟨rfl,A3,c3,hst3,hl3,hA3⟩
       have hcF3:=cell_of_one hst3.err
       have hfF3:=free_of_one hst3.err
       have hcR3:=cell_of_one hst3.row
       have hst4:=hst3.setErr 10
       have hcF4:=cell_of_one hst4.err
       go_wp2_with fail
       go_quiet (fail)
       go_wp2
       go_ret2
       unfold UnpackIs
       rw[HF.out]
       exact ⟨_,rfl,OwnS.nil _ _,below_d hst4.below _⟩
      ·obtain ⟨L1,hL1⟩:∃L1,P.take u1=L1:=⟨_,rfl⟩
       obtain ⟨L2,hL2⟩:∃L2,q2.take u2=L2:=⟨_,rfl⟩
       have hL1n:L1.length=u1:=by rw[←hL1,List.length_take];omega
       have hL2n:L2.length=u2:=by rw[←hL2,List.length_take];omega
       have HT:Hid (X=itemsR j (ls ++ [L1++L2]) (L1++L2) (q2.drop u2)):=by unfold Hid;rw[heq.out,items_more h1 hbig h2 hsh,hL1,hL2]
       have HJ:=Lib.hid hj
       have HL1:=Lib.hid hL1
       have HL2:=Lib.hid hL2
       have HN1:=Lib.hid hL1n
       have HN2:=Lib.hid hL2n
       clear heq h1 h2 hj hL1 hL2 hL1n hL2n
       go_wp2_with fail
       refine (hst.num_ok u1 q1 h1H.out).mono ?_
       rintro en w2 ⟨rfl,A2,c2,hst2,hl2, -⟩
       have hcF:=cell_of_one hst2.err
       go_wp2_with fail
       refine (hst2.num_ok u2 q2 h2H.out).mono ?_
       rintro en w3 ⟨rfl,A3,c3,hst3,hl3,hA3⟩
       have hcF3:=cell_of_one hst3.err
       have hcR3:=cell_of_one hst3.row
       have hc3:=hst3.nc
       have k1:(u1:Int)≤(ch:Int):=by omega
       have k2:(u2:Int)≤(c3:Int):=by omega
       have k3:(0:Int)≤(u1:Int):=by omega
       have k4:(0:Int)≤(u2:Int):=by omega
       go_wp2_with fail
       go_still_tail 6,(by kernel_rfl)
       change wpList _ _ _ _ _ w3.drew
       have hdr:Below w3.heap.size w3 w3.drew:=⟨rfl,rfl,rfl,Nat.le_refl _,fun _ _=>rfl⟩
       have hst4:=hst3.keep hdr
       have hl4:=(hl2.trans hl3).trans (Later.of_below (B:=w.heap.size+2) hdr)
       have hA4:∀ad:Addr,A3=some ad→wr.heap.size≤ad.block:=fun ad e=>Nat.le_trans hl2.size (hA3 ad e)
       generalize w3.drew=W at hst4 hl4 ⊢
       have hown4:=hown.later hl4
       have hsP4:=hsP.later hl4
       have hob:Hid (∀k,u7.ownBlock=some k→w.heap.size+2≤k∧k<wr.heap.size):=by obtain ⟨vs,g1,_⟩:=hown.out;exact World.ownsRow.lt g1
       have hall:∀i (hi:i < [L1,L2].length),([L1,L2][i]).length≤1000000:=by
        intro i hi
        match i,hi with
        | 0,_=>show L1.length≤_;rw[HN1.out];omega
        | 1,_=>show L2.length≤_;rw[HN2.out];omega
       have hCc:=Lib.hid (Concat_any (some ⟨W.heap.size,0,none⟩) 2 2 [L1,L2] rfl _ (sees2_pair W Ah A3 u1 u2 ch c3 L1 L2 HN1.out HN2.out (by omega) (by omega) (by rw[←HL1.out,bv_take];exact hsP4.sees.take _) (by rw[←HL2.out,bv_take];exact hst4.sees.sees.take _) 48) (by omega) hall)
       clear hall hst3 hst2 hcF hcF3 hcR3 hdr hA3 hst
       go_wp2_with fail
       refine hCc.out.mono ?_
       rintro en w6 ⟨v6,rfl,hown6,hon6⟩
       rw[show [L1,L2].flatten=L1++L2 from by simp] at hown6
       obtain ⟨F,hF⟩:∃F,L1++L2=F:=⟨_,rfl⟩
       rw[hF] at hown6 HT
       have hFl:Hid (F.length=u1+u2):=by unfold Hid;rw[←hF,List.length_append,HN1.out,HN2.out]
       have HF:=Lib.hid hF
       clear hF
       have hbW6:Below W.heap.size W w6:=((Below.refl _ W).alloc (Nat.le_refl _) _).trans (hon6.below_nil.mono (by simp))
       have hs6:=hbW6.size
       obtain ⟨A6,c6,rfl,hc6,hm6,hown6', -⟩:=hown6.open_
       have hlt6:=(World.ownsRow.lt hown6')
       have hWs:W.heap.size≤(W.alloc (.cells #[.slice Ah u1 ch,.slice A3 u2 c3] 48)).heap.size:=by simp
       have hWr:=hl4.size
       have hst4s:=hst4.size
       have hsF:SeesN w6 (w.heap.size+2) u7.ownBlock A6 (bv F):=SeesN.of_own (hown6'.base_le (by omega)) rfl _ (fun bk e1 e2=>by
        have g1:=(hlt6 bk e1).1
        have g2:=(hob.out bk e2.symm).2
        omega)
       have hst6:=hst4.keep hbW6
       have hown5:=hown4.below hbW6
       have hb67:Below w6.heap.size w6 (w6.alloc (.cells #[.slice A6 F.length c6] 48)):=(Below.refl _ w6).alloc (Nat.le_refl _) _
       have hA4' : ∀(ad:Addr) (bk:Nat),A3=some ad→u7.ownBlock=some bk→ad.block≠bk:=fun ad bk e1 e2 e3=>by
        have g1:=hA4 ad e1
        have g2:=(hob.out bk e2).2
        omega
       go_wp2_with (at_builtin;refine wpList_append_s rfl (.tmp 50) (.tmp 52) rfl (w.heap.size+2) u7 ls (by rfl) (hown5.below hb67) ⟨w6.heap.size,0,none⟩ 1 F A6 c6 (by rfl) (by rw[World.cell?_alloc_at _ _ _ _ rfl];rfl) hc6 (hsF.below hb67) (by omega) (by simp;omega) ?_;intro v8 w8 hown8 hg8 ho8;have hst8:St w w8 A3 q2.length c3 q2 0:=(hst6.keep hb67).grown hg8 (fun bk e1=>(hob.out bk e1).1) (fun ad e1 e2=>hA4' ad ad.block e1 e2.symm rfl);have hcR8:=cell_of_one hst8.row;have hfR8:=free_of_one hst8.row)
       all_goals
        have hb8:SeesN w8 (w.heap.size+2) v8.ownBlock A6 (bv F):=(hsF.below hb67).kept _ hg8.size (fun bk _ e2 e3=>hg8.block bk e2 e3) (fun bk _ e2 e3=>by
         rcases ho8 with e|e
         ·rw[e];exact e3
         ·rw[e];intro e4;injection e4 with e4;omega)
        have hrl:(q2.drop u2).length=q2.length - u2:=List.length_drop
        have hq3:=hst8.nc
        have hqs:=hst8.small
        have hx8:SeesX w8 w.heap.size (if c3=u2 then A3 else A3.map (fun x=>x.add u2)) (bv (q2.drop u2)):=by rw[bv_drop];exact hst8.sees.cut (by rw[bv_length];exact hq3)
        have hFl':=hFl.out
       ·have hcu:c3=u2:=by assumption
        rw[if_pos hcu] at hx8
        have hst9:St w (w8.setCell ⟨w.heap.size,0,none⟩ (.slice A3 (q2.length - u2) 0)) A3 (q2.drop u2).length 0 (q2.drop u2) 0:=by
         rw[←hrl];exact hst8.setRow (by omega) (by omega) hx8
        go_roundg (u - (k+1))
        case measure=>omega
        case rel=>exact ⟨k+1,ls ++ [F],F,A6,c6,A3,0,q2.drop u2,by omega,by go_num,hown8.setCell (by simp only;omega) _,by simp;omega,rfl,hc6,by omega,hb8.setCell (by simp only;omega) _,hst9,by have h1:=HT.out;have h2:=HJ.out;unfold Hid;rw[h1,show u - (k+1)=j from by omega]⟩
       ·have hcu:¬ c3=u2:=by assumption
        rw[if_neg hcu] at hx8
        have hst9:St w (w8.setCell ⟨w.heap.size,0,none⟩ (.slice (A3.map (fun x=>x.add u2)) (q2.length - u2) (c3 - u2))) (A3.map (fun x=>x.add u2)) (q2.drop u2).length (c3 - u2) (q2.drop u2) 0:=by
         rw[←hrl];exact hst8.setRow (by omega) (by omega) hx8
        go_roundg (u - (k+1))
        case measure=>omega
        case rel=>exact ⟨k+1,ls ++ [F],F,A6,c6,A3.map (fun x=>x.add u2),c3 - u2,q2.drop u2,by omega,by go_num,hown8.setCell (by simp only;omega) _,by simp;omega,rfl,hc6,by omega,hb8.setCell (by simp only;omega) _,hst9,by have h1:=HT.out;have h2:=HJ.out;unfold Hid;rw[h1,show u - (k+1)=j from by omega]⟩
     ·have HF:Hid (unpackR b=([],e2)):=by unfold Hid;rw[hU.out,heq.out,items_err2 h1 hbig h2 he2];unfold unpackOf;rw[if_pos he2]
      have h1H:=Lib.hid h1
      have h2H:=Lib.hid (show (numR q1).2.2=e2 by rw[h2])
      have he2' : ((e2:Int) != 0)=true:=by rw[bne_iff_ne];omega
      have he2'' : ((e2:Int)==0)=false:=by rw[beq_eq_false_iff_ne];omega
      have HE:=Lib.hid he2
      clear heq h1 h2 hj he2
      go_wp2_with fail
      refine (hst.num_ok u1 q1 h1H.out).mono ?_
      rintro en w2 ⟨rfl,A2,c2,hst2,hl2, -⟩
      have hcF:=cell_of_one hst2.err
      go_wp2_with fail
      refine (hst2.num_err e2 h2H.out HE.out).mono ?_
      rintro en w3 ⟨rfl,hst3,hl3⟩
      have hcF3:=cell_of_one hst3.err
      go_wp2_with fail
      go_quiet (fail)
      go_wp2
      go_ret2
      unfold UnpackIs
      rw[HF.out]
      exact ⟨_,rfl,OwnS.nil _ _,below_d hst3.below _⟩
   ·have HF:Hid (unpackR b=([],e1)):=by unfold Hid;rw[hU.out,heq.out,items_err1 h1 he1];unfold unpackOf;rw[if_pos he1]
    have h1H:=Lib.hid (show (numR q).2.2=e1 by rw[h1])
    have he1' : ((e1:Int) != 0)=true:=by rw[bne_iff_ne];omega
    have he1'' : ((e1:Int)==0)=false:=by rw[beq_eq_false_iff_ne];omega
    have HE:=Lib.hid he1
    clear heq h1 hj he1
    go_wp2_with fail
    refine (hst.num_err e1 h1H.out HE.out).mono ?_
    rintro en w2 ⟨rfl,hst2,hl2⟩
    have hcF:=cell_of_one hst2.err
    go_wp2_with fail
    refine (hst2.num_idle HE.out).mono ?_
    rintro en w3 ⟨rfl,rfl⟩
    go_wp2_with fail
    go_quiet (fail)
    go_wp2
    go_ret2
    unfold UnpackIs
    rw[HF.out]
    exact ⟨_,rfl,OwnS.nil _ _,below_d hst2.below _⟩
  ·obtain rfl:k=u:=by omega
   have HXX:Hid (X=(ls,0)):=by have:=heq.out;rw[Nat.sub_self] at this;exact this
   obtain ⟨Al,cl,rfl,hcl,hs2⟩:=hown.open_
   have hcF:=cell_of_one hst.err
   have hP:=Pack_any Al ls.length cl ls rfl wr hs2 (by omega)
   unfold PackIs at hP
   have hsb:=hst.below
   clear heq
   by_cases hck:checkN ls=0
   ·rw[hck] at hP
    simp only[if_true] at hP
    have HP:=Lib.hid hP
    clear hP
    obtain ⟨PB,hPB⟩:∃PB,packB ls=PB:=⟨_,rfl⟩
    rw[hPB] at HP
    have HU:Hid (unpackR b=if PB=b then (ls,0) else ([],11)):=by
     unfold Hid
     rw[hU.out,HXX.out]
     unfold unpackOf
     simp only[hck,hPB,true_and]
     rw[if_neg (by simp)]
    have HL:=Lib.hid hlk
    clear hck hPB hlk
    by_cases heb:PB=b
    ·have HB:decide (PB=b)=true:=by simpa using heb
     have HE:=Lib.hid heb
     clear heb
     go_wp2_with fail
     refine HP.out.mono ?_
     rintro en w2 ⟨v2,rfl,hown2,hb2⟩
     obtain ⟨A2,c2,rfl,hc2,hm2,hown2',hs2'⟩:=hown2.open_
     have hEq:=BytesEqual_any A2 A PB.length n c2 c PB b rfl hN.out w2 hs2' ((hS.below (hsb.trans (hb2.mono hsb.size))).more (hsb.trans (hb2.mono hsb.size)).size)
     rw[HB] at hEq
     have HEq:=Lib.hid hEq
     clear hEq HB
     go_wp2_with fail
     refine HEq.out.mono ?_
     rintro en w3 ⟨rfl,rfl⟩
     go_wp2_with fail
     go_ret2
     unfold UnpackIs
     rw[HU.out,if_pos HE.out]
     exact ⟨_,rfl,hown.below hb2,hsb.trans (hb2.mono hsb.size)⟩
    ·have HB:decide (PB=b)=false:=by simpa using heb
     have HE:=Lib.hid heb
     clear heb
     go_wp2_with fail
     refine HP.out.mono ?_
     rintro en w2 ⟨v2,rfl,hown2,hb2⟩
     obtain ⟨A2,c2,rfl,hc2,hm2,hown2',hs2'⟩:=hown2.open_
     have hEq:=BytesEqual_any A2 A PB.length n c2 c PB b rfl hN.out w2 hs2' ((hS.below (hsb.trans (hb2.mono hsb.size))).more (hsb.trans (hb2.mono hsb.size)).size)
     rw[HB] at hEq
     have HEq:=Lib.hid hEq
     clear hEq HB
     go_wp2_with fail
     refine HEq.out.mono ?_
     rintro en w3 ⟨rfl,rfl⟩
     go_wp2_with fail
     go_ret2
     unfold UnpackIs
     rw[HU.out,if_neg HE.out]
     exact ⟨_,rfl,OwnS.nil _ _,hsb.trans (hb2.mono hsb.size)⟩
   ·have HU:Hid (unpackR b=([],11)):=by
     unfold Hid
     rw[hU.out,HXX.out]
     unfold unpackOf
     simp only
     rw[if_neg (by simp),if_neg (by simp[hck])]
    rw[if_neg hck] at hP
    obtain ⟨ck,hck'⟩:∃ck,checkN ls=ck:=⟨_,rfl⟩
    rw[hck'] at hP hck
    have HP:=Lib.hid hP
    have hz:((ck:Int) != 0)=true:=by rw[bne_iff_ne];omega
    clear hP hck hck' hlk
    go_wp2_with fail
    refine HP.out.mono ?_
    rintro en w2 ⟨v2,rfl,hown2,hb2⟩
    go_wp2_with fail
    go_ret2
    unfold UnpackIs
    rw[HU.out]
    exact ⟨_,rfl,OwnS.nil _ _,hsb.trans (hb2.mono hsb.size)⟩
theorem Unpack_any (A:Option Addr) (n c:Nat) (b:List UInt8) (hn:b.length=n) (hnc:n≤c) (hsm:n≤1000000) (w:World) (hS:Sees w w.heap.size A (bv b)) :
  Calls Tryz.prog 154 #[.slice A n c] w (UnpackIs w b):=by
 obtain ⟨u,r,e,hnum⟩:∃u r e,numR b=(u,r,e):=⟨_,_,_,rfl⟩
 by_cases he:e=0
 ·subst he
  exact Unpack_rest A n c b hn hnc hsm w hS u r hnum
 ·exact Unpack_first A n c b hn hnc hsm w hS u e r hnum he
end
section
open Go.RowKit
theorem Sees2.drew {w:World}{B:Nat}{A:Option Addr}{ls:List (List UInt8)}(h:Sees2 w B A ls) (q:Nat):Sees2 (w.drewN q) B A ls :=
 ⟨fun i hi=>by
  obtain ⟨ad,Ai,ci,h1,h2,h3,h4,h5⟩:=h.out i hi
  exact ⟨ad,Ai,ci,h1,h2,h3,h4,h5.drewN q⟩⟩
theorem Sees2.more {w:World}{B B' : Nat}{A:Option Addr}{ls:List (List UInt8)}(h:Sees2 w B A ls) (hB:B≤B'):Sees2 w B' A ls :=
 ⟨fun i hi=>by
  obtain ⟨ad,Ai,ci,h1,h2,h3,h4,h5⟩:=h.out i hi
  exact ⟨ad,Ai,ci,h1,by omega,h3,h4,h5.more hB⟩⟩
theorem Sees2.nil (w:World) (B:Nat) (A:Option Addr):Sees2 w B A []:=⟨fun i hi=>absurd hi (by simp)⟩
theorem Sees2.take {w:World}{B:Nat}{A:Option Addr}{ls:List (List UInt8)}(h:Sees2 w B A ls) (k:Nat):Sees2 w B A (ls.take k) :=
 ⟨fun i hi=>by
  have hi2:i<ls.length:=by rw[List.length_take] at hi;omega
  obtain ⟨ad,Ai,ci,h1,h2,h3,h4,h5⟩:=h.out i hi2
  rw[List.getElem_take]
  exact ⟨ad,Ai,ci,h1,h2,h3,h4,h5⟩⟩
theorem Sees2.cut {w:World}{B:Nat}{A:Option Addr}{ls:List (List UInt8)}(h:Sees2 w B A ls) {k cap:Nat}(hc:ls.length≤cap):Sees2 w B (if cap=k then A else A.map (fun x=>x.add k)) (ls.drop k) :=
 ⟨fun i hi=>by
  rw[List.length_drop] at hi
  have hi2:k+i<ls.length:=by omega
  obtain ⟨ad,Ai,ci,rfl,h2,h3,h4,h5⟩:=h.out (k+i) hi2
  rw[List.getElem_drop,if_neg (by omega)]
  exact ⟨ad.add k,Ai,ci,rfl,by rw[add_block];exact h2,by rw[add_add'];exact h3,h4,h5⟩⟩
structure OwnT (w:World) (base:Nat) (v:Value) (lls:List (List (List UInt8))):Prop where
 out:∃vs:List Value,w.ownsRow base 47 1 v lls.length vs∧∀i (hi:i<lls.length),∃Ai ci,vs[i]?=some (.slice Ai (lls[i]).length ci)∧(lls[i]).length≤ci∧Sees2 w base Ai lls[i]
theorem OwnT.nil (w:World) (base:Nat):OwnT w base (.slice none 0 0) []:=⟨[],World.ownsRow_nil w base _ 1,fun i hi=>absurd hi (by simp)⟩
theorem OwnT.open_ {w:World}{base:Nat}{v:Value}{lls:List (List (List UInt8))}(h:OwnT w base v lls):∃A c,v = .slice A lls.length c∧lls.length≤c ∧
  ∀i (hi:i<lls.length),∃ad Ai ci,A=some ad∧ad.block<w.heap.size∧w.cell? (ad.add i)=some (.slice Ai (lls[i]).length ci)∧(lls[i]).length≤ci∧Sees2 w base Ai lls[i]:=by
 obtain ⟨vs,h1,h2⟩:=h.out
 rcases h1.2 with ⟨rfl,hn⟩|⟨g,cap,cur,rfl,hb,hh,hc,hm,_⟩
 ·have:lls = []:=List.eq_nil_of_length_eq_zero hn
  subst this
  exact ⟨none,0,rfl,by simp,fun i hi=>absurd hi (by simp)⟩
 ·refine ⟨_,cap,rfl,hc,fun i hi => ?_⟩
  obtain ⟨Ai,ci,h3,h4,h5⟩:=h2 i hi
  exact ⟨_,Ai,ci,rfl,(Array.getElem?_eq_some_iff.1 hh).1,h1.cells (g:=g) rfl i _ h3,h4,h5⟩
theorem OwnT.below {w w' : World}{base:Nat}{v:Value}{lls:List (List (List UInt8))}(h:OwnT w base v lls) (hb:Below w.heap.size w w') (hbase:base≤w.heap.size):OwnT w' base v lls:=by
 obtain ⟨vs,h1,h2⟩:=h.out
 refine ⟨vs,World.ownsRow.kept (row:=none) h1 ⟨hb.os,hb.tape,hb.output,hb.size,fun k hk _=>hb.block k hk⟩ (by cases v.ownBlock<;>simp),fun i hi => ?_⟩
 obtain ⟨Ai,ci,h3,h4,h5⟩:=h2 i hi
 exact ⟨Ai,ci,h3,h4,h5.below (hb.mono hbase)⟩
theorem Tryz.tinfo:(Tryz.prog.info? 47).map (fun i=>(i.zero,i.size,i.bytes))=some (some (.slice none 0 0),1,24):=by kernel_rfl
theorem wpList_append_t {w:World}{ops:Array Oper}{rest:List Oper}{o:Oper}{a:Act}{Q:Exit→Act→World→Prop}(hgd:o.guard=none) (s x:Operand)
  (ho:o.op = .call { callee := .builtin .append,args := #[s,x],argTypes := #[72,72] })
  (base:Nat) (v:Value) (lls:List (List (List UInt8))) (hs:a.eval s=v) (hown:OwnT w base v lls) (ad:Addr) (c:Nat) (y:List (List UInt8)) (Ay:Option Addr) (cy:Nat)
  (hx:a.eval x = .slice (some ad) 1 c) (hy:w.cell? ad=some (.slice Ay y.length cy)) (hyc:y.length≤cy) (hsee:Sees2 w base Ay y)
  (hlen:lls.length≤1000000) (hbase:base≤w.heap.size)
  (h:∀v' w',OwnT w' base v' (lls ++ [y])→Onto w w' v v'→Below base w w'→wpList Tryz.prog ops Q rest (a.put o.dst v') w'):wpList Tryz.prog ops Q (o :: rest) a w:=by
 obtain ⟨i,hi,hz0,hz1,hz2⟩:=info_parts Tryz.tinfo
 obtain ⟨vs,h1,h2⟩:=hown.out
 have hvs:vs.length=lls.length:=by have:=h1.1;omega
 refine wpList_append_own_at w hgd s x 72 ho base 47 i _ 1 24 Tryz.underlying72 hi hz0 hz1 hz2 rfl (by omega) v lls.length vs hs h1 ad 1 c [Value.slice Ay y.length cy] hx rfl
  (fun j u hu=>by
   match j,hu with
   | 0,hu =>
    simp at hu
    subst hu
    simpa[Addr.add] using hy)
  (fun u hu=>by simp at hu;subst hu;rfl) (by simp only[maxLen];omega) (by omega) hbase
  (fun v' w' g1 g2 _ g4 => ?_)
 have hb:Below base w w':=(Below.refl _ w).grown g2 hbase (fun k hk=>((World.ownsRow.lt h1) k hk).1)
 refine h v' w' ⟨vs ++ [.slice Ay y.length cy],by rw[List.length_append];exact g1,fun i hi => ?_⟩ ⟨g2,?_⟩ hb
 ·by_cases hlt:i<lls.length
  ·obtain ⟨Ai,ci,h3,h4,h5⟩:=h2 i hlt
   rw[List.getElem_append_left hlt,List.getElem?_append_left (by omega)]
   exact ⟨Ai,ci,h3,h4,h5.below hb⟩
  ·have he:i=lls.length:=by simp at hi;omega
   subst he
   rw[List.getElem_append_right (Nat.le_refl _),List.getElem?_append_right (by omega)]
   refine ⟨Ay,cy,?_,?_,?_⟩
   ·simp[hvs]
   ·simpa using hyc
   ·simpa using hsee.below hb
 ·rcases g4 with g4|g4
  ·exact .inl g4
  ·exact .inr ⟨_,g4,Nat.le_refl _⟩
theorem OwnT.alloc {w:World}{base:Nat}{v:Value}{lls:List (List (List UInt8))}(h:OwnT w base v lls) (hb:base≤w.heap.size) (o:Obj):OwnT (w.alloc o) base v lls:=h.below ((Below.refl _ w).alloc (Nat.le_refl _) o) hb
end
section
open Go.RowKit
def blk (ls:List (List UInt8)):List (List (List UInt8)):=if ls.length=0 then [] else ls.take 8 :: blk (ls.drop 8)
termination_by ls.length
decreasing_by rw[List.length_drop];omega
theorem blk_nil {ls:List (List UInt8)}(h:ls.length=0):blk ls = []:=by rw[blk,if_pos h]
theorem blk_cons {ls:List (List UInt8)}(h:0<ls.length):blk ls=ls.take 8 :: blk (ls.drop 8):=by rw[blk,if_neg (by omega)]
def SplitIs (w:World) (ls:List (List UInt8)) (e:Ending) (w' : World):Prop:=∃v,e = .returned v∧OwnT w' w.heap.size v (blk ls)∧Below w.heap.size w w'
theorem Split_any (A:Option Addr) (n c:Nat) (ls:List (List UInt8)) (hn:ls.length=n) (hnc:n≤c) (w:World) (hS:Sees2 w w.heap.size A ls) (hlen:n≤1000000) :
  Calls Tryz.prog 146 #[.slice A n c] w (SplitIs w ls):=by
 obtain ⟨X,hX⟩:∃X,blk ls=X:=⟨_,rfl⟩
 have HX:=Lib.hid hX
 have HN:=Lib.hid hn
 clear hn hX
 go_enter Tryz.func146,Tryz.ntmps146
 go_wp2
 go_loopg [0,3] n (fun g l o wr=>∃(ms:List (List UInt8)) (Am:Option Addr) (cm:Nat) (done:List (List (List UInt8))),ms.length=g∧g≤n∧g≤cm∧l = .slice Am g cm∧Sees2 wr w.heap.size Am ms∧OwnT wr w.heap.size o done∧done.length+g≤n∧Hid (X=done++blk ms)∧Below w.heap.size w wr)
 case atStart=>exact ⟨ls,A,c, [],HN.out,Nat.le_refl _,hnc,rfl,hS,OwnT.nil _ _,by simp,HX.out.symm,Below.refl _ _⟩
 case round =>
  obtain ⟨ms,Am,cm,done,hg,hgn,hgc,rfl,hSm,hown,hdl,heq,hbr⟩:=hrel
  have hsr:=hbr.size
  by_cases h0:0<gk
  ·obtain ⟨j,hj⟩:∃j:Nat,min gk 8=j:=⟨_,rfl⟩
   have hj1:1≤j:=by omega
   have hjg:j≤gk:=by omega
   have hmin:min (gk:Int) 8=(j:Int):=by omega
   have hstep:Hid (X=(done ++ [ms.take j])++blk (ms.drop j)):=by
    unfold Hid
    rw[heq.out,blk_cons (by omega),List.append_assoc]
    congr 1
    by_cases h8:8≤gk
    ·rw[show j=8 from by omega];rfl
    ·rw[show j=gk from by omega,List.take_of_length_le (by omega),List.take_of_length_le (by omega),List.drop_of_length_le (i:=8) (by omega),List.drop_of_length_le (i:=gk) (by omega)];rfl
   have hcut:=hSm.cut (k:=j) (cap:=cm) (by omega)
   have htl:(ms.take j).length=j:=by rw[List.length_take];omega
   have hdl2:(ms.drop j).length=gk - j:=by rw[List.length_drop];omega
   have hjc:(j:Int)≤(cm:Int):=by omega
   have hj0:(0:Int)≤(j:Int):=by omega
   have HG:=Lib.hid hg
   have HT:=Lib.hid htl
   have HD:=Lib.hid hdl2
   have HC:=Lib.hid hcut
   clear heq hj hg htl hdl2 hcut
   go_wp2_with (at_builtin;refine wpList_append_t rfl (.tmp 11) (.tmp 16) rfl w.heap.size u3 done (by rfl) (hown.alloc hsr _) ⟨wr.heap.size,0,none⟩ 1 (ms.take j) Am j (by rfl) (by rw[World.cell?_alloc_at _ _ _ _ rfl,HT.out];rfl) (by rw[HT.out];exact Nat.le_refl _) ((hSm.take j).below ((Below.refl _ wr).alloc hsr _)) (by omega) (by simp;omega) ?_;intro v3 w3 hown3 hon3 hb3)
   all_goals
    have hbw3:Below w.heap.size wr w3:=((Below.refl _ wr).alloc hsr _).trans hb3
   ·have hcu:cm=j:=by assumption
    have hc:=HC.out
    rw[if_pos hcu] at hc
    go_roundg (gk - j)
    case measure=>omega
    case rel=>exact ⟨ms.drop j,Am,0,done ++ [ms.take j],HD.out,by omega,by omega,rfl,hc.below hbw3,hown3,by rw[List.length_append,List.length_singleton];omega,hstep,hbr.trans hbw3⟩
   ·have hcu:¬ cm=j:=by assumption
    have hc:=HC.out
    rw[if_neg hcu] at hc
    go_roundg (gk - j)
    case measure=>omega
    case rel=>exact ⟨ms.drop j,_,_,done ++ [ms.take j],HD.out,by omega,by omega,rfl,hc.below hbw3,hown3,by rw[List.length_append,List.length_singleton];omega,hstep,hbr.trans hbw3⟩
  ·obtain rfl:gk=0:=by omega
   have HE:Hid (X=done):=by unfold Hid;rw[heq.out,blk_nil hg,List.append_nil]
   clear heq hg h0
   go_wp2
   go_ret
   unfold SplitIs
   rw[HX.out,HE.out]
   exact ⟨_,rfl,hown,hbr⟩
end
section
open Go.RowKit
theorem common_pre:∀(l r:List UInt8),l.take (common l r)=r.take (common l r)
 | a :: s,b :: t=>by
  have ih:=common_pre s t
  simp only[common]
  by_cases h:a=b
  ·subst h;simp[ih]
  ·rw[if_neg h];rfl
 | [],r=>by simp[common]
 | a :: s, []=>by simp[common]
theorem ahead_cons (a b:UInt8) (s t:List UInt8):ahead (a :: s) (b :: t)=(decide (a<b) || (a==b && ahead s t)):=by simp[ahead,Op.bytesLess]
end
section
open Go.RowKit
theorem vtake_small (u:Nat) (r:List UInt8) (h:u≤400):vtake (venc u++r)=(u,(venc u).length,0):=by
 by_cases h1:u<128
 ·rw[venc_small h1]
  have e:(UInt8.ofNat u).toNat=u:=u8_nat u (by omega)
  show vtk 10 (UInt8.ofNat u :: r) 0 0=_
  simp only[vtk]
  rw[if_pos (by omega),if_neg (by omega),e]
  simp
  omega
 ·rw[venc_big (by omega),venc_small (by omega)]
  have e:(UInt8.ofNat (u % 128+128)).toNat=u % 128+128:=u8_nat _ (by omega)
  have e2:(UInt8.ofNat (u / 128)).toNat=u / 128:=u8_nat _ (by omega)
  show vtk 10 (UInt8.ofNat (u % 128+128) :: UInt8.ofNat (u / 128) :: r) 0 0=_
  simp only[vtk]
  rw[if_neg (by omega),if_pos (by omega),if_neg (by omega),e,e2]
  simp
  omega
theorem numR_venc (u:Nat) (r:List UInt8) (h:u≤400):numR (venc u++r)=(u,r,0):=by
 unfold numR
 rw[vtake_small u r h]
 simp only
 rw[if_neg (by simp),if_neg (by omega),List.drop_left]
theorem item_back (p x:List UInt8):p.take (common p x)++x.drop (common p x)=x:=by
 rw[common_pre p x,List.take_append_drop]
theorem packFrom_cons (p x:List UInt8) (t:List (List UInt8)):packFrom p (x :: t)=venc (common p x)++(venc (x.length - common p x)++(x.drop (common p x)++packFrom x t)):=by
 simp[packFrom]
theorem items_back (t:List UInt8):∀(ls acc:List (List UInt8)) (p:List UInt8),(∀x∈ls,x.length≤400)→itemsR ls.length acc p (packFrom p ls++t)=(acc++ls,0)
 | [],acc,p,_=>by simp[itemsR]
 | x :: r,acc,p,h=>by
  have hx:=h x (by simp)
  have hc:=common_le p x
  have ih:=items_back t r (acc ++ [x]) x (fun y hy=>h y (by simp[hy]))
  rw[packFrom_cons]
  have h1:=numR_venc (common p x) (venc (x.length - common p x)++(x.drop (common p x)++(packFrom x r++t))) (by omega)
  have h2:=numR_venc (x.length - common p x) (x.drop (common p x)++(packFrom x r++t)) (by omega)
  have hl:(x.drop (common p x)).length=x.length - common p x:=List.length_drop
  rw[List.length_cons]
  simp only[List.append_assoc]
  rw[items_more h1 (by omega) h2 (by rw[List.length_append,hl];omega)]
  rw[List.take_left' hl,List.drop_left' hl,item_back,ih]
  simp
theorem check_all {ls:List (List UInt8)}(h:checkN ls=0):∀x∈ls,x.length≤400:=by
 intro x hx
 obtain ⟨_,_,h3,_⟩:=check_ok h
 obtain ⟨i,hi,rfl⟩:=List.mem_iff_getElem.1 hx
 exact (h3 i hi).2
theorem unpack_back {ls:List (List UInt8)}(h:checkN ls=0):unpackR (packB ls)=(ls,0):=by
 obtain ⟨h8,h1,_,_⟩:=check_ok h
 have hn:numR (packB ls)=(ls.length,packFrom [] ls,0):=numR_venc _ _ (by omega)
 have hi:=items_back [] ls [] [] (check_all h)
 rw[List.append_nil,List.nil_append] at hi
 unfold unpackR
 rw[hn]
 simp only
 rw[hi,if_neg (by simp),if_neg (by simp),if_pos ⟨h,rfl⟩]
theorem unpack_ok {b:List UInt8}(h:(unpackR b).2=0):checkN (unpackR b).1=0∧packB (unpackR b).1=b:=by
 unfold unpackR at *
 split at h
 ·rename_i h1;exact absurd h h1
 ·rename_i h1
  rw[if_neg h1]
  split at h
  ·rename_i h2;exact absurd h h2
  ·rename_i h2
   rw[if_neg h2]
   split at h
   ·rename_i h3;rw[if_pos h3];exact h3
   ·cases h
end
section
theorem vtk_enc:∀(m u:Nat),u≤m→∀(f n x:Nat) (r:List UInt8),n+f=10→(n=0∨0<u)→u*2 ^ (7*n)<18446744073709551616 →
  vtk f (venc u++r) n x=(x+u*2 ^ (7*n),n+(venc u).length,0):=by
 intro m
 induction m with
 | zero =>
  intro u hu f n x r hf hn _
  obtain rfl:u=0:=by omega
  obtain rfl:n=0:=by omega
  obtain rfl:f=9+1:=by omega
  rw[venc_small (by omega)]
  simp[vtk]
 | succ m ih =>
  intro u hu f n x r hf hn hlt
  by_cases hs:u<128
  ·have hn9:n<10:=by
    rcases hn with rfl|hp
    ·omega
    ·rcases Nat.lt_or_ge n 10 with h|h
     ·exact h
     ·exfalso
      have h1:2 ^ 64≤2 ^ (7*n):=Nat.pow_le_pow_right (by omega) (by omega)
      have h2:1*2 ^ (7*n)≤u*2 ^ (7*n):=Nat.mul_le_mul_right _ hp
      omega
   obtain ⟨g,rfl⟩:∃g,f=g+1:=⟨f - 1,by omega⟩
   rw[venc_small hs]
   have hc:(UInt8.ofNat u).toNat=u:=u8_nat u (by omega)
   simp only[List.cons_append,List.nil_append,vtk,hc,hs,if_true,List.length_cons,List.length_nil]
   have h9:¬ ((n=9∧1<u)∨(0<n∧u=0)):=by
    rintro (⟨rfl,h1⟩|⟨h1,h2⟩)
    ·omega
    ·omega
   rw[if_neg h9,Nat.mod_eq_of_lt hlt]
  ·have hp:128*2 ^ (7*n)≤u*2 ^ (7*n):=Nat.mul_le_mul_right _ (by omega)
   have hn9:n<9:=by
    rcases Nat.lt_or_ge n 9 with h|h
    ·exact h
    ·exfalso
     have h1:2 ^ 63≤2 ^ (7*n):=Nat.pow_le_pow_right (by omega) (by omega)
     omega
   obtain ⟨g,rfl⟩:∃g,f=g+1:=⟨f - 1,by omega⟩
   rw[venc_big (by omega)]
   have hc:(UInt8.ofNat (u % 128+128)).toNat=u % 128+128:=u8_nat _ (by omega)
   have hpw:2 ^ (7*(n+1))=128*2 ^ (7*n):=by rw[show 7*(n+1)=7+7*n from by omega,Nat.pow_add]
   have hsplit:u*2 ^ (7*n)=u % 128*2 ^ (7*n)+u / 128*2 ^ (7*(n+1)):=by
    rw[hpw, ←Nat.mul_assoc, ←Nat.add_mul]
    congr 1
    omega
   simp only[List.cons_append,vtk,hc]
   rw[if_neg (by omega),show (u % 128+128) % 128=u % 128 from by omega,Nat.mod_eq_of_lt (by omega),ih (u / 128) (by omega) g (n+1) _ r (by omega) (by omega) (by omega)]
   simp only[List.length_cons,Prod.mk.injEq,and_true]
   omega
theorem vtake_enc (u:Nat) (hu:Is64 u) (r:List UInt8):vtake (venc u++r)=(u,(venc u).length,0):=by
 have:=vtk_enc u u (Nat.le_refl _) 10 0 0 r rfl (.inl rfl) (by simpa[Is64] using hu)
 unfold vtake
 rw[this]
 simp
theorem fnext_form (k:UInt8) (l tl rest:List UInt8) (hl:l.length≤65535) (ht:tl.length=4) :
  fnext (k :: (venc l.length++(l++(tl++rest))))=if tail4 (crc (k :: (venc l.length++l)))=tl then (k.toNat,l,rest,0) else (0, [], [],50):=by
 have hv:=vtake_enc l.length (by unfold Is64;omega) (l++(tl++rest))
 simp only[fnext]
 rw[hv]
 simp only[ne_eq,not_true_eq_false,if_false]
 rw[if_neg (by omega),List.drop_left,if_neg (by simp;omega)]
 have e1:(k :: (venc l.length++(l++(tl++rest)))).take (1+(venc l.length).length+l.length)=k :: (venc l.length++l):=by
  have:k :: (venc l.length++(l++(tl++rest)))=(k :: (venc l.length++l))++(tl++rest):=by simp
  rw[this,List.take_append_of_le_length (by simp;omega),List.take_of_length_le (by simp;omega)]
 have e2:(k :: (venc l.length++(l++(tl++rest)))).take (1+(venc l.length).length+l.length+4)=(k :: (venc l.length++l))++tl:=by
  have:k :: (venc l.length++(l++(tl++rest)))=((k :: (venc l.length++l))++tl)++rest:=by simp
  rw[this,List.take_append_of_le_length (by simp;omega),List.take_of_length_le (by simp;omega)]
 have e3:(l++(tl++rest)).take l.length=l:=by simp
 have e4:(l++(tl++rest)).drop (l.length+4)=rest:=by
  have:l++(tl++rest)=(l++tl)++rest:=by simp
  rw[this, ←ht, ←List.length_append,List.drop_left]
 rw[e1,e2,e3,e4]
 unfold sealB
 by_cases hq:tail4 (crc (k :: (venc l.length++l)))=tl
 ·rw[if_pos (by simp[hq]),if_pos hq]
 ·rw[if_neg (by simp[hq]),if_neg hq]
def makeK (k:UInt8) (l:List UInt8):List UInt8:=sealB (k :: (venc l.length++l))
theorem makeK_form (k:UInt8) (l rest:List UInt8):makeK k l++rest=k :: (venc l.length++(l++(tail4 (crc (k :: (venc l.length++l)))++rest))):=by simp[makeK,sealB]
theorem fnext_make (k:UInt8) (l rest:List UInt8) (hl:l.length≤65535):fnext (makeK k l++rest)=(k.toNat,l,rest,0):=by
 rw[makeK_form,fnext_form k l _ rest hl (by simp[tail4]),if_pos rfl]
theorem makeK_len (k:UInt8) (l:List UInt8):(makeK k l).length=1+(venc l.length).length+l.length+4:=by
 rw[makeK,sealB_len];simp;omega
end
end Go.Proofs.YtalmnodgjjcefaaGreatDoor
