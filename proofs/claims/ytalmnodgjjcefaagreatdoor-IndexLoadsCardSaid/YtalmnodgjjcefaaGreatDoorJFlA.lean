/- Several texts in one: FlBase FlMore FlMore2. -/
import Derived.Test.YtalmnodgjjcefaaGreatDoorJLbA
import Derived.StillTailTactics
import Derived.Laws.EntriesVeiled
set_option maxRecDepth 100000
set_option maxHeartbeats 1600000
namespace Go.Proofs.YtalmnodgjjcefaaGreatDoor
section
open Go.RowKit
structure Flt where
 name:ByteArray
 value:ByteArray
 pre:Bool
 inv:Bool
def fv (fs:List Flt):List Value:=fs.flatMap fun x => [.string x.name,.string x.value,.bool x.pre,.bool x.inv]
theorem fv_length (ls:List Flt):(fv ls).length=4*ls.length:=by
 induction ls with
 | nil=>rfl
 | cons x t ih=>simp only[fv,List.flatMap_cons,List.length_append,List.length_cons,List.length_nil] at *;omega
theorem fv_at (ls:List Flt) (k:Nat) (h:k<ls.length):(fv ls)[4*k]?=some (.string ls[k].name)∧(fv ls)[4*k+1]?=some (.string ls[k].value)∧(fv ls)[4*k+2]?=some (.bool ls[k].pre)∧(fv ls)[4*k+3]?=some (.bool ls[k].inv):=by
 induction ls generalizing k with
 | nil=>simp at h
 | cons x t ih =>
  cases k with
  | zero=>exact ⟨rfl,rfl,rfl,rfl⟩
  | succ k =>
   have:=ih k (by simpa using h)
   rw[show 4*(k+1)=4*k+1+1+1+1 from by omega]
   exact this
theorem Sees.fl {w:World}{B:Nat}{A:Option Addr}{ls:List Flt}(h:Sees w B A (fv ls)) {k:Nat}(hk:k<ls.length):∃ad,A=some ad∧ad.block<B∧w.cell? (ad.add (k*4))=some (.string ls[k].name) ∧
  w.cell? ⟨(ad.add (k*4)).block,(ad.add (k*4)).off+1,none⟩=some (.string ls[k].value)∧w.cell? ⟨(ad.add (k*4)).block,(ad.add (k*4)).off+2,none⟩=some (.bool ls[k].pre)∧w.cell? ⟨(ad.add (k*4)).block,(ad.add (k*4)).off+3,none⟩=some (.bool ls[k].inv):=by
 rcases h.out with h|⟨ad,e,hb,hc⟩
 ·have:=fv_length ls
  rw[h] at this
  simp at this
  omega
 ·obtain ⟨h1,h2,h3,h4⟩:=fv_at ls k hk
  exact ⟨ad,e,hb,by rw[Nat.mul_comm];exact hc _ _ h1,by rw[←add_field ad _ 1 (by omega),Nat.mul_comm];exact hc _ _ h2,by rw[←add_field ad _ 2 (by omega),Nat.mul_comm];exact hc _ _ h3,by rw[←add_field ad _ 3 (by omega),Nat.mul_comm];exact hc _ _ h4⟩
def hasPre (v want:ByteArray):Bool:=decide (want.size≤v.size) && ((v.extract 0 want.size).toList==want.toList)
def isB (pre:Bool) (v want:ByteArray):Bool:=if pre then hasPre v want else v.toList==want.toList
theorem stringsHasPrefix_any (v want:ByteArray) (w:World):Calls Tryz.prog 239 #[.string v,.string want] w fun e w'=>e = .returned (.bool (hasPre v want))∧w=w':=by
 obtain ⟨X,hX⟩:∃X,hasPre v want=X:=⟨_,rfl⟩
 rw[hX]
 unfold hasPre at hX
 by_cases h:want.size≤v.size
 ·rw[decide_eq_true h] at hX
  have HX:=Lib.hid hX
  clear hX
  go_enter Tryz.func239,Tryz.ntmps239
  go_wp2
  go_ret
  exact ⟨ret_bool (by rw[←HX.out,Bool.true_and]),rfl⟩
 ·rw[decide_eq_false h] at hX
  have HX:Hid (X=false):=by unfold Hid;rw[←hX];rfl
  have h' : (v.size:Int)<(want.size:Int):=by omega
  clear hX h
  go_enter Tryz.func239,Tryz.ntmps239
  go_wp2
  go_ret
  rw[HX.out]
  exact ⟨rfl,rfl⟩
theorem HasPrefixF_any (v want:ByteArray) (w:World):Calls Tryz.prog 200 #[.string v,.string want] w (Gives w (.bool (hasPre v want))):=by
 go_enter Tryz.func200,Tryz.ntmps200
 go_wp2_with fail
 refine (stringsHasPrefix_any v want w).mono ?_
 rintro e w1 ⟨rfl,rfl⟩
 go_wp2
 go_ret
 exact ⟨rfl,Below.refl _ _⟩
theorem same_any (v want:ByteArray) (w:World):Calls Tryz.prog 199 #[.string v,.string want] w (Gives w (.bool (v.toList==want.toList))):=by
 go_enter Tryz.func199,Tryz.ntmps199
 go_wp2
 go_ret
 exact ⟨rfl,Below.refl _ _⟩
theorem ask_pre (a b:ByteArray) (q:Bool) (w:World):Calls Tryz.prog 143 #[.agg #[.string a,.string b,.bool true,.bool q]] w
  (Gives w (.agg #[.string a,.string b,.bool true,.bool q,.func (.func 200) #[] #[]])):=by
 go_enter Tryz.func143,Tryz.ntmps143
 go_wp2
 exact bodyPost_ret (v := .agg #[.string a,.string b,.bool true,.bool q,.func (.func 200) #[] #[]]) (by simp[results,Tryz.results143,go_sem]) rfl ⟨rfl,(((Below.refl _ w).alloc (Nat.le_refl _) _).alloc (by simp) _).alloc (by simp;omega) _⟩
theorem ask_eq (a b:ByteArray) (q:Bool) (w:World):Calls Tryz.prog 143 #[.agg #[.string a,.string b,.bool false,.bool q]] w
  (Gives w (.agg #[.string a,.string b,.bool false,.bool q,.func (.func 199) #[] #[]])):=by
 go_enter Tryz.func143,Tryz.ntmps143
 go_wp2
 exact bodyPost_ret (v := .agg #[.string a,.string b,.bool false,.bool q,.func (.func 199) #[] #[]]) (by simp[results,Tryz.results143,go_sem]) rfl ⟨rfl,(((Below.refl _ w).alloc (Nat.le_refl _) _).alloc (by simp) _).alloc (by simp;omega) _⟩
theorem run_askFn (u0 u1 u2 u3:Value) (k:FuncId) (w:World):(Instr.field 198 (.agg #[u0,u1,u2,u3,.func (.func k) #[] #[]]) 1).run Tryz.prog w = .ok (.func (.func k) #[] #[]) w:=by kernel_rfl
def oneB (f:Flt) (ls:List Lb):Bool:=isB f.pre (getL ls f.name) f.value != f.inv
theorem four_of {w w' : World}{b:Nat}(hb:Below w.heap.size w w') (hlt:b<w.heap.size) {v0 v1 v2 v3:Value}(h:w.cell? ⟨b,0,none⟩=some v0∧w.cell? ⟨b,1,none⟩=some v1∧w.cell? ⟨b,2,none⟩=some v2∧w.cell? ⟨b,3,none⟩=some v3) :
  w'.cell? ⟨b,0,none⟩=some v0∧w'.cell? ⟨b,1,none⟩=some v1∧w'.cell? ⟨b,2,none⟩=some v2∧w'.cell? ⟨b,3,none⟩=some v3 :=
 ⟨(hb.cell (p:=⟨b,0,none⟩) hlt).trans h.1,(hb.cell (p:=⟨b,1,none⟩) hlt).trans h.2.1,(hb.cell (p:=⟨b,2,none⟩) hlt).trans h.2.2.1,(hb.cell (p:=⟨b,3,none⟩) hlt).trans h.2.2.2⟩
theorem One_any (f:Flt) (A:Option Addr) (n c:Nat) (ls:List Lb) (hn:ls.length=n) (w:World) (hS:Sees w w.heap.size A (lv ls)) (hlen:n≤1099511627776) :
  Calls Tryz.prog 98 #[.agg #[.string f.name,.string f.value,.bool f.pre,.bool f.inv],.slice A n c] w (Gives w (.bool (oneB f ls))):=by
 obtain ⟨a,b,p,q⟩:=f
 unfold oneB
 simp only
 have hG:=fun (W:World) (h:Sees W W.heap.size A (lv ls))=>Get_any A n c ls a hn W h hlen
 generalize getL ls a=v at hG ⊢
 have HG:=Lib.hid hG
 have hfld:=run_askFn
 have hb0:Below w.heap.size w (w.alloc (.cells #[.string a,.string b,.bool p,.bool q] 81)):=(Below.refl _ w).alloc (Nat.le_refl _) _
 have hblk:Hid ((w.alloc (.cells #[.string a,.string b,.bool p,.bool q] 81)).cell? ⟨w.heap.size,0,none⟩=some (.string a)∧(w.alloc (.cells #[.string a,.string b,.bool p,.bool q] 81)).cell? ⟨w.heap.size,1,none⟩=some (.string b) ∧
   (w.alloc (.cells #[.string a,.string b,.bool p,.bool q] 81)).cell? ⟨w.heap.size,2,none⟩=some (.bool p)∧(w.alloc (.cells #[.string a,.string b,.bool p,.bool q] 81)).cell? ⟨w.heap.size,3,none⟩=some (.bool q)):=by
  unfold Hid
  simp only[World.cell?_alloc_at _ _ _ _ rfl]
  exact ⟨rfl,rfl,rfl,rfl⟩
 have hz0:(w.alloc (.cells #[.string a,.string b,.bool p,.bool q] 81)).heap.size=w.heap.size+1:=by simp
 clear hn hG
 cases p
 ·go_enter Tryz.func98,Tryz.ntmps98
  go_wp2_with fail
  generalize w.alloc (.cells #[.string a,.string b,.bool false,.bool q] 81)=W at hb0 hblk hz0 ⊢
  have hsW:=hb0.size
  go_region_held3 (fun w'=>w'.cell? ⟨w.heap.size,0,none⟩=some (.string a)∧w'.cell? ⟨w.heap.size,1,none⟩=some (.string b)∧w'.cell? ⟨w.heap.size,2,none⟩=some (.bool false)∧w'.cell? ⟨w.heap.size,3,none⟩=some (.bool q))
   (first|exact hk4|exact hk3|exact hk2|exact hblk.out)
   (first
    | (go_at_call 143;refine (ask_eq _ _ _ _).mono ?_;rintro e w2 ⟨rfl,hb2⟩;have hb2:=below_undrew hb2;have hk2:=four_of hb2 (by omega) hblk.out;have hb02:=hb0.trans (hb2.mono hsW))
    | (go_at_call 144;refine (HG.out w2 ((hS.below hb02).more hb02.size)).mono ?_;rintro e w3 ⟨rfl,hb3⟩;have hk3:=four_of hb3 (by have:=hb2.size;omega) hk2;have hb03:=hb02.trans (hb3.mono hb02.size))
    | (go_at_call 199;refine (same_any _ _ _).mono ?_;rintro e w4 ⟨rfl,hb4⟩;have hk4:=four_of hb4 (by have:=hb2.size;have:=hb3.size;omega) hk3;have hb04:=hb03.trans (hb4.mono hb03.size)))
  go_wp2
  go_ret
  exact ⟨rfl,hb04⟩
 ·go_enter Tryz.func98,Tryz.ntmps98
  go_wp2_with fail
  generalize w.alloc (.cells #[.string a,.string b,.bool true,.bool q] 81)=W at hb0 hblk hz0 ⊢
  have hsW:=hb0.size
  go_region_held3 (fun w'=>w'.cell? ⟨w.heap.size,0,none⟩=some (.string a)∧w'.cell? ⟨w.heap.size,1,none⟩=some (.string b)∧w'.cell? ⟨w.heap.size,2,none⟩=some (.bool true)∧w'.cell? ⟨w.heap.size,3,none⟩=some (.bool q))
   (first|exact hk4|exact hk3|exact hk2|exact hblk.out)
   (first
    | (go_at_call 143;refine (ask_pre _ _ _ _).mono ?_;rintro e w2 ⟨rfl,hb2⟩;have hb2:=below_undrew hb2;have hk2:=four_of hb2 (by omega) hblk.out;have hb02:=hb0.trans (hb2.mono hsW))
    | (go_at_call 144;refine (HG.out w2 ((hS.below hb02).more hb02.size)).mono ?_;rintro e w3 ⟨rfl,hb3⟩;have hk3:=four_of hb3 (by have:=hb2.size;omega) hk2;have hb03:=hb02.trans (hb3.mono hb02.size))
    | (go_at_call 200;refine (HasPrefixF_any _ _ _).mono ?_;rintro e w4 ⟨rfl,hb4⟩;have hk4:=four_of hb4 (by have:=hb2.size;have:=hb3.size;omega) hk3;have hb04:=hb03.trans (hb4.mono hb03.size)))
  go_wp2
  go_ret
  exact ⟨rfl,hb04⟩
end
section
open Go.RowKit
def badF (f:Flt):Bool := !nameB f.name || decide (16<f.value.size)
def checkF (fs:List Flt):Nat:=if 4<fs.length then 2 else if fs.any badF then 80 else 0
theorem anyF_at {fs:List Flt}{k:Nat}(h:k<fs.length):(fs.drop k).any badF=(badF fs[k] || (fs.drop (k+1)).any badF):=by
 rw[List.drop_eq_getElem_cons h]
 rfl
theorem ret_int {k:IntKind}{a b:Int}(h:a=b):Ending.returned (.int k a) = .returned (.int k b):=by rw[h]
def FitF (fs:List Flt):Prop:=∀f∈fs,f.name.size≤9223372036854775807
theorem FitF.at_ {fs:List Flt}(h:FitF fs) {k:Nat}(hk:k<fs.length):fs[k].name.size≤9223372036854775807:=h _ (List.getElem_mem hk)
theorem CheckF_any (A:Option Addr) (n c:Nat) (fs:List Flt) (hn:fs.length=n) (hfit:FitF fs) (w:World) (hS:Sees w w.heap.size A (fv fs)) (hlen:n≤1099511627776) :
  Calls Tryz.prog 53 #[.slice A n c] w (Gives w (.int .i64 (checkF fs:Nat))):=by
 obtain ⟨X,hX⟩:∃X,checkF fs=X:=⟨_,rfl⟩
 rw[hX]
 unfold checkF at hX
 rw[hn] at hX
 by_cases h4:4<n
 ·rw[if_pos h4] at hX
  have HX:=Lib.hid hX
  clear hX hn
  go_enter Tryz.func53,Tryz.ntmps53
  go_wp2
  go_ret
  exact ⟨ret_int (by rw[←HX.out];rfl),Below.refl _ _⟩
 ·rw[if_neg h4] at hX
  obtain ⟨b,hb⟩:∃b,fs.any badF=b:=⟨_,rfl⟩
  rw[hb] at hX
  have HX:=Lib.hid hX
  have HB:=Lib.hid hb
  have HN:=Lib.hid hn
  have HF:=Lib.hid hfit
  clear hX hb hn hfit
  go_enter Tryz.func53,Tryz.ntmps53
  go_wp2
  go_loopg [10] n (fun g i wr=>∃k:Nat,k+g=n∧i = .int .i64 k∧Hid (b=(fs.drop k).any badF)∧Below w.heap.size w wr)
  case atStart=>exact ⟨0,by omega,rfl,HB.out.symm,Below.refl _ _⟩
  case round =>
   obtain ⟨k,hk,rfl,heq,hbr⟩:=hrel
   by_cases hlt:k<n
   ·obtain ⟨ad,rfl,hadB,hc0,hc1,hc2,hc3⟩:=(hS.below hbr).fl (k:=k) (by have:=HN.out;omega)
    have hstep:=Lib.hid (heq.out.trans (anyF_at (fs:=fs) (k:=k) (by have:=HN.out;omega)))
    have hfk:=HF.out.at_ (k:=k) (by have:=HN.out;omega)
    generalize fs[k]'(by have:=HN.out;omega)=x at hc0 hc1 hc2 hc3 hstep hfk
    have hb0:Below w.heap.size w (wr.alloc (.cells #[.string x.name,.string x.value,.bool x.pre,.bool x.inv] 81)):=hbr.trans ((Below.refl _ wr).alloc hbr.size _)
    have hN:=Name_any x.name (wr.alloc (.cells #[.string x.name,.string x.value,.bool x.pre,.bool x.inv] 81)) hfk
    have hcell:(wr.alloc (.cells #[.string x.name,.string x.value,.bool x.pre,.bool x.inv] 81)).cell? ⟨wr.heap.size,1,none⟩=some (.string x.value):=by rw[World.cell?_alloc_at _ _ _ _ rfl];rfl
    have hz0:(wr.alloc (.cells #[.string x.name,.string x.value,.bool x.pre,.bool x.inv] 81)).heap.size=wr.heap.size+1:=by simp
    unfold badF at hstep
    generalize nameB x.name=nb at hN hstep
    have HNm:=Lib.hid hN
    have Hc:=Lib.hid hcell
    have Hz:=Lib.hid hz0
    clear heq hN hcell hz0
    cases nb
    ·have HR:Hid (b=true):=by have:=hstep.out;rw[Bool.not_false,Bool.true_or,Bool.true_or] at this;exact this
     clear hstep
     go_wp2_with fail
     refine HNm.out.mono ?_
     rintro e w1 ⟨rfl,hb1⟩
     go_wp2
     go_ret
     have hx:=HX.out
     rw[HR.out,if_pos rfl] at hx
     exact ⟨ret_int (by rw[←hx];rfl),hb0.trans (hb1.mono hb0.size)⟩
    ·by_cases h16:x.value.size≤16
     ·have hT:Hid (b=(fs.drop (k+1)).any badF):=by have:=hstep.out;rw[Bool.not_true,Bool.false_or,decide_eq_false (by omega),Bool.false_or] at this;exact this
      have h16' : (x.value.size:Int)≤16:=by omega
      clear hstep
      go_wp2_with fail
      refine HNm.out.mono ?_
      rintro e w1 ⟨rfl,hb1⟩
      have hc1':=(hb1.cell (p:=⟨wr.heap.size,1,none⟩) (by have:=Hz.out;simp<;>omega)).trans Hc.out
      go_wp2
      go_roundg (n - (k+1))
      case measure=>omega
      case rel=>exact ⟨k+1,by omega,by go_num,hT,hb0.trans (hb1.mono hb0.size)⟩
     ·have HR:Hid (b=true):=by have:=hstep.out;rw[Bool.not_true,Bool.false_or,decide_eq_true (by omega),Bool.true_or] at this;exact this
      have h16' : (16:Int)<(x.value.size:Int):=by omega
      clear hstep h16
      go_wp2_with fail
      refine HNm.out.mono ?_
      rintro e w1 ⟨rfl,hb1⟩
      have hc1':=(hb1.cell (p:=⟨wr.heap.size,1,none⟩) (by have:=Hz.out;simp<;>omega)).trans Hc.out
      go_wp2
      go_ret
      have hx:=HX.out
      rw[HR.out,if_pos rfl] at hx
      exact ⟨ret_int (by rw[←hx];rfl),hb0.trans (hb1.mono hb0.size)⟩
   ·have HR:Hid (b=false):=by have:=heq.out;rw[List.drop_eq_nil_of_le (by have:=HN.out;omega)] at this;exact this
    clear heq
    go_wp2
    go_ret
    have hx:=HX.out
    rw[HR.out,if_neg (by simp)] at hx
    exact ⟨ret_int (by rw[←hx];rfl),hbr⟩
def allB (fs:List Flt) (ls:List Lb):Bool:=fs.all fun f=>oneB f ls
theorem allB_at {fs:List Flt}{ls:List Lb}{k:Nat}(h:k<fs.length):allB (fs.drop k) ls=(oneB fs[k] ls && allB (fs.drop (k+1)) ls):=by
 rw[List.drop_eq_getElem_cons h]
 rfl
theorem allB_end {fs:List Flt}{ls:List Lb}{k:Nat}(h:fs.length≤k):allB (fs.drop k) ls=true:=by
 rw[List.drop_eq_nil_of_le h]
 rfl
theorem AllF_any (A:Option Addr) (n c:Nat) (fs:List Flt) (hn:fs.length=n) (B:Option Addr) (m d:Nat) (ls:List Lb) (hm:ls.length=m) (w:World) (hS:Sees w w.heap.size A (fv fs)) (hT:Sees w w.heap.size B (lv ls)) (hlen:n≤1099511627776) (hlen2:m≤1099511627776) :
  Calls Tryz.prog 55 #[.slice A n c,.slice B m d] w (Gives w (.bool (allB fs ls))):=by
 have hnot:∀(x:Bool) (w:World),(Op.unary .not (.bool x)).run Tryz.prog w = .ok (.bool (!x)) w:=fun _ _=>rfl
 obtain ⟨X,hX⟩:∃X,allB fs ls=X:=⟨_,rfl⟩
 rw[hX]
 have HX:=Lib.hid hX
 have HN:=Lib.hid hn
 have HM:=Lib.hid hm
 clear hX hn hm
 go_enter Tryz.func55,Tryz.ntmps55
 go_wp2
 go_step3
 go_wp2
 go_step3
 go_wp2
 go_loopg [5,10] n (fun g t i wr=>∃k:Nat,k+g=n∧t = .bool true∧i = .int .i64 k∧Hid (X=allB (fs.drop k) ls)∧Below w.heap.size w wr)
 case atStart=>exact ⟨0,by omega,rfl,rfl,HX.out.symm,Below.refl _ _⟩
 case round =>
  obtain ⟨k,hk,rfl,rfl,heq,hbr⟩:=hrel
  by_cases hlt:k<n
  ·obtain ⟨ad,rfl,hadB,hc0,hc1,hc2,hc3⟩:=(hS.below hbr).fl (k:=k) (by have:=HN.out;omega)
   have hstep:=Lib.hid (heq.out.trans (allB_at (fs:=fs) (ls:=ls) (k:=k) (by have:=HN.out;omega)))
   generalize fs[k]'(by have:=HN.out;omega)=x at hc0 hc1 hc2 hc3 hstep
   have hb0:Below w.heap.size w (wr.alloc (.cells #[.string x.name,.string x.value,.bool x.pre,.bool x.inv] 81)):=hbr.trans ((Below.refl _ wr).alloc hbr.size _)
   have hO:=One_any x B m d ls HM.out (wr.alloc (.cells #[.string x.name,.string x.value,.bool x.pre,.bool x.inv] 81)) ((hT.below hb0).more hb0.size) hlen2
   generalize oneB x ls=b at hO hstep
   have HO:=Lib.hid hO
   clear heq hO
   cases b with
   | true =>
    have hT2:Hid (X=allB (fs.drop (k+1)) ls):=by have:=hstep.out;rw[Bool.true_and] at this;exact this
    clear hstep
    go_wp2_with fail
    refine HO.out.mono ?_
    rintro e w1 ⟨rfl,hb1⟩
    go_wp2
    go_roundg (n - (k+1))
    case measure=>omega
    case rel=>exact ⟨k+1,by omega,rfl,by go_num,hT2,hb0.trans (hb1.mono hb0.size)⟩
   | false =>
    have HR:Hid (X=false):=by have:=hstep.out;rw[Bool.false_and] at this;exact this
    clear hstep
    go_wp2_with fail
    refine HO.out.mono ?_
    rintro e w1 ⟨rfl,hb1⟩
    go_wp2
    rw[Exit.noGoto_ret]
    go_ret
    exact ⟨ret_bool HR.out.symm,hb0.trans (hb1.mono hb0.size)⟩
  ·have HR:Hid (X=true):=by have:=heq.out;rw[allB_end (by have:=HN.out;omega)] at this;exact this
   clear heq
   go_wp2
   rw[Exit.noGoto_ret]
   go_ret
   exact ⟨ret_bool HR.out.symm,hbr⟩
end
section
open Go.RowKit
def exactF (f:Flt):Bool := !f.inv && (!f.pre && !f.value.toList.isEmpty)
def exactN:List Flt→Nat
 | f :: t=>if exactF f then 0 else exactN t+1
 | []=>0
def exactZ (fs:List Flt):Int:=if exactN fs<fs.length then (exactN fs:Int) else -1
theorem exactN_at {fs:List Flt}{k:Nat}(h:k<fs.length):exactN (fs.drop k)=if exactF fs[k] then 0 else exactN (fs.drop (k+1))+1:=by
 rw[List.drop_eq_getElem_cons h]
 rfl
theorem exactN_end {fs:List Flt}{k:Nat}(h:fs.length≤k):exactN (fs.drop k)=0:=by
 rw[List.drop_eq_nil_of_le h]
 rfl
theorem Exact_any (A:Option Addr) (n c:Nat) (fs:List Flt) (hn:fs.length=n) (w:World) (hS:Sees w w.heap.size A (fv fs)) (hlen:n≤1099511627776) :
  Calls Tryz.prog 56 #[.slice A n c] w (Gives w (.int .i64 (exactZ fs))):=by
 obtain ⟨Z,hZ⟩:∃Z,exactZ fs=Z:=⟨_,rfl⟩
 rw[hZ]
 unfold exactZ at hZ
 obtain ⟨X,hX⟩:∃X,exactN fs=X:=⟨_,rfl⟩
 rw[hX,hn] at hZ
 have HX:=Lib.hid hX
 have HZ:=Lib.hid hZ
 have HN:=Lib.hid hn
 clear hX hn hZ
 go_enter Tryz.func56,Tryz.ntmps56
 go_wp2
 go_step3
 go_wp2
 go_step3
 go_wp2
 go_loopg [3,8] n (fun g a i wr=>∃k:Nat,k+g=n∧a = .int .i64 (-1)∧i = .int .i64 k∧Hid (X=k+exactN (fs.drop k))∧Below w.heap.size w wr)
 case atStart=>exact ⟨0,by omega,rfl,rfl,by unfold Hid;rw[←HX.out];simp,Below.refl _ _⟩
 case round =>
  obtain ⟨k,hk,rfl,rfl,heq,hbr⟩:=hrel
  by_cases hlt:k<n
  ·obtain ⟨ad,rfl,hadB,hc0,hc1,hc2,hc3⟩:=(hS.below hbr).fl (k:=k) (by have:=HN.out;omega)
   have hstep:=Lib.hid (heq.out.trans (congrArg (k + ·) (exactN_at (fs:=fs) (k:=k) (by have:=HN.out;omega))))
   generalize fs[k]'(by have:=HN.out;omega)=x at hc0 hc1 hc2 hc3 hstep
   clear heq
   unfold exactF at hstep
   obtain ⟨a,b,p,q⟩:=x
   simp only at hc0 hc1 hc2 hc3 hstep
   have hb0:Below w.heap.size w (wr.alloc (.cells #[.string a,.string b,.bool p,.bool q] 81)):=hbr.trans ((Below.refl _ wr).alloc hbr.size _)
   obtain ⟨em,hem⟩:∃em,b.toList.isEmpty=em:=⟨_,rfl⟩
   rw[hem] at hstep
   cases em<;>cases p<;>cases q
   all_goals
    simp only[Bool.not_true,Bool.not_false,Bool.and_true,Bool.and_false,if_true] at hstep
   ·have HR:Hid (X=k):=hstep.out
    clear hstep
    go_wp2
    rw[Exit.noGoto_ret]
    go_ret
    have hz:=HZ.out
    rw[HR.out,if_pos hlt] at hz
    exact ⟨ret_int hz,hb0⟩
   all_goals
    have hT:Hid (X=(k+1)+exactN (fs.drop (k+1))):=by have:=hstep.out;rw[if_neg (by simp)] at this;unfold Hid;omega
    clear hstep
    go_wp2
    go_roundg (n - (k+1))
    case measure=>omega
    case rel=>exact ⟨k+1,by omega,rfl,by go_num,hT,hb0⟩
  ·have HR:Hid (X=n):=by have:=heq.out;rw[exactN_end (by have:=HN.out;omega)] at this;unfold Hid;omega
   clear heq
   go_wp2
   rw[Exit.noGoto_ret]
   go_ret
   have hz:=HZ.out
   rw[HR.out,if_neg (by omega)] at hz
   exact ⟨ret_int hz,hbr⟩
end
end Go.Proofs.YtalmnodgjjcefaaGreatDoor
