/- Several texts in one: LbParse LbEq LbUnm LbParse2 LbRefUnm. -/
import Derived.Test.YtalmnodgjjcefaaGreatDoorJLbA
import Derived.Test.YtalmnodgjjcefaaGreatDoorJLbC
import Derived.Test.YtalmnodgjjcefaaGreatDoorJLbB
set_option maxRecDepth 100000
set_option maxHeartbeats 3200000
namespace Go.Proofs.YtalmnodgjjcefaaGreatDoor
section
open Go.RowKit
def parseF:Nat→List UInt8→List Lb→List Lb×Nat
 | 0,_,acc=>(acc,0)
 | f+1,b,acc =>
  if b = [] then (acc,0)
  else if (cutR b).2.2≠0 then ([],(cutR b).2.2)
  else if (cutR (b.drop (cutR b).2.1)).2.2≠0 then ([],(cutR (b.drop (cutR b).2.1)).2.2)
  else parseF f (b.drop ((cutR b).2.1+(cutR (b.drop (cutR b).2.1)).2.1)) (acc ++ [(strOf (cutR b).1,strOf (cutR (b.drop (cutR b).2.1)).1)])
def parse (b:List UInt8):List Lb×Nat:=parseF b.length b []
theorem cutF_ok:∀(l acc:List UInt8) (i:Nat),(cutF l acc i).2.2=0→i+1≤(cutF l acc i).2.1∧(cutF l acc i).1.length+i+1≤acc.length+(cutF l acc i).2.1
 | [],_,_=>by simp[cutF]
 | [c],acc,i=>by
  simp only[cutF]
  split
  ·intro _;simp;omega
  ·split<;>simp
 | c :: d :: r,acc,i=>by
  have h1:=cutF_ok r (acc ++ [UInt8.ofNat (d.toNat - 3)]) (i+2)
  have h2:=cutF_ok (d :: r) (acc ++ [c]) (i+1)
  simp only[cutF,List.length_append,List.length_cons,List.length_nil] at *
  split
  ·intro _;simp;omega
  ·split
   ·simp
   ·split
    ·split
     ·simp
     ·intro h;have:=h1 h;omega
    ·intro h;have:=h2 h;omega
theorem cutR_ok {b:List UInt8}(h:(cutR b).2.2=0):1≤(cutR b).2.1∧(cutR b).2.1≤b.length∧(cutR b).1.length≤(cutR b).2.1:=by
 have h1:=cutF_ok b [] 0 h
 have h2:=cutF_le b [] 0
 change (cutR b).2.1≤_∧_ at h2
 change 0+1≤(cutR b).2.1∧(cutR b).1.length+0+1≤_+(cutR b).2.1 at h1
 simp only[List.length_nil] at h1
 have:=h2.1
 omega
theorem cutF_esc (s rest acc:List UInt8) (i:Nat):cutF (esc s++rest) acc i=(acc++s,i+(esc s).length,0):=by
 induction s generalizing acc i with
 | nil =>
  show cutF ([1]++rest) acc i=_
  cases rest<;>simp[cutF,esc]
 | cons c t ih =>
  have he:esc (c :: t)=escB c++esc t:=by simp[esc]
  rw[he,List.append_assoc]
  unfold escB
  by_cases hc:c.toNat<3
  ·rw[if_pos hc]
   have hx:(UInt8.ofNat (c.toNat+3)).toNat=c.toNat+3:=u8_nat _ (by omega)
   show cutF (2 :: UInt8.ofNat (c.toNat+3) :: (esc t++rest)) acc i=_
   have h2:(2:UInt8).toNat=2:=rfl
   simp only[cutF]
   rw[if_neg (by rw[h2];omega),if_neg (by rw[h2];omega),if_pos h2,if_neg (by rw[hx];omega),ih]
   have hb:UInt8.ofNat ((UInt8.ofNat (c.toNat+3)).toNat - 3)=c:=by
    apply UInt8.toNat_inj.1
    rw[hx,u8_nat _ (by omega)]
    omega
   rw[hb]
   simp[Nat.add_assoc]
   omega
  ·rw[if_neg hc]
   have hne:esc t++rest ≠ []:=by unfold esc;simp
   cases hr:esc t++rest with
   | nil=>exact absurd hr hne
   | cons d r =>
    show cutF (c :: d :: r) acc i=_
    simp only[cutF]
    rw[if_neg (by omega),if_neg (by omega),if_neg (by omega), ←hr,ih]
    simp[Nat.add_assoc]
    omega
theorem cutR_esc (s rest:List UInt8):cutR (esc s++rest)=(s,(esc s).length,0):=by
 have:=cutF_esc s rest [] 0
 unfold cutR
 rw[this]
 simp
end
section
open Go.RowKit
theorem EqualL_any (A A' : Option Addr) (n c m c' : Nat) (xs bs:List Lb) (hn:xs.length=n) (hm:bs.length=m) (w:World) (hS:Sees w w.heap.size A (lv xs)) (hT:Sees w w.heap.size A' (lv bs)) (hlen:n≤1099511627776) (hlen2:m≤1099511627776) :
  Calls Tryz.prog 156 #[.slice A n c,.slice A' m c'] w (BoolIsL w (sameLs xs bs)):=by
 obtain ⟨X,hX⟩:∃X,sameLs xs bs=X:=⟨_,rfl⟩
 rw[hX]
 have HX:=Lib.hid hX
 have HN:=Lib.hid hn
 have HM:=Lib.hid hm
 clear hn hm hX
 by_cases hnm:n=m
 ·subst hnm
  go_enter Tryz.func156,Tryz.ntmps156
  go_wp2
  go_loopg [13] n (fun g i wr=>∃k:Nat,k+g=n∧i = .int .i64 k∧Hid (X=sameLs (xs.drop k) (bs.drop k))∧∃q,wr=w.drewN q)
  case atStart=>exact ⟨0,by omega,rfl,HX.out.symm,0,rfl⟩
  case round =>
   obtain ⟨k,hk,rfl,heq,q,rfl⟩:=hrel
   by_cases hlt:k<n
   ·obtain ⟨ad,rfl,hadB,hc0,hc1⟩:=hS.lb (k:=k) (by have:=HN.out;omega)
    obtain ⟨ad2,rfl,hadB2,hd0,hd1⟩:=hT.lb (k:=k) (by have:=HM.out;omega)
    have hstep:=Lib.hid (heq.out.trans (sameLs_at (a:=xs) (b:=bs) (k:=k) (by have:=HN.out;omega) (by have:=HM.out;omega)))
    generalize xs[k]'(by have:=HN.out;omega)=x at hc0 hc1 hstep
    generalize bs[k]'(by have:=HM.out;omega)=y at hd0 hd1 hstep
    clear heq
    obtain ⟨x1,x2⟩:=x
    obtain ⟨y1,y2⟩:=y
    by_cases e1:x1.toList=y1.toList
    ·by_cases e2:x2.toList=y2.toList
     ·have hT1:Hid (X=sameLs (xs.drop (k+1)) (bs.drop (k+1))):=by have:=hstep.out;simp only[e1,e2,beq_self_eq_true,Bool.true_and] at this;exact this
      clear hstep
      go_wp2
      go_quiet (fail)
      go_wp2
      go_roundg (n - (k+1))
      case measure=>omega
      case rel=>exact ⟨k+1,by omega,by go_num,hT1,_,rfl⟩
     ·have hF:Hid (X=false):=by have:=hstep.out;rw[beq_eq_false_iff_ne.2 e2] at this;unfold Hid;simpa using this
      clear hstep
      go_wp2
      go_quiet (fail)
      go_wp2
      go_ret
      unfold BoolIsL
      rw[hF.out]
      exact ⟨rfl,_,by first|rfl|exact World.drewN_drewN _ _ _⟩
    ·have hF:Hid (X=false):=by have:=hstep.out;rw[beq_eq_false_iff_ne.2 e1] at this;unfold Hid;simpa using this
     clear hstep
     go_wp2
     go_quiet (fail)
     go_wp2
     go_ret
     unfold BoolIsL
     rw[hF.out]
     exact ⟨rfl,_,by first|rfl|exact World.drewN_drewN _ _ _⟩
   ·have hF:Hid (X=true):=heq.out.trans (sameLs_end (by have:=HN.out;omega) (by have:=HM.out;omega))
    clear heq
    go_wp2
    go_ret
    unfold BoolIsL
    rw[hF.out]
    exact ⟨rfl,_,rfl⟩
 ·have hF:Hid (X=false):=HX.out.symm.trans (sameLs_len (by rw[HN.out,HM.out];exact hnm))
  have g1:((n:Int) != (m:Int))=true:=by rw[bne_iff_ne];omega
  clear HX
  go_enter Tryz.func156,Tryz.ntmps156
  go_wp2
  go_ret
  unfold BoolIsL
  rw[hF.out]
  exact ⟨rfl,0,rfl⟩
end
section
open Go.RowKit
theorem parseF_end (f:Nat) (acc:List Lb):parseF f [] acc=(acc,0):=by cases f<;>simp[parseF]
theorem parseF_bad1 {f:Nat}{b:List UInt8}{acc:List Lb}(hb:b ≠ []) {s:List UInt8}{n e:Nat}(h:cutR b=(s,n,e)) (he:e≠0):parseF (f+1) b acc=([],e):=by
 simp only[parseF]
 rw[if_neg hb,h,if_pos he]
theorem parseF_bad2 {f:Nat}{b:List UInt8}{acc:List Lb}(hb:b ≠ []) {s t:List UInt8}{n k e:Nat}(h:cutR b=(s,n,0)) (h2:cutR (b.drop n)=(t,k,e)) (he:e≠0):parseF (f+1) b acc=([],e):=by
 simp only[parseF]
 rw[if_neg hb,h,if_neg (by simp)]
 simp only
 rw[h2,if_pos he]
theorem parseF_step {f:Nat}{b:List UInt8}{acc:List Lb}(hb:b ≠ []) {s t:List UInt8}{n k:Nat}(h:cutR b=(s,n,0)) (h2:cutR (b.drop n)=(t,k,0)):parseF (f+1) b acc=parseF f (b.drop (n+k)) (acc ++ [(strOf s,strOf t)]):=by
 simp only[parseF]
 rw[if_neg hb,h,if_neg (by simp)]
 simp only
 rw[h2,if_neg (by simp)]
theorem strOf_size (l:List UInt8):(strOf l).size=l.length:=by show l.toArray.size=_;simp
def UnmOut (w:World) (R:List Lb×Nat) (e:Ending) (w' : World):Prop :=
 ∃(v:Value) (k:Nat),e = .returned (.tuple #[v,.int .i64 k])∧Below w.heap.size w w' ∧
  ((R.2=0∧MayL R.1∧sortN R.1=R.1∧k=0∧OwnL w' w.heap.size v R.1)∨(R.2=0∧¬ (MayL R.1∧sortN R.1=R.1)∧k=11∧v = .slice none 0 0)∨(R.2≠0∧k=R.2∧v = .slice none 0 0))
theorem UnmOut.err {w w' : World}{R:List Lb×Nat}{l:List Lb}{e:Nat}(h:R=(l,e)) (he:e≠0) (hb:Below w.heap.size w w') {z:Int}(hz:z=(e:Int)):UnmOut w R (.returned (.tuple #[.slice none 0 0,.int .i64 z])) w':=by
 subst h;subst hz
 exact ⟨_,e,rfl,hb,.inr (.inr ⟨he,rfl,rfl⟩)⟩
theorem UnmOut.bad {w w' : World}{R:List Lb×Nat}{l:List Lb}(h:R=(l,0)) (hn:¬ (MayL l∧sortN l=l)) (hb:Below w.heap.size w w'):UnmOut w R (.returned (.tuple #[.slice none 0 0,.int .i64 11])) w':=by
 subst h
 exact ⟨_,11,rfl,hb,.inr (.inl ⟨rfl,hn,rfl,rfl⟩)⟩
theorem Unmarshal_any (A:Option Addr) (n c:Nat) (b:List UInt8) (hn:b.length=n) (hnc:n≤c) (w:World) (hS:Sees w w.heap.size A (bv b)) (hlen:n≤1099511627776) :
  Calls Tryz.prog 113 #[.slice A n c] w (UnmOut w (parse b)):=by
 obtain ⟨R,hR⟩:∃R,parse b=R:=⟨_,rfl⟩
 rw[hR]
 have HR:=Lib.hid hR
 have HN:=Lib.hid hn
 clear hR hn
 go_enter Tryz.func113,Tryz.ntmps113
 go_wp2
 go_loopg [4,5] n (fun g o r wr=>∃(p f:Nat) (L:List Lb) (A' : Option Addr) (m c' : Nat),m≤g∧p+m=n∧m≤c'∧r = .slice A' m c'∧Sees w w.heap.size A' (bv (b.drop p))∧OwnL wr w.heap.size o L∧L.length≤p∧(∀x∈L,x.1.size≤n)∧m≤f∧Hid (R=parseF f (b.drop p) L)∧Below w.heap.size w wr)
 case atStart=>exact ⟨0,n, [],A,n,c,Nat.le_refl _,by omega,hnc,rfl,hS,OwnL.nil _ _,by simp,by simp,Nat.le_refl _,by rw[List.drop_zero];have:=HR.out;unfold parse at this;rw[HN.out] at this;exact this.symm,Below.refl _ _⟩
 case round =>
  obtain ⟨p,f,L,A',m,c',hmg,hpm,hmc,rfl,hSr,hown,hLp,hLs,hmf,heq,hbr⟩:=hrel
  have hsr:=hbr.size
  have hml:(b.drop p).length=m:=by rw[List.length_drop,HN.out];omega
  obtain ⟨B,hB⟩:∃B,b.drop p=B:=⟨_,rfl⟩
  have HB:=Lib.hid hB
  rw[hB] at hSr heq hml
  have HL:=Lib.hid hml
  have HLS:=Lib.hid hLs
  clear hB hml hLs
  by_cases hm:0<m
  ·obtain ⟨f',rfl⟩:∃f',f=f' + 1:=⟨f - 1,by omega⟩
   have hBne:B ≠ []:=fun e=>by have:=HL.out;rw[e] at this;simp at this;omega
   have hC:=cut_any A' m c' B HL.out wr ((hSr.below hbr).more hsr) (by omega)
   obtain ⟨s,k1,e1,h1⟩:∃s k e,cutR B=(s,k,e):=⟨_,_,_,rfl⟩
   rw[h1] at hC
   have HC:=Lib.hid hC
   by_cases e0:e1=0
   ·subst e0
    have hok:=cutR_ok (b:=B) (by rw[h1])
    rw[h1] at hok
    simp only at hok
    have hl1:(B.drop k1).length=m - k1:=by rw[List.length_drop,HL.out]
    obtain ⟨t,k2,e2,h2⟩:∃s k e,cutR (B.drop k1)=(s,k,e):=⟨_,_,_,rfl⟩
    have H1:=Lib.hid h1
    have H2:=Lib.hid h2
    have HL1:=Lib.hid hl1
    have HOK:=Lib.hid hok
    have k1m:k1≤m:=by have:=HL.out;omega
    have g1:(k1:Int)≤(m:Int):=by omega
    have g2:(k1:Int)≤(c' : Int):=by omega
    have g0:(0:Int)<(m:Int):=by omega
    by_cases e20:e2=0
    ·subst e20
     have hok2:=cutR_ok (b:=B.drop k1) (by rw[h2])
     rw[h2] at hok2
     simp only at hok2
     obtain ⟨q,hq⟩:∃q,k1+k2=q:=⟨_,rfl⟩
     have hqm:q≤m:=by omega
     have hq1:1≤q:=by omega
     have hT:Hid (R=parseF f' (b.drop (p+q)) (L ++ [(strOf s,strOf t)])):=by
      have:=heq.out.trans (parseF_step hBne h1 h2)
      rw[hq, ←HB.out,List.drop_drop] at this
      exact this
     have hSq:Sees w w.heap.size (A'.map (·.add q)) (bv (b.drop (p+q))):=by rw[←List.drop_drop,HB.out,bv_drop];exact hSr.cut' q
     have hSq0:m≤q→Sees w w.heap.size A' (bv (b.drop (p+q))):=fun h=>by rw[←List.drop_drop,HB.out,bv_drop];exact Sees.cut0 _ _ _ (by rw[bv_length,HL.out];exact h)
     have hsum:IntKind.i64.wrap ((k1:Int)+(k2:Int))=(q:Int):=by rw[IntKind.wrap_i64];omega
     have g3:(q:Int)≤(m:Int):=by omega
     have g4:(q:Int)≤(c' : Int):=by omega
     have HLS2:Hid (∀x∈L ++ [(strOf s,strOf t)],x.1.size≤n):=by
      intro x hx
      rcases List.mem_append.1 hx with hx|hx
      ·exact HLS.out x hx
      ·rw[List.mem_singleton] at hx
       subst hx
       show (strOf s).size≤n
       rw[strOf_size]
       omega
     clear hC h1 h2 hl1 hok hok2 hq heq
     go_wp2_with fail
     refine HC.out.mono ?_
     rintro en w1 ⟨rfl,hb1⟩
     have hb1' : Below w.heap.size w w1:=hbr.trans (hb1.mono hsr)
     have hs1:=hb1'.size
     have hS1:=(hSr.below hb1').more hs1
     have hown1:=hown.below hb1
     clear hown
     have hC2:∀A2 c2,Sees w1 w1.heap.size A2 (bv (B.drop k1))→Hid (Calls Tryz.prog 155 #[.slice A2 (m - k1) c2] w1 (CutIs w1 (t,k2,0))):=fun A2 c2 h=>by rw[←H2.out];exact Lib.hid (cut_any A2 (m - k1) c2 (B.drop k1) HL1.out w1 h (by omega))
     go_wp2_with fail
     all_goals
      refine (hC2 _ _ (by rw[bv_drop];first|exact hS1.cut' k1|exact Sees.cut0 _ _ _ (by rw[bv_length];have:=HL.out;omega))).out.mono ?_
      rintro en w2 ⟨rfl,hb2⟩
      have hb2' : Below w.heap.size w w2:=hb1'.trans (hb2.mono hs1)
      have hs2:=hb2'.size
      have hown2:=hown1.below hb2
      go_wp2_with (at_builtin;refine wpList_append_l rfl (.tmp 37) (.tmp 41) rfl w.heap.size _ L (by rfl) (hown2.alloc _) (w2.heap.size+1) _ 1 _ [(strOf s,strOf t)] (by rfl) rfl (sees_newL w2 [(strOf s,strOf t)] _ _ rfl) (by omega) (Nat.le_trans hs2 (by simp)) ?_;intro v1 w3 hown3 hon3;have hb3:Below w.heap.size w2 w3:=((Below.refl _ _).alloc hs2 _).trans (hon3.below (Nat.le_trans hs2 (by simp)) hown2.block))
     all_goals
      go_roundg (m - q)
      case measure=>omega
      case rel=>exact ⟨p+q,f',_,_,m - q,_,Nat.le_refl _,by omega,by omega,rfl,by first|exact hSq|exact hSq0 (by omega),hown3,by simp;omega,HLS2.out,by omega,hT,hb2'.trans hb3⟩
    ·have hez:((e2:Int) != 0)=true:=by rw[bne_iff_ne];omega
     have hbad:=Lib.hid (heq.out.trans (parseF_bad2 hBne h1 h2 e20))
     have HE:=Lib.hid e20
     clear hC h1 h2 hl1 hok heq e20
     go_wp2_with fail
     refine HC.out.mono ?_
     rintro en w1 ⟨rfl,hb1⟩
     have hb1' : Below w.heap.size w w1:=hbr.trans (hb1.mono hsr)
     have hs1:=hb1'.size
     have hS1:=(hSr.below hb1').more hs1
     have hC2:∀A2 c2,Sees w1 w1.heap.size A2 (bv (B.drop k1))→Hid (Calls Tryz.prog 155 #[.slice A2 (m - k1) c2] w1 (CutIs w1 (t,k2,e2))):=fun A2 c2 h=>by rw[←H2.out];exact Lib.hid (cut_any A2 (m - k1) c2 (B.drop k1) HL1.out w1 h (by omega))
     go_wp2_with fail
     all_goals
      refine (hC2 _ _ (by rw[bv_drop];first|exact hS1.cut' k1|exact Sees.cut0 _ _ _ (by rw[bv_length];have:=HL.out;omega))).out.mono ?_
      rintro en w2 ⟨rfl,hb2⟩
      go_wp2
      go_ret2
      exact UnmOut.err hbad.out HE.out (hb1'.trans (hb2.mono hs1)) rfl
   ·have hez:((e1:Int) != 0)=true:=by rw[bne_iff_ne];omega
    have hbad:=Lib.hid (heq.out.trans (parseF_bad1 hBne h1 e0))
    have HE:=Lib.hid e0
    have g0:(0:Int)<(m:Int):=by omega
    clear hC h1 heq e0
    go_wp2_with fail
    refine HC.out.mono ?_
    rintro en w1 ⟨rfl,hb1⟩
    go_wp2
    go_ret2
    exact UnmOut.err hbad.out HE.out (hbr.trans (hb1.mono hsr)) rfl
  ·have hm0:m=0:=by omega
   subst hm0
   have hBn:B = []:=List.eq_nil_of_length_eq_zero HL.out
   have hRL:Hid (R=(L,0)):=by have:=heq.out;rw[hBn,parseF_end] at this;exact this
   obtain ⟨Ao,co,rfl,hco, -,hSo⟩:=hown.open_
   have hCa:=Canon_any Ao L.length co L rfl wr hSo (by omega) (fun x hx=>by have:=HLS.out x hx;omega)
   have HCa:=Lib.hid hCa
   obtain ⟨M,hM⟩:∃M,sortN L=M:=⟨_,rfl⟩
   have HM:=Lib.hid hM
   have hMl:M.length=L.length:=by rw[←hM,sortN_length]
   have HMl:=Lib.hid hMl
   have hLn:L.length≤1099511627776:=by omega
   obtain ⟨z,hz⟩:∃z,L.length=z:=⟨_,rfl⟩
   have HZ:=Lib.hid hz
   rw[hz] at hLn HMl
   clear hBn heq hCa hM hMl hown
   rw[hz] at HCa ⊢
   clear hz
   go_wp2_with fail
   refine HCa.out.mono ?_
   rintro en w1 ⟨v,kk,rfl,hb1,hres⟩
   have hs1:=hb1.size
   clear HCa
   rcases hres with ⟨hmay,rfl,hownC⟩|⟨hno,rfl,rfl⟩
   ·rw[HM.out] at hownC
    have HMAY:=Lib.hid hmay
    clear hmay
    obtain ⟨Ac,cc,he, -, -,hSc⟩:=hownC.open_
    rw[HMl.out] at he
    subst he
    have hEq:=Lib.hid (EqualL_any Ac Ao z cc z co M L HMl.out HZ.out w1 hSc ((hSo.below hb1).more hs1) hLn hLn)
    rcases hsm:sameLs M L with _|_
    ·rw[hsm] at hEq
     have hbadl:Hid (¬ (MayL L∧sortN L=L)):=fun h=>by rw[HM.out] at h;rw[h.2,sameLs_self] at hsm;exact absurd hsm (by simp)
     clear hsm
     go_wp2_with fail
     refine hEq.out.mono ?_
     rintro en w2 ⟨rfl,q2,rfl⟩
     go_wp2
     go_ret2
     exact UnmOut.bad hRL.out hbadl.out (hbr.trans ((below_d hb1 q2).mono hsr))
    ·rw[hsm] at hEq
     have hML:M=L:=sameLs_true hsm
     have HML:=Lib.hid hML
     clear hsm hML
     go_wp2_with fail
     refine hEq.out.mono ?_
     rintro en w2 ⟨rfl,q2,rfl⟩
     go_wp2
     go_ret2
     refine ⟨_,0,rfl,hbr.trans ((below_d hb1 q2).mono hsr),.inl ?_⟩
     rw[hRL.out]
     exact ⟨rfl,HMAY.out,by rw[HM.out];exact HML.out,rfl,by have h5:=hownC.base_le hsr;rw[HML.out] at h5;exact h5.drewN q2⟩
   ·have hbadl:Hid (¬ (MayL L∧sortN L=L)):=fun h=>hno h.1
    clear hno
    go_wp2
    go_ret2
    exact UnmOut.bad hRL.out hbadl.out (hbr.trans (hb1.mono hsr))
end
section
open Go.RowKit
theorem strOf_list (x:ByteArray):strOf x.data.toList=x:=by
 obtain ⟨d⟩:=x
 show ByteArray.mk d.toList.toArray=_
 simp
theorem marsh_cons (x:Lb) (l:List Lb):marsh (x :: l)=esc x.1.data.toList++(esc x.2.data.toList++marsh l):=by
 simp only[marsh,List.flatMap_cons,List.append_assoc]
theorem esc_pos (l:List UInt8):1≤(esc l).length:=by unfold esc;simp
theorem parseF_marsh:∀(l acc:List Lb) (f:Nat),(marsh l).length≤f→parseF f (marsh l) acc=(acc++l,0)
 | [],acc,f,_=>by show parseF f [] acc=_;rw[parseF_end];simp
 | x :: l,acc,f,h=>by
  rw[marsh_cons] at h ⊢
  have h1:=esc_pos x.1.data.toList
  simp only[List.length_append] at h
  obtain ⟨f',rfl⟩:∃f',f=f' + 1:=⟨f - 1,by omega⟩
  have hne:esc x.1.data.toList++(esc x.2.data.toList++marsh l) ≠ []:=fun e=>by
   have:=congrArg List.length e
   simp only[List.length_append,List.length_nil] at this
   omega
  rw[parseF_step hne (cutR_esc _ _) (by rw[List.drop_left];exact cutR_esc _ _)]
  rw[←List.drop_drop,List.drop_left,List.drop_left,parseF_marsh l _ f' (by omega),strOf_list,strOf_list]
  simp
theorem parse_marsh (l:List Lb):parse (marsh l)=(l,0):=by
 have:=parseF_marsh l [] (marsh l).length (Nat.le_refl _)
 rw[List.nil_append] at this
 exact this
theorem marsh_inj {l m:List Lb}(h:marsh l=marsh m):l=m:=by
 have h1:=parse_marsh l
 rw[h,parse_marsh m] at h1
 exact (congrArg Prod.fst h1).symm
end
end Go.Proofs.YtalmnodgjjcefaaGreatDoor
