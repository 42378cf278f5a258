/- Several texts in one: IpPart BytesClone IpPart2 IpAt IpFrom IpFrom1 IpHas Round. -/
import Derived.Test.YtalmnodgjjcefaaGreatDoorJIpA
import Derived.Test.YtalmnodgjjcefaaGreatDoorJLow
import Derived.Lib.SlBytesConst
import Derived.Test.YtalmnodgjjcefaaGreatDoorJFrm
import Derived.Sort.LoopGhostIn
import Derived.Sort.CutIn
import Derived.RangeFuncBox
set_option maxRecDepth 100000
set_option maxHeartbeats 3200000
namespace Go.Proofs.YtalmnodgjjcefaaGreatDoor
section
open Go.RowKit
structure PartAt (m:Nat→Prop) (w:World) (P:Nat) (ls:List Item):Prop where
 out:∃(X:Nat) (AB AF:Option Addr) (cB cF:Nat),m P∧m X∧w.cell? ⟨P,0,none⟩=some (.pointer (some ⟨X,0,none⟩))∧w.cell? ⟨P,1,none⟩=some (.slice AB (blk ls).length cB)∧w.cell? ⟨P,2,none⟩=some (.int .i64 ls.length) ∧
  w.cell? ⟨X,0,none⟩=some (.slice AF (blk ls).length cF)∧(blk ls).length≤cB∧(blk ls).length≤cF∧Sees3M m w AB (blk ls)∧Sees2M m w AF ((blk ls).map (·.headD []))
 many:0<ls.length
 few:ls.length≤2000
 well:okB ls=true
theorem PartAt.keep {m:Nat→Prop}{w w' : World}{P:Nat}{ls:List Item}(h:PartAt m w P ls) (hk:Kept m w w'):PartAt m w' P ls:=by
 obtain ⟨X,AB,AF,cB,cF,h1,h2,h3,h4,h5,h6,h7,h8,h9,h10⟩:=h.out
 exact ⟨⟨X,AB,AF,cB,cF,h1,h2,(hk.cell h1).trans h3,(hk.cell h1).trans h4,(hk.cell h1).trans h5,(hk.cell h2).trans h6,h7,h8,h9.keep hk,h10.keep hk⟩,h.many,h.few,h.well⟩
theorem PartAt.mono {m m' : Nat→Prop}{w:World}{P:Nat}{ls:List Item}(h:PartAt m w P ls) (hm:∀k,m k→m' k):PartAt m' w P ls:=by
 obtain ⟨X,AB,AF,cB,cF,h1,h2,h3,h4,h5,h6,h7,h8,h9,h10⟩:=h.out
 exact ⟨⟨X,AB,AF,cB,cF,hm _ h1,hm _ h2,h3,h4,h5,h6,h7,h8,h9.mono hm,h10.mono hm⟩,h.many,h.few,h.well⟩
section
variable {m : Nat → Prop} {w : World} {P : Nat} {ls : List Item}
theorem Len_any (h:PartAt m w P ls):Calls Tryz.prog 117 #[.pointer (some ⟨P,0,none⟩)] w fun e w'=>e = .returned (.int .i64 ls.length)∧w=w':=by
 obtain ⟨X,AB,AF,cB,cF,h1,h2,h3,h4,h5,h6,h7,h8,h9,h10⟩:=h.out
 clear h h9 h10
 go_enter Tryz.func117,Tryz.ntmps117
 go_wp2
 go_ret
 exact ⟨rfl,rfl⟩
end
end
section
open Go.RowKit
theorem bytesClone_any (A:Option Addr) (n c:Nat) (l:List UInt8) (hn:l.length=n) (w:World) (h:Sees w w.heap.size A (bv l)) (hlen:l.length≤1099511627776) :
  Calls Tryz.prog 103 #[.slice A n c] w (RetB w w.heap.size (.slice none 0 0) l):=by
 subst hn
 have he:=fun (W:World) (a:Option Addr) (n c:Nat)=>Lib.run_eql_slice_nil (P:=Tryz.prog) W 48 5 a n c 0 0 Tryz.underlying48
 cases A with
 | none =>
  have hn:l = []:=by
   rcases h.out with h|⟨ad,h,_⟩
   ·simpa[bv] using h
   ·cases h
  subst hn
  go_enter Tryz.func103,Tryz.ntmps103
  go_wp2
  go_ret
  exact ⟨_,rfl,OwnB.nil _ _,Onto.refl _ _⟩
 | some ad =>
  go_enter Tryz.func103,Tryz.ntmps103
  go_wp2_with (at_builtin;refine wpList_append_b rfl (.tmp 5) (.tmp 6) rfl w.heap.size (.slice (some ⟨w.heap.size,0,none⟩) 0 0) [] (by rfl) (OwnB.new _ _ (Nat.le_refl _) [] 0 rfl _ rfl (by simp[maxLen])) w.heap.size (some ad) l.length c l (by rfl) rfl (h.alloc (Nat.le_refl _) _) (by simp;omega) (by simp) ?_;intro v1 w1 hown1 hon1)
  go_ret
  exact ⟨v1,rfl,hown1,(Onto.new _ _ _ _ _).trans hon1⟩
end
section
open Go.RowKit
section
variable {m : Nat → Prop} {w : World} {P : Nat} {ls : List Item}
theorem PartAt.pos (h:PartAt m w P ls):0<(blk ls).length:=by rw[blk_length];have:=h.many;omega
end
end
section
open Go.RowKit
theorem cmp_zeroI:∀(l r:List UInt8),Lib.compareBytes l r=0↔l=r
 | [], []=>by simp[Lib.compareBytes]
 | [],_ :: _=>by simp[Lib.compareBytes]
 | _ :: _, []=>by simp[Lib.compareBytes]
 | a :: s,b :: t=>by
  have ih:=cmp_zeroI s t
  unfold Lib.compareBytes
  by_cases h1:a<b
  ·have hne:a≠b:=fun e=>by subst e;exact absurd h1 (UInt8.lt_irrefl a)
   simp[h1,hne]
  ·by_cases h2:b<a
   ·have hne:a≠b:=fun e=>by subst e;exact absurd h2 (UInt8.lt_irrefl a)
    simp[h1,h2,hne]
   ·have e:a=b:=UInt8.le_antisymm (UInt8.not_lt.1 h2) (UInt8.not_lt.1 h1)
    subst e
    simp[h1,ih]
def foundB (ls:List Item) (x:Item):Bool:=decide (∃h:firstNot x ls<ls.length,ls[firstNot x ls]=x)
def SearchIs (w:World) (ls:List Item) (x:Item) (e:Ending) (w' : World):Prop:=w'=w∧e = .returned (.tuple #[.int .i64 (firstNot x ls:Nat),.bool (foundB ls x)])
theorem Search_any (A B:Option Addr) (n c m d:Nat) (ls:List Item) (x:Item) (hn:ls.length=n) (hm:x.length=m) (w:World) (hS:Sees2 w w.heap.size A ls) (hS2:Sees w w.heap.size B (bv x)) (hlen:n≤1099511627776) (hr:risesB ls=true) :
  Calls Tryz.prog 249 #[.slice A n c,.slice B m d,cmpFn] w (SearchIs w ls x):=by
 unfold cmpFn
 have HN:=Lib.hid hn
 have HM:=Lib.hid hm
 have HR:=Lib.hid hr
 clear hn hm hr
 go_enter Tryz.func249,Tryz.ntmps249
 go_wp2
 go_loopg [9,10] n (fun g f t wr=>∃i j:Nat,i≤j∧j≤n∧j≤i+g∧f = .int .i64 i∧t = .int .i64 j∧Hid (Halved ls x i j)∧wr=w)
 case atStart=>exact ⟨0,n,by omega,by omega,by omega,rfl,rfl,(fun _=>⟨fun a _ ha=>absurd ha (by omega),fun a ha h=>absurd ha (by have:=HN.out;omega)⟩),rfl⟩
 case round =>
  obtain ⟨i,j,hij,hjn,hg,rfl,rfl,heq,rfl⟩:=hrel
  by_cases hlt:i<j
  ·obtain ⟨k,hk⟩:∃k,(i+j) / 2=k:=⟨_,rfl⟩
   have hki:i≤k:=by omega
   have hkj:k<j:=by omega
   obtain ⟨ad,Ai,ci,rfl,hadB,hcell,hci,hsee⟩:=hS.out k (by have:=HN.out;omega)
   obtain ⟨L,hL⟩:∃L,ls[k]'(by have:=HN.out;omega)=L:=⟨_,rfl⟩
   have hlo:ahead (ls[k]'(by have:=HN.out;omega)) x=true→Hid (Halved ls x (k+1) j):=fun e=>heq.out.lo _ e
   have hhi:ahead (ls[k]'(by have:=HN.out;omega)) x=false→Hid (Halved ls x i k):=fun e=>heq.out.hi _ e
   rw[hL] at hcell hci hsee hlo hhi
   have hC:=Lib.hid (Compare_any Ai B L.length m ci d L x rfl HM.out _ hsee hS2)
   clear hL heq
   obtain ⟨b,hb⟩:∃b,ahead L x=b:=⟨_,rfl⟩
   rw[hb] at hlo hhi
   have h1:=cmp_neg L x
   rw[hb] at h1
   clear hb
   generalize Lib.compareBytes L x=z at hC h1
   have hkd:(↑((i+j) / 2):Int)=(k:Int):=by omega
   have hkd2:((i:Int)+(j:Int)) / 2=(k:Int):=by omega
   have hkn:(k:Int)<(n:Int):=by omega
   have hk0:(0:Int)≤(k:Int):=by omega
   clear hk
   cases b with
   | true =>
    have hz:z<0:=by simpa using h1
    have hT:=hlo rfl
    clear hlo hhi h1
    go_wp2_with fail
    refine hC.out.mono ?_
    rintro e w1 ⟨rfl,rfl⟩
    go_wp2
    go_roundg (j - (k+1))
    case measure=>omega
    case rel=>exact ⟨k+1,j,by omega,by omega,by omega,by go_num,rfl,hT,rfl⟩
   | false =>
    have hz:0≤z:=by simpa using h1
    have hT:=hhi rfl
    clear hlo hhi h1
    go_wp2_with fail
    refine hC.out.mono ?_
    rintro e w1 ⟨rfl,rfl⟩
    go_wp2
    go_roundg (k - i)
    case measure=>omega
    case rel=>exact ⟨i,k,by omega,by omega,by omega,rfl,by go_num,hT,rfl⟩
  ·obtain rfl:i=j:=by omega
   have hfn:=heq.out.done (by have:=HN.out;omega) HR.out
   have HI:=Lib.hid hfn
   have HF:Hid (foundB ls x=decide (∃h:i<ls.length,ls[i]=x)):=by
    unfold Hid foundB;rw[decide_eq_decide]
    constructor
    ·rintro ⟨h,e⟩;exact ⟨by rw[hfn];exact h,by simp only[hfn];exact e⟩
    ·rintro ⟨h,e⟩;exact ⟨by rw[←hfn];exact h,by simp only[←hfn];exact e⟩
   clear hfn heq
   by_cases hin:i<n
   ·have hin' : (i:Int)<(n:Int):=by omega
    have hil:i<ls.length:=by rw[HN.out];exact hin
    obtain ⟨ad,Ai,ci,rfl,hadB,hcell,hci,hsee⟩:=hS.out i hil
    have HF2:Hid (foundB ls x=decide (ls[i]=x)):=by
     unfold Hid;rw[HF.out,decide_eq_decide];exact ⟨fun ⟨_,e⟩=>e,fun e=>⟨hil,e⟩⟩
    obtain ⟨L,hL⟩:∃L,ls[i]=L:=⟨_,rfl⟩
    rw[hL] at hcell hci hsee HF2
    have hC:=Lib.hid (Compare_any Ai B L.length m ci d L x rfl HM.out _ hsee hS2)
    have hz:=cmp_zeroI L x
    clear hL hil
    generalize Lib.compareBytes L x=z at hC hz
    have HZ:Hid ((z==0)=foundB ls x):=by
     unfold Hid;rw[HF2.out]
     by_cases e:z=0
     ·rw[decide_eq_true (hz.1 e),e];rfl
     ·rw[decide_eq_false (fun h=>e (hz.2 h)),beq_eq_false_iff_ne];exact e
    clear hz
    go_wp2_with fail
    refine hC.out.mono ?_
    rintro e w1 ⟨rfl,rfl⟩
    go_wp2
    go_ret2
    unfold SearchIs
    rw[←HI.out, ←HZ.out]
    exact ⟨rfl,by first|rfl|simp⟩
   ·have hin' : (n:Int)≤(i:Int):=by omega
    have HF2:Hid (foundB ls x=false):=by
     unfold Hid;rw[HF.out,decide_eq_false_iff_not];rintro ⟨h,_⟩;have:=HN.out;omega
    go_wp2
    go_ret2
    unfold SearchIs
    rw[←HI.out,HF2.out]
    exact ⟨rfl,rfl⟩
def atB (fs:List Item) (x:Item):Nat:=if foundB fs x=true then firstNot x fs else firstNot x fs - 1
theorem at_any (X:Nat) (A B:Option Addr) (n c m d:Nat) (fs:List Item) (x:Item) (hn:fs.length=n) (hm:x.length=m) (w:World) (hX:w.cell? ⟨X,0,none⟩=some (.slice A n c)) (hS:Sees2 w w.heap.size A fs) (hS2:Sees w w.heap.size B (bv x)) (hlen:n≤1099511627776) (hr:risesB fs=true) :
  Calls Tryz.prog 216 #[.pointer (some ⟨X,0,none⟩),.slice B m d] w fun e w'=>e = .returned (.int .i64 (atB fs x:Nat))∧w=w':=by
 have hSe:=Search_any A B n c m d fs x hn hm w hS hS2 hlen hr
 have hle:=firstNot_le x fs
 rw[hn] at hle
 have HA:Hid (atB fs x=if foundB fs x=true then firstNot x fs else firstNot x fs - 1):=rfl
 unfold SearchIs cmpFn at hSe
 obtain ⟨k,hk⟩:∃k,firstNot x fs=k:=⟨_,rfl⟩
 obtain ⟨b,hb⟩:∃b,foundB fs x=b:=⟨_,rfl⟩
 rw[hk,hb] at hSe HA
 rw[hk] at hle
 have hSE:=Lib.hid hSe
 clear hn hm hS hS2 hSe hk hb hr
 cases b with
 | true =>
  go_enter Tryz.func216,Tryz.ntmps216
  go_wp2_with fail
  refine hSE.out.mono ?_
  rintro e w1 ⟨rfl,rfl⟩
  go_wp2
  go_ret
  rw[HA.out]
  exact ⟨rfl,rfl⟩
 | false =>
  have hmx:max ((k:Int) - 1) 0=((k - 1:Nat):Int):=by omega
  go_enter Tryz.func216,Tryz.ntmps216
  go_wp2_with fail
  refine hSE.out.mono ?_
  rintro e w1 ⟨rfl,rfl⟩
  go_wp2
  go_ret
  rw[HA.out,if_neg (by simp)]
  exact ⟨by first|rfl|(rw[hmx])|(congr 2;omega),rfl⟩
end
section
open Go.RowKit Go.Shelf
attribute [local go_sem] Oper.semAt_some
def firstsB (ls:List Item):List Item:=(blk ls).map (·.headD [])
def fromY (ls:List Item) (x:Item):List Item:=((blk ls).drop (atB (firstsB ls) x)).flatMap fun o=>o.drop (firstNot x o)
abbrev Told:=Item×(Option Addr×Nat)
def Told.vals (y:Told):Array Value := #[.slice y.2.1 y.1.length y.2.2]
def FromOk (n0:Nat) (Y:List Item) (_:Nat→Prop) (pre:List Told) (y:Told) (W:World):Prop :=
 SeesM (fun k=>k<n0) W y.2.1 (bv y.1)∧y.1.length≤y.2.2∧(pre.map (·.1) ++ [y.1]) <+: Y∧n0≤W.heap.size
theorem from_any (p:Option Addr) (B:Option Addr) (n c:Nat) (w:World):Calls Tryz.prog 157 #[.pointer p,.slice B n c] w fun e w' =>
  e = .returned (.func (.func 215) #[] #[.pointer (some ⟨w.heap.size,0,none⟩),.pointer (some ⟨w.heap.size+1,0,none⟩)])∧w'=(w.alloc (.cells #[.pointer p] 160)).alloc (.cells #[.slice B n c] 48):=by
 go_enter Tryz.func157,Tryz.ntmps157
 go_wp2
 go_ret
 exact ⟨rfl,rfl⟩
theorem blk_block {ls:List Item}{o:List Item}(h:o∈blk ls):∃k,8*k<ls.length∧o=(ls.drop (8*k)).take 8:=by
 obtain ⟨k,hk,e⟩:=List.mem_iff_getElem.1 h
 refine ⟨k,?_,?_⟩
 ·have:=blk_length ls;omega
 ·rw[←e];exact blk_get hk
theorem firsts_rise {ls:List Item}(h:okB ls=true):risesB (firstsB ls)=true:=by
 refine rises_of fun i hi => ?_
 have hl:(firstsB ls).length=(blk ls).length:=by simp[firstsB]
 have hb:=blk_length ls
 have g:∀j (hj:j<(firstsB ls).length),(firstsB ls)[j]=ls[8*j]'(by omega):=fun j hj=>by
  have h1:(blk ls)[j]'(by omega)=(ls.drop (8*j)).take 8:=blk_get (by omega)
  have h2:(firstsB ls)[j]=((blk ls)[j]'(by omega)).headD []:=by simp[firstsB]
  rw[h2,h1,headD_get (by rw[List.length_take,List.length_drop];omega)]
  exact block_get (by rw[List.length_take,List.length_drop];omega)
 rw[g,g]
 exact rises_pair (ok_parts h).1 (by omega) (by omega) (by omega)
theorem firstNot_at_most {ls:List Item}{x:Item}(hl:0<ls.length):atB ls x<ls.length:=by
 have h1:=firstNot_le x ls
 unfold atB foundB
 split
 ·rename_i h
  rw[decide_eq_true_eq] at h
  exact h.1
 ·omega
end
section
open Go.RowKit Go.Shelf
attribute [local go_sem] Oper.semAt_some
theorem flat_pre {α β:Type}(f:α→List β) {L:List α}{k:Nat}(h:k<L.length) (j:Nat):(L.take k).flatMap f++(f L[k]).take j <+: L.flatMap f:=by
 have e:L.flatMap f=(L.take k).flatMap f++(f L[k]++(L.drop (k+1)).flatMap f):=by
  rw[←List.flatMap_cons, ←List.flatMap_append, ←List.drop_eq_getElem_cons h,List.take_append_drop]
 rw[e,List.prefix_append_right_inj]
 exact (List.take_prefix _ _).trans (List.prefix_append _ _)
theorem flat_step {α β:Type}(f:α→List β) {L:List α}{k:Nat}(h:k<L.length):(L.take (k+1)).flatMap f=(L.take k).flatMap f++f L[k]:=by
 rw[take_snoc h,List.flatMap_append,List.flatMap_cons,List.flatMap_nil,List.append_nil]
theorem told_len {pre:List Told}{y:Item}{Y:List Item}(h:(pre.map (·.1) ++ [y]) <+: Y):pre.length<Y.length:=by
 have:=h.length_le
 rw[List.length_append,List.length_map,List.length_singleton] at this
 omega
theorem from1_seq {m:Nat→Prop}{w:World}{P:Nat}{ls:List Item}(h:PartAt m w P ls) (n0:Nat) (hm:∀k,m k→k<n0) (x:Item) (Bx:Option Addr) (lx dx:Nat) (hx:Sees w n0 Bx (bv x)) (hxl:x.length=lx) (B1 B2:Nat)
  (h1:w.cell? ⟨B1,0,none⟩=some (.pointer (some ⟨P,0,none⟩))) (h2:w.cell? ⟨B2,0,none⟩=some (.slice Bx lx dx)) (hB1:B1<w.heap.size) (hB2:B2<w.heap.size) (hn0:n0≤w.heap.size) (n:Nat) :
  SeqT Fence.wide n Tryz.prog 215 #[.pointer (some ⟨B1,0,none⟩),.pointer (some ⟨B2,0,none⟩)] Told.vals (fun k=>k<n0∨k=B1∨k=B2) (fun _=>False) (FromOk n0 (fromY ls x)) (fun xs=>xs.map (·.1)=fromY ls x) (fun pre=>pre.map (·.1) <+: fromY ls x) (fromY ls x).length w:=by
 intro l J Jx W hW hJ hJx hY h0
 have hro:Fence.wide.round=none:=rfl
 have hkR:Kept (fun k=>k<n0∨k=B1∨k=B2) w W:=Kept.of_below hW (fun k hk=>by rcases hk with hk|rfl|rfl<;>omega)
 have hP:=h.keep (hkR.mono fun k hk => .inl (hm k hk))
 have hxW:SeesM (fun k=>k<n0) W Bx (bv x):=hx.toM.keep (hkR.mono fun k hk => .inl hk)
 have h1W:=(hkR.cell (p:=⟨B1,0,none⟩) (.inr (.inl rfl))).trans h1
 have h2W:=(hkR.cell (p:=⟨B2,0,none⟩) (.inr (.inr rfl))).trans h2
 have hnW:n0≤W.heap.size:=Nat.le_trans hn0 hW.size
 clear h hx h1 h2 hkR
 have hmW:∀k,m k→k<W.heap.size:=fun k hk=>by have:=hm k hk;omega
 have hL:=Lib.hid (Len_any hP)
 obtain ⟨X,AB,AF,cB,cF,p1,p2,p3,p4,p5,p6,p7,p8,p9,p10⟩:=hP.out
 have hAt:=fun q=>Lib.hid (at_any X AF Bx (blk ls).length cF lx dx (firstsB ls) x (by simp[firstsB]) hxl (W.drewN q) p6 ((p10.sees hmW).drew q) ((hxW.sees (fun k hk=>by show k<W.heap.size;omega)).drewN q) (by have:=blk_length ls;have:=hP.few;omega) (firsts_rise hP.well))
 have hat:=firstNot_at_most (ls:=firstsB ls) (x:=x) (by simpa[firstsB] using hP.pos)
 have hfl:(firstsB ls).length=(blk ls).length:=by simp[firstsB]
 rw[hfl] at hat
 have hYd:fromY ls x=((blk ls).drop (atB (firstsB ls) x)).flatMap fun o=>o.drop (firstNot x o):=rfl
 obtain ⟨k0,hk0⟩:∃k0,atB (firstsB ls) x=k0:=⟨_,rfl⟩
 obtain ⟨Y,hYY⟩:∃Y,fromY ls x=Y:=⟨_,rfl⟩
 rw[hk0] at hAt hat hYd
 rw[hYY] at hYd hY ⊢
 obtain ⟨N,hN⟩:∃N,(blk ls).length=N:=⟨_,rfl⟩
 rw[hN] at p4 p6 p7 hat
 have hn0' : ((ls.length:Int)==0)=false:=by rw[beq_eq_false_iff_ne];have:=hP.many;omega
 obtain ⟨nl,hnl⟩:∃nl,ls.length=nl:=⟨_,rfl⟩
 rw[hnl] at hL hn0'
 have HYD:=Lib.hid hYd
 have HN:=Lib.hid hN
 have hN250:N≤250:=by have h1:=blk_length ls;have h2:=hP.few;omega
 have p9':=Lib.hid p9
 have HXL:=Lib.hid hxl
 have hwell:=Lib.hid hP.well
 have hkept:Kept (fun k=>k<n0∨k=B1∨k=B2) W W:=Kept.refl _ _
 clear hYd hYY hk0 hN hnl p9 p10 hfl hP p5 hxl
 refine callsIn_of_wp Tryz.func215 rfl trivial ?_ rfl
 simp only[Tryz.ntmps215,List.size_toArray,List.length_cons,List.length_nil,Nat.reduceAdd,Nat.reduceSub,Array.replicate_succ,Array.replicate_zero,List.push_toArray,List.append_toArray,List.nil_append,List.cons_append]
 gi_wp2_with fail
 refine ⟨trivial,fun h=>absurd h (by simp[Fence.wide]),(callsIn_wide.2 hL.out).mono ?_⟩
 rintro e w1 ⟨rfl,rfl⟩
 gi_wp2_with fail
 refine wpIn_wide.2 ?_
 go_quiet ((refine (hAt _).out.mono ?_;rintro e w1 ⟨rfl,rfl⟩;exact ⟨rfl,_,rfl⟩))
 have hne:¬ cB=k0:=by omega
 have ik0:(k0:Int)≤(N:Int):=by omega
 have ik1:(k0:Int)≤(cB:Int):=by omega
 have ik2:(0:Int)≤(k0:Int):=by omega
 have HW:=hW.size
 clear hL hAt hmW hW p6 p8 hn0'
 gi_wp2_with fail
 gi_loopg [25] (N - k0) (fun g i wr=>∃(k:Nat) (s:Nat→Prop) (pre:List Told),k+g=N - k0∧i = .int .i64 k∧J s pre wr∧Kept (fun k=>k<n0∨k=B1∨k=B2) W wr∧W.heap.size≤wr.heap.size∧Hid (pre.map (·.1)=(((blk ls).drop k0).take k).flatMap fun o=>o.drop (firstNot x o)))
 case atStart=>exact ⟨0,_, [],by omega,rfl,hJ _ _ _ _ h0 (Turn.drewN W nq),hkept,Nat.le_refl _,rfl⟩
 case round =>
  obtain ⟨k,s,pre,hk,rfl,hJs,hkr,hsr,hpre⟩:=hrel
  by_cases hlt:k<N - k0
  ·have hkb:k0+k<(blk ls).length:=by rw[HN.out];omega
   obtain ⟨ad,Ao,co,rfl,hadm,hco,hoc,hso⟩:=p9'.out.out (k0+k) hkb
   have hkD:k<((blk ls).drop k0).length:=by rw[List.length_drop,HN.out];omega
   have hgd:((blk ls).drop k0)[k]=(blk ls)[k0+k]:=List.getElem_drop
   have hpf:=fun j=>flat_pre (fun o:List Item=>o.drop (firstNot x o)) hkD j
   have hst:=flat_step (fun o:List Item=>o.drop (firstNot x o)) hkD
   simp only[hgd, ←HYD.out] at hpf hst
   have hbo:∃j,8*j<ls.length∧(blk ls)[k0+k]=(ls.drop (8*j)).take 8:=blk_block (List.getElem_mem hkb)
   obtain ⟨o,ho⟩:∃o,(blk ls)[k0+k]=o:=⟨_,rfl⟩
   rw[ho] at hco hoc hso hbo
   simp only[ho] at hpf hst
   have hro:risesB o=true:=by
    obtain ⟨j,hj,e⟩:=hbo
    exact (check_ok (by rw[e];exact block_ok hwell.out hj)).2.2.2
   have hol8:o.length≤8:=by obtain ⟨j,hj,e⟩:=hbo;rw[e,List.length_take];omega
   have hkm:Kept m W wr:=hkr.mono fun j hj => .inl (hm j hj)
   have hcor:wr.cell? (ad.add (k0+k))=some (.slice Ao o.length co):=(hkm.cell (by rw[add_block];exact hadm)).trans hco
   rw[←add_add'] at hcor
   have hsor:=hso.keep hkm
   have hh2:wr.cell? ⟨B2,0,none⟩=some (.slice Bx lx dx):=(hkr.cell (p:=⟨B2,0,none⟩) (.inr (.inr rfl))).trans h2W
   have hSk:=Lib.hid (Seek_any Ao Bx o.length co lx dx o x rfl HXL.out wr (hsor.sees (fun k hk=>by have:=hm k hk;omega)) ((hxW.keep (hkr.mono fun j hj => .inl hj)).sees (fun k hk=>by show k<wr.heap.size;omega)) (by omega))
   obtain ⟨ol,hol⟩:∃ol,o.length=ol:=⟨_,rfl⟩
   rw[hol] at hcor hoc hSk hol8
   have HOL:=Lib.hid hol
   have HRO:=Lib.hid hro
   have hpf':=Lib.hid hpf
   have hst':=Lib.hid hst
   have ikN:(k:Int)<((N - k0:Nat):Int):=by omega
   clear hco hso hbo ho hgd hpf hst hol hro
   gi_wp2_with fail
   refine ⟨trivial,fun h=>absurd h (by simp[Fence.wide]),(callsIn_wide.2 hSk.out).mono ?_⟩
   rintro e w1 ⟨rfl,k1,hk1,hk1e,rfl⟩
   have HK1:=Lib.hid (hk1e HRO.out)
   clear hSk hk1e
   rw[HOL.out] at hk1
   by_cases hk1l:k1<ol
   ·have hnc:¬ co=k1:=by omega
    have j1:(k1:Int)≤(ol:Int):=by omega
    have j2:(k1:Int)≤(co:Int):=by omega
    have j3:(0:Int)≤(k1:Int):=by omega
    obtain ⟨ado,hAo⟩:∃ado,Ao=some ado:=by
     obtain ⟨ado,_,_,e,_⟩:=hsor.out 0 (by rw[HOL.out];omega)
     exact ⟨ado,e⟩
    subst hAo
    obtain ⟨wo,rfl⟩:∃wo,wo=w1:=⟨_,rfl⟩
    gi_wp2_with fail
    gi_loopg [35] (ol - k1) (fun g i wz=>∃(k2:Nat) (s:Nat→Prop) (pre:List Told),k2+g=ol - k1∧i = .int .i64 k2∧J s pre wz∧Kept (fun k=>k<n0∨k=B1∨k=B2) W wz∧W.heap.size≤wz.heap.size∧Hid (pre.map (·.1)=((((blk ls).drop k0).take k).flatMap fun o=>o.drop (firstNot x o))++(o.drop k1).take k2))
    case atStart=>exact ⟨0,s,pre,by omega,rfl,hJs,hkr,hsr,by unfold Hid;rw[hpre.out];simp⟩
    case round =>
     obtain ⟨k2,s2,pre2,hk2,rfl,hJ2,hkz,hsz,hpre2⟩:=hrel
     by_cases hlt2:k2<ol - k1
     ·have hkol:k1+k2<o.length:=by rw[HOL.out];omega
      have hkmz:Kept m W wr:=hkz.mono fun j hj => .inl (hm j hj)
      have hkmrz:Kept m wo wr:=fun j hj=>(hkmz j hj).trans (hkm j hj).symm
      obtain ⟨ady,Ay,cy,hady,hadym,hcy,hyc,hsy⟩:=hsor.out (k1+k2) hkol
      obtain rfl:=Option.some.inj hady
      have hcyz:wr.cell? ((ado.add k1).add k2)=some (.slice Ay (o[k1+k2]).length cy):=by rw[add_add'];exact (hkmrz.cell (by rw[add_block];exact hadym)).trans hcy
      have hod:k2<(o.drop k1).length:=by rw[List.length_drop];omega
      have htk2:=take_snoc hod
      rw[List.getElem_drop] at htk2
      obtain ⟨y,hy⟩:∃y,o[k1+k2]=y:=⟨_,rfl⟩
      rw[hy] at hcyz hyc hsy htk2
      have hp2:(pre2.map (·.1) ++ [y]) <+: Y:=by
       rw[hpre2.out,List.append_assoc, ←htk2]
       have:=hpf'.out (k2+1)
       rw[←HK1.out] at this
       exact this
      have hY1:=hY s2 pre2 (y,(Ay,cy)) wr hJ2 (told_len hp2) ⟨(hsy.keep hkmrz).mono hm,hyc,hp2,by omega⟩
      have HP2:=Lib.hid hp2
      have HTK2:=Lib.hid htk2
      obtain ⟨fn,tmps,assign,body,hyy,hR⟩:=hY1
      dsimp only[Told.vals] at hyy
      obtain ⟨ly,hly⟩:∃ly,y.length=ly:=⟨_,rfl⟩
      rw[hly] at hcyz hyy
      have il:(k2:Int)<((ol - k1:Nat):Int):=by omega
      clear hp2 htk2 hy hcy hly hyc
      gi_wp2_with fail
      refine ⟨fun h=>absurd h (by simp[Fence.wide]),hR.mono ?_⟩
      rintro e w4 (⟨rfl,hJ4,ht4⟩|⟨rfl,hJx4, -⟩)
      ·have hk4:Kept (fun k=>k<n0∨k=B1∨k=B2) wr w4:=Kept.of_turn ht4 (fun k hk=>⟨by rcases hk with hk|rfl|rfl<;>omega,fun e=>e.2 hk⟩)
       gi_wp2_with fail
       gi_roundg (ol - k1 - (k2+1))
       case measure=>omega
       case rel=>exact ⟨k2+1,s2,pre2 ++ [(y,(Ay,cy))],by omega,by go_num,hJ4,hkz.trans hk4,Nat.le_trans hsz ht4.size,by unfold Hid;rw[List.map_append,hpre2.out,HTK2.out,List.append_assoc];rfl⟩
      ·gi_wp2_with fail
       refine bodyPost_ret (results_none rfl _ _ _) rfl ?_
       exact ⟨⟨_,rfl⟩,.inr ⟨s2,_,by rw[List.map_append];exact HP2.out,hJx4⟩⟩
     ·have hk2e:k2=ol - k1:=by omega
      gi_wp2_with fail
      gi_roundg (N - k0 - (k+1))
      case measure=>omega
      case rel=>exact ⟨k+1,s2,pre2,by omega,by go_num,hJ2,hkz,hsz,by unfold Hid;rw[hpre2.out,hst'.out, ←HK1.out,List.take_of_length_le (l:=o.drop k1) (by rw[List.length_drop,HOL.out];omega)]⟩
   ·have hk1e:k1=ol:=by omega
    have hd0:ol - k1=0:=by omega
    have j1:(k1:Int)≤(ol:Int):=by omega
    have j2:(k1:Int)≤(co:Int):=by omega
    have j3:(0:Int)≤(k1:Int):=by omega
    have hde:o.drop k1 = []:=List.drop_eq_nil_of_le (by rw[HOL.out];omega)
    have HDE:=Lib.hid hde
    clear hde
    obtain ⟨wo,rfl⟩:∃wo,wo=w1:=⟨_,rfl⟩
    gi_wp2_with fail
    all_goals
     gi_loopg [35] 0 (fun g i wz=>i = .int .i64 0∧wz=wo)
     case atStart=>exact ⟨rfl,rfl⟩
     case round =>
      obtain ⟨rfl,rfl⟩:=hrel
      gi_wp2_with fail
      gi_roundg (N - k0 - (k+1))
      case measure=>omega
      case rel=>exact ⟨k+1,s,pre,by omega,by go_num,hJs,hkr,hsr,by unfold Hid;rw[hpre.out,hst'.out, ←HK1.out,HDE.out,List.append_nil]⟩
  ·have hke:k=N - k0:=by omega
   have ikN:((N - k0:Nat):Int)≤(k:Int):=by omega
   gi_wp2_with fail
   go_end0
   refine ⟨⟨_,rfl⟩,.inl ⟨s,pre,?_,hJs⟩⟩
   show pre.map (·.1)=Y
   rw[hpre.out,HYD.out,List.take_of_length_le (l:=(blk ls).drop k0) (by rw[List.length_drop,HN.out];omega)]
end
section
open Go.RowKit Go.Shelf
attribute [local go_sem] Oper.semAt_some
def SeqFrom (w:World) (p:Option Addr) (Bx:Option Addr) (lx dx:Nat) (Y:List Item):Prop :=
 ∀(W:World) (B1 B2 n:Nat),Below w.heap.size w W→W.cell? ⟨B1,0,none⟩=some (.pointer p)→W.cell? ⟨B2,0,none⟩=some (.slice Bx lx dx)→B1<W.heap.size→B2<W.heap.size →
  SeqT Fence.wide n Tryz.prog 215 #[.pointer (some ⟨B1,0,none⟩),.pointer (some ⟨B2,0,none⟩)] Told.vals (fun k=>k<w.heap.size∨k=B1∨k=B2) (fun _=>False) (FromOk w.heap.size Y) (fun xs=>xs.map (·.1)=Y) (fun pre=>pre.map (·.1) <+: Y) Y.length W
theorem seqFrom_part {m:Nat→Prop}{w:World}{P:Nat}{ls:List Item}(h:PartAt m w P ls) (hm:∀k,m k→k<w.heap.size) (x:Item) (Bx:Option Addr) (lx dx:Nat) (hx:Sees w w.heap.size Bx (bv x)) (hxl:x.length=lx):SeqFrom w (some ⟨P,0,none⟩) Bx lx dx (fromY ls x) :=
 fun _ B1 B2 n hW h1 h2 hB1 hB2=>from1_seq (h.keep (Kept.of_below hW hm)) w.heap.size hm x Bx lx dx (hx.below hW) hxl B1 B2 h1 h2 hB1 hB2 hW.size n
theorem fromOk_keep {n0:Nat}{Y:List Item}{s:Nat→Prop}{D:Nat}{pre:List Told}{y:Told}{A B:World}(h:FromOk n0 Y s pre y A) (hn0:n0≤D) (ht:Turn (fun k=>k=D∨k=D+1) A B):FromOk n0 Y s pre y B :=
 ⟨h.1.keep (Kept.of_turn ht fun k hk=>⟨Nat.lt_of_lt_of_le hk h.2.2.2,by rintro (e|e)<;>omega⟩),h.2.1,h.2.2.1,Nat.le_trans h.2.2.2 ht.size⟩
theorem Has_of (w:World) (p:Option Addr) (Bx:Option Addr) (lx dx:Nat) (x:Item) (Y:List Item) (hx:Sees w w.heap.size Bx (bv x)) (hxl:x.length=lx) (hseq:SeqFrom w p Bx lx dx Y) :
  Calls Tryz.prog 323 #[.pointer p,.slice Bx lx dx] w (Gives w (.bool (decide (Y.head?=some x)))):=by
 refine (callsIn_wide (n:=5)).1 ?_
 have HX:=Lib.hid hx
 have HXL:=Lib.hid hxl
 clear hx hxl
 have hF:=fun W=>Lib.hid (from_any p Bx lx dx W)
 refine callsIn_of_wp_marks Tryz.func323 rfl trivial ?_ rfl
 simp only[Tryz.ntmps323,List.size_toArray,List.length_cons,List.length_nil,Nat.reduceAdd,Nat.reduceSub,Array.replicate_succ,Array.replicate_zero,List.push_toArray,List.append_toArray,List.nil_append,List.cons_append]
 gi_wp2_with fail
 refine ⟨trivial,(callsIn_wide.2 (hF _).out).mono ?_⟩
 rintro e w1 ⟨rfl,hw1⟩
 have b0:=Box1.new w 48 (.slice Bx lx dx)
 have b1:=Box1.new (w.alloc (.cells #[.slice Bx lx dx] 48)) 4 (.bool false)
 have hb0:Below w.heap.size w ((w.alloc (.cells #[.slice Bx lx dx] 48)).alloc (.cells #[.bool false] 4)):=((Below.refl _ w).alloc (Nat.le_refl _) _).alloc (by simp) _
 have hz0:((w.alloc (.cells #[.slice Bx lx dx] 48)).alloc (.cells #[.bool false] 4)).heap.size=w.heap.size+1+1:=by simp
 have b0':=b0.alloc (.cells #[.bool false] 4)
 rw[World.size_alloc] at b1
 generalize (w.alloc (.cells #[.slice Bx lx dx] 48)).alloc (.cells #[.bool false] 4)=Wa at b0' b1 hb0 hz0 hw1 ⊢
 clear b0
 have b2:=(Box1.new Wa 160 (.pointer p)).alloc (.cells #[.slice Bx lx dx] 48)
 have b3:=Box1.new (Wa.alloc (.cells #[.pointer p] 160)) 48 (.slice Bx lx dx)
 rw[←hw1] at b2 b3
 have hb1:Below Wa.heap.size Wa w1:=by rw[hw1];exact ((Below.refl _ Wa).alloc (Nat.le_refl _) _).alloc (by simp) _
 have hz1:w1.heap.size=w.heap.size+1+1+1+1:=by rw[hw1];simp[hz0]
 rw[World.size_alloc,hz0] at b3
 rw[hz0] at b2
 have c0:=Box1.turn b0' (Turn.of_new (T:=fun _=>False) hb1) (fun h=>h)
 have c1:=Box1.turn b1 (Turn.of_new (T:=fun _=>False) hb1) (fun h=>h)
 have hbw:Below w.heap.size w w1:=hb0.trans (hb1.mono (by omega))
 have hD:=hseq w1 (w.heap.size+1+1) (w.heap.size+1+1+1) 4 hbw b2.cell b3.cell (by omega) (by omega)
 clear hw1 b0' b1 hb0 hb1 b2 b3
 rw[hz0]
 gi_wp2_with fail
 refine wpIn_rangeFunc_T (F:=Fence.wide) (n:=5) rfl (by omega) (gf:=215) (lb := #[.pointer (some ⟨w.heap.size+1+1,0,none⟩),.pointer (some ⟨w.heap.size+1+1+1,0,none⟩)]) rfl trivial (enters_of Tryz.func215 (by kernel_rfl) rfl)
  hD (Below.refl _ _) (fun _=>rfl) (fun k hk=>by rcases hk with (hk|rfl|rfl)|hk<;>first|omega|exact hk.elim)
  (fun s pre y A B h hR ht=>fromOk_keep h (by omega) ht)
  (fun s pre W=>pre = []∧(∀k,s k→w.heap.size+1+1+1+1≤k)∧Below w.heap.size w W∧w1.heap.size≤W.heap.size∧Box1 W w.heap.size 48 (.slice Bx lx dx)∧Box1 W (w.heap.size+1) 4 (.bool false))
  (fun c s pre W=>c = .ret∧(∃y,Y.head?=some y.1∧pre = [y]∧Box1 W (w.heap.size+1) 4 (.bool (decide (y.1=x))))∧(∀k,s k→w.heap.size+1+1+1+1≤k)∧Below w.heap.size w W∧w1.heap.size≤W.heap.size)
  ?hI ?hIx ?hI2 ?hIx2 ?h0 (fun y => { tmps := #[.pointer p,.slice Bx lx dx,undef,.pointer (some ⟨w.heap.size,0,none⟩),.pointer (some ⟨w.heap.size+1,0,none⟩),.slice y.2.1 y.1.length y.2.2,.pointer p,.slice Bx lx dx,.func (.func 215) #[] #[.pointer (some ⟨w.heap.size+1+1,0,none⟩),.pointer (some ⟨w.heap.size+1+1+1,0,none⟩)],.slice y.2.1 y.1.length y.2.2,undef,undef,undef],defers := [] }) ?assign ?body ?done ?stop
 case hI =>
  rintro s pre A B ⟨h1,h2,h3,h4,h5,h6⟩ ht
  have hA:∀k,grown s A B k→w.heap.size+1+1+1+1≤k:=fun k hk=>by rcases hk with hk|hk;exact h2 k hk;omega
  exact ⟨h1,hA,h3.trans (ht.below (fun j hj=>by have:=h2 j hj;omega) h3.size),Nat.le_trans h4 ht.size,h5.turn ht (fun e=>by have:=h2 _ e;omega),h6.turn ht (fun e=>by have:=h2 _ e;omega)⟩
 case hIx =>
  rintro c s pre A B ⟨h1,⟨y,g1,g2,g3⟩,h2,h3,h4⟩ ht
  have hA:∀k,grown s A B k→w.heap.size+1+1+1+1≤k:=fun k hk=>by rcases hk with hk|hk;exact h2 k hk;omega
  exact ⟨h1,⟨y,g1,g2,g3.turn ht (fun e=>by have:=h2 _ e;omega)⟩,hA,h3.trans (ht.below (fun j hj=>by have:=h2 j hj;omega) h3.size),Nat.le_trans h4 ht.size⟩
 case hI2 =>
  rintro s pre A B ⟨h1,h2,h3,h4,h5,h6⟩ ht
  exact ⟨h1,h2,h3.trans (ht.below (fun j hj=>by omega) h3.size),Nat.le_trans h4 ht.size,h5.turn ht (by omega),h6.turn ht (by omega)⟩
 case hIx2 =>
  rintro c s pre A B ⟨h1,⟨y,g1,g2,g3⟩,h2,h3,h4⟩ ht
  exact ⟨h1,⟨y,g1,g2,g3.turn ht (by omega)⟩,h2,h3.trans (ht.below (fun j hj=>by omega) h3.size),Nat.le_trans h4 ht.size⟩
 case h0=>exact ⟨rfl,fun k hk=>hk.elim,hbw,Nat.le_refl _,c0,c1⟩
 case assign =>
  intro l y W K hK
  dsimp only[Told.vals]
  gi_wp2
  exact hK
 case body =>
  rintro l s pre y W ⟨rfl,h2,h3,h4,h5,h6⟩ hlt ⟨g1,g2,g3,g4⟩ hdW
  have hc5:=h5.cell
  have hc6:=h6.cell
  have hf6:=h6.frozen
  have hEq:=Lib.hid (BytesEqual_any y.2.1 Bx y.1.length lx y.2.2 dx y.1 x rfl HXL.out W (g1.sees (fun k hk=>by omega)) ((HX.out.below h3).more h3.size))
  gi_wp2_with fail
  refine ⟨trivial,(CallsIn.inRound l (callsIn_wide.2 hEq.out)).mono ?_⟩
  rintro e w2 ⟨rfl,rfl⟩
  gi_wp2_with fail
  have hhd:Y.head?=some y.1:=by
   obtain ⟨t,ht⟩:=g3
   rw[←ht];simp
  refine ⟨Turn.setCell _ _ _ ⟨fun e=>by have:=h2 _ e;simp only at this;omega,by simp only;omega,by simp only;omega,by simp only;omega⟩,rfl,⟨y,hhd,rfl,h6.set _⟩,h2,h3.setCell (p:=⟨w.heap.size+1,0,none⟩) (by simp) _,by rw[World.size_setCell];exact h4⟩
 case done =>
  rintro s xs W hS ⟨rfl,h2,h3,h4,h5,h6⟩ hK
  have hc6:=h6.cell
  have hf6:=h6.frozen
  have hY0:Y = []:=by simpa using hS.symm
  gi_wp2_with fail
  have ht:Turn (fun k=>k=w.heap.size+1) W (W.setCell ⟨w.heap.size+1,0,none⟩ (.bool false)):=Turn.setCell _ _ _ rfl
  have hK':=(ht.block _ (Array.getElem?_eq_some_iff.1 hK).1 (by omega)).trans hK
  refine ⟨by simp,.inl ⟨_,_,rfl,run_takeDeferred hK',?_⟩⟩
  have hb7:=(h6.set (.bool false)).turn (Turn.putObj _ w1.heap.size (.deferred none) (T:=fun k=>k=w1.heap.size) rfl) (by omega)
  have hc7:=hb7.cell
  refine ⟨.bool false,?_,by rw[hY0];rfl,(h3.setCell (p:=⟨w.heap.size+1,0,none⟩) (by simp) _).trans ((Turn.putObj _ w1.heap.size (.deferred none) (T:=fun k=>k=w1.heap.size) rfl).below (fun j hj=>by omega) (by rw[World.size_setCell];exact h3.size))⟩
  simp[results,Tryz.f323,go_sem,hc7]
 case stop =>
  rintro c s pre W hS ⟨rfl,⟨y,g1,rfl,g3⟩,h2,h3,h4⟩ hK
  gi_wp2_with fail
  refine ⟨by simp,.inl ⟨_,_,rfl,run_takeDeferred hK,?_⟩⟩
  have hb7:=g3.turn (Turn.putObj _ w1.heap.size (.deferred none) (T:=fun k=>k=w1.heap.size) rfl) (by omega)
  have hc7:=hb7.cell
  refine ⟨.bool (decide (y.1=x)),?_,by rw[g1];simp,h3.trans ((Turn.putObj _ w1.heap.size (.deferred none) (T:=fun k=>k=w1.heap.size) rfl).below (fun j hj=>by omega) h3.size)⟩
  simp[results,Tryz.f323,go_sem,hc7]
end
section
open Go.RowKit
def Only (Q:Exit→Act→World→Prop):Exit→Act→World→Prop
 | .normal,a,w=>Q .normal a w
 | _,_,_=>False
theorem Only.normal {Q:Exit→Act→World→Prop}{a:Act}{w:World}(h:Q .normal a w):Only Q .normal a w:=h
theorem Only.stays (Q:Exit→Act→World→Prop):¬ LetsOut (Only Q):=fun ⟨_,_,h⟩=>h
variable {l n : Nat} {P : Program} {Q : Exit → Act → World → Prop}
theorem wpIn_of_wp_round {o:Oper}{a:Act}{w:World}{K K' : Act→World→Prop}(hnd:∀c,o.op ≠ .defer c) (hK:∀a w,K a w→K' a w) (h:o.wp P a w K (Only Q)):o.wpIn (Fence.wide.inRound l) n P a w K' Q:=by
 refine ⟨fun _ _=>trivial,?_⟩
 rw[show (Fence.wide.inRound l).round=some l from rfl,Oper.semAt_eq _ _ _ hnd]
 unfold Oper.wp at h
 generalize (execOp a.eval o).run P w=r at h ⊢
 cases r with
 | ok x w' =>
  cases x with
  | value v=>exact hK _ _ h
  | skip=>exact hK _ _ h
  | defer d=>exact hK _ _ h
  | enter f args =>
   refine ⟨fun h=>absurd h (by simp[Fence.inRound,Fence.wide]),?_⟩
   have h' : Calls P f args w' (fun | .returned v,w''=>K (a.put o.dst v) w'' | .panicked chain,w''=>Only Q (.panic chain) a w'' | .outgrown,_=>LetsOut (Only Q)):=h
   refine (CallsIn.inRound l (callsIn_wide.2 h')).mono fun e w'' he => ?_
   cases e with
   | returned v=>exact hK _ _ he
   | panicked c=>exact he.elim
   | outgrown=>exact absurd he (Only.stays Q)
  | row row args =>
   refine ⟨fun h=>absurd h (by simp[Fence.inRound,Fence.wide]),?_⟩
   have h' : Rows P row args w' (fun v w''=>K (a.put o.dst v) w''):=h
   intro c cs _
   obtain ⟨v,w'',hr,hs⟩:=h' c cs
   exact ⟨v,w'',hK _ _ hr,stepsIn_wide.2 hs⟩
  | round=>exact h.elim
  | _=>exact h.elim
 | halt x w' =>
  cases x<;>exact h.elim
theorem wpAnyIn_of_wpAny {md:Region.Mode}{ops:Array Oper}(hnd:∀(i:Nat) (o:Oper),ops[i]?=some o→∀c:Call,o.op ≠ .defer c):∀(fuel:Nat) (listed:Array Bool) (a:Act) (w:World),wpAny P md ops (Only Q) fuel listed a w→wpAnyIn (Fence.wide.inRound l) n P md ops Q fuel listed a w
 | 0,_,_,_,h=>h
 | fuel+1,listed,a,w,h=>by
  refine ⟨h.1,fun i hi => ?_⟩
  have hop:=h.2 i hi
  unfold wpOp at hop
  unfold wpOpIn
  cases ho:ops[i]? with
  | none =>
   rw[ho] at hop
   exact wpAnyIn_of_wpAny hnd fuel _ _ _ hop
  | some o =>
   rw[ho] at hop
   simp only at hop ⊢
   split
   ·rename_i hw
    rw[if_pos hw] at hop
    rcases hop with hop|⟨_,hop⟩
    ·exact wpIn_of_wp_round (hnd i o ho) (fun a w=>wpAnyIn_of_wpAny hnd fuel _ a w) hop
    ·exact absurd hop (Only.stays Q)
   ·rename_i hw
    rw[if_neg hw] at hop
    exact ⟨fun _ _=>trivial,wpAnyIn_of_wpAny hnd fuel _ _ _ hop⟩
theorem wpIn_round_held {S:World→Prop}{id:Nat}{ops:Array Oper}{a:Act}{w:World}(hnd:ops.all (fun o=>match o.op with | .defer _=>false|_=>true)=true) (hm:P.follows .mixedOrders=true) (hS:S w.drew)
  (h:S w.drew→wpAnyH P .any ops (Only Q) S ops.size (Array.replicate ops.size false) a w.drew):(Code.region id ops true).wpIn (Fence.wide.inRound l) n P Q a w:=by
 refine wpIn_region_any hm (wpAnyIn_of_wpAny (fun i o ho c e => ?_) _ _ _ _ (wpAny_of_held _ _ _ _ (h hS)))
 rw[Array.all_eq_true] at hnd
 obtain ⟨hi,he⟩:=Array.getElem?_eq_some_iff.1 ho
 have:=hnd i hi
 rw[he,e] at this
 exact absurd this (by simp)
theorem wpListIn_append_v {w:World}{ops:Array Oper}{rest:List Oper}{o:Oper}{a:Act}(hgd:o.guard=none) (s x:Operand) (t:TypeId)
  (ho:o.op = .call { callee := .builtin .append,args := #[s,x],argTypes := #[t,t] })
  (e:TypeId) (i:TypeInfo) (z:Value) (size bytes:Nat) (ht:P.underlying t=some (.slice e)) (hi:P.info? e=some i) (hz:i.zero=some z)
  (hsize:i.size=size) (hby:i.bytes=bytes) (hzs:z.cells.size=size) (hsz:0<size)
  (base:Nat) (v:Value) (k:Nat) (xs:List Value) (hs:a.eval s=v) (hown:w.ownsRow base e size v k xs) (B:Nat) (A:Option Addr) (m c:Nat) (news:List Value) (hx:a.eval x = .slice A m c) (hm:news.length=m*size) (hsee:Sees w B A news)
  (h1:∀u∈news,u.oneCell'=true) (h63:k+m≤maxLen) (hbytes:(k+m)*bytes≤140737488355328) (hbase:base≤w.heap.size)
  (h:∀v' w',w'.ownsRow base e size v' (k+m) (xs++news)→Onto w w' v v'→wpListIn (Fence.wide.inRound l) n P ops Q rest (a.put o.dst v') w'):wpListIn (Fence.wide.inRound l) n P ops Q (o :: rest) a w:=by
 unfold wpListIn
 rw[if_pos (by simp[Region.wanted,hgd])]
 exact wpIn_of_wp_round (fun c e=>by rw[ho] at e;cases e) (fun _ _ h=>h) (wp_append_v s x t ho e i z size bytes ht hi hz hsize hby hzs hsz base v k xs hs hown B A m c news hx hm hsee h1 h63 hbytes hbase h)
end
end Go.Proofs.YtalmnodgjjcefaaGreatDoor
