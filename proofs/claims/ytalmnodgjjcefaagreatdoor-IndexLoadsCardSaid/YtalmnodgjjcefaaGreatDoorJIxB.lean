/- An index's rows that begin so: the iterator, walked. -/
import Derived.Test.YtalmnodgjjcefaaGreatDoorJTgB
import Derived.Test.YtalmnodgjjcefaaGreatDoorJTgC
import Derived.Test.YtalmnodgjjcefaaGreatDoorJKmC
import Derived.Shelf.SlicesE.DeleteFunc
import Derived.Test.YtalmnodgjjcefaaGreatDoorJIpA
import Derived.Test.YtalmnodgjjcefaaGreatDoorJTk
import Derived.Test.YtalmnodgjjcefaaGreatDoorJIxA
import Derived.Test.YtalmnodgjjcefaaGreatDoorJRwD
import Derived.Sort.LoopGhostIn
import Derived.Sort.CutIn
set_option maxRecDepth 100000
set_option maxHeartbeats 3200000
namespace Go.Proofs.YtalmnodgjjcefaaGreatDoor
section
open Go.RowKit Go.Maps
structure IxAt (m:Nat→Prop) (w:World) (P:Nat) (s:SetM):Prop where
 out:∃S,Box1 w P 87 (.pointer (some ⟨S,0,none⟩))∧m P∧SetAt (fun k=>m k∧k≠P) w S s
 lt:∀k,m k→k<w.heap.size
section
variable {m m' : Nat → Prop} {w w' : World} {P : Nat} {s : SetM}
theorem IxAt.keep (h:IxAt m w P s) (hk:Kept m w w') (hs:w.heap.size≤w'.heap.size):IxAt m w' P s:=by
 obtain ⟨S,h1,h2,h3⟩:=h.out
 exact ⟨⟨S,h1.kept (hk P h2),h2,h3.keep (hk.mono fun k e=>e.1) hs⟩,fun k e=>Nat.lt_of_lt_of_le (h.lt k e) hs⟩
theorem IxAt.below (h:IxAt m w P s) (hb:Below w.heap.size w w'):IxAt m w' P s:=h.keep (Kept.of_below hb h.lt) hb.size
theorem IxAt.turn {T:Nat→Prop}(h:IxAt m w P s) (ht:Turn T w w') (hT:∀k,m k→¬ T k):IxAt m w' P s:=h.keep (Kept.of_turn ht fun k e=>⟨h.lt k e,hT k e⟩) ht.size
def NewIx (w:World) (s:SetM) (e:Ending) (w' : World):Prop:=∃P,e = .returned (.pointer (some ⟨P,0,none⟩))∧IxAt (fun k=>w.heap.size≤k∧k<w'.heap.size) w' P s∧Below w.heap.size w w'
theorem IxAt.boxed {w1:World}{S:Nat}(hS:SetAt (fun k=>w.heap.size≤k∧k<w1.heap.size) w1 S s) (hb:Below w.heap.size w w1):IxAt (fun k=>w.heap.size≤k∧k<(w1.alloc (.cells #[.pointer (some ⟨S,0,none⟩)] 87)).heap.size) (w1.alloc (.cells #[.pointer (some ⟨S,0,none⟩)] 87)) w1.heap.size s:=by
 have hs:=hb.size
 have hb2:Below w1.heap.size w1 (w1.alloc (.cells #[.pointer (some ⟨S,0,none⟩)] 87)):=(Below.refl _ w1).alloc (Nat.le_refl _) _
 refine ⟨⟨S,Box1.new _ _ _,⟨hs,by simp⟩,(hS.below hb2).mono (fun k e=>⟨⟨e.1,by simp;omega⟩,by omega⟩) fun k e=>e.1.2⟩,fun k e=>e.2⟩
theorem Ix_new (w:World):Calls Tryz.prog 11 #[] w (NewIx w SetM.new):=by
 have hN:=Lib.hid (new_any w)
 go_enter Tryz.func11,Tryz.ntmps11
 go_wp2_with fail
 refine hN.out.mono ?_
 rintro e w1 ⟨rfl,hS,hb⟩
 have HS:=Lib.hid hS
 clear hN hS
 go_wp2
 go_ret
 exact ⟨w1.heap.size,rfl,IxAt.boxed HS.out hb,hb.alloc hb.size _⟩
theorem Ix_fresh (h:IxAt m w P s):Calls Tryz.prog 22 #[.pointer (some ⟨P,0,none⟩)] w fun e w'=>e = .returned (.int .i64 s.mem.length)∧w=w':=by
 obtain ⟨S,h1,h2,h3⟩:=h.out
 have hF:=Lib.hid (fresh_any h3)
 have hc:=h1.cell
 clear h h1 h3
 go_enter Tryz.func22,Tryz.ntmps22
 go_wp2_with fail
 refine hF.out.mono ?_
 rintro e w1 ⟨rfl,rfl⟩
 go_wp2
 go_ret
 exact ⟨rfl,rfl⟩
end
end
section
open Go.RowKit Go.Maps KB
abbrev hasV (S:Nat):Value := .func (.func 60) #[.pointer (some ⟨S,0,none⟩)] #[]
structure HasAt (s:SetM) (L:List Item) (e:Ending):Prop where
 out:(e = .returned (.int .i64 (-1))∧∀x∈L,s.has x=false)∨∃k,∃hk:k<L.length,e = .returned (.int .i64 (k:Nat))∧s.has L[k]=true∧∀j (hj:j<L.length),j<k→s.has L[j]=false
theorem hasIndex_any {m:Nat→Prop}{w:World}{S:Nat}{s:SetM}(h:SetAt m w S s) (hF:SetFit s) (A:Option Addr) (n c:Nat) (L:List Item) (hn:L.length=n) (hS:Sees2 w w.heap.size A L) (hl:∀x∈L,x.length≤1000000) (hlen:n≤1000000) :
  Calls Tryz.prog 139 #[.slice A n c,hasV S] w fun e w'=>Below w.heap.size w w'∧HasAt s L e:=by
 have HN:=Lib.hid hn
 have HS:=Lib.hid h
 have HL:=Lib.hid hl
 clear h hn hl
 unfold hasV
 go_enter Tryz.func139,Tryz.ntmps139
 go_wp2
 go_loopg [8] n (fun g i wr=>∃k:Nat,k+g=n∧i = .int .i64 k∧Below w.heap.size w wr∧Hid (∀j (hj:j<L.length),j<k→s.has L[j]=false))
 case atStart=>exact ⟨0,by omega,rfl,Below.refl _ _,fun j _ e=>by omega⟩
 case round =>
  obtain ⟨k,hk,rfl,hb,hno⟩:=hrel
  by_cases hlt:k<n
  ·have hkl:k<L.length:=by have:=HN.out;omega
   obtain ⟨ad,Ai,ci,rfl,hadB,hcell,hic,hsi⟩:=(hS.below hb).out k hkl
   have hH:=Lib.hid (setHas_any (HS.out.below hb) hF Ai (L[k]).length ci L[k] rfl (HL.out _ (List.getElem_mem hkl)) (hsi.more hb.size))
   obtain ⟨x,hx⟩:∃x,L[k]=x:=⟨_,rfl⟩
   rw[hx] at hcell hH
   have HX:=Lib.hid hx
   obtain ⟨lx,hlx⟩:∃lx,x.length=lx:=⟨_,rfl⟩
   rw[hlx] at hcell hH
   clear hx hsi hic hlx
   cases hh:s.has x with
   | true =>
    rw[hh] at hH
    go_wp2_with fail
    refine hH.out.mono ?_
    rintro e w1 ⟨rfl,hb1⟩
    go_wp2
    go_ret
    exact ⟨hb.trans (hb1.mono hb.size),⟨.inr ⟨k,hkl,rfl,by rw[HX.out];exact hh,hno.out⟩⟩⟩
   | false =>
    rw[hh] at hH
    go_wp2_with fail
    refine hH.out.mono ?_
    rintro e w1 ⟨rfl,hb1⟩
    go_wp2
    go_roundg (n - (k+1))
    case measure=>omega
    case rel=>exact ⟨k+1,by omega,by go_num,hb.trans (hb1.mono hb.size),fun j hj e=>by
     by_cases e2:j=k
     ·subst e2;rw[HX.out];exact hh
     ·exact hno.out j hj (by omega)⟩
  ·have hkn:k=n:=by omega
   go_wp2
   go_ret
   exact ⟨hb,⟨.inl ⟨rfl,fun x hx=>by
    obtain ⟨j,hj,e⟩:=List.mem_iff_getElem.1 hx
    rw[←e]
    exact hno.out j hj (by have:=HN.out;omega)⟩⟩⟩
structure CellsAt (W:World) (g:Nat) (us:List Value):Prop where
 out:∀t u,us[t]?=some u→W.cell? ⟨g,t,none⟩=some u∧W.frozen? ⟨g,t,none⟩=false
theorem CellsAt.keep {W W' : World}{g:Nat}{us:List Value}(h:CellsAt W g us) (hk:W'.heap[g]?=W.heap[g]?):CellsAt W' g us :=
 ⟨fun t u e=>⟨(World.cell?_of_block (a:=⟨g,t,none⟩) hk).trans (h.out t u e).1,(frozen_of_block (a:=⟨g,t,none⟩) hk).trans (h.out t u e).2⟩⟩
theorem CellsAt.set {W:World}{g:Nat}{us:List Value}(h:CellsAt W g us) {i:Nat}(hi:i<us.length) (v:Value):CellsAt (W.setCell ⟨g,i,none⟩ v) g (us.set i v):=by
 refine ⟨fun t u e => ?_⟩
 rw[List.getElem?_set] at e
 have hf:(W.setCell ⟨g,i,none⟩ v).frozen? ⟨g,t,none⟩=W.frozen? ⟨g,t,none⟩:=by simp
 split at e
 ·rename_i hit
  subst hit
  injection e with e
  subst e
  obtain ⟨h1,h2⟩:=h.out i us[i] (List.getElem?_eq_getElem hi)
  exact ⟨World.cell?_setCell_same' W _ v (by rw[h1];rfl),hf.trans h2⟩
 ·rename_i hit
  obtain ⟨h1,h2⟩:=h.out t u e
  exact ⟨(World.cell?_setCell_other W _ _ v (fun e2=>hit (congrArg Addr.off e2))).trans h1,hf.trans h2⟩
structure DelSt (s:SetM) (w:World) (g n:Nat) (xs:List El) (i j:Nat) (W:World):Prop where
 out:∃us:List Value,us.length=n∧CellsAt W g us∧us.take i=((xs.take j).filter fun y => !s.has y.1).map val∧us.drop j=(xs.map val).drop j
 len:i=((xs.take j).filter fun y => !s.has y.1).length
 lt:i<j
 turn:Turn (fun k=>k=g) w W
theorem DelSt.start {s:SetM}{w W:World}{g n:Nat}{xs:List El}{k:Nat}(hn:xs.length=n) (hC:CellsAt w g (xs.map val)) (hg:g<w.heap.size) (hb:Below w.heap.size w W) (hk:k<xs.length) (h1:s.has (xs[k]).1=true) (h2:∀j (hj:j<xs.length),j<k→s.has (xs[j]).1=false):DelSt s w g n xs k (k+1) W:=by
 have hf:(xs.take (k+1)).filter (fun y => !s.has y.1)=xs.take k:=by
  rw[List.take_succ_eq_append_getElem hk,List.filter_append,List.filter_cons_of_neg (by rw[h1];simp),List.filter_nil,List.append_nil,List.filter_eq_self.2]
  intro y hy
  obtain ⟨j,hj,e⟩:=List.mem_iff_getElem.1 hy
  rw[List.length_take] at hj
  rw[List.getElem_take] at e
  rw[←e,h2 j (by omega) (by omega)];rfl
 refine ⟨⟨xs.map val,by rw[List.length_map,hn],hC.keep (hb.block g hg),?_,rfl⟩,?_,by omega,Turn.of_new hb⟩
 ·rw[hf,List.map_take]
 ·rw[hf,List.length_take];omega
theorem DelSt.skip {s:SetM}{w W W' : World}{g n:Nat}{xs:List El}{i j:Nat}(h:DelSt s w g n xs i j W) (hb:Below W.heap.size W W') (hg:g<w.heap.size) (hj:j<xs.length) (h1:s.has (xs[j]).1=true):DelSt s w g n xs i (j+1) W':=by
 obtain ⟨us,a,b,c,d⟩:=h.out
 have hf:(xs.take (j+1)).filter (fun y => !s.has y.1)=(xs.take j).filter fun y => !s.has y.1:=by
  rw[List.take_succ_eq_append_getElem hj,List.filter_append,List.filter_cons_of_neg (by rw[h1];simp),List.filter_nil,List.append_nil]
 refine ⟨⟨us,a,b.keep (hb.block g (Nat.lt_of_lt_of_le hg h.turn.size)),by rw[hf];exact c,?_⟩,by rw[hf];exact h.len,by have:=h.lt;omega,h.turn.trans (Turn.of_new hb)⟩
 rw[←List.drop_drop,d,List.drop_drop]
theorem DelSt.put {s:SetM}{w W W' : World}{g n:Nat}{xs:List El}{i j:Nat}(hn:xs.length=n) (h:DelSt s w g n xs i j W) (hb:Below W.heap.size W W') (hg:g<w.heap.size) (hj:j<xs.length) (h1:s.has (xs[j]).1=false):DelSt s w g n xs (i+1) (j+1) (W'.setCell ⟨g,i,none⟩ (val xs[j])):=by
 obtain ⟨us,a,b,c,d⟩:=h.out
 have hij:=h.lt
 have hf:(xs.take (j+1)).filter (fun y => !s.has y.1)=((xs.take j).filter fun y => !s.has y.1) ++ [xs[j]]:=by
  rw[List.take_succ_eq_append_getElem hj,List.filter_append,List.filter_cons_of_pos (by rw[h1];rfl),List.filter_nil]
 refine ⟨⟨us.set i (val xs[j]),by rw[List.length_set,a],(b.keep (hb.block g (Nat.lt_of_lt_of_le hg h.turn.size))).set (by omega) _,?_,?_⟩,by rw[hf,List.length_append, ←h.len];rfl,by omega,(h.turn.trans (Turn.of_new hb)).trans (Turn.setCell _ _ _ rfl)⟩
 ·rw[hf,List.map_append,List.take_succ_eq_append_getElem (by rw[List.length_set];omega),List.take_set_of_le (Nat.le_refl _),c,List.getElem_set_self];rfl
 ·rw[List.drop_set_of_lt (by omega), ←List.drop_drop,d,List.drop_drop]
theorem DelSt.cell {s:SetM}{w W:World}{g n:Nat}{xs:List El}{i j:Nat}(h:DelSt s w g n xs i j W) (hj:j<xs.length):W.cell? ⟨g,j,none⟩=some (val xs[j]):=by
 obtain ⟨us,a,b,c,d⟩:=h.out
 refine (b.out j _ ?_).1
 have:=congrArg (·[0]?) d
 simpa[List.getElem?_drop,hj] using this
theorem DelSt.any {s:SetM}{w W:World}{g n:Nat}{xs:List El}{i j:Nat}(h:DelSt s w g n xs i j W) {t:Nat}(ht:t<n):(W.cell? ⟨g,t,none⟩).isSome=true∧W.frozen? ⟨g,t,none⟩=false:=by
 obtain ⟨us,a,b,c,d⟩:=h.out
 obtain ⟨h1,h2⟩:=b.out t us[t] (List.getElem?_eq_getElem (by omega))
 exact ⟨by rw[h1];rfl,h2⟩
theorem DelSt.done {s:SetM}{w W:World}{g n:Nat}{xs:List El}{i j:Nat}(h:DelSt s w g n xs i j W) (hj:xs.length≤j) (z:List Value):(∀t u,((xs.filter fun y => !s.has y.1).map val)[t]?=some u→(W.setCells g i z).cell? ⟨g,t,none⟩=some u)∧i=(xs.filter fun y => !s.has y.1).length:=by
 obtain ⟨us,a,b,c,d⟩:=h.out
 have hl:=h.len
 rw[List.take_of_length_le hj] at c hl
 refine ⟨fun t u e => ?_,hl⟩
 have ht:t<i:=by
  have:=(List.getElem?_eq_some_iff.1 e).1
  rw[List.length_map] at this;omega
 rw[World.cell?_setCells_out g z i W ⟨g,t,none⟩ (fun _ _ => .inl ht)]
 refine (b.out t u ?_).1
 rw[←c,List.getElem?_take_of_lt ht] at e
 exact e
theorem turn_setCells (W:World) (g i:Nat) (z:List Value):Turn (fun k=>k=g) W (W.setCells g i z):=by
 induction z generalizing W i with
 | nil=>exact Turn.refl _ _
 | cons v z ih=>exact (Turn.setCell (T:=fun k=>k=g) W ⟨g,i,none⟩ v rfl).trans (ih _ _)
theorem hasDel_any {m q:Nat→Prop}{w:World}{S:Nat}{s:SetM}(h:SetAt m w S s) (hF:SetFit s) (g n cap:Nat) (xs:List El) (hn:xs.length=n) (hnc:n≤cap) (hC:CellsAt w g (xs.map val)) (hgm:¬ m g) (hg:g<w.heap.size) (hq:∀x∈xs,EOk q w x) (hqg:∀k,q k→k<w.heap.size∧k≠g) (hl:∀x∈xs,x.1.length≤1000000) (hlen:n≤1000000) :
  Calls Tryz.prog 93 #[.slice (some ⟨g,0,none⟩) n cap,hasV S] w fun e w'=>e = .returned (.slice (some ⟨g,0,none⟩) (xs.filter fun y => !s.has y.1).length cap)∧Turn (fun k=>k=g) w w'∧∀t u,((xs.filter fun y => !s.has y.1).map val)[t]?=some u→w'.cell? ⟨g,t,none⟩=some u:=by
 have hS2:Sees2 w w.heap.size (some ⟨g,0,none⟩) (xs.map key):=by
  refine ⟨fun i hi => ?_⟩
  rw[List.length_map] at hi
  have hx:=hq xs[i] (List.getElem_mem hi)
  refine ⟨⟨g,0,none⟩,(xs[i]).2.1,(xs[i]).2.2,rfl,hg,?_,?_,?_⟩
  ·rw[Addr.add_lit,Nat.zero_add,List.getElem_map]
   exact (hC.out i _ (by rw[List.getElem?_map,List.getElem?_eq_getElem hi];rfl)).1
  ·rw[List.getElem_map];exact hx.cap
  ·rw[List.getElem_map];exact hx.sees.sees fun k e=>(hqg k e).1
 have hI:=Lib.hid (hasIndex_any h hF (some ⟨g,0,none⟩) n cap (xs.map key) (by rw[List.length_map,hn]) hS2 (fun x hx=>by obtain ⟨y,hy,rfl⟩:=List.mem_map.1 hx;exact hl y hy) hlen)
 have HN:=Lib.hid hn
 have HS:=Lib.hid h
 have HC:=Lib.hid hC
 have HQ:=Lib.hid hq
 have HL:=Lib.hid hl
 clear hS2 h hC hn hq hl
 go_enter Tryz.func93,Tryz.ntmps93
 go_wp2_with fail
 refine hI.out.mono ?_
 rintro e w1 ⟨hb1,⟨⟨rfl,hno⟩|⟨k,hk,rfl,hyes,hno⟩⟩⟩
 ·go_wp2
  go_ret
  have hf:(xs.filter fun y => !s.has y.1)=xs:=List.filter_eq_self.2 fun y hy=>by rw[hno y.1 (List.mem_map.2 ⟨y,hy,rfl⟩)];rfl
  rw[hf,HN.out]
  exact ⟨rfl,Turn.of_new hb1,fun t u e=>((HC.out.keep (hb1.block g hg)).out t u e).1⟩
 ·rw[List.length_map] at hk
  have hD:DelSt s w g n xs k (k+1) w1:=DelSt.start HN.out HC.out hg hb1 hk (by rw[List.getElem_map] at hyes;exact hyes) fun j hj e=>by
   have:=hno j (by rw[List.length_map];exact hj) e
   rw[List.getElem_map] at this
   exact this
  have hkn:k<n:=by have:=HN.out;omega
  have hkm:¬ (k:Int) = -1:=by omega
  clear hyes hno hI
  go_wp2
  go_loopg [5,6,7] n (fun gg s5 s6 _ wr=>∃i j:Nat,s5 = .int .i64 i∧s6 = .int .i64 j∧j≤n∧n - j≤gg∧DelSt s w g n xs i j wr)
  case atStart=>exact ⟨k,k+1,rfl,by go_num,by omega,by omega,hD⟩
  case round =>
   obtain ⟨i,j,rfl,rfl,hjn,hgg,hSt⟩:=hrel
   have hij:=hSt.lt
   by_cases hlt:j<n
   ·have hjl:j<xs.length:=by have:=HN.out;omega
    have cj:=hSt.cell hjl
    have hx:=(HQ.out _ (List.getElem_mem hjl)).keep (w':=wr) (Kept.of_turn hSt.turn fun k e=>⟨(hqg k e).1,(hqg k e).2⟩)
    have hHs:=HS.out.turn hSt.turn fun k e e2=>hgm (by rw[←e2];exact e)
    have hzr:=hSt.turn.size
    have hH:=Lib.hid (setHas_any hHs hF (xs[j]).2.1 (xs[j]).1.length (xs[j]).2.2 (xs[j]).1 rfl (HL.out _ (List.getElem_mem hjl)) (hx.sees.sees fun k e=>Nat.lt_of_lt_of_le (hqg k e).1 hzr))
    have ST:=Lib.hid hSt
    have hil:i<n:=by omega
    obtain ⟨hci,hfi⟩:=hSt.any hil
    obtain ⟨old,ci⟩:=Option.isSome_iff_exists.1 hci
    have hput:=fun W' hb (h1:s.has (xs[j]).1=false)=>Lib.hid (DelSt.put (W':=W') HN.out hSt hb hg hjl h1)
    have hskip:=fun W' hb (h1:s.has (xs[j]).1=true)=>Lib.hid (DelSt.skip (W':=W') hSt hb hg hjl h1)
    unfold val at cj hput
    obtain ⟨x,hxx⟩:∃x,xs[j]=x:=⟨_,rfl⟩
    rw[hxx] at cj hH hput hskip
    obtain ⟨lx,hlx⟩:∃lx,x.1.length=lx:=⟨_,rfl⟩
    rw[hlx] at cj hH hput
    clear hSt hHs hx hxx hlx hci
    cases hh:s.has x.1 with
    | true =>
     rw[hh] at hH
     go_wp2_with fail
     refine hH.out.mono ?_
     rintro e w2 ⟨rfl,hb2⟩
     have hS2:=hskip w2 hb2 hh
     go_wp2
     go_roundg (n - (j+1))
     case measure=>omega
     case rel=>exact ⟨i,j+1,rfl,by go_num,by omega,Nat.le_refl _,hS2.out⟩
    | false =>
     rw[hh] at hH
     go_wp2_with fail
     refine hH.out.mono ?_
     rintro e w2 ⟨rfl,hb2⟩
     have hS2:=hput w2 hb2 hh
     have hblk:=hb2.block g (Nat.lt_of_lt_of_le hg hzr)
     have ci2:w2.cell? ⟨g,i,none⟩=some old:=(World.cell?_of_block (a:=⟨g,i,none⟩) hblk).trans ci
     have fi2:w2.frozen? ⟨g,i,none⟩=false:=(frozen_of_block (a:=⟨g,i,none⟩) hblk).trans hfi
     clear hput hskip hblk
     go_wp2
     go_roundg (n - (j+1))
     case measure=>omega
     case rel=>exact ⟨i+1,j+1,by go_num,by go_num,by omega,Nat.le_refl _,hS2.out⟩
   ·have hjn2:j=n:=by omega
    have hcl:∀ty,(Builtin.clear_ #[47] ty #[.slice (some ⟨g,0+i,none⟩) (n - i) (cap - i)]).run Tryz.prog wr = .ok (.tuple #[]) (wr.setCells g (0+i) (List.replicate (n - i) (.slice none 0 0))) :=
     fun ty=>Lib.run_clear_slice wr _ _ ty _ Tryz.underlying47 (by intro w;kernel_rfl) rfl rfl g (0+i) _ _ (by omega) (fun t ht=>by rw[show 0+i+t=i+t by omega];exact (hSt.any (by omega)).1) (fun t ht=>by rw[show 0+i+t=i+t by omega];exact (hSt.any (by omega)).2)
    have hdn:=Lib.hid (hSt.done (by have:=HN.out;omega) (List.replicate (n - i) (.slice none 0 0)))
    have ST:=Lib.hid hSt
    rw[Nat.zero_add] at hcl
    clear hSt
    go_wp2
    go_ret
    obtain ⟨h1,h2⟩:=hdn.out
    exact ⟨by rw[←h2];rfl,ST.out.turn.trans (turn_setCells _ g i _),h1⟩
end
section
open Go.RowKit
variable {F : Fence} {n : Nat} {P : Program}
def SeqN {α:Type}(F:Fence) (n:Nat) (P:Program) (g:Nat) (lb:Array Value) (encs:α→Array Value) (R:Nat→Prop) (Ok:(Nat→Prop)→List α→α→World→Prop) (S Sp:List α→Prop) (N:Nat) (w:World):Prop :=
 ∀(l:Nat) (J Jx:(Nat→Prop)→List α→World→Prop) (W:World),Below w.heap.size w W →
  (∀s pre A B,J s pre A→Below A.heap.size A B→J (grown s A B) pre B)→(∀s pre A B,Jx s pre A→Below A.heap.size A B→Jx (grown s A B) pre B) →
  (∀s pre x W1,J s pre W1→pre.length<N→Ok s pre x W1→YieldAt F (n - 1) P l (encs x) W1 fun e W' =>
   (e = .returned (.bool true)∧J s (pre ++ [x]) W'∧Turn (fun k=>¬ s k∧¬ R k) W1 W')∨(e = .returned (.bool false)∧Jx s (pre ++ [x]) W'∧Turn (fun k=>¬ s k∧¬ R k) W1 W')) →
  J (fun _=>False) [] W →
  CallsIn F n P g (#[.func (.yield l) #[] #[]]++lb) W fun e W'=>(∃v,e = .returned v)∧((∃s xs,S xs∧J s xs W')∨(∃s pre,Sp pre∧Jx s pre W'))
theorem wpIn_rangeFunc_A {α:Type}{g:Operand}{ps:Array Tmp}{assign body:Code}{Q:Exit→Act→World→Prop}{a:Act}{w:World}
  (hro:F.round=none) (h1:1≤n) {gf:Nat}{lb:Array Value}(hg:a.eval g = .func (.func gf) #[] lb) (hFg:F.fn gf) (eg:∀args w,(callFunc gf args).run P w = .ok (.enter gf args) w)
  {encs:α→Array Value}{R:Nat→Prop}{Ok:(Nat→Prop)→List α→α→World→Prop}{S Sp:List α→Prop}{N:Nat}{w0:World}(hseq:SeqN F (n - 1) P gf lb encs R Ok S Sp N w0) (hb0:Below w0.heap.size w0 w) (hps:∀x,(encs x).size=ps.size)
  (hR:∀k,R k→k<w.heap.size)
  (hOk:∀s pre x A B,Ok s pre x A→(∀k,s k∨R k→k≠w.heap.size∧k≠w.heap.size+1)→Turn (fun k=>k=w.heap.size∨k=w.heap.size+1) A B→Ok s pre x B)
  (I:(Nat→Prop)→List α→World→Prop) (Ix:Code→(Nat→Prop)→List α→World→Prop)
  (hI:∀s pre A B,I s pre A→Below A.heap.size A B→I (grown s A B) pre B) (hIx:∀c s pre A B,Ix c s pre A→Below A.heap.size A B→Ix c (grown s A B) pre B)
  (hI2:∀s pre A B,I s pre A→Turn (fun k=>k=w.heap.size∨k=w.heap.size+1) A B→I s pre B) (hIx2:∀c s pre A B,Ix c s pre A→Turn (fun k=>k=w.heap.size∨k=w.heap.size+1) A B→Ix c s pre B)
  (h0:I (fun _=>False) [] w) (Asg:α→World→Act→World→Prop) (hAsg:∀x W a' Wn,Asg x W a' Wn→Below W.heap.size W Wn)
  (hassign:∀(l:Nat) (x:α) (W:World) (K:Act→World→Prop),(∀a' Wn,Asg x W a' Wn→K a' Wn) →
   assign.wpIn (F.inRound l) (n - 1 - 1) P (Exit.then K (fun _ _ _=>False)) { tmps:=(ps.zip (encs x)).foldl (fun t (p,v)=>t.setIfInBounds p v) a.tmps,defers := [] } W)
  (hbody:∀(l:Nat) (s:Nat→Prop) (pre:List α) (x:α) (W:World) (a' : Act) (Wn Wb:World),I s pre Wb→pre.length<N→Ok s pre x W→Ok s pre x Wb→(∀k,s k∨R k→k≠w.heap.size∧k≠w.heap.size+1)→w.heap.size+2≤W.heap.size→Asg x W a' Wn→Turn (fun k=>k=w.heap.size∨k=w.heap.size+1) Wn Wb→body.wpIn (F.inRound l) (n - 1 - 1) P (postT R s w.heap.size I Ix (pre ++ [x]) Wb) a' Wb)
  (hdone:∀(s:Nat→Prop) (xs:List α) (W:World),S xs→I s xs W→W.heap[w.heap.size]?=some (.deferred (some []))→Q .normal { a with defers := { target := .collected w.heap.size,args := #[] } :: a.defers } W)
  (hstop:∀(c:Code) (s:Nat→Prop) (pre:List α) (W:World),Sp pre→Ix c s pre W→W.heap[w.heap.size]?=some (.deferred (some []))→c.wpIn F n P Q { a with defers := { target := .collected w.heap.size,args := #[] } :: a.defers } W) :
  (Code.rangeFunc g ps assign body).wpIn F n P Q a w:=by
 refine wpIn_rangeFunc ?_
 intro fn hfn
 rw[hro]
 obtain ⟨rec,hrec⟩:∃rec:LoopState→Option Code→Loop,rec=fun st pe => { state:=st,pending:=pe,fn,tmps:=a.tmps,params:=ps,assign,body,defers:=w.heap.size }:=⟨_,rfl⟩
 obtain ⟨W1,hW1⟩:∃W1,(w.alloc (.deferred (some []))).alloc (.loop (rec .ready none))=W1:=⟨_,rfl⟩
 have hL1:W1.heap[w.heap.size+1]?=some (.loop (rec .ready none)):=by
  rw[←hW1];have:=World.alloc_heap_new (w.alloc (.deferred (some []))) (.loop (rec .ready none));rwa [World.size_alloc] at this
 have hK1:W1.heap[w.heap.size]?=some (.deferred (some [])):=by
  rw[←hW1];exact (Below.heap_alloc _ _ _ (by simp)).trans (World.alloc_heap_new w _)
 have hI1:I (fun _=>False) [] W1:=by rw[←hW1];exact hI2 _ _ _ _ (hI2 _ _ _ _ h0 (Turn.alloc w _)) (Turn.alloc _ _)
 have hb1:Below w0.heap.size w0 W1:=by
  rw[←hW1];exact hb0.trans ((((Below.refl _ w).alloc (Nat.le_refl _) _).alloc (by simp) _).mono hb0.size)
 refine ⟨w.heap.size+1, [{ target := .collected w.heap.size,args := #[] }],W1, { target := .fn (.func gf) lb,args := #[.func (.yield (w.heap.size+1)) #[] #[]] },W1,gf,
  #[.func (.yield (w.heap.size + 1)) #[] #[]] ++ lb, W1, ?_, ?_, ?_, ?_, fun _ => h1, ?_⟩
 ·rw[←hW1,hrec];exact run_enterLoop_outer _ _ _ _ _
 ·simp only[resolve,hg]
  simp[go_sem]
 ·intro f' hf';simp[Target.leads] at hf';subst hf';exact hFg
 ·simp[invoke,go_sem,eg]
 ·have book:∀ {s:Nat→Prop}{A B:World}{r:Nat}{o:Obj},Below A.heap.size A B→¬ s r→A.heap[r]?=some o→B.heap[r]?=some o∧¬ grown s A B r:=fun ht hs hr=>by
   have hlt:=(Array.getElem?_eq_some_iff.1 hr).1
   exact ⟨(ht.block _ hlt).trans hr,fun e=>by rcases e with e|e;exact hs e;omega⟩
  refine (hseq (w.heap.size+1)
   (fun s pre W=>I s pre W∧W.heap[w.heap.size+1]?=some (.loop (rec .ready none))∧W.heap[w.heap.size]?=some (.deferred (some []))∧¬ s (w.heap.size+1)∧¬ s w.heap.size)
   (fun s pre W=>∃c,Ix c s pre W∧W.heap[w.heap.size+1]?=some (.loop (rec .done (some c)))∧W.heap[w.heap.size]?=some (.deferred (some []))∧¬ s (w.heap.size+1)∧¬ s w.heap.size)
   W1 hb1
   (fun s pre A B h ht=>⟨hI s pre A B h.1 ht,(book ht h.2.2.2.1 h.2.1).1,(book ht h.2.2.2.2 h.2.2.1).1,(book ht h.2.2.2.1 h.2.1).2,(book ht h.2.2.2.2 h.2.2.1).2⟩)
   (fun s pre A B h ht=>by
    obtain ⟨c,h⟩:=h
    exact ⟨c,hIx c s pre A B h.1 ht,(book ht h.2.2.2.1 h.2.1).1,(book ht h.2.2.2.2 h.2.2.1).1,(book ht h.2.2.2.1 h.2.1).2,(book ht h.2.2.2.2 h.2.2.1).2⟩)
   ?_ ⟨hI1,hL1,hK1,fun e=>e,fun e=>e⟩).mono ?_
  ·
   rintro s pre x W ⟨hi,hl,hk,hsl,hsk⟩ hlen hok
   have hlt:w.heap.size+1<W.heap.size:=(Array.getElem?_eq_some_iff.1 hl).1
   have hy:=run_yield (P:=P) (args:=encs x) hl (by rw[hrec];exact hps x)
   rw[hrec] at hy
   refine ⟨fn,_,assign,body,hy,roundIn_of_wpIn hfn (hassign _ x W _ fun a' Wn hA=>⟨_,run_beginRound (((hAsg x W a' Wn hA).block _ hlt).trans hl) (by rw[hrec]),?_⟩)⟩
   have hbn:=hAsg x W a' Wn hA
   have hln:=(hbn.block _ hlt).trans hl
   have hkn:=(hbn.block _ (by omega)).trans hk
   have hltn:w.heap.size+1<Wn.heap.size:=Nat.lt_of_lt_of_le hlt hbn.size
   have hl2:(Wn.putObj (w.heap.size+1) (.loop { rec .ready none with state := .busy })).heap[w.heap.size+1]?=some (.loop { rec .ready none with state := .busy }):=World.putObj_heap_same hltn
   have hk2:(Wn.putObj (w.heap.size+1) (.loop { rec .ready none with state := .busy })).heap[w.heap.size]?=some (.deferred (some [])):=(World.putObj_heap_other (by omega)).trans hkn
   have ht2:∀o,Turn (fun k=>k=w.heap.size∨k=w.heap.size+1) Wn (Wn.putObj (w.heap.size+1) o):=fun o=>Turn.putObj Wn _ o (.inr rfl)
   have ht3:∀o,Turn (fun k=>k=w.heap.size∨k=w.heap.size+1) W (Wn.putObj (w.heap.size+1) o):=fun o=>(Turn.of_new hbn).trans (ht2 o)
   have hsp:∀k,s k∨R k→k≠w.heap.size∧k≠w.heap.size+1:=fun k hk=>⟨fun e=>by subst e;rcases hk with h|h;exact hsk h;have:=hR _ h;omega,fun e=>by subst e;rcases hk with h|h;exact hsl h;have:=hR _ h;omega⟩
   refine wpIn_mono (hbody _ s pre x W a' Wn _ (hI2 _ _ _ _ hi (ht3 _)) hlen hok (hOk _ _ _ _ _ hok hsp (ht3 _)) hsp hlt hA (ht2 _)) ?_
   have fin:∀(jump:Option Code) (W3:World),Turn (fun k=>¬ s k∧¬ R k∧k≠w.heap.size∧k≠w.heap.size+1) (Wn.putObj (w.heap.size+1) (.loop { rec .ready none with state := .busy })) W3 →
     (Instr.endRound (w.heap.size+1) jump).run P W3 = .ok (.bool jump.isNone) (W3.putObj (w.heap.size+1) (.loop (rec (if jump.isNone then .ready else .done) jump))) ∧
     W3.heap[w.heap.size+1]?=some (.loop { rec .ready none with state := .busy }) ∧
     (W3.putObj (w.heap.size+1) (.loop (rec (if jump.isNone then .ready else .done) jump))).heap[w.heap.size+1]?=some (.loop (rec (if jump.isNone then .ready else .done) jump)) ∧
     (W3.putObj (w.heap.size+1) (.loop (rec (if jump.isNone then .ready else .done) jump))).heap[w.heap.size]?=some (.deferred (some [])):=fun jump W3 hk3=>by
    have hl3:=(hk3.block (w.heap.size+1) (by simp;omega) (fun e=>e.2.2.2 rfl)).trans hl2
    have hk4:=(hk3.block w.heap.size (by simp;omega) (fun e=>e.2.2.1 rfl)).trans hk2
    have:=run_endRound (P:=P) jump hl3
    rw[hrec] at this ⊢
    exact ⟨this,by rw[hrec] at hl3;exact hl3,World.putObj_heap_same (Array.getElem?_eq_some_iff.1 hl3).1,(World.putObj_heap_other (by omega)).trans hk4⟩
   have tot:∀(o:Obj) (W3:World),Turn (fun k=>¬ s k∧¬ R k∧k≠w.heap.size∧k≠w.heap.size+1) (Wn.putObj (w.heap.size+1) (.loop { rec .ready none with state := .busy })) W3→Turn (fun k=>¬ s k∧¬ R k) W (W3.putObj (w.heap.size+1) o):=fun o W3 h=>by
    have hm:¬ s (w.heap.size+1)∧¬ R (w.heap.size+1):=⟨hsl,fun e=>by have:=hR _ e;omega⟩
    exact (((Turn.of_new hbn).trans (Turn.putObj Wn _ _ hm)).trans (h.mono fun j _ e=>⟨e.1,e.2.1⟩)).trans (Turn.putObj W3 _ _ hm)
   have hp3:∀(W3:World) (o:Obj),Turn (fun k=>k=w.heap.size∨k=w.heap.size+1) W3 (W3.putObj (w.heap.size+1) o):=fun W3 o=>Turn.putObj W3 _ o (.inr rfl)
   rintro e a3 W3 hp
   cases e with
   | normal =>
    obtain ⟨hk3,hi3⟩:=hp
    obtain ⟨hr,hl3,hl4,hk4⟩:=fin none W3 hk3
    exact ⟨_,_,hr,.inl ⟨rfl,⟨hI2 _ _ _ _ hi3 (hp3 _ _),hl4,hk4,hsl,hsk⟩,tot _ _ hk3⟩⟩
   | ret =>
    obtain ⟨hk3,hi3⟩:=hp
    obtain ⟨hr,hl3,hl4,hk4⟩:=fin (some .ret) W3 hk3
    exact ⟨_,_,hr,.inr ⟨rfl,⟨.ret,hIx2 _ _ _ _ _ hi3 (hp3 _ _),hl4,hk4,hsl,hsk⟩,tot _ _ hk3⟩⟩
   | exit id =>
    obtain ⟨hk3,hi3⟩:=hp
    obtain ⟨hr,hl3,hl4,hk4⟩:=fin (some (.exit id)) W3 hk3
    exact ⟨_,_,hr,.inr ⟨rfl,⟨.exit id,hIx2 _ _ _ _ _ hi3 (hp3 _ _),hl4,hk4,hsl,hsk⟩,tot _ _ hk3⟩⟩
   | goto t =>
    obtain ⟨hk3,hi3⟩:=hp
    obtain ⟨hr,hl3,hl4,hk4⟩:=fin (some (.goto t)) W3 hk3
    exact ⟨_,_,hr,.inr ⟨rfl,⟨.goto t,hIx2 _ _ _ _ _ hi3 (hp3 _ _),hl4,hk4,hsl,hsk⟩,tot _ _ hk3⟩⟩
   | panic ch=>exact hp.elim
   | outgrown=>exact hp.elim
  ·rintro e W2 ⟨⟨v,rfl⟩,(⟨s,xs,hS,hi,hl,hk, -, -⟩|⟨s,pre,hSp,c,hi,hl,hk, -, -⟩)⟩
   ·exact ⟨none,_,by have:=run_endLoop (P:=P) hl (by rw[hrec];simp);rw[hrec] at this;exact this,hdone s xs _ hS (hI2 _ _ _ _ hi (Turn.putObj W2 _ _ (.inr rfl))) ((World.putObj_heap_other (by omega)).trans hk)⟩
   ·exact ⟨some c,_,by have:=run_endLoop (P:=P) hl (by rw[hrec];simp);rw[hrec] at this;exact this,hstop c s pre _ hSp (hIx2 _ _ _ _ _ hi (Turn.putObj W2 _ _ (.inr rfl))) ((World.putObj_heap_other (by omega)).trans hk)⟩
end
section
open Go.RowKit Go.Shelf
attribute [local go_sem] Oper.semAt_some
abbrev RowT:=RowP×(Option Addr×Nat)
abbrev rowVal (r:RowP) (A:Option Addr) (c:Nat):Value := .agg #[.int .i64 r.kind,.slice A r.labels.length c,.string r.label.1,.string r.label.2,.int .i64 r.day,.int .i64 r.id]
def RowT.vals (y:RowT):Array Value := #[rowVal y.1 y.2.1 y.2.2]
structure RowOk (L:List RowP) (s:Nat→Prop) (pre:List RowT) (y:RowT) (W:World):Prop where
 sees:SeesM s W y.2.1 (lv y.1.labels)
 cap:y.1.labels.length≤y.2.2
 pre:(pre.map (·.1) ++ [y.1]) <+: L
 lt:∀k,s k→k<W.heap.size
theorem told_any (p:Option Addr) (B:Option Addr) (n c:Nat) (w:World):Calls Tryz.prog 58 #[.pointer p,.slice B n c] w fun e w' =>
  e = .returned (.func (.func 99) #[] #[.pointer (some ⟨w.heap.size,0,none⟩),.pointer (some ⟨w.heap.size+1,0,none⟩)])∧w'=(w.alloc (.cells #[.pointer p] 29)).alloc (.cells #[.slice B n c] 48):=by
 go_enter Tryz.func58,Tryz.ntmps58
 go_wp2
 go_ret
 exact ⟨rfl,rfl⟩
theorem set_short {s:SetM}(h:SetFit s):∀r∈s.fs ++ [s.mem],∀y∈r,y.length≤1000:=fun r hr y hy=>by
 have hb:badL y=false:=by
  rcases List.mem_append.1 hr with hr|hr
  ·exact h.ok.bad r (List.mem_cons_of_mem _ hr) y hy
  ·rw[List.mem_singleton.1 hr] at hy
   exact h.ok.fine y hy
 have:=bad_len hb
 omega
theorem row_len {pre:List RowT}{y:RowP}{Y:List RowP}(h:(pre.map (·.1) ++ [y]) <+: Y):pre.length<Y.length:=by
 have:=h.length_le
 rw[List.length_append,List.length_map,List.length_singleton] at this
 omega
theorem told_take {L:List Item}{k:Nat}(hk:k<L.length):(L.take (k+1)).filterMap rowB=(L.take k).filterMap rowB++(rowB L[k]).toList:=by
 rw[List.take_succ_eq_append_getElem hk,List.filterMap_append]
 cases h:rowB L[k]<;>simp[h]
theorem told_pre (L:List Item) (k:Nat):(L.take k).filterMap rowB <+: L.filterMap rowB:=(List.take_prefix k L).filterMap _
theorem told1_seq {m:Nat→Prop}{w:World}{P:Nat}{s:SetM}(h:IxAt m w P s) (hF:SetFit s) (R0:Nat→Prop) (hR0:∀k,R0 k→k<w.heap.size) (hm:∀k,m k→R0 k) (x:Item) (Bx:Option Addr) (lx dx:Nat) (hx:SeesM R0 w Bx (bv x)) (hxl:x.length=lx) (B1 B2:Nat)
  (h1:w.cell? ⟨B1,0,none⟩=some (.pointer (some ⟨P,0,none⟩))) (h2:w.cell? ⟨B2,0,none⟩=some (.slice Bx lx dx)) (hB1:B1<w.heap.size) (hB2:B2<w.heap.size) (n:Nat) :
  SeqN Fence.wide n Tryz.prog 99 #[.pointer (some ⟨B1,0,none⟩),.pointer (some ⟨B2,0,none⟩)] RowT.vals (fun k=>R0 k∨k=B1∨k=B2) (RowOk (rowsP s.all x)) (fun xs=>xs.map (·.1)=rowsP s.all x) (fun pre=>pre.map (·.1) <+: rowsP s.all x) (rowsP s.all x).length w:=by
 intro l J Jx W hW hJ hJx hY h0
 have hro:Fence.wide.round=none:=rfl
 have hkR:Kept (fun k=>R0 k∨k=B1∨k=B2) w W:=Kept.of_below hW (fun k hk=>by rcases hk with hk|rfl|rfl;exact hR0 k hk;exact hB1;exact hB2)
 have hP:=h.keep (hkR.mono fun k hk => .inl (hm k hk)) hW.size
 have hxW:SeesM R0 W Bx (bv x):=hx.keep (hkR.mono fun k hk => .inl hk)
 have h1W:=(hkR.cell (p:=⟨B1,0,none⟩) (.inr (.inl rfl))).trans h1
 have h2W:=(hkR.cell (p:=⟨B2,0,none⟩) (.inr (.inr rfl))).trans h2
 have hR0W:∀k,R0 k→k<W.heap.size:=fun k e=>Nat.lt_of_lt_of_le (hR0 k e) hW.size
 obtain ⟨S,g1,g2,g3⟩:=hP.out
 have hPc:=g1.cell
 have hPre:=Lib.hid (setPrefix_any (Bx:=Bx) (lx:=lx) (dx:=dx) (x:=x) (g3.keep (w':=W.drew) (fun _ _=>rfl) (Nat.le_refl _)) hF hxl (show Sees W.drew W.drew.heap.size Bx (bv x) from (hxW.sees hR0W).drew))
 have hsh:∀y∈s.all,y.length≤1000:=fun y hy=>by
  rw[mem_all] at hy
  rcases hy with hy|hy
  ·obtain ⟨f,hf,hy⟩:=List.mem_flatten.1 hy
   exact (set_short hF f (List.mem_append_left _ hf) y hy)
  ·exact (set_short hF s.mem (by simp) y hy)
 obtain ⟨L,hL⟩:∃L,s.all.filter (preB x)=L:=⟨_,rfl⟩
 have hLY:rowsP s.all x=L.filterMap rowB:=by rw[←hL];rfl
 have hshL:∀y∈L,y.length≤1000:=fun y hy=>by rw[←hL] at hy;exact hsh y (List.mem_filter.1 hy).1
 have hLl:L.length≤1000:=by
  rw[←hL]
  exact Nat.le_trans (List.length_filter_le _ _) (Nat.le_trans (all_len s) (by have:=hF.total;omega))
 rw[hLY] at hY ⊢
 rw[hL] at hPre
 have HSH:=Lib.hid hshL
 have hWs:=hW.size
 clear h hx h1 h2 hkR hP g1 g3 hsh hL hLY hshL hF
 refine callsIn_of_wp Tryz.func99 rfl trivial ?_ rfl
 simp only[Tryz.ntmps99,List.size_toArray,List.length_cons,List.length_nil,Nat.reduceAdd,Nat.reduceSub,Array.replicate_succ,Array.replicate_zero,List.push_toArray,List.append_toArray,List.nil_append,List.cons_append]
 gi_wp2_with fail
 refine wpIn_wide.2 ?_
 refine wp_region_noPanic ?_
 refine wp_region_held_drew (S:=fun w'=>w'.cell? ⟨B1,0,none⟩=some (.pointer (some ⟨P,0,none⟩))∧w'.cell? ⟨P,0,none⟩=some (.pointer (some ⟨S,0,none⟩))∧w'.cell? ⟨B2,0,none⟩=some (.slice Bx lx dx)) (by kernel_rfl) ?_ (fun hHeld => ?_)
 ·(exact ⟨h1W,hPc,h2W⟩)
 refine tq0 0 hHeld ?_
 try simp only[Act.put,S0,S1,S2]
 refine tq0 1 hHeld ?_
 try simp only[Act.put,S0,S1,S2]
 refine tq0 2 hHeld ?_
 try simp only[Act.put,S0,S1,S2]
 refine tq0 3 hHeld ?_
 try simp only[Act.put,S0,S1,S2]
 refine tq0 4 hHeld ?_
 try simp only[Act.put,S0,S1,S2]
 refine tq0 7 hHeld ?_
 try simp only[Act.put,S0,S1,S2]
 refine wpAnyH_ready (rs := [5]) (by kernel_rfl) (by simp) ?_
 refine AllReadyH.cons (tqi rfl) (fun K hK => ?_) AllReadyH.nil
 go_simp
 refine hPre.out.mono ?_
 rintro e w1 ⟨A,c,rfl,hRow,hb1⟩
 go_wp2_with fail
 refine hK.out _ _ ?_ ?_
 ·(exact ⟨(hb1.cell (p:=⟨B1,0,none⟩) (by show B1<W.heap.size;omega)).trans h1W,(hb1.cell (p:=⟨P,0,none⟩) (hR0W P (hm P g2))).trans hPc,(hb1.cell (p:=⟨B2,0,none⟩) (by show B2<W.heap.size;omega)).trans h2W⟩)
 clear hK K hHeld;intro hHeld
 try simp only[Act.put,S0,S1,S2]
 refine tq0 6 hHeld ?_
 try simp only[Act.put,S0,S1,S2]
 refine wpAnyH_done (by kernel_rfl) ?_ _
 refine NoPanic.normal ?_
 have hzd:W.drew.heap.size=W.heap.size:=rfl
 have hb1' : Below W.heap.size W w1:=below_undrew hb1
 have hRs:=Lib.hid hRow.sees
 have hRc:=hRow.cap
 rw[hzd] at hRs
 have hJ1:=hJ _ _ _ _ h0 hb1'
 have hg1:∀j,W.heap.size≤j→j<w1.heap.size→grown (fun _=>False) W w1 j:=fun j a b => .inr ⟨a,b⟩
 have hg2:∀j,grown (fun _=>False) W w1 j→j<w1.heap.size:=fun j e=>by rcases e with e|e;exact e.elim;exact e.2
 have hs1:=hb1'.size
 obtain ⟨N,hN⟩:∃N,L.length=N:=⟨_,rfl⟩
 rw[hN] at hLl hRc ⊢
 have HN:=Lib.hid hN
 generalize grown (fun _=>False) W w1=s1 at hJ1 hg1 hg2
 clear hPre hRow hHeld hN h1W h2W hPc hxW hb1 hb1' hzd h0 hW hm g2
 gi_wp2_with fail
 gi_loopg [17] N (fun g i wr=>∃(k:Nat) (s:Nat→Prop) (pre:List RowT),k+g=N∧i = .int .i64 k∧J s pre wr∧Kept (fun j=>W.heap.size≤j∧j<w1.heap.size) w1 wr∧(∀j,W.heap.size≤j→j<w1.heap.size→s j)∧w1.heap.size≤wr.heap.size∧(∀j,s j→j<wr.heap.size)∧Hid (pre.map (·.1)=(L.take k).filterMap rowB))
 case atStart=>exact ⟨0,s1, [],by omega,rfl,hJ1,Kept.refl _ _,hg1,Nat.le_refl _,hg2,rfl⟩
 case round =>
  obtain ⟨k,s,pre,hk,rfl,hJs,hkr,hsi,hsz,hsl,hpre⟩:=hrel
  by_cases hlt:k<N
  ·have hkL:k<L.length:=by rw[HN.out];exact hlt
   obtain ⟨ad,Ay,cy,rfl,hadm,hcy,hyc,hsy⟩:=(hRs.out.keep hkr).out k hkL
   have htk:=told_take hkL
   have hpk:=told_pre L (k+1)
   rw[htk, ←hpre.out] at hpk
   rw[←hpre.out] at htk
   have hyl:=HSH.out L[k] (List.getElem_mem hkL)
   have hPa:=Lib.hid (Parse_any Ay (L[k]).length cy L[k] rfl hyc wr (hsy.sees fun j e=>by omega) (by omega))
   obtain ⟨y,hy⟩:∃y,L[k]=y:=⟨_,rfl⟩
   rw[hy] at hcy hPa htk hpk
   obtain ⟨ly,hly⟩:∃ly,y.length=ly:=⟨_,rfl⟩
   rw[hly] at hcy hPa
   have HTK:=Lib.hid htk
   have HPK:=Lib.hid hpk
   have il:(k:Int)<(N:Int):=by omega
   clear hsy hyc hy hly hyl htk hpk
   gi_wp2_with fail
   refine ⟨trivial,fun h=>absurd h (by simp[Fence.wide]),(callsIn_wide.2 hPa.out).mono ?_⟩
   rintro e w2 ⟨Al,nl,cl,kk,dd,ii,x1,x2,ls,er,rfl,hb2,hnl,hcl,hsl2,hres⟩
   clear hPa
   obtain ⟨W3,hW3⟩:∃W3,w2.alloc (.cells #[.int .i64 kk,.slice Al nl cl,.string x1,.string x2,.int .i64 dd,.int .i64 ii] 92)=W3:=⟨_,rfl⟩
   obtain ⟨c0,c1,c2,c3,c4,c5, -⟩:=(by rw[←hW3];exact SixAt.new _ _ _ _ _ _ _ _:SixAt W3 w2.heap.size (.int .i64 kk) (.slice Al nl cl) (.string x1) (.string x2) (.int .i64 dd) (.int .i64 ii))
   have hb3:Below wr.heap.size wr W3:=by rw[←hW3];exact hb2.alloc hb2.size _
   have hz3:W3.heap.size=w2.heap.size+1:=by rw[←hW3];simp
   have hJ3:=hJ _ _ _ _ hJs hb3
   have hk3:Kept (fun j=>W.heap.size≤j∧j<w1.heap.size) w1 W3:=hkr.trans (Kept.of_below hb3 fun j e=>by omega)
   have hsi3:∀j,W.heap.size≤j→j<w1.heap.size→grown s wr W3 j:=fun j a b => .inl (hsi j a b)
   have hsl3:∀j,grown s wr W3 j→j<W3.heap.size:=fun j e=>by rcases e with e|e;exact Nat.lt_of_lt_of_le (hsl j e) hb3.size;exact e.2
   have hzz:=hb3.size
   have hsl4:SeesM (grown s wr W3) W3 Al (lv ls):=(hsl2.keep (w':=W3) (Kept.of_below (B:=w2.heap.size) (by rw[←hW3];exact (Below.refl _ w2).alloc (Nat.le_refl _) _) fun j e=>e.2)).mono fun j e => .inr ⟨e.1,by omega⟩
   rcases hres with ⟨rfl,hmay,hsrt,hmk⟩|⟨rfl,hno,hrow⟩
   ·have hrb:rowB y=some ⟨kk,ls,(x1,x2),dd,ii⟩:=by rw[←hmk];exact rowB_of hmay hsrt
    have htk:=HTK.out
    have hpk:=HPK.out
    rw[hrb,Option.toList_some] at hpk htk
    have hY1:=hY _ pre (⟨kk,ls,(x1,x2),dd,ii⟩,(Al,cl)) W3 hJ3 (row_len hpk) ⟨hsl4,by show ls.length≤cl;omega,hpk,hsl3⟩
    obtain ⟨fn,tmps,assign,body,hyy,hR⟩:=hY1
    dsimp only[RowT.vals,rowVal] at hyy
    rw[hnl] at hyy
    have HTK2:=Lib.hid htk
    have HPK2:=Lib.hid hpk
    clear hmay hsrt hmk hrb htk hpk HTK HPK hsl4 hsl2 hb2 hb3
    gi_wp2_with fail
    refine ⟨fun h=>absurd h (by simp[Fence.wide]),hR.mono ?_⟩
    rintro e w4 (⟨rfl,hJ4,ht4⟩|⟨rfl,hJx4, -⟩)
    ·have hk4:Kept (fun j=>W.heap.size≤j∧j<w1.heap.size) w1 w4:=hk3.trans (Kept.of_turn ht4 fun j e=>⟨by omega,fun e2=>e2.1 (hsi3 j e.1 e.2)⟩)
     have hz4:=ht4.size
     gi_wp2_with fail
     gi_roundg (N - (k+1))
     case measure=>omega
     case rel=>exact ⟨k+1,_,pre ++ [(⟨kk,ls,(x1,x2),dd,ii⟩,(Al,cl))],by omega,by go_num,hJ4,hk4,hsi3,by omega,fun j e=>Nat.lt_of_lt_of_le (hsl3 j e) hz4,by unfold Hid;rw[HTK2.out,List.map_append];rfl⟩
    ·gi_wp2_with fail
     refine bodyPost_ret (results_none rfl _ _ _) rfl ?_
     exact ⟨⟨_,rfl⟩,.inr ⟨_,_,by rw[List.map_append];exact HPK2.out,hJx4⟩⟩
   ·have hrb:rowB y=none:=rowB_none hno
    have htk:=HTK.out
    rw[hrb,Option.toList_none,List.append_nil] at htk
    have HTK2:=Lib.hid htk
    clear hno hrow hrb htk HTK HPK hsl4 hsl2 hb2 hb3 hY
    gi_wp2_with fail
    refine ⟨fun f e=>(by cases e),?_⟩
    gi_wp2_with fail
    gi_roundg (N - (k+1))
    case measure=>omega
    case rel=>exact ⟨k+1,_,pre,by omega,by go_num,hJ3,hk3,hsi3,by omega,hsl3,by unfold Hid;rw[HTK2.out]⟩
  ·have hkN:k=N:=by omega
   have ikN:(N:Int)≤(k:Int):=by omega
   gi_wp2_with fail
   go_end0
   refine ⟨⟨_,rfl⟩,.inl ⟨s,pre,?_,hJs⟩⟩
   show pre.map (·.1)=L.filterMap rowB
   rw[hpre.out,List.take_of_length_le (by rw[HN.out];omega)]
end
end Go.Proofs.YtalmnodgjjcefaaGreatDoor
