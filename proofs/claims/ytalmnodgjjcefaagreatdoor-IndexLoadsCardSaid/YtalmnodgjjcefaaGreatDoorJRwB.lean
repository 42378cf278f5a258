/- Several texts in one: RwRefMay RwRefMake RwBox RwAhead RwMk. -/
import Derived.Test.YtalmnodgjjcefaaGreatDoorJRwA
set_option maxRecDepth 100000
set_option maxHeartbeats 1600000
namespace Go.Proofs.YtalmnodgjjcefaaGreatDoor
section
open Go.RowKit
structure SixAt (w:World) (H:Nat) (v0 v1 v2 v3 v4 v5:Value):Prop where
 c0:w.cell? ⟨H,0,none⟩=some v0
 c1:w.cell? ⟨H,1,none⟩=some v1
 c2:w.cell? ⟨H,2,none⟩=some v2
 c3:w.cell? ⟨H,3,none⟩=some v3
 c4:w.cell? ⟨H,4,none⟩=some v4
 c5:w.cell? ⟨H,5,none⟩=some v5
 f0:w.frozen? ⟨H,0,none⟩=false
 f1:w.frozen? ⟨H,1,none⟩=false
 f2:w.frozen? ⟨H,2,none⟩=false
 f3:w.frozen? ⟨H,3,none⟩=false
 f4:w.frozen? ⟨H,4,none⟩=false
 f5:w.frozen? ⟨H,5,none⟩=false
section
variable {w w' : World} {H : Nat} {v0 v1 v2 v3 v4 v5 : Value}
theorem SixAt.new (w:World) (v0 v1 v2 v3 v4 v5:Value) (t:TypeId):SixAt (w.alloc (.cells #[v0,v1,v2,v3,v4,v5] t)) w.heap.size v0 v1 v2 v3 v4 v5:=by
 have hh:(w.alloc (.cells #[v0,v1,v2,v3,v4,v5] t)).heap[w.heap.size]?=some (.cells #[v0,v1,v2,v3,v4,v5] t (0,0)):=by show (w.heap.push _)[w.heap.size]?=_;simp
 refine ⟨?_,?_,?_,?_,?_,?_,?_,?_,?_,?_,?_,?_⟩
 ·rw[World.cell?_alloc_at _ _ _ _ rfl];rfl
 ·rw[World.cell?_alloc_at _ _ _ _ rfl];rfl
 ·rw[World.cell?_alloc_at _ _ _ _ rfl];rfl
 ·rw[World.cell?_alloc_at _ _ _ _ rfl];rfl
 ·rw[World.cell?_alloc_at _ _ _ _ rfl];rfl
 ·rw[World.cell?_alloc_at _ _ _ _ rfl];rfl
 all_goals (unfold World.frozen?;rw[hh];simp)
theorem SixAt.below (h:SixAt w H v0 v1 v2 v3 v4 v5) {B:Nat}(hb:Below B w w') (hH:H<B):SixAt w' H v0 v1 v2 v3 v4 v5 :=
 ⟨(hb.cell (p:=⟨H,0,none⟩) hH).trans h.c0,(hb.cell (p:=⟨H,1,none⟩) hH).trans h.c1,(hb.cell (p:=⟨H,2,none⟩) hH).trans h.c2,(hb.cell (p:=⟨H,3,none⟩) hH).trans h.c3,(hb.cell (p:=⟨H,4,none⟩) hH).trans h.c4,(hb.cell (p:=⟨H,5,none⟩) hH).trans h.c5,
  (hb.frozen (p:=⟨H,0,none⟩) hH).trans h.f0,(hb.frozen (p:=⟨H,1,none⟩) hH).trans h.f1,(hb.frozen (p:=⟨H,2,none⟩) hH).trans h.f2,(hb.frozen (p:=⟨H,3,none⟩) hH).trans h.f3,(hb.frozen (p:=⟨H,4,none⟩) hH).trans h.f4,(hb.frozen (p:=⟨H,5,none⟩) hH).trans h.f5⟩
theorem SixAt.set0 (h:SixAt w H v0 v1 v2 v3 v4 v5) (v:Value):SixAt (w.setCell ⟨H,0,none⟩ v) H v v1 v2 v3 v4 v5:=by
 obtain ⟨c0,c1,c2,c3,c4,c5,f0,f1,f2,f3,f4,f5⟩:=h
 constructor<;>simp[go_sem,c0,c1,c2,c3,c4,c5,f0,f1,f2,f3,f4,f5]
theorem SixAt.set1 (h:SixAt w H v0 v1 v2 v3 v4 v5) (v:Value):SixAt (w.setCell ⟨H,1,none⟩ v) H v0 v v2 v3 v4 v5:=by
 obtain ⟨c0,c1,c2,c3,c4,c5,f0,f1,f2,f3,f4,f5⟩:=h
 constructor<;>simp[go_sem,c0,c1,c2,c3,c4,c5,f0,f1,f2,f3,f4,f5]
theorem SixAt.set2 (h:SixAt w H v0 v1 v2 v3 v4 v5) (v:Value):SixAt (w.setCell ⟨H,2,none⟩ v) H v0 v1 v v3 v4 v5:=by
 obtain ⟨c0,c1,c2,c3,c4,c5,f0,f1,f2,f3,f4,f5⟩:=h
 constructor<;>simp[go_sem,c0,c1,c2,c3,c4,c5,f0,f1,f2,f3,f4,f5]
theorem SixAt.set3 (h:SixAt w H v0 v1 v2 v3 v4 v5) (v:Value):SixAt (w.setCell ⟨H,3,none⟩ v) H v0 v1 v2 v v4 v5:=by
 obtain ⟨c0,c1,c2,c3,c4,c5,f0,f1,f2,f3,f4,f5⟩:=h
 constructor<;>simp[go_sem,c0,c1,c2,c3,c4,c5,f0,f1,f2,f3,f4,f5]
theorem SixAt.set4 (h:SixAt w H v0 v1 v2 v3 v4 v5) (v:Value):SixAt (w.setCell ⟨H,4,none⟩ v) H v0 v1 v2 v3 v v5:=by
 obtain ⟨c0,c1,c2,c3,c4,c5,f0,f1,f2,f3,f4,f5⟩:=h
 constructor<;>simp[go_sem,c0,c1,c2,c3,c4,c5,f0,f1,f2,f3,f4,f5]
theorem SixAt.set5 (h:SixAt w H v0 v1 v2 v3 v4 v5) (v:Value):SixAt (w.setCell ⟨H,5,none⟩ v) H v0 v1 v2 v3 v4 v:=by
 obtain ⟨c0,c1,c2,c3,c4,c5,f0,f1,f2,f3,f4,f5⟩:=h
 constructor<;>simp[go_sem,c0,c1,c2,c3,c4,c5,f0,f1,f2,f3,f4,f5]
end
theorem SixAt.store {W:World}{H B:Nat}{v0 v1 v2 v3 v4 v5:Value}(h:SixAt W H v0 v1 v2 v3 v4 v5) (hB:B≤H) (u0 u1 u2 u3 u4 u5:Value) :
  ∃WF,((((((W.setCell ⟨H,0,none⟩ u0).setCell ⟨H,1,none⟩ u1).setCell ⟨H,2,none⟩ u2).setCell ⟨H,3,none⟩ u3).setCell ⟨H,4,none⟩ u4).setCell ⟨H,5,none⟩ u5)=WF∧SixAt WF H u0 u1 u2 u3 u4 u5∧Below B W WF∧(∀j,j≠H→WF.heap[j]?=W.heap[j]?)∧WF.heap.size=W.heap.size:=by
 refine ⟨_,rfl,(((((h.set0 u0).set1 u1).set2 u2).set3 u3).set4 u4).set5 u5,((((((Below.refl B W).setCell hB _).setCell hB _).setCell hB _).setCell hB _).setCell hB _).setCell hB _,fun j hj => ?_,by simp⟩
 rw[Below.heap_setCell _ _ _ _ hj,Below.heap_setCell _ _ _ _ hj,Below.heap_setCell _ _ _ _ hj,Below.heap_setCell _ _ _ _ hj,Below.heap_setCell _ _ _ _ hj,Below.heap_setCell _ _ _ _ hj]
structure OneAt (w:World) (H:Nat) (v:Value):Prop where
 c:w.cell? ⟨H,0,none⟩=some v
 f:w.frozen? ⟨H,0,none⟩=false
section
variable {w w' : World} {H : Nat} {v : Value}
theorem OneAt.new (w:World) (v:Value) (t:TypeId):OneAt (w.alloc (.cells #[v] t)) w.heap.size v:=by
 have hh:(w.alloc (.cells #[v] t)).heap[w.heap.size]?=some (.cells #[v] t (0,0)):=by show (w.heap.push _)[w.heap.size]?=_;simp
 refine ⟨by rw[World.cell?_alloc_at _ _ _ _ rfl];rfl,?_⟩
 unfold World.frozen?;rw[hh];simp
theorem OneAt.below (h:OneAt w H v) {B:Nat}(hb:Below B w w') (hH:H<B):OneAt w' H v:=⟨(hb.cell (p:=⟨H,0,none⟩) hH).trans h.c,(hb.frozen (p:=⟨H,0,none⟩) hH).trans h.f⟩
theorem OneAt.set (h:OneAt w H v) (u:Value):OneAt (w.setCell ⟨H,0,none⟩ u) H u:=by
 obtain ⟨c,f⟩:=h
 constructor<;>simp[go_sem,c,f]
theorem OneAt.set_ne (h:OneAt w H v) {p:Addr}(hp:p.block≠H) (u:Value):OneAt (w.setCell p u) H v:=by
 obtain ⟨c,f⟩:=h
 obtain ⟨pb,po,pc⟩:=p
 simp only at hp
 constructor
 ·rw[←c];simp[go_sem]
 ·rw[←f];simp[go_sem]
end
end
section
open Go.RowKit
def AheadOut (w:World) (r:RowP) (e:Ending) (w' : World):Prop :=
 ∃(A:Option Addr) (n c k:Nat) (l:List UInt8),e = .returned (.tuple #[.slice A n c,.int .i64 k])∧Below w.heap.size w w'∧l.length=n∧n≤c∧Sees w' w'.heap.size A (bv l) ∧
  ((MayR { r with id:=1 }∧r.kind≠2∧k=0∧l=(makeR { r with id:=1 }).take ((makeR { r with id:=1 }).length - 4))∨(¬ (MayR { r with id:=1 }∧r.kind≠2)∧k=120∧l = []))
theorem AheadOut.bad {w w' : World}{r:RowP}(h:¬ (MayR { r with id:=1 }∧r.kind≠2)) (hb:Below w.heap.size w w'):AheadOut w r (.returned (.tuple #[.slice none 0 0,.int .i64 120])) w' :=
 ⟨none,0,0,120, [],rfl,hb,rfl,Nat.le_refl _,Sees.nil _ _ _,.inr ⟨h,rfl,rfl⟩⟩
theorem Ahead_any (A:Option Addr) (n c:Nat) (ls:List Lb) (hn:ls.length=n) (k d i:Int) (x1 x2:ByteArray) (w:World) (hS:Sees w w.heap.size A (lv ls)) (hlen:n≤1099511627776) (hsz:∀x∈ls,x.1.size≤9223372036854775807) (h1:x1.size≤9223372036854775807) :
  Calls Tryz.prog 57 #[.agg #[.int .i64 k,.slice A n c,.string x1,.string x2,.int .i64 d,.int .i64 i]] w (AheadOut w ⟨k,ls,(x1,x2),d,i⟩):=by
 obtain ⟨W1,hW1⟩:∃W1,(w.alloc (.cells #[.int .i64 k,.slice A n c,.string x1,.string x2,.int .i64 d,.int .i64 i] 92)).setCell ⟨w.heap.size,5,none⟩ (.int .i64 1)=W1:=⟨_,rfl⟩
 have hb1:Below w.heap.size w W1:=hW1 ▸ ((Below.refl _ _).alloc (Nat.le_refl _) _).setCell (Nat.le_refl _) _
 have six:SixAt W1 w.heap.size (.int .i64 k) (.slice A n c) (.string x1) (.string x2) (.int .i64 d) (.int .i64 1):=hW1 ▸ (SixAt.new w _ _ _ _ _ _ _).set5 _
 have hs1:w.heap.size<W1.heap.size:=by rw[←hW1];simp
 have hM:=Lib.hid (MakeRow_any A n c ls hn k d 1 x1 x2 W1 ((hS.below hb1).more hb1.size) hlen hsz h1)
 have HX:=Lib.hid six
 obtain ⟨g0,g1,g2,g3,g4,g5, -, -, -, -, -, -⟩:=six
 clear hsz hn hS
 go_enter Tryz.func57,Tryz.ntmps57
 go_wp2_with fail
 refine hM.out.mono ?_
 rintro en w2 ⟨v,kk,rfl,hb2,hres⟩
 have six:=HX.out.below hb2 hs1
 have c0:=six.c0
 have hs2:=hb2.size
 have hb02:=hb1.trans (hb2.mono hb1.size)
 clear hM HX six hW1 hb1 hb2 g0 g1 g2 g3 g4 g5
 have HK:Hid (({ (⟨k,ls,(x1,x2),d,i⟩:RowP) with id:=1 } : RowP)=⟨k,ls,(x1,x2),d,1⟩):=rfl
 rcases hres with ⟨hmay,rfl,hown⟩|⟨hno,rfl,rfl⟩
 ·have HMAY:=Lib.hid hmay
  have hlen:=make_len hmay
  obtain ⟨L,hL⟩:∃L,makeR ⟨k,ls,(x1,x2),d,1⟩=L:=⟨_,rfl⟩
  rw[hL] at hown hlen
  have HL:=Lib.hid hL
  obtain ⟨A3,c3,rfl,hc3, -, -,hs3⟩:=hown.open_
  obtain ⟨m,hm⟩:∃m,L.length=m:=⟨_,rfl⟩
  rw[hm] at hlen hc3
  simp only[hm]
  have HM2:=Lib.hid hm
  clear hmay hL hown hm
  have hsub:IntKind.i64.wrap ((m:Int) - 4)=((m - 4:Nat):Int):=by rw[IntKind.wrap_i64];omega
  obtain ⟨q,hq⟩:∃q,m - 4=q:=⟨_,rfl⟩
  rw[hq] at hsub
  have hqc:q≤c3:=by omega
  have hqm:q+4=m:=by omega
  clear hq
  have HQ:=Lib.hid hqm
  clear hqm
  by_cases k2:k=2
  ·obtain rfl:=k2
   go_wp2
   go_ret2
   exact AheadOut.bad (fun h=>h.2 rfl) hb02
  ·have hk2:(k==2)=false:=by rw[beq_eq_false_iff_ne];exact k2
   go_wp2
   go_ret2
   refine ⟨A3,q,c3,0,L.take q,rfl,hb02,?_,hqc,?_,.inl ⟨HMAY.out,k2,rfl,?_⟩⟩
   ·rw[List.length_take,HM2.out];have:=HQ.out;omega
   ·rw[bv_take];exact hs3.take _
   ·show L.take q=(makeR ⟨k,ls,(x1,x2),d,1⟩).take ((makeR ⟨k,ls,(x1,x2),d,1⟩).length - 4)
    rw[HL.out,HM2.out];congr 1;have:=HQ.out;omega
 ·have HNO:Hid (¬ (MayR ({ (⟨k,ls,(x1,x2),d,i⟩:RowP) with id:=1 })∧(⟨k,ls,(x1,x2),d,i⟩:RowP).kind≠2)):=fun h=>hno h.1
  clear hno
  go_wp2
  go_ret2
  exact AheadOut.bad HNO.out hb02
end
section
open Go.RowKit
def SliceOut (w:World) (L:List UInt8) (E:Nat) (e:Ending) (w' : World):Prop:=∃A n c,e = .returned (.tuple #[.slice A n c,.int .i64 (E:Nat)])∧Below w.heap.size w w'∧L.length=n∧n≤c∧Sees w' w'.heap.size A (bv L)
open Classical in
noncomputable def ahB (r:RowP):List UInt8:=if MayR { r with id:=1 }∧r.kind≠2 then (makeR { r with id:=1 }).take ((makeR { r with id:=1 }).length - 4) else []
open Classical in
noncomputable def ahE (r:RowP):Nat:=if MayR { r with id:=1 }∧r.kind≠2 then 0 else 120
theorem AheadOut.same {w w' : World}{r:RowP}{e:Ending}(h:AheadOut w r e w'):SliceOut w (ahB r) (ahE r) e w':=by
 obtain ⟨A,n,c,k,l,rfl,hb,hl,hc,hs,⟨h1,h2,rfl,rfl⟩|⟨h1,rfl,rfl⟩⟩:=h
 ·unfold ahB ahE
  rw[if_pos ⟨h1,h2⟩,if_pos ⟨h1,h2⟩]
  exact ⟨A,n,c,rfl,hb,hl,hc,hs⟩
 ·unfold ahB ahE
  rw[if_neg h1,if_neg h1]
  exact ⟨A,n,c,rfl,hb,hl,hc,hs⟩
end
end Go.Proofs.YtalmnodgjjcefaaGreatDoor
