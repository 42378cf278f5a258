/- Several texts in one: LbCanon LbMay LbRefCanon LbMarsh. -/
import Derived.Test.YtalmnodgjjcefaaGreatDoorJTk
import Derived.Test.YtalmnodgjjcefaaGreatDoorJLbB
import Derived.Test.YtalmnodgjjcefaaGreatDoorJLbA
set_option maxRecDepth 100000
set_option maxHeartbeats 4000000
namespace Go.Proofs.YtalmnodgjjcefaaGreatDoor
section
open Go.RowKit
def Near (l:List Lb) (k:Nat):Prop:=∀j (h:j<l.length),j<k→okL l[j]=true∧∀i (_:i+1=j),(l[i]'(by omega)).1≠l[j].1
theorem Near.zero (l:List Lb):Near l 0:=fun j _ h=>absurd h (by omega)
theorem Near.step {l:List Lb}{k:Nat}(h:Near l k) (hk:k<l.length) (ho:okL l[k]=true) (hd:∀i (_:i+1=k),(l[i]'(by omega)).1≠l[k].1):Near l (k+1):=by
 intro j hj hjk
 by_cases e:j=k
 ·subst e;exact ⟨ho,hd⟩
 ·exact h j hj (by omega)
theorem Near.end_ {l m:List Lb}{n:Nat}(hn:m.length=n) (h1:1≤n) (h6:n≤6) (p:m.Perm l) (hw:Weak m) (h:Near m n):MayL l∧sortN l=m:=by
 have hu:Up m:=up_of_near hw fun i hi=>(h (i+1) hi (by omega)).2 i rfl
 have hm:MayL m:=⟨by omega,by omega,fun x hx=>by obtain ⟨j,hj,e⟩:=List.mem_iff_getElem.1 hx;rw[←e];exact (h j hj (by omega)).1,hu.dist⟩
 exact ⟨hm.perm p.symm,sortN_of_perm p hu⟩
theorem not_may_bad {l m:List Lb}(p:m.Perm l) {k:Nat}(hk:k<m.length) (h:okL m[k]=false):¬ MayL l:=fun hm=>by
 have:=hm.ok _ (p.mem_iff.1 (List.getElem_mem hk))
 rw[h] at this
 exact absurd this (by simp)
theorem not_may_same {l m:List Lb}(p:m.Perm l) {i j:Nat}(hi:i<m.length) (hj:j<m.length) (hij:i<j) (h:m[i].1=m[j].1):¬ MayL l:=fun hm =>
 List.pairwise_iff_getElem.1 (hm.perm p).dist i j hi hj hij h
def CanonOut (w:World) (ls:List Lb) (e:Ending) (w' : World):Prop :=
 ∃(v:Value) (k:Nat),e = .returned (.tuple #[v,.int .i64 k])∧Below w.heap.size w w'∧((MayL ls∧k=0∧OwnL w' w.heap.size v (sortN ls))∨(¬ MayL ls∧k=70∧v = .slice none 0 0))
theorem CanonOut.bad {w w' : World}{ls:List Lb}(h:¬ MayL ls) (hb:Below w.heap.size w w'):CanonOut w ls (.returned (.tuple #[.slice none 0 0,.int .i64 70])) w':=⟨_,70,rfl,hb,.inr ⟨h,rfl,rfl⟩⟩
theorem OwnL.some_ {w:World}{base:Nat}{v:Value}{ls:List Lb}(h:OwnL w base v ls) {n:Nat}(hn:ls.length=n) (h1:1≤n):∃g c,v = .slice (some ⟨g,0,none⟩) n c∧n≤c∧base≤g∧g<w.heap.size:=by
 have hb:=h.block
 rcases h.2 with ⟨-,h0⟩|⟨g,cap,cur,rfl,hg,hh,hc, -⟩
 ·omega
 ·refine ⟨g,cap,by rw[hn],by omega,hg,?_⟩
  rcases Nat.lt_or_ge g w.heap.size with h|h
  ·exact h
  ·rw[Array.getElem?_eq_none h] at hh;cases hh
theorem Canon_any (A:Option Addr) (n c:Nat) (ls:List Lb) (hn:ls.length=n) (w:World) (hS:Sees w w.heap.size A (lv ls)) (hlen:n≤1099511627776) (hsz:∀x∈ls,x.1.size≤9223372036854775807) :
  Calls Tryz.prog 45 #[.slice A n c] w (CanonOut w ls):=by
 by_cases h1:1≤n
 ·by_cases h6:n≤6
  ·have hCl:=CloneL_any A n c ls hn w hS (by omega)
   have i1:(1:Int)≤(n:Int):=by omega
   have i6:(n:Int)≤6:=by omega
   have HSIZE:=Lib.hid hsz
   clear hsz
   have HN:=Lib.hid hn
   have HC:=Lib.hid hCl
   have HL:=Lib.hid hlen
   clear hn hCl hlen hS
   go_enter Tryz.func45,Tryz.ntmps45
   go_wp2_with fail
   refine HC.out.mono ?_
   rintro en w1 ⟨v1,rfl,hown1,hon1⟩
   obtain ⟨g0,c0,rfl,hgc,hg0,hgs⟩:=hown1.some_ HN.out h1
   have hB1:Below w.heap.size w w1:=hon1.below_nil
   have hSo:=Lib.hid (SortFunc_any w.heap.size g0 c0 n ls HN.out w1 hown1 HL.out)
   clear hown1 hon1 HC
   go_wp2_with fail
   refine hSo.out.mono ?_
   rintro en w2 ⟨rfl,m,hp,hw,hown2,hb2⟩
   have hm:m.length=n:=hp.length_eq.trans HN.out
   have HM:=Lib.hid hm
   have hB2:Below w.heap.size w w2:=hB1.trans (hb2.mono hg0)
   have hgs2:g0<w2.heap.size:=by have:=hb2.size;omega
   obtain ⟨ad,had⟩:∃ad:Addr,ad=⟨g0,0,none⟩:=⟨_,rfl⟩
   have hadb:ad.block=g0:=by rw[had]
   rw[←had] at hown2 ⊢
   clear hSo hm hb2 had
   go_wp2
   go_loopg [21] n (fun g i wr=>∃k:Nat,k+g=n∧i = .int .i64 k∧Near m k∧OwnL wr w.heap.size (.slice (some ad) n c0) m∧Below w.heap.size w wr∧g0<wr.heap.size)
   case atStart=>exact ⟨0,by omega,rfl,Near.zero _,hown2,hB2,hgs2⟩
   case round =>
    obtain ⟨k,hk,rfl,hnear,hown,hbr,hgr⟩:=hrel
    have hsr:=hbr.size
    obtain ⟨A',c',he', -, -,hS2⟩:=hown.open_
    injection he' with he1 he2 he3
    subst he1
    clear he2 he3
    by_cases hlt:k<n
    ·have hkm:k<m.length:=by have:=HM.out;omega
     obtain ⟨ad1,hade,hadB,hc0,hc1⟩:=hS2.lb (k:=k) hkm
     injection hade with hade
     subst hade
     obtain ⟨x,hx⟩:∃x,m[k]=x:=⟨_,rfl⟩
     have HX:=Lib.hid hx
     rw[hx] at hc0 hc1
     have f0:(wr.alloc (.cells #[.string x.1,.string x.2] 83)).cell? ⟨wr.heap.size,0,none⟩=some (.string x.1):=by rw[World.cell?_alloc_at _ _ _ _ rfl];rfl
     have f1:(wr.alloc (.cells #[.string x.1,.string x.2] 83)).cell? ⟨wr.heap.size,1,none⟩=some (.string x.2):=by rw[World.cell?_alloc_at _ _ _ _ rfl];rfl
     have hW:Below wr.heap.size wr (wr.alloc (.cells #[.string x.1,.string x.2] 83)):=(Below.refl _ _).alloc (Nat.le_refl _) _
     have hWs:wr.heap.size<(wr.alloc (.cells #[.string x.1,.string x.2] 83)).heap.size:=by simp
     have hok:okL x=(nameB x.1 && decide (1≤x.2.size) && decide (x.2.size≤16)):=rfl
     obtain ⟨b,hb⟩:∃b,nameB x.1=b:=⟨_,rfl⟩
     have hN:∀W,x.1.size≤9223372036854775807→Hid (Calls Tryz.prog 87 #[.string x.1] W (Gives W (.bool b))):=fun W hs=>by rw[←hb];exact Lib.hid (Name_any x.1 W hs)
     rw[hb] at hok
     have HB:=Lib.hid hb
     clear hx hb
     have HSZ:Hid (x.1.size≤9223372036854775807):=Lib.hid (HSIZE.out _ (by rw[←HX.out];exact hp.mem_iff.1 (List.getElem_mem hkm)))
     cases b with
     | false =>
      have HO:Hid (okL x=false):=by unfold Hid;rw[hok];rfl
      clear hok HB
      go_wp2_with fail
      generalize wr.alloc (.cells #[.string x.1,.string x.2] 83)=W1 at f0 f1 hW hWs ⊢
      refine wp_region_noPanic ?_
      refine wp_region_held_drew (S:=fun w'=>w'.cell? ⟨wr.heap.size,0,none⟩=some (.string x.1)∧w'.cell? ⟨wr.heap.size,1,none⟩=some (.string x.2)) (by kernel_rfl) ?_ (fun hHeld => ?_)
      ·(exact ⟨f0,f1⟩)
      refine tq0 0 hHeld ?_
      try simp only[Act.put,S0,S1,S2]
      refine tq0 1 hHeld ?_
      try simp only[Act.put,S0,S1,S2]
      refine wpAnyH_ready (rs := [2]) (by kernel_rfl) (by simp) ?_
      refine AllReadyH.cons (tqi rfl) (fun K hK => ?_) AllReadyH.nil
      go_simp
      refine (hN _ HSZ.out).out.mono ?_
      rintro en wq ⟨rfl,hb1⟩
      have hb1:=below_undrew hb1
      go_wp2_with fail
      refine hK.out _ _ ?_ ?_
      ·(exact ⟨(hb1.cell hWs).trans f0,(hb1.cell hWs).trans f1⟩)
      clear hK K hHeld;intro hHeld
      try simp only[Act.put,S0,S1,S2]
      refine tq0 3 hHeld ?_
      try simp only[Act.put,S0,S1,S2]
      refine tq0 4 hHeld ?_
      try simp only[Act.put,S0,S1,S2]
      refine tq1 5 hHeld ?_
      try simp only[Act.put,S0,S1,S2]
      refine tq1 6 hHeld ?_
      try simp only[Act.put,S0,S1,S2]
      refine tq1 7 hHeld ?_
      try simp only[Act.put,S0,S1,S2]
      refine tq1 8 hHeld ?_
      try simp only[Act.put,S0,S1,S2]
      refine tq0 9 hHeld ?_
      try simp only[Act.put,S0,S1,S2]
      refine tq0 10 hHeld ?_
      try simp only[Act.put,S0,S1,S2]
      refine tq1 11 hHeld ?_
      try simp only[Act.put,S0,S1,S2]
      refine tq1 12 hHeld ?_
      try simp only[Act.put,S0,S1,S2]
      refine tq1 13 hHeld ?_
      try simp only[Act.put,S0,S1,S2]
      refine tq1 14 hHeld ?_
      try simp only[Act.put,S0,S1,S2]
      refine tq0 15 hHeld ?_
      try simp only[Act.put,S0,S1,S2]
      refine tq0 16 hHeld ?_
      try simp only[Act.put,S0,S1,S2]
      refine tq1 17 hHeld ?_
      try simp only[Act.put,S0,S1,S2]
      refine tq1 18 hHeld ?_
      try simp only[Act.put,S0,S1,S2]
      refine tq1 19 hHeld ?_
      try simp only[Act.put,S0,S1,S2]
      refine tq1 20 hHeld ?_
      try simp only[Act.put,S0,S1,S2]
      refine tq1 21 hHeld ?_
      try simp only[Act.put,S0,S1,S2]
      refine tq1 22 hHeld ?_
      try simp only[Act.put,S0,S1,S2]
      refine tq1 23 hHeld ?_
      try simp only[Act.put,S0,S1,S2]
      refine tq1 24 hHeld ?_
      try simp only[Act.put,S0,S1,S2]
      refine tq1 25 hHeld ?_
      try simp only[Act.put,S0,S1,S2]
      refine tq1 26 hHeld ?_
      try simp only[Act.put,S0,S1,S2]
      refine tq1 27 hHeld ?_
      try simp only[Act.put,S0,S1,S2]
      refine tq1 28 hHeld ?_
      try simp only[Act.put,S0,S1,S2]
      refine tq1 29 hHeld ?_
      try simp only[Act.put,S0,S1,S2]
      refine tq0 30 hHeld ?_
      try simp only[Act.put,S0,S1,S2]
      refine wpAnyH_done (by kernel_rfl) ?_ _
      refine NoPanic.normal ?_
      have hbq:Below w.heap.size w wq:=(hbr.trans (hW.mono hsr)).trans (hb1.mono (show w.heap.size≤W1.heap.size from by omega))
      go_wp2
      go_ret2
      exact CanonOut.bad (not_may_bad hp hkm (by rw[HX.out];exact HO.out)) hbq
     | true =>
      by_cases s1:1≤x.2.size
      ·have s1' : (1:Int)≤(x.2.size:Int):=by omega
       by_cases s2:x.2.size≤16
       ·have s2' : (x.2.size:Int)≤16:=by omega
        have HO:Hid (okL x=true):=by unfold Hid;rw[hok,decide_eq_true s1,decide_eq_true s2];rfl
        clear hok HB s1 s2
        by_cases hk0:k=0
        ·have kz:(k:Int)≤0:=by omega
         have K0:=Lib.hid hk0
         clear hk0
         go_wp2_with fail
         generalize wr.alloc (.cells #[.string x.1,.string x.2] 83)=W1 at f0 f1 hW hWs ⊢
         refine wp_region_noPanic ?_
         refine wp_region_held_drew (S:=fun w'=>w'.cell? ⟨wr.heap.size,0,none⟩=some (.string x.1)∧w'.cell? ⟨wr.heap.size,1,none⟩=some (.string x.2)) (by kernel_rfl) ?_ (fun hHeld => ?_)
         ·(exact ⟨f0,f1⟩)
         refine tq0 0 hHeld ?_
         try simp only[Act.put,S0,S1,S2]
         refine tq0 1 hHeld ?_
         try simp only[Act.put,S0,S1,S2]
         refine wpAnyH_ready (rs := [2]) (by kernel_rfl) (by simp) ?_
         refine AllReadyH.cons (tqi rfl) (fun K hK => ?_) AllReadyH.nil
         go_simp
         refine (hN _ HSZ.out).out.mono ?_
         rintro en wq ⟨rfl,hb1⟩
         have hb1:=below_undrew hb1
         go_wp2_with fail
         refine hK.out _ _ ?_ ?_
         ·(exact ⟨(hb1.cell hWs).trans f0,(hb1.cell hWs).trans f1⟩)
         clear hK K hHeld;intro hHeld
         try simp only[Act.put,S0,S1,S2]
         refine tq0 3 hHeld ?_
         try simp only[Act.put,S0,S1,S2]
         refine tq0 4 hHeld ?_
         try simp only[Act.put,S0,S1,S2]
         refine tq0 5 hHeld ?_
         try simp only[Act.put,S0,S1,S2]
         refine tq0 6 hHeld ?_
         try simp only[Act.put,S0,S1,S2]
         refine tq0 7 hHeld ?_
         try simp only[Act.put,S0,S1,S2]
         refine wpAnyH_take (i:=8) (v:=(.bool false)) (tqi rfl) (by kernel_rfl) (by kernel_rfl) (by kernel_rfl) (fun _ _ _ h=>h) (Or.inl ⟨by rfl,?_⟩) hHeld ?_
         ·(intro w' hSw;(try dsimp only at hSw);go_split_ands;go_simp;first|done|with_reducible rfl|simp;omega)
         try simp only[Act.put,S0,S1,S2]
         refine tq0 9 hHeld ?_
         try simp only[Act.put,S0,S1,S2]
         refine tq0 10 hHeld ?_
         try simp only[Act.put,S0,S1,S2]
         refine tq0 11 hHeld ?_
         try simp only[Act.put,S0,S1,S2]
         refine tq0 12 hHeld ?_
         try simp only[Act.put,S0,S1,S2]
         refine tq0 13 hHeld ?_
         try simp only[Act.put,S0,S1,S2]
         refine wpAnyH_take (i:=14) (v:=(.bool false)) (tqi rfl) (by kernel_rfl) (by kernel_rfl) (by kernel_rfl) (fun _ _ _ h=>h) (Or.inl ⟨by rfl,?_⟩) hHeld ?_
         ·(intro w' hSw;(try dsimp only at hSw);go_split_ands;go_simp;first|done|with_reducible rfl|simp;omega)
         try simp only[Act.put,S0,S1,S2]
         refine tq0 15 hHeld ?_
         try simp only[Act.put,S0,S1,S2]
         refine tq0 16 hHeld ?_
         try simp only[Act.put,S0,S1,S2]
         refine tq0 17 hHeld ?_
         try simp only[Act.put,S0,S1,S2]
         refine wpAnyH_take (i:=18) (v:=(.bool false)) (tqi rfl) (by kernel_rfl) (by kernel_rfl) (by kernel_rfl) (fun _ _ _ h=>h) (Or.inl ⟨by rfl,?_⟩) hHeld ?_
         ·(intro w' hSw;(try dsimp only at hSw);go_split_ands;go_simp;first|done|with_reducible rfl|first|omega|(simp;omega))
         try simp only[Act.put,S0,S1,S2]
         refine tq0 19 hHeld ?_
         try simp only[Act.put,S0,S1,S2]
         refine tq1 20 hHeld ?_
         try simp only[Act.put,S0,S1,S2]
         refine tq1 21 hHeld ?_
         try simp only[Act.put,S0,S1,S2]
         refine tq1 22 hHeld ?_
         try simp only[Act.put,S0,S1,S2]
         refine tq1 23 hHeld ?_
         try simp only[Act.put,S0,S1,S2]
         refine tq1 24 hHeld ?_
         try simp only[Act.put,S0,S1,S2]
         refine tq1 25 hHeld ?_
         try simp only[Act.put,S0,S1,S2]
         refine tq1 26 hHeld ?_
         try simp only[Act.put,S0,S1,S2]
         refine tq1 27 hHeld ?_
         try simp only[Act.put,S0,S1,S2]
         refine tq1 28 hHeld ?_
         try simp only[Act.put,S0,S1,S2]
         refine tq0 29 hHeld ?_
         try simp only[Act.put,S0,S1,S2]
         refine tq0 30 hHeld ?_
         try simp only[Act.put,S0,S1,S2]
         refine wpAnyH_done (by kernel_rfl) ?_ _
         refine NoPanic.normal ?_
         have hbq:Below w.heap.size w wq:=(hbr.trans (hW.mono hsr)).trans (hb1.mono (show w.heap.size≤W1.heap.size from by omega))
         go_wp2
         go_roundg (n - (k+1))
         case measure=>omega
         case rel=>exact ⟨k+1,by omega,by go_num,hnear.step hkm (by rw[HX.out];exact HO.out) (fun i hi=>by have:=K0.out;omega),(hown.below (hW.trans (hb1.mono (show wr.heap.size≤W1.heap.size from by omega)))),hbq,by have:=hb1.size;omega⟩
        ·obtain ⟨j,hj⟩:∃j,k=j+1:=⟨k - 1,by omega⟩
         subst hj
         have hjm:j<m.length:=by omega
         obtain ⟨ad2,hade2, -,hd0, -⟩:=hS2.lb (k:=j) hjm
         injection hade2 with hade2
         subst hade2
         obtain ⟨y,hy⟩:∃y,m[j]=y:=⟨_,rfl⟩
         have HY:=Lib.hid hy
         rw[hy] at hd0
         have f2:(wr.alloc (.cells #[.string x.1,.string x.2] 83)).cell? (ad.add (j*2))=some (.string y.1):=(hW.cell (by rw[add_block,hadb];exact hgr)).trans hd0
         have kp:(0:Int)<((j+1:Nat):Int):=by omega
         have hsub:IntKind.i64.wrap (((j+1:Nat):Int) - 1)=(j:Int):=by rw[IntKind.wrap_i64];omega
         have hsub2:IntKind.i64.wrap (j:Int)=(j:Int):=by rw[IntKind.wrap_i64];omega
         have jn:(j:Int)<(n:Int):=by omega
         clear hy hd0 hk0
         by_cases hxy:y.1.toList=x.1.toList
         ·have hE:=Lib.hid (bytes_same hxy)
          go_wp2_with fail
          generalize wr.alloc (.cells #[.string x.1,.string x.2] 83)=W1 at f0 f1 f2 hW hWs ⊢
          refine wp_region_noPanic ?_
          refine wp_region_held_drew (S:=fun w'=>w'.cell? ⟨wr.heap.size,0,none⟩=some (.string x.1)∧w'.cell? ⟨wr.heap.size,1,none⟩=some (.string x.2)∧w'.cell? (ad.add (j*2))=some (.string y.1)) (by kernel_rfl) ?_ (fun hHeld => ?_)
          ·(exact ⟨f0,f1,f2⟩)
          refine tq0 0 hHeld ?_
          try simp only[Act.put,S0,S1,S2]
          refine tq0 1 hHeld ?_
          try simp only[Act.put,S0,S1,S2]
          refine wpAnyH_ready (rs := [2]) (by kernel_rfl) (by simp) ?_
          refine AllReadyH.cons (tqi rfl) (fun K hK => ?_) AllReadyH.nil
          go_simp
          refine (hN _ HSZ.out).out.mono ?_
          rintro en wq ⟨rfl,hb1⟩
          have hb1:=below_undrew hb1
          go_wp2_with fail
          refine hK.out _ _ ?_ ?_
          ·(exact ⟨(hb1.cell hWs).trans f0,(hb1.cell hWs).trans f1,(hb1.cell (show (ad.add (j*2)).block<W1.heap.size from by rw[add_block,hadb];omega)).trans f2⟩)
          clear hK K hHeld;intro hHeld
          try simp only[Act.put,S0,S1,S2]
          refine tq0 3 hHeld ?_
          try simp only[Act.put,S0,S1,S2]
          refine tq0 4 hHeld ?_
          try simp only[Act.put,S0,S1,S2]
          refine tq0 5 hHeld ?_
          try simp only[Act.put,S0,S1,S2]
          refine tq0 6 hHeld ?_
          try simp only[Act.put,S0,S1,S2]
          refine tq0 7 hHeld ?_
          try simp only[Act.put,S0,S1,S2]
          refine wpAnyH_take (i:=8) (v:=(.bool false)) (tqi rfl) (by kernel_rfl) (by kernel_rfl) (by kernel_rfl) (fun _ _ _ h=>h) (Or.inl ⟨by rfl,?_⟩) hHeld ?_
          ·(intro w' hSw;(try dsimp only at hSw);go_split_ands;go_simp;first|done|with_reducible rfl|simp;omega)
          try simp only[Act.put,S0,S1,S2]
          refine tq0 9 hHeld ?_
          try simp only[Act.put,S0,S1,S2]
          refine tq0 10 hHeld ?_
          try simp only[Act.put,S0,S1,S2]
          refine tq0 11 hHeld ?_
          try simp only[Act.put,S0,S1,S2]
          refine tq0 12 hHeld ?_
          try simp only[Act.put,S0,S1,S2]
          refine tq0 13 hHeld ?_
          try simp only[Act.put,S0,S1,S2]
          refine wpAnyH_take (i:=14) (v:=(.bool false)) (tqi rfl) (by kernel_rfl) (by kernel_rfl) (by kernel_rfl) (fun _ _ _ h=>h) (Or.inl ⟨by rfl,?_⟩) hHeld ?_
          ·(intro w' hSw;(try dsimp only at hSw);go_split_ands;go_simp;first|done|with_reducible rfl|simp;omega)
          try simp only[Act.put,S0,S1,S2]
          refine tq0 15 hHeld ?_
          try simp only[Act.put,S0,S1,S2]
          refine tq0 16 hHeld ?_
          try simp only[Act.put,S0,S1,S2]
          refine tq0 17 hHeld ?_
          try simp only[Act.put,S0,S1,S2]
          refine wpAnyH_take (i:=18) (v:=(.bool true)) (tqi rfl) (by kernel_rfl) (by kernel_rfl) (by kernel_rfl) (fun _ _ _ h=>h) (Or.inl ⟨by rfl,?_⟩) hHeld ?_
          ·(intro w' hSw;(try dsimp only at hSw);go_split_ands;go_simp;first|done|with_reducible rfl|simp;omega)
          try simp only[Act.put,S0,S1,S2]
          refine tq0 19 hHeld ?_
          try simp only[Act.put,S0,S1,S2]
          refine tq0 20 hHeld ?_
          try simp only[Act.put,S0,S1,S2]
          refine tq0 21 hHeld ?_
          try simp only[Act.put,S0,S1,S2]
          refine tq0 22 hHeld ?_
          try simp only[Act.put,S0,S1,S2]
          refine tq0 23 hHeld ?_
          try simp only[Act.put,S0,S1,S2]
          refine tq0 24 hHeld ?_
          try simp only[Act.put,S0,S1,S2]
          refine tq0 25 hHeld ?_
          try simp only[Act.put,S0,S1,S2]
          refine tq0 26 hHeld ?_
          try simp only[Act.put,S0,S1,S2]
          refine tq0 27 hHeld ?_
          try simp only[Act.put,S0,S1,S2]
          refine wpAnyH_take (i:=28) (v:=(.bool true)) (tqi rfl) (by kernel_rfl) (by kernel_rfl) (by kernel_rfl) (fun _ _ _ h=>h) (Or.inl ⟨by rfl,?_⟩) hHeld ?_
          ·(intro w' hSw;(try dsimp only at hSw);go_split_ands;go_simp;first|done|with_reducible rfl|simp[hxy])
          try simp only[Act.put,S0,S1,S2]
          refine tq0 29 hHeld ?_
          try simp only[Act.put,S0,S1,S2]
          refine tq0 30 hHeld ?_
          try simp only[Act.put,S0,S1,S2]
          refine wpAnyH_done (by kernel_rfl) ?_ _
          refine NoPanic.normal ?_
          have hbq:Below w.heap.size w wq:=(hbr.trans (hW.mono hsr)).trans (hb1.mono (show w.heap.size≤W1.heap.size from by omega))
          go_wp2
          go_ret2
          exact CanonOut.bad (not_may_same hp hjm hkm (by omega) (by rw[HX.out,HY.out];exact hE.out)) hbq
         ·have hxy' : (y.1.toList==x.1.toList)=false:=beq_eq_false_iff_ne.2 hxy
          have HNE:=Lib.hid hxy
          clear hxy
          go_wp2_with fail
          generalize wr.alloc (.cells #[.string x.1,.string x.2] 83)=W1 at f0 f1 f2 hW hWs ⊢
          refine wp_region_noPanic ?_
          refine wp_region_held_drew (S:=fun w'=>w'.cell? ⟨wr.heap.size,0,none⟩=some (.string x.1)∧w'.cell? ⟨wr.heap.size,1,none⟩=some (.string x.2)∧w'.cell? (ad.add (j*2))=some (.string y.1)) (by kernel_rfl) ?_ (fun hHeld => ?_)
          ·(exact ⟨f0,f1,f2⟩)
          refine tq0 0 hHeld ?_
          try simp only[Act.put,S0,S1,S2]
          refine tq0 1 hHeld ?_
          try simp only[Act.put,S0,S1,S2]
          refine wpAnyH_ready (rs := [2]) (by kernel_rfl) (by simp) ?_
          refine AllReadyH.cons (tqi rfl) (fun K hK => ?_) AllReadyH.nil
          go_simp
          refine (hN _ HSZ.out).out.mono ?_
          rintro en wq ⟨rfl,hb1⟩
          have hb1:=below_undrew hb1
          go_wp2_with fail
          refine hK.out _ _ ?_ ?_
          ·(exact ⟨(hb1.cell hWs).trans f0,(hb1.cell hWs).trans f1,(hb1.cell (show (ad.add (j*2)).block<W1.heap.size from by rw[add_block,hadb];omega)).trans f2⟩)
          clear hK K hHeld;intro hHeld
          try simp only[Act.put,S0,S1,S2]
          refine tq0 3 hHeld ?_
          try simp only[Act.put,S0,S1,S2]
          refine tq0 4 hHeld ?_
          try simp only[Act.put,S0,S1,S2]
          refine tq0 5 hHeld ?_
          try simp only[Act.put,S0,S1,S2]
          refine tq0 6 hHeld ?_
          try simp only[Act.put,S0,S1,S2]
          refine tq0 7 hHeld ?_
          try simp only[Act.put,S0,S1,S2]
          refine wpAnyH_take (i:=8) (v:=(.bool false)) (tqi rfl) (by kernel_rfl) (by kernel_rfl) (by kernel_rfl) (fun _ _ _ h=>h) (Or.inl ⟨by rfl,?_⟩) hHeld ?_
          ·(intro w' hSw;(try dsimp only at hSw);go_split_ands;go_simp;first|done|with_reducible rfl|simp;omega)
          try simp only[Act.put,S0,S1,S2]
          refine tq0 9 hHeld ?_
          try simp only[Act.put,S0,S1,S2]
          refine tq0 10 hHeld ?_
          try simp only[Act.put,S0,S1,S2]
          refine tq0 11 hHeld ?_
          try simp only[Act.put,S0,S1,S2]
          refine tq0 12 hHeld ?_
          try simp only[Act.put,S0,S1,S2]
          refine tq0 13 hHeld ?_
          try simp only[Act.put,S0,S1,S2]
          refine wpAnyH_take (i:=14) (v:=(.bool false)) (tqi rfl) (by kernel_rfl) (by kernel_rfl) (by kernel_rfl) (fun _ _ _ h=>h) (Or.inl ⟨by rfl,?_⟩) hHeld ?_
          ·(intro w' hSw;(try dsimp only at hSw);go_split_ands;go_simp;first|done|with_reducible rfl|simp;omega)
          try simp only[Act.put,S0,S1,S2]
          refine tq0 15 hHeld ?_
          try simp only[Act.put,S0,S1,S2]
          refine tq0 16 hHeld ?_
          try simp only[Act.put,S0,S1,S2]
          refine tq0 17 hHeld ?_
          try simp only[Act.put,S0,S1,S2]
          refine wpAnyH_take (i:=18) (v:=(.bool true)) (tqi rfl) (by kernel_rfl) (by kernel_rfl) (by kernel_rfl) (fun _ _ _ h=>h) (Or.inl ⟨by rfl,?_⟩) hHeld ?_
          ·(intro w' hSw;(try dsimp only at hSw);go_split_ands;go_simp;first|done|with_reducible rfl|simp;omega)
          try simp only[Act.put,S0,S1,S2]
          refine tq0 19 hHeld ?_
          try simp only[Act.put,S0,S1,S2]
          refine tq0 20 hHeld ?_
          try simp only[Act.put,S0,S1,S2]
          refine tq0 21 hHeld ?_
          try simp only[Act.put,S0,S1,S2]
          refine tq0 22 hHeld ?_
          try simp only[Act.put,S0,S1,S2]
          refine tq0 23 hHeld ?_
          try simp only[Act.put,S0,S1,S2]
          refine tq0 24 hHeld ?_
          try simp only[Act.put,S0,S1,S2]
          refine tq0 25 hHeld ?_
          try simp only[Act.put,S0,S1,S2]
          refine tq0 26 hHeld ?_
          try simp only[Act.put,S0,S1,S2]
          refine tq0 27 hHeld ?_
          try simp only[Act.put,S0,S1,S2]
          refine wpAnyH_take (i:=28) (v:=(.bool false)) (tqi rfl) (by kernel_rfl) (by kernel_rfl) (by kernel_rfl) (fun _ _ _ h=>h) (Or.inl ⟨by rfl,?_⟩) hHeld ?_
          ·(intro w' hSw;(try dsimp only at hSw);go_split_ands;go_simp;first|done|with_reducible rfl|rw[hxy'])
          try simp only[Act.put,S0,S1,S2]
          refine tq0 29 hHeld ?_
          try simp only[Act.put,S0,S1,S2]
          refine tq0 30 hHeld ?_
          try simp only[Act.put,S0,S1,S2]
          refine wpAnyH_done (by kernel_rfl) ?_ _
          refine NoPanic.normal ?_
          have hbq:Below w.heap.size w wq:=(hbr.trans (hW.mono hsr)).trans (hb1.mono (show w.heap.size≤W1.heap.size from by omega))
          go_wp2
          go_roundg (n - (j+1+1))
          case measure=>omega
          case rel=>exact ⟨j+1+1,by omega,by go_num,hnear.step hkm (by rw[HX.out];exact HO.out) (fun i hi=>by have e0:i=j:=(by omega);subst e0;rw[HX.out,HY.out];intro e;exact HNE.out (by rw[e])),(hown.below (hW.trans (hb1.mono (show wr.heap.size≤W1.heap.size from by omega)))),hbq,by have:=hb1.size;omega⟩
       ·have s2' : (16:Int)<(x.2.size:Int):=by omega
        have HO:Hid (okL x=false):=by unfold Hid;rw[hok,decide_eq_true s1,decide_eq_false s2];rfl
        clear hok HB s1 s2
        go_wp2_with fail
        generalize wr.alloc (.cells #[.string x.1,.string x.2] 83)=W1 at f0 f1 hW hWs ⊢
        refine wp_region_noPanic ?_
        refine wp_region_held_drew (S:=fun w'=>w'.cell? ⟨wr.heap.size,0,none⟩=some (.string x.1)∧w'.cell? ⟨wr.heap.size,1,none⟩=some (.string x.2)) (by kernel_rfl) ?_ (fun hHeld => ?_)
        ·(exact ⟨f0,f1⟩)
        refine tq0 0 hHeld ?_
        try simp only[Act.put,S0,S1,S2]
        refine tq0 1 hHeld ?_
        try simp only[Act.put,S0,S1,S2]
        refine wpAnyH_ready (rs := [2]) (by kernel_rfl) (by simp) ?_
        refine AllReadyH.cons (tqi rfl) (fun K hK => ?_) AllReadyH.nil
        go_simp
        refine (hN _ HSZ.out).out.mono ?_
        rintro en wq ⟨rfl,hb1⟩
        have hb1:=below_undrew hb1
        go_wp2_with fail
        refine hK.out _ _ ?_ ?_
        ·(exact ⟨(hb1.cell hWs).trans f0,(hb1.cell hWs).trans f1⟩)
        clear hK K hHeld;intro hHeld
        try simp only[Act.put,S0,S1,S2]
        refine tq0 3 hHeld ?_
        try simp only[Act.put,S0,S1,S2]
        refine tq0 4 hHeld ?_
        try simp only[Act.put,S0,S1,S2]
        refine tq0 5 hHeld ?_
        try simp only[Act.put,S0,S1,S2]
        refine tq0 6 hHeld ?_
        try simp only[Act.put,S0,S1,S2]
        refine tq0 7 hHeld ?_
        try simp only[Act.put,S0,S1,S2]
        refine wpAnyH_take (i:=8) (v:=(.bool false)) (tqi rfl) (by kernel_rfl) (by kernel_rfl) (by kernel_rfl) (fun _ _ _ h=>h) (Or.inl ⟨by rfl,?_⟩) hHeld ?_
        ·(intro w' hSw;(try dsimp only at hSw);go_split_ands;go_simp;first|done|with_reducible rfl|simp;omega)
        try simp only[Act.put,S0,S1,S2]
        refine tq0 9 hHeld ?_
        try simp only[Act.put,S0,S1,S2]
        refine tq0 10 hHeld ?_
        try simp only[Act.put,S0,S1,S2]
        refine tq0 11 hHeld ?_
        try simp only[Act.put,S0,S1,S2]
        refine tq0 12 hHeld ?_
        try simp only[Act.put,S0,S1,S2]
        refine tq0 13 hHeld ?_
        try simp only[Act.put,S0,S1,S2]
        refine wpAnyH_take (i:=14) (v:=(.bool true)) (tqi rfl) (by kernel_rfl) (by kernel_rfl) (by kernel_rfl) (fun _ _ _ h=>h) (Or.inl ⟨by rfl,?_⟩) hHeld ?_
        ·(intro w' hSw;(try dsimp only at hSw);go_split_ands;go_simp;first|done|with_reducible rfl|simp;omega)
        try simp only[Act.put,S0,S1,S2]
        refine tq0 15 hHeld ?_
        try simp only[Act.put,S0,S1,S2]
        refine tq0 16 hHeld ?_
        try simp only[Act.put,S0,S1,S2]
        refine tq1 17 hHeld ?_
        try simp only[Act.put,S0,S1,S2]
        refine tq1 18 hHeld ?_
        try simp only[Act.put,S0,S1,S2]
        refine tq1 19 hHeld ?_
        try simp only[Act.put,S0,S1,S2]
        refine tq1 20 hHeld ?_
        try simp only[Act.put,S0,S1,S2]
        refine tq1 21 hHeld ?_
        try simp only[Act.put,S0,S1,S2]
        refine tq1 22 hHeld ?_
        try simp only[Act.put,S0,S1,S2]
        refine tq1 23 hHeld ?_
        try simp only[Act.put,S0,S1,S2]
        refine tq1 24 hHeld ?_
        try simp only[Act.put,S0,S1,S2]
        refine tq1 25 hHeld ?_
        try simp only[Act.put,S0,S1,S2]
        refine tq1 26 hHeld ?_
        try simp only[Act.put,S0,S1,S2]
        refine tq1 27 hHeld ?_
        try simp only[Act.put,S0,S1,S2]
        refine tq1 28 hHeld ?_
        try simp only[Act.put,S0,S1,S2]
        refine tq1 29 hHeld ?_
        try simp only[Act.put,S0,S1,S2]
        refine tq0 30 hHeld ?_
        try simp only[Act.put,S0,S1,S2]
        refine wpAnyH_done (by kernel_rfl) ?_ _
        refine NoPanic.normal ?_
        have hbq:Below w.heap.size w wq:=(hbr.trans (hW.mono hsr)).trans (hb1.mono (show w.heap.size≤W1.heap.size from by omega))
        go_wp2
        go_ret2
        exact CanonOut.bad (not_may_bad hp hkm (by rw[HX.out];exact HO.out)) hbq
      ·have s1' : (x.2.size:Int)<1:=by omega
       have HO:Hid (okL x=false):=by unfold Hid;rw[hok,decide_eq_false s1];rfl
       clear hok HB s1
       go_wp2_with fail
       generalize wr.alloc (.cells #[.string x.1,.string x.2] 83)=W1 at f0 f1 hW hWs ⊢
       refine wp_region_noPanic ?_
       refine wp_region_held_drew (S:=fun w'=>w'.cell? ⟨wr.heap.size,0,none⟩=some (.string x.1)∧w'.cell? ⟨wr.heap.size,1,none⟩=some (.string x.2)) (by kernel_rfl) ?_ (fun hHeld => ?_)
       ·(exact ⟨f0,f1⟩)
       refine tq0 0 hHeld ?_
       try simp only[Act.put,S0,S1,S2]
       refine tq0 1 hHeld ?_
       try simp only[Act.put,S0,S1,S2]
       refine wpAnyH_ready (rs := [2]) (by kernel_rfl) (by simp) ?_
       refine AllReadyH.cons (tqi rfl) (fun K hK => ?_) AllReadyH.nil
       go_simp
       refine (hN _ HSZ.out).out.mono ?_
       rintro en wq ⟨rfl,hb1⟩
       have hb1:=below_undrew hb1
       go_wp2_with fail
       refine hK.out _ _ ?_ ?_
       ·(exact ⟨(hb1.cell hWs).trans f0,(hb1.cell hWs).trans f1⟩)
       clear hK K hHeld;intro hHeld
       try simp only[Act.put,S0,S1,S2]
       refine tq0 3 hHeld ?_
       try simp only[Act.put,S0,S1,S2]
       refine tq0 4 hHeld ?_
       try simp only[Act.put,S0,S1,S2]
       refine tq0 5 hHeld ?_
       try simp only[Act.put,S0,S1,S2]
       refine tq0 6 hHeld ?_
       try simp only[Act.put,S0,S1,S2]
       refine tq0 7 hHeld ?_
       try simp only[Act.put,S0,S1,S2]
       refine wpAnyH_take (i:=8) (v:=(.bool true)) (tqi rfl) (by kernel_rfl) (by kernel_rfl) (by kernel_rfl) (fun _ _ _ h=>h) (Or.inl ⟨by rfl,?_⟩) hHeld ?_
       ·(intro w' hSw;(try dsimp only at hSw);go_split_ands;go_simp;first|done|with_reducible rfl|simp;omega)
       try simp only[Act.put,S0,S1,S2]
       refine tq0 9 hHeld ?_
       try simp only[Act.put,S0,S1,S2]
       refine tq0 10 hHeld ?_
       try simp only[Act.put,S0,S1,S2]
       refine tq1 11 hHeld ?_
       try simp only[Act.put,S0,S1,S2]
       refine tq1 12 hHeld ?_
       try simp only[Act.put,S0,S1,S2]
       refine tq1 13 hHeld ?_
       try simp only[Act.put,S0,S1,S2]
       refine tq1 14 hHeld ?_
       try simp only[Act.put,S0,S1,S2]
       refine tq0 15 hHeld ?_
       try simp only[Act.put,S0,S1,S2]
       refine tq0 16 hHeld ?_
       try simp only[Act.put,S0,S1,S2]
       refine tq1 17 hHeld ?_
       try simp only[Act.put,S0,S1,S2]
       refine tq1 18 hHeld ?_
       try simp only[Act.put,S0,S1,S2]
       refine tq1 19 hHeld ?_
       try simp only[Act.put,S0,S1,S2]
       refine tq1 20 hHeld ?_
       try simp only[Act.put,S0,S1,S2]
       refine tq1 21 hHeld ?_
       try simp only[Act.put,S0,S1,S2]
       refine tq1 22 hHeld ?_
       try simp only[Act.put,S0,S1,S2]
       refine tq1 23 hHeld ?_
       try simp only[Act.put,S0,S1,S2]
       refine tq1 24 hHeld ?_
       try simp only[Act.put,S0,S1,S2]
       refine tq1 25 hHeld ?_
       try simp only[Act.put,S0,S1,S2]
       refine tq1 26 hHeld ?_
       try simp only[Act.put,S0,S1,S2]
       refine tq1 27 hHeld ?_
       try simp only[Act.put,S0,S1,S2]
       refine tq1 28 hHeld ?_
       try simp only[Act.put,S0,S1,S2]
       refine tq1 29 hHeld ?_
       try simp only[Act.put,S0,S1,S2]
       refine tq0 30 hHeld ?_
       try simp only[Act.put,S0,S1,S2]
       refine wpAnyH_done (by kernel_rfl) ?_ _
       refine NoPanic.normal ?_
       have hbq:Below w.heap.size w wq:=(hbr.trans (hW.mono hsr)).trans (hb1.mono (show w.heap.size≤W1.heap.size from by omega))
       go_wp2
       go_ret2
       exact CanonOut.bad (not_may_bad hp hkm (by rw[HX.out];exact HO.out)) hbq
    ·have hkn:k=n:=by omega
     obtain ⟨hmay,hsort⟩:=(show Near m n from hkn ▸ hnear).end_ (l:=ls) HM.out h1 h6 hp hw
     have HMAY:=Lib.hid hmay
     have HSORT:=Lib.hid hsort
     clear hmay hsort
     clear HM
     subst hkn
     go_wp2
     go_ret2
     exact ⟨_,0,rfl,hbr,.inl ⟨HMAY.out,rfl,by rw[HSORT.out];exact hown⟩⟩
  ·have i6:(6:Int)<(n:Int):=by omega
   have i1:(1:Int)≤(n:Int):=by omega
   have hm:¬ MayL ls:=fun h=>by have:=h.few;omega
   clear hn
   go_enter Tryz.func45,Tryz.ntmps45
   go_wp2
   go_ret2
   exact CanonOut.bad hm (Below.refl _ _)
 ·have i1:(n:Int)<1:=by omega
  have hm:¬ MayL ls:=fun h=>by have:=h.some;omega
  clear hn
  go_enter Tryz.func45,Tryz.ntmps45
  go_wp2
  go_ret2
  exact CanonOut.bad hm (Below.refl _ _)
end
section
open Go.RowKit
theorem takeL_step {m:List Lb}{k:Nat}(hk:k<m.length):m.take k ++ [m[k]]=m.take (k+1):=by
 rw[List.take_add_one,List.getElem?_eq_getElem hk];rfl
end
section
open Go.RowKit
def marsh (l:List Lb):List UInt8:=l.flatMap fun x=>esc x.1.data.toList++esc x.2.data.toList
theorem marsh_take {m:List Lb}{k:Nat}(hk:k<m.length):marsh (m.take (k+1))=marsh (m.take k)++esc m[k].1.data.toList++esc m[k].2.data.toList:=by
 rw[←takeL_step hk,marsh,marsh,List.flatMap_append,List.append_assoc]
 simp
theorem okL_size {x:Lb}(h:okL x=true):1≤x.1.size∧x.1.size≤12∧1≤x.2.size∧x.2.size≤16:=by
 unfold okL nameB at h
 simp only[Bool.and_eq_true,decide_eq_true_eq] at h
 exact ⟨h.1.1.1.1,h.1.1.1.2,h.1.2,h.2⟩
theorem onto_cell {w w' : World}{v v' : Value}(h:Onto w w' v v') {p:Addr}(hp:p.block<w.heap.size) (hn:some p.block≠v.ownBlock):w'.cell? p=w.cell? p :=
 World.cell?_of_block (h.grown.block _ hp hn)
def MarshOut (w:World) (ls:List Lb) (e:Ending) (w' : World):Prop :=
 ∃(v:Value) (k:Nat),e = .returned (.tuple #[v,.int .i64 k])∧Below w.heap.size w w'∧((MayL ls∧k=0∧OwnB w' w.heap.size v (marsh (sortN ls)))∨(¬ MayL ls∧k=70∧v = .slice none 0 0))
theorem Marshal_any (A:Option Addr) (n c:Nat) (ls:List Lb) (hn:ls.length=n) (w:World) (hS:Sees w w.heap.size A (lv ls)) (hlen:n≤1099511627776) (hsz:∀x∈ls,x.1.size≤9223372036854775807) :
  Calls Tryz.prog 90 #[.slice A n c] w (MarshOut w ls):=by
 have hC:=Lib.hid (Canon_any A n c ls hn w hS hlen hsz)
 clear hS hsz
 go_enter Tryz.func90,Tryz.ntmps90
 go_wp2_with fail
 refine hC.out.mono ?_
 rintro en w2 ⟨v,kk,rfl,hB,hres⟩
 clear hC
 rcases hres with ⟨hmay,rfl,hown⟩|⟨hno,rfl,rfl⟩
 ·obtain ⟨m,hm⟩:∃m,sortN ls=m:=⟨_,rfl⟩
  have hmm:MayL m:=hm ▸ hmay.sort
  have hml:m.length=n:=by rw[←hm,sortN_length,hn]
  have HM:=Lib.hid hm
  rw[hm] at hown
  have HMAY:=Lib.hid hmay
  have HMM:=Lib.hid hmm
  have HML:=Lib.hid hml
  have hn6:n≤6:=hml ▸ hmm.few
  have hB2:=hB.size
  obtain ⟨A2,c2,he, -, -,hS2⟩:=hown.open_
  rw[hml] at he
  subst he
  clear hm hmay hmm hml hown hn
  go_wp2_with fail
  go_loopg [6,19] n (fun g b i wr=>∃k:Nat,k+g=n∧i = .int .i64 k∧OwnB wr w2.heap.size b (marsh (m.take k))∧(marsh (m.take k)).length≤100*k∧Below w2.heap.size w2 wr)
  case atStart=>exact ⟨0,by omega,rfl,OwnB.nil _ _,by simp[marsh],Below.refl _ _⟩
  case round =>
   obtain ⟨k,hk,rfl,hown,hle,hbr⟩:=hrel
   have hsr:=hbr.size
   by_cases hlt:k<n
   ·have hkm:k<m.length:=by have:=HML.out;omega
    obtain ⟨ad,rfl,hadB,hc0,hc1⟩:=(hS2.below hbr).lb (k:=k) hkm
    have hsz:=okL_size (HMM.out.ok _ (List.getElem_mem hkm))
    have htk:=marsh_take hkm
    generalize m[k]=x at hc0 hc1 hsz htk
    generalize marsh (m.take k)=X at hown hle htk
    obtain ⟨x1,x2⟩:=x
    have HTK:=Lib.hid htk
    have h1:x1.size≤1099511627776:=by have:=hsz.2.1;simp only at this;omega
    have h2:x2.size≤1099511627776:=by have:=hsz.2.2.2;simp only at this;omega
    have l1:(esc x1.data.toList).length≤25:=by have:=esc_len x1.data.toList;have h3:x1.size≤12:=hsz.2.1;simp only[Array.length_toList] at this;have:x1.data.size=x1.size:=rfl;omega
    have l2:(esc x2.data.toList).length≤33:=by have:=esc_len x2.data.toList;have h3:x2.size≤16:=hsz.2.2.2;simp only[Array.length_toList] at this;have:x2.data.size=x2.size:=rfl;omega
    have H1:=Lib.hid h1
    have H2:=Lib.hid h2
    have L1:=Lib.hid l1
    have L2:=Lib.hid l2
    clear htk hsz h1 h2 l1 l2
    go_wp2_with fail
    have f0:(wr.alloc (.cells #[.string x1,.string x2] 83)).cell? ⟨wr.heap.size,0,none⟩=some (.string x1):=by rw[World.cell?_alloc_at _ _ _ _ rfl];rfl
    have f1:(wr.alloc (.cells #[.string x1,.string x2] 83)).cell? ⟨wr.heap.size,1,none⟩=some (.string x2):=by rw[World.cell?_alloc_at _ _ _ _ rfl];rfl
    have hW:Below wr.heap.size wr (wr.alloc (.cells #[.string x1,.string x2] 83)):=(Below.refl _ _).alloc (Nat.le_refl _) _
    have hWs:wr.heap.size<(wr.alloc (.cells #[.string x1,.string x2] 83)).heap.size:=by simp
    have hownW:=hown.alloc (.cells #[.string x1,.string x2] 83)
    have hne:some wr.heap.size≠u6.ownBlock:=fun e=>by have:=(World.ownsRow.lt hown _ e.symm).2;omega
    have hblk:=hown.block
    generalize wr.alloc (.cells #[.string x1,.string x2] 83)=W1 at f0 f1 hW hWs hownW ⊢
    refine wp_region_noPanic ?_
    refine wp_region_held_drew (S:=fun w'=>w'.cell? ⟨wr.heap.size,0,none⟩=some (.string x1)∧w'.cell? ⟨wr.heap.size,1,none⟩=some (.string x2)) (by kernel_rfl) ?_ (fun hHeld => ?_)
    ·(exact ⟨f0,f1⟩)
    refine tq0 0 hHeld ?_
    try simp only[Act.put,S0,S1,S2]
    refine tq0 1 hHeld ?_
    try simp only[Act.put,S0,S1,S2]
    refine tq0 2 hHeld ?_
    try simp only[Act.put,S0,S1,S2]
    refine tq0 4 hHeld ?_
    try simp only[Act.put,S0,S1,S2]
    refine tq0 5 hHeld ?_
    try simp only[Act.put,S0,S1,S2]
    refine wpAnyH_ready (rs := [3]) (by kernel_rfl) (by simp) ?_
    refine AllReadyH.cons (tqi rfl) (fun K hK => ?_) AllReadyH.nil
    go_simp
    refine (escape_any w2.heap.size u6 X x1 (W1.drewN 1) (show OwnB (W1.drewN 1) _ _ _ from hownW) (show w2.heap.size≤W1.heap.size from by omega) (by omega) H1.out).mono ?_
    rintro en wa ⟨v1,rfl,hown1,hon1⟩
    have hsa:W1.heap.size≤wa.heap.size:=hon1.size
    go_wp2_with fail
    refine hK.out _ _ ?_ ?_
    ·(exact ⟨(onto_cell hon1 hWs hne).trans f0,(onto_cell hon1 hWs hne).trans f1⟩)
    clear hK K hHeld;intro hHeld
    try simp only[Act.put,S0,S1,S2]
    refine wpAnyH_ready (rs := [6]) (by kernel_rfl) (by simp) ?_
    refine AllReadyH.cons (tqi rfl) (fun K hK => ?_) AllReadyH.nil
    go_simp
    refine (escape_any w2.heap.size v1 _ x2 wa hown1 (by omega) (by rw[List.length_append];have:=L1.out;omega) H2.out).mono ?_
    rintro en wb ⟨v2,rfl,hown2,hon2⟩
    go_wp2_with fail
    refine hK.out _ _ ?_ ?_
    ·(exact ⟨(onto_cell (hon1.trans hon2) hWs hne).trans f0,(onto_cell (hon1.trans hon2) hWs hne).trans f1⟩)
    clear hK K hHeld;intro hHeld
    try simp only[Act.put,S0,S1,S2]
    refine tq0 7 hHeld ?_
    try simp only[Act.put,S0,S1,S2]
    refine wpAnyH_done (by kernel_rfl) ?_ _
    refine NoPanic.normal ?_
    go_wp2
    go_roundg (n - (k+1))
    case measure=>omega
    case rel=>exact ⟨k+1,by omega,by go_num,by rw[HTK.out];exact hown2,by rw[HTK.out,List.length_append,List.length_append];have:=L1.out;have:=L2.out;omega,hbr.trans ((hW.mono hsr).trans (below_undrew (show Below _ W1.drew wb from (hon1.trans hon2).below (show w2.heap.size≤W1.heap.size from by omega) hblk)))⟩
   ·have hkn:k=n:=by omega
    have htk:m.take k=m:=List.take_of_length_le (by have:=HML.out;omega)
    rw[htk] at hown
    clear htk hle
    subst hkn
    go_wp2
    go_ret2
    exact ⟨u6,0,rfl,hB.trans (hbr.mono hB2),.inl ⟨HMAY.out,rfl,by rw[HM.out];exact hown.base_le hB2⟩⟩
 ·clear hn
  go_wp2
  go_ret2
  exact ⟨_,70,rfl,hB,.inr ⟨hno,rfl,rfl⟩⟩
end
end Go.Proofs.YtalmnodgjjcefaaGreatDoor
