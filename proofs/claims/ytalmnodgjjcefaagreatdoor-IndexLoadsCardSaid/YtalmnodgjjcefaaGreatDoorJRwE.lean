/- Several texts in one: RwAll. -/
import Derived.Test.YtalmnodgjjcefaaGreatDoorJRwA
import Derived.Test.YtalmnodgjjcefaaGreatDoorJRwB
import Derived.Test.YtalmnodgjjcefaaGreatDoorJKmC
import Derived.Test.YtalmnodgjjcefaaGreatDoorJTgB
set_option maxRecDepth 100000
set_option maxHeartbeats 6400000
namespace Go.Proofs.YtalmnodgjjcefaaGreatDoor
section
open Go.RowKit KB
structure RQ where
 k:Int
 full:Bool
 x:Lb
 d:Int
def rq (V:Value) (i:Int) (q:RQ):List Value := [.int .i64 q.k,(if q.full then V else .slice none 0 0),.string q.x.1,.string q.x.2,.int .i64 q.d,.int .i64 i]
def rv (V:Value) (i:Int) (l:List RQ):List Value:=l.flatMap (rq V i)
theorem rv_length (V:Value) (i:Int) (l:List RQ):(rv V i l).length=l.length*6:=by
 induction l with
 | nil=>rfl
 | cons x t ih=>rw[show rv V i (x :: t)=rq V i x++rv V i t from rfl,List.length_append,ih,List.length_cons,show (rq V i x).length=6 from rfl];omega
theorem rv_append (V:Value) (i:Int) (l m:List RQ):rv V i (l++m)=rv V i l++rv V i m:=by simp[rv]
theorem rv_one (A:Option Addr) (n c:Nat) (i:Int) (l:List RQ):∀u∈rv (.slice A n c) i l,u.oneCell'=true:=by
 intro u hu
 simp only[rv,List.mem_flatMap] at hu
 obtain ⟨q,_,hu⟩:=hu
 simp only[rq,List.mem_cons,List.not_mem_nil,or_false] at hu
 rcases hu with rfl|rfl|rfl|rfl|rfl|rfl
 ·rfl
 ·split<;>rfl
 ·rfl
 ·rfl
 ·rfl
 ·rfl
theorem rv_at (V:Value) (i:Int):∀(l:List RQ) (k:Nat) (h:k<l.length) (j:Nat),j<6→(rv V i l)[k*6+j]?=(rq V i l[k])[j]?
 | [],k,h,_,_=>by simp at h
 | x :: t,0,h,j,hj=>by
  rw[Nat.zero_mul,Nat.zero_add]
  show (rq V i x++rv V i t)[j]?=_
  rw[List.getElem?_append_left (by simp[rq];omega)]
  rfl
 | x :: t,k+1,h,j,hj=>by
  show (rq V i x++rv V i t)[(k+1)*6+j]?=_
  have hl:(rq V i x).length=6:=rfl
  rw[List.getElem?_append_right (by omega),hl,show (k+1)*6+j - 6=k*6+j from by omega]
  exact rv_at V i t k (by simp at h;omega) j hj
theorem Sees.rq {w:World}{B:Nat}{A:Option Addr}{V:Value}{i:Int}{l:List RQ}(h:Sees w B A (rv V i l)) {k:Nat}(hk:k<l.length):∃ad,A=some ad∧ad.block<B∧w.cell? (ad.add (k*6))=some (.int .i64 l[k].k) ∧
  w.cell? ⟨(ad.add (k*6)).block,(ad.add (k*6)).off+1,none⟩=some (if l[k].full then V else .slice none 0 0)∧w.cell? ⟨(ad.add (k*6)).block,(ad.add (k*6)).off+2,none⟩=some (.string l[k].x.1)∧w.cell? ⟨(ad.add (k*6)).block,(ad.add (k*6)).off+3,none⟩=some (.string l[k].x.2) ∧
  w.cell? ⟨(ad.add (k*6)).block,(ad.add (k*6)).off+4,none⟩=some (.int .i64 l[k].d)∧w.cell? ⟨(ad.add (k*6)).block,(ad.add (k*6)).off+5,none⟩=some (.int .i64 i):=by
 rcases h.out with h|⟨ad,e,hb,hc⟩
 ·have:=rv_length V i l
  rw[h] at this
  simp at this
  omega
 ·refine ⟨ad,e,hb,hc _ _ (rv_at V i l k hk 0 (by omega)),?_,?_,?_,?_,?_⟩
  ·rw[←add_field ad _ 1 (by omega)];exact hc _ _ (rv_at V i l k hk 1 (by omega))
  ·rw[←add_field ad _ 2 (by omega)];exact hc _ _ (rv_at V i l k hk 2 (by omega))
  ·rw[←add_field ad _ 3 (by omega)];exact hc _ _ (rv_at V i l k hk 3 (by omega))
  ·rw[←add_field ad _ 4 (by omega)];exact hc _ _ (rv_at V i l k hk 4 (by omega))
  ·rw[←add_field ad _ 5 (by omega)];exact hc _ _ (rv_at V i l k hk 5 (by omega))
theorem Tryz.rinfo:(Tryz.prog.info? 92).map (fun i=>(i.zero,i.size,i.bytes))=some (some (.agg #[.int .i64 0,.slice none 0 0,.string ⟨#[]⟩,.string ⟨#[]⟩,.int .i64 0,.int .i64 0]),6,80):=by kernel_rfl
def OwnW (w:World) (base:Nat) (v:Value) (V:Value) (i:Int) (l:List RQ):Prop:=w.ownsRow base 92 6 v l.length (rv V i l)
theorem wpList_append_q {w:World}{ops:Array Oper}{rest:List Oper}{o:Oper}{a:Act}{Q:Exit→Act→World→Prop}(hgd:o.guard=none) (s x:Operand)
  (ho:o.op = .call { callee := .builtin .append,args := #[s,x],argTypes := #[139,139] })
  (base:Nat) (v:Value) (An:Option Addr) (nn cn:Nat) (i:Int) (l:List RQ) (hs:a.eval s=v) (hown:OwnW w base v (.slice An nn cn) i l) (B:Nat) (A:Option Addr) (c:Nat) (q:RQ) (hx:a.eval x = .slice A 1 c) (hsee:Sees w B A (Go.Proofs.YtalmnodgjjcefaaGreatDoor.rq (.slice An nn cn) i q))
  (h63:l.length≤100000) (hbase:base≤w.heap.size)
  (h:∀v' w',OwnW w' base v' (.slice An nn cn) i (l ++ [q])→Onto w w' v v'→wpList Tryz.prog ops Q rest (a.put o.dst v') w'):wpList Tryz.prog ops Q (o :: rest) a w:=by
 obtain ⟨i0,hi0,hz0,hz1,hz2⟩:=info_partsL Tryz.rinfo
 refine wpList_append_v hgd s x _ ho 92 i0 _ 6 80 Tryz.underlying139 hi0 hz0 hz1 hz2 rfl (by omega) base v l.length (rv (.slice An nn cn) i l) hs hown B A 1 c (Go.Proofs.YtalmnodgjjcefaaGreatDoor.rq (.slice An nn cn) i q) hx rfl hsee (fun u hu=>rv_one An nn cn i [q] u (by simpa[rv] using hu)) (by simp only[maxLen];omega) (by omega) hbase fun v' w' h2 h3=>h v' w' ?_ h3
 unfold OwnW
 rw[rv_append,List.length_append,List.length_singleton,show rv (.slice An nn cn) i [q]=Go.Proofs.YtalmnodgjjcefaaGreatDoor.rq (.slice An nn cn) i q from by simp[rv]]
 exact h2
theorem OwnW.below {w w' : World}{base:Nat}{v V:Value}{i:Int}{l:List RQ}(h:OwnW w base v V i l) (hb:Below w.heap.size w w'):OwnW w' base v V i l:=own_below h hb
theorem OwnW.alloc {w:World}{base:Nat}{v V:Value}{i:Int}{l:List RQ}(h:OwnW w base v V i l) (o:Obj):OwnW (w.alloc o) base v V i l:=World.ownsRow.alloc h o
theorem OwnW.block {w:World}{base:Nat}{v V:Value}{i:Int}{l:List RQ}(h:OwnW w base v V i l):∀k,v.ownBlock=some k→base≤k∧k<w.heap.size:=fun k hk=>World.ownsRow.lt h k hk
theorem OwnW.open_ {w:World}{base:Nat}{v V:Value}{i:Int}{l:List RQ}(h:OwnW w base v V i l):∃A c,v = .slice A l.length c∧l.length≤c∧c≤maxLen∧Sees w w.heap.size A (rv V i l):=own_open h
def perL (days:List Int) (x:Lb):List RQ:=⟨3,false,x,0⟩ :: days.map fun d=>⟨4,false,x,d⟩
def wants (ls:List Lb) (days:List Int):List RQ := [⟨1,true,lb0,0⟩,⟨2,true,lb0,0⟩]++ls.flatMap (perL days)
def rowOf (ls:List Lb) (i:Int) (q:RQ):RowP:=⟨q.k,if q.full then ls else [],q.x,q.d,i⟩
def itemsOf (ls:List Lb) (i:Int) (l:List RQ):List (List UInt8):=l.map fun q=>makeR (rowOf ls i q)
theorem perL_len (days:List Int) (x:Lb):(perL days x).length=days.length+1:=by simp[perL]
theorem wants_len (ls:List Lb) (days:List Int):(wants ls days).length=2+ls.length*(days.length+1):=by
 unfold wants
 rw[List.length_append]
 congr 1
 induction ls with
 | nil=>simp
 | cons x t ih=>rw[List.flatMap_cons,List.length_append,ih,perL_len,List.length_cons,Nat.succ_mul];omega
theorem flat_take {ls:List Lb}{k:Nat}(h:k<ls.length) (days:List Int):(ls.take (k+1)).flatMap (perL days)=(ls.take k).flatMap (perL days)++perL days ls[k]:=by
 rw[List.take_add_one,List.getElem?_eq_getElem h,List.flatMap_append];simp
def dv (l:List Int):List Value:=l.map (.int .i64)
theorem dv_cell {w:World}{B:Nat}{A:Option Addr}{l:List Int}(h:Sees w B A (dv l)) {k:Nat}(hk:k<l.length):∃ad,A=some ad∧ad.block<B∧w.cell? (ad.add k)=some (.int .i64 l[k]):=by
 rcases h.out with h|⟨ad,e,hb,hc⟩
 ·have:=congrArg List.length h
  rw[show (dv l).length=l.length from List.length_map ..,List.length_nil] at this
  omega
 ·exact ⟨ad,e,hb,hc k _ (by simp[dv,hk])⟩
def AllRowsQ (w:World) (ls:List Lb) (i:Int) (days:List Int) (e:Ending) (w' : World):Prop :=
 ∃(A:Option Addr) (n c k:Nat) (L:List (List UInt8)),e = .returned (.tuple #[.slice A n c,.int .i64 k])∧Below w.heap.size w w'∧L.length=n∧OwnQ (fun j=>w.heap.size≤j∧j<w'.heap.size) w' w.heap.size (.slice A n c) L ∧
  (((∀q∈wants ls days,MayR (rowOf ls i q))∧k=0∧L=uniqL ahead (itemsOf ls i (wants ls days)))∨(¬ (∀q∈wants ls days,MayR (rowOf ls i q))∧k=120∧L = []))
theorem itemsQ_1 {w:World}{A:Option Addr}{n c:Nat}{a:List Item}(h:BRow w A n c a) (bb:Nat) (hbb:w.heap.size=bb):Calls Tryz.prog 88 #[.slice (some ⟨bb,0,none⟩) 1 1] (w.alloc (.cells #[.slice A n c] 47)) (QIs w (uniqL ahead a)):=by
 have h1:=h.len
 have h0:=h.few
 have hS:Sees3 (w.alloc (.cells #[.slice A n c] 47)) (bb+1) (some ⟨bb,0,none⟩) [a]:=Sees3.new _ _ hbb _ _ _ fun i hi=>by
  subst hbb
  match i,hi with
  | 0,_=>exact ⟨A,c,by rw[←h1];rfl,by show a.length≤c;rw[h1];exact h.cap,h.sees⟩
 have:=Items_q (some ⟨bb,0,none⟩) 1 1 [a] _ (hS.more (by simp;omega)) rfl (by omega) (by simp;omega) (by simp;exact h.short)
 rw[show [a].flatten=a from by simp] at this
 exact this.mono fun e w' ⟨v,g1,g2,g3⟩=>⟨v,g1,(g2.mono fun k e=>⟨by have:=e.1;simp at this;omega,e.2⟩).base_le (by simp),(below_newB w _).trans (g3.mono (by simp))⟩
theorem sees_cells (w:World) (b:Nat) (hb:w.heap.size=b) (xs:List Value) (t:TypeId) (cs:Array Value) (h:cs=xs.toArray):Sees (w.alloc (.cells cs t)) (b+1) (some ⟨b,0,none⟩) xs:=by
 subst hb
 subst h
 refine ⟨.inr ⟨_,rfl,by simp,fun j u hu => ?_⟩⟩
 rw[Addr.add_lit,World.cell?_alloc_at _ _ _ _ rfl]
 simpa using hu
theorem wants_x {ls:List Lb}{days:List Int}{q:RQ}(h:q∈wants ls days):q.x=lb0∨q.x∈ls:=by
 unfold wants at h
 rcases List.mem_append.1 h with h|h
 ·simp at h
  rcases h with rfl|rfl<;>exact .inl rfl
 ·obtain ⟨x,hx,hq⟩:=List.mem_flatMap.1 h
  unfold perL at hq
  rcases List.mem_cons.1 hq with rfl|hq
  ·exact .inr hx
  ·obtain ⟨d,_,rfl⟩:=List.mem_map.1 hq
   exact .inr hx
theorem own_ne {w w' : World}{v v' : Value}{H:Nat}(ho:Onto w w' v v') (hn:v.ownBlock≠some H) (hH:H<w.heap.size):v'.ownBlock≠some H:=by
 rcases ho.at_ with h|⟨g,h,h2⟩
 ·rw[h];exact hn
 ·rw[h];intro e;injection e;omega
theorem AllRow_any (A A2:Option Addr) (n c m c2:Nat) (ls:List Lb) (days:List Int) (hn:ls.length=n) (hm:days.length=m) (i:Int) (w:World) (hS:Sees w w.heap.size A (lv ls)) (hD:Sees w w.heap.size A2 (dv days)) (hn10:n≤100) (hm20:m≤20) (hsz:∀x∈ls,x.1.size≤9223372036854775807) :
  Calls Tryz.prog 46 #[.slice A n c,.int .i64 i,.slice A2 m c2] w (AllRowsQ w ls i days):=by
 have HN:=Lib.hid hn
 have HM:=Lib.hid hm
 have HSZ:=Lib.hid hsz
 obtain ⟨W1,hW1⟩:∃W1,w.alloc (.cells #[.int .i64 1,.slice A n c,.string ⟨#[]⟩,.string ⟨#[]⟩,.int .i64 0,.int .i64 i,.int .i64 2,.slice A n c,.string ⟨#[]⟩,.string ⟨#[]⟩,.int .i64 0,.int .i64 i] 92)=W1:=⟨_,rfl⟩
 have hb1:Below w.heap.size w W1:=hW1 ▸ KI_new w _
 have hown0:OwnW W1 w.heap.size (.slice (some ⟨w.heap.size,0,none⟩) 2 2) (.slice A n c) i [⟨1,true,lb0,0⟩,⟨2,true,lb0,0⟩]:=by
  rw[←hW1]
  exact own_new w w.heap.size (Nat.le_refl _) _ 6 2 _ rfl (by simp[maxLen]) _ rfl
 have HOWN:=Lib.hid hown0
 clear hn hm hsz hown0
 go_enter Tryz.func46,Tryz.ntmps46
 go_wp2_with fail
 go_loopg [8,27] n (fun g v z wr=>∃k:Nat,k+g=n∧z = .int .i64 k∧OwnW wr w.heap.size v (.slice A n c) i ([⟨1,true,lb0,0⟩,⟨2,true,lb0,0⟩]++(ls.take k).flatMap (perL days))∧Below w.heap.size w wr)
 case atStart=>exact ⟨0,by omega,rfl,by simpa using HOWN.out,hb1⟩
 case round =>
  obtain ⟨k,hk,rfl,hown,hbr⟩:=hrel
  have hsr:=hbr.size
  clear hW1 hb1
  by_cases hlt:k<n
  ·have hkl:k<ls.length:=by have:=HN.out;omega
   obtain ⟨ad,rfl,hadB,hc0,hc1⟩:=(hS.below hbr).lb (k:=k) hkl
   have hft:=flat_take hkl days
   have hPl:(([⟨1,true,lb0,0⟩,⟨2,true,lb0,0⟩]:List RQ)++(ls.take k).flatMap (perL days)).length≤2+100*21:=by
    have h1:=wants_len (ls.take k) days
    unfold wants at h1
    rw[h1,List.length_take,HM.out]
    have:min k ls.length*(m+1)≤100*21:=Nat.mul_le_mul (by omega) (by omega)
    omega
   generalize ls[k]=x at hc0 hc1 hft
   obtain ⟨x1,x2⟩:=x
   have hpre:([⟨1,true,lb0,0⟩,⟨2,true,lb0,0⟩]:List RQ)++(ls.take (k+1)).flatMap (perL days)=([⟨1,true,lb0,0⟩,⟨2,true,lb0,0⟩]++(ls.take k).flatMap (perL days))++perL days (x1,x2):=by rw[hft,List.append_assoc]
   obtain ⟨P,hP⟩:∃P,([⟨1,true,lb0,0⟩,⟨2,true,lb0,0⟩]:List RQ)++(ls.take k).flatMap (perL days)=P:=⟨_,rfl⟩
   rw[hP] at hpre
   rw[hP] at hown hPl
   have HP:=Lib.hid hpre
   have HPL:=Lib.hid hPl
   obtain ⟨W2,hW2⟩:∃W2,wr.alloc (.cells #[.string x1,.string x2] 83)=W2:=⟨_,rfl⟩
   have hb2:Below wr.heap.size wr W2:=hW2 ▸ KI_new wr _
   have f0:W2.cell? ⟨wr.heap.size,0,none⟩=some (.string x1):=by rw[←hW2,World.cell?_alloc_at _ _ _ _ rfl];rfl
   have f1:W2.cell? ⟨wr.heap.size,1,none⟩=some (.string x2):=by rw[←hW2,World.cell?_alloc_at _ _ _ _ rfl];rfl
   have hs2:wr.heap.size<W2.heap.size:=by rw[←hW2];simp
   have hown2:OwnW W2 w.heap.size _ (.slice (some ad) n c) i P:=hown.below hb2
   have hnb:=hown.block
   have jn:(k:Int)<(n:Int):=by omega
   clear hft hpre hP hPl
   have hneL:u8.ownBlock≠some wr.heap.size:=fun e=>by have:=(hnb _ e).2;omega
   go_wp2_with (at_builtin;refine wpList_append_q rfl (.tmp 31) (.tmp 35) rfl w.heap.size _ (some ad) n c i P (by rfl) (hown2.alloc _) (W2.heap.size+1) _ 1 ⟨3,false,(x1,x2),0⟩ (by rfl) (sees_cells W2 _ rfl _ _ _ rfl) (by have:=HPL.out;omega) (by simp;omega) ?_;intro v3 w3 hown3 hon3)
   have hb3:Below w.heap.size W2 w3:=((Below.refl _ W2).alloc (by omega) _).trans (hon3.below (by simp;omega) (fun k e=>(hnb k e).1))
   have hb03:Below w.heap.size w w3:=hbr.trans ((hb2.mono hsr).trans hb3)
   have g0:w3.cell? ⟨wr.heap.size,0,none⟩=some (.string x1):=(onto_cell hon3 (by simp;omega) (fun e=>hneL e.symm)).trans (((KI_new W2 _).cell hs2).trans f0)
   have g1:w3.cell? ⟨wr.heap.size,1,none⟩=some (.string x2):=(onto_cell hon3 (by simp;omega) (fun e=>hneL e.symm)).trans (((KI_new W2 _).cell hs2).trans f1)
   have hn3:=own_ne hon3 hneL (by simp;omega)
   have hs3:wr.heap.size<w3.heap.size:=by have:=hon3.size;simp at this;omega
   have hD3:Sees wr wr.heap.size A2 (dv days):=(hD.below hbr).more hsr
   generalize wr.heap.size=Hl at f0 f1 hs2 hneL g0 g1 hn3 hs3
   clear hW2 hb2 f0 f1 hs2 hown2 hnb hneL hown hc0 hc1 hb3 hon3 hbr hsr hD3
   go_loopg [8,39] m (fun g v z wq=>∃j:Nat,j+g=m∧z = .int .i64 j∧OwnW wq w.heap.size v (.slice (some ad) n c) i (P ++ [⟨3,false,(x1,x2),0⟩]++(days.take j).map fun d=>⟨4,false,(x1,x2),d⟩)∧Below w.heap.size w wq∧wq.cell? ⟨Hl,0,none⟩=some (.string x1)∧wq.cell? ⟨Hl,1,none⟩=some (.string x2)∧v.ownBlock≠some Hl∧Hl<wq.heap.size)
   case atStart=>exact ⟨0,by omega,rfl,by simpa using hown3,hb03,g0,g1,hn3,hs3⟩
   case round =>
    obtain ⟨j,hj,rfl,hown,hbq,q0,q1,hnq,hlq⟩:=hrel
    have hsq:=hbq.size
    clear g0 g1 hn3 hs3 hown3 hb03
    by_cases hjl:j<m
    ·have hjd:j<days.length:=by have:=HM.out;omega
     obtain ⟨ad2,rfl, -,hdc⟩:=dv_cell (hD.below hbq) hjd
     have htk:(days.take (j+1)).map (fun d=>(⟨4,false,(x1,x2),d⟩:RQ))=(days.take j).map (fun d=>⟨4,false,(x1,x2),d⟩) ++ [⟨4,false,(x1,x2),days[j]⟩]:=by rw[List.take_add_one,List.getElem?_eq_getElem hjd,List.map_append];rfl
     have hPl2:(P ++ [(⟨3,false,(x1,x2),0⟩:RQ)]++(days.take j).map fun d=>(⟨4,false,(x1,x2),d⟩:RQ)).length≤3000:=by
      rw[List.length_append,List.length_append,List.length_map,List.length_take];have:=HPL.out;simp;omega
     generalize days[j]=dd at hdc htk
     have HTK:=Lib.hid htk
     obtain ⟨P2,hP2⟩:∃P2,P ++ [(⟨3,false,(x1,x2),0⟩:RQ)]++(days.take j).map (fun d=>(⟨4,false,(x1,x2),d⟩:RQ))=P2:=⟨_,rfl⟩
     rw[hP2] at hown hPl2
     have HP2:=Lib.hid hP2
     have HPL2:=Lib.hid hPl2
     have hnb:=hown.block
     have jn2:(j:Int)<(m:Int):=by omega
     clear htk hP2 hPl2
     go_wp2_with (at_builtin;refine wpList_append_q rfl (.tmp 43) (.tmp 48) rfl w.heap.size _ (some ad) n c i P2 (by rfl) (hown.alloc _) (wr.heap.size+1) _ 1 ⟨4,false,(x1,x2),dd⟩ (by rfl) (sees_cells wr _ rfl _ _ _ rfl) (by have:=HPL2.out;omega) (by simp;omega) ?_;intro v4 w4 hown4 hon4)
     have hb4:Below w.heap.size wr w4:=((Below.refl _ wr).alloc (by omega) _).trans (hon4.below (by simp;omega) (fun k e=>(hnb k e).1))
     have k0:w4.cell? ⟨Hl,0,none⟩=some (.string x1):=(onto_cell hon4 (by simp;omega) (fun e=>hnq e.symm)).trans (((KI_new wr _).cell hlq).trans q0)
     have k1:w4.cell? ⟨Hl,1,none⟩=some (.string x2):=(onto_cell hon4 (by simp;omega) (fun e=>hnq e.symm)).trans (((KI_new wr _).cell hlq).trans q1)
     have hn4:=own_ne hon4 hnq (by simp;omega)
     have hs4:Hl<w4.heap.size:=by have:=hon4.size;simp at this;omega
     go_roundg (m - (j+1))
     case measure=>omega
     case rel=>exact ⟨j+1,by omega,by go_num,by rw[HTK.out, ←List.append_assoc,HP2.out];exact hown4,hbq.trans hb4,k0,k1,hn4,hs4⟩
    ·have htk:days.take j=days:=List.take_of_length_le (by have:=HM.out;omega)
     rw[htk] at hown
     clear htk
     go_wp2
     go_roundg (n - (k+1))
     case measure=>omega
     case rel=>exact ⟨k+1,by omega,by go_num,by rw[HP.out];unfold perL;rw[←List.singleton_append, ←List.append_assoc];exact hown,hbq⟩
  ·have hkn:k=n:=by omega
   have htk:ls.take k=ls:=List.take_of_length_le (by have:=HN.out;omega)
   clear hkn
   rw[htk] at hown
   change OwnW wr w.heap.size _ _ i (wants ls days) at hown
   obtain ⟨AW,cW,hv,hcW, -,hsW⟩:=hown.open_
   obtain ⟨N,hNW⟩:∃N,(wants ls days).length=N:=⟨_,rfl⟩
   have hN1:N≤2200:=by
    rw[←hNW,wants_len,HM.out]
    have:ls.length*(m+1)≤100*21:=Nat.mul_le_mul (by have:=HN.out;omega) (by omega)
    omega
   rw[hNW] at hv hcW
   have HNW:=Lib.hid hNW
   subst hv
   have hVW:Hid (∀q∈wants ls days,q.full=true→True):=fun _ _ _=>trivial
   have HWR:=Lib.hid hbr
   have hsr':=hsr
   have hsW':=hsW
   generalize hLL:wants ls days=LL at hsW' HNW
   have HLL:=Lib.hid hLL
   clear hLL hown htk hsW hVW
   obtain ⟨wo,rfl⟩:∃wo:World,wo=wr:=⟨_,rfl⟩
   go_wp2_with fail
   go_loopg [13,54] N (fun g v z wq=>∃j:Nat,j+g=N∧z = .int .i64 j∧OwnS wq wo.heap.size v (itemsOf ls i (LL.take j))∧(∀q∈LL.take j,MayR (rowOf ls i q))∧Below wo.heap.size wo wq)
   case atStart=>exact ⟨0,by omega,rfl,by simpa[itemsOf] using OwnS.nil wo wo.heap.size,by simp,Below.refl _ _⟩
   case round =>
    obtain ⟨j,hj,rfl,hownS,hmays,hbq⟩:=hrel
    have hsq:=hbq.size
    have HMS:=Lib.hid hmays
    clear hmays
    by_cases hjl:j<N
    ·have hjd:j<LL.length:=by have:=HNW.out;omega
     obtain ⟨adw,hAW,hadWB,d0,d1,d2,d3,d4,d5⟩:=(hsW'.below hbq).rq hjd
     have htk:LL.take (j+1)=LL.take j ++ [LL[j]]:=by rw[List.take_add_one,List.getElem?_eq_getElem hjd];rfl
     have hqm:LL[j]∈wants ls days:=by rw[HLL.out];exact List.getElem_mem hjd
     generalize LL[j]=q at d0 d1 d2 d3 d4 d5 htk hqm
     obtain ⟨qk,qf,⟨q1,q2⟩,qd⟩:=q
     simp only at d0 d1 d2 d3 d4 d5
     have HQM:=Lib.hid hqm
     have HTK:=Lib.hid htk
     obtain ⟨Aq,nq,cq,lq,hVq,hlq,hSq,hnq,hzq,hrq⟩:∃Aq nq cq lq,(if qf=true then Value.slice A n c else .slice none 0 0) = .slice Aq nq cq∧lq.length=nq∧Sees wr wr.heap.size Aq (lv lq)∧nq≤100∧(∀x∈lq,x.1.size≤9223372036854775807)∧(if qf=true then ls else [])=lq:=by
      cases qf with
      | true=>exact ⟨A,n,c,ls,rfl,HN.out,(hS.below (HWR.out.trans (hbq.mono hsr'))).more (Nat.le_trans hsr' hsq),hn10,HSZ.out,rfl⟩
      | false=>exact ⟨none,0,0, [],rfl,rfl,Sees.nil _ _ _,by omega,by simp,rfl⟩
     rw[hVq] at d1
     have hx1:q1.size≤9223372036854775807:=by
      rcases wants_x HQM.out with h|h
      ·rw[show q1=lb0.1 from congrArg Prod.fst h];decide
      ·exact HSZ.out _ h
     obtain ⟨W5,hW5⟩:∃W5,wr.alloc (.cells #[.int .i64 qk,.slice Aq nq cq,.string q1,.string q2,.int .i64 qd,.int .i64 i] 92)=W5:=⟨_,rfl⟩
     have hb5:Below wr.heap.size wr W5:=hW5 ▸ KI_new wr _
     have six:SixAt W5 wr.heap.size (.int .i64 qk) (.slice Aq nq cq) (.string q1) (.string q2) (.int .i64 qd) (.int .i64 i):=hW5 ▸ SixAt.new wr _ _ _ _ _ _ _
     have hs5:wr.heap.size<W5.heap.size:=by rw[←hW5];simp
     have hMk:=Lib.hid (MakeRow_any Aq nq cq lq hlq qk qd i q1 q2 W5 ((hSq.below hb5).more hb5.size) (by omega) hzq hx1)
     obtain ⟨c0,c1,c2',c3,c4,c5, -⟩:=six
     obtain ⟨vsO,hO1, -⟩:=hownS.out
     have hOlt:=World.ownsRow.lt hO1
     have HRQ:Hid ((⟨qk,lq,(q1,q2),qd,i⟩:RowP)=rowOf ls i ⟨qk,qf,(q1,q2),qd⟩):=by unfold Hid rowOf;rw[←hrq]
     have jn3:(j:Int)<(N:Int):=by omega
     have hlen3:(itemsOf ls i (LL.take j)).length≤1000000:=by unfold itemsOf;rw[List.length_map,List.length_take];omega
     have HL3:=Lib.hid hlen3
     have hAW':=hAW
     clear hlq hSq hzq hrq htk hqm hO1 hVq hlen3
     subst hAW'
     go_wp2_with fail
     refine hMk.out.mono ?_
     rintro en w6 ⟨v6,k6,rfl,hb6,hres⟩
     have hs6:=hb6.size
     have hb56:Below wo.heap.size wr w6:=(hb5.trans (hb6.mono hb5.size)).mono hsq
     have hbw6:Below w.heap.size w w6:=HWR.out.trans ((hbq.trans hb56).mono hsr')
     clear hMk c0 c1 c2' c3 c4 c5 hW5
     rcases hres with ⟨hmay,rfl,hown6⟩|⟨hno,rfl,rfl⟩
     ·have HMY:=Lib.hid hmay
      obtain ⟨Y,hY⟩:∃Y,makeR ⟨qk,lq,(q1,q2),qd,i⟩=Y:=⟨_,rfl⟩
      rw[hY] at hown6
      have HY:=Lib.hid hY
      obtain ⟨A6,c6,rfl,hc6, -,hown6',hse6⟩:=hown6.open_
      have hseN:SeesN (w6.alloc (.cells #[.slice A6 Y.length c6] 48)) wo.heap.size (Value.ownBlock u13) A6 (bv Y) :=
       (SeesN.of_own (hown6'.base_le (show wo.heap.size≤W5.heap.size from by omega)) rfl (Value.ownBlock u13) (fun bb hb he=>by
        have h1:=(hOlt bb he.symm).2
        have h2:=hown6'.block bb hb
        omega)).below (KI_new w6 _)
      have hownS6:=hownS.below (hb5.trans (hb6.mono hb5.size))
      clear hmay hY hown6
      go_wp2_with (at_builtin;refine wpList_append_s rfl (.tmp 66) (.tmp 68) rfl wo.heap.size u13 _ (by rfl) (hownS6.below (KI_new w6 _)) ⟨w6.heap.size,0,none⟩ 1 Y A6 c6 (by rfl) (by rw[World.cell?_alloc_at _ _ _ _ rfl];rfl) hc6 hseN HL3.out (by simp;omega) ?_;intro v7 w7 hown7 hgr7 hat7)
      have hb7:Below wo.heap.size w6 w7:=((Below.refl _ w6).alloc (by omega) _).trans ((Below.refl _ _).grown hgr7 (by simp;omega) (fun bb hb=>(hOlt bb hb).1))
      go_roundg (N - (j+1))
      case measure=>omega
      case rel =>
       refine ⟨j+1,by omega,by go_num,?_,?_,hbq.trans (hb56.trans hb7)⟩
       ·rw[HTK.out];unfold itemsOf at hown7 ⊢;rw[List.map_append]
        rw[show [(⟨qk,qf,(q1,q2),qd⟩:RQ)].map (fun q=>makeR (rowOf ls i q)) = [Y] from by rw[←HY.out,HRQ.out];rfl]
        exact hown7
       ·rw[HTK.out]
        intro q hq
        rcases List.mem_append.1 hq with h|h
        ·exact HMS.out q h
        ·rw[List.mem_singleton.1 h, ←HRQ.out];exact HMY.out
     ·have HNO:Hid (¬ ∀q∈wants ls days,MayR (rowOf ls i q)):=fun h=>hno (by rw[HRQ.out];exact h _ HQM.out)
      clear hno
      go_wp2_with fail
      go_ret2
      exact ⟨none,0,0,120, [],rfl,hbw6,rfl,OwnQ.nil _ _ _,.inr ⟨HNO.out,rfl,rfl⟩⟩
    ·have hjN:j=N:=by omega
     have htk:LL.take j=LL:=List.take_of_length_le (by have:=HNW.out;omega)
     rw[htk] at hownS
     have hall:∀q∈wants ls days,MayR (rowOf ls i q):=by rw[HLL.out];have:=HMS.out;rw[htk] at this;exact this
     obtain ⟨AO,cO,hvO,hcO,hsO⟩:=hownS.open_
     have hlO:(itemsOf ls i LL).length=N:=by unfold itemsOf;rw[List.length_map];exact HNW.out
     have hsh:∀x∈itemsOf ls i LL,x.length≤1000:=by
      intro x hx
      unfold itemsOf at hx
      obtain ⟨q,hq,rfl⟩:=List.mem_map.1 hx
      have:=make_len (hall q (by rw[HLL.out];exact hq))
      omega
     have hbro:BRow wr AO N cO (itemsOf ls i LL):=⟨hlO,by rw[←hlO];exact hcO,by omega,hsh,hsO⟩
     rw[hlO] at hvO
     subst hvO
     have hIt:=Lib.hid (itemsQ_1 hbro wr.heap.size rfl)
     have HALL:=Lib.hid hall
     have hbwr:Below w.heap.size w wr:=HWR.out.trans (hbq.mono hsr')
     clear hownS htk hall hcO hsO hlO hsh hbro hjN
     go_wp2_with fail
     refine hIt.out.mono ?_
     rintro en w9 ⟨v9,rfl,hb9r,hb9⟩
     obtain ⟨A9,c9,rfl, -, -⟩:=hb9r.open_
     go_wp2_with fail
     go_ret2
     exact ⟨A9,_,c9,0,_,rfl,hbwr.trans (hb9.mono hbwr.size),rfl,(hb9r.mono fun k e=>⟨by have:=hbwr.size;omega,e.2⟩).base_le hbwr.size,.inl ⟨HALL.out,rfl,by rw[HLL.out]⟩⟩
end
end Go.Proofs.YtalmnodgjjcefaaGreatDoor
