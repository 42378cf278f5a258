/- Several texts in one: Core Base Plain Bits Vi Varint Vi2. -/
import Derived.Test.YtalmnodgjjcefaaGreatDoorRows
import Derived.WalkKit
import Derived.WalkSpells
import Derived.WalkLawsBesides
import Derived.Maps.AppendAt
import Derived.Deep.AppendLies
import Derived.Deep.Draws
import Derived.Lib.Hide
import Derived.Lib.LazyBuf
import Derived.BigQuiet
import Derived.Deep.QuietTactic
import Derived.Deep.LoopGhost
import Derived.Deep.DeepCutAuto
import Derived.Deep.DeepFit
import Derived.Deep.RegionHeld3
import Derived.Deep.Light
import Derived.Laws.BitsAllLaws
set_option maxRecDepth 100000
set_option maxHeartbeats 400000
namespace Go.Proofs.YtalmnodgjjcefaaGreatDoor
section
open Go.RowKit
structure Sees (w:World) (B:Nat) (A:Option Addr) (xs:List Value):Prop where
 out:xs = []∨∃ad,A=some ad∧ad.block<B∧∀j u,xs[j]?=some u→w.cell? (ad.add j)=some u
theorem add_block (a:Addr) (n:Nat):(a.add n).block=a.block:=by unfold Addr.add;split<;>rfl
theorem add_add' (a:Addr) (i j:Nat):(a.add i).add j=a.add (i+j):=by
 unfold Addr.add
 by_cases hi:i=0<;>by_cases hj:j=0<;>simp[hi,hj,Nat.add_assoc]
section
variable {w w' : World} {B B' : Nat} {A : Option Addr} {xs ys : List Value}
theorem Sees.nil (w:World) (B:Nat) (A:Option Addr):Sees w B A []:=⟨.inl rfl⟩
theorem Sees.at_ {k:Nat}(h:Sees w B A xs) (hk:k<xs.length):∃ad,A=some ad∧ad.block<B∧w.cell? (ad.add k)=some xs[k]:=by
 rcases h.out with h|⟨ad,e,hb,hc⟩
 ·subst h;simp at hk
 ·exact ⟨ad,e,hb,hc k _ (List.getElem?_eq_getElem hk)⟩
theorem Sees.keep (h:Sees w B A xs) (hk:∀p:Addr,p.block<B→w'.cell? p=w.cell? p):Sees w' B A xs:=by
 rcases h.out with h|⟨ad,e,hb,hc⟩
 ·exact ⟨.inl h⟩
 ·exact ⟨.inr ⟨ad,e,hb,fun j u hu=>(hk _ (by rw[add_block];exact hb)).trans (hc j u hu)⟩⟩
theorem Sees.more (h:Sees w B A xs) (hB:B≤B'):Sees w B' A xs:=by
 rcases h.out with h|⟨ad,e,hb,hc⟩
 ·exact ⟨.inl h⟩
 ·exact ⟨.inr ⟨ad,e,by omega,hc⟩⟩
theorem Sees.below (h:Sees w B A xs) (hb:Below B w w'):Sees w' B A xs:=h.keep fun _ hp=>hb.cell hp
theorem Sees.drew (h:Sees w B A xs):Sees w.drew B A xs:=⟨h.out⟩
theorem Sees.drewN (h:Sees w B A xs) (k:Nat):Sees (w.drewN k) B A xs:=⟨h.out⟩
theorem Sees.alloc (h:Sees w B A xs) (hB:B≤w.heap.size) (o:Obj):Sees (w.alloc o) B A xs:=h.keep fun p hp=>World.cell?_alloc_lt w o p (by omega)
theorem Sees.cut (h:Sees w B A xs) {k cap:Nat}(hc:xs.length≤cap):Sees w B (if cap=k then A else A.map (·.add (k*1))) (xs.drop k):=by
 by_cases hk:k<xs.length
 ·rcases h.out with h|⟨ad,rfl,hb,hcell⟩
  ·subst h;simp at hk
  ·rw[if_neg (by omega),Nat.mul_one]
   refine ⟨.inr ⟨ad.add k,rfl,by rw[add_block];exact hb,fun j u hu => ?_⟩⟩
   rw[add_add']
   exact hcell _ u (by rw[←hu,List.getElem?_drop])
 ·exact ⟨.inl (List.drop_eq_nil_of_le (by omega))⟩
theorem Sees.cut' (h:Sees w B A xs) (k:Nat):Sees w B (A.map (fun x=>x.add k)) (xs.drop k):=by
 by_cases hk:k<xs.length
 ·have:=h.cut (k:=k) (cap:=xs.length) (Nat.le_refl _)
  rw[if_neg (by omega),Nat.mul_one] at this
  exact this
 ·exact ⟨.inl (List.drop_eq_nil_of_le (by omega))⟩
theorem Sees.cut0 (w:World) (B:Nat) (A:Option Addr) {k:Nat}(hk:xs.length≤k):Sees w B A (xs.drop k):=⟨.inl (List.drop_eq_nil_of_le hk)⟩
theorem Sees.take (h:Sees w B A xs) (k:Nat):Sees w B A (xs.take k):=by
 rcases h.out with h|⟨ad,e,hb,hc⟩
 ·subst h;exact ⟨.inl (by simp)⟩
 ·refine ⟨.inr ⟨ad,e,hb,fun j u hu=>hc j u ?_⟩⟩
  rw[List.getElem?_take] at hu
  split at hu
  ·exact hu
  ·cases hu
theorem Sees.of_own {base:Nat}{e:TypeId}{size n c:Nat}(h:w.ownsRow base e size (.slice A n c) n xs):Sees w w.heap.size A xs:=by
 rcases h.2 with ⟨h0,h1⟩|⟨g,cap,cur,hv,hb,hh,_⟩
 ·refine ⟨.inl ?_⟩
  have:=h.1
  rw[h1,Nat.zero_mul] at this
  exact List.eq_nil_of_length_eq_zero this
 ·injection hv with hv
  exact ⟨.inr ⟨_,hv,(Array.getElem?_eq_some_iff.1 hh).1,h.cells (g:=g) (by simp[Value.ownBlock,hv])⟩⟩
end
structure Onto (w w' : World) (v v' : Value):Prop where
 grown:w.grownBy w' v.ownBlock
 at_:v'.ownBlock=v.ownBlock∨∃g,v'.ownBlock=some g∧w.heap.size≤g
section
variable {w w' w'' : World} {v v' v'' : Value}
theorem Onto.refl (w:World) (v:Value):Onto w w v v:=⟨⟨rfl,rfl,rfl,Nat.le_refl _,fun _ _ _=>rfl⟩,.inl rfl⟩
theorem Onto.trans (h:Onto w w' v v') (k:Onto w' w'' v' v''):Onto w w'' v v'':=by
 have hs:=h.grown.size
 refine ⟨⟨k.grown.os.trans h.grown.os,k.grown.tape.trans h.grown.tape,k.grown.output.trans h.grown.output,Nat.le_trans hs k.grown.size,fun i hi hne => ?_⟩,?_⟩
 ·refine (k.grown.block i (by omega) (fun e => ?_)).trans (h.grown.block i hi hne)
  rcases h.at_ with h1|⟨g,h1,h2⟩
  ·exact hne (e.trans h1)
  ·rw[h1] at e;injection e;omega
 ·rcases k.at_ with h1|⟨g,h1,h2⟩
  ·rcases h.at_ with h3|⟨g,h3,h4⟩
   ·exact .inl (h1.trans h3)
   ·exact .inr ⟨g,h1.trans h3,h4⟩
  ·exact .inr ⟨g,h1,by omega⟩
theorem Onto.below (h:Onto w w' v v') {B:Nat}(hB:B≤w.heap.size) (hv:∀k,v.ownBlock=some k→B≤k):Below B w w' :=
 (Below.refl _ _).grown h.grown hB hv
theorem Onto.below_nil (h:Onto w w' (.slice none 0 0) v'):Below w.heap.size w w':=h.below (Nat.le_refl _) (by simp[Value.ownBlock])
theorem Onto.size (h:Onto w w' v v'):w.heap.size≤w'.heap.size:=h.grown.size
theorem Onto.new (w:World) (o:Obj) (v:Value) (n m:Nat):Onto w (w.alloc o) v (.slice (some ⟨w.heap.size,0,none⟩) n m):=⟨World.grownBy_alloc w o _,.inr ⟨_,rfl,Nat.le_refl _⟩⟩
theorem Onto.of_alloc (w:World) (o:Obj) (v:Value):Onto w (w.alloc o) v v:=⟨World.grownBy_alloc w o _,.inl rfl⟩
end
def IsTrue (w:World) (e:Ending) (w' : World):Prop:=e = .returned (.bool true)∧Below w.heap.size w w'
def Gives (w:World) (v:Value) (e:Ending) (w' : World):Prop:=e = .returned v∧Below w.heap.size w w'
theorem below_d {B:Nat}{a w:World}(h:Below B a w) (q:Nat):Below B a (w.drewN q):=⟨h.os,h.tape,h.output,h.size,h.block⟩
theorem below_undrew {B:Nat}{w w' : World}(h:Below B w.drew w'):Below B w w':=⟨h.os,h.tape,h.output,h.size,h.block⟩
theorem below_drew {B:Nat}{a w:World}(h:Below B a w):Below B a w.drew:=⟨h.os,h.tape,h.output,h.size,h.block⟩
theorem ret_bool {b b' : Bool}(h:b=b'):Ending.returned (.bool b) = .returned (.bool b'):=by rw[h]
end
section
open Go.RowKit
def bv (l:List UInt8):List Value:=l.map fun b => .int .u8 (b.toNat:Int)
theorem bv_length (l:List UInt8):(bv l).length=l.length:=by simp[bv]
theorem bv_append (l m:List UInt8):bv (l++m)=bv l++bv m:=by simp[bv]
theorem bv_at (l:List UInt8) (j:Nat) (h:j<l.length):(bv l)[j]?=some (.int .u8 ((l[j]).toNat:Int)):=by simp[bv,h]
theorem bv_drop (l:List UInt8) (k:Nat):bv (l.drop k)=(bv l).drop k:=by simp[bv,List.map_drop]
theorem bv_take (l:List UInt8) (k:Nat):bv (l.take k)=(bv l).take k:=by simp[bv,List.map_take]
theorem bv_one {l:List UInt8} : ∀u∈bv l,u.oneCell'=true:=by
 intro u hu
 simp only[bv,List.mem_map] at hu
 obtain ⟨b,_,rfl⟩:=hu
 rfl
def OwnB (w:World) (base:Nat) (v:Value) (l:List UInt8):Prop:=w.ownsRow base 5 1 v l.length (bv l)
section
variable {w w' : World} {base : Nat} {v : Value} {l : List UInt8}
theorem OwnB.nil (w:World) (base:Nat):OwnB w base (.slice none 0 0) []:=World.ownsRow_nil w base _ 1
theorem OwnB.open_ (h:OwnB w base v l):∃A c,v = .slice A l.length c∧l.length≤c∧c≤maxLen∧OwnB w base (.slice A l.length c) l∧Sees w w.heap.size A (bv l):=by
 have h':=h
 rcases h.2 with ⟨rfl,hn⟩|⟨g,cap,cur,rfl,hb,hh,hc,hm,_⟩
 ·exact ⟨none,0,by rw[hn],by omega,by simp[maxLen],by rw[hn];exact h',⟨.inl (by rw[List.eq_nil_of_length_eq_zero hn];rfl)⟩⟩
 ·exact ⟨_,cap,rfl,hc,hm,h',Sees.of_own h'⟩
theorem OwnB.below (h:OwnB w base v l) (hb:Below w.heap.size w w'):OwnB w' base v l :=
 World.ownsRow.kept (row:=none) h ⟨hb.os,hb.tape,hb.output,hb.size,fun k hk _=>hb.block k hk⟩ (by cases v.ownBlock<;>simp)
theorem OwnB.base_le (h:OwnB w base v l) {b:Nat}(hb:b≤base):OwnB w b v l:=by
 refine ⟨h.1,?_⟩
 rcases h.2 with h2|⟨g,cap,cur,hv,hg,r⟩
 ·exact .inl h2
 ·exact .inr ⟨g,cap,cur,hv,by omega,r⟩
end
theorem Tryz.binfo:(Tryz.prog.info? 5).map (fun i=>(i.zero,i.size,i.bytes))=some (some (.int .u8 0),1,1):=by kernel_rfl
theorem run_append_b (w:World) (ty:TypeId) (base:Nat) (v:Value) (l:List UInt8) (hown:OwnB w base v l) (B:Nat) (A:Option Addr) (m c:Nat) (news:List UInt8) (hm:news.length=m) (hs:Sees w B A (bv news))
  (hlen:l.length+news.length≤140737488355328) (hbase:base≤w.heap.size) :
  ∃v' w',(Builtin.append_ #[48,48] ty #[v,.slice A m c]).run Tryz.prog w = .ok v' w'∧OwnB w' base v' (l++news)∧Onto w w' v v':=by
 obtain ⟨i,hi,hz0,hz1,hz2⟩:=info_parts Tryz.binfo
 subst hm
 rcases hs.out with h0|⟨ad,rfl,hb,hc⟩
 ·have hn:news = []:=by simpa[bv] using h0
  subst hn
  rw[List.append_nil]
  refine ⟨v,w,?_,hown,Onto.refl _ _⟩
  rcases hown.2 with ⟨rfl,hx⟩|⟨g,cap,cur,rfl,_,_,hnc,_⟩
  ·cases A<;>simp[Builtin.append_,run_underlying Tryz.underlying48,sizeOf,typeInfo,hi,Builtin.lenOf,Builtin.firstCells,loadCells,loadCellsFrom]
  ·cases A<;>simp[Builtin.append_,run_underlying Tryz.underlying48,sizeOf,typeInfo,hi,Builtin.lenOf,Builtin.firstCells,hnc,storeCells,loadCells,loadCellsFrom]
 ·obtain ⟨v',w',hrun,h2,h3,_,h5⟩:=run_append_own_at (P:=Tryz.prog) w base 48 ty 5 i _ 1 1 Tryz.underlying48 hi hz0 hz1 hz2 rfl (by omega) v l.length (bv l) hown ad news.length c (bv news)
   (by rw[bv_length,Nat.mul_one]) hc bv_one (by simp only[maxLen];omega) (by omega) hbase
  refine ⟨v',w',hrun,?_,h3,?_⟩
  ·unfold OwnB
   rw[List.length_append,bv_append]
   exact h2
  ·rcases h5 with h5|h5
   ·exact .inl h5
   ·exact .inr ⟨_,h5,Nat.le_refl _⟩
theorem wpList_append_b {w:World}{ops:Array Oper}{rest:List Oper}{o:Oper}{a:Act}{Q:Exit→Act→World→Prop}(hgd:o.guard=none) (s x:Operand)
  (ho:o.op = .call { callee := .builtin .append,args := #[s,x],argTypes := #[48,48] })
  (base:Nat) (v:Value) (l:List UInt8) (hs:a.eval s=v) (hown:OwnB w base v l) (B:Nat) (A:Option Addr) (m c:Nat) (news:List UInt8) (hx:a.eval x = .slice A m c) (hm:news.length=m) (hsee:Sees w B A (bv news))
  (hlen:l.length+news.length≤140737488355328) (hbase:base≤w.heap.size)
  (h:∀v' w',OwnB w' base v' (l++news)→Onto w w' v v'→wpList Tryz.prog ops Q rest (a.put o.dst v') w'):wpList Tryz.prog ops Q (o :: rest) a w:=by
 refine wpList_plain hgd fun K hK => ?_
 obtain ⟨v',w',hr,h2,h3⟩:=run_append_b w o.type base v l hown B A m c news hm hsee hlen hbase
 unfold Oper.wp execOp
 simp only[ho,resolve,invoke,builtin,Sem.run_bind,Sem.run_pure,Result.andThen_ok,List.map_toArray,List.map_cons,List.map_nil,hs,hx,hr]
 exact hK _ _ (h v' w' h2 h3)
theorem sees_new (w:World) (l:List UInt8) (t:TypeId) (cs:Array Value) (h:cs=(bv l).toArray):Sees (w.alloc (.cells cs t)) (w.heap.size+1) (some ⟨w.heap.size,0,none⟩) (bv l):=by
 subst h
 refine ⟨.inr ⟨_,rfl,by simp,fun j u hu => ?_⟩⟩
 rw[Addr.add_lit,World.cell?_alloc_at _ _ _ _ rfl]
 simpa using hu
theorem sees_one (w:World) (t:TypeId) (x:Int) (n:Nat) (hx:x=(n:Int) % 256):Sees (w.alloc (.cells #[.int .u8 x] t)) (w.heap.size+1) (some ⟨w.heap.size,0,none⟩) (bv [UInt8.ofNat n]) :=
 sees_new w _ t _ (by subst hx;simp[bv])
theorem OwnB.alloc {w:World}{base:Nat}{v:Value}{l:List UInt8}(h:OwnB w base v l) (o:Obj):OwnB (w.alloc o) base v l:=World.ownsRow.alloc h o
theorem OwnB.new (w:World) (base:Nat) (hb:base≤w.heap.size) (l:List UInt8) (n:Nat) (hn:n=l.length) (cs:Array Value) (h:cs=(bv l).toArray) (hm:l.length≤maxLen):OwnB (w.alloc (.cells cs 5)) base (.slice (some ⟨w.heap.size,0,none⟩) n n) l:=by
 subst hn
 have h2:=World.ownsRow_lit (e:=5) (size:=1) (base:=base) w cs l.length hb hm (by simp[h,bv_length])
 unfold OwnB
 rw[h] at h2 ⊢
 exact h2
def RetB (w:World) (base:Nat) (v:Value) (l:List UInt8) (e:Ending) (w' : World):Prop :=
 ∃v',e = .returned v'∧OwnB w' base v' l∧Onto w w' v v'
theorem OwnB.block {w:World}{base:Nat}{v:Value}{l:List UInt8}(h:OwnB w base v l):∀k,v.ownBlock=some k→base≤k:=fun k hk=>(World.ownsRow.lt h k hk).1
end
section
def venc (u:Nat):List UInt8:=if u<128 then [UInt8.ofNat u] else UInt8.ofNat (u % 128+128) :: venc (u / 128)
termination_by u
decreasing_by omega
theorem venc_small {u:Nat}(h:u<128):venc u = [UInt8.ofNat u]:=by rw[venc,if_pos h]
theorem venc_big {u:Nat}(h:128≤u):venc u=UInt8.ofNat (u % 128+128) :: venc (u / 128):=by rw[venc,if_neg (by omega)]
theorem venc_len_aux:∀(n u:Nat),u<128 ^ (n+1)→(venc u).length≤n+1:=by
 intro n
 induction n with
 | zero=>intro u h;rw[venc_small (by omega)];simp
 | succ n ih =>
  intro u h
  by_cases hu:u<128
  ·rw[venc_small hu];simp
  ·rw[venc_big (by omega)]
   have h2:u / 128<128 ^ (n+1):=by rw[Nat.div_lt_iff_lt_mul (by omega), ←Nat.pow_succ];exact h
   have:=ih _ h2
   simp only[List.length_cons]
   omega
def Is64 (n:Nat):Prop:=n<18446744073709551616
theorem Is64.div {n:Nat}(h:Is64 n) (k:Nat):Is64 (n / k):=Nat.lt_of_le_of_lt (Nat.div_le_self _ _) h
theorem venc_len {u:Nat}(h:Is64 u):(venc u).length≤10:=venc_len_aux 9 u (by unfold Is64 at h;omega)
theorem venc_pos (u:Nat):0<(venc u).length:=by
 by_cases hu:u<128
 ·rw[venc_small hu];simp
 ·rw[venc_big (by omega)];simp
theorem toNat_ofNat8 (n:Nat):((UInt8.ofNat n).toNat:Int)=(n:Int) % 256:=by simp
theorem u8_nat (n:Nat) (h:n<256):(UInt8.ofNat n).toNat=n:=by simp;omega
def vtk:Nat→List UInt8→Nat→Nat→Nat×Nat×Nat
 | 0,_,_,_=>(0,0,11)
 | _+1, [],_,_=>(0,0,10)
 | f+1,c :: r,n,x =>
  if c.toNat<128 then
   if (n=9∧1<c.toNat)∨(0<n∧c.toNat=0) then (0,0,11) else (x+c.toNat*2 ^ (7*n) % 18446744073709551616,n+1,0)
  else vtk f r (n+1) (x+c.toNat % 128*2 ^ (7*n) % 18446744073709551616)
def vtake (b:List UInt8):Nat×Nat×Nat:=vtk 10 b 0 0
theorem vtk_end (l:List UInt8) (k X:Nat) (hk:k<10) (h:k=l.length):vtk (10 - k) (l.drop k) k X=(0,0,10):=by
 rw[show 10 - k=(9 - k)+1 from by omega,List.drop_eq_nil_of_le (by omega)]
 rfl
theorem vtk_at (l:List UInt8) (k X:Nat) (hk:k<10) (h:k<l.length):vtk (10 - k) (l.drop k) k X =
  if l[k].toNat<128 then
   if (k=9∧1<l[k].toNat)∨(0<k∧l[k].toNat=0) then (0,0,11) else (X+l[k].toNat*2 ^ (7*k) % 18446744073709551616,k+1,0)
  else vtk (10 - (k+1)) (l.drop (k+1)) (k+1) (X+l[k].toNat % 128*2 ^ (7*k) % 18446744073709551616):=by
 rw[show 10 - k=(10 - (k+1))+1 from by omega,List.drop_eq_getElem_cons h]
 rfl
end
section
theorem nat_pow_mod (m i:Nat) (hi:i≤64):(m*2 ^ i % 18446744073709551616) % 2 ^ i=0:=by
 have h:(18446744073709551616:Nat)=2 ^ i*2 ^ (64 - i):=by rw[←Nat.pow_add,show i+(64 - i)=64 from by omega]
 rw[h,Nat.mod_mul_right_mod]
 exact Nat.mul_mod_left m (2 ^ i)
theorem or_step (X k:Nat) (c:UInt8) (hX:X<2 ^ (7*k)) (h64:Is64 X) (hk:k≤9) :
  bits .or .u64 (X:Int) (IntKind.u64.wrap (IntKind.u64.wrap (bits .and .u8 (c.toNat:Int) 127)*2 ^ (7*k)))=((X+c.toNat % 128*2 ^ (7*k) % 18446744073709551616:Nat):Int):=by
 have hc:=c.toNat_lt
 have h1:bits .and .u8 (c.toNat:Int) 127=((c.toNat % 128:Nat):Int):=by
  have:=u8_and_nat c.toNat 127 (by omega) (by omega)
  rw[nat_mask7] at this
  exact this
 rw[h1,IntKind.wrap_u64,IntKind.wrap_u64]
 have h2:(((c.toNat % 128:Nat):Int) % 18446744073709551616*2 ^ (7*k)) % 18446744073709551616=((c.toNat % 128*2 ^ (7*k) % 18446744073709551616:Nat):Int):=by
  rw[Int.emod_eq_of_lt (a:=((c.toNat % 128:Nat):Int)) (by omega) (by omega)]
  generalize c.toNat % 128=m
  rw[Int.natCast_emod,Int.natCast_mul,Int.natCast_pow]
  rfl
 rw[h2,u64_or_nat _ _ h64 (Nat.mod_lt _ (by omega)),Nat.or_comm,nat_join (7*k) _ _ (nat_pow_mod _ _ (by omega)) hX,Nat.add_comm]
theorem step_bounds (X k:Nat) (m:Nat) (hm:m<128) (hX:X<2 ^ (7*k)) (h64:Is64 X) (hk:k≤9) :
  X+m*2 ^ (7*k) % 18446744073709551616<2 ^ (7*(k+1))∧Is64 (X+m*2 ^ (7*k) % 18446744073709551616):=by
 have hle:m*2 ^ (7*k) % 18446744073709551616≤m*2 ^ (7*k):=Nat.mod_le _ _
 have h1:m*2 ^ (7*k)≤127*2 ^ (7*k):=Nat.mul_le_mul_right _ (by omega)
 have h2:2 ^ (7*(k+1))=128*2 ^ (7*k):=by rw[show 7*(k+1)=7+7*k from by omega,Nat.pow_add]
 refine ⟨by omega,?_⟩
 have hz:=nat_pow_mod m (7*k) (by omega)
 have h:=nat_join (7*k) _ X hz hX
 unfold Is64
 rw[Nat.add_comm, ←h]
 exact Nat.or_lt_two_pow (n:=64) (Nat.mod_lt _ (by omega)) h64
end
section
open Go.RowKit
theorem ret3 {k1 k2 k3:IntKind}{a a' b b' c c' : Int}(h1:a=a') (h2:b=b') (h3:c=c'):Ending.returned (.tuple #[.int k1 a,.int k2 b,.int k3 c]) = .returned (.tuple #[.int k1 a',.int k2 b',.int k3 c']):=by rw[h1,h2,h3]
theorem or128 (k:Nat):bits .or .u8 ((k:Int) % 256) 128=((UInt8.ofNat (k % 128+128)).toNat:Int):=by
 rw[toNat_ofNat8]
 have h:((k:Int) % 256)=((k % 256:Nat):Int):=by omega
 rw[h]
 have h2:∀n:Fin 256,bits .or .u8 ((n.val:Nat):Int) 128=((n.val % 128+128:Nat):Int):=by decide +kernel
 have h3:=h2 ⟨k % 256,by omega⟩
 simp only at h3
 rw[h3]
 omega
theorem put_any (base:Nat) (v:Value) (xs:List UInt8) (u:Nat) (hu:Is64 u) (w:World) (hown:OwnB w base v xs) (hbase:base≤w.heap.size) (hlen:xs.length≤1099511627776) :
  Calls Tryz.prog 203 #[v,.int .u64 u] w (RetB w base v (xs++venc u)):=by
 have HV:=Lib.hid (venc_len hu)
 go_enter Tryz.func203,Tryz.ntmps203
 go_wp2
 go_loopw [0,1] (fun b n wr=>∃(l:List UInt8) (k:Nat),Is64 k∧n = .int .u64 k∧OwnB wr base b l∧Hid (l++venc k=xs++venc u)∧Onto w wr v b) (fun _ n _=>(intOf n).toNat)
 case atStart=>exact ⟨xs,u,hu,rfl,hown,rfl,Onto.refl _ _⟩
 case round =>
  obtain ⟨l,k,hk,rfl,hl,hcat,hon⟩:=hrel
  have hlk:l.length≤1099511627776+10:=by
   have h1:=congrArg List.length hcat.out
   simp only[List.length_append] at h1
   have h2:=HV.out
   omega
  have hbs:=hon.size
  by_cases hc:128≤k
  ·go_wp2_with (at_builtin;refine wpList_append_b rfl (.tmp 7) (.tmp 11) rfl base u0 l (by rfl) (hl.alloc _) (wr.heap.size+1) _ 1 _ [UInt8.ofNat (k % 128+128)] (by rfl) rfl (sees_new _ _ _ _ (by simp[bv,or128])) (by simp;omega) (by simp;omega) ?_;intro v1 w1 hown1 hon1)
   go_roundw
   case rel=>exact ⟨l ++ [UInt8.ofNat (k % 128+128)],k / 128,hk.div 128,by go_num,hown1,(by rw[venc_big hc] at hcat;have:=hcat.out;show _=_;rw[←this];simp),hon.trans ((Onto.of_alloc _ _ _).trans hon1)⟩
   case measure=>simp[intOf];omega
  ·go_wp2_with (at_builtin;refine wpList_append_b rfl (.tmp 15) (.tmp 18) rfl base u0 l (by rfl) (hl.alloc _) (wr.heap.size+1) _ 1 _ [UInt8.ofNat k] (by rfl) rfl (sees_new _ _ _ _ (by simp[bv];omega)) (by simp;omega) (by simp;omega) ?_;intro v1 w1 hown1 hon1)
   go_ret
   exact ⟨v1,rfl,by have h:=hcat.out;rw[venc_small (by omega)] at h;rw[←h];exact hown1,hon.trans ((Onto.of_alloc _ _ _).trans hon1)⟩
theorem clone_any (A:Option Addr) (n c:Nat) (l:List UInt8) (hn:l.length=n) (w:World) (h:Sees w w.heap.size A (bv l)) (hlen:l.length≤1099511627776) :
  Calls Tryz.prog 204 #[.slice A n c] w (RetB w w.heap.size (.slice none 0 0) l):=by
 subst hn
 have he:=fun (W:World) (a:Option Addr) (n c:Nat)=>Lib.run_eql_slice_nil (P:=Tryz.prog) W 48 5 a n c 0 0 Tryz.underlying48
 cases A with
 | none =>
  have hn:l = []:=by
   rcases h.out with h|⟨ad,h,_⟩
   ·simpa[bv] using h
   ·cases h
  subst hn
  go_enter Tryz.func204,Tryz.ntmps204
  go_wp2
  go_ret
  exact ⟨_,rfl,OwnB.nil _ _,Onto.refl _ _⟩
 | some ad =>
  go_enter Tryz.func204,Tryz.ntmps204
  go_wp2_with (at_builtin;refine wpList_append_b rfl (.tmp 5) (.tmp 6) rfl w.heap.size (.slice (some ⟨w.heap.size,0,none⟩) 0 0) [] (by rfl) (OwnB.new _ _ (Nat.le_refl _) [] 0 rfl _ rfl (by simp[maxLen])) w.heap.size (some ad) l.length c l (by rfl) rfl (h.alloc (Nat.le_refl _) _) (by simp;omega) (by simp) ?_;intro v1 w1 hown1 hon1)
  go_ret
  exact ⟨v1,rfl,hown1,(Onto.new _ _ _ _ _).trans hon1⟩
theorem take_any (A:Option Addr) (c:Nat) (l:List UInt8) (w:World) (h:Sees w w.heap.size A (bv l)) (hlen:l.length≤1099511627776) :
  Calls Tryz.prog 248 #[.slice A l.length c] w fun e w'=>e = .returned (.tuple #[.int .u64 ((vtake l).1:Nat),.int .i64 ((vtake l).2.1:Nat),.int .i64 ((vtake l).2.2:Nat)])∧w=w':=by
 go_enter Tryz.func248,Tryz.ntmps248
 go_wp2
 go_step3
 go_wp2
 go_step3
 go_wp2
 go_loop [5,6] (fun x n=>∃k X:Nat,k≤10∧k≤l.length∧n = .int .i64 k∧x = .int .u64 X∧Hid (X<2 ^ (7*k)∧Is64 X)∧Hid (vtk (10 - k) (l.drop k) k X=vtake l)) (fun _ n=>10 - (intOf n).toNat)
 case atStart=>exact ⟨0,0,by omega,by omega,rfl,rfl,⟨by simp,by simp[Is64]⟩,rfl⟩
 case round =>
  obtain ⟨k,X,hk,hkl,rfl,rfl,hX,hv⟩:=hrel
  by_cases h10:k=10
  ·subst h10
   have HF:Hid (vtake l=(0,0,11)):=hv.out.symm
   clear hv
   go_wp2
   go_ret3
   rw[HF.out]
   exact ⟨rfl,rfl⟩
  by_cases hend:k=l.length
  ·have HF:Hid (vtake l=(0,0,10)):=hv.out.symm.trans (vtk_end l k X (by omega) hend)
   clear hv
   go_wp2
   go_ret3
   rw[HF.out]
   exact ⟨rfl,rfl⟩
  obtain ⟨ad,rfl,hb,hcell⟩:=h.at_ (k:=k) (by rw[bv_length];omega)
  have HV:Hid (vtake l=_):=hv.out.symm.trans (vtk_at l k X (by omega) (by omega))
  clear hv
  rw[show (bv l)[k]'(by rw[bv_length];omega) = .int .u8 ((l[k]'(by omega)).toNat:Int) from by simp[bv]] at hcell
  generalize hcb:l[k]'(by omega)=cb at hcell HV
  clear hcb
  have hcb256:(cb.toNat:Int)<256:=by have:=cb.toNat_lt;omega
  have HO:=Lib.hid (or_step X k cb hX.out.1 hX.out.2 (by omega))
  by_cases hsm:(cb.toNat:Int)<128
  ·by_cases he1:k=9∧(1:Int)<(cb.toNat:Int)
   ·have HF:Hid (vtake l=(0,0,11)):=by have:=HV.out;rw[if_pos (by omega),if_pos (by omega)] at this;exact this
    clear HV
    obtain ⟨h9,h1c⟩:=he1
    have h9' : 9≤k:=by omega
    clear h9
    go_wp2
    all_goals
     go_ret3
     rw[HF.out]
     exact ⟨rfl,rfl⟩
   by_cases he2:0<k∧cb.toNat=0
   ·have HF:Hid (vtake l=(0,0,11)):=by have:=HV.out;rw[if_pos (by omega),if_pos (by omega)] at this;exact this
    clear HV he1
    obtain ⟨hk0,hc0⟩:=he2
    have hcz:((cb.toNat:Int)==0)=true:=by rw[beq_iff_eq];omega
    have hcz1:(cb.toNat:Int)≤0:=by omega
    clear hc0
    by_cases h9:9≤k
    ·go_wp2
     go_ret3
     rw[HF.out]
     exact ⟨rfl,rfl⟩
    ·go_wp2
     go_ret3
     rw[HF.out]
     exact ⟨rfl,rfl⟩
   have HF:Hid (vtake l=(X+cb.toNat % 128*2 ^ (7*k) % 18446744073709551616,k+1,0)):=by
    have:=HV.out;rw[if_pos (by omega),if_neg (by omega)] at this;rw[Nat.mod_eq_of_lt (a:=cb.toNat) (show cb.toNat<128 by omega)];exact this
   clear HV
   by_cases h0:k≤0
   ·clear he1 he2
    go_wp2
    go_ret3
    rw[HF.out]
    exact ⟨ret3 HO.out (by show _=((k+1:Nat):Int);omega) rfl,rfl⟩
   ·have hcz:((cb.toNat:Int)==0)=false:=by rw[beq_eq_false_iff_ne];omega
    have hcz1:1≤(cb.toNat:Int):=by omega
    by_cases h9:9≤k
    ·have hc1:(cb.toNat:Int)≤1:=by omega
     clear he1 he2
     go_wp2
     go_ret3
     rw[HF.out]
     exact ⟨ret3 HO.out (by show _=((k+1:Nat):Int);omega) rfl,rfl⟩
    ·clear he1 he2
     go_wp2
     go_ret3
     rw[HF.out]
     exact ⟨ret3 HO.out (by show _=((k+1:Nat):Int);omega) rfl,rfl⟩
  ·have HF:Hid (vtake l=vtk (10 - (k+1)) (l.drop (k+1)) (k+1) (X+cb.toNat % 128*2 ^ (7*k) % 18446744073709551616)):=by have:=HV.out;rw[if_neg (by omega)] at this;exact this
   clear HV
   go_wp2
   go_round
   case rel=>exact ⟨k+1,_,by omega,by omega,by go_num,by rw[HO.out],step_bounds X k _ (by omega) hX.out.1 hX.out.2 (by omega),HF.out.symm⟩
   case measure=>simp[intOf];omega
def Ret1B (w:World) (u:Int) (ku:IntKind) (l:List UInt8) (e:Int) (en:Ending) (w' : World):Prop :=
 ∃v',en = .returned (.tuple #[.int ku u,v',.int .i64 e])∧OwnB w' w.heap.size v' l∧Below w.heap.size w w'
theorem vtk_le:∀(f:Nat) (l:List UInt8) (n x:Nat),(vtk f l n x).2.1≤n+l.length∧((vtk f l n x).2.2≠0→(vtk f l n x).2.1=0∧(vtk f l n x).1=0):=by
 intro f
 induction f with
 | zero=>intro l n x;simp[vtk]
 | succ f ih =>
  intro l n x
  cases l with
  | nil=>simp[vtk]
  | cons c r =>
   simp only[vtk]
   split
   ·split
    ·simp
    ·simp
     try omega
   ·have:=ih r (n+1) (x+c.toNat % 128*2 ^ (7*n) % 18446744073709551616)
    simp only[List.length_cons]
    refine ⟨by omega,this.2⟩
theorem vtake_le (l:List UInt8):(vtake l).2.1≤l.length:=by have:=(vtk_le 10 l 0 0).1;unfold vtake;omega
theorem vtake_err (l:List UInt8) (h:(vtake l).2.2≠0):(vtake l).2.1=0∧(vtake l).1=0:=(vtk_le 10 l 0 0).2 h
end
section
open Go.RowKit
theorem Take_any (A:Option Addr) (n0 c:Nat) (l:List UInt8) (hn0:l.length=n0) (w:World) (hS:Sees w w.heap.size A (bv l)) (hlen:l.length≤1099511627776) (hc:l.length≤c) :
  Calls Tryz.prog 214 #[.slice A n0 c] w (Ret1B w ((vtake l).1:Nat) .u64 (if (vtake l).2.2=0 then l.drop (vtake l).2.1 else []) ((vtake l).2.2:Nat)):=by
 subst hn0
 have hle:=vtake_le l
 have hcH:=Lib.hid hc
 have herr:=vtake_err l
 have HT:=Lib.hid (take_any A c l w hS hlen)
 generalize hU:vtake l=U at hle herr HT ⊢
 clear hU
 obtain ⟨x,n,e⟩:=U
 simp only at hle herr HT ⊢
 by_cases he:e=0
 ·subst he
  clear herr
  go_enter Tryz.func214,Tryz.ntmps214
  go_wp2_with fail
  refine HT.out.mono ?_
  rintro e w' ⟨rfl,rfl⟩
  go_wp2_with fail
  all_goals
   refine (clone_any _ _ _ (l.drop n) (by simp) _ (by rw[bv_drop];first|exact hS.cut' n|exact Sees.cut0 _ _ _ (by rw[bv_length];have:=hcH.out;omega)) (by simp;omega)).mono ?_
   rintro e w' ⟨v1,rfl,hown,hon⟩
   go_wp2_with fail
   go_ret3
   exact ⟨_,rfl,hown,hon.below_nil⟩
 ·obtain ⟨rfl,rfl⟩:=herr he
  have he0:((e:Int) != 0)=true:=by rw[bne_iff_ne];omega
  rw[if_neg he]
  clear he herr
  go_enter Tryz.func214,Tryz.ntmps214
  go_wp2_with fail
  refine HT.out.mono ?_
  rintro e w' ⟨rfl,rfl⟩
  go_wp2_with fail
  go_ret3
  exact ⟨_,rfl,OwnB.nil _ _,Below.refl _ _⟩
theorem Put_any (A:Option Addr) (n c:Nat) (l:List UInt8) (hn:l.length=n) (u:Nat) (hu:Is64 u) (w:World) (hS:Sees w w.heap.size A (bv l)) (hlen:l.length≤1099511627776) :
  Calls Tryz.prog 147 #[.slice A n c,.int .u64 u] w (RetB w w.heap.size (.slice none 0 0) (l++venc u)):=by
 go_enter Tryz.func147,Tryz.ntmps147
 go_wp2_with fail
 refine (clone_any A n c l hn _ hS hlen).mono ?_
 rintro e w1 ⟨v1,rfl,hown,hon⟩
 go_wp2_with fail
 refine (put_any w.heap.size v1 l u hu w1 hown hon.size hlen).mono ?_
 rintro e w2 ⟨v2,rfl,hown2,hon2⟩
 go_wp2_with fail
 go_ret
 exact ⟨v2,rfl,hown2,hon.trans hon2⟩
theorem bv_get (l:List UInt8) (k:Nat) (h:k<l.length):(bv l)[k]'(by rw[bv_length];exact h) = .int .u8 ((l[k]).toNat:Int):=by simp[bv]
end
section
open Go.RowKit
theorem take_step (l r:List UInt8) (k:Nat) (h1:k<l.length) (h2:k<r.length) (h:l.take k=r.take k) :
  (l[k]=r[k]→l.take (k+1)=r.take (k+1))∧(l[k]≠r[k]→(l==r)=false):=by
 refine ⟨fun e => ?_,fun e => ?_⟩
 ·rw[List.take_succ_eq_append_getElem h1,List.take_succ_eq_append_getElem h2,h,e]
 ·rw[beq_eq_false_iff_ne]
  rintro rfl
  exact e rfl
def EqB (w:World) (l m:List UInt8) (e:Ending) (w' : World):Prop:=e = .returned (.bool (l==m))∧∃k,w'=w.drewN k
theorem equal_any (A B:Option Addr) (n m c d:Nat) (l r:List UInt8) (hn:l.length=n) (hm:r.length=m) (w:World) (hS:Sees w w.heap.size A (bv l)) (hS2:Sees w w.heap.size B (bv r)) (hlen:l.length≤1099511627776)  :
  Calls Tryz.prog 247 #[.slice A n c,.slice B m d] w (EqB w l r):=by
 by_cases hne:n=m
 ·subst hne
  have hnb:n≤1099511627776:=by omega
  have hl:=Lib.hid hn
  have hr:=Lib.hid hm
  clear hn hm
  go_enter Tryz.func247,Tryz.ntmps247
  go_wp2
  go_loopg [13] n (fun g i wr=>∃k:Nat,k+g=n∧i = .int .i64 k∧Aside (l.take k=r.take k)∧∃q,wr=w.drewN q)
  case atStart=>exact ⟨0,by omega,rfl,by simp[Aside],0,rfl⟩
  case round =>
   obtain ⟨k,hk,rfl,heq,q,rfl⟩:=hrel
   by_cases hlt:k<n
   ·obtain ⟨ad,rfl,hb,hcell⟩:=hS.at_ (k:=k) (by rw[bv_length];have:=hl.out;have:=hr.out;omega)
    obtain ⟨ad2,rfl,hb2,hcell2⟩:=hS2.at_ (k:=k) (by rw[bv_length];have:=hl.out;have:=hr.out;omega)
    have hstep:=Lib.hid (take_step l r k (by have:=hl.out;omega) (by have:=hr.out;omega) heq.out)
    rw[bv_get l k (by have:=hl.out;omega)] at hcell
    rw[bv_get r k (by have:=hr.out;omega)] at hcell2
    generalize l[k]'(by have:=hl.out;omega)=x at hcell hstep
    generalize r[k]'(by have:=hr.out;omega)=y at hcell2 hstep
    clear heq
    by_cases hxy:x=y
    ·subst hxy
     have hT:=Lib.hid (hstep.out.1 rfl)
     clear hstep
     go_wp2
     go_quiet (fail)
     go_wp2
     go_roundg (n - (k+1))
     case measure=>omega
     case rel=>exact ⟨k+1,by omega,by go_num,hT.out,_,rfl⟩
    ·have hx1:((x.toNat:Int) != (y.toNat:Int))=true:=by rw[bne_iff_ne];exact fun e=>hxy (UInt8.toNat_inj.1 (by omega))
     have HF:Hid ((l==r)=false):=hstep.out.2 hxy
     clear hxy hstep
     go_wp2
     go_quiet (fail)
     go_wp2
     go_ret
     unfold EqB
     rw[HF.out]
     exact ⟨rfl,_,World.drewN_drewN _ _ _⟩
   ·go_wp2
    go_ret
    have h1:=hl.out;have h2:=hr.out
    have:l=r:=by have:=heq.out;rw[List.take_of_length_le (by omega),List.take_of_length_le (by omega)] at this;exact this
    subst this
    unfold EqB
    exact ⟨by simp,_,rfl⟩
 ·have hl2:((n:Int) != (m:Int))=true:=by rw[bne_iff_ne];omega
  have HF:Hid ((l==r)=false):=by
   unfold Hid
   rw[beq_eq_false_iff_ne]
   rintro rfl
   exact hne (hn.symm.trans hm)
  clear hne hn hm
  go_enter Tryz.func247,Tryz.ntmps247
  go_wp2
  go_ret
  unfold EqB
  rw[HF.out]
  exact ⟨rfl,0,rfl⟩
end
end Go.Proofs.YtalmnodgjjcefaaGreatDoor
