/- Several texts in one: TgPlain TgSet TgMem TgAt TgIter TgSorted. -/
import Derived.Test.YtalmnodgjjcefaaGreatDoorZKmA
import Derived.Test.YtalmnodgjjcefaaGreatDoorZIpE
import Derived.Test.YtalmnodgjjcefaaGreatDoorZRfA
import Derived.Maps.OwnSet
import Derived.StringKeys
import Derived.Sort.KeysCollected
import Derived.Shelf.SlIter.Nil
import Derived.Shelf.SortM.Plain
import Derived.Shelf.SortM.SortNone
import Derived.Test.YtalmnodgjjcefaaGreatDoorZShelf
import Derived.Lib.ConvBytes
set_option maxRecDepth 100000
namespace Go.Proofs.YtalmnodgjjcefaaGreatDoor
set_option maxRecDepth 100000
set_option maxHeartbeats 1000000
section
section
section
variable {κ : Type} {lt : κ -> κ -> Bool}
theorem Ri.filter{l:List κ}(hr:Ri lt l)(p:κ->Bool):Ri lt (l.filter p):=List.Pairwise.filter p hr
end
section
variable {κ : Type} [DecidableEq κ] {lt : κ -> κ -> Bool}
theorem wN(h:fo lt)(p:κ->Bool)(l:List κ):aM lt (l.filter p)=(aM lt l).filter p:=
 qm h ((eK h l).filter p) λx=>by rw[List.mem_filter,List.mem_filter,aZ h]
theorem oS(h:fo lt)(p:κ->Bool)(ll:List (List κ)):aM lt ((ll.map λt=>t.filter p).flatten)=(aM lt ll.flatten).filter p:=by rw[<-wN h,List.filter_flatten]
theorem oK(h:fo lt)(a b:List κ):aM lt (a++b)=aM lt (b++a):=pK h λx=>by rw[List.mem_append,List.mem_append];exact Or.comm
end
end
section
open Go.RowKit
theorem rh:fo ahead:=KB.ordr
structure af where
 mem:List Item
 fs:List (List Item)
def af.all(s:af):List Item:=aM ahead (s.fs.flatten++s.mem)
def af.eG(s:af):List (List Item):=s.mem::s.fs
def af.total(s:af):Nat:=s.fs.flatten.length+s.mem.length
def af.has(s:af)(x:Item):Bool:=s.eG.any λf=>decide (x∈f)
def af.new:af:=⟨[],[]⟩
theorem af.has_eq(s:af)(x:Item):s.has x=decide (x∈s.all):=by rw[<-Bool.coe_iff_coe];unfold af.has af.all af.eG;rw[decide_eq_true_eq,aZ rh,List.any_eq_true,List.mem_append,List.mem_flatten];constructor;(·rintro⟨f,hf,h⟩;rcases List.mem_cons.1 hf with rfl|hf;exact .inr (of_decide_eq_true h);exact .inl ⟨f,hf,of_decide_eq_true h⟩);·rintro(⟨f,hf,h⟩|h);exact⟨f,List.mem_cons_of_mem _ hf,decide_eq_true h⟩;exact⟨s.mem,List.mem_cons_self,decide_eq_true h⟩
def af.add(s:af)(x:Item):af×Nat:=
 if da x=true then(s,1)else if s.has x=true then(s,0)else if 500<=s.mem.length then(s,2)else(⟨aM ahead (s.mem++[x]),s.fs⟩,0)
def af.flush(s:af):af×List UInt8×Bool:=
 if s.mem.length=0\/100<=s.fs.length then(s,[],false)else(⟨[],s.fs++[s.mem]⟩,dq s.mem,true)
def ny(n:Nat)(first many:Int):Bool:=decide (2<=many/\0<=first/\first<=n/\many<=n-first)
def af.join(s:af)(i k:Nat):List Item:=aM ahead ((s.fs.drop i).take k).flatten
def af.merge(s:af)(first many:Int):af×List UInt8×Nat:=
 if ny s.fs.length first many=true then(⟨s.mem,s.fs.take first.toNat++s.join first.toNat many.toNat::s.fs.drop (first.toNat+many.toNat)⟩,dq (s.join first.toNat many.toNat),0)else(s,[],1)
theorem xq:∀{l:List Item},Ri ahead l->bZ l=true
 |[],_=>rfl
 |[_],_=>rfl
 |a::b::t,h=>by have h':=List.pairwise_cons.1 h;have h1:ahead a b=true:=h'.1 b zs;show(ahead a b&&bZ (b::t))=true;rw[h1,xq h'.2];rfl
theorem LB{l:List Item}(h:Ri ahead l)(hf:∀x∈l,da x=false):okB l=true:=by unfold okB;rw[xq h,Bool.true_and,Bool.not_eq_true'];rw[List.any_eq_false];intro x hx;rw[hf x hx];simp
theorem Mj{l:List Item}(h:okB l=true):Ri ahead l:=nW (fx h).1
theorem rb{l:List Item}(h:Ri ahead l)(hf:∀x∈l,da x=false)(h0:l.length≠0)(hn:l.length<=1200):bV l=0:=by have bb:=LB h hf;have df:=dN l;have hlen:=mZ (blk l) 0 (gJ bb) zo;have hv:=gL (u:=(blk l).length) zo;unfold bV;rw[if_neg zo,if_neg (by rw[bb];simp;exact λe=>h0 (by rw[e];rfl)),if_neg];unfold uG;rw[List.length_append];omega
theorem iN{l:List Item}(h:bV l=0):Ri ahead l/\(∀x∈l,da x=false)/\0<l.length/\l.length<=2000:=
 ⟨Mj (eC h).2.2.1,(fx (eC h).2.2.1).2,(eC h).2.1,(eC h).1⟩
theorem tp{ls:List Item}(h:bV ls=0):4<=(dq ls).length/\(dq ls).length<=990000:=by obtain⟨h1,h2,h3,h4⟩:=eC h;have h5:=nC (blk ls) (gJ h3);have h6:=dN ls;have h7:=iM (u:=(uG (blk ls)).length) zo;unfold dq;rw[List.length_append,List.length_append,kJ];(have:(gm (outs (blk ls)).length).length=4:=by unfold gm fY;rfl);omega
structure ft(s:af):Prop where
 yU:Ri ahead s.mem
 sk:∀x∈s.mem,da x=false
 eH:s.mem.length<=500
 files:∀f∈s.fs,bV f=0
theorem ft.new:ft af.new:=⟨List.Pairwise.nil,by simp[af.new],by simp[af.new],by simp[af.new]⟩
theorem ft.bad{s:af}(h:ft s):∀t∈s.eG,∀x∈t,da x=false:=λt ht=>by rcases List.mem_cons.1 ht with rfl|ht;exact h.sk;exact(iN (h.files t ht)).2.1
theorem EE{l:List (List Item)}{i k:Nat}:∀x,x∈((l.drop i).take k).flatten->x∈l.flatten:=λx hx=>by obtain⟨f,hf,hx⟩:=List.mem_flatten.1 hx;exact List.mem_flatten.2 ⟨f,List.mem_of_mem_drop (List.mem_of_mem_take hf),hx⟩
theorem jH(l:List (List Item))(i k:Nat):(l.take i).flatten++(((l.drop i).take k).flatten++(l.drop (i+k)).flatten)=l.flatten:=by rw[<-List.flatten_append,<-List.flatten_append];congr 1;rw[<-List.drop_drop,List.take_append_drop,List.take_append_drop]
theorem join_le(s:af)(i k:Nat):(s.join i k).length<=s.fs.flatten.length:=by have h1:=cZ rh ((s.fs.drop i).take k).flatten;have h2:=congrArg List.length (jH s.fs i k);rw[List.length_append,List.length_append]at h2;unfold af.join;omega
theorem z7{s:af}(h:ft s)(ht:s.total<=1200){i k:Nat}(hk:1<=k)(hi:i<s.fs.length):bV (s.join i k)=0:=by refine rb (eK rh _) (λx hx=>?_) (λe=>?_) (Nat.le_trans (join_le s i k) (by unfold af.total at ht;omega));obtain⟨f,hf,hx⟩:=List.mem_flatten.1 (EE x ((aZ rh _ x).1 hx));exact(iN (h.files f hf)).2.1 x hx;have hf:=iN (h.files s.fs[i] (List.getElem_mem hi));obtain⟨x,hx⟩:=List.exists_mem_of_length_pos hf.2.2.1;have:x∈s.join i k:=(aZ rh _ x).2 (List.mem_flatten.2 ⟨s.fs[i],by rw[List.drop_eq_getElem_cons hi];cases k with|zero=>omega|succ k=>rw[List.take_succ_cons];exact List.mem_cons_self,hx⟩);rw[List.eq_nil_of_length_eq_zero e]at this;simp at this
theorem vu{n:Nat}{a b:Int}:ny n a b=true↔2<=b/\0<=a/\a<=n/\b<=n-a:=by unfold ny;rw[decide_eq_true_eq]
theorem ft.add{s:af}(h:ft s)(x:Item):ft (s.add x).1:=by unfold af.add;split;exact h;·split;exact h;·split;exact h;·rename_i h1 _ h3;refine⟨eK rh _,λy hy=>?_,?_,h.files⟩;(·rcases List.mem_append.1 ((aZ rh _ y).1 hy)with hy|hy;exact h.sk y hy;rw[List.mem_singleton.1 hy];exact N6);have:=cZ rh (s.mem++[x]);rw[List.length_append]at this;simp only[List.length_singleton]at this;simp only;have e:(aM ahead (s.mem++[x])).length<=s.mem.length+1:=this;omega
theorem ft.flush{s:af}(h:ft s):ft s.flush.1:=by unfold af.flush;split;exact h;·rename_i h1;rw[not_or]at h1;refine⟨List.Pairwise.nil,zs,zs,λf hf=>?_⟩;rcases List.mem_append.1 hf with hf|hf;exact h.files f hf;rw[List.mem_singleton.1 hf];exact rb h.yU h.sk h1.1 (zu h.eH)
theorem ft.merge{s:af}(h:ft s)(ht:s.total<=1200)(a b:Int):ft (s.merge a b).1:=by unfold af.merge;split;(·rename_i h1;obtain⟨h2,h3,h4,h5⟩:=vu.1 h1;refine⟨h.yU,h.sk,h.eH,λf hf=>?_⟩;rcases List.mem_append.1 hf with hf|hf;exact h.files f (List.mem_of_mem_take hf);·rcases List.mem_cons.1 hf with rfl|hf;exact z7 h ht zo zo;exact h.files f (List.mem_of_mem_drop hf));exact h
theorem N7{p:Prop}(h:p:=by rw[List.length_append]at this;exact this):p:=h
theorem C4(s:af)(x:Item):(s.add x).1.total<=s.total+1:=by unfold af.add;split;simp;·split;simp;·split;simp;have:=cZ rh (s.mem++[x]);have e:(aM ahead (s.mem++[x])).length<=s.mem.length+1:=N7;unfold af.total;exact kI
theorem yh(s:af):s.flush.1.total=s.total:=by unfold af.flush;split;rfl;unfold af.total;simp
theorem yq(s:af)(a b:Int):(s.merge a b).1.total<=s.total:=by unfold af.merge;split;have h1:=cZ rh ((s.fs.drop a.toNat).take b.toNat).flatten;have h2:=congrArg List.length (jH s.fs a.toNat b.toNat);rw[List.length_append,List.length_append]at h2;unfold af.total af.join;simp only[List.flatten_append,List.flatten_cons,List.length_append];have e:(aM ahead ((s.fs.drop a.toNat).take b.toNat).flatten).length<=((s.fs.drop a.toNat).take b.toNat).flatten.length:=h1;omega;simp
theorem Db(s:af):s.flush.1.all=s.all:=by unfold af.flush;split;rfl;unfold af.all;simp
theorem C5(s:af)(a b:Int):(s.merge a b).1.all=s.all:=by unfold af.merge;split;unfold af.all af.join;refine pK rh λx=>?_;have h2:=jH s.fs a.toNat b.toNat;rw[<-h2];simp only[List.flatten_append,List.flatten_cons,List.mem_append,aZ rh];rfl
theorem nE(s:af)(x:Item):x∈s.all↔x∈s.fs.flatten\/x∈s.mem:=by unfold af.all;rw[aZ rh,List.mem_append]
theorem CI(s:af):aM ahead s.eG.flatten=s.all:=by unfold af.all af.eG;rw[List.flatten_cons];exact oK rh _ _
theorem pX(s:af):s.all.length<=s.total:=by have:=cZ rh (s.fs.flatten++s.mem);exact N7
theorem sQ(s:af):s.eG.flatten.length=s.total:=by unfold af.eG af.total;rw[List.flatten_cons,List.length_append];omega
theorem xt(s:af)(x:Item):aM ahead ((s.eG.map λt=>t.filter (preB x)).flatten)=s.all.filter (preB x):=by rw[<-CI];exact oS rh _ _
end
section
open Go.RowKit Go.Maps Go.ChangeMaps
def rl:Value->Option (DataW Unit×List MemPlace)
 | .bool x=>some (.lit (.bool x),[])
 |_=>none
abbrev se(b:Bool):DataW Unit:=.lit (.bool b)
abbrev Gy(l:Item):Lit:=.string l
theorem xP{a b:Bool}(h:se a=se b):a=b:=by simpa[se]using h
structure cH(w:World)(b:Nat)(mem:List Item):Prop where
 out:∃D,w.ownsMap Tryz.prog 9 rl b mem.length D/\(∀l,Maps.has D (Gy l)=decide (l∈mem))/\(∀l,l∈mem->D.atKey (Gy l) (se false)=se true)/\Maps.size D=mem.length
 nodup:mem.Nodup
theorem qe:Keyed Tryz.prog 9:=string_keyed Tryz.underlying9
theorem Dc(w:World):(zeroValue 4).run Tryz.prog w=.ok (.bool false) w:=by kernel_rfl
theorem AE{s:ByteArray}(h:s.size<=maxLen):keyOf Tryz.prog 9 (.string s)=some (.string s.data.toList):=WideMaps.keyOf_string_mk Tryz.underlying9 h
theorem zQ{v:Value}{z:DataW Unit×List MemPlace}(h:rl v=some z):∃b,v=.bool b/\z=(se b,[]):=by unfold rl at h;split at h;exact⟨_,rfl,(Option.some.inj h).symm⟩;cases h
section
variable {w w' : World} {b : Nat} {mem : List Item}
theorem cH.lt(h:cH w b mem):b<w.1.size:=by obtain⟨D,h1,-⟩:=h.out;exact h1.lt
theorem cH.keep(h:cH w b mem)(hk:w'.heap[b]?=w.heap[b]?):cH w' b mem:=by obtain⟨D,⟨es,clock,hb,r⟩,h2⟩:=h.out;exact⟨⟨D,⟨es,clock,hk.trans hb,r⟩,h2⟩,h.nodup⟩
theorem cH.perm{aa:List Item}(h:cH w b mem)(hp:mem.Perm aa):cH w b aa:=by obtain⟨D,h1,h2,h3,h4⟩:=h.out;refine⟨⟨D,by rw[<-hp.length_eq];exact h1,λl=>?_,λl hl=>h3 l (hp.mem_iff.2 hl),by rw[<-hp.length_eq];exact h4⟩,hp.nodup_iff.1 h.nodup⟩;rw[h2 l,decide_eq_decide];exact hp.mem_iff
theorem cH.keys(h:cH w b mem):∃D,w.ownsMap Tryz.prog 9 rl b mem.length D/\mem.Perm (strKeys D)/\Maps.size D=mem.length:=by obtain⟨D,h1,h2,h3,h4⟩:=h.out;refine⟨D,h1,?_,h4⟩;obtain⟨es,rfl,aa,-⟩:=h1.entries qe;obtain⟨ad,e,ah⟩:=h1.keysOf;(obtain rfl:es=ad:=by simpa using e);exact perm_strKeys aa (λp hp=>by obtain⟨v,hv⟩:=ah p hp;obtain⟨x,-,hx,-⟩:=Maps.keyOf_str Tryz.underlying9 hv;exact⟨x,hx⟩) h.nodup λx=>by rw[h2 x,decide_eq_true_eq]
theorem cH.look(h:cH w b mem)(t:TypeId)(ht:Tryz.prog.underlying t=some (.map 9 4)){s:ByteArray}(hs:s.size<=maxLen):(Instr.lookup t (.map (some b)) (.string s) false).run Tryz.prog w=.ok (.bool (decide (s.data.toList∈mem))) w:=by obtain⟨D,h1,h2,h3,h4⟩:=h.out;obtain⟨v,ps,aj,hv⟩:=h1.lookup qe ht (Dc w) (zd:=se false) (zp:=[]) (rfl) (AE hs);obtain⟨c,rfl,e⟩:=zQ hv;have e1:D.atKey (Gy s.data.toList) (se false)=se c:=congrArg Prod.fst e;(have hc:decide (s.data.toList∈mem)=c:=by by_cases hx:s.data.toList∈mem;rw[h3 _ hx]at e1;rw[decide_eq_true hx];exact xP e1;have h5:=h2 s.data.toList;rw[decide_eq_false hx]at h5;rw[Maps.atKey_of_not_has h5]at e1;rw[decide_eq_false hx];exact xP e1);rw[hc];exact aj
theorem cH.len(h:cH w b mem)(t:TypeId)(ht:Tryz.prog.underlying t=some (.map 9 4))(ty:TypeId):(Builtin.len_ #[t] ty #[.map (some b)]).run Tryz.prog w=.ok (.int .i64 mem.length) w:=by obtain⟨D,h1,h2,h3,h4⟩:=h.out;rw[h1.len ht ty,h4]
theorem cH.store(h:cH w b mem)(t:TypeId)(ht:Tryz.prog.underlying t=some (.map 9 4))(hn:mem.length<100000){s:ByteArray}(hs:s.size<=maxLen)(hx:s.data.toList∉mem):∃w',(Instr.mapUpdate t (.map (some b)) (.string s) (.bool true)).run Tryz.prog w=.ok () w'/\cH w' b (mem++[s.data.toList])/\w.grownBy w' (some b)/\w'.1.size=w.1.size:=by obtain⟨D,h1,h2,h3,h4⟩:=h.out;obtain⟨w',aj,r1,r2⟩:=h1.store qe ht fB (AE hs) ((rfl:rl (.bool true)=some (se true,[])));(have a7:WideAt.IsKeyLit (Gy s.data.toList):=by trivial);have h5:=h2 s.data.toList;rw[decide_eq_false hx]at h5;have hD:=h1.isMap;refine⟨w',aj,⟨⟨_,by rw[List.length_append];exact r1,λl=>?_,λl hl=>?_,?_⟩,?_⟩,r2.grown,?_⟩;(·by_cases e:l=s.data.toList;subst e;rw[Maps.has_put_same hD a7,decide_eq_true zs];rw[Maps.has_put_other (by intro e2;injection e2 with e2;exact e e2),h2 l,decide_eq_decide];simp[e]);(·by_cases e:l=s.data.toList;subst e;exact Maps.atKey_put_same hD a7 _ _;·rw[Maps.atKey_put_other (by intro e2;injection e2 with e2;exact e e2)];refine h3 l ?_;rcases List.mem_append.1 hl with hl|hl;exact hl;exact absurd (List.mem_singleton.1 hl) e);rw[Maps.size_put (h1.tidy qe),h5];simp[h4];refine List.nodup_append.2 ⟨h.nodup,zs,λa ha c hc=>?_⟩;rw[List.mem_singleton.1 hc];exact λe=>hx (e▸ha);obtain⟨es,clock,ad,aa,-,rfl⟩:=r2;simp[setBlock]
theorem cH.clear(h:cH w b mem)(t:TypeId)(ht:Tryz.prog.underlying t=some (.map 9 4))(ty:TypeId):∃w',(Builtin.clear_ #[t] ty #[.map (some b)]).run Tryz.prog w=.ok (.tuple #[]) w'/\cH w' b []/\w.grownBy w' (some b)/\w'.1.size=w.1.size:=by obtain⟨D,⟨es,clock,hb,F,hs,rfl⟩,-⟩:=h.out;refine⟨setBlock w b (.map #[] clock),?_,⟨⟨.map [],⟨#[],clock,heap_setBlock_same hb _,⟨zs,?_,zs⟩,zs,rfl⟩,λl=>by simp[Maps.has_eq],zs,rfl⟩,zs⟩,?_,by simp[setBlock]⟩;simp[Builtin.clear_,run_underlying ht,MapKept.run_getObj_map hb,MapKept.run_setObj_map _ hb,Result.andThen,setBlock];exact⟨zs,zs⟩;exact⟨rfl,rfl,rfl,by simp[setBlock],λi _ hi=>heap_setBlock_other hb _ (λe=>hi (by rw[e]))⟩
theorem cH.Kv(h:cH w b mem)(t:TypeId)(ht:Tryz.prog.underlying t=some (.map 9 4)){n:Nat}(hn:w.1.size=n):∃w',(∀ty,(Builtin.clear_ #[t] ty #[.map (some b)]).run Tryz.prog w=.ok (.tuple #[]) w')/\Hid (cH w' b []/\w.grownBy w' (some b)/\w'.1.size=n):=by obtain⟨D,⟨es,clock,hb,F,hs,rfl⟩,-⟩:=h.out;(have aj:∀ty,(Builtin.clear_ #[t] ty #[.map (some b)]).run Tryz.prog w=.ok (.tuple #[]) (setBlock w b (.map #[] clock)):=λty=>by simp[Builtin.clear_,run_underlying ht,MapKept.run_getObj_map hb,MapKept.run_setObj_map _ hb,Result.andThen,setBlock]);obtain⟨w',h1,h2,h3,h4⟩:=h.clear t ht t;(have e:w'=setBlock w b (.map #[] clock):=by have:=h1.symm.trans (aj t);injection this);exact⟨w',λty=>by rw[e];exact aj ty,h2,h3,by rw[h4];exact hn⟩
theorem cH.new(w:World):cH (w.alloc (.map #[] 0)) w.1.size []:=
 ⟨⟨.map [],World.ownsMap_made w _ _ _,λl=>by simp[Maps.has_eq],zs,rfl⟩,zs⟩
end
end
section
open Go.RowKit Go.Maps
structure PartsAt(q:Nat->Prop)(w:World)(v:Value)(fs:List (List Item)):Prop where
 out:∃ps:List Value,w.ownsRow 0 160 1 v fs.length ps/\(∀k,v.ownBlock=some k->q k)/\∀i(hi:i<fs.length),∃P,ps[i]?=some (.pointer (some ⟨P,0,none⟩))/\bX (λk=>q k/\v.ownBlock≠some k) w P fs[i]
structure dy(m:Nat->Prop)(w:World)(S:Nat)(s:af):Prop where
 out:∃(bm:Nat)(v:Value),w.cell? ⟨S,0,none⟩=some (.map (some bm))/\w.cell? ⟨S,1,none⟩=some v/\w.frozen? ⟨S,1,none⟩=false/\m S/\m bm/\bm≠S/\cH w bm s.mem/\PartsAt (λk=>m k/\k≠S/\k≠bm) w v s.fs
 lt:∀k,m k->k<w.1.size
section
variable {m m' q q' : Nat -> Prop} {w w' : World} {S b : Nat} {s : af} {v : Value} {fs : List (List Item)} {mem : List Item}
theorem PartsAt.keep(h:PartsAt q w v fs)(hk:Kept q w w'):PartsAt q w' v fs:=by obtain⟨ps,h1,h2,h3⟩:=h.out;refine⟨ps,ao h1 λk e=>hk k (h2 k e),h2,λi hi=>?_⟩;obtain⟨P,g1,g2⟩:=h3 i hi;exact⟨P,g1,g2.keep (hk.mono λk e=>e.1)⟩
theorem PartsAt.mono(h:PartsAt q w v fs)(hq:∀k,q k->q' k):PartsAt q' w v fs:=by obtain⟨ps,h1,h2,h3⟩:=h.out;refine⟨ps,h1,λk e=>hq k (h2 k e),λi hi=>?_⟩;obtain⟨P,g1,g2⟩:=h3 i hi;exact⟨P,g1,g2.mono λk e=>⟨hq k e.1,e.2⟩⟩
theorem PartsAt.nil(q:Nat->Prop)(w:World):PartsAt q w (.slice none 0 0) []:=⟨[],World.ownsRow_nil w 0 _ 1,λk hk=>by simp[Value.ownBlock]at hk,λi hi=>absurd hi zs⟩
theorem PartsAt.open_(h:PartsAt q w v fs):∃A c,v=.slice A fs.length c/\fs.length<=c/\c<=maxLen/\∀i(hi:i<fs.length),∃ad P,A=some ad/\q ad.block/\w.cell? (ad.add i)=some (.pointer (some ⟨P,0,none⟩))/\bX q w P fs[i]:=by obtain⟨ps,h1,h2,h3⟩:=h.out;rcases h1.2 with⟨rfl,hn⟩|⟨g,cap,cur,rfl,hb,hh,hc,hm,_⟩;have:fs=[]:=List.eq_nil_of_length_eq_zero hn;subst this;exact⟨none,0,rfl,zs,by simp[maxLen],λi hi=>absurd hi zs⟩;refine⟨_,cap,rfl,hc,hm,λi hi=>?_⟩;obtain⟨P,g1,g2⟩:=h3 i hi;exact⟨_,P,rfl,h2 g rfl,h1.cells (g:=g) rfl i _ g1,g2.mono λk e=>e.1⟩
theorem dy.keep(h:dy m w S s)(hk:Kept m w w')(hs:w.1.size<=w'.1.size):dy m w' S s:=by obtain⟨bm,v,h1,h2,h3,h4,h5,h6,h7,h8⟩:=h.out;exact⟨⟨bm,v,(hk.cell h4).trans h1,(hk.cell h4).trans h2,(au (hk S h4)).trans h3,h4,h5,h6,h7.keep (hk bm h5),h8.keep (hk.mono λk e=>e.1)⟩,λk e=>Nat.lt_of_lt_of_le (h.lt k e) hs⟩
theorem dy.below(h:dy m w S s)(hb:Below w.1.size w w'):dy m w' S s:=h.keep (Kept.of_below hb h.lt) hb.size
theorem dy.turn{T:Nat->Prop}(h:dy m w S s)(ht:ab T w w')(hT:∀k,m k->¬T k):dy m w' S s:=h.keep (Kept.ay ht λk e=>⟨h.lt k e,hT k e⟩) ht.size
theorem dy.mono(h:dy m w S s)(hm:∀k,m k->m' k)(hl:∀k,m' k->k<w.1.size):dy m' w S s:=by obtain⟨bm,v,h1,h2,h3,h4,h5,h6,h7,h8⟩:=h.out;exact⟨⟨bm,v,h1,h2,h3,hm _ h4,hm _ h5,h6,h7,h8.mono λk e=>⟨hm k e.1,e.2⟩⟩,hl⟩
end
structure jv(w:World)(v:Value)(ls:List Item):Prop where
 out:(∃b,v=.iface 131 (.map (some b))/\cH w b ls/\Ri ahead ls)\/(∃P,v=.iface 160 (.pointer (some ⟨P,0,none⟩))/\bX (λk=>k<w.1.size) w P ls)
theorem jv.below{w w':World}{v:Value}{ls:List Item}(h:jv w v ls)(hb:Below w.1.size w w'):jv w' v ls:=by rcases h.out with⟨b,h1,h2,h3⟩|⟨P,h1,h2⟩;exact⟨.inl ⟨b,h1,h2.keep (hb.block b h2.lt),h3⟩⟩;exact⟨.inr ⟨P,h1,h2.later hb⟩⟩
structure jd(w:World)(A:Option Addr)(ts:List (List Item)):Prop where
 out:∀i(hi:i<ts.length),∃ad v,A=some ad/\ad.block<w.1.size/\w.cell? (ad.add i)=some v/\jv w v ts[i]
theorem jd.below{w w':World}{A:Option Addr}{ts:List (List Item)}(h:jd w A ts)(hb:Below w.1.size w w'):jd w' A ts:=⟨λi hi=>by
 obtain⟨ad,v,h1,h2,h3,h4⟩:=h.out i hi
 exact⟨ad,v,h1,Nat.lt_of_lt_of_le h2 hb.size,(hb.cell jL).trans h3,h4.below hb⟩⟩
end
section
open Go.RowKit Go.Maps Go.Sort Go.Shelf
theorem J1(m:Nat):AnyZ.SortsIn Tryz.prog Tryz.sortedM_ren Fence.wide m:=
  ⟨λblk off cap ss W hH hblk bd=>callsIn_wide.2 (AnyM.slices_Sort_string Tryz.sortM blk off cap ss W hH hblk bd),
   λp cap W=>callsIn_wide.2 (AnyM.slices_Sort_string_none Tryz.sortM p cap W)⟩
theorem xo(mb:Option Nat)(W:World):CallsIn Fence.wide 5 Tryz.prog 152 #[.map mb] W λe w'=>e=.returned (.func (.func 210) #[] #[.pointer (some ⟨W.1.size,0,none⟩)])/\w'=W.alloc (.cells #[.map mb] 131):=
 AnyZ.keys_in Tryz.keysM Fence.wide 5 trivial rfl mb W
theorem pT{H:Type}(b nn:Nat)(D0:DataW H)(R:Value->Option (DataW H×List MemPlace))(w:World)(ah:w.ownsMap Tryz.prog 9 R b nn D0)(aa:Maps.size D0<=maxLen)(ai:Maps.size D0*16<=140737488355328):CallsIn Fence.wide 5 Tryz.prog 151 #[.func (.func 210) #[] #[.pointer (some ⟨w.1.size,0,none⟩)]] (w.alloc (.cells #[.map (some b)] 131)) λe w'=>∃(v:Value)(ss:List (List UInt8)),e=.returned v/\ss.Perm (strKeys D0)/\w'.ownsRow (w.alloc (.cells #[.map (some b)] 131)).1.size 9 1 v ss.length ((ss.mergeSort (λx y=>decide (x<=y))).map encStr)/\(v=.slice none 0 0↔ss=[])/\Below (w.alloc (.cells #[.map (some b)] 131)).1.size (w.alloc (.cells #[.map (some b)] 131)) w':=by have df:=ah.lt;have ba:SeqGives Fence.wide 2 Tryz.prog 210 #[.pointer (some ⟨w.1.size,0,none⟩)] encStr (λss=>ss.Perm (strKeys D0)) (Maps.size D0) (w.alloc (.cells #[.map (some b)] 131)):=AnyZ.keys_gives (ρ:=Tryz.keysM_ren) {Tryz.keysM with} Fence.wide _ trivial rfl zo w.1.size b nn D0 _ zs zs (by obtain⟨es,clock,hb,Ft,hs,hD⟩:=ah;exact⟨es,clock,(Below.heap_alloc _ _ b df).trans hb,Ft,hs,hD⟩);exact AnyZ.sorted_in Tryz.sortedM Fence.wide 5 trivial trivial trivial trivial rfl zo (J1 _) (enters_of Tryz.func209 zk rfl) 210 #[.pointer (some ⟨w.1.size,0,none⟩)] trivial (enters_of Tryz.func210 zk rfl) _ _ aa ai _ ba
theorem uP{l m:List Item}(hp:l.Perm m)(h:Ri ahead m):l.mergeSort (λx y=>decide (x<=y))=m:=by have h1:=mergeSort_of_perm hp;unfold leB at h1;rw[h1];refine List.mergeSort_of_pairwise (List.Pairwise.imp (λ{x y}e=>?_) h);rw[gQ,decide_eq_true_eq]at e;exact decide_eq_true (List.le_of_lt e)
theorem yy{w:World}{b:Nat}{mem:List Item}(h:cH w b mem)(hr:Ri ahead mem)(hn:mem.length<=1000):Calls Tryz.prog 151 #[.func (.func 210) #[] #[.pointer (some ⟨w.1.size,0,none⟩)]] (w.alloc (.cells #[.map (some b)] 131)) λe w'=>∃A c,e=.returned (.slice A mem.length c)/\ae w' w'.1.size A (mem.map encStr)/\Below w.1.size w w':=by obtain⟨D,h1,h2,h3⟩:=h.keys;refine(callsIn_wide.1 (pT b _ D _ w h1 (by rw[h3];exact fB) (by rw[h3];omega))).mono ?_;rintro e w' ⟨v,ss,rfl,aj,bm,-,hb⟩;have hp:ss.Perm mem:=aj.trans h2.symm;rw[uP hp hr,hp.length_eq]at bm;have aG:Below w.1.size w w':=((Below.refl _ w).alloc (Nat.le_refl _) _).trans (hb.mono zs);have aa:=bm;rcases bm.2 with⟨rfl,hn0⟩|⟨g,cap,cur,rfl,-,-,-,-⟩;exact⟨none,0,by rw[hn0],⟨.inl (by rw[List.eq_nil_of_length_eq_zero hn0];rfl)⟩,aG⟩;exact⟨_,cap,rfl,ae.fK aa,aG⟩
end
section
open Go.RowKit Go.Maps
theorem jA(l:List UInt8):(strOf l).data.toList=l:=rfl
theorem ew(l:List UInt8):(strOf l).size=l.length:=by simp[strOf,ByteArray.size]
theorem CB(W:World)(l:Item):∃(W':World)(c:Nat),(convert 9 48 (.string (strOf l))).run Tryz.prog W=.ok (.slice (some ⟨W.1.size,0,none⟩) l.length c) W'/\l.length<=c/\W'.1.size=W.1.size+1/\Below W.1.size W W'/\∀j u,(bv l)[j]?=some u->W'.cell? ⟨W.1.size,j,none⟩=some u:=by refine⟨Lib.bytesWorld W 5 (strOf l),grownCap W (strOf l).size 0 5,?_,?_,Lib.bytesWorld_size _ _ _,⟨rfl,rfl,rfl,by rw[Lib.bytesWorld_size];omega,λk hk=>Lib.bytesWorld_at_old _ _ _ _ hk⟩,λj u hu=>?_⟩;rw[Lib.run_convert_string_bytes (P:=Tryz.prog) W 9 48 5 (strOf l) Tryz.underlying9 Tryz.underlying48 Tryz.underlying5,ew];rw[<-ew l];exact grownCap_ge W (strOf l).size 0 5;(have hj:j<l.length:=by have:=(List.getElem?_eq_some_iff.1 hu).1;rwa [aY]at this);rw[Lib.bytesWorld_cell W _ (strOf l) j (by rw[ew];exact hj),jA];rw[kG l j hj]at hu;rw[<-hu,List.getD_eq_getElem?_getD,List.getElem?_eq_getElem hj];rfl
theorem N5{p:Prop}(h:p:=by have:=a8.out;simp;omega):p:=h
theorem r9(b:Nat)(mem:List Item)(w:World)(hM:cH w b mem)(hr:Ri ahead mem)(hn:mem.length<=1000)(hy:∀x∈mem,x.length<=1000):Calls Tryz.prog 105 #[.map (some b)] w (qS w mem):=by have hK:=Lib.hid (callsIn_wide.1 (xo (some b) w));have hS:=Lib.hid (yy hM hr hn);obtain⟨n,cf⟩:∃n,mem.length=n:=⟨_,rfl⟩;rw[cf]at hS hn;have cm:=Lib.hid cf;have HY:=Lib.hid hy;clear cf hy hM hr;go_enter Tryz.func105,Tryz.ntmps105;go_wp2_with fail;refine hK.out.mono ?_;rintro e w1 ⟨rfl,rfl⟩;go_wp2_with fail;refine hS.out.mono ?_;rintro e w2 ⟨A,c,rfl,hA,aG⟩;have bW:=aG.size;clear hK hS;go_wp2;go_loopg [3,10] n (λg u i wr=>∃k:Nat,k+g=n/\i=.int .i64 k/\dj wr w2.1.size u (mem.take k)/\Below w2.1.size w2 wr);(case atStart=>exact⟨0,zo,rfl,dj.nil _ _,Below.refl _ _⟩);case round=>obtain⟨k,hk,rfl,ah,hb⟩:=hrel;have b7:=hb.size;have c6:=hA.below hb;by_cases a6:k<n;(·obtain⟨ad,rfl,-,ai⟩:=c6.at_ (k:=k) (by rw[List.length_map,cm.out];exact a6);have hT:=Lib.hid (lE (l:=mem) (k:=k) (by rw[cm.out];exact a6));have hY:=HY.out (mem[k]'(by rw[cm.out];exact a6)) (List.getElem_mem _);rw[List.getElem_map]at ai;obtain⟨L,hL⟩:∃L,mem[k]'(by rw[cm.out];exact a6)=L:=⟨_,rfl⟩;rw[hL]at ai hT hY;have aa:wr.cell? (ad.add k)=some (.string (strOf L)):=ai;clear hL ai;obtain⟨W3,cL,an,bY,aj,bf,b4⟩:=CB wr L;have a8:=Lib.hid aj;clear aj;obtain⟨tk,bn⟩:∃tk,mem.take k=tk:=⟨_,rfl⟩;rw[bn]at ah hT;(have bc:tk.length<=1000:=by rw[<-bn,List.length_take];omega);(have cF:∀g,u3.ownBlock=some g->g<wr.1.size:=λg e=>by obtain⟨vs,h1,-⟩:=ah.out;exact(World.ownsRow.lt h1 g e).2);clear bn;have ba:db (W3.alloc (.cells #[.slice (some ⟨wr.1.size,0,none⟩) L.length cL] 48)) w2.1.size u3.ownBlock (some ⟨wr.1.size,0,none⟩) (bv L):=⟨.inr ⟨_,rfl,b7,N5,λe=>by have:=cF _ e.symm;simp at this,λj u hu=>by rw[Addr.add_lit,World.cell?_alloc_lt _ _ _ N5];simpa using b4 j u hu⟩⟩;go_wp2_with (at_builtin;(refine gd rfl (.tmp 14) (.tmp 17) rfl w2.1.size _ tk zr ((ah.below bf).below ((Below.refl _ _).alloc (Nat.le_refl _) _)) ⟨W3.1.size,0,none⟩ 1 L (some ⟨wr.1.size,0,none⟩) cL zr fM bY ba zo N5 ?_;intro v2 w4 b3 bb a7));(have bh:Below w2.1.size w2 w4:=by refine(hb.trans (bf.mono b7)).trans (((Below.refl _ W3).alloc (zu a8.out) _).trans ((Below.refl _ _).grown bb N5 (λg e=>?_)));obtain⟨vs,h1,-⟩:=ah.out;exact(World.ownsRow.lt h1 g e).1);go_roundg (n-(k+1));(case measure=>omega);case rel=>exact⟨k+1,zo,by go_num,by rw[hT.out];exact b3,bh⟩);·(obtain rfl:k=n:=by omega);(have hE:Hid (mem.take k=mem):=by unfold Hid;rw[<-cm.out];exact List.take_length);go_wp2;go_ret;exact⟨_,rfl,by rw[<-hE.out];exact ah.aP bW,aG.trans (hb.mono bW)⟩
end
end
end Go.Proofs.YtalmnodgjjcefaaGreatDoor
