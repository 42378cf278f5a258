/- Several texts in one: TgPlain TgSet TgMem TgAt TgIter TgSorted. -/
import Derived.Test.YtalmnodgjjcefaaGreatDoorJKmA
import Derived.Test.YtalmnodgjjcefaaGreatDoorJIpE
import Derived.Test.YtalmnodgjjcefaaGreatDoorJRfA
import Derived.Maps.OwnSet
import Derived.StringKeys
import Derived.Sort.KeysCollected
import Derived.Shelf.SlIter.Nil
import Derived.Shelf.SortM.Plain
import Derived.Shelf.SortM.SortNone
import Derived.Test.YtalmnodgjjcefaaGreatDoorJShelf
import Derived.Lib.ConvBytes
set_option maxRecDepth 100000
set_option maxHeartbeats 1000000
namespace Go.Proofs.YtalmnodgjjcefaaGreatDoor
section
section
variable {κ : Type} {lt : κ → κ → Bool}
theorem Ri.filter {l:List κ}(hr:Ri lt l) (p:κ→Bool):Ri lt (l.filter p):=List.Pairwise.filter p hr
end
section
variable {κ : Type} [DecidableEq κ] {lt : κ → κ → Bool}
theorem uniq_filter (h:Ordr lt) (p:κ→Bool) (l:List κ):uniqL lt (l.filter p)=(uniqL lt l).filter p :=
 uniqL_of h ((uniqL_ri h l).filter p) fun x=>by rw[List.mem_filter,List.mem_filter,uniqL_mem h]
theorem uniq_flat_filter (h:Ordr lt) (p:κ→Bool) (ll:List (List κ)):uniqL lt ((ll.map fun t=>t.filter p).flatten)=(uniqL lt ll.flatten).filter p:=by
 rw[←uniq_filter h,List.filter_flatten]
theorem uniq_append_comm (h:Ordr lt) (a b:List κ):uniqL lt (a++b)=uniqL lt (b++a):=uniqL_congr h fun x=>by rw[List.mem_append,List.mem_append];exact Or.comm
end
end
section
open Go.RowKit
theorem KBo:Ordr ahead:=KB.ordr
structure SetM where
 mem:List Item
 fs:List (List Item)
def SetM.all (s:SetM):List Item:=uniqL ahead (s.fs.flatten++s.mem)
def SetM.tiers (s:SetM):List (List Item):=s.mem :: s.fs
def SetM.total (s:SetM):Nat:=s.fs.flatten.length+s.mem.length
def SetM.has (s:SetM) (x:Item):Bool:=s.tiers.any fun f=>decide (x∈f)
def SetM.new:SetM:=⟨[], []⟩
theorem SetM.has_eq (s:SetM) (x:Item):s.has x=decide (x∈s.all):=by
 rw[←Bool.coe_iff_coe]
 unfold SetM.has SetM.all SetM.tiers
 rw[decide_eq_true_eq,uniqL_mem KBo,List.any_eq_true,List.mem_append,List.mem_flatten]
 constructor
 ·rintro ⟨f,hf,h⟩
  rcases List.mem_cons.1 hf with rfl|hf
  ·exact .inr (of_decide_eq_true h)
  ·exact .inl ⟨f,hf,of_decide_eq_true h⟩
 ·rintro (⟨f,hf,h⟩|h)
  ·exact ⟨f,List.mem_cons_of_mem _ hf,decide_eq_true h⟩
  ·exact ⟨s.mem,List.mem_cons_self,decide_eq_true h⟩
def SetM.add (s:SetM) (x:Item):SetM×Nat :=
 if badL x=true then (s,1) else if s.has x=true then (s,0) else if 500≤s.mem.length then (s,2) else (⟨uniqL ahead (s.mem ++ [x]),s.fs⟩,0)
def SetM.flush (s:SetM):SetM×List UInt8×Bool :=
 if s.mem.length=0∨100≤s.fs.length then (s, [],false) else (⟨[],s.fs ++ [s.mem]⟩,fileB s.mem,true)
theorem rises_ri:∀ {l:List Item},Ri ahead l→risesB l=true
 | [],_=>rfl
 | [_],_=>rfl
 | a :: b :: t,h=>by
  have h':=List.pairwise_cons.1 h
  have h1:ahead a b=true:=h'.1 b (by simp)
  show (ahead a b && risesB (b :: t))=true
  rw[h1,rises_ri h'.2];rfl
theorem ok_ri {l:List Item}(h:Ri ahead l) (hf:∀x∈l,badL x=false):okB l=true:=by
 unfold okB
 rw[rises_ri h,Bool.true_and,Bool.not_eq_true']
 rw[List.any_eq_false]
 intro x hx
 rw[hf x hx];simp
theorem ri_ok {l:List Item}(h:okB l=true):Ri ahead l:=rises_pw (ok_parts h).1
theorem build_ri {l:List Item}(h:Ri ahead l) (hf:∀x∈l,badL x=false) (h0:l.length≠0) (hn:l.length≤1200):buildE l=0:=by
 have hok:=ok_ri h hf
 have hbl:=blk_length l
 have hlen:=idxs_len (blk l) 0 (blk_checks hok) (by omega)
 have hv:=venc_le2 (u:=(blk l).length) (by omega)
 unfold buildE
 rw[if_neg (by omega),if_neg (by rw[hok];simp;exact fun e=>h0 (by rw[e];rfl)),if_neg]
 unfold tabB
 rw[List.length_append]
 omega
theorem build_ok {l:List Item}(h:buildE l=0):Ri ahead l∧(∀x∈l,badL x=false)∧0<l.length∧l.length≤2000 :=
 ⟨ri_ok (buildE_ok h).2.2.1,(ok_parts (buildE_ok h).2.2.1).2,(buildE_ok h).2.1,(buildE_ok h).1⟩
theorem file_len2 {ls:List Item}(h:buildE ls=0):4≤(fileB ls).length∧(fileB ls).length≤990000:=by
 obtain ⟨h1,h2,h3,h4⟩:=buildE_ok h
 have h5:=outs_len (blk ls) (blk_checks h3)
 have h6:=blk_length ls
 have h7:=venc_le4 (u:=(tabB (blk ls)).length) (by omega)
 unfold fileB
 rw[List.length_append,List.length_append,frameOf_len]
 have:(place4 (outs (blk ls)).length).length=4:=by unfold place4 tail4;rfl
 omega
structure SetOk (s:SetM):Prop where
 rise:Ri ahead s.mem
 fine:∀x∈s.mem,badL x=false
 few:s.mem.length≤500
 files:∀f∈s.fs,buildE f=0
theorem SetOk.new:SetOk SetM.new:=⟨List.Pairwise.nil,by simp[SetM.new],by simp[SetM.new],by simp[SetM.new]⟩
theorem SetOk.bad {s:SetM}(h:SetOk s):∀t∈s.tiers,∀x∈t,badL x=false:=fun t ht=>by
 rcases List.mem_cons.1 ht with rfl|ht
 ·exact h.fine
 ·exact (build_ok (h.files t ht)).2.1
theorem SetOk.add {s:SetM}(h:SetOk s) (x:Item):SetOk (s.add x).1:=by
 unfold SetM.add
 split
 ·exact h
 ·split
  ·exact h
  ·split
   ·exact h
   ·rename_i h1 _ h3
    refine ⟨uniqL_ri KBo _,fun y hy => ?_,?_,h.files⟩
    ·rcases List.mem_append.1 ((uniqL_mem KBo _ y).1 hy) with hy|hy
     ·exact h.fine y hy
     ·rw[List.mem_singleton.1 hy];simpa using h1
    ·have:=uniqL_len KBo (s.mem ++ [x])
     rw[List.length_append] at this
     simp only[List.length_singleton] at this
     simp only
     have e:(uniqL ahead (s.mem ++ [x])).length≤s.mem.length+1:=this
     omega
theorem SetOk.flush {s:SetM}(h:SetOk s):SetOk s.flush.1:=by
 unfold SetM.flush
 split
 ·exact h
 ·rename_i h1
  rw[not_or] at h1
  refine ⟨List.Pairwise.nil,by simp,by simp,fun f hf => ?_⟩
  rcases List.mem_append.1 hf with hf|hf
  ·exact h.files f hf
  ·rw[List.mem_singleton.1 hf]
   exact build_ri h.rise h.fine h1.1 (by have:=h.few;omega)
theorem add_total (s:SetM) (x:Item):(s.add x).1.total≤s.total+1:=by
 unfold SetM.add
 split
 ·simp
 ·split
  ·simp
  ·split
   ·simp
   ·have:=uniqL_len KBo (s.mem ++ [x])
    have e:(uniqL ahead (s.mem ++ [x])).length≤s.mem.length+1:=by rw[List.length_append] at this;exact this
    unfold SetM.total
    simp only
    omega
theorem flush_total (s:SetM):s.flush.1.total=s.total:=by
 unfold SetM.flush
 split
 ·rfl
 ·unfold SetM.total;simp
theorem flush_all (s:SetM):s.flush.1.all=s.all:=by
 unfold SetM.flush
 split
 ·rfl
 ·unfold SetM.all;simp
theorem mem_all (s:SetM) (x:Item):x∈s.all↔x∈s.fs.flatten∨x∈s.mem:=by unfold SetM.all;rw[uniqL_mem KBo,List.mem_append]
theorem tiers_all (s:SetM):uniqL ahead s.tiers.flatten=s.all:=by
 unfold SetM.all SetM.tiers
 rw[List.flatten_cons]
 exact uniq_append_comm KBo _ _
theorem all_len (s:SetM):s.all.length≤s.total:=by
 have:=uniqL_len KBo (s.fs.flatten++s.mem)
 rw[List.length_append] at this
 exact this
theorem tiers_len (s:SetM):s.tiers.flatten.length=s.total:=by unfold SetM.tiers SetM.total;rw[List.flatten_cons,List.length_append];omega
theorem tell_prefix (s:SetM) (x:Item):uniqL ahead ((s.tiers.map fun t=>t.filter (preB x)).flatten)=s.all.filter (preB x):=by
 rw[←tiers_all]
 exact uniq_flat_filter KBo _ _
end
section
open Go.RowKit Go.Maps Go.ChangeMaps
def boolEl:Value→Option (DataW Unit×List MemPlace)
 | .bool x=>some (.lit (.bool x), [])
 | _=>none
abbrev litB (b:Bool):DataW Unit := .lit (.bool b)
abbrev strK (l:Item):Lit := .string l
theorem litB_inj {a b:Bool}(h:litB a=litB b):a=b:=by simpa[litB] using h
structure MemAt (w:World) (b:Nat) (mem:List Item):Prop where
 out:∃D,w.ownsMap Tryz.prog 9 boolEl b mem.length D∧(∀l,Maps.has D (strK l)=decide (l∈mem))∧(∀l,l∈mem→D.atKey (strK l) (litB false)=litB true)∧Maps.size D=mem.length
 nodup:mem.Nodup
theorem law_str:Keyed Tryz.prog 9:=string_keyed Tryz.underlying9
theorem zero_bool (w:World):(zeroValue 4).run Tryz.prog w = .ok (.bool false) w:=by kernel_rfl
theorem key_str {s:ByteArray}(h:s.size≤maxLen):keyOf Tryz.prog 9 (.string s)=some (.string s.data.toList):=WideMaps.keyOf_string_mk Tryz.underlying9 h
theorem boolEl_inv {v:Value}{z:DataW Unit×List MemPlace}(h:boolEl v=some z):∃b,v = .bool b∧z=(litB b, []):=by
 unfold boolEl at h
 split at h
 ·exact ⟨_,rfl,(Option.some.inj h).symm⟩
 ·cases h
section
variable {w w' : World} {b : Nat} {mem : List Item}
theorem MemAt.lt (h:MemAt w b mem):b<w.heap.size:=by obtain ⟨D,h1, -⟩:=h.out;exact h1.lt
theorem MemAt.keep (h:MemAt w b mem) (hk:w'.heap[b]?=w.heap[b]?):MemAt w' b mem:=by
 obtain ⟨D,⟨es,clock,hb,r⟩,h2⟩:=h.out
 exact ⟨⟨D,⟨es,clock,hk.trans hb,r⟩,h2⟩,h.nodup⟩
theorem MemAt.perm {mem' : List Item}(h:MemAt w b mem) (hp:mem.Perm mem'):MemAt w b mem':=by
 obtain ⟨D,h1,h2,h3,h4⟩:=h.out
 refine ⟨⟨D,by rw[←hp.length_eq];exact h1,fun l => ?_,fun l hl=>h3 l (hp.mem_iff.2 hl),by rw[←hp.length_eq];exact h4⟩,hp.nodup_iff.1 h.nodup⟩
 rw[h2 l,decide_eq_decide]
 exact hp.mem_iff
theorem MemAt.keys (h:MemAt w b mem):∃D,w.ownsMap Tryz.prog 9 boolEl b mem.length D∧mem.Perm (strKeys D)∧Maps.size D=mem.length:=by
 obtain ⟨D,h1,h2,h3,h4⟩:=h.out
 refine ⟨D,h1,?_,h4⟩
 obtain ⟨es,rfl,hpw, -⟩:=h1.entries law_str
 obtain ⟨es',e,hko⟩:=h1.keysOf
 obtain rfl:es=es':=by simpa using e
 exact perm_strKeys hpw (fun p hp=>by
  obtain ⟨v,hv⟩:=hko p hp
  obtain ⟨x, -,hx, -⟩:=Maps.keyOf_str Tryz.underlying9 hv
  exact ⟨x,hx⟩) h.nodup fun x=>by rw[h2 x,decide_eq_true_eq]
theorem MemAt.look (h:MemAt w b mem) (t:TypeId) (ht:Tryz.prog.underlying t=some (.map 9 4)) {s:ByteArray}(hs:s.size≤maxLen) :
  (Instr.lookup t (.map (some b)) (.string s) false).run Tryz.prog w = .ok (.bool (decide (s.data.toList∈mem))) w:=by
 obtain ⟨D,h1,h2,h3,h4⟩:=h.out
 obtain ⟨v,ps,hrun,hv⟩:=h1.lookup law_str ht (zero_bool w) (zd:=litB false) (zp := []) (rfl) (key_str hs)
 obtain ⟨c,rfl,e⟩:=boolEl_inv hv
 have e1:D.atKey (strK s.data.toList) (litB false)=litB c:=congrArg Prod.fst e
 have hc:decide (s.data.toList∈mem)=c:=by
  by_cases hx:s.data.toList∈mem
  ·rw[h3 _ hx] at e1
   rw[decide_eq_true hx]
   exact litB_inj e1
  ·have h5:=h2 s.data.toList
   rw[decide_eq_false hx] at h5
   rw[Maps.atKey_of_not_has h5] at e1
   rw[decide_eq_false hx]
   exact litB_inj e1
 rw[hc]
 exact hrun
theorem MemAt.len (h:MemAt w b mem) (t:TypeId) (ht:Tryz.prog.underlying t=some (.map 9 4)) (ty:TypeId):(Builtin.len_ #[t] ty #[.map (some b)]).run Tryz.prog w = .ok (.int .i64 mem.length) w:=by
 obtain ⟨D,h1,h2,h3,h4⟩:=h.out
 rw[h1.len ht ty,h4]
theorem MemAt.store (h:MemAt w b mem) (t:TypeId) (ht:Tryz.prog.underlying t=some (.map 9 4)) (hn:mem.length<100000) {s:ByteArray}(hs:s.size≤maxLen) (hx:s.data.toList ∉ mem) :
  ∃w',(Instr.mapUpdate t (.map (some b)) (.string s) (.bool true)).run Tryz.prog w = .ok () w'∧MemAt w' b (mem ++ [s.data.toList])∧w.grownBy w' (some b)∧w'.heap.size=w.heap.size:=by
 obtain ⟨D,h1,h2,h3,h4⟩:=h.out
 obtain ⟨w',hrun,r1,r2⟩:=h1.store law_str ht (by simp only[maxLen];omega) (key_str hs) ((rfl:boolEl (.bool true)=some (litB true, [])))
 have hkl:WideAt.IsKeyLit (strK s.data.toList):=by trivial
 have h5:=h2 s.data.toList
 rw[decide_eq_false hx] at h5
 have hD:=h1.isMap
 refine ⟨w',hrun,⟨⟨_,by rw[List.length_append];exact r1,fun l => ?_,fun l hl => ?_,?_⟩,?_⟩,r2.grown,?_⟩
 ·by_cases e:l=s.data.toList
  ·subst e
   rw[Maps.has_put_same hD hkl,decide_eq_true (by simp)]
  ·rw[Maps.has_put_other (by intro e2;injection e2 with e2;exact e e2),h2 l,decide_eq_decide]
   simp[e]
 ·by_cases e:l=s.data.toList
  ·subst e
   exact Maps.atKey_put_same hD hkl _ _
  ·rw[Maps.atKey_put_other (by intro e2;injection e2 with e2;exact e e2)]
   refine h3 l ?_
   rcases List.mem_append.1 hl with hl|hl
   ·exact hl
   ·exact absurd (List.mem_singleton.1 hl) e
 ·rw[Maps.size_put (h1.tidy law_str),h5]
  simp[h4]
 ·refine List.nodup_append.2 ⟨h.nodup,by simp,fun a ha c hc => ?_⟩
  rw[List.mem_singleton.1 hc]
  exact fun e=>hx (e ▸ ha)
 ·obtain ⟨es,clock,es',clock', -,rfl⟩:=r2
  simp[setBlock]
theorem MemAt.clear (h:MemAt w b mem) (t:TypeId) (ht:Tryz.prog.underlying t=some (.map 9 4)) (ty:TypeId) :
  ∃w',(Builtin.clear_ #[t] ty #[.map (some b)]).run Tryz.prog w = .ok (.tuple #[]) w'∧MemAt w' b []∧w.grownBy w' (some b)∧w'.heap.size=w.heap.size:=by
 obtain ⟨D,⟨es,clock,hb,F,hs,rfl⟩, -⟩:=h.out
 refine ⟨setBlock w b (.map #[] clock),?_,⟨⟨.map [],⟨#[],clock,heap_setBlock_same hb _,⟨by simp,?_,by simp⟩,by simp,rfl⟩,fun l=>by simp[Maps.has_eq],by simp,rfl⟩,by simp⟩,?_,by simp[setBlock]⟩
 ·simp[Builtin.clear_,run_underlying ht,MapKept.run_getObj_map hb,MapKept.run_setObj_map _ hb,Result.andThen,setBlock]
 ·exact ⟨by simp,by simp⟩
 ·exact ⟨rfl,rfl,rfl,by simp[setBlock],fun i _ hi=>heap_setBlock_other hb _ (fun e=>hi (by rw[e]))⟩
theorem MemAt.clear' (h:MemAt w b mem) (t:TypeId) (ht:Tryz.prog.underlying t=some (.map 9 4)) {n:Nat}(hn:w.heap.size=n) :
  ∃w',(∀ty,(Builtin.clear_ #[t] ty #[.map (some b)]).run Tryz.prog w = .ok (.tuple #[]) w')∧Hid (MemAt w' b []∧w.grownBy w' (some b)∧w'.heap.size=n):=by
 obtain ⟨D,⟨es,clock,hb,F,hs,rfl⟩, -⟩:=h.out
 have hrun:∀ty,(Builtin.clear_ #[t] ty #[.map (some b)]).run Tryz.prog w = .ok (.tuple #[]) (setBlock w b (.map #[] clock)):=fun ty=>by
  simp[Builtin.clear_,run_underlying ht,MapKept.run_getObj_map hb,MapKept.run_setObj_map _ hb,Result.andThen,setBlock]
 obtain ⟨w',h1,h2,h3,h4⟩:=h.clear t ht t
 have e:w'=setBlock w b (.map #[] clock):=by
  have:=h1.symm.trans (hrun t)
  injection this
 exact ⟨w',fun ty=>by rw[e];exact hrun ty,h2,h3,by rw[h4];exact hn⟩
theorem MemAt.new (w:World):MemAt (w.alloc (.map #[] 0)) w.heap.size [] :=
 ⟨⟨.map [],World.ownsMap_made w _ _ _,fun l=>by simp[Maps.has_eq],by simp,rfl⟩,by simp⟩
end
end
section
open Go.RowKit Go.Maps
structure PartsAt (q:Nat→Prop) (w:World) (v:Value) (fs:List (List Item)):Prop where
 out:∃ps:List Value,w.ownsRow 0 160 1 v fs.length ps∧(∀k,v.ownBlock=some k→q k)∧∀i (hi:i<fs.length),∃P,ps[i]?=some (.pointer (some ⟨P,0,none⟩))∧PartAt (fun k=>q k∧v.ownBlock≠some k) w P fs[i]
structure SetAt (m:Nat→Prop) (w:World) (S:Nat) (s:SetM):Prop where
 out:∃(bm:Nat) (v:Value),w.cell? ⟨S,0,none⟩=some (.map (some bm))∧w.cell? ⟨S,1,none⟩=some v∧w.frozen? ⟨S,1,none⟩=false∧m S∧m bm∧bm≠S∧MemAt w bm s.mem∧PartsAt (fun k=>m k∧k≠S∧k≠bm) w v s.fs
 lt:∀k,m k→k<w.heap.size
section
variable {m m' q q' : Nat → Prop} {w w' : World} {S b : Nat} {s : SetM} {v : Value} {fs : List (List Item)} {mem : List Item}
theorem PartsAt.keep (h:PartsAt q w v fs) (hk:Kept q w w'):PartsAt q w' v fs:=by
 obtain ⟨ps,h1,h2,h3⟩:=h.out
 refine ⟨ps,ownsRow_kept h1 fun k e=>hk k (h2 k e),h2,fun i hi => ?_⟩
 obtain ⟨P,g1,g2⟩:=h3 i hi
 exact ⟨P,g1,g2.keep (hk.mono fun k e=>e.1)⟩
theorem PartsAt.mono (h:PartsAt q w v fs) (hq:∀k,q k→q' k):PartsAt q' w v fs:=by
 obtain ⟨ps,h1,h2,h3⟩:=h.out
 refine ⟨ps,h1,fun k e=>hq k (h2 k e),fun i hi => ?_⟩
 obtain ⟨P,g1,g2⟩:=h3 i hi
 exact ⟨P,g1,g2.mono fun k e=>⟨hq k e.1,e.2⟩⟩
theorem PartsAt.nil (q:Nat→Prop) (w:World):PartsAt q w (.slice none 0 0) []:=⟨[],World.ownsRow_nil w 0 _ 1,fun k hk=>by simp[Value.ownBlock] at hk,fun i hi=>absurd hi (by simp)⟩
theorem PartsAt.open_ (h:PartsAt q w v fs):∃A c,v = .slice A fs.length c∧fs.length≤c∧c≤maxLen∧∀i (hi:i<fs.length),∃ad P,A=some ad∧q ad.block∧w.cell? (ad.add i)=some (.pointer (some ⟨P,0,none⟩))∧PartAt q w P fs[i]:=by
 obtain ⟨ps,h1,h2,h3⟩:=h.out
 rcases h1.2 with ⟨rfl,hn⟩|⟨g,cap,cur,rfl,hb,hh,hc,hm,_⟩
 ·have:fs = []:=List.eq_nil_of_length_eq_zero hn
  subst this
  exact ⟨none,0,rfl,by simp,by simp[maxLen],fun i hi=>absurd hi (by simp)⟩
 ·refine ⟨_,cap,rfl,hc,hm,fun i hi => ?_⟩
  obtain ⟨P,g1,g2⟩:=h3 i hi
  exact ⟨_,P,rfl,h2 g rfl,h1.cells (g:=g) rfl i _ g1,g2.mono fun k e=>e.1⟩
theorem SetAt.keep (h:SetAt m w S s) (hk:Kept m w w') (hs:w.heap.size≤w'.heap.size):SetAt m w' S s:=by
 obtain ⟨bm,v,h1,h2,h3,h4,h5,h6,h7,h8⟩:=h.out
 exact ⟨⟨bm,v,(hk.cell h4).trans h1,(hk.cell h4).trans h2,(frozen_of_block (hk S h4)).trans h3,h4,h5,h6,h7.keep (hk bm h5),h8.keep (hk.mono fun k e=>e.1)⟩,fun k e=>Nat.lt_of_lt_of_le (h.lt k e) hs⟩
theorem SetAt.below (h:SetAt m w S s) (hb:Below w.heap.size w w'):SetAt m w' S s:=h.keep (Kept.of_below hb h.lt) hb.size
theorem SetAt.turn {T:Nat→Prop}(h:SetAt m w S s) (ht:Turn T w w') (hT:∀k,m k→¬ T k):SetAt m w' S s:=h.keep (Kept.of_turn ht fun k e=>⟨h.lt k e,hT k e⟩) ht.size
theorem SetAt.mono (h:SetAt m w S s) (hm:∀k,m k→m' k) (hl:∀k,m' k→k<w.heap.size):SetAt m' w S s:=by
 obtain ⟨bm,v,h1,h2,h3,h4,h5,h6,h7,h8⟩:=h.out
 exact ⟨⟨bm,v,h1,h2,h3,hm _ h4,hm _ h5,h6,h7,h8.mono fun k e=>⟨hm k e.1,e.2⟩⟩,hl⟩
end
structure TierAt (w:World) (v:Value) (ls:List Item):Prop where
 out:(∃b,v = .iface 131 (.map (some b))∧MemAt w b ls∧Ri ahead ls)∨(∃P,v = .iface 160 (.pointer (some ⟨P,0,none⟩))∧PartAt (fun k=>k<w.heap.size) w P ls)
theorem TierAt.below {w w' : World}{v:Value}{ls:List Item}(h:TierAt w v ls) (hb:Below w.heap.size w w'):TierAt w' v ls:=by
 rcases h.out with ⟨b,h1,h2,h3⟩|⟨P,h1,h2⟩
 ·exact ⟨.inl ⟨b,h1,h2.keep (hb.block b h2.lt),h3⟩⟩
 ·exact ⟨.inr ⟨P,h1,h2.later hb⟩⟩
structure TiersAt (w:World) (A:Option Addr) (ts:List (List Item)):Prop where
 out:∀i (hi:i<ts.length),∃ad v,A=some ad∧ad.block<w.heap.size∧w.cell? (ad.add i)=some v∧TierAt w v ts[i]
theorem TiersAt.below {w w' : World}{A:Option Addr}{ts:List (List Item)}(h:TiersAt w A ts) (hb:Below w.heap.size w w'):TiersAt w' A ts:=⟨fun i hi=>by
 obtain ⟨ad,v,h1,h2,h3,h4⟩:=h.out i hi
 exact ⟨ad,v,h1,Nat.lt_of_lt_of_le h2 hb.size,(hb.cell (by rw[add_block];exact h2)).trans h3,h4.below hb⟩⟩
end
section
open Go.RowKit Go.Maps Go.Sort Go.Shelf
theorem sortsM (m:Nat):AnyZ.SortsIn Tryz.prog Tryz.sortedM_ren Fence.wide m :=
  ⟨fun blk off cap ss W hH hblk hsz=>callsIn_wide.2 (AnyM.slices_Sort_string Tryz.sortM blk off cap ss W hH hblk hsz),
   fun p cap W=>callsIn_wide.2 (AnyM.slices_Sort_string_none Tryz.sortM p cap W)⟩
theorem maps_Keys_M (mb:Option Nat) (W:World):CallsIn Fence.wide 5 Tryz.prog 152 #[.map mb] W fun e w'=>e = .returned (.func (.func 210) #[] #[.pointer (some ⟨W.heap.size,0,none⟩)])∧w'=W.alloc (.cells #[.map mb] 131) :=
 AnyZ.keys_in Tryz.keysM Fence.wide 5 trivial rfl mb W
theorem slices_Sorted_M {H:Type}(b nn:Nat) (D0:DataW H) (R:Value→Option (DataW H×List MemPlace)) (w:World) (hown:w.ownsMap Tryz.prog 9 R b nn D0) (hmax:Maps.size D0≤maxLen) (hbytes:Maps.size D0*16≤140737488355328) :
  CallsIn Fence.wide 5 Tryz.prog 151 #[.func (.func 210) #[] #[.pointer (some ⟨w.heap.size,0,none⟩)]] (w.alloc (.cells #[.map (some b)] 131)) fun e w'=>∃(v:Value) (ss:List (List UInt8)),e = .returned v∧ss.Perm (strKeys D0) ∧
   w'.ownsRow (w.alloc (.cells #[.map (some b)] 131)).heap.size 9 1 v ss.length ((ss.mergeSort (fun x y=>decide (x≤y))).map encStr)∧(v = .slice none 0 0↔ss = [])∧Below (w.alloc (.cells #[.map (some b)] 131)).heap.size (w.alloc (.cells #[.map (some b)] 131)) w':=by
 have hbl:=hown.lt
 have hseq:SeqGives Fence.wide 2 Tryz.prog 210 #[.pointer (some ⟨w.heap.size,0,none⟩)] encStr (fun ss=>ss.Perm (strKeys D0)) (Maps.size D0) (w.alloc (.cells #[.map (some b)] 131)) :=
  AnyZ.keys_gives (ρ:=Tryz.keysM_ren) { Tryz.keysM with } Fence.wide _ trivial rfl (by omega) w.heap.size b nn D0 _ (by simp) (by simp) (by
   obtain ⟨es,clock,hb,Ft,hs,hD⟩:=hown
   exact ⟨es,clock,(Below.heap_alloc _ _ b hbl).trans hb,Ft,hs,hD⟩)
 exact AnyZ.sorted_in Tryz.sortedM Fence.wide 5 trivial trivial trivial trivial rfl (by omega) (sortsM _) (enters_of Tryz.func209 (by kernel_rfl) rfl) 210 #[.pointer (some ⟨w.heap.size,0,none⟩)] trivial (enters_of Tryz.func210 (by kernel_rfl) rfl) _ _ hmax hbytes _ hseq
theorem mergeSort_ri {l m:List Item}(hp:l.Perm m) (h:Ri ahead m):l.mergeSort (fun x y=>decide (x≤y))=m:=by
 have h1:=mergeSort_of_perm hp
 unfold leB at h1
 rw[h1]
 refine List.mergeSort_of_pairwise (List.Pairwise.imp (fun {x y} e => ?_) h)
 rw[ahead_eq,decide_eq_true_eq] at e
 exact decide_eq_true (List.le_of_lt e)
theorem Sorted_mem {w:World}{b:Nat}{mem:List Item}(h:MemAt w b mem) (hr:Ri ahead mem) (hn:mem.length≤1000) :
  Calls Tryz.prog 151 #[.func (.func 210) #[] #[.pointer (some ⟨w.heap.size,0,none⟩)]] (w.alloc (.cells #[.map (some b)] 131)) fun e w'=>∃A c,e = .returned (.slice A mem.length c)∧Sees w' w'.heap.size A (mem.map encStr)∧Below w.heap.size w w':=by
 obtain ⟨D,h1,h2,h3⟩:=h.keys
 refine (callsIn_wide.1 (slices_Sorted_M b _ D _ w h1 (by rw[h3];simp only[maxLen];omega) (by rw[h3];omega))).mono ?_
 rintro e w' ⟨v,ss,rfl,hss,hrow, -,hb⟩
 have hp:ss.Perm mem:=hss.trans h2.symm
 rw[mergeSort_ri hp hr,hp.length_eq] at hrow
 have hb2:Below w.heap.size w w':=((Below.refl _ w).alloc (Nat.le_refl _) _).trans (hb.mono (by simp))
 have hrow':=hrow
 rcases hrow.2 with ⟨rfl,hn0⟩|⟨g,cap,cur,rfl, -, -, -, -⟩
 ·exact ⟨none,0,by rw[hn0],⟨.inl (by rw[List.eq_nil_of_length_eq_zero hn0];rfl)⟩,hb2⟩
 ·exact ⟨_,cap,rfl,Sees.of_own hrow',hb2⟩
end
section
open Go.RowKit Go.Maps
theorem strOf_data (l:List UInt8):(strOf l).data.toList=l:=rfl
theorem strOf_size (l:List UInt8):(strOf l).size=l.length:=by simp[strOf,ByteArray.size]
theorem str_bytes (W:World) (l:Item):∃(W' : World) (c:Nat),(convert 9 48 (.string (strOf l))).run Tryz.prog W = .ok (.slice (some ⟨W.heap.size,0,none⟩) l.length c) W'∧l.length≤c∧W'.heap.size=W.heap.size+1∧Below W.heap.size W W' ∧
  ∀j u,(bv l)[j]?=some u→W'.cell? ⟨W.heap.size,j,none⟩=some u:=by
 refine ⟨Lib.bytesWorld W 5 (strOf l),grownCap W (strOf l).size 0 5,?_,?_,Lib.bytesWorld_size _ _ _,⟨rfl,rfl,rfl,by rw[Lib.bytesWorld_size];omega,fun k hk=>Lib.bytesWorld_at_old _ _ _ _ hk⟩,fun j u hu => ?_⟩
 ·rw[Lib.run_convert_string_bytes (P:=Tryz.prog) W 9 48 5 (strOf l) Tryz.underlying9 Tryz.underlying48 Tryz.underlying5,strOf_size]
 ·rw[←strOf_size l]
  exact grownCap_ge W (strOf l).size 0 5
 ·have hj:j<l.length:=by
   have:=(List.getElem?_eq_some_iff.1 hu).1
   rwa [bv_length] at this
  rw[Lib.bytesWorld_cell W _ (strOf l) j (by rw[strOf_size];exact hj),strOf_data]
  rw[bv_at l j hj] at hu
  rw[←hu,List.getD_eq_getElem?_getD,List.getElem?_eq_getElem hj]
  rfl
theorem sorted_any (b:Nat) (mem:List Item) (w:World) (hM:MemAt w b mem) (hr:Ri ahead mem) (hn:mem.length≤1000) (hy:∀x∈mem,x.length≤1000) :
  Calls Tryz.prog 105 #[.map (some b)] w (RowIs w mem):=by
 have hK:=Lib.hid (callsIn_wide.1 (maps_Keys_M (some b) w))
 have hS:=Lib.hid (Sorted_mem hM hr hn)
 obtain ⟨n,hln⟩:∃n,mem.length=n:=⟨_,rfl⟩
 rw[hln] at hS hn
 have HLN:=Lib.hid hln
 have HY:=Lib.hid hy
 clear hln hy hM hr
 go_enter Tryz.func105,Tryz.ntmps105
 go_wp2_with fail
 refine hK.out.mono ?_
 rintro e w1 ⟨rfl,rfl⟩
 go_wp2_with fail
 refine hS.out.mono ?_
 rintro e w2 ⟨A,c,rfl,hA,hb2⟩
 have hs2:=hb2.size
 clear hK hS
 go_wp2
 go_loopg [3,10] n (fun g u i wr=>∃k:Nat,k+g=n∧i = .int .i64 k∧OwnS wr w2.heap.size u (mem.take k)∧Below w2.heap.size w2 wr)
 case atStart=>exact ⟨0,by omega,rfl,OwnS.nil _ _,Below.refl _ _⟩
 case round =>
  obtain ⟨k,hk,rfl,hown,hb⟩:=hrel
  have hbs:=hb.size
  have hAr:=hA.below hb
  by_cases hlt:k<n
  ·obtain ⟨ad,rfl, -,hcell⟩:=hAr.at_ (k:=k) (by rw[List.length_map,HLN.out];exact hlt)
   have hT:=Lib.hid (take_snoc (l:=mem) (k:=k) (by rw[HLN.out];exact hlt))
   have hY:=HY.out (mem[k]'(by rw[HLN.out];exact hlt)) (List.getElem_mem _)
   rw[List.getElem_map] at hcell
   obtain ⟨L,hL⟩:∃L,mem[k]'(by rw[HLN.out];exact hlt)=L:=⟨_,rfl⟩
   rw[hL] at hcell hT hY
   have hcell' : wr.cell? (ad.add k)=some (.string (strOf L)):=hcell
   clear hL hcell
   obtain ⟨W3,cL,hconv,hcl,hz3',hb3,hc3⟩:=str_bytes wr L
   have HZ3:=Lib.hid hz3'
   clear hz3'
   obtain ⟨tk,htk⟩:∃tk,mem.take k=tk:=⟨_,rfl⟩
   rw[htk] at hown hT
   have htl:tk.length≤1000:=by rw[←htk,List.length_take];omega
   have hvl:∀g,u3.ownBlock=some g→g<wr.heap.size:=fun g e=>by
    obtain ⟨vs,h1, -⟩:=hown.out
    exact (World.ownsRow.lt h1 g e).2
   clear htk
   have hSN:SeesN (W3.alloc (.cells #[.slice (some ⟨wr.heap.size,0,none⟩) L.length cL] 48)) w2.heap.size u3.ownBlock (some ⟨wr.heap.size,0,none⟩) (bv L) :=
    ⟨.inr ⟨_,rfl,hbs,by have:=HZ3.out;simp;omega,fun e=>by have:=hvl _ e.symm;simp at this,fun j u hu=>by
     rw[Addr.add_lit,World.cell?_alloc_lt _ _ _ (by have:=HZ3.out;simp;omega)]
     simpa using hc3 j u hu⟩⟩
   go_wp2_with (at_builtin;(refine wpList_append_s rfl (.tmp 14) (.tmp 17) rfl w2.heap.size _ tk (by rfl) ((hown.below hb3).below ((Below.refl _ _).alloc (Nat.le_refl _) _)) ⟨W3.heap.size,0,none⟩ 1 L (some ⟨wr.heap.size,0,none⟩) cL (by rfl) (by rw[World.cell?_alloc_at _ _ _ _ rfl];rfl) hcl hSN (by omega) (by have:=HZ3.out;simp;omega) ?_;intro v2 w4 hown4 hg4 hl4))
   have hb4:Below w2.heap.size w2 w4:=by
    refine (hb.trans (hb3.mono hbs)).trans (((Below.refl _ W3).alloc (by have:=HZ3.out;omega) _).trans ((Below.refl _ _).grown hg4 (by have:=HZ3.out;simp;omega) (fun g e => ?_)))
    obtain ⟨vs,h1, -⟩:=hown.out
    exact (World.ownsRow.lt h1 g e).1
   go_roundg (n - (k+1))
   case measure=>omega
   case rel =>
    exact ⟨k+1,by omega,by go_num,by rw[hT.out];exact hown4,hb4⟩
  ·obtain rfl:k=n:=by omega
   have hE:Hid (mem.take k=mem):=by unfold Hid;rw[←HLN.out];exact List.take_length
   go_wp2
   go_ret
   exact ⟨_,rfl,by rw[←hE.out];exact hown.base_le hs2,hb2.trans (hb.mono hs2)⟩
end
end Go.Proofs.YtalmnodgjjcefaaGreatDoor
