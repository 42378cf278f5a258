/- Several texts in one: IpOpenPlain IpOpenSt IpOpenC IpOpen. -/
import Derived.Test.YtalmnodgjjcefaaGreatDoorJTk
import Derived.Test.YtalmnodgjjcefaaGreatDoorJIpC
import Derived.Test.YtalmnodgjjcefaaGreatDoorJIpA
import Derived.Test.YtalmnodgjjcefaaGreatDoorJIpB
set_option maxRecDepth 100000
set_option maxHeartbeats 3200000
namespace Go.Proofs.YtalmnodgjjcefaaGreatDoor
section
open Go.RowKit
def unpackAll:List (Item×Nat)→Option (List (List Item))
 | []=>some []
 | (bd,e) :: t=>if e≠0 then none else if (unpackR bd).2≠0 then none else (unpackAll t).map ((unpackR bd).1 :: ·)
theorem unpackAll_snoc:∀(a:List (Item×Nat)) (y:Item×Nat),unpackAll (a ++ [y])=match unpackAll a with
  | none=>none
  | some bl=>if y.2≠0 then none else if (unpackR y.1).2≠0 then none else some (bl ++ [(unpackR y.1).1])
 | [],(bd,e)=>by
  simp only[List.nil_append,unpackAll]
  split
  ·rfl
  ·split<;>rfl
 | (bd,e) :: t,y=>by
  have ih:=unpackAll_snoc t y
  simp only[List.cons_append,unpackAll]
  split
  ·rfl
  ·split
   ·rfl
   ·rw[ih]
    cases unpackAll t with
    | none=>rfl
    | some bl =>
     simp only[Option.map_some]
     split
     ·rfl
     ·split
      ·rfl
      ·simp
theorem unpackAll_bad:∀(a b:List (Item×Nat)),unpackAll a=none→unpackAll (a++b)=none
 | [],_,h=>by simp[unpackAll] at h
 | (bd,e) :: t,b,h=>by
  simp only[List.cons_append,unpackAll] at h ⊢
  split
  ·rfl
  ·rename_i h1
   rw[if_neg h1] at h
   split
   ·rfl
   ·rename_i h2
    rw[if_neg h2] at h
    rw[unpackAll_bad t b (by cases hu:unpackAll t with|none=>rfl|some x=>rw[hu] at h;simp at h)]
    rfl
def openB (b:List UInt8):Option (List Item) :=
 match unpackAll (framesL (b.length+1) b) with
 | none=>none
 | some bl=>if buildE bl.flatten=0∧fileB bl.flatten=b then some bl.flatten else none
theorem frameOf_makeK (k:UInt8) (l:List UInt8) (kind:Int) (h:UInt8.ofNat kind.toNat=k):frameOf kind l=makeK k l:=by
 unfold frameOf makeK;rw[h]
theorem frames_outs:∀(bl:List (List Item)) (tl:List UInt8) (f:Nat),(∀o∈bl,checkN o=0)→(outs bl++tl).length<f→(fnext tl).1≠1→(fnext tl).2.2.2=0 →
  framesL f (outs bl++tl)=bl.map fun o=>(packB o,0)
 | [],tl,f,_,hf,h1,h2=>by
  obtain ⟨f',rfl⟩:∃f',f=f' + 1:=⟨f - 1,by omega⟩
  show framesL (f' + 1) tl = []
  simp only[framesL]
  rw[if_neg (by omega),if_pos h1]
 | o :: t,tl,f,hc,hf,h1,h2=>by
  obtain ⟨f',rfl⟩:∃f',f=f' + 1:=⟨f - 1,by omega⟩
  have hk:=packB_len2 (hc o (by simp))
  have e:outs (o :: t)++tl=makeK 1 (packB o)++(outs t++tl):=by
   show frB o++outs t++tl=_
   unfold frB
   rw[frameOf_makeK 1 _ 1 rfl,List.append_assoc]
  have hn:=fnext_make 1 (packB o) (outs t++tl) (by omega)
  rw[e] at hf ⊢
  simp only[framesL,hn]
  rw[if_neg (by simp),if_neg (by decide)]
  rw[frames_outs t tl f' (fun x hx=>hc x (by simp[hx])) (by rw[List.length_append,makeK_len] at hf;omega) h1 h2]
  rfl
theorem unpackAll_map:∀(bl:List (List Item)),(∀o∈bl,checkN o=0)→unpackAll (bl.map fun o=>(packB o,0))=some bl
 | [],_=>rfl
 | o :: t,h=>by
  have hu:=unpack_back (h o (by simp))
  simp only[List.map_cons,unpackAll,hu]
  rw[if_neg (by simp),if_neg (by simp),unpackAll_map t fun x hx=>h x (by simp[hx])]
  rfl
theorem buildE_ok {ls:List Item}(h:buildE ls=0):ls.length≤2000∧0<ls.length∧okB ls=true∧(tabB (blk ls)).length≤65535:=by
 unfold buildE at h
 split at h
 ·simp at h
 ·rename_i h1
  split at h
  ·simp at h
  ·rename_i h2
   split at h
   ·simp at h
   ·rename_i h3
    refine ⟨by omega,by have:=fun e=>h2 (.inl e);omega,?_,by omega⟩
    cases ho:okB ls with
    | true=>rfl
    | false=>exact absurd (.inr ho) h2
theorem blk_checks {ls:List Item}(h:okB ls=true):∀o∈blk ls,checkN o=0:=fun o ho=>by
 obtain ⟨k,hk,e⟩:=blk_block ho
 rw[e]
 exact block_ok h hk
theorem frames_file {ls:List Item}(h:buildE ls=0) (f:Nat) (hf:(fileB ls).length<f):framesL f (fileB ls)=(blk ls).map fun o=>(packB o,0):=by
 obtain ⟨h1,h2,h3,h4⟩:=buildE_ok h
 have e:fileB ls=outs (blk ls)++(makeK 2 (tabB (blk ls))++place4 (outs (blk ls)).length):=by
  unfold fileB;rw[frameOf_makeK 2 _ 2 rfl,List.append_assoc]
 have hn:=fnext_make 2 (tabB (blk ls)) (place4 (outs (blk ls)).length) h4
 rw[e] at hf ⊢
 exact frames_outs _ _ f (blk_checks h3) hf (by rw[hn];show (2:UInt8).toNat≠1;decide) (by rw[hn])
theorem open_blocks {b:List UInt8}{bl:List (List Item)}(h:unpackAll (framesL (b.length+1) b)=some bl) (h1:buildE bl.flatten=0) (h2:fileB bl.flatten=b):bl=blk bl.flatten:=by
 have hf:=frames_file h1 (b.length+1) (by rw[h2];omega)
 rw[h2] at hf
 rw[hf,unpackAll_map _ (blk_checks (buildE_ok h1).2.2.1)] at h
 exact (Option.some.inj h).symm
theorem open_file {ls:List Item}(h:buildE ls=0):openB (fileB ls)=some ls:=by
 unfold openB
 rw[frames_file h _ (by omega),unpackAll_map _ (blk_checks (buildE_ok h).2.2.1)]
 simp only
 rw[blk_flatten,if_pos ⟨h,rfl⟩]
theorem framesL_le:∀(f:Nat) (b:List UInt8),(framesL f b).length≤f
 | 0,_=>by simp[framesL]
 | f+1,b=>by
  simp only[framesL]
  split
  ·simp
  ·split
   ·simp
   ·have:=framesL_le f (fnext b).2.2.1
    simp only[List.length_cons];omega
theorem framesL_body:∀(f:Nat) (b:List UInt8),∀z∈framesL f b,z.1.length≤b.length
 | 0,_,z,hz=>by simp[framesL] at hz
 | f+1,b,z,hz=>by
  simp only[framesL] at hz
  split at hz
  ·simp at hz;subst hz;simp
  ·rename_i h0
   split at hz
   ·simp at hz
   ·have ho:=fnext_ok (b:=b) (by omega)
    simp only[List.mem_cons] at hz
    rcases hz with rfl|hz
    ·show (fnext b).2.1.length≤b.length;omega
    ·have:=framesL_body f _ z hz;omega
theorem unpackAll_some:∀(a:List (Item×Nat)) {bl:List (List Item)},unpackAll a=some bl→bl.length=a.length∧∀o∈bl,checkN o=0
 | [],bl,h=>by simp[unpackAll] at h;subst h;simp
 | (bd,e) :: t,bl,h=>by
  simp only[unpackAll] at h
  split at h
  ·simp at h
  ·split at h
   ·simp at h
   ·rename_i h1 h2
    cases hu:unpackAll t with
    | none=>rw[hu] at h;simp at h
    | some c =>
     rw[hu] at h
     simp only[Option.map_some,Option.some.injEq] at h
     subst h
     obtain ⟨g1,g2⟩:=unpackAll_some t hu
     refine ⟨by simp[g1],fun o ho => ?_⟩
     simp only[List.mem_cons] at ho
     rcases ho with rfl|ho
     ·exact (unpack_ok (by omega)).1
     ·exact g2 o ho
theorem check_lens {o:List Item}(h:checkN o=0):0<o.length∧o.length≤8:=by
 unfold checkN at h
 split at h
 ·simp at h
 ·split at h
  ·simp at h
  ·rename_i h1 h2
   exact ⟨by have:=fun e=>h2 (.inl e);omega,by omega⟩
theorem flatten_le8:∀(bl:List (List Item)),(∀o∈bl,checkN o=0)→bl.flatten.length≤8*bl.length
 | [],_=>by simp
 | o :: t,h=>by
  have h1:=(check_lens (h o (by simp))).2
  have h2:=flatten_le8 t fun x hx=>h x (by simp[hx])
  simp only[List.flatten_cons,List.length_append,List.length_cons]
  omega
end
section
open Go.RowKit
def Held3 (q:Nat→Prop) (vB vF vA:Value) (k:Nat):Prop:=q k∨vB.ownBlock=some k∨vF.ownBlock=some k∨vA.ownBlock=some k
def Cells1 (q:Nat→Prop) (W:World) (vs:List Value) (fs:List Item):Prop:=∀i (hi:i<fs.length),∃Ai ci,vs[i]?=some (.slice Ai (fs[i]).length ci)∧(fs[i]).length≤ci∧SeesM q W Ai (bv fs[i])
def Cells2 (q:Nat→Prop) (W:World) (vs:List Value) (bl:List (List Item)):Prop:=∀i (hi:i<bl.length),∃Ai ci,vs[i]?=some (.slice Ai (bl[i]).length ci)∧(bl[i]).length≤ci∧Sees2M q W Ai bl[i]
theorem Cells1.keep {q q' : Nat→Prop}{W W' : World}{vs:List Value}{fs:List Item}(h:Cells1 q W vs fs) (hk:Kept q W W') (hq:∀k,q k→q' k):Cells1 q' W' vs fs:=fun i hi=>by
 obtain ⟨Ai,ci,g1,g2,g3⟩:=h i hi
 exact ⟨Ai,ci,g1,g2,(g3.keep hk).mono hq⟩
theorem Cells2.keep {q q' : Nat→Prop}{W W' : World}{vs:List Value}{bl:List (List Item)}(h:Cells2 q W vs bl) (hk:Kept q W W') (hq:∀k,q k→q' k):Cells2 q' W' vs bl:=fun i hi=>by
 obtain ⟨Ai,ci,g1,g2,g3⟩:=h i hi
 exact ⟨Ai,ci,g1,g2,(g3.keep hk).mono hq⟩
theorem Cells1.snoc {q:Nat→Prop}{W:World}{vs:List Value}{fs:List Item}(h:Cells1 q W vs fs) (hvs:vs.length=fs.length) {y:Item}{Ay:Option Addr}{cy:Nat}(hc:y.length≤cy) (hy:SeesM q W Ay (bv y)):Cells1 q W (vs ++ [.slice Ay y.length cy]) (fs ++ [y]):=fun i hi=>by
 by_cases hlt:i<fs.length
 ·obtain ⟨Ai,ci,g1,g2,g3⟩:=h i hlt
  rw[List.getElem_append_left hlt,List.getElem?_append_left (by omega)]
  exact ⟨Ai,ci,g1,g2,g3⟩
 ·have he:i=fs.length:=by simp at hi;omega
  subst he
  rw[List.getElem_append_right (Nat.le_refl _),List.getElem?_append_right (by omega)]
  exact ⟨Ay,cy,by simp[hvs],by simpa using hc,by simpa using hy⟩
theorem Cells2.snoc {q:Nat→Prop}{W:World}{vs:List Value}{bl:List (List Item)}(h:Cells2 q W vs bl) (hvs:vs.length=bl.length) {y:List Item}{Ay:Option Addr}{cy:Nat}(hc:y.length≤cy) (hy:Sees2M q W Ay y):Cells2 q W (vs ++ [.slice Ay y.length cy]) (bl ++ [y]):=fun i hi=>by
 by_cases hlt:i<bl.length
 ·obtain ⟨Ai,ci,g1,g2,g3⟩:=h i hlt
  rw[List.getElem_append_left hlt,List.getElem?_append_left (by omega)]
  exact ⟨Ai,ci,g1,g2,g3⟩
 ·have he:i=bl.length:=by simp at hi;omega
  subst he
  rw[List.getElem_append_right (Nat.le_refl _),List.getElem?_append_right (by omega)]
  exact ⟨Ay,cy,by simp[hvs],by simpa using hc,by simpa using hy⟩
theorem Cells1.append {q:Nat→Prop}{W:World}{vs:List Value}{fs:List Item}(h:Cells1 q W vs fs) (hvs:vs.length=fs.length) {ys:List Item}{ws:List Value}(hy:Cells1 q W ws ys):Cells1 q W (vs++ws) (fs++ys):=fun i hi=>by
 by_cases hlt:i<fs.length
 ·obtain ⟨Ai,ci,g1,g2,g3⟩:=h i hlt
  rw[List.getElem_append_left hlt,List.getElem?_append_left (by omega)]
  exact ⟨Ai,ci,g1,g2,g3⟩
 ·rw[List.length_append] at hi
  obtain ⟨Ai,ci,g1,g2,g3⟩:=hy (i - fs.length) (by omega)
  rw[List.getElem_append_right (by omega),List.getElem?_append_right (by omega),hvs]
  exact ⟨Ai,ci,g1,g2,g3⟩
structure OpenSt (base:Nat) (q:Nat→Prop) (W:World) (vB vF vA:Value) (bl:List (List Item)) (fs al:List Item):Prop where
 rB:∃vs,W.ownsRow base 47 1 vB bl.length vs∧Cells2 q W vs bl
 rF:∃vs,W.ownsRow base 48 1 vF fs.length vs∧Cells1 q W vs fs
 rA:∃vs,W.ownsRow base 48 1 vA al.length vs∧Cells1 q W vs al
 qlt:∀k,q k→base≤k∧k<W.heap.size
 nB:∀k,vB.ownBlock=some k→¬ q k
 nF:∀k,vF.ownBlock=some k→¬ q k
 nA:∀k,vA.ownBlock=some k→¬ q k
 aBF:Apart2 vB vF
 aBA:Apart2 vB vA
 aFA:Apart2 vF vA
section
variable {base : Nat} {q : Nat → Prop} {W W' : World} {vB vF vA v' : Value} {bl : List (List Item)} {fs al : List Item}
theorem OpenSt.nil (base:Nat) (W:World):OpenSt base (fun _=>False) W (.slice none 0 0) (.slice none 0 0) (.slice none 0 0) [] [] [] :=
 ⟨⟨[],World.ownsRow_nil W base _ 1,fun i hi=>absurd hi (by simp)⟩,⟨[],World.ownsRow_nil W base _ 1,fun i hi=>absurd hi (by simp)⟩,⟨[],World.ownsRow_nil W base _ 1,fun i hi=>absurd hi (by simp)⟩,fun _ h=>h.elim,fun _ _ h=>h,fun _ _ h=>h,fun _ _ h=>h,Apart2.nil _,Apart2.nil _,Apart2.nil _⟩
theorem OpenSt.held (h:OpenSt base q W vB vF vA bl fs al):∀k,Held3 q vB vF vA k→base≤k∧k<W.heap.size:=fun k hk=>by
 obtain ⟨vs1,g1, -⟩:=h.rB
 obtain ⟨vs2,g2, -⟩:=h.rF
 obtain ⟨vs3,g3, -⟩:=h.rA
 rcases hk with hk|hk|hk|hk
 ·exact h.qlt k hk
 ·exact World.ownsRow.lt g1 k hk
 ·exact World.ownsRow.lt g2 k hk
 ·exact World.ownsRow.lt g3 k hk
theorem OpenSt.keep (h:OpenSt base q W vB vF vA bl fs al) (hk:Kept (Held3 q vB vF vA) W W') (hs:W.heap.size≤W'.heap.size):OpenSt base q W' vB vF vA bl fs al:=by
 obtain ⟨vs1,g1,c1⟩:=h.rB
 obtain ⟨vs2,g2,c2⟩:=h.rF
 obtain ⟨vs3,g3,c3⟩:=h.rA
 have hq:Kept q W W':=hk.mono fun k e => .inl e
 exact ⟨⟨vs1,ownsRow_kept g1 fun k e=>hk k (.inr (.inl e)),c1.keep hq fun _ e=>e⟩,⟨vs2,ownsRow_kept g2 fun k e=>hk k (.inr (.inr (.inl e))),c2.keep hq fun _ e=>e⟩,⟨vs3,ownsRow_kept g3 fun k e=>hk k (.inr (.inr (.inr e))),c3.keep hq fun _ e=>e⟩,
  fun k e=>⟨(h.qlt k e).1,Nat.lt_of_lt_of_le (h.qlt k e).2 hs⟩,h.nB,h.nF,h.nA,h.aBF,h.aBA,h.aFA⟩
theorem OpenSt.below (h:OpenSt base q W vB vF vA bl fs al) (hb:Below W.heap.size W W'):OpenSt base q W' vB vF vA bl fs al:=h.keep (Kept.of_below hb fun k hk=>(h.held k hk).2) hb.size
theorem OpenSt.more (h:OpenSt base q W vB vF vA bl fs al) (hb:Below W.heap.size W W') (hW:base≤W.heap.size):OpenSt base (fun k=>q k∨(W.heap.size≤k∧k<W'.heap.size)) W' vB vF vA bl fs al:=by
 have hlt:=h.held
 obtain ⟨vs1,g1,c1⟩:=h.rB
 obtain ⟨vs2,g2,c2⟩:=h.rF
 obtain ⟨vs3,g3,c3⟩:=h.rA
 have hk:Kept (Held3 q vB vF vA) W W':=Kept.of_below hb fun k hk=>(hlt k hk).2
 have hq:Kept q W W':=hk.mono fun k e => .inl e
 have nn:∀k,Held3 q vB vF vA k→¬ q k→¬ (q k∨(W.heap.size≤k∧k<W'.heap.size)):=fun k h1 h2 h3=>by
  rcases h3 with h3|h3
  ·exact h2 h3
  ·have:=(hlt k h1).2;omega
 exact ⟨⟨vs1,ownsRow_kept g1 fun k e=>hk k (.inr (.inl e)),c1.keep hq fun _ e => .inl e⟩,⟨vs2,ownsRow_kept g2 fun k e=>hk k (.inr (.inr (.inl e))),c2.keep hq fun _ e => .inl e⟩,⟨vs3,ownsRow_kept g3 fun k e=>hk k (.inr (.inr (.inr e))),c3.keep hq fun _ e => .inl e⟩,
  fun k e=>by have:=hb.size;rcases e with e|e;have:=h.qlt k e;omega;omega,fun k e=>nn k (.inr (.inl e)) (h.nB k e),fun k e=>nn k (.inr (.inr (.inl e))) (h.nF k e),fun k e=>nn k (.inr (.inr (.inr e))) (h.nA k e),h.aBF,h.aBA,h.aFA⟩
theorem onto_block {v v' : Value}{W W' : World}(hon:Onto W W' v v') {k:Nat}(hk:v'.ownBlock=some k):v.ownBlock=some k∨W.heap.size≤k:=by
 rcases hon.at_ with e|⟨g,e,hg⟩
 ·exact .inl (e ▸ hk)
 ·rw[e] at hk;injection hk with hk;exact .inr (by omega)
theorem OpenSt.pushB (h:OpenSt base q W vB vF vA bl fs al):∃vs,W.ownsRow base 47 1 vB bl.length vs∧∀(w' : World) (v' : Value) (y:List Item) (Ay:Option Addr) (cy:Nat),y.length≤cy→Sees2M q W Ay y →
  w'.ownsRow base 47 1 v' (bl.length+1) (vs ++ [.slice Ay y.length cy])→Onto W w' vB v'→OpenSt base q w' v' vF vA (bl ++ [y]) fs al:=by
 have hlt:=h.held
 obtain ⟨vs1,g1,c1⟩:=h.rB
 refine ⟨vs1,g1,fun w' v' y Ay cy hc hy hown hon => ?_⟩
 obtain ⟨vs2,g2,c2⟩:=h.rF
 obtain ⟨vs3,g3,c3⟩:=h.rA
 have hvs:vs1.length=bl.length:=by have:=g1.1;omega
 have hk:∀k,k<W.heap.size→vB.ownBlock≠some k→w'.heap[k]?=W.heap[k]?:=fun k h1 h2=>hon.grown.block k h1 (fun e=>h2 e.symm)
 have hq:Kept q W w':=fun k e=>hk k (h.qlt k e).2 (fun e2=>h.nB k e2 e)
 have ap:∀ {x:Value},(∀k,x.ownBlock=some k→k<W.heap.size)→Apart2 vB x→Apart2 v' x:=fun hx ha k hk e=>by
  rcases onto_block hon hk with h1|h1
  ·exact ha k h1 e
  ·have:=hx k e;omega
 refine ⟨⟨_,by rw[List.length_append];exact hown,(c1.snoc hvs hc hy).keep hq fun _ e=>e⟩,⟨vs2,ownsRow_kept g2 fun k e=>hk k (hlt k (.inr (.inr (.inl e)))).2 (fun e2=>h.aBF k e2 e),c2.keep hq fun _ e=>e⟩,⟨vs3,ownsRow_kept g3 fun k e=>hk k (hlt k (.inr (.inr (.inr e)))).2 (fun e2=>h.aBA k e2 e),c3.keep hq fun _ e=>e⟩,
  fun k e=>⟨(h.qlt k e).1,Nat.lt_of_lt_of_le (h.qlt k e).2 hon.size⟩,fun k hk e => ?_,h.nF,h.nA,ap (fun k e=>(hlt k (.inr (.inr (.inl e)))).2) h.aBF,ap (fun k e=>(hlt k (.inr (.inr (.inr e)))).2) h.aBA,h.aFA⟩
 rcases onto_block hon hk with h1|h1
 ·exact h.nB k h1 e
 ·have:=(h.qlt k e).2;omega
theorem OpenSt.pushF (h:OpenSt base q W vB vF vA bl fs al):∃vs,W.ownsRow base 48 1 vF fs.length vs∧∀(w' : World) (v' : Value) (y:Item) (Ay:Option Addr) (cy:Nat),y.length≤cy→SeesM q W Ay (bv y) →
  w'.ownsRow base 48 1 v' (fs.length+1) (vs ++ [.slice Ay y.length cy])→Onto W w' vF v'→OpenSt base q w' vB v' vA bl (fs ++ [y]) al:=by
 have hlt:=h.held
 obtain ⟨vs2,g2,c2⟩:=h.rF
 refine ⟨vs2,g2,fun w' v' y Ay cy hc hy hown hon => ?_⟩
 obtain ⟨vs1,g1,c1⟩:=h.rB
 obtain ⟨vs3,g3,c3⟩:=h.rA
 have hvs:vs2.length=fs.length:=by have:=g2.1;omega
 have hk:∀k,k<W.heap.size→vF.ownBlock≠some k→w'.heap[k]?=W.heap[k]?:=fun k h1 h2=>hon.grown.block k h1 (fun e=>h2 e.symm)
 have hq:Kept q W w':=fun k e=>hk k (h.qlt k e).2 (fun e2=>h.nF k e2 e)
 have ap:∀ {x:Value},(∀k,x.ownBlock=some k→k<W.heap.size)→Apart2 vF x→Apart2 v' x:=fun hx ha k hk e=>by
  rcases onto_block hon hk with h1|h1
  ·exact ha k h1 e
  ·have:=hx k e;omega
 refine ⟨⟨vs1,ownsRow_kept g1 fun k e=>hk k (hlt k (.inr (.inl e))).2 (fun e2=>h.aBF k e e2),c1.keep hq fun _ e=>e⟩,⟨_,by rw[List.length_append];exact hown,(c2.snoc hvs hc hy).keep hq fun _ e=>e⟩,⟨vs3,ownsRow_kept g3 fun k e=>hk k (hlt k (.inr (.inr (.inr e)))).2 (fun e2=>h.aFA k e2 e),c3.keep hq fun _ e=>e⟩,
  fun k e=>⟨(h.qlt k e).1,Nat.lt_of_lt_of_le (h.qlt k e).2 hon.size⟩,h.nB,fun k hk e => ?_,h.nA,(ap (fun k e=>(hlt k (.inr (.inl e))).2) h.aBF.symm).symm,h.aBA,ap (fun k e=>(hlt k (.inr (.inr (.inr e)))).2) h.aFA⟩
 rcases onto_block hon hk with h1|h1
 ·exact h.nF k h1 e
 ·have:=(h.qlt k e).2;omega
theorem OpenSt.pushA (h:OpenSt base q W vB vF vA bl fs al):∃vs,W.ownsRow base 48 1 vA al.length vs∧∀(w' : World) (v' : Value) (ys:List Item) (ws:List Value),Cells1 q W ws ys →
  w'.ownsRow base 48 1 v' (al.length+ys.length) (vs++ws)→Onto W w' vA v'→OpenSt base q w' vB vF v' bl fs (al++ys):=by
 have hlt:=h.held
 obtain ⟨vs3,g3,c3⟩:=h.rA
 refine ⟨vs3,g3,fun w' v' ys ws hy hown hon => ?_⟩
 obtain ⟨vs1,g1,c1⟩:=h.rB
 obtain ⟨vs2,g2,c2⟩:=h.rF
 have hvs:vs3.length=al.length:=by have:=g3.1;omega
 have hk:∀k,k<W.heap.size→vA.ownBlock≠some k→w'.heap[k]?=W.heap[k]?:=fun k h1 h2=>hon.grown.block k h1 (fun e=>h2 e.symm)
 have hq:Kept q W w':=fun k e=>hk k (h.qlt k e).2 (fun e2=>h.nA k e2 e)
 have ap:∀ {x:Value},(∀k,x.ownBlock=some k→k<W.heap.size)→Apart2 vA x→Apart2 v' x:=fun hx ha k hk e=>by
  rcases onto_block hon hk with h1|h1
  ·exact ha k h1 e
  ·have:=hx k e;omega
 refine ⟨⟨vs1,ownsRow_kept g1 fun k e=>hk k (hlt k (.inr (.inl e))).2 (fun e2=>h.aBA k e e2),c1.keep hq fun _ e=>e⟩,⟨vs2,ownsRow_kept g2 fun k e=>hk k (hlt k (.inr (.inr (.inl e)))).2 (fun e2=>h.aFA k e e2),c2.keep hq fun _ e=>e⟩,⟨_,by rw[List.length_append];exact hown,(c3.append hvs hy).keep hq fun _ e=>e⟩,
  fun k e=>⟨(h.qlt k e).1,Nat.lt_of_lt_of_le (h.qlt k e).2 hon.size⟩,h.nB,h.nF,fun k hk e => ?_,h.aBF,(ap (fun k e=>(hlt k (.inr (.inl e))).2) h.aBA.symm).symm,(ap (fun k e=>(hlt k (.inr (.inr (.inl e)))).2) h.aFA.symm).symm⟩
 rcases onto_block hon hk with h1|h1
 ·exact h.nA k h1 e
 ·have:=(h.qlt k e).2;omega
end
end
section
open Go.RowKit
structure Box3 (W:World) (B:Nat) (t:TypeId) (v0 v1 v2:Value):Prop where
 out:W.heap[B]?=some (.cells #[v0,v1,v2] t (0,0))
section
variable {W W' : World} {B : Nat} {t : TypeId} {v0 v1 v2 : Value}
theorem Box3.cell0 (h:Box3 W B t v0 v1 v2):W.cell? ⟨B,0,none⟩=some v0:=by simp[World.cell?,h.out]
theorem Box3.cell1 (h:Box3 W B t v0 v1 v2):W.cell? ⟨B,1,none⟩=some v1:=by simp[World.cell?,h.out]
theorem Box3.cell2 (h:Box3 W B t v0 v1 v2):W.cell? ⟨B,2,none⟩=some v2:=by simp[World.cell?,h.out]
theorem Box3.frozen1 (h:Box3 W B t v0 v1 v2):W.frozen? ⟨B,1,none⟩=false:=by simp[World.frozen?,h.out]
theorem Box3.frozen2 (h:Box3 W B t v0 v1 v2):W.frozen? ⟨B,2,none⟩=false:=by simp[World.frozen?,h.out]
theorem Box3.new (W:World) (t:TypeId) (v0 v1 v2:Value):Box3 (W.alloc (.cells #[v0,v1,v2] t)) W.heap.size t v0 v1 v2:=⟨World.alloc_heap_new W _⟩
theorem Box3.kept (h:Box3 W B t v0 v1 v2) (hk:W'.heap[B]?=W.heap[B]?):Box3 W' B t v0 v1 v2:=⟨hk.trans h.out⟩
theorem Box1.kept {v:Value}(h:Box1 W B t v) (hk:W'.heap[B]?=W.heap[B]?):Box1 W' B t v:=⟨hk.trans h.out⟩
theorem Box3.set1 (h:Box3 W B t v0 v1 v2) (v' : Value):Box3 (W.setCell ⟨B,1,none⟩ v') B t v0 v' v2:=by
 obtain ⟨hlt,hk⟩:=Array.getElem?_eq_some_iff.1 h.out
 refine ⟨?_⟩
 show (W.heap.modify B _)[B]?=_
 rw[Array.getElem?_eq_getElem (by rw[Array.size_modify];exact hlt),Array.getElem_modify_self,hk]
 rfl
theorem Box3.set2 (h:Box3 W B t v0 v1 v2) (v' : Value):Box3 (W.setCell ⟨B,2,none⟩ v') B t v0 v1 v':=by
 obtain ⟨hlt,hk⟩:=Array.getElem?_eq_some_iff.1 h.out
 refine ⟨?_⟩
 show (W.heap.modify B _)[B]?=_
 rw[Array.getElem?_eq_getElem (by rw[Array.size_modify];exact hlt),Array.getElem_modify_self,hk]
 rfl
end
structure OpenC (n0:Nat) (W:World) (vB vF vA:Value) (many:Nat):Prop where
 r2:Box1 W n0 160 (.pointer none)
 r3:Box1 W (n0+1) 31 (.int .i64 0)
 x:Box1 W (n0+2) 211 vF
 p:Box3 W (n0+3) 213 (.pointer (some ⟨n0+2,0,none⟩)) vB (.int .i64 many)
 t4:Box1 W (n0+4) 160 (.pointer (some ⟨n0+3,0,none⟩))
 t5:Box1 W (n0+5) 47 vA
section
variable {n0 : Nat} {W W' : World} {vB vF vA : Value} {many : Nat}
theorem OpenC.keep (h:OpenC n0 W vB vF vA many) (hk:Kept (fun k=>n0≤k∧k<n0+6) W W'):OpenC n0 W' vB vF vA many :=
 ⟨h.r2.kept (hk _ ⟨by omega,by omega⟩),h.r3.kept (hk _ ⟨by omega,by omega⟩),h.x.kept (hk _ ⟨by omega,by omega⟩),h.p.kept (hk _ ⟨by omega,by omega⟩),h.t4.kept (hk _ ⟨by omega,by omega⟩),h.t5.kept (hk _ ⟨by omega,by omega⟩)⟩
theorem OpenC.lt (h:OpenC n0 W vB vF vA many):n0+6≤W.heap.size:=by have:=h.t5.lt;omega
theorem other {W:World}{p:Addr}{v:Value}{k:Nat}(h:p.block≠k):(W.setCell p v).heap[k]?=W.heap[k]?:=Below.heap_setCell W p v k (fun e=>h e.symm)
theorem OpenC.setB (h:OpenC n0 W vB vF vA many) (v:Value):OpenC n0 (W.setCell ⟨n0+3,1,none⟩ v) v vF vA many :=
 ⟨h.r2.kept (other (by simp)),h.r3.kept (other (by simp)),h.x.kept (other (by simp)),h.p.set1 v,h.t4.kept (other (by simp)),h.t5.kept (other (by simp))⟩
theorem OpenC.setN (h:OpenC n0 W vB vF vA many) (m:Nat):OpenC n0 (W.setCell ⟨n0+3,2,none⟩ (.int .i64 m)) vB vF vA m :=
 ⟨h.r2.kept (other (by simp)),h.r3.kept (other (by simp)),h.x.kept (other (by simp)),h.p.set2 _,h.t4.kept (other (by simp)),h.t5.kept (other (by simp))⟩
theorem OpenC.setF (h:OpenC n0 W vB vF vA many) (v:Value):OpenC n0 (W.setCell ⟨n0+2,0,none⟩ v) vB v vA many :=
 ⟨h.r2.kept (other (by simp)),h.r3.kept (other (by simp)),h.x.set v,h.p.kept (other (by simp)),h.t4.kept (other (by simp)),h.t5.kept (other (by simp))⟩
theorem OpenC.setA (h:OpenC n0 W vB vF vA many) (v:Value):OpenC n0 (W.setCell ⟨n0+5,0,none⟩ v) vB vF v many :=
 ⟨h.r2.kept (other (by simp)),h.r3.kept (other (by simp)),h.x.kept (other (by simp)),h.p.kept (other (by simp)),h.t4.kept (other (by simp)),h.t5.set v⟩
end
structure OpenR (n0:Nat) (W Wc:World) (s q:Nat→Prop) (vB vF vA:Value) (bl:List (List Item)) (fs al:List Item) (many:Nat):Prop where
 c:OpenC n0 Wc vB vF vA many
 o:OpenSt (n0+9) q Wc vB vF vA bl fs al
 t:Turn (fun k=>¬ s k∧n0≤k∧k≠n0+7∧k≠n0+8) W Wc
 h:∀k,Held3 q vB vF vA k→¬ s k
 sl:∀k,s k→(n0+6≤k∧k<W.heap.size)
section
variable {n0 : Nat} {W Wc W' wn : World} {s q : Nat → Prop} {vB vF vA v' : Value} {bl : List (List Item)} {fs al : List Item} {many : Nat}
theorem OpenR.size (h:OpenR n0 W Wc s q vB vF vA bl fs al many):W.heap.size≤Wc.heap.size:=h.t.size
theorem OpenR.below (h:OpenR n0 W Wc s q vB vF vA bl fs al many) (hb:Below Wc.heap.size Wc W'):OpenR n0 W W' s q vB vF vA bl fs al many :=
 ⟨h.c.keep (Kept.of_below hb fun k hk=>by have:=h.c.lt;omega),h.o.below hb,h.t.trans' (Turn.of_new (T:=fun _=>False) hb) (fun _ _ e=>e.elim),h.h,h.sl⟩
theorem OpenR.alloc (h:OpenR n0 W Wc s q vB vF vA bl fs al many) (o:Obj):OpenR n0 W (Wc.alloc o) s q vB vF vA bl fs al many:=h.below ((Below.refl _ _).alloc (Nat.le_refl _) _)
theorem OpenR.drew (h:OpenR n0 W Wc s q vB vF vA bl fs al many):OpenR n0 W Wc.drew s q vB vF vA bl fs al many:=h.below (below_drew (Below.refl _ _))
theorem OpenR.more (h:OpenR n0 W Wc s q vB vF vA bl fs al many) (hb:Below Wc.heap.size Wc W') (hW:n0+9≤Wc.heap.size):OpenR n0 W W' s (fun k=>q k∨(Wc.heap.size≤k∧k<W'.heap.size)) vB vF vA bl fs al many:=by
 refine ⟨h.c.keep (Kept.of_below hb fun k hk=>by have:=h.c.lt;omega),h.o.more hb hW,h.t.trans' (Turn.of_new (T:=fun _=>False) hb) (fun _ _ e=>e.elim),fun k hk e => ?_,h.sl⟩
 rcases hk with (hk|hk)|hk
 ·exact h.h k (.inl hk) e
 ·have:=(h.sl k e).2;have:=h.size;omega
 ·exact h.h k (.inr hk) e
theorem OpenR.onto_c (h:OpenR n0 W Wc s q vB vF vA bl fs al many) {v:Value}(hv:∀k,v.ownBlock=some k→Held3 q vB vF vA k) (hon:Onto Wc wn v v'):OpenC n0 wn vB vF vA many :=
 h.c.keep fun k hk=>hon.grown.block k (by have:=h.c.lt;omega) (fun e=>by have:=(h.o.held k (hv k e.symm)).1;omega)
theorem OpenR.onto_t (h:OpenR n0 W Wc s q vB vF vA bl fs al many) {v:Value}(hv:∀k,v.ownBlock=some k→Held3 q vB vF vA k) (hon:Onto Wc wn v v'):Turn (fun k=>¬ s k∧n0≤k∧k≠n0+7∧k≠n0+8) W wn :=
 h.t.trans' (Turn.onto (T:=fun k=>v.ownBlock=some k) hon fun k e=>e) fun j _ e=>⟨h.h j (hv j e),by have:=(h.o.held j (hv j e)).1;exact ⟨by omega,by omega,by omega⟩⟩
theorem OpenR.onto_h (h:OpenR n0 W Wc s q vB vF vA bl fs al many) {v:Value}(hv:∀k,v.ownBlock=some k→Held3 q vB vF vA k) (hon:Onto Wc wn v v'):∀k,v'.ownBlock=some k→¬ s k:=fun k hk e=>by
 rcases onto_block hon hk with h1|h1
 ·exact h.h k (hv k h1) e
 ·have:=(h.sl k e).2;have:=h.size;omega
theorem Turn.mine {A B:World}(h:Turn (fun k=>¬ s k∧n0≤k∧k≠n0+7∧k≠n0+8) A B) (hs:∀k,s k→n0+6≤k) (p:Addr) (v:Value) (h1:n0≤p.block) (h2:p.block<n0+6):Turn (fun k=>¬ s k∧n0≤k∧k≠n0+7∧k≠n0+8) A (B.setCell p v) :=
 h.trans (Turn.setCell _ _ _ ⟨fun e=>by have:=hs _ e;omega,h1,by omega,by omega⟩)
theorem OpenSt.mine (h:OpenSt (n0+9) q W vB vF vA bl fs al) (p:Addr) (v:Value) (h2:p.block<n0+6):OpenSt (n0+9) q (W.setCell p v) vB vF vA bl fs al :=
 h.keep (fun k hk=>other (by have:=(h.held k hk).1;omega)) (by rw[World.size_setCell];exact Nat.le_refl _)
theorem OpenR.pushB (h:OpenR n0 W Wc s q vB vF vA bl fs al many):∃vs,Wc.ownsRow (n0+9) 47 1 vB bl.length vs∧∀(wn:World) (v' : Value) (y:List Item) (Ay:Option Addr) (cy:Nat),y.length≤cy→Sees2M q Wc Ay y →
  wn.ownsRow (n0+9) 47 1 v' (bl.length+1) (vs ++ [.slice Ay y.length cy])→Onto Wc wn vB v'→OpenC n0 wn vB vF vA many∧Kept q Wc wn∧(∀p u,p.block<n0+6→Kept q wn (wn.setCell p u))∧OpenR n0 W (wn.setCell ⟨n0+3,1,none⟩ v') s q v' vF vA (bl ++ [y]) fs al many:=by
 obtain ⟨vs,g1,g2⟩:=h.o.pushB
 have hv:∀k,vB.ownBlock=some k→Held3 q vB vF vA k:=fun k e => .inr (.inl e)
 refine ⟨vs,g1,fun wn v' y Ay cy hc hy hown hon=>⟨h.onto_c hv hon,fun k e=>hon.grown.block k (h.o.qlt k e).2 (fun e2=>h.o.nB k e2.symm e),fun p u hp k e=>other (by have:=(h.o.qlt k e).1;omega),(h.onto_c hv hon).setB v',(g2 wn v' y Ay cy hc hy hown hon).mine _ _ (by simp),(h.onto_t hv hon).mine (fun k e=>(h.sl k e).1) _ _ (by simp) (by simp),?_,h.sl⟩⟩
 rintro k (e|e|e)
 ·exact h.h k (.inl e)
 ·exact h.onto_h hv hon k e
 ·exact h.h k (.inr (.inr e))
theorem OpenR.pushF (h:OpenR n0 W Wc s q vB vF vA bl fs al many):∃vs,Wc.ownsRow (n0+9) 48 1 vF fs.length vs∧∀(wn:World) (v' : Value) (y:Item) (Ay:Option Addr) (cy:Nat),y.length≤cy→SeesM q Wc Ay (bv y) →
  wn.ownsRow (n0+9) 48 1 v' (fs.length+1) (vs ++ [.slice Ay y.length cy])→Onto Wc wn vF v'→OpenC n0 wn vB vF vA many∧Kept q Wc wn∧(∀p u,p.block<n0+6→Kept q wn (wn.setCell p u))∧OpenR n0 W (wn.setCell ⟨n0+2,0,none⟩ v') s q vB v' vA bl (fs ++ [y]) al many:=by
 obtain ⟨vs,g1,g2⟩:=h.o.pushF
 have hv:∀k,vF.ownBlock=some k→Held3 q vB vF vA k:=fun k e => .inr (.inr (.inl e))
 refine ⟨vs,g1,fun wn v' y Ay cy hc hy hown hon=>⟨h.onto_c hv hon,fun k e=>hon.grown.block k (h.o.qlt k e).2 (fun e2=>h.o.nF k e2.symm e),fun p u hp k e=>other (by have:=(h.o.qlt k e).1;omega),(h.onto_c hv hon).setF v',(g2 wn v' y Ay cy hc hy hown hon).mine _ _ (by simp),(h.onto_t hv hon).mine (fun k e=>(h.sl k e).1) _ _ (by simp) (by simp),?_,h.sl⟩⟩
 rintro k (e|e|e|e)
 ·exact h.h k (.inl e)
 ·exact h.h k (.inr (.inl e))
 ·exact h.onto_h hv hon k e
 ·exact h.h k (.inr (.inr (.inr e)))
theorem OpenR.pushA (h:OpenR n0 W Wc s q vB vF vA bl fs al many):∃vs,Wc.ownsRow (n0+9) 48 1 vA al.length vs∧∀(wn:World) (v' : Value) (ys:List Item) (ws:List Value),Cells1 q Wc ws ys →
  wn.ownsRow (n0+9) 48 1 v' (al.length+ys.length) (vs++ws)→Onto Wc wn vA v'→OpenC n0 wn vB vF vA many∧Kept q Wc wn∧(∀p u,p.block<n0+6→Kept q wn (wn.setCell p u))∧OpenR n0 W (wn.setCell ⟨n0+5,0,none⟩ v') s q vB vF v' bl fs (al++ys) many:=by
 obtain ⟨vs,g1,g2⟩:=h.o.pushA
 have hv:∀k,vA.ownBlock=some k→Held3 q vB vF vA k:=fun k e => .inr (.inr (.inr e))
 refine ⟨vs,g1,fun wn v' ys ws hy hown hon=>⟨h.onto_c hv hon,fun k e=>hon.grown.block k (h.o.qlt k e).2 (fun e2=>h.o.nA k e2.symm e),fun p u hp k e=>other (by have:=(h.o.qlt k e).1;omega),(h.onto_c hv hon).setA v',(g2 wn v' ys ws hy hown hon).mine _ _ (by simp),(h.onto_t hv hon).mine (fun k e=>(h.sl k e).1) _ _ (by simp) (by simp),?_,h.sl⟩⟩
 rintro k (e|e|e|e)
 ·exact h.h k (.inl e)
 ·exact h.h k (.inr (.inl e))
 ·exact h.h k (.inr (.inr (.inl e)))
 ·exact h.onto_h hv hon k e
theorem OpenR.setN (h:OpenR n0 W Wc s q vB vF vA bl fs al many) (m:Nat):OpenR n0 W (Wc.setCell ⟨n0+3,2,none⟩ (.int .i64 m)) s q vB vF vA bl fs al m :=
 ⟨h.c.setN m,h.o.mine _ _ (by simp),h.t.mine (fun k e=>(h.sl k e).1) _ _ (by simp) (by simp),h.h,h.sl⟩
theorem OpenR.qbelow (h:OpenR n0 W Wc s q vB vF vA bl fs al many) (hb:Below Wc.heap.size Wc W'):Kept q Wc W':=Kept.of_below hb fun k hk=>(h.o.qlt k hk).2
theorem OpenR.qmine (h:OpenR n0 W Wc s q vB vF vA bl fs al many) (p:Addr) (u:Value) (hp:p.block<n0+6):Kept q Wc (Wc.setCell p u):=fun k e=>other (by have:=(h.o.qlt k e).1;omega)
theorem row_open {w:World}{base:Nat}{e:TypeId}{v:Value}{n:Nat}{xs:List Value}(h:w.ownsRow base e 1 v n xs):∃A c,v = .slice A n c∧n≤c:=by
 rcases h.2 with ⟨rfl,hn⟩|⟨g,cap,cur,rfl,hb,hh,hc,_⟩
 ·exact ⟨none,0,by rw[hn],by omega⟩
 ·exact ⟨_,cap,rfl,hc⟩
theorem OpenR.rows (h:OpenR n0 W Wc s q vB vF vA bl fs al many):(∃A c,vB = .slice A bl.length c∧bl.length≤c)∧(∃A c,vF = .slice A fs.length c∧fs.length≤c)∧(∃A c,vA = .slice A al.length c∧al.length≤c):=by
 obtain ⟨v1,g1, -⟩:=h.o.rB
 obtain ⟨v2,g2, -⟩:=h.o.rF
 obtain ⟨v3,g3, -⟩:=h.o.rA
 exact ⟨row_open g1,row_open g2,row_open g3⟩
theorem row_sees {w:World}{base n c:Nat}{e:TypeId}{A:Option Addr}{xs:List Value}(h:w.ownsRow base e 1 (.slice A n c) n xs) (i:Nat) (u:Value) (hu:xs[i]?=some u):∃g,A=some ⟨g,0,none⟩∧(Value.slice A n c).ownBlock=some g∧w.cell? ((⟨g,0,none⟩:Addr).add i)=some u:=by
 have hx:=h.1
 have hi:=(List.getElem?_eq_some_iff.1 hu).1
 rcases h.2 with ⟨e1,hn⟩|⟨g,cap,cur,e1,hb,hh,hc,_⟩
 ·omega
 ·injection e1 with e1 e2 e3
  subst e1
  exact ⟨g,rfl,rfl,h.cells (g:=g) rfl i u hu⟩
theorem Cells1.sees2 {m:Nat→Prop}{w:World}{base n c:Nat}{A:Option Addr}{xs:List Value}{ls:List Item}(h:w.ownsRow base 48 1 (.slice A n c) n xs) (hc:Cells1 q w xs ls) (hq:∀k,q k→m k) (hm:∀k,(Value.slice A n c).ownBlock=some k→m k):Sees2M m w A ls :=
 ⟨fun i hi=>by
  obtain ⟨Ai,ci,g1,g2,g3⟩:=hc i hi
  obtain ⟨g,e1,e2,e3⟩:=row_sees h i _ g1
  exact ⟨_,Ai,ci,e1,hm g e2,e3,g2,g3.mono hq⟩⟩
theorem Cells2.sees3 {m:Nat→Prop}{w:World}{base n c:Nat}{A:Option Addr}{xs:List Value}{ls:List (List Item)}(h:w.ownsRow base 47 1 (.slice A n c) n xs) (hc:Cells2 q w xs ls) (hq:∀k,q k→m k) (hm:∀k,(Value.slice A n c).ownBlock=some k→m k):Sees3M m w A ls :=
 ⟨fun i hi=>by
  obtain ⟨Ai,ci,g1,g2,g3⟩:=hc i hi
  obtain ⟨g,e1,e2,e3⟩:=row_sees h i _ g1
  exact ⟨_,Ai,ci,e1,hm g e2,e3,g2,g3.mono hq⟩⟩
theorem OpenR.part (h:OpenR n0 W Wc s q vB vF vA bl (bl.map (·.headD [])) bl.flatten bl.flatten.length) (hb:bl=blk bl.flatten) (h0:0<bl.flatten.length) (h2:bl.flatten.length≤2000) (hw:okB bl.flatten=true)
  (hk:Kept (fun k=>n0+2≤k∧k<Wc.heap.size∧k≠n0+7) Wc W') (hs:Wc.heap.size≤W'.heap.size):PartAt (fun k=>n0≤k∧k<W'.heap.size) W' (n0+3) bl.flatten:=by
 have hlt:=h.c.lt
 have hh:=h.o.held
 obtain ⟨⟨AB,cB,rfl,hcB⟩,⟨AF,cF,rfl,hcF⟩, -⟩:=h.rows
 obtain ⟨v1,g1,c1⟩:=h.o.rB
 obtain ⟨v2,g2,c2⟩:=h.o.rF
 have s3:=(c1.sees3 (m:=fun k=>n0+9≤k∧k<Wc.heap.size) g1 h.o.qlt (World.ownsRow.lt g1)).keep (hk.mono fun k e=>⟨by omega,e.2,by omega⟩)
 have s2:=(c2.sees2 (m:=fun k=>n0+9≤k∧k<Wc.heap.size) g2 h.o.qlt (World.ownsRow.lt g2)).keep (hk.mono fun k e=>⟨by omega,e.2,by omega⟩)
 have hp:=h.c.p.kept (hk (n0+3) ⟨by omega,by omega,by omega⟩)
 have hx:=h.c.x.kept (hk (n0+2) ⟨by omega,by omega,by omega⟩)
 rw[List.length_map] at hcF
 have hx':=hx.cell
 have hp1:=hp.cell1
 rw[List.length_map] at hx'
 obtain ⟨ls,hls⟩:∃ls,bl.flatten=ls:=⟨_,rfl⟩
 rw[hls] at h0 h2 hw hp hb ⊢
 subst hb
 exact ⟨⟨n0+2,AB,AF,cB,cF,⟨by omega,by omega⟩,⟨by omega,by omega⟩,hp.cell0,hp1,hp.cell2,hx',hcB,hcF,s3.mono fun k e=>⟨by omega,by omega⟩,s2.mono fun k e=>⟨by omega,by omega⟩⟩,h0,h2,hw⟩
theorem kept_end (A:World) (n0:Nat) (a b:Value) (o:Obj):Turn (fun k=>k=n0∨k=n0+1∨k=n0+7) A (((A.setCell ⟨n0,0,none⟩ a).setCell ⟨n0+1,0,none⟩ b).putObj (n0+7) o) :=
 ((Turn.setCell A _ _ (.inl rfl)).trans (Turn.setCell _ _ _ (.inr (.inl rfl)))).trans (Turn.putObj _ _ _ (.inr (.inr rfl)))
theorem OpenR.turn_s (h:OpenR n0 W W s q vB vF vA bl fs al many) (ht:Turn s W W'):OpenR n0 W' W' (grown s W W') q vB vF vA bl fs al many:=by
 have hs:=ht.size
 have hc:=h.c.lt
 refine ⟨h.c.keep (Kept.of_turn ht fun k hk=>⟨by omega,fun e=>by have:=(h.sl k e).1;omega⟩),h.o.keep (Kept.of_turn ht fun k hk=>⟨(h.o.held k hk).2,h.h k hk⟩) hs,Turn.refl _ _,fun k hk e => ?_,fun k e => ?_⟩
 ·rcases e with e|e
  ·exact h.h k hk e
  ·have:=(h.o.held k hk).2;omega
 ·rcases e with e|e
  ·have:=h.sl k e;omega
  ·omega
theorem OpenR.turn_d (h:OpenR n0 W W s q vB vF vA bl fs al many) (ht:Turn (fun k=>k=n0+7∨k=n0+8) W W'):OpenR n0 W' W' s q vB vF vA bl fs al many:=by
 have hs:=ht.size
 have hc:=h.c.lt
 exact ⟨h.c.keep (Kept.of_turn ht fun k hk=>⟨by omega,fun e=>by omega⟩),h.o.keep (Kept.of_turn ht fun k hk=>⟨(h.o.held k hk).2,by have:=(h.o.held k hk).1;omega⟩) hs,Turn.refl _ _,h.h,fun k e=>by have:=h.sl k e;omega⟩
theorem OpenR.over (h:OpenR n0 W Wc s q vB vF vA bl fs al many):OpenR n0 Wc Wc s q vB vF vA bl fs al many :=
 ⟨h.c,h.o,Turn.refl _ _,h.h,fun k e=>by have:=h.sl k e;have:=h.size;omega⟩
theorem OpenR.start {Wa w1:World}(hr2:Box1 Wa n0 160 (.pointer none)) (hr3:Box1 Wa (n0+1) 31 (.int .i64 0)) (hx:Box1 Wa (n0+2) 211 (.slice none 0 0))
  (hp:Box3 Wa (n0+3) 213 (.pointer (some ⟨n0+2,0,none⟩)) (.slice none 0 0) (.int .i64 0)) (h4:Box1 Wa (n0+4) 160 (.pointer (some ⟨n0+3,0,none⟩))) (h5:Box1 Wa (n0+5) 47 (.slice none 0 0))
  (hz:Wa.heap.size=n0+6) (o:Obj) (hw1:w1=Wa.alloc o):OpenR n0 w1 w1 (fun k=>k=n0+6) (fun _=>False) (.slice none 0 0) (.slice none 0 0) (.slice none 0 0) [] [] [] 0:=by
 have hc:OpenC n0 Wa (.slice none 0 0) (.slice none 0 0) (.slice none 0 0) 0:=⟨hr2,hr3,hx,hp,h4,h5⟩
 have hs:w1.heap.size=n0+7:=by rw[hw1,World.size_alloc,hz]
 refine ⟨?_,OpenSt.nil _ _,Turn.refl _ _,fun k hk => ?_,fun k e=>by omega⟩
 ·rw[hw1];exact hc.keep (Kept.of_below ((Below.refl _ _).alloc (Nat.le_refl _) _) fun k hk=>by omega)
 ·rcases hk with hk|hk|hk|hk
  ·exact hk.elim
  ·simp[Value.ownBlock] at hk
  ·simp[Value.ownBlock] at hk
  ·simp[Value.ownBlock] at hk
end
structure RowIn (q:Nat→Prop) (W:World) (g:Nat) (u0:Value) (vt:List Value) (l:List Item):Prop where
 qg:q g
 sees:SeesM q W (some ⟨g,0,none⟩) (u0 :: vt)
 cells:Cells1 q W (u0 :: vt) l
 len:(u0 :: vt).length=l.length
 one:∀u∈u0 :: vt,u.oneCell'=true
section
variable {q q' : Nat → Prop} {W W' : World} {g : Nat} {u0 : Value} {vt : List Value} {l : List Item}
theorem RowIn.keep (h:RowIn q W g u0 vt l) (hk:Kept q W W'):RowIn q W' g u0 vt l:=⟨h.qg,h.sees.keep hk,h.cells.keep hk fun _ e=>e,h.len,h.one⟩
theorem RowIn.mono (h:RowIn q W g u0 vt l) (hq:∀k,q k→q' k):RowIn q' W g u0 vt l:=⟨hq _ h.qg,h.sees.mono hq,h.cells.keep (Kept.refl _ _) hq,h.len,h.one⟩
theorem RowIn.first (h:RowIn q W g u0 vt l):W.cell? ⟨g,0,none⟩=some u0:=by
 rcases h.sees.out with e|⟨ad,e, -,hc⟩
 ·cases e
 ·injection e with e
  subst e
  have:=hc 0 u0 rfl
  rwa [Addr.add_lit] at this
theorem RowIn.sees2 (h:RowIn q W g u0 vt l):Sees2M q W (some ⟨g,0,none⟩) l:=by
 rcases h.sees.out with e|⟨ad,e,hb,hc⟩
 ·cases e
 ·injection e with e
  subst e
  exact ⟨fun i hi=>by
   obtain ⟨Ai,ci,g1,g2,g3⟩:=h.cells i hi
   exact ⟨_,Ai,ci,rfl,hb,hc i _ g1,g2,g3⟩⟩
theorem RowIn.x {A0:Option Addr}{n0 c0:Nat}{x:Item}{t:List Item}(h:RowIn q W g (.slice A0 n0 c0) vt (x :: t)):x.length=n0∧x.length≤c0∧SeesM q W A0 (bv x):=by
 obtain ⟨Ai,ci,g1,g2,g3⟩:=h.cells 0 (by simp)
 simp only[List.getElem?_cons_zero,Option.some.injEq,Value.slice.injEq,List.getElem_cons_zero] at g1 g2 g3
 obtain ⟨rfl,e,rfl⟩:=g1
 exact ⟨e.symm,g2,g3⟩
theorem RowIn.of {base:Nat}{v:Value}{x:Item}{t:List Item}(h:OwnS W base v (x :: t)):∃g c A0 c0 vt,v = .slice (some ⟨g,0,none⟩) (x :: t).length c∧(x :: t).length≤c∧x.length≤c0∧SeesM (fun k=>base≤k∧k<W.heap.size) W A0 (bv x)∧RowIn (fun k=>base≤k∧k<W.heap.size) W g (.slice A0 x.length c0) vt (x :: t):=by
 obtain ⟨vs,h1,h2⟩:=h.out
 have hn:=h1.1
 have hs:∀i (hi:i<(x :: t).length),∃Ai ci,vs[i]?=some (.slice Ai ((x :: t)[i]).length ci)∧((x :: t)[i]).length≤ci∧SeesM (fun k=>base≤k∧k<W.heap.size) W Ai (bv (x :: t)[i]):=fun i hi=>by
  obtain ⟨Ai,ci,g1,g2,g3⟩:=h2 i hi
  refine ⟨Ai,ci,g1,g2,?_⟩
  rcases g3.out with e|⟨ad,e,e1,e2, -,e3⟩
  ·exact ⟨.inl e⟩
  ·exact ⟨.inr ⟨ad,e,⟨e1,e2⟩,e3⟩⟩
 obtain ⟨A0,c0,k1,k2,k3⟩:=hs 0 (by simp)
 rcases h1.2 with ⟨rfl,h0⟩|⟨g,cap,cur,rfl,hb,hh,hc,_⟩
 ·simp at h0
 ·cases vs with
  | nil=>simp at k1
  | cons u0 vt =>
   simp only[List.getElem?_cons_zero,Option.some.injEq,List.getElem_cons_zero] at k1 k2 k3
   subst k1
   refine ⟨g,cap,A0,c0,vt,rfl,hc,k2,k3,⟨hb,(Array.getElem?_eq_some_iff.1 hh).1⟩,⟨.inr ⟨_,rfl,⟨hb,(Array.getElem?_eq_some_iff.1 hh).1⟩,fun j u hu=>h1.cells (g:=g) rfl j u hu⟩⟩,hs,by simpa using hn,fun u hu => ?_⟩
   obtain ⟨i,hi,e⟩:=List.getElem_of_mem hu
   have hi2:i<(x :: t).length:=by simp only[List.length_cons,Nat.mul_one] at hn hi ⊢;omega
   obtain ⟨Ai,ci,g1, -, -⟩:=hs i hi2
   have:u = .slice Ai ((x :: t)[i]).length ci:=by rw[List.getElem?_eq_getElem hi,e] at g1;exact Option.some.inj g1
   rw[this];rfl
end
theorem Tryz.sinfo2:(Tryz.prog.info? 47).map (fun i=>(i.zero,i.size,i.bytes))=some (some (.slice none 0 0),1,24):=by kernel_rfl
end
section
open Go.RowKit Go.Shelf
attribute [local go_sem] Oper.semAt_some
theorem box1_lay (W W' : World) (t:TypeId) (v:Value) (B:Nat) (hB:W.heap.size=B) (hb:Below (B+1) (W.alloc (.cells #[v] t)) W'):Box1 W' B t v:=by
 subst hB
 exact (Box1.new W t v).below hb (by omega)
theorem box3_lay (W W' : World) (t:TypeId) (v0 v1 v2:Value) (B:Nat) (hB:W.heap.size=B) (hb:Below (B+1) (W.alloc (.cells #[v0,v1,v2] t)) W'):Box3 W' B t v0 v1 v2:=by
 subst hB
 exact (Box3.new W t v0 v1 v2).kept (hb.block _ (by omega))
theorem wrap_add (a b:Nat) (ha:a≤8000000) (hb:b≤8):IntKind.i64.wrap ((a:Int)+(b:Int))=((a+b:Nat):Int):=by
 rw[IntKind.wrap_i64];omega
def OpenIs (w:World) (b:List UInt8) (e:Ending) (w' : World):Prop :=
 ∃p,e = .returned (.tuple #[.pointer p,.int .i64 (if (openB b).isSome then 0 else 170)])∧Below w.heap.size w w'∧(openB b=none→p=none)∧∀ls,openB b=some ls→p=some ⟨w.heap.size+3,0,none⟩∧PartAt (fun k=>w.heap.size≤k∧k<w'.heap.size) w' (w.heap.size+3) ls
structure OpenI (w w1 W:World) (s:Nat→Prop) (pre:List (Item×Nat)):Prop where
 out:∃q vB vF vA bl,OpenR w.heap.size W W s q vB vF vA bl (bl.map (·.headD [])) bl.flatten bl.flatten.length∧unpackAll pre=some bl
 bel:Below w.heap.size w W
 size:w1.heap.size≤W.heap.size
structure OpenX (w w1 W:World) (s:Nat→Prop) (pre:List (Item×Nat)):Prop where
 r2:Box1 W w.heap.size 160 (.pointer none)
 r3:Box1 W (w.heap.size+1) 31 (.int .i64 170)
 sl:∀k,s k→w.heap.size+6≤k
 bad:unpackAll pre=none
 bel:Below w.heap.size w W
 size:w1.heap.size≤W.heap.size
section
variable {w w1 A B : World} {s : Nat → Prop} {pre : List (Item × Nat)}
theorem OpenI.turn_s (h:OpenI w w1 A s pre) (ht:Turn s A B):OpenI w w1 B (grown s A B) pre:=by
 obtain ⟨q,vB,vF,vA,bl,h1,h2⟩:=h.out
 exact ⟨⟨q,vB,vF,vA,bl,h1.turn_s ht,h2⟩,h.bel.trans (ht.below (fun j hj=>by have:=(h1.sl j hj).1;omega) h.bel.size),by have:=ht.size;have:=h.size;omega⟩
theorem OpenI.turn_d (h:OpenI w w1 A s pre) (ht:Turn (fun k=>k=w1.heap.size∨k=w1.heap.size+1) A B) (hz:w1.heap.size=w.heap.size+7):OpenI w w1 B s pre:=by
 obtain ⟨q,vB,vF,vA,bl,h1,h2⟩:=h.out
 exact ⟨⟨q,vB,vF,vA,bl,h1.turn_d (ht.mono fun j _ e=>by omega),h2⟩,h.bel.trans (ht.below (fun j hj=>by omega) h.bel.size),by have:=ht.size;have:=h.size;omega⟩
theorem OpenX.turn_s (h:OpenX w w1 A s pre) (ht:Turn s A B) (hA:w.heap.size+6≤A.heap.size):OpenX w w1 B (grown s A B) pre :=
 ⟨h.r2.turn ht (fun e=>by have:=h.sl _ e;omega),h.r3.turn ht (fun e=>by have:=h.sl _ e;omega),fun k hk=>by rcases hk with hk|hk;exact h.sl k hk;omega,h.bad,h.bel.trans (ht.below (fun j hj=>by have:=h.sl j hj;omega) h.bel.size),by have:=ht.size;have:=h.size;omega⟩
theorem OpenX.turn_d (h:OpenX w w1 A s pre) (ht:Turn (fun k=>k=w1.heap.size∨k=w1.heap.size+1) A B) (hz:w1.heap.size=w.heap.size+7):OpenX w w1 B s pre :=
 ⟨h.r2.turn ht (by omega),h.r3.turn ht (by omega),h.sl,h.bad,h.bel.trans (ht.below (fun j hj=>by omega) h.bel.size),by have:=ht.size;have:=h.size;omega⟩
end
theorem frameOk_keep {n0:Nat}{L:List (Item×Nat)}{s:Nat→Prop}{pre:List Framed}{y:Framed}{A B:World}{D:Nat}(h:FrameOk n0 L s pre y A) (hs:∀k,s k→k≠D∧k≠D+1) (ht:Turn (fun k=>k=D∨k=D+1) A B):FrameOk n0 L s pre y B:=by
 have hz:=ht.size
 exact ⟨(h.1.keep (Kept.of_turn ht fun k hk=>⟨hk.2,by have:=hs k hk.1;omega⟩)).mono fun k hk=>⟨hk.1,by omega⟩,h.2.1,h.2.2.1,by have:=h.2.2.2;omega⟩
theorem unpackAll_e {a:List (Item×Nat)}{y:Item×Nat}(h:y.2≠0):unpackAll (a ++ [y])=none:=by
 rw[unpackAll_snoc]
 cases unpackAll a with
 | none=>rfl
 | some bl=>simp only;rw[if_pos h]
theorem unpackAll_u {a:List (Item×Nat)}{y:Item×Nat}(h:(unpackR y.1).2≠0):unpackAll (a ++ [y])=none:=by
 rw[unpackAll_snoc]
 cases unpackAll a with
 | none=>rfl
 | some bl=>simp only;rw[if_pos h];split<;>rfl
theorem unpackAll_ok {a:List (Item×Nat)}{y:Item×Nat}{bl:List (List Item)}(h0:unpackAll a=some bl) (h1:y.2=0) (h2:(unpackR y.1).2=0):unpackAll (a ++ [y])=some (bl ++ [(unpackR y.1).1]):=by
 rw[unpackAll_snoc,h0];simp only;rw[if_neg (by omega),if_neg (by omega)]
theorem openB_none {b:List UInt8}{pre:List (Item×Nat)}(hp:pre <+: framesL (b.length+1) b) (h:unpackAll pre=none):openB b=none:=by
 obtain ⟨t,ht⟩:=hp
 unfold openB
 rw[←ht,unpackAll_bad pre t h]
theorem OpenR.leave {w w1 W Wc:World}{s q:Nat→Prop}{vB vF vA:Value}{bl:List (List Item)}{fs al:List Item}{many:Nat}{pre:List (Item×Nat)}(h:OpenR w.heap.size W Wc s q vB vF vA bl fs al many) (hbel:Below w.heap.size w Wc) (hsz:w1.heap.size≤Wc.heap.size) (hbad:unpackAll pre=none) :
  Turn (fun k=>¬ s k∧¬ k<w.heap.size∧k≠w.heap.size+7∧k≠w.heap.size+7+1) W ((Wc.setCell ⟨w.heap.size,0,none⟩ (.pointer none)).setCell ⟨w.heap.size+1,0,none⟩ (.int .i64 170))∧OpenX w w1 ((Wc.setCell ⟨w.heap.size,0,none⟩ (.pointer none)).setCell ⟨w.heap.size+1,0,none⟩ (.int .i64 170)) s pre:=by
 have ht:=(h.t.mine (fun k e=>(h.sl k e).1) ⟨w.heap.size,0,none⟩ (.pointer none) (by simp) (by simp)).mine (fun k e=>(h.sl k e).1) ⟨w.heap.size+1,0,none⟩ (.int .i64 170) (by simp) (by simp)
 refine ⟨ht.mono fun j _ e=>⟨e.1,by omega,e.2.2.1,e.2.2.2⟩,⟨(h.c.r2.set _).kept (other (by simp)),(h.c.r3.kept (other (by simp))).set _,fun k e=>(h.sl k e).1,hbad,(hbel.setCell (p:=⟨w.heap.size,0,none⟩) (by simp) _).setCell (p:=⟨w.heap.size+1,0,none⟩) (by simp) _,by rw[World.size_setCell,World.size_setCell];exact hsz⟩⟩
theorem OpenR.done {w w1 W Wc:World}{s q:Nat→Prop}{vB vF vA:Value}{bl:List (List Item)}{fs al:List Item}{many:Nat}{pre:List (Item×Nat)}(h:OpenR w.heap.size W Wc s q vB vF vA bl fs al many) (e1:bl.map (·.headD [])=fs) (e2:bl.flatten=al) (e3:al.length=many) (hu:unpackAll pre=some bl) (hbel:Below w.heap.size w W) (hsz:w1.heap.size≤W.heap.size):OpenI w w1 Wc s pre:=by
 subst e3
 subst e2
 subst e1
 exact ⟨⟨_,_,_,_,_,h.over,hu⟩,hbel.trans (h.t.below (fun j e=>e.2.1) hbel.size),Nat.le_trans hsz h.size⟩
theorem Open_any (A:Option Addr) (n c:Nat) (b:List UInt8) (hbn:b.length=n) (hnc:n≤c) (hn6:n≤1000000) (w:World) (hS:Sees w w.heap.size A (bv b)) (hH:Halves w) (hg0:1+1≤w.heap.size) :
  Calls Tryz.prog 106 #[.slice A n c] w (OpenIs w b):=by
 refine (callsIn_wide (n:=5)).1 ?_
 have HS:=Lib.hid hS
 have HBN:=Lib.hid hbn
 clear hS hbn
 have hF:=fun W=>Lib.hid (frames_any A n c W)
 refine callsIn_of_wp_marks Tryz.func106 rfl trivial ?_ rfl
 simp only[Tryz.ntmps106,List.size_toArray,List.length_cons,List.length_nil,Nat.reduceAdd,Nat.reduceSub,Array.replicate_succ,Array.replicate_zero,List.push_toArray,List.append_toArray,List.nil_append,List.cons_append]
 gi_wp2_with fail
 refine ⟨trivial,(callsIn_wide.2 (hF _).out).mono ?_⟩
 rintro e w1 ⟨rfl,hw1⟩
 have a0:=Below.refl w.heap.size w
 obtain ⟨wa,hwa⟩:∃wa,w.alloc (Obj.cells #[Value.pointer none] 160)=wa:=⟨_,rfl⟩
 rw[hwa] at hw1 ⊢
 obtain ⟨wb,hwb⟩:∃wb,wa.alloc (Obj.cells #[Value.int IntKind.i64 0] 31)=wb:=⟨_,rfl⟩
 rw[hwb] at hw1 ⊢
 obtain ⟨wc,hwc⟩:∃wc,wb.alloc (Obj.cells #[Value.slice none 0 0] 211)=wc:=⟨_,rfl⟩
 rw[hwc] at hw1 ⊢
 obtain ⟨wd,hwd⟩:∃wd,wc.alloc (Obj.cells #[Value.pointer (some ⟨w.heap.size+1+1,0,none⟩),Value.slice none 0 0,Value.int IntKind.i64 0] 213)=wd:=⟨_,rfl⟩
 rw[hwd] at hw1 ⊢
 obtain ⟨we,hwe⟩:∃we,wd.alloc (Obj.cells #[Value.pointer (some ⟨w.heap.size+1+1+1,0,none⟩)] 160)=we:=⟨_,rfl⟩
 rw[hwe] at hw1 ⊢
 obtain ⟨wf,hwf⟩:∃wf,we.alloc (Obj.cells #[Value.slice none 0 0] 47)=wf:=⟨_,rfl⟩
 rw[hwf] at hw1 ⊢
 have za:wa.heap.size=w.heap.size+1:=by rw[←hwa];simp
 have zb:wb.heap.size=w.heap.size+2:=by rw[←hwb];simp[za]
 have zc:wc.heap.size=w.heap.size+3:=by rw[←hwc];simp[zb]
 have zd:wd.heap.size=w.heap.size+4:=by rw[←hwd];simp[zc]
 have ze:we.heap.size=w.heap.size+5:=by rw[←hwe];simp[zd]
 have zf:wf.heap.size=w.heap.size+6:=by rw[←hwf];simp[ze]
 have n0:Below w.heap.size w wa:=hwa ▸ (Below.refl _ w).alloc (Nat.le_refl _) _
 have n1:Below wa.heap.size wa wb:=hwb ▸ (Below.refl _ wa).alloc (Nat.le_refl _) _
 have n2:Below wb.heap.size wb wc:=hwc ▸ (Below.refl _ wb).alloc (Nat.le_refl _) _
 have n3:Below wc.heap.size wc wd:=hwd ▸ (Below.refl _ wc).alloc (Nat.le_refl _) _
 have n4:Below wd.heap.size wd we:=hwe ▸ (Below.refl _ wd).alloc (Nat.le_refl _) _
 have n5:Below we.heap.size we wf:=hwf ▸ (Below.refl _ we).alloc (Nat.le_refl _) _
 have m4:Below wd.heap.size wd wf:=n4.trans (n5.mono (by omega))
 have m3:Below wc.heap.size wc wf:=n3.trans (m4.mono (by omega))
 have m2:Below wb.heap.size wb wf:=n2.trans (m3.mono (by omega))
 have m1:Below wa.heap.size wa wf:=n1.trans (m2.mono (by omega))
 have m0:Below w.heap.size w wf:=n0.trans (m1.mono (by omega))
 have hR0:=OpenR.start (Wa:=wf) (w1:=w1) (n0:=w.heap.size) (box1_lay w wf _ _ _ rfl (by rw[hwa];exact m1.mono (by omega))) (box1_lay wa wf _ _ _ za (by rw[hwb];exact m2.mono (by omega)))
  (box1_lay wb wf _ _ _ zb (by rw[hwc];exact m3.mono (by omega))) (box3_lay wc wf _ _ _ _ _ zc (by rw[hwd];exact m4.mono (by omega))) (box1_lay wd wf _ _ _ zd (by rw[hwe];exact n5.mono (by omega)))
  (box1_lay we wf _ _ _ ze (by rw[hwf];exact Below.refl _ _)) zf _ hw1
 have hb1:Below w.heap.size w w1:=m0.trans (by rw[hw1];exact ((Below.refl _ wf).alloc (Nat.le_refl _) _).mono (by omega))
 have hz1:w1.heap.size=w.heap.size+7:=by rw[hw1];simp[zf]
 have hB0:Box1 w1 (w.heap.size+6) 48 (.slice A n c):=box1_lay wf w1 _ _ _ zf (by rw[hw1];exact Below.refl _ _)
 rw[zf]
 clear hw1 hwa hwb hwc hwd hwe hwf n0 n1 n2 n3 n4 n5 m4 m3 m2 m1 m0 za zb zc zd ze zf hF wa wb wc wd we wf
 simp only[Nat.add_assoc,Nat.reduceAdd]
 have hD:=frames1_seq (w:=w1) w.heap.size (HS.out.below hb1) HBN.out hnc hn6 (hH.below hb1 hg0) hg0 (w.heap.size+6) hB0 (by omega) 4
 gi_wp2_with fail
 obtain ⟨L,hL⟩:∃L,framesL (n+1) b=L:=⟨_,rfl⟩
 have hLn:L.length≤n+1:=by rw[←hL];exact framesL_le _ _
 have hLb:∀z∈L,z.1.length≤n:=fun z hz=>by rw[←HBN.out];rw[←hL] at hz;exact framesL_body _ _ z hz
 rw[hL] at hD
 have HL:=Lib.hid hL
 clear hL
 refine wpIn_rangeFunc_T (F:=Fence.wide) (n:=5) rfl (by omega) (gf:=211) (lb := #[.pointer (some ⟨w.heap.size+6,0,none⟩)]) rfl trivial (enters_of Tryz.func211 (by kernel_rfl) rfl)
  hD (Below.refl _ _) (fun _=>rfl) (fun k hk=>by rcases hk with hk|rfl<;>omega)
  (fun s pre y A B h hR ht=>frameOk_keep h (fun k hk=>hR k (.inl hk)) ht)
  (fun (s:Nat→Prop) (pre:List Framed) (W:World)=>OpenI w w1 W s (pre.map fun z:Framed=>z.1))
  (fun (c:Code) (s:Nat→Prop) (pre:List Framed) (W:World)=>c = .ret∧OpenX w w1 W s (pre.map fun z:Framed=>z.1))
  (fun s pre A B h ht=>h.turn_s ht) (fun c s pre A B h ht=>⟨h.1,h.2.turn_s ht (by have:=h.2.size;omega)⟩) (fun s pre A B h ht=>h.turn_d ht hz1) (fun c s pre A B h ht=>⟨h.1,h.2.turn_d ht hz1⟩) ⟨⟨_,_,_,_, [],hR0,rfl⟩,hb1,Nat.le_refl _⟩
  (fun (y:Framed) => { tmps := #[.slice A n c,undef,.pointer (some ⟨w.heap.size,0,none⟩),.pointer (some ⟨w.heap.size+1,0,none⟩),.pointer (some ⟨w.heap.size+4,0,none⟩),.pointer (some ⟨w.heap.size+5,0,none⟩),.slice y.2.1 y.1.1.length y.2.2,.int .i64 (y.1.2:Nat),undef,undef,undef,undef,.agg #[.slice none 0 0],.pointer (some ⟨w.heap.size+2,0,none⟩),.agg #[.pointer (some ⟨w.heap.size+2,0,none⟩),.slice none 0 0,.int .i64 0],.pointer (some ⟨w.heap.size+3,0,none⟩),.slice A n c,.func (.func 211) #[] #[.pointer (some ⟨w.heap.size+6,0,none⟩)],.slice y.2.1 y.1.1.length y.2.2,.int .i64 (y.1.2:Nat),undef,undef,undef,undef,undef,undef,undef,undef,undef,undef,undef,undef,undef,undef,undef,undef,undef,undef,undef,undef,undef,undef,undef,undef,undef,undef,undef,undef,undef,undef,undef,undef,undef,undef,undef,undef,undef,undef,undef,undef,undef,undef,undef,undef,undef,undef,undef,undef,undef,undef,undef,undef,undef,undef,undef,undef,undef,undef,undef,undef,undef,undef,undef],defers := [] }) ?assign ?body ?done ?stop
 case assign =>
  intro l y W K hK
  dsimp only[Framed.vals]
  gi_wp2
  exact hK
 case body =>
  rintro l s pre y W ⟨⟨q,vB,vF,vA,bl,hR,hub⟩,hbel,hsz⟩ hlt ⟨g1,g2,g3,g4⟩ hdW
  obtain ⟨⟨AB,cB,rfl, -⟩,⟨AF,cF,rfl, -⟩,⟨AA,cA,rfl, -⟩⟩:=hR.rows
  obtain ⟨hbl,hck⟩:=unpackAll_some _ hub
  rw[List.length_map] at hbl
  have hfl:=flatten_le8 bl hck
  have hbn:bl.length≤1000000:=by omega
  have hpm:List.map (·.1) (pre ++ [y])=pre.map (·.1) ++ [y.1]:=by simp
  have hyl:y.1.1.length≤n:=hLb _ (g3.subset (by simp))
  by_cases he:y.1.2=0
  ·rw[he]
   have HE:=Lib.hid he
   have hU:=Lib.hid (Unpack_any y.2.1 y.1.1.length y.2.2 y.1.1 rfl g2 (by omega) W (g1.sees (fun k hk=>hk.2)))
   clear he
   gi_wp2_with fail
   refine ⟨trivial,(CallsIn.inRound l (callsIn_wide.2 hU.out)).mono ?_⟩
   rintro en w2 ⟨v,rfl,hown,hb2⟩
   obtain ⟨l0,e2,hlu⟩:∃l0 e2,unpackR y.1.1=(l0,e2):=⟨_,_,rfl⟩
   have hlu1:=hlu
   rw[hlu1] at hown
   simp only[hlu1] at hown ⊢
   have hRb:=hR.below hb2
   have hbel2:=hbel.trans (hb2.mono hbel.size)
   have hs2:=hb2.size
   by_cases he2:e2=0
   ·subst he2
    have huo:=unpack_ok (b:=y.1.1) (by rw[hlu1])
    simp only[hlu1] at huo
    have hcl:=check_lens huo.1
    cases l0 with
    | nil=>simp at hcl
    | cons x t =>
    have HU:=Lib.hid (unpackAll_ok hub HE.out (by rw[hlu1]))
    simp only[hlu1] at HU
    obtain ⟨g,cl,A0,c0,vt,rfl,hlc, -, -,hY0⟩:=RowIn.of hown
    have hY:=hY0.mono (q':=fun k=>q k∨(W.heap.size≤k∧k<w2.heap.size)) fun k e => .inr ⟨by omega,e.2⟩
    have hR2:=hR.more hb2 (by omega)
    obtain ⟨fs,hfs⟩:∃fs,bl.map (·.headD [])=fs:=⟨_,rfl⟩
    obtain ⟨al,hal⟩:∃al,bl.flatten=al:=⟨_,rfl⟩
    have hfsn:fs.length≤1000000:=by rw[←hfs,List.length_map];exact hbn
    have haln:al.length≤8000000:=by rw[←hal];omega
    obtain ⟨many,hmany⟩:∃many,al.length=many:=⟨_,rfl⟩
    rw[hfs,hal,hmany] at hR2
    have HFS:=Lib.hid hfs
    have HAL:=Lib.hid hal
    have HMY:=Lib.hid hmany
    obtain ⟨nl,hnl⟩:∃nl,(x :: t).length=nl:=⟨_,rfl⟩
    obtain ⟨n0x,hn0x⟩:∃n0x,x.length=n0x:=⟨_,rfl⟩
    rw[hnl] at hlc hcl ⊢
    rw[hn0x] at hY
    have HNL:=Lib.hid hnl
    have hnl0:0<nl:=hcl.1
    have hnl8:nl≤8:=hcl.2
    have hbase9:w.heap.size+9≤W.heap.size:=by omega
    have hmn:many≤8000000:=by omega
    have hwr:=wrap_add many nl (by omega) (by omega)
    have HBL:=Lib.hid hbl
    clear hbl
    obtain ⟨i1,hi1,hz1',hy1,hx1⟩:=info_parts Tryz.sinfo
    obtain ⟨i2,hi2,hz2,hy2,hx2⟩:=info_parts Tryz.sinfo2
    have HZ1:=Lib.hid hz1
    rw[hfs,hal,hmany] at hR
    clear hz1 hnl hn0x hfs hal hmany hcl hown hY0 hRb huo hlu hlu1 hub hU hR hH hg0 hB0 hb1
    have hz1:=hz1'
    gi_wp2_with fail
    refine wpIn_round_held (S:=fun W'=>W'.cell? ⟨w.heap.size+4,0,none⟩=some (.pointer (some ⟨w.heap.size+3,0,none⟩))) (by kernel_rfl) (by kernel_rfl) ?_ (fun hHeld => ?_)
    ·(exact hR2.drew.c.t4.cell)
    have hZ0:=hR2.drew
    have hY0:=hY.keep (hR2.qbelow (below_drew (Below.refl _ _)))
    generalize w2.drew=wz0 at hZ0 hY0 hHeld ⊢
    have p0:=hZ0.c.p.cell1;have f0:=hZ0.c.p.frozen1
    refine tq0 0 hHeld ?_
    try simp only[Act.put,S0,S1,S2]
    refine tq0 1 hHeld ?_
    try simp only[Act.put,S0,S1,S2]
    refine tq0 2 hHeld ?_
    try simp only[Act.put,S0,S1,S2]
    refine tq0 3 hHeld ?_
    try simp only[Act.put,S0,S1,S2]
    refine tq0 5 hHeld ?_
    try simp only[Act.put,S0,S1,S2]
    refine wpAnyH_ready (rs := [4,6]) (by kernel_rfl) (by simp) ?_
    refine AllReadyH.cons (tqi rfl) (fun K hK => ?_) ?_
    ·go_simp
     refine hK.out _ _ ?_ ?_
     ·(exact hZ0.c.t4.cell)
     clear hK K hHeld;intro hHeld
     try simp only[Act.put,S0,S1,S2]
     refine wpAnyH_ready (rs := [6]) (by kernel_rfl) (by simp) ?_
     refine AllReadyH.cons (tqi rfl) (fun K hK => ?_) AllReadyH.nil
     go_simp
     refine hK.out _ _ ?_ ?_
     ·(exact (hZ0.alloc _).c.t4.cell)
     clear hK K hHeld;intro hHeld
     try simp only[Act.put,S0,S1,S2]
     have hY1:=hY0.keep (hZ0.qbelow ((Below.refl _ wz0).alloc (Nat.le_refl _) (.cells #[.slice (some ⟨g,0,none⟩) nl cl] 47)))
     have hZ1:=hZ0.alloc (.cells #[.slice (some ⟨g,0,none⟩) nl cl] 47)
     have hd2:Sees (wz0.alloc (.cells #[.slice (some ⟨g,0,none⟩) nl cl] 47)) (wz0.alloc (.cells #[.slice (some ⟨g,0,none⟩) nl cl] 47)).heap.size (some ⟨wz0.heap.size,0,none⟩) [.slice (some ⟨g,0,none⟩) nl cl]:=⟨.inr ⟨_,rfl,by simp,fun j u hu=>by match j,hu with|0,hu=>(simp at hu;subst hu;rw[Addr.add_lit,World.cell?_alloc_at _ _ _ _ rfl];rfl)⟩⟩
     obtain ⟨wz1,hwz1⟩:∃wz1,(wz0.alloc (.cells #[.slice (some ⟨g,0,none⟩) nl cl] 47))=wz1:=⟨_,rfl⟩
     rw[hwz1] at hZ1 hY1 hd2 hHeld ⊢
     clear hwz1
     have p1:=hZ1.c.p.cell1;have f1:=hZ1.c.p.frozen1
     refine wpAnyH_ready (rs := [7]) (by kernel_rfl) (by simp) ?_
     refine AllReadyH.cons (tqi rfl) (fun K hK => ?_) AllReadyH.nil
     obtain ⟨vs,g1,g2⟩:=hZ1.pushB
     have hsz1:=hZ1.size
     refine step_append_v (by rfl) (.tmp 33) (.tmp 35) 72 (by rfl) 47 i2 _ 1 24 Tryz.underlying72 hi2 hz2 hy2 hx2 rfl (by omega) (w.heap.size+9) _ _ _ (by rfl) g1 _ (some ⟨wz0.heap.size,0,none⟩) 1 1 [.slice (some ⟨g,0,none⟩) nl cl] (by rfl) rfl hd2 (fun u hu=>by simp at hu;subst hu;rfl) (by simp only[maxLen];omega) (by omega) (by omega) ?_
     intro v' wz3 hown3 hon3
     obtain ⟨hc3,hq3,hqs3,hZ3⟩:=g2 wz3 v' (x :: t) (some ⟨g,0,none⟩) cl (by rw[HNL.out];exact hlc) hY1.sees2 (by rw[HNL.out];exact hown3) hon3
     obtain ⟨gv,cv',rfl⟩:=ownsRow_succ hown3
     have hY3:=hY1.keep hq3
     have p3:=hc3.p.cell1;have f3:=hc3.p.frozen1
     refine hK.out _ _ ?_ ?_
     ·(exact hc3.t4.cell)
     clear hK K hHeld;intro hHeld
     try simp only[Act.put,S0,S1,S2]
     refine tq0 8 hHeld ?_
     try simp only[Act.put,S0,S1,S2]
     refine tq0 9 hHeld ?_
     try simp only[Act.put,S0,S1,S2]
     refine wpAnyH_ready (rs := [10]) (by kernel_rfl) (by simp) ?_
     refine AllReadyH.cons (tqi rfl) (fun K hK => ?_) AllReadyH.nil
     go_simp
     refine hK.out _ _ ?_ ?_
     ·(exact hZ3.c.t4.cell)
     clear hK K hHeld;intro hHeld
     try simp only[Act.put,S0,S1,S2]
     refine wpAnyH_done (by kernel_rfl) ?_ _
     refine Only.normal ?_
     have hY2:=hY3.keep (hqs3 ⟨w.heap.size+3,1,none⟩ (.slice (some ⟨gv,0,none⟩) (bl.length+1) cv') (by simp))
     have hR3:=hZ3
     generalize wz3.setCell ⟨w.heap.size+3,1,none⟩ (.slice (some ⟨gv,0,none⟩) (bl.length+1) cv')=w3 at hR3 hY2 ⊢
     clear hZ0 hZ1 hY0 hY1 hY3 hd2 hon3 hown3 g1 g2 hc3 hq3 hqs3 p0 f0 p1 f1 p3 f3 hHeld hsz1 hZ3
     gi_wp2_with fail
     refine wpIn_round_held (S:=fun W'=>W'.cell? ⟨w.heap.size+4,0,none⟩=some (.pointer (some ⟨w.heap.size+3,0,none⟩))∧W'.cell? ⟨w.heap.size+3,0,none⟩=some (.pointer (some ⟨w.heap.size+2,0,none⟩))∧W'.cell? ⟨g,0,none⟩=some (.slice A0 n0x c0)) (by kernel_rfl) (by kernel_rfl) ?_ (fun hHeld => ?_)
     ·(exact ⟨hR3.drew.c.t4.cell,hR3.drew.c.p.cell0,(hY2.keep (hR3.qbelow (below_drew (Below.refl _ _)))).first⟩)
     have hZ0:=hR3.drew
     have hY0:=hY2.keep (hR3.qbelow (below_drew (Below.refl _ _)))
     generalize w3.drew=wz0 at hZ0 hY0 hHeld ⊢
     have p0:=hZ0.c.x.cell;have f0:=hZ0.c.x.frozen
     refine tq0 0 hHeld ?_
     try simp only[Act.put,S0,S1,S2]
     refine tq0 1 hHeld ?_
     try simp only[Act.put,S0,S1,S2]
     refine tq0 2 hHeld ?_
     try simp only[Act.put,S0,S1,S2]
     refine tq0 3 hHeld ?_
     try simp only[Act.put,S0,S1,S2]
     refine tq0 4 hHeld ?_
     try simp only[Act.put,S0,S1,S2]
     refine tq0 5 hHeld ?_
     try simp only[Act.put,S0,S1,S2]
     refine tq0 6 hHeld ?_
     try simp only[Act.put,S0,S1,S2]
     refine tq0 7 hHeld ?_
     try simp only[Act.put,S0,S1,S2]
     refine tq0 8 hHeld ?_
     try simp only[Act.put,S0,S1,S2]
     refine tq0 9 hHeld ?_
     try simp only[Act.put,S0,S1,S2]
     refine tq0 11 hHeld ?_
     try simp only[Act.put,S0,S1,S2]
     refine tq0 12 hHeld ?_
     try simp only[Act.put,S0,S1,S2]
     refine tq0 13 hHeld ?_
     try simp only[Act.put,S0,S1,S2]
     refine wpAnyH_ready (rs := [10,14]) (by kernel_rfl) (by simp) ?_
     refine AllReadyH.cons (tqi rfl) (fun K hK => ?_) ?_
     ·go_simp
      refine hK.out _ _ ?_ ?_
      ·(exact ⟨hZ0.c.t4.cell,hZ0.c.p.cell0,hY0.first⟩)
      clear hK K hHeld;intro hHeld
      try simp only[Act.put,S0,S1,S2]
      refine wpAnyH_ready (rs := [14]) (by kernel_rfl) (by simp) ?_
      refine AllReadyH.cons (tqi rfl) (fun K hK => ?_) AllReadyH.nil
      go_simp
      refine hK.out _ _ ?_ ?_
      ·(exact ⟨(hZ0.alloc _).c.t4.cell,(hZ0.alloc _).c.p.cell0,(hY0.keep (hZ0.qbelow ((Below.refl _ _).alloc (Nat.le_refl _) _))).first⟩)
      clear hK K hHeld;intro hHeld
      try simp only[Act.put,S0,S1,S2]
      have hY1:=hY0.keep (hZ0.qbelow ((Below.refl _ wz0).alloc (Nat.le_refl _) (.cells #[.slice A0 n0x c0] 48)))
      have hZ1:=hZ0.alloc (.cells #[.slice A0 n0x c0] 48)
      have hd2:Sees (wz0.alloc (.cells #[.slice A0 n0x c0] 48)) (wz0.alloc (.cells #[.slice A0 n0x c0] 48)).heap.size (some ⟨wz0.heap.size,0,none⟩) [.slice A0 n0x c0]:=⟨.inr ⟨_,rfl,by simp,fun j u hu=>by match j,hu with|0,hu=>(simp at hu;subst hu;rw[Addr.add_lit,World.cell?_alloc_at _ _ _ _ rfl];rfl)⟩⟩
      obtain ⟨wz1,hwz1⟩:∃wz1,(wz0.alloc (.cells #[.slice A0 n0x c0] 48))=wz1:=⟨_,rfl⟩
      rw[hwz1] at hZ1 hY1 hd2 hHeld ⊢
      clear hwz1
      have p1:=hZ1.c.x.cell;have f1:=hZ1.c.x.frozen
      refine wpAnyH_ready (rs := [15]) (by kernel_rfl) (by simp) ?_
      refine AllReadyH.cons (tqi rfl) (fun K hK => ?_) AllReadyH.nil
      obtain ⟨vs,g1,g2⟩:=hZ1.pushF
      have hsz1:=hZ1.size
      obtain ⟨hxa,hxb,hxc⟩:=hY1.x
      refine step_append_v (by rfl) (.tmp 49) (.tmp 53) 47 (by rfl) 48 i1 _ 1 24 Tryz.underlying47 hi1 hz1 hy1 hx1 rfl (by omega) (w.heap.size+9) _ _ _ (by rfl) g1 _ (some ⟨wz0.heap.size,0,none⟩) 1 1 [.slice A0 n0x c0] (by rfl) rfl hd2 (fun u hu=>by simp at hu;subst hu;rfl) (by simp only[maxLen];omega) (by omega) (by omega) ?_
      intro v' wz3 hown3 hon3
      obtain ⟨hc3,hq3,hqs3,hZ3⟩:=g2 wz3 v' x A0 c0 hxb hxc (by rw[hxa];exact hown3) hon3
      obtain ⟨gv,cv',rfl⟩:=ownsRow_succ hown3
      have hY3:=hY1.keep hq3
      have p3:=hc3.x.cell;have f3:=hc3.x.frozen
      refine hK.out _ _ ?_ ?_
      ·(exact ⟨hc3.t4.cell,hc3.p.cell0,hY3.first⟩)
      clear hK K hHeld;intro hHeld
      try simp only[Act.put,S0,S1,S2]
      refine tq0 16 hHeld ?_
      try simp only[Act.put,S0,S1,S2]
      refine tq0 17 hHeld ?_
      try simp only[Act.put,S0,S1,S2]
      refine wpAnyH_ready (rs := [18]) (by kernel_rfl) (by simp) ?_
      refine AllReadyH.cons (tqi rfl) (fun K hK => ?_) AllReadyH.nil
      go_simp
      refine hK.out _ _ ?_ ?_
      ·(exact ⟨hZ3.c.t4.cell,hZ3.c.p.cell0,(hY3.keep (hqs3 _ _ (by simp))).first⟩)
      clear hK K hHeld;intro hHeld
      try simp only[Act.put,S0,S1,S2]
      refine wpAnyH_done (by kernel_rfl) ?_ _
      refine Only.normal ?_
      have hY3':=hY3.keep (hqs3 ⟨w.heap.size+2,0,none⟩ (.slice (some ⟨gv,0,none⟩) (fs.length+1) cv') (by simp))
      generalize wz3.setCell ⟨w.heap.size+2,0,none⟩ (.slice (some ⟨gv,0,none⟩) (fs.length+1) cv')=w4 at hZ3 hY3' ⊢
      clear hZ0 hZ1 hY0 hY1 hY3 hd2 hon3 hown3 g1 g2 hc3 hq3 hqs3 p0 f0 p1 f1 p3 f3 hHeld hsz1 hxa hxb hxc
      have hY5:=hY3'.keep (hZ3.qmine ⟨w.heap.size+3,2,none⟩ (.int .i64 (many+nl:Nat)) (by simp))
      have hZ5:=hZ3.setN (many+nl)
      rw[Int.natCast_add] at hY5 hZ5
      have p2:=hZ3.c.p.cell2
      have f2:=hZ3.c.p.frozen2
      have t4c:=hZ3.c.t4.cell
      have t5c:=hZ3.c.t5.cell
      obtain ⟨vsA,g1,g2⟩:=hZ5.pushA
      have hseeA:=hY5.sees.sees (B:=_) (fun k hk=>(hZ5.o.qlt k hk).2)
      have hsz5:=hZ5.size
      have hln5:(Value.slice A0 n0x c0 :: vt).length=nl*1:=by rw[hY5.len,HNL.out,Nat.mul_one]
      gi_wp2_with ((with_reducible refine wpListIn_append_v (o := { dst:=some 68,op:=Op.call { callee:=Callee.builtin Builtin.append,args := #[Operand.tmp 66,Operand.tmp 67],argTypes := #[47,47] },type:=47,pos := "itempart.go:118",after := #[{ on:=0,ground:=Ground.data }, { on:=1,ground:=Ground.data }],guard:=none }) ?_ (.tmp 66) (.tmp 67) 47 ?_ 48 i1 _ 1 24 ?_ hi1 hz1 hy1 hx1 ?_ ?_ (w.heap.size+9) _ _ _ ?_ g1 _ (some ⟨g,0,none⟩) nl cl _ ?_ hln5 hseeA ?_ ?_ ?_ ?_ ?_);exact rfl;exact rfl;exact Tryz.underlying47;exact rfl;omega;exact rfl;exact rfl;exact hY5.one;(simp only[maxLen];omega);omega;omega;intro v' wn hown hon;obtain ⟨gv,cv',ev, -, -⟩:=World.ownsRow.form hown (by omega);subst ev;obtain ⟨hc6, -, -,hZ6⟩:=g2 wn _ (x :: t) _ hY5.cells (by rw[HNL.out];exact hown) hon;have t5c:=hc6.t5.cell;have t5f:=hc6.t5.frozen)
      have ht6:=hZ6.t
      have HZ1:=HZ1.out
      refine And.intro (ht6.mono fun j _ e => ?_) (hZ6.done (pre:=List.map (fun z:Framed=>z.1) (pre ++ [y])) (by rw[List.map_append,HFS.out];rfl) (by rw[List.flatten_append,HAL.out];simp) (by rw[List.length_append,HMY.out,HNL.out]) (by rw[hpm];exact HU.out) hbel hsz)
      exact ⟨e.1,by have:=e.2.1;show ¬ j<w.heap.size;omega,by have:=e.2.2.1;omega,by have:=e.2.2.2;omega⟩
     refine AllReadyH.cons (tqi rfl) (fun K hK => ?_) AllReadyH.nil
     go_simp
     refine hK.out _ _ ?_ ?_
     ·(exact ⟨(hZ0.alloc _).c.t4.cell,(hZ0.alloc _).c.p.cell0,(hY0.keep (hZ0.qbelow ((Below.refl _ _).alloc (Nat.le_refl _) _))).first⟩)
     clear hK K hHeld;intro hHeld
     try simp only[Act.put,S0,S1,S2]
     have hY1:=hY0.keep (hZ0.qbelow ((Below.refl _ wz0).alloc (Nat.le_refl _) (.cells #[.slice A0 n0x c0] 48)))
     have hZ1:=hZ0.alloc (.cells #[.slice A0 n0x c0] 48)
     have hd2:Sees (wz0.alloc (.cells #[.slice A0 n0x c0] 48)) (wz0.alloc (.cells #[.slice A0 n0x c0] 48)).heap.size (some ⟨wz0.heap.size,0,none⟩) [.slice A0 n0x c0]:=⟨.inr ⟨_,rfl,by simp,fun j u hu=>by match j,hu with|0,hu=>(simp at hu;subst hu;rw[Addr.add_lit,World.cell?_alloc_at _ _ _ _ rfl];rfl)⟩⟩
     obtain ⟨wz1,hwz1⟩:∃wz1,(wz0.alloc (.cells #[.slice A0 n0x c0] 48))=wz1:=⟨_,rfl⟩
     rw[hwz1] at hZ1 hY1 hd2 hHeld ⊢
     clear hwz1
     have p1:=hZ1.c.x.cell;have f1:=hZ1.c.x.frozen
     refine wpAnyH_ready (rs := [10]) (by kernel_rfl) (by simp) ?_
     refine AllReadyH.cons (tqi rfl) (fun K hK => ?_) AllReadyH.nil
     go_simp
     refine hK.out _ _ ?_ ?_
     ·(exact ⟨hZ1.c.t4.cell,hZ1.c.p.cell0,hY1.first⟩)
     clear hK K hHeld;intro hHeld
     try simp only[Act.put,S0,S1,S2]
     refine wpAnyH_ready (rs := [15]) (by kernel_rfl) (by simp) ?_
     refine AllReadyH.cons (tqi rfl) (fun K hK => ?_) AllReadyH.nil
     obtain ⟨vs,g1,g2⟩:=hZ1.pushF
     have hsz1:=hZ1.size
     obtain ⟨hxa,hxb,hxc⟩:=hY1.x
     refine step_append_v (by rfl) (.tmp 49) (.tmp 53) 47 (by rfl) 48 i1 _ 1 24 Tryz.underlying47 hi1 hz1 hy1 hx1 rfl (by omega) (w.heap.size+9) _ _ _ (by rfl) g1 _ (some ⟨wz0.heap.size,0,none⟩) 1 1 [.slice A0 n0x c0] (by rfl) rfl hd2 (fun u hu=>by simp at hu;subst hu;rfl) (by simp only[maxLen];omega) (by omega) (by omega) ?_
     intro v' wz3 hown3 hon3
     obtain ⟨hc3,hq3,hqs3,hZ3⟩:=g2 wz3 v' x A0 c0 hxb hxc (by rw[hxa];exact hown3) hon3
     obtain ⟨gv,cv',rfl⟩:=ownsRow_succ hown3
     have hY3:=hY1.keep hq3
     have p3:=hc3.x.cell;have f3:=hc3.x.frozen
     refine hK.out _ _ ?_ ?_
     ·(exact ⟨hc3.t4.cell,hc3.p.cell0,hY3.first⟩)
     clear hK K hHeld;intro hHeld
     try simp only[Act.put,S0,S1,S2]
     refine tq0 16 hHeld ?_
     try simp only[Act.put,S0,S1,S2]
     refine tq0 17 hHeld ?_
     try simp only[Act.put,S0,S1,S2]
     refine wpAnyH_ready (rs := [18]) (by kernel_rfl) (by simp) ?_
     refine AllReadyH.cons (tqi rfl) (fun K hK => ?_) AllReadyH.nil
     go_simp
     refine hK.out _ _ ?_ ?_
     ·(exact ⟨hZ3.c.t4.cell,hZ3.c.p.cell0,(hY3.keep (hqs3 _ _ (by simp))).first⟩)
     clear hK K hHeld;intro hHeld
     try simp only[Act.put,S0,S1,S2]
     refine wpAnyH_done (by kernel_rfl) ?_ _
     refine Only.normal ?_
     have hY3':=hY3.keep (hqs3 ⟨w.heap.size+2,0,none⟩ (.slice (some ⟨gv,0,none⟩) (fs.length+1) cv') (by simp))
     generalize wz3.setCell ⟨w.heap.size+2,0,none⟩ (.slice (some ⟨gv,0,none⟩) (fs.length+1) cv')=w4 at hZ3 hY3' ⊢
     clear hZ0 hZ1 hY0 hY1 hY3 hd2 hon3 hown3 g1 g2 hc3 hq3 hqs3 p0 f0 p1 f1 p3 f3 hHeld hsz1 hxa hxb hxc
     have hY5:=hY3'.keep (hZ3.qmine ⟨w.heap.size+3,2,none⟩ (.int .i64 (many+nl:Nat)) (by simp))
     have hZ5:=hZ3.setN (many+nl)
     rw[Int.natCast_add] at hY5 hZ5
     have p2:=hZ3.c.p.cell2
     have f2:=hZ3.c.p.frozen2
     have t4c:=hZ3.c.t4.cell
     have t5c:=hZ3.c.t5.cell
     obtain ⟨vsA,g1,g2⟩:=hZ5.pushA
     have hseeA:=hY5.sees.sees (B:=_) (fun k hk=>(hZ5.o.qlt k hk).2)
     have hsz5:=hZ5.size
     have hln5:(Value.slice A0 n0x c0 :: vt).length=nl*1:=by rw[hY5.len,HNL.out,Nat.mul_one]
     gi_wp2_with ((with_reducible refine wpListIn_append_v (o := { dst:=some 68,op:=Op.call { callee:=Callee.builtin Builtin.append,args := #[Operand.tmp 66,Operand.tmp 67],argTypes := #[47,47] },type:=47,pos := "itempart.go:118",after := #[{ on:=0,ground:=Ground.data }, { on:=1,ground:=Ground.data }],guard:=none }) ?_ (.tmp 66) (.tmp 67) 47 ?_ 48 i1 _ 1 24 ?_ hi1 hz1 hy1 hx1 ?_ ?_ (w.heap.size+9) _ _ _ ?_ g1 _ (some ⟨g,0,none⟩) nl cl _ ?_ hln5 hseeA ?_ ?_ ?_ ?_ ?_);exact rfl;exact rfl;exact Tryz.underlying47;exact rfl;omega;exact rfl;exact rfl;exact hY5.one;(simp only[maxLen];omega);omega;omega;intro v' wn hown hon;obtain ⟨gv,cv',ev, -, -⟩:=World.ownsRow.form hown (by omega);subst ev;obtain ⟨hc6, -, -,hZ6⟩:=g2 wn _ (x :: t) _ hY5.cells (by rw[HNL.out];exact hown) hon;have t5c:=hc6.t5.cell;have t5f:=hc6.t5.frozen)
     have ht6:=hZ6.t
     have HZ1:=HZ1.out
     refine And.intro (ht6.mono fun j _ e => ?_) (hZ6.done (pre:=List.map (fun z:Framed=>z.1) (pre ++ [y])) (by rw[List.map_append,HFS.out];rfl) (by rw[List.flatten_append,HAL.out];simp) (by rw[List.length_append,HMY.out,HNL.out]) (by rw[hpm];exact HU.out) hbel hsz)
     exact ⟨e.1,by have:=e.2.1;show ¬ j<w.heap.size;omega,by have:=e.2.2.1;omega,by have:=e.2.2.2;omega⟩
    refine AllReadyH.cons (tqi rfl) (fun K hK => ?_) AllReadyH.nil
    go_simp
    refine hK.out _ _ ?_ ?_
    ·(exact (hZ0.alloc _).c.t4.cell)
    clear hK K hHeld;intro hHeld
    try simp only[Act.put,S0,S1,S2]
    have hY1:=hY0.keep (hZ0.qbelow ((Below.refl _ wz0).alloc (Nat.le_refl _) (.cells #[.slice (some ⟨g,0,none⟩) nl cl] 47)))
    have hZ1:=hZ0.alloc (.cells #[.slice (some ⟨g,0,none⟩) nl cl] 47)
    have hd2:Sees (wz0.alloc (.cells #[.slice (some ⟨g,0,none⟩) nl cl] 47)) (wz0.alloc (.cells #[.slice (some ⟨g,0,none⟩) nl cl] 47)).heap.size (some ⟨wz0.heap.size,0,none⟩) [.slice (some ⟨g,0,none⟩) nl cl]:=⟨.inr ⟨_,rfl,by simp,fun j u hu=>by match j,hu with|0,hu=>(simp at hu;subst hu;rw[Addr.add_lit,World.cell?_alloc_at _ _ _ _ rfl];rfl)⟩⟩
    obtain ⟨wz1,hwz1⟩:∃wz1,(wz0.alloc (.cells #[.slice (some ⟨g,0,none⟩) nl cl] 47))=wz1:=⟨_,rfl⟩
    rw[hwz1] at hZ1 hY1 hd2 hHeld ⊢
    clear hwz1
    have p1:=hZ1.c.p.cell1;have f1:=hZ1.c.p.frozen1
    refine wpAnyH_ready (rs := [4]) (by kernel_rfl) (by simp) ?_
    refine AllReadyH.cons (tqi rfl) (fun K hK => ?_) AllReadyH.nil
    go_simp
    refine hK.out _ _ ?_ ?_
    ·(exact hZ1.c.t4.cell)
    clear hK K hHeld;intro hHeld
    try simp only[Act.put,S0,S1,S2]
    refine wpAnyH_ready (rs := [7]) (by kernel_rfl) (by simp) ?_
    refine AllReadyH.cons (tqi rfl) (fun K hK => ?_) AllReadyH.nil
    obtain ⟨vs,g1,g2⟩:=hZ1.pushB
    have hsz1:=hZ1.size
    refine step_append_v (by rfl) (.tmp 33) (.tmp 35) 72 (by rfl) 47 i2 _ 1 24 Tryz.underlying72 hi2 hz2 hy2 hx2 rfl (by omega) (w.heap.size+9) _ _ _ (by rfl) g1 _ (some ⟨wz0.heap.size,0,none⟩) 1 1 [.slice (some ⟨g,0,none⟩) nl cl] (by rfl) rfl hd2 (fun u hu=>by simp at hu;subst hu;rfl) (by simp only[maxLen];omega) (by omega) (by omega) ?_
    intro v' wz3 hown3 hon3
    obtain ⟨hc3,hq3,hqs3,hZ3⟩:=g2 wz3 v' (x :: t) (some ⟨g,0,none⟩) cl (by rw[HNL.out];exact hlc) hY1.sees2 (by rw[HNL.out];exact hown3) hon3
    obtain ⟨gv,cv',rfl⟩:=ownsRow_succ hown3
    have hY3:=hY1.keep hq3
    have p3:=hc3.p.cell1;have f3:=hc3.p.frozen1
    refine hK.out _ _ ?_ ?_
    ·(exact hc3.t4.cell)
    clear hK K hHeld;intro hHeld
    try simp only[Act.put,S0,S1,S2]
    refine tq0 8 hHeld ?_
    try simp only[Act.put,S0,S1,S2]
    refine tq0 9 hHeld ?_
    try simp only[Act.put,S0,S1,S2]
    refine wpAnyH_ready (rs := [10]) (by kernel_rfl) (by simp) ?_
    refine AllReadyH.cons (tqi rfl) (fun K hK => ?_) AllReadyH.nil
    go_simp
    refine hK.out _ _ ?_ ?_
    ·(exact hZ3.c.t4.cell)
    clear hK K hHeld;intro hHeld
    try simp only[Act.put,S0,S1,S2]
    refine wpAnyH_done (by kernel_rfl) ?_ _
    refine Only.normal ?_
    have hY2:=hY3.keep (hqs3 ⟨w.heap.size+3,1,none⟩ (.slice (some ⟨gv,0,none⟩) (bl.length+1) cv') (by simp))
    have hR3:=hZ3
    generalize wz3.setCell ⟨w.heap.size+3,1,none⟩ (.slice (some ⟨gv,0,none⟩) (bl.length+1) cv')=w3 at hR3 hY2 ⊢
    clear hZ0 hZ1 hY0 hY1 hY3 hd2 hon3 hown3 g1 g2 hc3 hq3 hqs3 p0 f0 p1 f1 p3 f3 hHeld hsz1 hZ3
    gi_wp2_with fail
    refine wpIn_round_held (S:=fun W'=>W'.cell? ⟨w.heap.size+4,0,none⟩=some (.pointer (some ⟨w.heap.size+3,0,none⟩))∧W'.cell? ⟨w.heap.size+3,0,none⟩=some (.pointer (some ⟨w.heap.size+2,0,none⟩))∧W'.cell? ⟨g,0,none⟩=some (.slice A0 n0x c0)) (by kernel_rfl) (by kernel_rfl) ?_ (fun hHeld => ?_)
    ·(exact ⟨hR3.drew.c.t4.cell,hR3.drew.c.p.cell0,(hY2.keep (hR3.qbelow (below_drew (Below.refl _ _)))).first⟩)
    have hZ0:=hR3.drew
    have hY0:=hY2.keep (hR3.qbelow (below_drew (Below.refl _ _)))
    generalize w3.drew=wz0 at hZ0 hY0 hHeld ⊢
    have p0:=hZ0.c.x.cell;have f0:=hZ0.c.x.frozen
    refine tq0 0 hHeld ?_
    try simp only[Act.put,S0,S1,S2]
    refine tq0 1 hHeld ?_
    try simp only[Act.put,S0,S1,S2]
    refine tq0 2 hHeld ?_
    try simp only[Act.put,S0,S1,S2]
    refine tq0 3 hHeld ?_
    try simp only[Act.put,S0,S1,S2]
    refine tq0 4 hHeld ?_
    try simp only[Act.put,S0,S1,S2]
    refine tq0 5 hHeld ?_
    try simp only[Act.put,S0,S1,S2]
    refine tq0 6 hHeld ?_
    try simp only[Act.put,S0,S1,S2]
    refine tq0 7 hHeld ?_
    try simp only[Act.put,S0,S1,S2]
    refine tq0 8 hHeld ?_
    try simp only[Act.put,S0,S1,S2]
    refine tq0 9 hHeld ?_
    try simp only[Act.put,S0,S1,S2]
    refine tq0 11 hHeld ?_
    try simp only[Act.put,S0,S1,S2]
    refine tq0 12 hHeld ?_
    try simp only[Act.put,S0,S1,S2]
    refine tq0 13 hHeld ?_
    try simp only[Act.put,S0,S1,S2]
    refine wpAnyH_ready (rs := [10,14]) (by kernel_rfl) (by simp) ?_
    refine AllReadyH.cons (tqi rfl) (fun K hK => ?_) ?_
    ·go_simp
     refine hK.out _ _ ?_ ?_
     ·(exact ⟨hZ0.c.t4.cell,hZ0.c.p.cell0,hY0.first⟩)
     clear hK K hHeld;intro hHeld
     try simp only[Act.put,S0,S1,S2]
     refine wpAnyH_ready (rs := [14]) (by kernel_rfl) (by simp) ?_
     refine AllReadyH.cons (tqi rfl) (fun K hK => ?_) AllReadyH.nil
     go_simp
     refine hK.out _ _ ?_ ?_
     ·(exact ⟨(hZ0.alloc _).c.t4.cell,(hZ0.alloc _).c.p.cell0,(hY0.keep (hZ0.qbelow ((Below.refl _ _).alloc (Nat.le_refl _) _))).first⟩)
     clear hK K hHeld;intro hHeld
     try simp only[Act.put,S0,S1,S2]
     have hY1:=hY0.keep (hZ0.qbelow ((Below.refl _ wz0).alloc (Nat.le_refl _) (.cells #[.slice A0 n0x c0] 48)))
     have hZ1:=hZ0.alloc (.cells #[.slice A0 n0x c0] 48)
     have hd2:Sees (wz0.alloc (.cells #[.slice A0 n0x c0] 48)) (wz0.alloc (.cells #[.slice A0 n0x c0] 48)).heap.size (some ⟨wz0.heap.size,0,none⟩) [.slice A0 n0x c0]:=⟨.inr ⟨_,rfl,by simp,fun j u hu=>by match j,hu with|0,hu=>(simp at hu;subst hu;rw[Addr.add_lit,World.cell?_alloc_at _ _ _ _ rfl];rfl)⟩⟩
     obtain ⟨wz1,hwz1⟩:∃wz1,(wz0.alloc (.cells #[.slice A0 n0x c0] 48))=wz1:=⟨_,rfl⟩
     rw[hwz1] at hZ1 hY1 hd2 hHeld ⊢
     clear hwz1
     have p1:=hZ1.c.x.cell;have f1:=hZ1.c.x.frozen
     refine wpAnyH_ready (rs := [15]) (by kernel_rfl) (by simp) ?_
     refine AllReadyH.cons (tqi rfl) (fun K hK => ?_) AllReadyH.nil
     obtain ⟨vs,g1,g2⟩:=hZ1.pushF
     have hsz1:=hZ1.size
     obtain ⟨hxa,hxb,hxc⟩:=hY1.x
     refine step_append_v (by rfl) (.tmp 49) (.tmp 53) 47 (by rfl) 48 i1 _ 1 24 Tryz.underlying47 hi1 hz1 hy1 hx1 rfl (by omega) (w.heap.size+9) _ _ _ (by rfl) g1 _ (some ⟨wz0.heap.size,0,none⟩) 1 1 [.slice A0 n0x c0] (by rfl) rfl hd2 (fun u hu=>by simp at hu;subst hu;rfl) (by simp only[maxLen];omega) (by omega) (by omega) ?_
     intro v' wz3 hown3 hon3
     obtain ⟨hc3,hq3,hqs3,hZ3⟩:=g2 wz3 v' x A0 c0 hxb hxc (by rw[hxa];exact hown3) hon3
     obtain ⟨gv,cv',rfl⟩:=ownsRow_succ hown3
     have hY3:=hY1.keep hq3
     have p3:=hc3.x.cell;have f3:=hc3.x.frozen
     refine hK.out _ _ ?_ ?_
     ·(exact ⟨hc3.t4.cell,hc3.p.cell0,hY3.first⟩)
     clear hK K hHeld;intro hHeld
     try simp only[Act.put,S0,S1,S2]
     refine tq0 16 hHeld ?_
     try simp only[Act.put,S0,S1,S2]
     refine tq0 17 hHeld ?_
     try simp only[Act.put,S0,S1,S2]
     refine wpAnyH_ready (rs := [18]) (by kernel_rfl) (by simp) ?_
     refine AllReadyH.cons (tqi rfl) (fun K hK => ?_) AllReadyH.nil
     go_simp
     refine hK.out _ _ ?_ ?_
     ·(exact ⟨hZ3.c.t4.cell,hZ3.c.p.cell0,(hY3.keep (hqs3 _ _ (by simp))).first⟩)
     clear hK K hHeld;intro hHeld
     try simp only[Act.put,S0,S1,S2]
     refine wpAnyH_done (by kernel_rfl) ?_ _
     refine Only.normal ?_
     have hY3':=hY3.keep (hqs3 ⟨w.heap.size+2,0,none⟩ (.slice (some ⟨gv,0,none⟩) (fs.length+1) cv') (by simp))
     generalize wz3.setCell ⟨w.heap.size+2,0,none⟩ (.slice (some ⟨gv,0,none⟩) (fs.length+1) cv')=w4 at hZ3 hY3' ⊢
     clear hZ0 hZ1 hY0 hY1 hY3 hd2 hon3 hown3 g1 g2 hc3 hq3 hqs3 p0 f0 p1 f1 p3 f3 hHeld hsz1 hxa hxb hxc
     have hY5:=hY3'.keep (hZ3.qmine ⟨w.heap.size+3,2,none⟩ (.int .i64 (many+nl:Nat)) (by simp))
     have hZ5:=hZ3.setN (many+nl)
     rw[Int.natCast_add] at hY5 hZ5
     have p2:=hZ3.c.p.cell2
     have f2:=hZ3.c.p.frozen2
     have t4c:=hZ3.c.t4.cell
     have t5c:=hZ3.c.t5.cell
     obtain ⟨vsA,g1,g2⟩:=hZ5.pushA
     have hseeA:=hY5.sees.sees (B:=_) (fun k hk=>(hZ5.o.qlt k hk).2)
     have hsz5:=hZ5.size
     have hln5:(Value.slice A0 n0x c0 :: vt).length=nl*1:=by rw[hY5.len,HNL.out,Nat.mul_one]
     gi_wp2_with ((with_reducible refine wpListIn_append_v (o := { dst:=some 68,op:=Op.call { callee:=Callee.builtin Builtin.append,args := #[Operand.tmp 66,Operand.tmp 67],argTypes := #[47,47] },type:=47,pos := "itempart.go:118",after := #[{ on:=0,ground:=Ground.data }, { on:=1,ground:=Ground.data }],guard:=none }) ?_ (.tmp 66) (.tmp 67) 47 ?_ 48 i1 _ 1 24 ?_ hi1 hz1 hy1 hx1 ?_ ?_ (w.heap.size+9) _ _ _ ?_ g1 _ (some ⟨g,0,none⟩) nl cl _ ?_ hln5 hseeA ?_ ?_ ?_ ?_ ?_);exact rfl;exact rfl;exact Tryz.underlying47;exact rfl;omega;exact rfl;exact rfl;exact hY5.one;(simp only[maxLen];omega);omega;omega;intro v' wn hown hon;obtain ⟨gv,cv',ev, -, -⟩:=World.ownsRow.form hown (by omega);subst ev;obtain ⟨hc6, -, -,hZ6⟩:=g2 wn _ (x :: t) _ hY5.cells (by rw[HNL.out];exact hown) hon;have t5c:=hc6.t5.cell;have t5f:=hc6.t5.frozen)
     have ht6:=hZ6.t
     have HZ1:=HZ1.out
     refine And.intro (ht6.mono fun j _ e => ?_) (hZ6.done (pre:=List.map (fun z:Framed=>z.1) (pre ++ [y])) (by rw[List.map_append,HFS.out];rfl) (by rw[List.flatten_append,HAL.out];simp) (by rw[List.length_append,HMY.out,HNL.out]) (by rw[hpm];exact HU.out) hbel hsz)
     exact ⟨e.1,by have:=e.2.1;show ¬ j<w.heap.size;omega,by have:=e.2.2.1;omega,by have:=e.2.2.2;omega⟩
    refine AllReadyH.cons (tqi rfl) (fun K hK => ?_) AllReadyH.nil
    go_simp
    refine hK.out _ _ ?_ ?_
    ·(exact ⟨(hZ0.alloc _).c.t4.cell,(hZ0.alloc _).c.p.cell0,(hY0.keep (hZ0.qbelow ((Below.refl _ _).alloc (Nat.le_refl _) _))).first⟩)
    clear hK K hHeld;intro hHeld
    try simp only[Act.put,S0,S1,S2]
    have hY1:=hY0.keep (hZ0.qbelow ((Below.refl _ wz0).alloc (Nat.le_refl _) (.cells #[.slice A0 n0x c0] 48)))
    have hZ1:=hZ0.alloc (.cells #[.slice A0 n0x c0] 48)
    have hd2:Sees (wz0.alloc (.cells #[.slice A0 n0x c0] 48)) (wz0.alloc (.cells #[.slice A0 n0x c0] 48)).heap.size (some ⟨wz0.heap.size,0,none⟩) [.slice A0 n0x c0]:=⟨.inr ⟨_,rfl,by simp,fun j u hu=>by match j,hu with|0,hu=>(simp at hu;subst hu;rw[Addr.add_lit,World.cell?_alloc_at _ _ _ _ rfl];rfl)⟩⟩
    obtain ⟨wz1,hwz1⟩:∃wz1,(wz0.alloc (.cells #[.slice A0 n0x c0] 48))=wz1:=⟨_,rfl⟩
    rw[hwz1] at hZ1 hY1 hd2 hHeld ⊢
    clear hwz1
    have p1:=hZ1.c.x.cell;have f1:=hZ1.c.x.frozen
    refine wpAnyH_ready (rs := [10]) (by kernel_rfl) (by simp) ?_
    refine AllReadyH.cons (tqi rfl) (fun K hK => ?_) AllReadyH.nil
    go_simp
    refine hK.out _ _ ?_ ?_
    ·(exact ⟨hZ1.c.t4.cell,hZ1.c.p.cell0,hY1.first⟩)
    clear hK K hHeld;intro hHeld
    try simp only[Act.put,S0,S1,S2]
    refine wpAnyH_ready (rs := [15]) (by kernel_rfl) (by simp) ?_
    refine AllReadyH.cons (tqi rfl) (fun K hK => ?_) AllReadyH.nil
    obtain ⟨vs,g1,g2⟩:=hZ1.pushF
    have hsz1:=hZ1.size
    obtain ⟨hxa,hxb,hxc⟩:=hY1.x
    refine step_append_v (by rfl) (.tmp 49) (.tmp 53) 47 (by rfl) 48 i1 _ 1 24 Tryz.underlying47 hi1 hz1 hy1 hx1 rfl (by omega) (w.heap.size+9) _ _ _ (by rfl) g1 _ (some ⟨wz0.heap.size,0,none⟩) 1 1 [.slice A0 n0x c0] (by rfl) rfl hd2 (fun u hu=>by simp at hu;subst hu;rfl) (by simp only[maxLen];omega) (by omega) (by omega) ?_
    intro v' wz3 hown3 hon3
    obtain ⟨hc3,hq3,hqs3,hZ3⟩:=g2 wz3 v' x A0 c0 hxb hxc (by rw[hxa];exact hown3) hon3
    obtain ⟨gv,cv',rfl⟩:=ownsRow_succ hown3
    have hY3:=hY1.keep hq3
    have p3:=hc3.x.cell;have f3:=hc3.x.frozen
    refine hK.out _ _ ?_ ?_
    ·(exact ⟨hc3.t4.cell,hc3.p.cell0,hY3.first⟩)
    clear hK K hHeld;intro hHeld
    try simp only[Act.put,S0,S1,S2]
    refine tq0 16 hHeld ?_
    try simp only[Act.put,S0,S1,S2]
    refine tq0 17 hHeld ?_
    try simp only[Act.put,S0,S1,S2]
    refine wpAnyH_ready (rs := [18]) (by kernel_rfl) (by simp) ?_
    refine AllReadyH.cons (tqi rfl) (fun K hK => ?_) AllReadyH.nil
    go_simp
    refine hK.out _ _ ?_ ?_
    ·(exact ⟨hZ3.c.t4.cell,hZ3.c.p.cell0,(hY3.keep (hqs3 _ _ (by simp))).first⟩)
    clear hK K hHeld;intro hHeld
    try simp only[Act.put,S0,S1,S2]
    refine wpAnyH_done (by kernel_rfl) ?_ _
    refine Only.normal ?_
    have hY3':=hY3.keep (hqs3 ⟨w.heap.size+2,0,none⟩ (.slice (some ⟨gv,0,none⟩) (fs.length+1) cv') (by simp))
    generalize wz3.setCell ⟨w.heap.size+2,0,none⟩ (.slice (some ⟨gv,0,none⟩) (fs.length+1) cv')=w4 at hZ3 hY3' ⊢
    clear hZ0 hZ1 hY0 hY1 hY3 hd2 hon3 hown3 g1 g2 hc3 hq3 hqs3 p0 f0 p1 f1 p3 f3 hHeld hsz1 hxa hxb hxc
    have hY5:=hY3'.keep (hZ3.qmine ⟨w.heap.size+3,2,none⟩ (.int .i64 (many+nl:Nat)) (by simp))
    have hZ5:=hZ3.setN (many+nl)
    rw[Int.natCast_add] at hY5 hZ5
    have p2:=hZ3.c.p.cell2
    have f2:=hZ3.c.p.frozen2
    have t4c:=hZ3.c.t4.cell
    have t5c:=hZ3.c.t5.cell
    obtain ⟨vsA,g1,g2⟩:=hZ5.pushA
    have hseeA:=hY5.sees.sees (B:=_) (fun k hk=>(hZ5.o.qlt k hk).2)
    have hsz5:=hZ5.size
    have hln5:(Value.slice A0 n0x c0 :: vt).length=nl*1:=by rw[hY5.len,HNL.out,Nat.mul_one]
    gi_wp2_with ((with_reducible refine wpListIn_append_v (o := { dst:=some 68,op:=Op.call { callee:=Callee.builtin Builtin.append,args := #[Operand.tmp 66,Operand.tmp 67],argTypes := #[47,47] },type:=47,pos := "itempart.go:118",after := #[{ on:=0,ground:=Ground.data }, { on:=1,ground:=Ground.data }],guard:=none }) ?_ (.tmp 66) (.tmp 67) 47 ?_ 48 i1 _ 1 24 ?_ hi1 hz1 hy1 hx1 ?_ ?_ (w.heap.size+9) _ _ _ ?_ g1 _ (some ⟨g,0,none⟩) nl cl _ ?_ hln5 hseeA ?_ ?_ ?_ ?_ ?_);exact rfl;exact rfl;exact Tryz.underlying47;exact rfl;omega;exact rfl;exact rfl;exact hY5.one;(simp only[maxLen];omega);omega;omega;intro v' wn hown hon;obtain ⟨gv,cv',ev, -, -⟩:=World.ownsRow.form hown (by omega);subst ev;obtain ⟨hc6, -, -,hZ6⟩:=g2 wn _ (x :: t) _ hY5.cells (by rw[HNL.out];exact hown) hon;have t5c:=hc6.t5.cell;have t5f:=hc6.t5.frozen)
    have ht6:=hZ6.t
    have HZ1:=HZ1.out
    refine And.intro (ht6.mono fun j _ e => ?_) (hZ6.done (pre:=List.map (fun z:Framed=>z.1) (pre ++ [y])) (by rw[List.map_append,HFS.out];rfl) (by rw[List.flatten_append,HAL.out];simp) (by rw[List.length_append,HMY.out,HNL.out]) (by rw[hpm];exact HU.out) hbel hsz)
    exact ⟨e.1,by have:=e.2.1;show ¬ j<w.heap.size;omega,by have:=e.2.2.1;omega,by have:=e.2.2.2;omega⟩
   ·have hez:((e2:Int) != 0)=true:=by rw[bne_iff_ne];omega
    have hc2:=hRb.c.r2.cell
    have hf2:=hRb.c.r2.frozen
    have hc3:=hRb.c.r3.cell
    have hf3:=hRb.c.r3.frozen
    have HU:=Lib.hid (unpackAll_u (a:=pre.map (·.1)) (y:=y.1) (by rw[hlu1];exact he2))
    clear hlu hlu1 he2 hub hR
    gi_wp2_with fail
    have hL:=hRb.leave (w1:=w1) hbel2 (by omega) HU.out
    refine ⟨?_,rfl,by rw[hpm];exact hL.2⟩
    show Turn (fun k=>¬ s k∧¬ k<w.heap.size∧k≠w1.heap.size∧k≠w1.heap.size+1) _ _
    rw[hz1]
    exact hL.1
  ·have hez:((y.1.2:Int) != 0)=true:=by rw[bne_iff_ne];omega
   have hc2:=hR.c.r2.cell
   have hf2:=hR.c.r2.frozen
   have hc3:=hR.c.r3.cell
   have hf3:=hR.c.r3.frozen
   have HE:=Lib.hid he
   clear he
   gi_wp2_with fail
   have hL:=hR.leave (w1:=w1) hbel hsz (unpackAll_e (a:=pre.map (·.1)) (y:=y.1) HE.out)
   exact ⟨hL.1,rfl,by rw[hpm];exact hL.2⟩
 case done =>
  rintro s xs W hS ⟨⟨q,vB,vF,vA,bl,hR,hub⟩,hbel,hsz⟩ hK
  have HZ1:=Lib.hid hz1
  have hxs:xs.map (fun z:Framed=>z.1)=L:=hS
  rw[hxs] at hub
  obtain ⟨⟨AB,cB,rfl,hcB⟩,⟨AF,cF,rfl,hcF⟩,⟨AA,cA,rfl,hcA⟩⟩:=hR.rows
  obtain ⟨hbl,hck⟩:=unpackAll_some _ hub
  have hfl:=flatten_le8 bl hck
  have hHW:Halves W:=hH.below hbel hg0
  obtain ⟨vs3,k1,k2⟩:=hR.o.rA
  have hA:=k2.sees2 (m:=fun k=>k<W.heap.size) k1 (fun k e=>(hR.o.qlt k e).2) (fun k e=>(World.ownsRow.lt k1 k e).2)
  obtain ⟨al,hal⟩:∃al,bl.flatten=al:=⟨_,rfl⟩
  obtain ⟨na,hna⟩:∃na,al.length=na:=⟨_,rfl⟩
  have haln:na≤8000008:=by rw[←hna, ←hal];omega
  have hcA':=hcA
  rw[hal] at hA hcA'
  rw[hna] at hcA'
  have hB:=Lib.hid (Build_any AA na cA al hna hcA' W (hA.sees fun k e=>e) hHW (by omega))
  have hOB:Hid (openB b=if buildE al=0∧fileB al=b then some al else none):=by
   unfold Hid openB
   rw[HBN.out,HL.out,hub]
   simp only[hal]
  have hopb:=fun h1 h2=>open_blocks (b:=b) (bl:=bl) (by rw[HBN.out,HL.out];exact hub) h1 h2
  have hlW:=hR.c.lt
  have t5c:=hR.c.t5.cell
  rw[hal,hna] at t5c
  have HR:=Lib.hid hR
  have HAL:=Lib.hid hal
  have HNA:=Lib.hid hna
  have HOPB:=Lib.hid hopb
  have HK:=Lib.hid hK
  have hsz':=hsz
  clear hR hal hna hopb hub hck hfl hbl k1 k2 hA hS hxs hD hR0 hB0 hLb hK hcA hb1
  gi_wp2_with fail
  refine ⟨trivial,(callsIn_wide.2 hB.out).mono ?_⟩
  rintro en w2 ⟨v,rfl,hown,hb2⟩
  have hs2:=hb2.size
  have hR2:=Lib.hid (HR.out.below hb2)
  have hbel2:=hbel.trans (hb2.mono hbel.size)
  obtain ⟨be,hbe⟩:∃be,buildE al=be:=⟨_,rfl⟩
  rw[hbe] at hown ⊢
  have HBE:=Lib.hid hbe
  have c2:=hR2.out.c.r2.cell
  have f2:=hR2.out.c.r2.frozen
  have c3:=hR2.out.c.r3.cell
  have f3:=hR2.out.c.r3.frozen
  have c4:=hR2.out.c.t4.cell
  have hDb:w2.heap[w.heap.size+7]?=some (.deferred (some [])):=by
   rw[←HZ1.out]
   exact (hb2.block _ (by have:=HZ1.out;have:=(Array.getElem?_eq_some_iff.1 HK.out).1;omega)).trans HK.out
  have hfin:∀(a b:Value),(((w2.setCell ⟨w.heap.size,0,none⟩ a).setCell ⟨w.heap.size+1,0,none⟩ b).heap[w.heap.size+7]?=some (.deferred (some []))):=fun a b=>(other (by show w.heap.size+1≠_;omega)).trans ((other (by show w.heap.size≠_;omega)).trans hDb)
  have HDB:=Lib.hid hfin
  clear hfin hDb hz1
  clear hbe
  by_cases hb0:be=0
  ·subst hb0
   rw[if_pos rfl] at hown
   obtain ⟨A1,c1,rfl,hc1, -, -,hsee1⟩:=hown.open_
   have hE:=Lib.hid (BytesEqual_any A1 A (fileB al).length n c1 c (fileB al) b rfl HBN.out w2 hsee1 ((HS.out.below hbel2).more hbel2.size))
   obtain ⟨nf,hnf⟩:∃nf,(fileB al).length=nf:=⟨_,rfl⟩
   rw[hnf] at hE ⊢
   clear hnf hc1 hsee1 hown
   gi_wp2_with fail
   refine ⟨trivial,(callsIn_wide.2 hE.out).mono ?_⟩
   rintro en w3 ⟨rfl,rfl⟩
   by_cases hfb:fileB al=b
   ·have hdt:decide (fileB al=b)=true:=by rw[decide_eq_true_eq];exact hfb
    have hsm:openB b=some al:=by rw[hOB.out,if_pos ⟨HBE.out,hfb⟩]
    rw[hdt]
    have HFB:=Lib.hid hfb
    clear hdt hfb
    gi_wp2_with fail
    rw[show w1.heap.size=w.heap.size+7 from HZ1.out]
    refine ⟨by simp,.inl ⟨_,_,rfl,run_takeDeferred (HDB.out _ _),?_⟩⟩
    have ht:=kept_end w2 w.heap.size (.pointer (some ⟨w.heap.size+3,0,none⟩)) (.int .i64 0) (.deferred none)
    have hr2:=(((hR2.out.c.r2.set (.pointer (some ⟨w.heap.size+3,0,none⟩))).kept (other (p:=⟨w.heap.size+1,0,none⟩) (v := .int .i64 0) (by simp))).turn (Turn.putObj _ (w.heap.size+7) (.deferred none) (T:=fun k=>k=w.heap.size+7) rfl) (by omega)).cell
    have hr3:=(((hR2.out.c.r3.kept (other (p:=⟨w.heap.size,0,none⟩) (v := .pointer (some ⟨w.heap.size+3,0,none⟩)) (by simp))).set (.int .i64 0)).turn (Turn.putObj _ (w.heap.size+7) (.deferred none) (T:=fun k=>k=w.heap.size+7) rfl) (by omega)).cell
    refine ⟨.tuple #[.pointer (some ⟨w.heap.size+3,0,none⟩),.int .i64 0],?_,some ⟨w.heap.size+3,0,none⟩,?_,?_,?_,?_⟩
    ·simp[results,Tryz.f106,go_sem,hr2,hr3]
    ·rw[hsm];rfl
    ·exact hbel2.trans (ht.below (fun j hj=>by omega) hbel2.size)
    ·intro h;rw[hsm] at h;cases h
    ·intro ls hls
     rw[hsm] at hls
     injection hls with hls
     subst hls
     refine ⟨rfl,?_⟩
     obtain ⟨e1,e2,e3,e4⟩:=buildE_ok HBE.out
     have hfl:=HAL.out
     have hO:=HOPB.out (by rw[hfl];exact HBE.out) (by rw[hfl];exact HFB.out)
     have hP:=hR2.out.part hO (by rw[hfl];exact e2) (by rw[hfl];exact e1) (by rw[hfl];exact e3) (W':=((w2.setCell ⟨w.heap.size,0,none⟩ (.pointer (some ⟨w.heap.size+3,0,none⟩))).setCell ⟨w.heap.size+1,0,none⟩ (.int .i64 0)).putObj (w.heap.size+7) (.deferred none)) (Kept.of_turn ht fun k hk=>⟨hk.2.1,by have:=hk.1;have:=hk.2.2;omega⟩) ht.size
     rw[hfl] at hP
     exact hP
   ·have hdt:decide (fileB al=b)=false:=by rw[decide_eq_false_iff_not];exact hfb
    have hno:openB b=none:=by rw[hOB.out,if_neg fun e=>hfb e.2]
    rw[hdt]
    clear hdt hfb
    gi_wp2_with fail
    rw[show w1.heap.size=w.heap.size+7 from HZ1.out]
    refine ⟨by simp,.inl ⟨_,_,rfl,run_takeDeferred (HDB.out _ _),?_⟩⟩
    have ht:=kept_end w2 w.heap.size (.pointer none) (.int .i64 170) (.deferred none)
    have hr2:=(((hR2.out.c.r2.set (.pointer none)).kept (other (p:=⟨w.heap.size+1,0,none⟩) (v := .int .i64 170) (by simp))).turn (Turn.putObj _ (w.heap.size+7) (.deferred none) (T:=fun k=>k=w.heap.size+7) rfl) (by omega)).cell
    have hr3:=(((hR2.out.c.r3.kept (other (p:=⟨w.heap.size,0,none⟩) (v := .pointer none) (by simp))).set (.int .i64 170)).turn (Turn.putObj _ (w.heap.size+7) (.deferred none) (T:=fun k=>k=w.heap.size+7) rfl) (by omega)).cell
    refine ⟨.tuple #[.pointer none,.int .i64 170],?_,none,?_,?_,?_,?_⟩
    ·simp[results,Tryz.f106,go_sem,hr2,hr3]
    ·rw[hno];rfl
    ·exact hbel2.trans (ht.below (fun j hj=>by omega) hbel2.size)
    ·exact fun _=>rfl
    ·rw[hno];intro ls h;cases h
  ·have hez:((be:Int) != 0)=true:=by rw[bne_iff_ne];omega
   have hno:openB b=none:=by rw[hOB.out,if_neg (by rw[HBE.out];exact fun e=>hb0 e.1)]
   clear hb0 hown
   gi_wp2_with fail
   refine ⟨trivial,?_⟩
   gi_wp2_with fail
   rw[show w1.heap.size=w.heap.size+7 from HZ1.out]
   refine ⟨by simp,.inl ⟨_,_,rfl,run_takeDeferred (HDB.out _ _),?_⟩⟩
   have ht:=kept_end w2 w.heap.size (.pointer none) (.int .i64 170) (.deferred none)
   have hr2:=(((hR2.out.c.r2.set (.pointer none)).kept (other (p:=⟨w.heap.size+1,0,none⟩) (v := .int .i64 170) (by simp))).turn (Turn.putObj _ (w.heap.size+7) (.deferred none) (T:=fun k=>k=w.heap.size+7) rfl) (by omega)).cell
   have hr3:=(((hR2.out.c.r3.kept (other (p:=⟨w.heap.size,0,none⟩) (v := .pointer none) (by simp))).set (.int .i64 170)).turn (Turn.putObj _ (w.heap.size+7) (.deferred none) (T:=fun k=>k=w.heap.size+7) rfl) (by omega)).cell
   refine ⟨.tuple #[.pointer none,.int .i64 170],?_,none,?_,?_,?_,?_⟩
   ·simp[results,Tryz.f106,go_sem,hr2,hr3]
   ·rw[hno];rfl
   ·exact hbel2.trans (ht.below (fun j hj=>by omega) hbel2.size)
   ·exact fun _=>rfl
   ·rw[hno];intro ls h;cases h
 case stop =>
  rintro c s pre W hS ⟨rfl,hX⟩ hK
  have hon:=openB_none (b:=b) (pre:=pre.map fun z:Framed=>z.1) (by rw[HBN.out,HL.out];exact hS) hX.bad
  gi_wp2_with fail
  refine ⟨by simp,.inl ⟨_,_,rfl,run_takeDeferred hK,?_⟩⟩
  have hpt:=Turn.putObj W w1.heap.size (.deferred none) (T:=fun k=>k=w1.heap.size) rfl
  have h2:=(hX.r2.turn hpt (by omega)).cell
  have h3:=(hX.r3.turn hpt (by omega)).cell
  refine ⟨.tuple #[.pointer none,.int .i64 170],?_,none,?_,?_,?_,?_⟩
  ·simp[results,Tryz.f106,go_sem,h2,h3]
  ·rw[hon];rfl
  ·exact hX.bel.trans (hpt.below (fun j hj=>by omega) hX.bel.size)
  ·exact fun _=>rfl
  ·rw[hon];intro ls h;cases h
end
end Go.Proofs.YtalmnodgjjcefaaGreatDoor
