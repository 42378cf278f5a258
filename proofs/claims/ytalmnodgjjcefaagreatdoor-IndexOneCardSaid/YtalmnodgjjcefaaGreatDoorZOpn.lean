/- Texts and labels among a law's parameters, opened. -/
import Derived.Test.YtalmnodgjjcefaaGreatDoorRows
import Derived.WalkKit
import Derived.ProofKit
import Derived.OpenShut
import Derived.Below
import Derived.Test.YtalmnodgjjcefaaGreatDoorZLbA
import Derived.Deep.Slices
import Derived.Deep.Fields
import Derived.Lib.SmallJoins
import Derived.ChangeMaps5
set_option maxRecDepth 100000
namespace Go.Proofs.YtalmnodgjjcefaaGreatDoor
set_option maxRecDepth 100000
section
section
open Go.RowKit Go.WideShapes Go.ChangeShapes Go.ChangeAt
theorem Tryz.own:ownKnob Tryz.prog.godebug=none:=by kernel_rfl
theorem Tryz.laidOut:laidOutB Tryz.prog=true:=by kernel_rfl
section
variable {H : Type} {enc : TypeId × Value -> H} {P : Program}
theorem sn{f:Func}{s:ChangeSpec}{apart fresh handsOn again:Bool}{W W':World}{args:Array Value}{v:Value}{ds gs:List (DataW H)}{before pa pv:List MemPlace}(hW:DataW.Whole enc P f.params.toList s.vars apart W args.toList ds gs before)(bc:∀(b:Nat)(sp:Nat->Bool)(hd:Bool),DataW.TrodAll enc P W' b sp hd f.resultTypes.toList (v.resultList f.resultTypes.size) (s.fn H (ds++gs)).results [])(hargs:∀sp:Nat->Bool,(∀p∈before,sp p.block=true)->DataW.TrodAll enc P W' 0 sp true f.params.toList args.toList (s.fn H (ds++gs)).args pa)(aa:∀sp:Nat->Bool,(∀p∈before,sp p.block=true)->DataW.TrodVars enc P W' sp s.vars (s.fn H (ds++gs)).vars pv)(ai:before=pa++pv)(hb:Below W.1.size W W')(bb:∀(j:Nat)(t:TypeId)(r:Value),f.resultTypes[j]?=some t->(v.resultList f.resultTypes.size)[j]?=some r->Value.okWide P W' .any 0 t r):s.post enc P f apart fresh handsOn again W args v W':=by have a6:∀p∈before,p.block<W.1.size:=λp hp=>hW.lt p hp;(have hold:∀p∈before,(λb=>decide (b<W.1.size)) p.block=true:=λp hp=>by simpa using a6 p hp);refine⟨ds,gs,before,[],pa,pv,hW,bc _ _ _,hargs _ hold,aa _ hold,World.keptBut_mono (λp hp=>⟨hp,?_⟩) (hb.frame (·∈before)),λ_=>?_⟩;rw[ai,List.mem_append]at hp;exact Or.inr hp;·obtain⟨_,_,_,_,_,hz,hn⟩:=hW;refine⟨bb,_,_,([]++pa)++pv,⟨[]++pa,pv,trodAll_append (hargs _ (λ_ _=>rfl)) (bc _ _ _),aa _ (λ_ _=>rfl),rfl,?_,?_⟩,?_⟩;intro b off hp;(have be:MemPlace.cell b off∈before:=by rw[ai];simpa using hp);rw[hb.frozen (a6 _ be)];exact hz b off be;intro ha;have:=hn ha;rw[ai]at this;exact Ig;intro p hp _;rw[ai];simpa using hp
end
theorem sq{H:Type}{enc:TypeId×Value->H}{P:Program}(hl:laidOutB P=true){W W':World}(hb:Below W.1.size W W')(sp:Nat->Bool):∀(ts:List TypeId)(vs:List Value)(ds:List (DataW H))(ps:List MemPlace),(∀t∈ts,P.readableRec t=true/\t<P.types.size)->DataW.TrodAll enc P W 0 (λ_=>true) true ts vs ds ps->(∀p∈ps,p.block<W.1.size)->(∀p∈ps,sp p.block=true)->DataW.TrodAll enc P W' 0 sp true ts vs ds ps:=by intro ts;induction ts with|nil=>(intro vs ds ps _ h _ _;cases vs<;>cases ds<;>first|exact h|exact h.elim)|cons t ts ih=>(intro vs ds ps hr h a6 cN;cases vs with|nil=>exact h.elim|cons v vs=>(cases ds with|nil=>exact h.elim|cons d ds=>(obtain⟨p,q,h1,h2,rfl⟩:=h;refine⟨p,q,WideElems.Trod_stays hl (hr t zs).1 (hr t zs).2 h1 (λx hx=>hb.same (a6 x (by simp[hx]))) (λx hx=>cN x (by simp[hx])),?_,rfl⟩;exact ih vs ds q (λt ht=>hr t (by simp[ht])) h2 (λx hx=>a6 x (by simp[hx])) (λx hx=>cN x (by simp[hx])))))
theorem post_true{H:Type}{enc:TypeId×Value->H}{f:Func}{s:ChangeSpec}{apart fresh handsOn again:Bool}{W W':World}{args:Array Value}{ds gs:List (DataW H)}{before:List MemPlace}(aa:s.vars=[])(hfn:∀ds':List (DataW H),ds'.length=f.params.size->(s.fn H ds').results=[.lit (.bool true)]/\(s.fn H ds').args=ds'/\(s.fn H ds').vars=[])(bc:f.resultTypes=#[4])(ad:∀t∈f.params.toList,Tryz.prog.readableRec t=true/\t<Tryz.prog.types.size)(hW:DataW.Whole enc Tryz.prog f.params.toList s.vars apart W args.toList ds gs before)(hb:Below W.1.size W W')(hlen:ds.length=f.params.size):s.post enc Tryz.prog f apart fresh handsOn again W args (.bool true) W':=by have hW':=hW;obtain⟨p,q,hA,hV,hpq,hfz,hnd⟩:=hW;rw[aa]at hV;obtain⟨rfl,rfl⟩:=trodVars_none hV;obtain⟨h1,h2,h3⟩:=hfn (ds++[]) (by simpa using hlen);refine sn (pa:=p) (pv:=[]) hW' (λb sp hd=>?_) (λsp cN=>?_) (λsp cN=>?_) (by simpa using hpq) hb ?_;rw[h1,bc];exact trodAll_mk1 (shut_bool Tryz.underlying4 true);rw[h2,List.append_nil];exact sq Tryz.laidOut hb sp _ _ _ _ ad hA (λx hx=>hW'.lt x (by rw[hpq];simp[hx])) (λx hx=>cN x (by rw[hpq];simp[hx]));rw[h3,aa];rfl;exact ok_one bc rfl (okWide_bool_mk Tryz.underlying4 true)
theorem bounds_i64{n:Int}(h:(Lit.int .i64 n).wf=true):-9223372036854775808<=n/\n<=9223372036854775807:=by simpa[Lit.wf,IntKind.min,IntKind.max,IntKind.signed,IntKind.bits]using h
end
section
open Go.RowKit Go.WideShapes Go.ChangeShapes Go.ChangeAt Go.Deep Go.Joins
section
variable {H : Type} {enc : TypeId × Value -> H} {P : Program} {w : World} {base : Nat} {spare : Nat -> Bool} {held : Bool}
theorem iw{t e:TypeId}{fs:Array Field}{fuel:Nat}{cs:List Value}{x:DataW H×List MemPlace}(ht:P.underlying t=some (.slice e))(he:P.underlying e=some (.struct fs))(aa:oneCellFields P fs=true)(hC:P.cellsOf e=fs.size)(h:DataW.trod enc P w base spare held fuel t cs=some x):(cs=[.slice none 0 0]/\x=(.nil,[]))\/∃(a:Addr)(len cap m:Nat)(D:Nat->DataW H)(Pl:Nat->List MemPlace),cs=[.slice (some a) len cap]/\base<=a.block/\len<=cap/\cap<=maxLen/\m=(if spare a.block then cap else len)/\x=(.slice ((List.range len).map D) ((List.range (m-len)).map λj=>D (len+j)),MemPlace.row a (m*fs.size)++(List.range m).flatMap Pl)/\∀i,i<m->∃(ys:List (DataW H×List MemPlace))(n:Nat),D i=.agg (ys.map (·.1))/\Pl i=ys.flatMap (·.2)/\ys.length=fs.size/\∀(j:Nat)(f:Field),fs[j]?=some f->∃(v:Value)(y:DataW H×List MemPlace),w.cell? (a.add (i*fs.size+j))=some v/\ys[j]?=some y/\DataW.trod enc P w base spare held n f.type [v]=some y:=by rcases open_slice ht h with h0|⟨a,len,cap,m,n,D,Pl,bk,hb,hl,hm,aj,hx,hi⟩;exact .inl h0;refine .inr ⟨a,len,cap,m,D,Pl,bk,hb,hl,hm,aj,by rw[hC]at hx;exact hx,λi an=>?_⟩;obtain⟨ah,hc,aG⟩:=hi i an;rw[hC]at hc;obtain⟨ys,n',bd,hy,hlen,cr,hf⟩:=DataW.trod_struct he aG;obtain⟨_,bY,ba⟩:=World.cells?_some hc;simp only[Prod.mk.injEq]at hy;refine⟨ys,n',hy.1,hy.2,cr,λj f hj=>?_⟩;obtain⟨ho,hk⟩:=hone_of aa j f hj;have b8:j<fs.size:=(Array.getElem?_eq_some_iff.1 hj).1;have ai:=ba j b8;have hv:ah[j]?=some (ah[j]'zo):=List.getElem?_eq_getElem zo;have h1:=hf j f hj;rw[ho,hk]at h1;(have ad:(ah.drop j).take 1=[ah[j]'zo]:=by rw[List.drop_eq_getElem_cons zo];rfl);rw[ad]at h1;have a8:ys[j]?=some (ys[j]'zo):=List.getElem?_eq_getElem zo;refine⟨_,_,?_,a8,h1.trans a8⟩;rw[<-Go.Deep.add_add,ai,hv]
end
theorem Br{α:Type}(n:Nat)(p:Nat->α->Prop)(h:∀i,i<n->∃x,p i x):∃l:List α,l.length=n/\∀i(hi:i<l.length),p i l[i]:=by induction n with|zero=>exact⟨[],rfl,λi hi=>absurd hi zs⟩|succ n ih=>(obtain⟨l,hl,hp⟩:=ih λi hi=>h i zo;obtain⟨x,hx⟩:=h n zo;refine⟨l++[x],by simp[hl],λi hi=>?_⟩;by_cases be:i<l.length;rw[List.getElem_append_left be];exact hp i be;have aa:i=l.length:=tc;subst aa;rw[List.getElem_append_right (Nat.le_refl _)];simpa[hl]using hx)
theorem qG{α:Type}(w:World)(f:α->List Value)(sz:Nat)(hf:∀x,(f x).length=sz):∀(ls:List α)(ad:Addr),(∀i(hi:i<ls.length)j u,(f ls[i])[j]?=some u->w.cell? (ad.add (i*sz+j))=some u)->∀j u,(ls.flatMap f)[j]?=some u->w.cell? (ad.add j)=some u
 |[],ad,_,j,u,hu=>by simp at hu
 |x::t,ad,h,j,u,hu=>by rw[List.flatMap_cons]at hu;by_cases hj:j<sz;(·rw[List.getElem?_append_left (by rw[hf];exact hj)]at hu;have:=h 0 zs j u hu;rwa [Nat.zero_mul,Nat.zero_add]at this);·rw[List.getElem?_append_right (by rw[hf];omega),hf]at hu;have ih:=qG w f sz hf t (ad.add sz) (λi hi j u hu=>by have:=h (i+1) (by simpa using hi) j u (by simpa using hu);rw[add_add'];rwa [show sz+(i*sz+j)=(i+1)*sz+j from by rw[Nat.add_mul];omega]) (j-sz) u hu;rw[add_add']at ih;rwa [show sz+(j-sz)=j from zo]at ih
theorem Tryz.cellsLb:Tryz.prog.cellsOf 83=2:=by kernel_rfl
end
end
end Go.Proofs.YtalmnodgjjcefaaGreatDoor
