/- A row of filters among a law's parameters, opened. -/
import Derived.Test.YtalmnodgjjcefaaGreatDoorCards
import Derived.Test.YtalmnodgjjcefaaGreatDoorTie
import Derived.Test.YtalmnodgjjcefaaGreatDoorZOpn
import Derived.Test.YtalmnodgjjcefaaGreatDoorZFrm
import Derived.Deep.DeepHandedRow
import Derived.Lib.LaidTab
import Derived.LaidSub
import Derived.Test.YtalmnodgjjcefaaGreatDoorZRwA
import Derived.Test.YtalmnodgjjcefaaGreatDoorZIxE
import Derived.Test.YtalmnodgjjcefaaGreatDoorZFlA
set_option maxRecDepth 100000
namespace Go.Proofs.YtalmnodgjjcefaaGreatDoor
set_option maxRecDepth 100000
section
section
open Go.RowKit Go.WideShapes Go.ChangeShapes Go.ChangeAt
theorem Mo:Tryz.prog.globalNamed "esker/frame.halves"=some 1:=by kernel_rfl
theorem D6:(Tryz.prog.globals[1]?).map (·.type)=some 312:=by kernel_rfl
theorem Ed:Tryz.prog.cellsOf 312=16:=by kernel_rfl
theorem D8:Tryz.prog.cellsOf 242=1:=by kernel_rfl
def ER:List Int:=[0,498536548,997073096,651767980,1994146192,1802195444,1303535960,1342533948,3988292384,4027552580,3604390888,3412177804,2607071920,2262029012,2685067896,3183342108]
theorem halves_of{W:World}(h:laidMetH Tryz.prog [("unicode/utf8.acceptRanges",Rows.laid_unicode_utf8_acceptRanges),("esker/frame.halves",Rows.laid_esker_frame_halves),("unicode/utf8.first",Rows.laid_unicode_utf8_first)] W):bO W:=by have h1:=laidMetH.filter (λx=>x.1== "esker/frame.halves") h;(have h2:laidMetH Tryz.prog [("esker/frame.halves",Rows.laid_esker_frame_halves)] W:=by simpa using h1);have ht:Lib.TabIs Tryz.prog W "esker/frame.halves" .u32 ER:=Lib.tabIs_of_head (rest:=[]) Mo D6 Tryz.underlying312 Tryz.underlying242 D8 Ed h2;have hc:∀i,i<16->W.cell? ⟨1,i,none⟩=some (.int .u32 (ER.getD i 0)):=λi hi=>ht.cell Mo i (by simpa[ER]using hi);refine⟨?_,λi hi=>?_⟩;have:=World.block_lt_of_cell? W _ (hc 0 zo);simp at this;omega;rw[hc i hi];(have:∀i,i<16->ER.getD i 0=((xQ.getD i 0:Nat):Int):=by decide);rw[this i hi]
def Hw:List Int:=[128,191,160,191,128,159,144,191,128,143,0,0,0,0,0,0,0,0,0,0,0,0,0,0,0,0,0,0,0,0,0,0]
noncomputable def laidWorldOf(w:World):World:=
 {w with heap:=((w.heap.modify 1 fun
 | .cells _ t frozen=>.cells (ER.map (Value.int .u32)).toArray t frozen
 |o=>o).modify 3 fun
 | .cells _ t frozen=>.cells (Hw.map (Value.int .u8)).toArray t frozen
 |o=>o).modify 2 fun
 | .cells _ t frozen=>.cells (Go.Pinned.utf8FirstZ.map λ(n:Nat)=>Value.int .u8 (Int.ofNat n)).toArray t frozen
 |o=>o}
end
section
open Go.RowKit Go.WideShapes Go.ChangeShapes Go.ChangeAt Go.Deep Go.Joins
theorem kH{H:Type}{enc:TypeId×Value->H}{W:World}{v:Value}{fuel:Nat}{y:DataW H×List MemPlace}(hf:DataW.trod enc Tryz.prog W 0 (λ_=>true) true fuel 22 [v]=some y):∃A n c ls,v=.slice A n c/\ls.length=n/\n<=c/\ae W W.1.size A (lv ls):=by rcases iw Tryz.underlying22 Tryz.underlying83 zk Tryz.cellsLb hf with⟨hcs,hx⟩|⟨a',len,cap,m,D,Pl,hcs,hb,hl,hcm,hmm,hx,hi⟩;simp at hcs;subst hcs;exact⟨none,0,0,[],rfl,rfl,Nat.le_refl _,⟨.inl rfl⟩⟩;·simp at hcs;subst hcs;(have hmc:m=cap:=by simpa using hmm);(have each:∀i,i<len->∃x:Lb,W.cell? (a'.add (i*2))=some (.string x.1)/\W.cell? (a'.add (i*2+1))=some (.string x.2):=by intro i hin;obtain⟨ys,k,_,_,_,hfl⟩:=hi i zo;obtain⟨v0,y0,h0,_,t0⟩:=hfl 0 _ rfl;obtain⟨v1,y1,h1,_,t1⟩:=hfl 1 _ rfl;obtain⟨s0,e0,_,_⟩:=DataW.trod_string Tryz.underlying9 t0;obtain⟨s1,e1,_,_⟩:=DataW.trod_string Tryz.underlying9 t1;simp at e0 e1;subst e0;subst e1;exact⟨(s0,s1),h0,h1⟩);obtain⟨ls,hls,hp⟩:=Br len _ each;refine⟨some a',len,cap,ls,rfl,hls,hl,?_⟩;by_cases hn:len=0;subst hn;rw[List.eq_nil_of_length_eq_zero hls];exact⟨.inl rfl⟩;·refine⟨.inr ⟨a',rfl,?_,?_⟩⟩;(·have:=World.block_lt_of_cell? W _ (hp 0 zo).1;rwa [add_block]at this);·refine qG W (λx:Lb=>[Value.string x.1,.string x.2]) 2 (λ_=>rfl) ls a' (λi hi j u hu=>?_);obtain⟨g0,g1⟩:=hp i hi;match j,hu with|0,hu=>simp at hu;subst hu;exact g0|1,hu=>simp at hu;subst hu;exact g1
end
section
open Go.RowKit Go.WideShapes Go.ChangeShapes Go.ChangeAt Go.Deep Go.Joins
theorem jG(a:Addr)(m j:Nat)(hj:0<j):a.add (m+j)=⟨(a.add m).block,(a.add m).off+j,none⟩:=by unfold Addr.add;by_cases hm:m=0;subst hm;rw[if_neg zo,if_pos rfl];simp;rw[if_neg zo,if_neg hm];simp[Nat.add_assoc]
theorem Hn{w:World}{m:Nat->Prop}{B:Nat}{A:Option Addr}{xs:List Value}(h:ae w B A xs)(hm:∀k,k<B->m k):ag m w A xs:=by rcases h.out with h|⟨ad,e,hb,hc⟩;exact⟨.inl h⟩;exact⟨.inr ⟨ad,e,hm _ hb,hc⟩⟩
theorem Tryz.cellsActI:Tryz.prog.cellsOf 27=5:=by kernel_rfl
theorem open_actsI{H:Type}{enc:TypeId×Value->H}{W:World}{base:Nat}{v:Value}{d:DataW H}{p:List MemPlace}(hval:Value.okWide Tryz.prog W .any base 28 v)(h:DataW.Trod enc Tryz.prog W 0 (λ_=>true) true 28 v d p):∃A n c ls,v=.slice A n c/\ls.length=n/\n<=c/\iu (λk=>k<W.1.size) W A ls:=by obtain⟨a,n,c,rfl⟩:=okWide_slice Tryz.underlying28 hval;obtain⟨fuel,hf⟩:=h;rcases iw Tryz.underlying28 Tryz.underlying27 zk Tryz.cellsActI hf with⟨hcs,hx⟩|⟨a',len,cap,m,D,Pl,hcs,hb,hl,hcm,hmm,hx,hi⟩;simp[Value.cells]at hcs;obtain⟨rfl,rfl,rfl⟩:=hcs;exact⟨none,0,0,[],rfl,rfl,Nat.le_refl _,⟨λi hi=>absurd hi zs⟩⟩;·simp[Value.cells]at hcs;obtain⟨rfl,rfl,rfl⟩:=hcs;(have hmc:m=c:=by simpa using hmm);(have each:∀i,i<n->∃x:qs,∃Ai ci,W.cell? (a'.add (i*5))=some (.int .i64 x.kind)/\W.cell? (a'.add (i*5+1))=some (.slice Ai x.labels.length ci)/\W.cell? (a'.add (i*5+2))=some (.int .i64 x.day)/\W.cell? (a'.add (i*5+3))=some (.int .i64 x.a)/\W.cell? (a'.add (i*5+4))=some (.int .i64 x.b)/\x.labels.length<=ci/\ae W W.1.size Ai (lv x.labels):=by intro i hin;obtain⟨ys,k,_,_,_,hfl⟩:=hi i zo;obtain⟨v0,y0,h0,_,t0⟩:=hfl 0 _ rfl;obtain⟨v1,y1,h1,_,t1⟩:=hfl 1 _ rfl;obtain⟨v2,y2,h2,_,t2⟩:=hfl 2 _ rfl;obtain⟨v3,y3,h3,_,t3⟩:=hfl 3 _ rfl;obtain⟨v4,y4,h4,_,t4⟩:=hfl 4 _ rfl;obtain⟨i0,e0,_⟩:=DataW.trod_int Tryz.underlying3 t0;obtain⟨Ai,ni,ci,li,rfl,hli,hci,hSi⟩:=kH t1;obtain⟨i2,e2,_⟩:=DataW.trod_int Tryz.underlying3 t2;obtain⟨i3,e3,_⟩:=DataW.trod_int Tryz.underlying3 t3;obtain⟨i4,e4,_⟩:=DataW.trod_int Tryz.underlying3 t4;simp at e0 e2 e3 e4;subst e0 e2 e3 e4;subst hli;exact⟨⟨i0,li,i2,i3,i4⟩,Ai,ci,h0,h1,h2,h3,h4,hci,hSi⟩);obtain⟨ls,hls,hp⟩:=Br n _ each;refine⟨some a',n,c,ls,rfl,hls,hl,⟨λi hi=>?_⟩⟩;obtain⟨Ai,ci,g0,g1,g2,g3,g4,g5,g6⟩:=hp i hi;have hbk:(a'.add (i*5)).block=a'.block:=add_block _ _;refine⟨a',Ai,ci,rfl,?_,g0,?_,?_,?_,?_,g5,Hn g6 λk e=>e⟩;(·have:=World.block_lt_of_cell? W _ g0;rwa [hbk]at this);rw[<-jG a' _ 1 zo];exact g1;rw[<-jG a' _ 2 zo];exact g2;rw[<-jG a' _ 3 zo];exact g3;rw[<-jG a' _ 4 zo];exact g4
theorem Tryz.cellsFl:Tryz.prog.cellsOf 81=4:=by kernel_rfl
theorem filters_of_trod{H:Type}{enc:TypeId×Value->H}{W:World}{v:Value}{fuel:Nat}{y:DataW H×List MemPlace}(hf:DataW.trod enc Tryz.prog W 0 (λ_=>true) true fuel 39 [v]=some y):∃A n c fs,v=.slice A n c/\fs.length=n/\n<=c/\ae W W.1.size A (fv fs)/\zN fs:=by rcases iw Tryz.underlying39 Tryz.underlying81 zk Tryz.cellsFl hf with⟨hcs,hx⟩|⟨a',n,c,m,D,Pl,hcs,hb,hl,hcm,hmm,hx,hi⟩;simp at hcs;subst hcs;exact⟨none,0,0,[],rfl,rfl,Nat.le_refl _,⟨.inl rfl⟩,λf hf=>nomatch hf⟩;·simp at hcs;subst hcs;(have hmc:m=c:=by simpa using hmm);(have each:∀i,i<n->∃x:gZ,x.name.size<=maxLen/\W.cell? (a'.add (i*4))=some (.string x.name)/\W.cell? (a'.add (i*4+1))=some (.string x.value)/\W.cell? (a'.add (i*4+2))=some (.bool x.pre)/\W.cell? (a'.add (i*4+3))=some (.bool x.inv):=by intro i hin;obtain⟨ys,k,_,_,_,hfl⟩:=hi i zo;obtain⟨v0,y0,h0,_,t0⟩:=hfl 0 _ rfl;obtain⟨v1,y1,h1,_,t1⟩:=hfl 1 _ rfl;obtain⟨v2,y2,h2,_,t2⟩:=hfl 2 _ rfl;obtain⟨v3,y3,h3,_,t3⟩:=hfl 3 _ rfl;obtain⟨s0,e0,_,hz⟩:=DataW.trod_string Tryz.underlying9 t0;obtain⟨s1,e1,_,_⟩:=DataW.trod_string Tryz.underlying9 t1;obtain⟨b2,e2,_⟩:=DataW.trod_bool Tryz.underlying4 t2;obtain⟨b3,e3,_⟩:=DataW.trod_bool Tryz.underlying4 t3;simp at e0 e1 e2 e3;subst e0 e1 e2 e3;exact⟨⟨s0,s1,b2,b3⟩,hz,h0,h1,h2,h3⟩);obtain⟨fs,hls,hp⟩:=Br n _ each;(have hfit:zN fs:=λf hf=>by obtain⟨i,hi,rfl⟩:=List.getElem_of_mem hf;have:=(hp i hi).1;simpa[maxLen]using this);refine⟨some a',n,c,fs,rfl,hls,hl,?_,hfit⟩;by_cases hn:n=0;subst hn;rw[List.eq_nil_of_length_eq_zero hls];exact⟨.inl rfl⟩;·refine⟨.inr ⟨a',rfl,?_,?_⟩⟩;(·have:=World.block_lt_of_cell? W _ (hp 0 zo).2.1;rwa [add_block]at this);·refine qG W (λx:gZ=>[Value.string x.name,.string x.value,.bool x.pre,.bool x.inv]) 4 (λ_=>rfl) fs a' (λi hi j u hu=>?_);obtain⟨-,g0,g1,g2,g3⟩:=hp i hi;match j,hu with|0,hu=>simp at hu;subst hu;exact g0|1,hu=>simp at hu;subst hu;exact g1|2,hu=>simp at hu;subst hu;exact g2|3,hu=>simp at hu;subst hu;exact g3
end
end
section
open Go.RowKit Go.WideShapes Go.ChangeShapes Go.ChangeAt Go.Deep Go.Joins
theorem open_filtersI{H:Type}{enc:TypeId×Value->H}{W:World}{base:Nat}{v:Value}{d:DataW H}{p:List MemPlace}(hval:Value.okWide Tryz.prog W .any base 39 v)(h:DataW.Trod enc Tryz.prog W 0 (λ_=>true) true 39 v d p):∃A n c fs,v=.slice A n c/\fs.length=n/\n<=c/\ae W W.1.size A (fv fs)/\zN fs:=by obtain⟨a,n,c,rfl⟩:=okWide_slice Tryz.underlying39 hval;obtain⟨fuel,hf⟩:=h;exact filters_of_trod (by simpa[Value.cells]using hf)
end
end Go.Proofs.YtalmnodgjjcefaaGreatDoor
