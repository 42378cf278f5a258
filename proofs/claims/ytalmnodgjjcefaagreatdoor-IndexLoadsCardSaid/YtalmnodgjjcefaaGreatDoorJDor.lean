/- A script of acts over an index, and what is asked, among a law's parameters, opened. -/
import Derived.Test.YtalmnodgjjcefaaGreatDoorCards
import Derived.Test.YtalmnodgjjcefaaGreatDoorTie
import Derived.Test.YtalmnodgjjcefaaGreatDoorJOpn
import Derived.Test.YtalmnodgjjcefaaGreatDoorJFrm
import Derived.Deep.DeepHandedRow
import Derived.Lib.LaidTab
import Derived.LaidSub
import Derived.Test.YtalmnodgjjcefaaGreatDoorJRwA
import Derived.Test.YtalmnodgjjcefaaGreatDoorJIxE
import Derived.Test.YtalmnodgjjcefaaGreatDoorJFlA
set_option maxRecDepth 100000
namespace Go.Proofs.YtalmnodgjjcefaaGreatDoor
section
open Go.RowKit Go.WideShapes Go.ChangeShapes Go.ChangeAt
theorem gTab:Tryz.prog.globalNamed "esker/frame.halves"=some 1:=by kernel_rfl
theorem gTabType:(Tryz.prog.globals[1]?).map (·.type)=some 312:=by kernel_rfl
theorem cellsTab:Tryz.prog.cellsOf 312=16:=by kernel_rfl
theorem cellsU32:Tryz.prog.cellsOf 242=1:=by kernel_rfl
def tabZ:List Int := [0,498536548,997073096,651767980,1994146192,1802195444,1303535960,1342533948,3988292384,4027552580,3604390888,3412177804,2607071920,2262029012,2685067896,3183342108]
theorem halves_of {W:World}(h:laidMetH Tryz.prog [("unicode/utf8.acceptRanges",Rows.laid_unicode_utf8_acceptRanges),("esker/frame.halves",Rows.laid_esker_frame_halves),("unicode/utf8.first",Rows.laid_unicode_utf8_first)] W):Halves W:=by
 have h1:=laidMetH.filter (fun x=>x.1 == "esker/frame.halves") h
 have h2:laidMetH Tryz.prog [("esker/frame.halves",Rows.laid_esker_frame_halves)] W:=by simpa using h1
 have ht:Lib.TabIs Tryz.prog W "esker/frame.halves" .u32 tabZ:=Lib.tabIs_of_head (rest := []) gTab gTabType Tryz.underlying312 Tryz.underlying242 cellsU32 cellsTab h2
 have hc:∀i,i<16→W.cell? ⟨1,i,none⟩=some (.int .u32 (tabZ.getD i 0)):=fun i hi=>ht.cell gTab i (by simpa[tabZ] using hi)
 refine ⟨?_,fun i hi => ?_⟩
 ·have:=World.block_lt_of_cell? W _ (hc 0 (by omega))
  simp at this
  omega
 ·rw[hc i hi]
  have:∀i,i<16→tabZ.getD i 0=((ctab.getD i 0:Nat):Int):=by decide
  rw[this i hi]
def acceptZ:List Int := [128,191,160,191,128,159,144,191,128,143,0,0,0,0,0,0,0,0,0,0,0,0,0,0,0,0,0,0,0,0,0,0]
noncomputable def laidWorldOf (w:World):World :=
 { w with heap:=((w.heap.modify 1 fun
   | .cells _ t frozen => .cells (tabZ.map (Value.int .u32)).toArray t frozen
   | o=>o).modify 3 fun
   | .cells _ t frozen => .cells (acceptZ.map (Value.int .u8)).toArray t frozen
   | o=>o).modify 2 fun
   | .cells _ t frozen => .cells (Go.Pinned.utf8FirstZ.map fun (n:Nat)=>Value.int .u8 (Int.ofNat n)).toArray t frozen
   | o=>o }
end
section
open Go.RowKit Go.WideShapes Go.ChangeShapes Go.ChangeAt Go.Deep Go.Joins
theorem labels_of_trod {H:Type}{enc:TypeId×Value→H}{W:World}{v:Value}{fuel:Nat}{y:DataW H×List MemPlace}(hf:DataW.trod enc Tryz.prog W 0 (fun _=>true) true fuel 22 [v]=some y) :
  ∃A n c ls,v = .slice A n c∧ls.length=n∧n≤c∧Sees W W.heap.size A (lv ls):=by
 rcases open_slice_fields Tryz.underlying22 Tryz.underlying83 (by kernel_rfl) Tryz.cellsLb hf with ⟨hcs,hx⟩|⟨a',len,cap,m,D,Pl,hcs,hb,hl,hcm,hmm,hx,hi⟩
 ·simp at hcs
  subst hcs
  exact ⟨none,0,0, [],rfl,rfl,Nat.le_refl _,⟨.inl rfl⟩⟩
 ·simp at hcs
  subst hcs
  have hmc:m=cap:=by simpa using hmm
  have each:∀i,i<len→∃x:Lb,W.cell? (a'.add (i*2))=some (.string x.1)∧W.cell? (a'.add (i*2+1))=some (.string x.2):=by
   intro i hin
   obtain ⟨ys,k,_,_,_,hfl⟩:=hi i (by omega)
   obtain ⟨v0,y0,h0,_,t0⟩:=hfl 0 _ rfl
   obtain ⟨v1,y1,h1,_,t1⟩:=hfl 1 _ rfl
   obtain ⟨s0,e0,_,_⟩:=DataW.trod_string Tryz.underlying9 t0
   obtain ⟨s1,e1,_,_⟩:=DataW.trod_string Tryz.underlying9 t1
   simp at e0 e1
   subst e0
   subst e1
   exact ⟨(s0,s1),h0,h1⟩
  obtain ⟨ls,hls,hp⟩:=list_of len _ each
  refine ⟨some a',len,cap,ls,rfl,hls,hl,?_⟩
  by_cases hn:len=0
  ·subst hn
   rw[List.eq_nil_of_length_eq_zero hls]
   exact ⟨.inl rfl⟩
  ·refine ⟨.inr ⟨a',rfl,?_,?_⟩⟩
   ·have:=World.block_lt_of_cell? W _ (hp 0 (by omega)).1
    rwa [add_block] at this
   ·refine cells_rows W (fun x:Lb => [Value.string x.1,.string x.2]) 2 (fun _=>rfl) ls a' (fun i hi j u hu => ?_)
    obtain ⟨g0,g1⟩:=hp i hi
    match j,hu with
    | 0,hu=>simp at hu;subst hu;exact g0
    | 1,hu=>simp at hu;subst hu;exact g1
theorem Tryz.cellsInt:Tryz.prog.cellsOf 3=1:=by kernel_rfl
theorem Tryz.cellsStr:Tryz.prog.cellsOf 9=1:=by kernel_rfl
end
section
open Go.RowKit Go.WideShapes Go.ChangeShapes Go.ChangeAt Go.Deep Go.Joins
theorem add_fieldA (a:Addr) (m j:Nat) (hj:0<j):a.add (m+j)=⟨(a.add m).block,(a.add m).off+j,none⟩:=by
 unfold Addr.add
 by_cases hm:m=0
 ·subst hm
  rw[if_neg (by omega),if_pos rfl]
  simp
 ·rw[if_neg (by omega),if_neg hm]
  simp[Nat.add_assoc]
theorem sees_to {w:World}{m:Nat→Prop}{B:Nat}{A:Option Addr}{xs:List Value}(h:Sees w B A xs) (hm:∀k,k<B→m k):SeesM m w A xs:=by
 rcases h.out with h|⟨ad,e,hb,hc⟩
 ·exact ⟨.inl h⟩
 ·exact ⟨.inr ⟨ad,e,hm _ hb,hc⟩⟩
theorem Tryz.cellsActI:Tryz.prog.cellsOf 27=5:=by kernel_rfl
theorem open_actsI {H:Type}{enc:TypeId×Value→H}{W:World}{base:Nat}{v:Value}{d:DataW H}{p:List MemPlace}(hval:Value.okWide Tryz.prog W .any base 28 v)
  (h:DataW.Trod enc Tryz.prog W 0 (fun _=>true) true 28 v d p):∃A n c ls,v = .slice A n c∧ls.length=n∧n≤c∧ActsI (fun k=>k<W.heap.size) W A ls:=by
 obtain ⟨a,n,c,rfl⟩:=okWide_slice Tryz.underlying28 hval
 obtain ⟨fuel,hf⟩:=h
 rcases open_slice_fields Tryz.underlying28 Tryz.underlying27 (by kernel_rfl) Tryz.cellsActI hf with ⟨hcs,hx⟩|⟨a',len,cap,m,D,Pl,hcs,hb,hl,hcm,hmm,hx,hi⟩
 ·simp[Value.cells] at hcs
  obtain ⟨rfl,rfl,rfl⟩:=hcs
  exact ⟨none,0,0, [],rfl,rfl,Nat.le_refl _,⟨fun i hi=>absurd hi (by simp)⟩⟩
 ·simp[Value.cells] at hcs
  obtain ⟨rfl,rfl,rfl⟩:=hcs
  have hmc:m=c:=by simpa using hmm
  have each:∀i,i<n→∃x:ActI,∃Ai ci,W.cell? (a'.add (i*5))=some (.int .i64 x.kind)∧W.cell? (a'.add (i*5+1))=some (.slice Ai x.labels.length ci)∧W.cell? (a'.add (i*5+2))=some (.int .i64 x.day)∧W.cell? (a'.add (i*5+3))=some (.int .i64 x.a)∧W.cell? (a'.add (i*5+4))=some (.int .i64 x.b)∧x.labels.length≤ci∧Sees W W.heap.size Ai (lv x.labels):=by
   intro i hin
   obtain ⟨ys,k,_,_,_,hfl⟩:=hi i (by omega)
   obtain ⟨v0,y0,h0,_,t0⟩:=hfl 0 _ rfl
   obtain ⟨v1,y1,h1,_,t1⟩:=hfl 1 _ rfl
   obtain ⟨v2,y2,h2,_,t2⟩:=hfl 2 _ rfl
   obtain ⟨v3,y3,h3,_,t3⟩:=hfl 3 _ rfl
   obtain ⟨v4,y4,h4,_,t4⟩:=hfl 4 _ rfl
   obtain ⟨i0,e0,_⟩:=DataW.trod_int Tryz.underlying3 t0
   obtain ⟨Ai,ni,ci,li,rfl,hli,hci,hSi⟩:=labels_of_trod t1
   obtain ⟨i2,e2,_⟩:=DataW.trod_int Tryz.underlying3 t2
   obtain ⟨i3,e3,_⟩:=DataW.trod_int Tryz.underlying3 t3
   obtain ⟨i4,e4,_⟩:=DataW.trod_int Tryz.underlying3 t4
   simp at e0 e2 e3 e4
   subst e0 e2 e3 e4
   subst hli
   exact ⟨⟨i0,li,i2,i3,i4⟩,Ai,ci,h0,h1,h2,h3,h4,hci,hSi⟩
  obtain ⟨ls,hls,hp⟩:=list_of n _ each
  refine ⟨some a',n,c,ls,rfl,hls,hl,⟨fun i hi => ?_⟩⟩
  obtain ⟨Ai,ci,g0,g1,g2,g3,g4,g5,g6⟩:=hp i hi
  have hbk:(a'.add (i*5)).block=a'.block:=add_block _ _
  refine ⟨a',Ai,ci,rfl,?_,g0,?_,?_,?_,?_,g5,sees_to g6 fun k e=>e⟩
  ·have:=World.block_lt_of_cell? W _ g0
   rwa [hbk] at this
  ·rw[←add_fieldA a' _ 1 (by omega)];exact g1
  ·rw[←add_fieldA a' _ 2 (by omega)];exact g2
  ·rw[←add_fieldA a' _ 3 (by omega)];exact g3
  ·rw[←add_fieldA a' _ 4 (by omega)];exact g4
theorem Tryz.cellsFl:Tryz.prog.cellsOf 81=4:=by kernel_rfl
theorem filters_of_trod {H:Type}{enc:TypeId×Value→H}{W:World}{v:Value}{fuel:Nat}{y:DataW H×List MemPlace}(hf:DataW.trod enc Tryz.prog W 0 (fun _=>true) true fuel 39 [v]=some y) :
  ∃A n c fs,v = .slice A n c∧fs.length=n∧n≤c∧Sees W W.heap.size A (fv fs)∧FitF fs:=by
 rcases open_slice_fields Tryz.underlying39 Tryz.underlying81 (by kernel_rfl) Tryz.cellsFl hf with ⟨hcs,hx⟩|⟨a',n,c,m,D,Pl,hcs,hb,hl,hcm,hmm,hx,hi⟩
 ·simp at hcs
  subst hcs
  exact ⟨none,0,0, [],rfl,rfl,Nat.le_refl _,⟨.inl rfl⟩,fun f hf=>nomatch hf⟩
 ·simp at hcs
  subst hcs
  have hmc:m=c:=by simpa using hmm
  have each:∀i,i<n→∃x:Flt,x.name.size≤maxLen∧W.cell? (a'.add (i*4))=some (.string x.name)∧W.cell? (a'.add (i*4+1))=some (.string x.value)∧W.cell? (a'.add (i*4+2))=some (.bool x.pre)∧W.cell? (a'.add (i*4+3))=some (.bool x.inv):=by
   intro i hin
   obtain ⟨ys,k,_,_,_,hfl⟩:=hi i (by omega)
   obtain ⟨v0,y0,h0,_,t0⟩:=hfl 0 _ rfl
   obtain ⟨v1,y1,h1,_,t1⟩:=hfl 1 _ rfl
   obtain ⟨v2,y2,h2,_,t2⟩:=hfl 2 _ rfl
   obtain ⟨v3,y3,h3,_,t3⟩:=hfl 3 _ rfl
   obtain ⟨s0,e0,_,hz⟩:=DataW.trod_string Tryz.underlying9 t0
   obtain ⟨s1,e1,_,_⟩:=DataW.trod_string Tryz.underlying9 t1
   obtain ⟨b2,e2,_⟩:=DataW.trod_bool Tryz.underlying4 t2
   obtain ⟨b3,e3,_⟩:=DataW.trod_bool Tryz.underlying4 t3
   simp at e0 e1 e2 e3
   subst e0 e1 e2 e3
   exact ⟨⟨s0,s1,b2,b3⟩,hz,h0,h1,h2,h3⟩
  obtain ⟨fs,hls,hp⟩:=list_of n _ each
  have hfit:FitF fs:=fun f hf=>by
   obtain ⟨i,hi,rfl⟩:=List.getElem_of_mem hf
   have:=(hp i hi).1
   simpa[maxLen] using this
  refine ⟨some a',n,c,fs,rfl,hls,hl,?_,hfit⟩
  by_cases hn:n=0
  ·subst hn
   rw[List.eq_nil_of_length_eq_zero hls]
   exact ⟨.inl rfl⟩
  ·refine ⟨.inr ⟨a',rfl,?_,?_⟩⟩
   ·have:=World.block_lt_of_cell? W _ (hp 0 (by omega)).2.1
    rwa [add_block] at this
   ·refine cells_rows W (fun x:Flt => [Value.string x.name,.string x.value,.bool x.pre,.bool x.inv]) 4 (fun _=>rfl) fs a' (fun i hi j u hu => ?_)
    obtain ⟨-,g0,g1,g2,g3⟩:=hp i hi
    match j,hu with
    | 0,hu=>simp at hu;subst hu;exact g0
    | 1,hu=>simp at hu;subst hu;exact g1
    | 2,hu=>simp at hu;subst hu;exact g2
    | 3,hu=>simp at hu;subst hu;exact g3
theorem Tryz.cellsAsked:Tryz.prog.cellsOf 68=5:=by kernel_rfl
theorem Tryz.cellsFls:Tryz.prog.cellsOf 39=1:=by kernel_rfl
theorem open_asked {H:Type}{enc:TypeId×Value→H}{W:World}{base:Nat}{v:Value}{d:DataW H}{p:List MemPlace}(hval:Value.okWide Tryz.prog W .any base 68 v)
  (h:DataW.Trod enc Tryz.prog W 0 (fun _=>true) true 68 v d p):∃A n c fs a b i s,v = .agg #[.slice A n c,.int .i64 a,.int .i64 b,.int .i64 i,.string s]∧fs.length=n∧n≤c∧Sees W W.heap.size A (fv fs)∧FitF fs:=by
 obtain ⟨cs,rfl,hsz⟩:=okWide_struct Tryz.underlying68 hval
 obtain ⟨l⟩:=cs
 match l,hsz.trans Tryz.cellsAsked with
 | [c0,c1,c2,c3,c4],_ =>
  obtain ⟨fuel,hf⟩:=h
  obtain ⟨xs,n,_,hx,_,hlen,hg⟩:=DataW.trod_struct Tryz.underlying68 hf
  match xs,hlen with
  | [y0,y1,y2,y3,y4],_ =>
   have g0:DataW.trod enc Tryz.prog W 0 (fun _=>true) true n 39 [c0]=some y0:=by have:=hg 0 _ rfl;simpa[Value.cells,Tryz.cellsFls] using this
   have g1:DataW.trod enc Tryz.prog W 0 (fun _=>true) true n 3 [c1]=some y1:=by have:=hg 1 _ rfl;simpa[Value.cells,Tryz.cellsInt] using this
   have g2:DataW.trod enc Tryz.prog W 0 (fun _=>true) true n 3 [c2]=some y2:=by have:=hg 2 _ rfl;simpa[Value.cells,Tryz.cellsInt] using this
   have g3:DataW.trod enc Tryz.prog W 0 (fun _=>true) true n 3 [c3]=some y3:=by have:=hg 3 _ rfl;simpa[Value.cells,Tryz.cellsInt] using this
   have g4:DataW.trod enc Tryz.prog W 0 (fun _=>true) true n 9 [c4]=some y4:=by have:=hg 4 _ rfl;simpa[Value.cells,Tryz.cellsStr] using this
   obtain ⟨A,nn,c,fs,rfl,hl,hc,hS,hF⟩:=filters_of_trod g0
   obtain ⟨i1,f1,_⟩:=DataW.trod_int Tryz.underlying3 g1
   obtain ⟨i2,f2,_⟩:=DataW.trod_int Tryz.underlying3 g2
   obtain ⟨i3,f3,_⟩:=DataW.trod_int Tryz.underlying3 g3
   obtain ⟨t4,f4,_,_⟩:=DataW.trod_string Tryz.underlying9 g4
   simp at f1 f2 f3 f4
   subst f1 f2 f3 f4
   exact ⟨A,nn,c,fs,i1,i2,i3,t4,rfl,hl,hc,hS,hF⟩
end
end Go.Proofs.YtalmnodgjjcefaaGreatDoor
