/- IndexHides: flushed and put together, whenever, an index tells what one tells that never is: the tied card as it is given, for every input. -/
import Derived.Test.YtalmnodgjjcefaaGreatDoorJDor
import Derived.Test.YtalmnodgjjcefaaGreatDoorJLawIxHides
set_option maxRecDepth 100000
set_option maxHeartbeats 20000000
namespace Go.Proofs.YtalmnodgjjcefaaGreatDoor
namespace lawIndexHides
open Go.ChangeShapes Go.WideShapes Go.ChangeAt Go.RowKit
theorem contract (H:Type) (enc:TypeId×Value→H) (W:World) (base:Nat) (args:Array Value) (ds gs:List (DataW H)) (before:List MemPlace)
  (hval:∀(j:Nat) t v,Tryz.f7.params[j]?=some t→args[j]?=some v→Value.okWide Tryz.prog W .any base t v)
  (hW:DataW.Whole enc Tryz.prog Tryz.f7.params.toList Rows.indexHidesSpec.vars false W args.toList ds gs before) (hL:laidMetH Tryz.prog Rows.indexHidesRow.laid W)
  : Calls Tryz.prog 7 args W fun e W'=>∃v,e = .returned v∧Rows.indexHidesSpec.post enc Tryz.prog Tryz.f7 false true false false W args v W':=by
 have hW':=hW
 skip
 obtain ⟨p,q,hA0,hV,hpq,hfz,hnd⟩:=hW
 have hA:DataW.TrodAll enc Tryz.prog W 0 (fun _=>true) true Tryz.f7.params.toList args.toList ds p:=hA0
 rw[Tryz.params7] at hA hval
 obtain ⟨v0,vs0,d0,ds0,p0,q0,hargs,rfl,rfl,h0,r0⟩:=trodAll_cons hA
 obtain ⟨v1,vs1,d1,ds1,p1,q1,rfl,rfl,rfl,h1,r1⟩:=trodAll_cons r0
 obtain ⟨rfl,rfl,rfl⟩:=trodAll_nil r1
 obtain rfl:args = #[v0,v1]:=by cases args;simp_all
 obtain ⟨A0,n0,c0,ls0,rfl,hn0,hc0,hS0⟩:=open_actsI (hval 0 28 v0 rfl rfl) h0
 obtain ⟨A1,n1,c1,fs1,a1,b1,i1,s1,rfl,hn1,hc1,hS1,hF1⟩:=open_asked (hval 1 68 v1 rfl rfl) h1
 refine (IndexHides_any A0 n0 c0 ls0 hn0 A1 n1 c1 fs1 hn1 hF1 a1 b1 i1 s1 W hS0 hS1 (halves_of hL)).mono fun e W' ⟨he,hb⟩=>⟨_,he,?_⟩
 exact post_true rfl (fun ds' h=>by match ds',h with | [a0,a1],_=>exact ⟨rfl,rfl,rfl⟩) (by kernel_rfl) (by rw[Tryz.params7];intro t ht;simp at ht;rcases ht with rfl|rfl<;>exact ⟨by kernel_rfl,of_decide_eq_true (by kernel_rfl)⟩) hW' hb rfl
noncomputable def laidWorld (os:Os):World:=laidWorldOf (World.holding Tryz.prog os ⟨#[],#[], []⟩)
theorem laid_met (os:Os):laidMet Tryz.prog Rows.indexHidesRow.laid ((laidWorld os).forCall (fun _ _=>0) ⟨#[],#[.slice none 0 0,.agg #[.slice none 0 0,.int .i64 0,.int .i64 0,.int .i64 0,.string ⟨#[]⟩]], []⟩).memory :=
 laidMet_of_run' 8 (by kernel_rfl) (by kernel_rfl)
theorem reads (os:Os) {H:Type}(enc:TypeId×Value→H):∃places,DataW.whole enc Tryz.prog ((laidWorld os).forCall (fun _ _=>0) ⟨#[],#[.slice none 0 0,.agg #[.slice none 0 0,.int .i64 0,.int .i64 0,.int .i64 0,.string ⟨#[]⟩]], []⟩).memory Tryz.f7.params.toList Rows.indexHidesSpec.vars false (#[.slice none 0 0,.agg #[.slice none 0 0,.int .i64 0,.int .i64 0,.int .i64 0,.string ⟨#[]⟩]]:Array Value).toList 8=some ([.nil,.agg [.nil,.lit (.int .i64 0),.lit (.int .i64 0),.lit (.int .i64 0),.lit (.string [])]], [],places) :=
 ⟨[],by kernel_rfl⟩
theorem lifted (os:Os) (started:os.Started) (H:Type) (enc:TypeId×Value→H) (F:Stop.Interp) :
  ReturnsInHanded {} Tryz.checked os 7 .any ((OpenSpec.ofChange Rows.indexHidesSpec).preRow enc Tryz.prog Tryz.f7 Rows.indexHidesRow.domain false Rows.indexHidesRow.laid) (((OpenSpec.ofChange Rows.indexHidesSpec).at F).post enc Tryz.prog Tryz.f7 false true false false):=by
 obtain ⟨places,hx⟩:=reads os enc
 refine returnsInHanded_of_row (C:=Tryz.checked) (s:=OpenSpec.ofChange Rows.indexHidesSpec) Tryz.own started (by kernel_rfl) Tryz.func7
  (witness_row_at (enc:=enc) (C:=Tryz.checked) false (laidWorld os) #[.slice none 0 0,.agg #[.slice none 0 0,.int .i64 0,.int .i64 0,.int .i64 0,.string ⟨#[]⟩]] rfl (by kernel_rfl) (by kernel_rfl) (by kernel_rfl)
   (OpenSpec.preRow_of_cond 8 hx (by kernel_rfl) (fun k hk=>by cases hk) (by kernel_rfl) (laid_met os))) ?_
 intro W base args ds gs before hval hW h4 h5 h6 hL h8 h9
 exact contract H enc W base args ds gs before hval hW hL
theorem and2 {a b:Bool}(h1:a=true) (h2:b=true):(a && b)=true:=by rw[h1,h2];rfl
theorem closed:joinedFacts Tryz.pinned.checked.prog 7 Tryz.f7 (OpenSpec.ofChange Rows.indexHidesSpec).bare Rows.indexHidesRow=true:=by
 delta joinedFacts
 repeat' (with_reducible refine and2 ?_ ?_)
 all_goals (as_aux_lemma=>kernel_rfl)
theorem said:Rows.IndexHidesSaid :=
 OpenClaim.holds_of_cond 7 Tryz.f7 rfl rfl rfl rfl rfl rfl rfl ⟨rfl,rfl,rfl,rfl,rfl⟩ rfl rfl rfl rfl rfl (by kernel_rfl) Tryz.func7 closed
  (of_decide_eq_true (by kernel_rfl)) (by unfold Func.isWrapper;first|(rw[if_pos (by decide +kernel)];kernel_rfl)|(rw[if_neg (by decide +kernel)];exact ⟨rfl,rfl⟩))
  (fun os started H enc _ F=>by rw[OpenClaim.pre_eq_preRow];exact lifted os started H enc F)
theorem plain (f:FuncId) (fn:Func) (hf:Tryz.pinned.checked.prog.funcNamed "esker/eskerlaw14.IndexHides"=some f) (hfn:Tryz.pinned.checked.prog.funcs[f]?=some fn) :
  false=Tryz.pinned.checked.prog.looks []∧∀(j:Nat) t,fn.params[j]?=some t→Tryz.pinned.checked.prog.wantsStandIn t=false:=by
 obtain rfl:f=7:=Option.some.inj ((show Tryz.prog.funcNamed "esker/eskerlaw14.IndexHides"=some 7 by kernel_rfl).symm.trans hf) |>.symm
 obtain rfl:fn=Tryz.f7:=(Option.some.inj (Tryz.func7.symm.trans hfn)).symm
 refine ⟨by kernel_rfl,fun j t ht => ?_⟩
 rw[Tryz.params7] at ht
 have hm:=Array.mem_of_getElem? ht
 simp at hm
 rcases hm with rfl|rfl
 ·exact (show Tryz.prog.wantsStandIn 28=false by kernel_rfl)
 ·exact (show Tryz.prog.wantsStandIn 68=false by kernel_rfl)
theorem card:Rows.IndexHidesCardSaid :=
 Claim7.holds_tied_plain_at .later [] _ _ _ _ said (fun _ h=>by cases h) (by kernel_rfl) (fun _ h=>by cases h) indexHides_row_tie rfl ⟨rfl,rfl⟩ (by kernel_rfl) rfl plain (by kernel_rfl)
#print axioms card
end lawIndexHides
end Go.Proofs.YtalmnodgjjcefaaGreatDoor
