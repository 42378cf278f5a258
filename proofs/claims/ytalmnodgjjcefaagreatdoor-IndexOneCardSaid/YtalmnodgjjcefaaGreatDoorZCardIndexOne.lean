/- a series that lives is found by its labels; what is found lives, and its labels are as is asked; what is not found is not so -/
import Derived.Test.YtalmnodgjjcefaaGreatDoorZDorO
import Derived.Test.YtalmnodgjjcefaaGreatDoorZLawO
set_option maxRecDepth 100000
set_option maxHeartbeats 20000000
namespace Go.Proofs.YtalmnodgjjcefaaGreatDoor
namespace lawIndexOne
open Go.ChangeShapes Go.WideShapes Go.ChangeAt Go.RowKit
theorem contract (H:Type) (enc:TypeId×Value→H) (W:World) (base:Nat) (args:Array Value) (ds gs:List (DataW H)) (before:List MemPlace)
  (hval:∀(j:Nat) t v,Tryz.f5.params[j]?=some t→args[j]?=some v→Value.okWide Tryz.prog W .any base t v)
  (hW:DataW.Whole enc Tryz.prog Tryz.f5.params.toList Rows.indexOneSpec.vars false W args.toList ds gs before) (hL:laidMetH Tryz.prog Rows.indexOneRow.laid W)
  : Calls Tryz.prog 5 args W fun e W'=>∃v,e = .returned v∧Rows.indexOneSpec.post enc Tryz.prog Tryz.f5 false true false false W args v W':=by
 have hW':=hW
 skip
 obtain ⟨p,q,hA0,hV,hpq,hfz,hnd⟩:=hW
 have hA:DataW.TrodAll enc Tryz.prog W 0 (fun _=>true) true Tryz.f5.params.toList args.toList ds p:=hA0
 rw[Tryz.params5] at hA hval
 obtain ⟨v0,vs0,d0,ds0,p0,q0,hargs,rfl,rfl,h0,r0⟩:=trodAll_cons hA
 obtain ⟨v1,vs1,d1,ds1,p1,q1,rfl,rfl,rfl,h1,r1⟩:=trodAll_cons r0
 obtain ⟨rfl,rfl,rfl⟩:=trodAll_nil r1
 obtain rfl:args = #[v0,v1]:=by cases args;simp_all
 obtain ⟨A0,n0,c0,ls0,rfl,hn0,hc0,hS0⟩:=open_actsI (hval 0 28 v0 rfl rfl) h0
 obtain ⟨A1,n1,c1,fs1,rfl,hn1,hc1,hS1,hF1⟩:=open_filtersI (hval 1 39 v1 rfl rfl) h1
 refine (IndexOne_any A0 n0 c0 ls0 hn0 A1 n1 c1 fs1 hn1 hF1 W hS0 hS1 (halves_of hL)).mono fun e W' ⟨he,hb⟩=>⟨_,he,?_⟩
 exact post_true rfl (fun ds' h=>by match ds',h with | [a0,a1],_=>exact ⟨rfl,rfl,rfl⟩) (by kernel_rfl) (by rw[Tryz.params5];intro t ht;simp at ht;rcases ht with rfl|rfl<;>exact ⟨by kernel_rfl,of_decide_eq_true (by kernel_rfl)⟩) hW' hb rfl
noncomputable def laidWorld (os:Os):World:=laidWorldOf (World.holding Tryz.prog os ⟨#[],#[], []⟩)
theorem laid_met (os:Os):laidMet Tryz.prog Rows.indexOneRow.laid ((laidWorld os).forCall (fun _ _=>0) ⟨#[],#[.slice none 0 0,.slice none 0 0], []⟩).memory :=
 laidMet_of_run' 8 (by kernel_rfl) (by kernel_rfl)
theorem reads (os:Os) {H:Type}(enc:TypeId×Value→H):∃places,DataW.whole enc Tryz.prog ((laidWorld os).forCall (fun _ _=>0) ⟨#[],#[.slice none 0 0,.slice none 0 0], []⟩).memory Tryz.f5.params.toList Rows.indexOneSpec.vars false (#[.slice none 0 0,.slice none 0 0]:Array Value).toList 8=some ([.nil,.nil], [],places) :=
 ⟨[],by kernel_rfl⟩
theorem lifted (os:Os) (started:os.Started) (H:Type) (enc:TypeId×Value→H) (F:Stop.Interp) :
  ReturnsInHanded {} Tryz.checked os 5 .any ((OpenSpec.ofChange Rows.indexOneSpec).preRow enc Tryz.prog Tryz.f5 Rows.indexOneRow.domain false Rows.indexOneRow.laid) (((OpenSpec.ofChange Rows.indexOneSpec).at F).post enc Tryz.prog Tryz.f5 false true false false):=by
 obtain ⟨places,hx⟩:=reads os enc
 refine returnsInHanded_of_row (C:=Tryz.checked) (s:=OpenSpec.ofChange Rows.indexOneSpec) Tryz.own started (by kernel_rfl) Tryz.func5
  (witness_row_at (enc:=enc) (C:=Tryz.checked) false (laidWorld os) #[.slice none 0 0,.slice none 0 0] rfl (by kernel_rfl) (by kernel_rfl) (by kernel_rfl)
   (OpenSpec.preRow_of_cond 8 hx (by kernel_rfl) (fun k hk=>by cases hk) (by kernel_rfl) (laid_met os))) ?_
 intro W base args ds gs before hval hW h4 h5 h6 hL h8 h9
 exact contract H enc W base args ds gs before hval hW hL
theorem and2 {a b:Bool}(h1:a=true) (h2:b=true):(a && b)=true:=by rw[h1,h2];rfl
theorem closed:joinedFacts Tryz.pinned.checked.prog 5 Tryz.f5 (OpenSpec.ofChange Rows.indexOneSpec).bare Rows.indexOneRow=true:=by
 delta joinedFacts
 repeat' (with_reducible refine and2 ?_ ?_)
 all_goals (as_aux_lemma=>kernel_rfl)
theorem said:Rows.IndexOneSaid :=
 OpenClaim.holds_of_cond 5 Tryz.f5 rfl rfl rfl rfl rfl rfl rfl ⟨rfl,rfl,rfl,rfl,rfl⟩ rfl rfl rfl rfl rfl (by kernel_rfl) Tryz.func5 closed
  (of_decide_eq_true (by kernel_rfl)) (by unfold Func.isWrapper;first|(rw[if_pos (by decide +kernel)];kernel_rfl)|(rw[if_neg (by decide +kernel)];exact ⟨rfl,rfl⟩))
  (fun os started H enc _ F=>by rw[OpenClaim.pre_eq_preRow];exact lifted os started H enc F)
theorem plain (f:FuncId) (fn:Func) (hf:Tryz.pinned.checked.prog.funcNamed "esker/eskerlaw14.IndexOne"=some f) (hfn:Tryz.pinned.checked.prog.funcs[f]?=some fn) :
  false=Tryz.pinned.checked.prog.looks []∧∀(j:Nat) t,fn.params[j]?=some t→Tryz.pinned.checked.prog.wantsStandIn t=false:=by
 obtain rfl:f=5:=Option.some.inj ((show Tryz.prog.funcNamed "esker/eskerlaw14.IndexOne"=some 5 by kernel_rfl).symm.trans hf) |>.symm
 obtain rfl:fn=Tryz.f5:=(Option.some.inj (Tryz.func5.symm.trans hfn)).symm
 refine ⟨by kernel_rfl,fun j t ht => ?_⟩
 rw[Tryz.params5] at ht
 have hm:=Array.mem_of_getElem? ht
 simp at hm
 rcases hm with rfl|rfl
 ·exact (show Tryz.prog.wantsStandIn 28=false by kernel_rfl)
 ·exact (show Tryz.prog.wantsStandIn 39=false by kernel_rfl)
theorem card:Rows.IndexOneCardSaid :=
 Claim7.holds_tied_plain_at .later [] _ _ _ _ said (fun _ h=>by cases h) (by kernel_rfl) (fun _ h=>by cases h) indexOne_row_tie rfl ⟨rfl,rfl⟩ (by kernel_rfl) rfl plain (by kernel_rfl)
#print axioms card
end lawIndexOne
end Go.Proofs.YtalmnodgjjcefaaGreatDoor
