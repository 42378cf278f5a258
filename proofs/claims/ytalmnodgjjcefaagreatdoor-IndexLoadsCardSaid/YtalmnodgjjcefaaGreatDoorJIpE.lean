/- Several texts in one: IpTell IpWays IpFew IpAwake IpTurn IpRef. -/
import Derived.Test.YtalmnodgjjcefaaGreatDoorJIpD
import Derived.Test.YtalmnodgjjcefaaGreatDoorJItm
namespace Go.Proofs.YtalmnodgjjcefaaGreatDoor
section
open Go.RowKit
def UpT (a b:Item):Prop:=ahead a b=true
theorem rises_pw {ls:List Item}(h:risesB ls=true):ls.Pairwise UpT :=
 List.pairwise_iff_getElem.2 fun _ _ hi hj hij=>rises_pair h hi hj hij
def fromL (ls:List Item) (x:Item):List Item:=ls.filter fun y => !ahead y x
theorem fromL_all {o:List Item}{x:Item}(h:∀y∈o,ahead y x=false):fromL o x=o :=
 List.filter_eq_self.2 fun y hy=>by rw[h y hy];rfl
theorem fromL_none {o:List Item}{x:Item}(h:∀y∈o,ahead y x=true):fromL o x = [] :=
 List.filter_eq_nil_iff.2 fun y hy=>by rw[h y hy];simp
theorem drop_fromL {x:Item} : ∀ {o:List Item},o.Pairwise UpT→o.drop (firstNot x o)=fromL o x
 | [],_=>rfl
 | a :: t,h=>by
  obtain ⟨h1,h2⟩:=List.pairwise_cons.1 h
  by_cases ha:ahead a x=true
  ·simp only[firstNot,if_pos ha,List.drop_succ_cons]
   rw[drop_fromL h2]
   unfold fromL
   rw[List.filter_cons_of_neg (by rw[ha];simp)]
  ·simp only[firstNot,if_neg ha,List.drop_zero]
   rw[Bool.not_eq_true] at ha
   refine (fromL_all fun y hy => ?_).symm
   simp only[List.mem_cons] at hy
   rcases hy with rfl|hy
   ·exact ha
   ·rw[←Bool.not_eq_true]
    intro e
    have:=ahead_trans (h1 y hy) e
    rw[ha] at this
    cases this
theorem flatMap_fromL {x:Item} : ∀(bl:List (List Item)),(∀o∈bl,o.Pairwise UpT)→bl.flatMap (fun o=>o.drop (firstNot x o))=fromL bl.flatten x
 | [],_=>rfl
 | o :: t,h=>by
  rw[List.flatMap_cons,drop_fromL (h o (by simp)),flatMap_fromL t fun y hy=>h y (by simp[hy])]
  unfold fromL
  rw[List.flatten_cons,List.filter_append]
theorem fromY_eq {ls:List Item}(h:okB ls=true) (h0:0<ls.length) (x:Item):fromY ls x=fromL ls x:=by
 have hpw:=rises_pw (ok_parts h).1
 have hfl:=blk_flatten ls
 rw[←hfl] at hpw
 obtain ⟨hp1,hp2⟩:=List.pairwise_flatten.1 hpw
 have hbl:=blk_length ls
 have hb:(firstsB ls).length=(blk ls).length:=by simp[firstsB]
 have hlt:atB (firstsB ls) x<(firstsB ls).length:=firstNot_at_most (by omega)
 obtain ⟨bi,hbi⟩:∃bi,atB (firstsB ls) x=bi:=⟨_,rfl⟩
 unfold fromY
 rw[hbi] at hlt ⊢
 rw[flatMap_fromL _ fun o ho=>hp1 o (List.mem_of_mem_drop ho)]
 have hle:∀y,UpT y ((firstsB ls)[bi])→0<bi→ahead y x=true:=fun y hy hpos=>by
  unfold atB at hbi
  split at hbi
  ·rename_i hf
   unfold foundB at hf
   rw[decide_eq_true_eq] at hf
   obtain ⟨h1,h2⟩:=hf
   subst hbi
   rw[←h2]
   exact hy
  ·exact ahead_trans hy (firstNot_lt hlt (by omega))
 have hdead:fromL ((blk ls).take bi).flatten x = []:=by
  refine fromL_none fun y hy => ?_
  obtain ⟨o,ho,hyo⟩:=List.mem_flatten.1 hy
  obtain ⟨j,hj,e⟩:=List.mem_iff_getElem.1 ho
  rw[List.length_take] at hj
  rw[List.getElem_take] at e
  have hpair:=List.pairwise_iff_getElem.1 hp2 j bi (by omega) (by omega) (by omega)
  refine hle y ?_ (by omega)
  have hne:=blk_block (List.getElem_mem (by omega:bi<(blk ls).length))
  have hpos:0<((blk ls)[bi]'(by omega)).length:=by
   obtain ⟨k,hk,e2⟩:=hne
   rw[e2,List.length_take,List.length_drop];omega
  have h2:(firstsB ls)[bi]=((blk ls)[bi]'(by omega)).headD []:=by simp[firstsB]
  rw[h2]
  refine hpair y (by rw[e];exact hyo) _ ?_
  cases hc:(blk ls)[bi]'(by omega) with
  | nil=>rw[hc] at hpos;simp at hpos
  | cons a t=>simp
 have:fromL (blk ls).flatten x=fromL ((blk ls).take bi).flatten x++fromL ((blk ls).drop bi).flatten x:=by
  unfold fromL
  rw[←List.filter_append, ←List.flatten_append,List.take_append_drop]
 rw[hdead,List.nil_append] at this
 rw[←this,hfl]
theorem head_fromL {ls:List Item}(hp:ls.Pairwise UpT) (x:Item):(fromL ls x).head?=some x↔x∈ls:=by
 constructor
 ·intro h
  have:=List.mem_of_mem_head? (by rw[h];rfl:x∈(fromL ls x).head?)
  exact (List.mem_filter.1 this).1
 ·intro h
  have hm:x∈fromL ls x:=List.mem_filter.2 ⟨h,by rw[ahead_irrefl];rfl⟩
  have hpf:(fromL ls x).Pairwise UpT:=hp.sublist List.filter_sublist
  cases hf:fromL ls x with
  | nil=>rw[hf] at hm;simp at hm
  | cons a t =>
   rw[hf] at hm hpf
   simp only[List.head?_cons,Option.some.injEq]
   simp only[List.mem_cons] at hm
   rcases hm with rfl|hm
   ·rfl
   ·exfalso
    have h1:=(List.pairwise_cons.1 hpf).1 x hm
    have h2:a∈fromL ls x:=by rw[hf];simp
    have h3:=(List.mem_filter.1 h2).2
    unfold UpT at h1
    rw[h1] at h3
    cases h3
theorem preB_cons (a b:UInt8) (s t:List UInt8):preB (a :: s) (b :: t)=(decide (a=b) && preB s t):=by
 unfold preB
 rw[←Bool.decide_and,decide_eq_decide,List.cons_prefix_cons]
theorem preB_nil (y:Item):preB [] y=true:=by unfold preB;simp
theorem preB_cons_nil (a:UInt8) (s:List UInt8):preB (a :: s) []=false:=by unfold preB;simp
theorem pre_not_ahead:∀ {x y:Item},preB x y=true→ahead y x=false
 | [],y,_=>by cases y<;>rfl
 | a :: s, [],h=>by rw[preB_cons_nil] at h;cases h
 | a :: s,b :: t,h=>by
  rw[preB_cons,Bool.and_eq_true,decide_eq_true_eq] at h
  obtain ⟨rfl,h⟩:=h
  rw[ahead_cons,pre_not_ahead h]
  simp[UInt8.lt_irrefl]
theorem pre_after:∀ {x y z:Item},ahead y x=false→preB x y=false→ahead y z=true→preB x z=false
 | [],y,_,_,h,_=>by rw[preB_nil] at h;cases h
 | a :: s, [],_,h,_,_=>by cases h
 | a :: s,b :: t, [],_,_,h=>by cases h
 | a :: s,b :: t,c :: u,h1,h2,h3=>by
  rw[ahead_cons,Bool.or_eq_false_iff,decide_eq_false_iff_not,Bool.and_eq_false_iff] at h1
  rw[ahead_cons,Bool.or_eq_true,decide_eq_true_eq,Bool.and_eq_true,beq_iff_eq] at h3
  rw[preB_cons,Bool.and_eq_false_iff,decide_eq_false_iff_not] at h2 ⊢
  obtain ⟨k1,k2⟩:=h1
  by_cases hba:b=a
  ·subst hba
   have k3:ahead t s=false:=by rcases k2 with k2|k2;simp at k2;exact k2
   have k4:preB s t=false:=by rcases h2 with h2|h2;exact absurd rfl h2;exact h2
   rcases h3 with h3|⟨rfl,h3⟩
   ·exact .inl fun e=>by subst e;exact UInt8.lt_irrefl _ h3
   ·exact .inr (pre_after k3 k4 h3)
  ·refine .inl fun e => ?_
   subst e
   rcases h3 with h3|⟨e2,_⟩
   ·exact k1 h3
   ·exact hba e2
theorem takeWhile_filter {p:Item→Bool}{R:Item→Item→Prop} : ∀ {o:List Item},o.Pairwise R→(∀a∈o,∀b∈o,R a b→p a=false→p b=false)→o.takeWhile p=o.filter p
 | [],_,_=>rfl
 | a :: t,h,hs=>by
  obtain ⟨h1,h2⟩:=List.pairwise_cons.1 h
  by_cases ha:p a=true
  ·rw[List.takeWhile_cons,if_pos ha,List.filter_cons_of_pos ha,takeWhile_filter h2 fun x hx y hy=>hs x (by simp[hx]) y (by simp[hy])]
  ·rw[Bool.not_eq_true] at ha
   rw[List.takeWhile_cons,if_neg (by rw[ha];simp),List.filter_cons_of_neg (by rw[ha];simp)]
   refine (List.filter_eq_nil_iff.2 fun y hy => ?_).symm
   rw[hs a (by simp) y (by simp[hy]) (h1 y hy) ha]
   simp
theorem prefix_fromL {ls:List Item}(hp:ls.Pairwise UpT) (x:Item):(fromL ls x).takeWhile (preB x)=ls.filter (preB x):=by
 have hpf:(fromL ls x).Pairwise UpT:=hp.sublist List.filter_sublist
 rw[takeWhile_filter hpf fun a ha b hb hab e => ?_]
 ·unfold fromL
  rw[List.filter_filter]
  refine List.filter_congr fun y _ => ?_
  cases h:preB x y with
  | false=>simp
  | true=>rw[pre_not_ahead h];rfl
 ·have:=(List.mem_filter.1 ha).2
  exact pre_after (by simpa using this) e hab
end
section
open Go.RowKit
def RowIs (w:World) (ls:List Item) (e:Ending) (w' : World):Prop:=∃v,e = .returned v∧OwnS w' w.heap.size v ls∧Below w.heap.size w w'
theorem RowIs.open_ {w w' : World}{ls:List Item}{e:Ending}(h:RowIs w ls e w'):∃A c,e = .returned (.slice A ls.length c)∧ls.length≤c∧Sees2 w' w'.heap.size A ls∧Below w.heap.size w w':=by
 obtain ⟨v,rfl,h1,h2⟩:=h
 obtain ⟨A,c,rfl,h3,h4⟩:=h1.open_
 exact ⟨A,c,rfl,h3,h4,h2⟩
theorem ok_short {ls:List Item}(h:okB ls=true):∀y∈ls,1≤y.length∧y.length≤400:=fun y hy=>by
 have:=(ok_parts h).2 y hy
 unfold badL at this
 rw[Bool.or_eq_false_iff,decide_eq_false_iff_not,decide_eq_false_iff_not] at this
 omega
section
variable {w : World} {P : Nat} {ls : List Item} {Bx : Option Addr} {lx dx : Nat} {x : Item}
theorem Has_part (h:PartAt (fun k=>k<w.heap.size) w P ls) (hx:Sees w w.heap.size Bx (bv x)) (hxl:x.length=lx) :
  Calls Tryz.prog 323 #[.pointer (some ⟨P,0,none⟩),.slice Bx lx dx] w (Gives w (.bool (decide (x∈ls)))):=by
 have hs:=seqFrom_part h (fun k e=>e) x Bx lx dx hx hxl
 rw[fromY_eq h.well h.many] at hs
 have:=Has_of w _ Bx lx dx x _ hx hxl hs
 rwa [show decide ((fromL ls x).head?=some x)=decide (x∈ls) from by rw[decide_eq_decide];exact head_fromL (rises_pw (ok_parts h.well).1) x] at this
theorem Prefix_part (h:PartAt (fun k=>k<w.heap.size) w P ls) (hx:Sees w w.heap.size Bx (bv x)) (hxl:x.length=lx) :
  Calls Tryz.prog 324 #[.pointer (some ⟨P,0,none⟩),.slice Bx lx dx] w (RowIs w (ls.filter (preB x))):=by
 have hs:=seqFrom_part h (fun k e=>e) x Bx lx dx hx hxl
 rw[fromY_eq h.well h.many] at hs
 have:=Prefix_of w _ Bx lx dx x hx hxl (fromL ls x) (fun y hy=>(ok_short h.well y (List.mem_filter.1 hy).1).2) (Nat.le_trans (List.length_filter_le _ _) h.few) hs
 rw[prefix_fromL (rises_pw (ok_parts h.well).1)] at this
 exact this
end
def PartIs (w:World) (ls:List Item) (e:Ending) (w' : World):Prop:=∃P,e = .returned (.tuple #[.pointer (some ⟨P,0,none⟩),.int .i64 0])∧PartAt (fun k=>w.heap.size≤k∧k<w'.heap.size) w' P ls∧Below w.heap.size w w'
theorem Open_good (A:Option Addr) (n c:Nat) (b:List UInt8) (hbn:b.length=n) (hnc:n≤c) (hn6:n≤1000000) (w:World) (hS:Sees w w.heap.size A (bv b)) (hH:Halves w) (ls:List Item) (h:openB b=some ls) :
  Calls Tryz.prog 106 #[.slice A n c] w (PartIs w ls) :=
 (Open_any A n c b hbn hnc hn6 w hS hH hH.1).mono fun e w' ⟨p,he,hb,h1,h2⟩=>by
  obtain ⟨rfl,hp⟩:=h2 ls h
  refine ⟨_,?_,hp,hb⟩
  rw[he,h];rfl
theorem PartAt.later {w w' : World}{P:Nat}{ls:List Item}(h:PartAt (fun k=>k<w.heap.size) w P ls) (hb:Below w.heap.size w w'):PartAt (fun k=>k<w'.heap.size) w' P ls :=
 (h.keep (Kept.of_below hb fun _ e=>e)).mono fun _ e=>Nat.lt_of_lt_of_le e hb.size
theorem Build_good (A:Option Addr) (n c:Nat) (ls:List Item) (hn:ls.length=n) (hnc:n≤c) (w:World) (hS:Sees2 w w.heap.size A ls) (hH:Halves w) (hlen:n≤1099511627776) (h:buildE ls=0) :
  Calls Tryz.prog 104 #[.slice A n c] w fun e w'=>∃v,e = .returned (.tuple #[v,.int .i64 0])∧OwnB w' w.heap.size v (fileB ls)∧Below w.heap.size w w' :=
 (Build_any A n c ls hn hnc w hS hH hlen).mono fun e w' ⟨v,he,hown,hb⟩=>by
  rw[if_pos h] at hown
  exact ⟨v,by rw[he,h];rfl,hown,hb⟩
end
end Go.Proofs.YtalmnodgjjcefaaGreatDoor
