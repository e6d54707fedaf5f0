/- CleanLess holds, and its card. No condition. -/
import Derived.Test.YtnnbodoijkbceaaGreatDoorCards
import Derived.Test.YtnnbodoijkbceaaGreatDoorTie
import Derived.Test.YtnnbodoijkbceaaGreatDoorJW0
import Derived.Test.YtnnbodoijkbceaaGreatDoorJU12
import Derived.WalkKit
import Derived.ProofKit
import Derived.OpenShut
set_option linter.all false
set_option maxHeartbeats 0
set_option maxRecDepth 100000
open List renaming not_mem_nil→zAa,mem_cons→zAb
open Option renaming some→zAc
namespace Go.Proofs.YtnnbodoijkbceaaGreatDoor
open Go.ChangeShapes Go.WideShapes Go.ChangeAt Go.RowKit Go.Abs Go.Abs.F
theorem contract(H:Type)(enc:TypeId×Value->H)(W:World)(base:Nat)(args:Array Value)(ds gs:List (DataW H))(before:List MemPlace)
 (hval:∀(j:Nat)t v,Tryz.f6.params[j]?=some t->args[j]?=some v->Value.okWide Tryz.prog W .any base t v)
 (hW:DataW.Whole enc Tryz.prog Tryz.f6.params.toList Rows.cleanLessSpec.vars false W args.toList ds gs before) (hL:laidMet Tryz.prog Rows.cleanLessRow.laid W) (hS:W.ShapedOpen Tryz.prog)
 (hwt:(DataW.weightsEach Tryz.prog (Tryz.f6.params.toList++Rows.cleanLessSpec.plain.varTypes Tryz.prog) (ds++gs)).all (·<=reachBytes)=true):
 Calls Tryz.prog bT args W fun e W'=>∃v,e=.returned v/\Rows.cleanLessSpec.post enc Tryz.prog Tryz.f6 false true false false W args v W':=by
 refine OU (S:=tyS) NV Vn (tb:=ya) rfl ?_ (by kernel_rfl) (by kernel_rfl) ?_ hval hW hwt (table hL hS) ?_
 ·intro ds hds
  match ds,hds with
  |[da,db],_=>rfl
 ·rw[show Tryz.f6.params.toList=[dF,dp] by kernel_rfl]
  intro t ht;simp only[zAb,zAa,or_false]at ht;rcases ht with rfl|rfl
  all_goals exact⟨by decide,by kernel_rfl,of_decide_eq_true (by kernel_rfl)⟩
 ·rw[show Tryz.f6.params.toList=[dF,dp] by kernel_rfl]
  intro us hus;obtain⟨a,b,rfl,ha,hb⟩:=hus.two;obtain⟨pa,rfl,qa⟩:=Ov ha;obtain⟨lb,rfl,qb,_⟩:=Rt hb;exact uA pa lb (LL qa)
def layT(g:Nat)(h:Array Obj):Array Obj:=h.modify g fun
 | .cells _ t frozen=>.cells ((GLt g).map fun(n:Nat)=>Value.int .u8 n).toArray t frozen
 |o=>o
noncomputable def laidWorld(os:Os):World:=
 { World.holding Tryz.prog os ⟨#[],#[],[]⟩with heap:=layT (H9.g 4) (layT (H9.g 3) (World.holding Tryz.prog os ⟨#[],#[],[]⟩).heap) }
theorem laid_met(os:Os):laidMet Tryz.prog Rows.cleanLessRow.laid ((laidWorld os).forCall (fun _ _=>0) ⟨#[],#[.agg #[.slice none 0 0,.slice none 0 0,.slice none 0 0],.slice none 0 0],[]⟩).memory:=
 laidMet_of_run' 16 (by kernel_rfl) (by kernel_rfl)
theorem reads(os:Os){H:Type}(enc:TypeId×Value->H):∃ds places,DataW.whole enc Tryz.prog ((laidWorld os).forCall (fun _ _=>0) ⟨#[],#[.agg #[.slice none 0 0,.slice none 0 0,.slice none 0 0],.slice none 0 0],[]⟩).memory Tryz.f6.params.toList Rows.cleanLessSpec.vars false (#[.agg #[.slice none 0 0,.slice none 0 0,.slice none 0 0],.slice none 0 0]:Array Value).toList 8=some (ds,[],places):=
 ⟨[.agg [.nil,.nil,.nil],.nil],[],by kernel_rfl⟩
set_option maxRecDepth 100000 in
theorem lifted(os:Os)(started:os.Started)(H:Type)(enc:TypeId×Value->H)(F:Stop.Interp):
 ReturnsInHanded {} Tryz.checked os bT .any ((OpenSpec.ofChange Rows.cleanLessSpec).preRow enc Tryz.prog Tryz.f6 Rows.cleanLessRow.domain false Rows.cleanLessRow.laid) (((OpenSpec.ofChange Rows.cleanLessSpec).at F).post enc Tryz.prog Tryz.f6 false true false false):=by
 obtain⟨ds,places,hx⟩:=reads os enc
 refine returnsInHanded_of_row (C:=Tryz.checked) (s:=OpenSpec.ofChange Rows.cleanLessSpec) own started (by kernel_rfl) Tryz.func6
  (witness_row_at (enc:=enc) (C:=Tryz.checked) false (laidWorld os) #[.agg #[.slice none 0 0,.slice none 0 0,.slice none 0 0],.slice none 0 0] rfl (by kernel_rfl) (by kernel_rfl) (by kernel_rfl)
    (OpenSpec.preRow_of_cond 8 hx (by kernel_rfl) (fun k hk=>by cases hk) (by kernel_rfl) (laid_met os))) ?_
 intro W base args ds gs before hval hW _ _ hwt hL hS _;exact contract H enc W base args ds gs before hval hW hL hS hwt
theorem and_i{a b:Bool}(h:a=true)(k:b=true):(a&&b)=true:=by rw[h,k];rfl
theorem k_inPlace:(Rows.cleanLessRow.inPlace == Tryz.prog.inPlace 6)=true:=by kernel_rfl
theorem k_unfollowed:(Rows.cleanLessRow.unfollowed == Tryz.prog.unfollowed 6)=true:=by kernel_rfl
theorem k_recurses:(Rows.cleanLessRow.recurses == Tryz.prog.recurses 6)=true:=by kernel_rfl
theorem k_named:(Rows.cleanLessRow.named == Tryz.prog.varsNamed 6)=true:=by kernel_rfl
theorem closed:joinedFacts Tryz.prog 6 Tryz.f6 (OpenSpec.ofChange Rows.cleanLessSpec).bare Rows.cleanLessRow=true:=by
 unfold joinedFacts
 iterate 19 refine and_i ?_ (by kernel_rfl)
 refine and_i (and_i (and_i (and_i ?_ k_inPlace) k_unfollowed) k_recurses) k_named
 iterate 8 refine and_i ?_ (by kernel_rfl)
 kernel_rfl
theorem said:Rows.CleanLessSaid:=
 OpenClaim.holds_of_cond bT Tryz.f6 rfl rfl rfl rfl rfl rfl rfl ⟨rfl,rfl,rfl,rfl,rfl⟩ rfl rfl rfl rfl rfl (by kernel_rfl) Tryz.func6 closed
  (of_decide_eq_true (by kernel_rfl)) (by unfold Func.isWrapper;first|(rw[if_pos (by decide+kernel)];kernel_rfl)|(rw[if_neg (by decide+kernel)];exact⟨rfl,rfl⟩))
  (fun os started H enc _ F=>by rw[OpenClaim.pre_eq_preRow];exact lifted os started H enc F)
theorem plain(f:FuncId)(fn:Func)(hf:Tryz.pinned.checked.prog.funcNamed "strainer/strainerlaw16.CleanLess"=some f)(hfn:Tryz.pinned.checked.prog.funcs[f]?=some fn):
 true=Tryz.pinned.checked.prog.looks []/\∀(j:Nat)t,fn.params[j]?=some t->Tryz.pinned.checked.prog.wantsStandIn t=false:=by
 obtain rfl:f=bT:=zAc.inj ((show Tryz.prog.funcNamed "strainer/strainerlaw16.CleanLess"=some bT by kernel_rfl).symm.trans hf) |>.symm
 obtain rfl:fn=Tryz.f6:=(zAc.inj (Tryz.func6.symm.trans hfn)).symm;refine⟨by kernel_rfl,fun j t ht=>?_⟩
 have hm:=Array.mem_of_getElem? ht;rw[<-Array.mem_toList_iff,show Tryz.f6.params.toList=[dF,dp] by kernel_rfl]at hm
 simp only[zAb,zAa,or_false]at hm;rcases hm with rfl|rfl
 all_goals exact(show Tryz.prog.wantsStandIn _=false by kernel_rfl)
theorem cleanLess_holds:Rows.CleanLessCardSaid:=
 Claim7.holds_tied_plain_at .later [] _ _ _ _ said (fun _ h=>by cases h) (by kernel_rfl) (fun _ h=>by cases h) cleanLess_row_tie rfl ⟨rfl,rfl⟩ (by kernel_rfl) rfl plain (by kernel_rfl)
end Go.Proofs.YtnnbodoijkbceaaGreatDoor
