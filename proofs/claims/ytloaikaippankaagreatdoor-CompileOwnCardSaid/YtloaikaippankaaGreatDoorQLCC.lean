/- CompileOwn holds, and its card. No condition. -/
import Derived.Test.YtloaikaippankaaGreatDoorCards
import Derived.Test.YtloaikaippankaaGreatDoorTie
import Derived.Test.YtloaikaippankaaGreatDoorQW0
import Derived.Test.YtloaikaippankaaGreatDoorQR17
import Derived.WalkKit
import Derived.ProofKit
import Derived.OpenShut
set_option linter.all false open List renaming not_mem_nil→zAa,mem_cons→zAb
open Option renaming some→zAc
set_option maxRecDepth 100000
namespace Go.Proofs.YtloaikaippankaaGreatDoor
open Go.ChangeShapes Go.WideShapes Go.ChangeAt Go.RowKit Go.Abs Go.Abs.F
theorem contractC(H:Type)(enc:TypeId×Value->H)(W:World)(base:Nat)(args:Array Value)(ds gs:List (DataW H))(before:List MemPlace)
 (hval:∀(j:Nat)t v,Tryz.f8.params[j]?=some t->args[j]?=some v->Value.okWide Tryz.prog W .any base t v)
 (hW:DataW.Whole enc Tryz.prog Tryz.f8.params.toList Rows.compileOwnSpec.vars false W args.toList ds gs before) (hL:laidMet Tryz.prog Rows.compileOwnRow.laid W) (hS:W.ShapedOpen Tryz.prog)
 (hwt:(DataW.weightsEach Tryz.prog (Tryz.f8.params.toList++Rows.compileOwnSpec.plain.varTypes Tryz.prog) (ds++gs)).all (·<=reachBytes)=true):
 Calls Tryz.prog cI args W fun e W'=>∃v,e=.returned v/\Rows.compileOwnSpec.post enc Tryz.prog Tryz.f8 false true false false W args v W':=by
 refine EE (S:=tyS) Ed R7 (tb:=aH) rfl ?_ (by kernel_rfl) (by kernel_rfl) ?_ hval hW hwt (aem hL hS) ?_
 ·intro ds hds
  match ds,hds with
  |[da,db],_=>rfl
 ·rw[show Tryz.f8.params.toList=[aS,bN] by kernel_rfl]
  intro t ht;simp only[zAb,zAa,or_false]at ht;rcases ht with rfl|rfl
  all_goals exact⟨by decide,by kernel_rfl,of_decide_eq_true (by kernel_rfl)⟩
 ·rw[show Tryz.f8.params.toList=[aS,bN] by kernel_rfl]
  intro us hus;obtain⟨a,b,rfl,ha,hb⟩:=hus.two;obtain⟨pa,rfl,qa⟩:=rH ha;obtain⟨lb,rfl,qb,_⟩:=Jh hb;exact Bs pa lb (pf qa)
def layTC(g:Nat)(h:Array Obj):Array Obj:=h.modify g fun
 | .cells _ t frozen=>.cells ((GLt g).map fun(n:Nat)=>Value.int .u8 n).toArray t frozen
 |o=>o
noncomputable def laidWorldC(os:Os):World:=
 { World.holding Tryz.prog os ⟨#[],#[],[]⟩with heap:=layTC 0 (World.holding Tryz.prog os ⟨#[],#[],[]⟩).heap }
theorem laid_metC(os:Os):laidMet Tryz.prog Rows.compileOwnRow.laid ((laidWorldC os).forCall (fun _ _=>0) ⟨#[],#[.agg #[.slice none 0 0,.slice none 0 0,.slice none 0 0],.slice none 0 0],[]⟩).memory:=
 laidMet_of_run' 16 (by kernel_rfl) (by kernel_rfl)
theorem readsC(os:Os){H:Type}(enc:TypeId×Value->H):∃ds places,DataW.whole enc Tryz.prog ((laidWorldC os).forCall (fun _ _=>0) ⟨#[],#[.agg #[.slice none 0 0,.slice none 0 0,.slice none 0 0],.slice none 0 0],[]⟩).memory Tryz.f8.params.toList Rows.compileOwnSpec.vars false (#[.agg #[.slice none 0 0,.slice none 0 0,.slice none 0 0],.slice none 0 0]:Array Value).toList 8=some (ds,[],places):=
 ⟨[.agg [.nil,.nil,.nil],.nil],[],by kernel_rfl⟩
set_option maxRecDepth 100000 in
theorem liftedC(os:Os)(started:os.Started)(H:Type)(enc:TypeId×Value->H)(F:Stop.Interp):
 ReturnsInHanded {} Tryz.checked os cI .any ((OpenSpec.ofChange Rows.compileOwnSpec).preRow enc Tryz.prog Tryz.f8 Rows.compileOwnRow.domain false Rows.compileOwnRow.laid) (((OpenSpec.ofChange Rows.compileOwnSpec).at F).post enc Tryz.prog Tryz.f8 false true false false):=by
 obtain⟨ds,places,hx⟩:=readsC os enc
 refine returnsInHanded_of_row (C:=Tryz.checked) (s:=OpenSpec.ofChange Rows.compileOwnSpec) own started (by kernel_rfl) Tryz.func8
  (witness_row_at (enc:=enc) (C:=Tryz.checked) false (laidWorldC os) #[.agg #[.slice none 0 0,.slice none 0 0,.slice none 0 0],.slice none 0 0] rfl (by kernel_rfl) (by kernel_rfl) (by kernel_rfl)
    (OpenSpec.preRow_of_cond 8 hx (by kernel_rfl) (fun k hk=>by cases hk) (by kernel_rfl) (laid_metC os))) ?_
 intro W base args ds gs before hval hW _ _ hwt hL hS _;exact contractC H enc W base args ds gs before hval hW hL hS hwt
theorem and_iC{a b:Bool}(h:a=true)(k:b=true):(a&&b)=true:=by rw[h,k];rfl
theorem k_inPlaceC:(Rows.compileOwnRow.inPlace == Tryz.prog.inPlace 8)=true:=by kernel_rfl
theorem k_unfollowedC:(Rows.compileOwnRow.unfollowed == Tryz.prog.unfollowed 8)=true:=by kernel_rfl
theorem k_recursesC:(Rows.compileOwnRow.recurses == Tryz.prog.recurses 8)=true:=by kernel_rfl
theorem k_namedC:(Rows.compileOwnRow.named == Tryz.prog.varsNamed 8)=true:=by kernel_rfl
theorem closedC:joinedFacts Tryz.prog 8 Tryz.f8 (OpenSpec.ofChange Rows.compileOwnSpec).bare Rows.compileOwnRow=true:=by
 unfold joinedFacts
 iterate 19 refine and_iC ?_ (by kernel_rfl)
 refine and_iC (and_iC (and_iC (and_iC ?_ k_inPlaceC) k_unfollowedC) k_recursesC) k_namedC
 iterate 8 refine and_iC ?_ (by kernel_rfl)
 kernel_rfl
theorem saidC:Rows.CompileOwnSaid:=
 OpenClaim.holds_of_cond cI Tryz.f8 rfl rfl rfl rfl rfl rfl rfl ⟨rfl,rfl,rfl,rfl,rfl⟩ rfl rfl rfl rfl rfl (by kernel_rfl) Tryz.func8 closedC
  (of_decide_eq_true (by kernel_rfl)) (by unfold Func.isWrapper;first|(rw[if_pos (by decide+kernel)];kernel_rfl)|(rw[if_neg (by decide+kernel)];exact⟨rfl,rfl⟩))
  (fun os started H enc _ F=>by rw[OpenClaim.pre_eq_preRow];exact liftedC os started H enc F)
theorem plainC(f:FuncId)(fn:Func)(hf:Tryz.pinned.checked.prog.funcNamed "strainer/strainerlaw19.CompileOwn"=some f)(hfn:Tryz.pinned.checked.prog.funcs[f]?=some fn):
 false=Tryz.pinned.checked.prog.looks []/\∀(j:Nat)t,fn.params[j]?=some t->Tryz.pinned.checked.prog.wantsStandIn t=false:=by
 obtain rfl:f=cI:=zAc.inj ((show Tryz.prog.funcNamed "strainer/strainerlaw19.CompileOwn"=some cI by kernel_rfl).symm.trans hf) |>.symm
 obtain rfl:fn=Tryz.f8:=(zAc.inj (Tryz.func8.symm.trans hfn)).symm;refine⟨by kernel_rfl,fun j t ht=>?_⟩
 have hm:=Array.mem_of_getElem? ht;rw[<-Array.mem_toList_iff,show Tryz.f8.params.toList=[aS,bN] by kernel_rfl]at hm
 simp only[zAb,zAa,or_false]at hm;rcases hm with rfl|rfl
 all_goals exact(show Tryz.prog.wantsStandIn _=false by kernel_rfl)
theorem compileOwn_holds:Rows.CompileOwnCardSaid:=
 Claim7.holds_tied_plain_at .later [] _ _ _ _ saidC (fun _ h=>by cases h) (by kernel_rfl) (fun _ h=>by cases h) compileOwn_row_tie rfl ⟨rfl,rfl⟩ (by kernel_rfl) rfl plainC (by kernel_rfl)
end Go.Proofs.YtloaikaippankaaGreatDoor
