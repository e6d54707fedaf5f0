/- CompareCosts holds, and its card. No condition. -/
import Derived.Test.YtbekkicfbnaaaaaGreatDoorCards
import Derived.Test.YtbekkicfbnaaaaaGreatDoorTie
import Derived.Test.YtbekkicfbnaaaaaGreatDoorVW0
import Derived.Test.YtbekkicfbnaaaaaGreatDoorVKE
import Derived.WalkKit
import Derived.ProofKit
import Derived.OpenShut
set_option linter.all false open List renaming not_mem_nil->zAa,mem_cons->zAb
open Option renaming some->zAc
set_option maxRecDepth 100000
namespace Go.Proofs.YtbekkicfbnaaaaaGreatDoor
open Go.ChangeShapes Go.WideShapes Go.ChangeAt Go.RowKit Go.Abs Go.Abs.F
theorem contractD(H:Type)(enc:TypeId×Value->H)(W:World)(base:Nat)(args:Array Value)(ds gs:List (DataW H))(before:List MemPlace)
 (hval:∀(j:Nat)t v,Tryz.f3.params[j]?=some t->args[j]?=some v->Value.okWide Tryz.prog W .any base t v)
 (hW:DataW.Whole enc Tryz.prog Tryz.f3.params.toList Rows.compareCostsSpec.vars false W args.toList ds gs before) (hL:laidMet Tryz.prog Rows.compareCostsRow.laid W) (hS:W.ShapedOpen Tryz.prog)
 (hwt:(DataW.weightsEach Tryz.prog (Tryz.f3.params.toList++Rows.compareCostsSpec.plain.varTypes Tryz.prog) (ds++gs)).all (·<=reachBytes)=true):
 Calls Tryz.prog 3 args W λe W'=>∃v,e=.returned v/\Rows.compareCostsSpec.post enc Tryz.prog Tryz.f3 false true false false W args v W':=by
 refine EE (S:=tyS) Ed R7 (tb:=aH) rfl ?_ (by kernel_rfl) (by kernel_rfl) ?_ hval hW hwt (aem hL hS) ?_
 ·intro ds hds
  match ds,hds with
  |[da,db,dc],_=>rfl
 ·rw[show Tryz.f3.params.toList=[aS,aS,ap] by kernel_rfl]
  intro t ht;simp only[zAb,zAa,or_false]at ht;rcases ht with rfl|rfl|rfl
  all_goals exact⟨by decide,by kernel_rfl,of_decide_eq_true (by kernel_rfl)⟩
 ·rw[show Tryz.f3.params.toList=[aS,aS,ap] by kernel_rfl]
  intro us hus;obtain⟨a,b,c,rfl,ha,hb,hc⟩:=hus.three;obtain⟨pa,rfl,qa⟩:=rH ha;obtain⟨pb,rfl,qb⟩:=rH hb;obtain⟨ic,rfl,_,_⟩:=HasTy.int_of (k:=.i64) (by kernel_rfl) hc;exact f_law20_CompareCosts f_law20_lives pa pb ic (pf qa) (pf qb)
def layTD(g:Nat)(h:Array Obj):Array Obj:=h.modify g λ
 | .cells _ t frozen=>.cells ((GLt g).map λ(n:Nat)=>Value.int .u8 n).toArray t frozen
 |o=>o
noncomputable def laidWorldD(os:Os):World:=
 { World.holding Tryz.prog os ⟨#[],#[],[]⟩with heap:=layTD 0 (World.holding Tryz.prog os ⟨#[],#[],[]⟩).heap }
theorem laid_metD(os:Os):laidMet Tryz.prog Rows.compareCostsRow.laid ((laidWorldD os).forCall (λ_ _=>0) ⟨#[],#[.agg #[.slice none 0 0,.slice none 0 0,.slice none 0 0],.agg #[.slice none 0 0,.slice none 0 0,.slice none 0 0],.int .i64 0],[]⟩).memory:=
 laidMet_of_run' 16 (by kernel_rfl) (by kernel_rfl)
theorem readsD(os:Os){H:Type}(enc:TypeId×Value->H):∃ds places,DataW.whole enc Tryz.prog ((laidWorldD os).forCall (λ_ _=>0) ⟨#[],#[.agg #[.slice none 0 0,.slice none 0 0,.slice none 0 0],.agg #[.slice none 0 0,.slice none 0 0,.slice none 0 0],.int .i64 0],[]⟩).memory Tryz.f3.params.toList Rows.compareCostsSpec.vars false (#[.agg #[.slice none 0 0,.slice none 0 0,.slice none 0 0],.agg #[.slice none 0 0,.slice none 0 0,.slice none 0 0],.int .i64 0]:Array Value).toList 8=some (ds,[],places):=
 ⟨[.agg [.nil,.nil,.nil],.agg [.nil,.nil,.nil],.lit (.int .i64 0)],[],by kernel_rfl⟩
set_option maxRecDepth 100000 in
theorem liftedD(os:Os)(started:os.Started)(H:Type)(enc:TypeId×Value->H)(F:Stop.Interp):
 ReturnsInHanded {} Tryz.checked os 3 .any ((OpenSpec.ofChange Rows.compareCostsSpec).preRow enc Tryz.prog Tryz.f3 Rows.compareCostsRow.domain false Rows.compareCostsRow.laid) (((OpenSpec.ofChange Rows.compareCostsSpec).at F).post enc Tryz.prog Tryz.f3 false true false false):=by
 obtain⟨ds,places,hx⟩:=readsD os enc
 refine returnsInHanded_of_row (C:=Tryz.checked) (s:=OpenSpec.ofChange Rows.compareCostsSpec) own started (by kernel_rfl) Tryz.func3
  (witness_row_at (enc:=enc) (C:=Tryz.checked) false (laidWorldD os) #[.agg #[.slice none 0 0,.slice none 0 0,.slice none 0 0],.agg #[.slice none 0 0,.slice none 0 0,.slice none 0 0],.int .i64 0] rfl (by kernel_rfl) (by kernel_rfl) (by kernel_rfl)
    (OpenSpec.preRow_of_cond 8 hx (by kernel_rfl) (λk hk=>by cases hk) (by kernel_rfl) (laid_metD os))) ?_
 intro W base args ds gs before hval hW _ _ hwt hL hS _;exact contractD H enc W base args ds gs before hval hW hL hS hwt
theorem and_iD{a b:Bool}(h:a=true)(k:b=true):(a&&b)=true:=by rw[h,k];rfl
theorem k_inPlaceD:(Rows.compareCostsRow.inPlace == Tryz.prog.inPlace 3)=true:=by kernel_rfl
theorem k_unfollowedD:(Rows.compareCostsRow.unfollowed == Tryz.prog.unfollowed 3)=true:=by kernel_rfl
theorem k_recursesD:(Rows.compareCostsRow.recurses == Tryz.prog.recurses 3)=true:=by kernel_rfl
theorem k_namedD:(Rows.compareCostsRow.named == Tryz.prog.varsNamed 3)=true:=by kernel_rfl
theorem closedD:joinedFacts Tryz.prog 3 Tryz.f3 (OpenSpec.ofChange Rows.compareCostsSpec).bare Rows.compareCostsRow=true:=by
 unfold joinedFacts
 iterate 19 refine and_iD ?_ (by kernel_rfl)
 refine and_iD (and_iD (and_iD (and_iD ?_ k_inPlaceD) k_unfollowedD) k_recursesD) k_namedD
 iterate 8 refine and_iD ?_ (by kernel_rfl)
 kernel_rfl
theorem saidD:Rows.CompareCostsSaid:=
 OpenClaim.holds_of_cond 3 Tryz.f3 rfl rfl rfl rfl rfl rfl rfl ⟨rfl,rfl,rfl,rfl,rfl⟩ rfl rfl rfl rfl rfl (by kernel_rfl) Tryz.func3 closedD
  (of_decide_eq_true (by kernel_rfl)) (by unfold Func.isWrapper;first|(rw[if_pos (by decide+kernel)];kernel_rfl)|(rw[if_neg (by decide+kernel)];exact⟨rfl,rfl⟩))
  (λos started H enc _ F=>by rw[OpenClaim.pre_eq_preRow];exact liftedD os started H enc F)
theorem plainD(f:FuncId)(fn:Func)(hf:Tryz.pinned.checked.prog.funcNamed "strainer/strainerlaw20.CompareCosts"=some f)(hfn:Tryz.pinned.checked.prog.funcs[f]?=some fn):
 true=Tryz.pinned.checked.prog.looks []/\∀(j:Nat)t,fn.params[j]?=some t->Tryz.pinned.checked.prog.wantsStandIn t=false:=by
 obtain rfl:f=3:=zAc.inj ((show Tryz.prog.funcNamed "strainer/strainerlaw20.CompareCosts"=some 3 by kernel_rfl).symm.trans hf) |>.symm
 obtain rfl:fn=Tryz.f3:=(zAc.inj (Tryz.func3.symm.trans hfn)).symm;refine⟨by kernel_rfl,λj t ht=>?_⟩
 have hm:=Array.mem_of_getElem? ht;rw[<-Array.mem_toList_iff,show Tryz.f3.params.toList=[aS,aS,ap] by kernel_rfl]at hm
 simp only[zAb,zAa,or_false]at hm;rcases hm with rfl|rfl|rfl
 all_goals exact(show Tryz.prog.wantsStandIn _=false by kernel_rfl)
theorem compareCosts_holds:Rows.CompareCostsCardSaid:=
 Claim7.holds_tied_plain_at .later [] _ _ _ _ saidD (λ_ h=>by cases h) (by kernel_rfl) (λ_ h=>by cases h) compareCosts_row_tie rfl ⟨rfl,rfl⟩ (by kernel_rfl) rfl plainD (by kernel_rfl)
end Go.Proofs.YtbekkicfbnaaaaaGreatDoor
