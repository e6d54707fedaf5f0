/- CompareDiffs holds, and its card. No condition. -/
import Derived.Test.YtbekkicfbnaaaaaGreatDoorCards
import Derived.Test.YtbekkicfbnaaaaaGreatDoorTie
import Derived.Test.YtbekkicfbnaaaaaGreatDoorVW0
import Derived.Test.YtbekkicfbnaaaaaGreatDoorVKF
import Derived.WalkKit
import Derived.ProofKit
import Derived.OpenShut
set_option linter.all false open List renaming not_mem_nil->zAa,mem_cons->zAb
open Option renaming some->zAc
set_option maxRecDepth 100000
namespace Go.Proofs.YtbekkicfbnaaaaaGreatDoor
open Go.ChangeShapes Go.WideShapes Go.ChangeAt Go.RowKit Go.Abs Go.Abs.F
theorem contractD(H:Type)(enc:TypeId×Value->H)(W:World)(base:Nat)(args:Array Value)(ds gs:List (DataW H))(before:List MemPlace)
 (hval:∀(j:Nat)t v,Tryz.f5.params[j]?=some t->args[j]?=some v->Value.okWide Tryz.prog W .any base t v)
 (hW:DataW.Whole enc Tryz.prog Tryz.f5.params.toList Rows.compareDiffsSpec.vars false W args.toList ds gs before) (hL:laidMet Tryz.prog Rows.compareDiffsRow.laid W) (hS:W.ShapedOpen Tryz.prog)
 (hwt:(DataW.weightsEach Tryz.prog (Tryz.f5.params.toList++Rows.compareDiffsSpec.plain.varTypes Tryz.prog) (ds++gs)).all (·<=reachBytes)=true):
 Calls Tryz.prog 5 args W λe W'=>∃v,e=.returned v/\Rows.compareDiffsSpec.post enc Tryz.prog Tryz.f5 false true false false W args v W':=by
 refine EE (S:=tyS) Ed R7 (tb:=aH) rfl ?_ (by kernel_rfl) (by kernel_rfl) ?_ hval hW hwt (aem hL hS) ?_
 ·intro ds hds
  match ds,hds with
  |[da,db],_=>rfl
 ·rw[show Tryz.f5.params.toList=[aS,aS] by kernel_rfl]
  intro t ht;simp only[zAb,zAa,or_false]at ht;rcases ht with rfl|rfl
  all_goals exact⟨by decide,by kernel_rfl,of_decide_eq_true (by kernel_rfl)⟩
 ·rw[show Tryz.f5.params.toList=[aS,aS] by kernel_rfl]
  intro us hus;obtain⟨a,b,rfl,ha,hb⟩:=hus.two;obtain⟨pa,rfl,qa⟩:=rH ha;obtain⟨pb,rfl,qb⟩:=rH hb;exact f_law20_CompareDiffs f_law20_lives pa pb (pf qa) (pf qb)
def layTD(g:Nat)(h:Array Obj):Array Obj:=h.modify g λ
 | .cells _ t frozen=>.cells ((GLt g).map λ(n:Nat)=>Value.int .u8 n).toArray t frozen
 |o=>o
noncomputable def laidWorldD(os:Os):World:=
 { World.holding Tryz.prog os ⟨#[],#[],[]⟩with heap:=layTD 0 (World.holding Tryz.prog os ⟨#[],#[],[]⟩).heap }
theorem laid_metD(os:Os):laidMet Tryz.prog Rows.compareDiffsRow.laid ((laidWorldD os).forCall (λ_ _=>0) ⟨#[],#[.agg #[.slice none 0 0,.slice none 0 0,.slice none 0 0],.agg #[.slice none 0 0,.slice none 0 0,.slice none 0 0]],[]⟩).memory:=
 laidMet_of_run' 16 (by kernel_rfl) (by kernel_rfl)
theorem readsD(os:Os){H:Type}(enc:TypeId×Value->H):∃ds places,DataW.whole enc Tryz.prog ((laidWorldD os).forCall (λ_ _=>0) ⟨#[],#[.agg #[.slice none 0 0,.slice none 0 0,.slice none 0 0],.agg #[.slice none 0 0,.slice none 0 0,.slice none 0 0]],[]⟩).memory Tryz.f5.params.toList Rows.compareDiffsSpec.vars false (#[.agg #[.slice none 0 0,.slice none 0 0,.slice none 0 0],.agg #[.slice none 0 0,.slice none 0 0,.slice none 0 0]]:Array Value).toList 8=some (ds,[],places):=
 ⟨[.agg [.nil,.nil,.nil],.agg [.nil,.nil,.nil]],[],by kernel_rfl⟩
set_option maxRecDepth 100000 in
theorem liftedD(os:Os)(started:os.Started)(H:Type)(enc:TypeId×Value->H)(F:Stop.Interp):
 ReturnsInHanded {} Tryz.checked os 5 .any ((OpenSpec.ofChange Rows.compareDiffsSpec).preRow enc Tryz.prog Tryz.f5 Rows.compareDiffsRow.domain false Rows.compareDiffsRow.laid) (((OpenSpec.ofChange Rows.compareDiffsSpec).at F).post enc Tryz.prog Tryz.f5 false true false false):=by
 obtain⟨ds,places,hx⟩:=readsD os enc
 refine returnsInHanded_of_row (C:=Tryz.checked) (s:=OpenSpec.ofChange Rows.compareDiffsSpec) own started (by kernel_rfl) Tryz.func5
  (witness_row_at (enc:=enc) (C:=Tryz.checked) false (laidWorldD os) #[.agg #[.slice none 0 0,.slice none 0 0,.slice none 0 0],.agg #[.slice none 0 0,.slice none 0 0,.slice none 0 0]] rfl (by kernel_rfl) (by kernel_rfl) (by kernel_rfl)
    (OpenSpec.preRow_of_cond 8 hx (by kernel_rfl) (λk hk=>by cases hk) (by kernel_rfl) (laid_metD os))) ?_
 intro W base args ds gs before hval hW _ _ hwt hL hS _;exact contractD H enc W base args ds gs before hval hW hL hS hwt
theorem and_iD{a b:Bool}(h:a=true)(k:b=true):(a&&b)=true:=by rw[h,k];rfl
theorem k_inPlaceD:(Rows.compareDiffsRow.inPlace == Tryz.prog.inPlace 5)=true:=by kernel_rfl
theorem k_unfollowedD:(Rows.compareDiffsRow.unfollowed == Tryz.prog.unfollowed 5)=true:=by kernel_rfl
theorem k_recursesD:(Rows.compareDiffsRow.recurses == Tryz.prog.recurses 5)=true:=by kernel_rfl
theorem k_namedD:(Rows.compareDiffsRow.named == Tryz.prog.varsNamed 5)=true:=by kernel_rfl
theorem closedD:joinedFacts Tryz.prog 5 Tryz.f5 (OpenSpec.ofChange Rows.compareDiffsSpec).bare Rows.compareDiffsRow=true:=by
 unfold joinedFacts
 iterate 19 refine and_iD ?_ (by kernel_rfl)
 refine and_iD (and_iD (and_iD (and_iD ?_ k_inPlaceD) k_unfollowedD) k_recursesD) k_namedD
 iterate 8 refine and_iD ?_ (by kernel_rfl)
 kernel_rfl
theorem saidD:Rows.CompareDiffsSaid:=
 OpenClaim.holds_of_cond 5 Tryz.f5 rfl rfl rfl rfl rfl rfl rfl ⟨rfl,rfl,rfl,rfl,rfl⟩ rfl rfl rfl rfl rfl (by kernel_rfl) Tryz.func5 closedD
  (of_decide_eq_true (by kernel_rfl)) (by unfold Func.isWrapper;first|(rw[if_pos (by decide+kernel)];kernel_rfl)|(rw[if_neg (by decide+kernel)];exact⟨rfl,rfl⟩))
  (λos started H enc _ F=>by rw[OpenClaim.pre_eq_preRow];exact liftedD os started H enc F)
theorem plainD(f:FuncId)(fn:Func)(hf:Tryz.pinned.checked.prog.funcNamed "strainer/strainerlaw20.CompareDiffs"=some f)(hfn:Tryz.pinned.checked.prog.funcs[f]?=some fn):
 true=Tryz.pinned.checked.prog.looks []/\∀(j:Nat)t,fn.params[j]?=some t->Tryz.pinned.checked.prog.wantsStandIn t=false:=by
 obtain rfl:f=5:=zAc.inj ((show Tryz.prog.funcNamed "strainer/strainerlaw20.CompareDiffs"=some 5 by kernel_rfl).symm.trans hf) |>.symm
 obtain rfl:fn=Tryz.f5:=(zAc.inj (Tryz.func5.symm.trans hfn)).symm;refine⟨by kernel_rfl,λj t ht=>?_⟩
 have hm:=Array.mem_of_getElem? ht;rw[<-Array.mem_toList_iff,show Tryz.f5.params.toList=[aS,aS] by kernel_rfl]at hm
 simp only[zAb,zAa,or_false]at hm;rcases hm with rfl|rfl
 all_goals exact(show Tryz.prog.wantsStandIn _=false by kernel_rfl)
theorem compareDiffs_holds:Rows.CompareDiffsCardSaid:=
 Claim7.holds_tied_plain_at .later [] _ _ _ _ saidD (λ_ h=>by cases h) (by kernel_rfl) (λ_ h=>by cases h) compareDiffs_row_tie rfl ⟨rfl,rfl⟩ (by kernel_rfl) rfl plainD (by kernel_rfl)
end Go.Proofs.YtbekkicfbnaaaaaGreatDoor
