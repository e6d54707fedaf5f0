/- CompileTells holds, and its card. No condition. -/
import Derived.Test.YtloaikaippankaaGreatDoorCards
import Derived.Test.YtloaikaippankaaGreatDoorTie
import Derived.Test.YtloaikaippankaaGreatDoorQW0
import Derived.Test.YtloaikaippankaaGreatDoorQR17
import Derived.WalkKit
import Derived.ProofKit
import Derived.OpenShut
set_option linter.all false open List renaming not_mem_nil→zAa,mem_cons→zAb
open Option renaming some→zAc
set_option maxRecDepth 100000
namespace Go.Proofs.YtloaikaippankaaGreatDoor
open Go.ChangeShapes Go.WideShapes Go.ChangeAt Go.RowKit Go.Abs Go.Abs.F
theorem contractB(H:Type)(enc:TypeId×Value->H)(W:World)(base:Nat)(args:Array Value)(ds gs:List (DataW H))(before:List MemPlace)
 (hval:∀(j:Nat)t v,Tryz.f7.params[j]?=some t->args[j]?=some v->Value.okWide Tryz.prog W .any base t v)
 (hW:DataW.Whole enc Tryz.prog Tryz.f7.params.toList Rows.compileTellsSpec.vars false W args.toList ds gs before) (hL:laidMet Tryz.prog Rows.compileTellsRow.laid W) (hS:W.ShapedOpen Tryz.prog)
 (hwt:(DataW.weightsEach Tryz.prog (Tryz.f7.params.toList++Rows.compileTellsSpec.plain.varTypes Tryz.prog) (ds++gs)).all (·<=reachBytes)=true):
 Calls Tryz.prog cf args W fun e W'=>∃v,e=.returned v/\Rows.compileTellsSpec.post enc Tryz.prog Tryz.f7 false true false false W args v W':=by
 refine EE (S:=tyS) Ed R7 (tb:=aH) rfl ?_ (by kernel_rfl) (by kernel_rfl) ?_ hval hW hwt (aem hL hS) ?_
 ·intro ds hds
  match ds,hds with
  |[da,db,dc],_=>rfl
 ·rw[show Tryz.f7.params.toList=[aS,aS,bN] by kernel_rfl]
  intro t ht;simp only[zAb,zAa,or_false]at ht;rcases ht with rfl|rfl|rfl
  all_goals exact⟨by decide,by kernel_rfl,of_decide_eq_true (by kernel_rfl)⟩
 ·rw[show Tryz.f7.params.toList=[aS,aS,bN] by kernel_rfl]
  intro us hus;obtain⟨a,b,c,rfl,ha,hb,hc⟩:=hus.three;obtain⟨pa,rfl,qa⟩:=rH ha;obtain⟨pb,rfl,qb⟩:=rH hb;obtain⟨lc,rfl,qc,_⟩:=Jh hc;exact xa pa pb lc (pf qa) (pf qb)
def layTB(g:Nat)(h:Array Obj):Array Obj:=h.modify g fun
 | .cells _ t frozen=>.cells ((GLt g).map fun(n:Nat)=>Value.int .u8 n).toArray t frozen
 |o=>o
noncomputable def laidWorldB(os:Os):World:=
 { World.holding Tryz.prog os ⟨#[],#[],[]⟩with heap:=layTB 0 (World.holding Tryz.prog os ⟨#[],#[],[]⟩).heap }
theorem laid_metB(os:Os):laidMet Tryz.prog Rows.compileTellsRow.laid ((laidWorldB os).forCall (fun _ _=>0) ⟨#[],#[.agg #[.slice none 0 0,.slice none 0 0,.slice none 0 0],.agg #[.slice none 0 0,.slice none 0 0,.slice none 0 0],.slice none 0 0],[]⟩).memory:=
 laidMet_of_run' 16 (by kernel_rfl) (by kernel_rfl)
theorem readsB(os:Os){H:Type}(enc:TypeId×Value->H):∃ds places,DataW.whole enc Tryz.prog ((laidWorldB os).forCall (fun _ _=>0) ⟨#[],#[.agg #[.slice none 0 0,.slice none 0 0,.slice none 0 0],.agg #[.slice none 0 0,.slice none 0 0,.slice none 0 0],.slice none 0 0],[]⟩).memory Tryz.f7.params.toList Rows.compileTellsSpec.vars false (#[.agg #[.slice none 0 0,.slice none 0 0,.slice none 0 0],.agg #[.slice none 0 0,.slice none 0 0,.slice none 0 0],.slice none 0 0]:Array Value).toList 8=some (ds,[],places):=
 ⟨[.agg [.nil,.nil,.nil],.agg [.nil,.nil,.nil],.nil],[],by kernel_rfl⟩
set_option maxRecDepth 100000 in
theorem liftedB(os:Os)(started:os.Started)(H:Type)(enc:TypeId×Value->H)(F:Stop.Interp):
 ReturnsInHanded {} Tryz.checked os cf .any ((OpenSpec.ofChange Rows.compileTellsSpec).preRow enc Tryz.prog Tryz.f7 Rows.compileTellsRow.domain false Rows.compileTellsRow.laid) (((OpenSpec.ofChange Rows.compileTellsSpec).at F).post enc Tryz.prog Tryz.f7 false true false false):=by
 obtain⟨ds,places,hx⟩:=readsB os enc
 refine returnsInHanded_of_row (C:=Tryz.checked) (s:=OpenSpec.ofChange Rows.compileTellsSpec) own started (by kernel_rfl) Tryz.func7
  (witness_row_at (enc:=enc) (C:=Tryz.checked) false (laidWorldB os) #[.agg #[.slice none 0 0,.slice none 0 0,.slice none 0 0],.agg #[.slice none 0 0,.slice none 0 0,.slice none 0 0],.slice none 0 0] rfl (by kernel_rfl) (by kernel_rfl) (by kernel_rfl)
    (OpenSpec.preRow_of_cond 8 hx (by kernel_rfl) (fun k hk=>by cases hk) (by kernel_rfl) (laid_metB os))) ?_
 intro W base args ds gs before hval hW _ _ hwt hL hS _;exact contractB H enc W base args ds gs before hval hW hL hS hwt
theorem and_iB{a b:Bool}(h:a=true)(k:b=true):(a&&b)=true:=by rw[h,k];rfl
theorem k_inPlaceB:(Rows.compileTellsRow.inPlace == Tryz.prog.inPlace 7)=true:=by kernel_rfl
theorem k_unfollowedB:(Rows.compileTellsRow.unfollowed == Tryz.prog.unfollowed 7)=true:=by kernel_rfl
theorem k_recursesB:(Rows.compileTellsRow.recurses == Tryz.prog.recurses 7)=true:=by kernel_rfl
theorem k_namedB:(Rows.compileTellsRow.named == Tryz.prog.varsNamed 7)=true:=by kernel_rfl
theorem nO:joinedFacts Tryz.prog 7 Tryz.f7 (OpenSpec.ofChange Rows.compileTellsSpec).bare Rows.compileTellsRow=true:=by
 unfold joinedFacts
 iterate 19 refine and_iB ?_ (by kernel_rfl)
 refine and_iB (and_iB (and_iB (and_iB ?_ k_inPlaceB) k_unfollowedB) k_recursesB) k_namedB
 iterate 8 refine and_iB ?_ (by kernel_rfl)
 kernel_rfl
theorem saidB:Rows.CompileTellsSaid:=
 OpenClaim.holds_of_cond cf Tryz.f7 rfl rfl rfl rfl rfl rfl rfl ⟨rfl,rfl,rfl,rfl,rfl⟩ rfl rfl rfl rfl rfl (by kernel_rfl) Tryz.func7 nO
  (of_decide_eq_true (by kernel_rfl)) (by unfold Func.isWrapper;first|(rw[if_pos (by decide+kernel)];kernel_rfl)|(rw[if_neg (by decide+kernel)];exact⟨rfl,rfl⟩))
  (fun os started H enc _ F=>by rw[OpenClaim.pre_eq_preRow];exact liftedB os started H enc F)
theorem plainB(f:FuncId)(fn:Func)(hf:Tryz.pinned.checked.prog.funcNamed "strainer/strainerlaw19.CompileTells"=some f)(hfn:Tryz.pinned.checked.prog.funcs[f]?=some fn):
 false=Tryz.pinned.checked.prog.looks []/\∀(j:Nat)t,fn.params[j]?=some t->Tryz.pinned.checked.prog.wantsStandIn t=false:=by
 obtain rfl:f=cf:=zAc.inj ((show Tryz.prog.funcNamed "strainer/strainerlaw19.CompileTells"=some cf by kernel_rfl).symm.trans hf) |>.symm
 obtain rfl:fn=Tryz.f7:=(zAc.inj (Tryz.func7.symm.trans hfn)).symm;refine⟨by kernel_rfl,fun j t ht=>?_⟩
 have hm:=Array.mem_of_getElem? ht;rw[<-Array.mem_toList_iff,show Tryz.f7.params.toList=[aS,aS,bN] by kernel_rfl]at hm
 simp only[zAb,zAa,or_false]at hm;rcases hm with rfl|rfl|rfl
 all_goals exact(show Tryz.prog.wantsStandIn _=false by kernel_rfl)
theorem compileTells_holds:Rows.CompileTellsCardSaid:=
 Claim7.holds_tied_plain_at .later [] _ _ _ _ saidB (fun _ h=>by cases h) (by kernel_rfl) (fun _ h=>by cases h) compileTells_row_tie rfl ⟨rfl,rfl⟩ (by kernel_rfl) rfl plainB (by kernel_rfl)
end Go.Proofs.YtloaikaippankaaGreatDoor
