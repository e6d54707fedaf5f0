/- CleanAllows holds, and its card. No condition. -/
import Derived.Test.YtnnbodoijkbceaaGreatDoorCards
import Derived.Test.YtnnbodoijkbceaaGreatDoorTie
import Derived.Test.YtnnbodoijkbceaaGreatDoorIW0
import Derived.Test.YtnnbodoijkbceaaGreatDoorIR17
import Derived.WalkKit
import Derived.ProofKit
import Derived.OpenShut
set_option linter.all false
set_option maxHeartbeats 0
set_option maxRecDepth 100000
open List renaming not_mem_nil→zAa,mem_cons→zAb
open Option renaming some→zAc
namespace Go.Proofs.YtnnbodoijkbceaaGreatDoor
open Go.ChangeShapes Go.WideShapes Go.ChangeAt Go.RowKit Go.Abs Go.Abs.F
theorem contract(H:Type)(enc:TypeId×Value->H)(W:World)(base:Nat)(args:Array Value)(ds gs:List (DataW H))(before:List MemPlace)
 (hval:∀(j:Nat)t v,Tryz.f3.params[j]?=some t->args[j]?=some v->Value.okWide Tryz.prog W .any base t v)
 (hW:DataW.Whole enc Tryz.prog Tryz.f3.params.toList Rows.cleanAllowsSpec.vars false W args.toList ds gs before) (hL:laidMet Tryz.prog Rows.cleanAllowsRow.laid W) (hS:W.ShapedOpen Tryz.prog)
 (hwt:(DataW.weightsEach Tryz.prog (Tryz.f3.params.toList++Rows.cleanAllowsSpec.plain.varTypes Tryz.prog) (ds++gs)).all (·<=reachBytes)=true):
 Calls Tryz.prog bQ args W fun e W'=>∃v,e=.returned v/\Rows.cleanAllowsSpec.post enc Tryz.prog Tryz.f3 false true false false W args v W':=by
 refine TH (S:=tyS) SO aae (tb:=co) rfl ?_ (by kernel_rfl) (by kernel_rfl) ?_ hval hW hwt (table hL hS) ?_
 ·intro ds hds
  match ds,hds with
  |[da,db],_=>rfl
 ·rw[show Tryz.f3.params.toList=[ee,dR] by kernel_rfl]
  intro t ht;simp only[zAb,zAa,or_false]at ht;rcases ht with rfl|rfl
  all_goals exact⟨by decide,by kernel_rfl,of_decide_eq_true (by kernel_rfl)⟩
 ·rw[show Tryz.f3.params.toList=[ee,dR] by kernel_rfl]
  intro us hus;obtain⟨a,b,rfl,ha,hb⟩:=hus.two;obtain⟨pa,rfl,qa⟩:=Tk ha;obtain⟨lb,rfl,qb,_⟩:=Wq hb;exact sK pa lb (QJ qa)
def layT(g:Nat)(h:Array Obj):Array Obj:=h.modify g fun
 | .cells _ t frozen=>.cells ((GLt g).map fun(n:Nat)=>Value.int .u8 n).toArray t frozen
 |o=>o
noncomputable def laidWorld(os:Os):World:=
 { World.holding Tryz.prog os ⟨#[],#[],[]⟩with heap:=layT (Mt.g 4) (layT (Mt.g 3) (World.holding Tryz.prog os ⟨#[],#[],[]⟩).heap) }
theorem laid_met(os:Os):laidMet Tryz.prog Rows.cleanAllowsRow.laid ((laidWorld os).forCall (fun _ _=>0) ⟨#[],#[.agg #[.slice none 0 0,.slice none 0 0,.slice none 0 0],.slice none 0 0],[]⟩).memory:=
 laidMet_of_run' 16 (by kernel_rfl) (by kernel_rfl)
theorem reads(os:Os){H:Type}(enc:TypeId×Value->H):∃ds places,DataW.whole enc Tryz.prog ((laidWorld os).forCall (fun _ _=>0) ⟨#[],#[.agg #[.slice none 0 0,.slice none 0 0,.slice none 0 0],.slice none 0 0],[]⟩).memory Tryz.f3.params.toList Rows.cleanAllowsSpec.vars false (#[.agg #[.slice none 0 0,.slice none 0 0,.slice none 0 0],.slice none 0 0]:Array Value).toList 8=some (ds,[],places):=
 ⟨[.agg [.nil,.nil,.nil],.nil],[],by kernel_rfl⟩
set_option maxRecDepth 100000 in
theorem lifted(os:Os)(started:os.Started)(H:Type)(enc:TypeId×Value->H)(F:Stop.Interp):
 ReturnsInHanded {} Tryz.checked os bQ .any ((OpenSpec.ofChange Rows.cleanAllowsSpec).preRow enc Tryz.prog Tryz.f3 Rows.cleanAllowsRow.domain false Rows.cleanAllowsRow.laid) (((OpenSpec.ofChange Rows.cleanAllowsSpec).at F).post enc Tryz.prog Tryz.f3 false true false false):=by
 obtain⟨ds,places,hx⟩:=reads os enc
 refine returnsInHanded_of_row (C:=Tryz.checked) (s:=OpenSpec.ofChange Rows.cleanAllowsSpec) own started (by kernel_rfl) Tryz.func3
  (witness_row_at (enc:=enc) (C:=Tryz.checked) false (laidWorld os) #[.agg #[.slice none 0 0,.slice none 0 0,.slice none 0 0],.slice none 0 0] rfl (by kernel_rfl) (by kernel_rfl) (by kernel_rfl)
    (OpenSpec.preRow_of_cond 8 hx (by kernel_rfl) (fun k hk=>by cases hk) (by kernel_rfl) (laid_met os))) ?_
 intro W base args ds gs before hval hW _ _ hwt hL hS _;exact contract H enc W base args ds gs before hval hW hL hS hwt
theorem and_i{a b:Bool}(h:a=true)(k:b=true):(a&&b)=true:=by rw[h,k];rfl
theorem k_inPlace:(Rows.cleanAllowsRow.inPlace == Tryz.prog.inPlace 3)=true:=by kernel_rfl
theorem k_unfollowed:(Rows.cleanAllowsRow.unfollowed == Tryz.prog.unfollowed 3)=true:=by kernel_rfl
theorem k_recurses:(Rows.cleanAllowsRow.recurses == Tryz.prog.recurses 3)=true:=by kernel_rfl
theorem k_named:(Rows.cleanAllowsRow.named == Tryz.prog.varsNamed 3)=true:=by kernel_rfl
theorem closed:joinedFacts Tryz.prog 3 Tryz.f3 (OpenSpec.ofChange Rows.cleanAllowsSpec).bare Rows.cleanAllowsRow=true:=by
 unfold joinedFacts
 iterate 19 refine and_i ?_ (by kernel_rfl)
 refine and_i (and_i (and_i (and_i ?_ k_inPlace) k_unfollowed) k_recurses) k_named
 iterate 8 refine and_i ?_ (by kernel_rfl)
 kernel_rfl
theorem said:Rows.CleanAllowsSaid:=
 OpenClaim.holds_of_cond bQ Tryz.f3 rfl rfl rfl rfl rfl rfl rfl ⟨rfl,rfl,rfl,rfl,rfl⟩ rfl rfl rfl rfl rfl (by kernel_rfl) Tryz.func3 closed
  (of_decide_eq_true (by kernel_rfl)) (by unfold Func.isWrapper;first|(rw[if_pos (by decide+kernel)];kernel_rfl)|(rw[if_neg (by decide+kernel)];exact⟨rfl,rfl⟩))
  (fun os started H enc _ F=>by rw[OpenClaim.pre_eq_preRow];exact lifted os started H enc F)
theorem plain(f:FuncId)(fn:Func)(hf:Tryz.pinned.checked.prog.funcNamed "strainer/strainerlaw16.CleanAllows"=some f)(hfn:Tryz.pinned.checked.prog.funcs[f]?=some fn):
 true=Tryz.pinned.checked.prog.looks []/\∀(j:Nat)t,fn.params[j]?=some t->Tryz.pinned.checked.prog.wantsStandIn t=false:=by
 obtain rfl:f=bQ:=zAc.inj ((show Tryz.prog.funcNamed "strainer/strainerlaw16.CleanAllows"=some bQ by kernel_rfl).symm.trans hf) |>.symm
 obtain rfl:fn=Tryz.f3:=(zAc.inj (Tryz.func3.symm.trans hfn)).symm;refine⟨by kernel_rfl,fun j t ht=>?_⟩
 have hm:=Array.mem_of_getElem? ht;rw[<-Array.mem_toList_iff,show Tryz.f3.params.toList=[ee,dR] by kernel_rfl]at hm
 simp only[zAb,zAa,or_false]at hm;rcases hm with rfl|rfl
 all_goals exact(show Tryz.prog.wantsStandIn _=false by kernel_rfl)
theorem cleanAllows_holds:Rows.CleanAllowsCardSaid:=
 Claim7.holds_tied_plain_at .later [] _ _ _ _ said (fun _ h=>by cases h) (by kernel_rfl) (fun _ h=>by cases h) cleanAllows_row_tie rfl ⟨rfl,rfl⟩ (by kernel_rfl) rfl plain (by kernel_rfl)
end Go.Proofs.YtnnbodoijkbceaaGreatDoor
