/- ParseJoins holds, and its card. No condition. -/
import Derived.Test.YtedmnakfknbabaaGreatDoorCards
import Derived.Test.YtedmnakfknbabaaGreatDoorTie
import Derived.Test.YtedmnakfknbabaaGreatDoorPW0
import Derived.Test.YtedmnakfknbabaaGreatDoorPB38
import Derived.WalkKit
import Derived.ProofKit
import Derived.OpenShut
set_option linter.all false
set_option maxHeartbeats 0
open List renaming not_mem_nil→zAa,mem_cons→zAb
open Option renaming some→zAc
set_option maxRecDepth 100000
namespace Go.Proofs.YtedmnakfknbabaaGreatDoor
open Go.ChangeShapes Go.WideShapes Go.ChangeAt Go.RowKit Go.Abs Go.Abs.F
theorem MG(H:Type)(enc:TypeId×Value->H)(W:World)(base:Nat)(args:Array Value)(ds gs:List (DataW H))(before:List MemPlace)
 (hval:∀(j:Nat)t v,Tryz.f6.params[j]?=some t->args[j]?=some v->Value.okWide Tryz.prog W .any base t v)
 (hW:DataW.Whole enc Tryz.prog Tryz.f6.params.toList Rows.parseJoinsSpec.vars false W args.toList ds gs before) (hL:laidMet Tryz.prog Rows.parseJoinsRow.laid W) (hS:W.ShapedOpen Tryz.prog)
 (hwt:(DataW.weightsEach Tryz.prog (Tryz.f6.params.toList++Rows.parseJoinsSpec.plain.varTypes Tryz.prog) (ds++gs)).all (·<=reachBytes)=true):
 Calls Tryz.prog bX args W fun e W'=>∃v,e=.returned v/\Rows.parseJoinsSpec.post enc Tryz.prog Tryz.f6 false true false false W args v W':=by
 refine uB (S:=tyS) uc Dr (tb:=sb) rfl ?_ (by kernel_rfl) (by kernel_rfl) ?_ hval hW hwt (NT hL hS) ?_
 ·intro ds hds
  match ds,hds with
  |[da,db],_=>rfl
 ·rw[show Tryz.f6.params.toList=[bm,bm] by kernel_rfl]
  intro t ht;simp only[zAb,zAa,or_false]at ht;rcases ht with rfl|rfl
  all_goals exact⟨by decide,by kernel_rfl,of_decide_eq_true (by kernel_rfl)⟩
 ·rw[show Tryz.f6.params.toList=[bm,bm] by kernel_rfl]
  intro us hus;obtain⟨a,b,rfl,ha,hb⟩:=hus.two;obtain⟨la,rfl,qa,_⟩:=xZ ha;obtain⟨lb,rfl,qb,_⟩:=xZ hb;exact rN la lb
def Ti(g:Nat)(h:Array Obj):Array Obj:=h.modify g fun
 | .cells _ t frozen=>.cells ((GLt g).map fun(n:Nat)=>Value.int .u8 n).toArray t frozen
 |o=>o
noncomputable def rh(os:Os):World:=
 { World.holding Tryz.prog os ⟨#[],#[],[]⟩with heap:=Ti (Fx.g 4) (Ti (Fx.g 3) (World.holding Tryz.prog os ⟨#[],#[],[]⟩).heap) }
theorem L2(os:Os):laidMet Tryz.prog Rows.parseJoinsRow.laid ((rh os).forCall (fun _ _=>0) ⟨#[],#[.slice none 0 0,.slice none 0 0],[]⟩).memory:=
 laidMet_of_run' 16 (by kernel_rfl) (by kernel_rfl)
theorem UA(os:Os){H:Type}(enc:TypeId×Value->H):∃ds places,DataW.whole enc Tryz.prog ((rh os).forCall (fun _ _=>0) ⟨#[],#[.slice none 0 0,.slice none 0 0],[]⟩).memory Tryz.f6.params.toList Rows.parseJoinsSpec.vars false (#[.slice none 0 0,.slice none 0 0]:Array Value).toList 8=some (ds,[],places):=
 ⟨[.nil,.nil],[],by kernel_rfl⟩
set_option maxRecDepth 100000 in
theorem Sf(os:Os)(started:os.Started)(H:Type)(enc:TypeId×Value->H)(F:Stop.Interp):
 ReturnsInHanded {} Tryz.checked os bX .any ((OpenSpec.ofChange Rows.parseJoinsSpec).preRow enc Tryz.prog Tryz.f6 Rows.parseJoinsRow.domain false Rows.parseJoinsRow.laid) (((OpenSpec.ofChange Rows.parseJoinsSpec).at F).post enc Tryz.prog Tryz.f6 false true false false):=by
 obtain⟨ds,places,hx⟩:=UA os enc
 refine returnsInHanded_of_row (C:=Tryz.checked) (s:=OpenSpec.ofChange Rows.parseJoinsSpec) own started (by kernel_rfl) fI
  (witness_row_at (enc:=enc) (C:=Tryz.checked) false (rh os) #[.slice none 0 0,.slice none 0 0] rfl (by kernel_rfl) (by kernel_rfl) (by kernel_rfl)
    (OpenSpec.preRow_of_cond 8 hx (by kernel_rfl) (fun k hk=>by cases hk) (by kernel_rfl) (L2 os))) ?_
 intro W base args ds gs before hval hW _ _ hwt hL hS _;exact MG H enc W base args ds gs before hval hW hL hS hwt
theorem u9{a b:Bool}(h:a=true)(k:b=true):(a&&b)=true:=by rw[h,k];rfl
theorem IY:(Rows.parseJoinsRow.inPlace == Tryz.prog.inPlace 6)=true:=by kernel_rfl
theorem Ad:(Rows.parseJoinsRow.unfollowed == Tryz.prog.unfollowed 6)=true:=by kernel_rfl
theorem Gc:(Rows.parseJoinsRow.recurses == Tryz.prog.recurses 6)=true:=by kernel_rfl
theorem OW:(Rows.parseJoinsRow.named == Tryz.prog.varsNamed 6)=true:=by kernel_rfl
theorem SJ:joinedFacts Tryz.prog 6 Tryz.f6 (OpenSpec.ofChange Rows.parseJoinsSpec).bare Rows.parseJoinsRow=true:=by
 unfold joinedFacts
 iterate 19 refine u9 ?_ (by kernel_rfl)
 refine u9 (u9 (u9 (u9 ?_ IY) Ad) Gc) OW
 iterate 8 refine u9 ?_ (by kernel_rfl)
 kernel_rfl
theorem saidC:Rows.ParseJoinsSaid:=
 OpenClaim.holds_of_cond bX Tryz.f6 rfl rfl rfl rfl rfl rfl rfl ⟨rfl,rfl,rfl,rfl,rfl⟩ rfl rfl rfl rfl rfl (by kernel_rfl) fI SJ
  (of_decide_eq_true (by kernel_rfl)) (by unfold Func.isWrapper;first|(rw[if_pos (by decide+kernel)];kernel_rfl)|(rw[if_neg (by decide+kernel)];exact⟨rfl,rfl⟩))
  (fun os started H enc _ F=>by rw[OpenClaim.pre_eq_preRow];exact Sf os started H enc F)
theorem UE(f:FuncId)(fn:Func)(hf:Tryz.pinned.checked.prog.funcNamed "strainer/strainerlaw08.ParseJoins"=some f)(hfn:Tryz.pinned.checked.prog.funcs[f]?=some fn):
 true=Tryz.pinned.checked.prog.looks []/\∀(j:Nat)t,fn.params[j]?=some t->Tryz.pinned.checked.prog.wantsStandIn t=false:=by
 obtain rfl:f=bX:=zAc.inj ((show Tryz.prog.funcNamed "strainer/strainerlaw08.ParseJoins"=some bX by kernel_rfl).symm.trans hf) |>.symm
 obtain rfl:fn=Tryz.f6:=(zAc.inj (fI.symm.trans hfn)).symm;refine⟨by kernel_rfl,fun j t ht=>?_⟩
 have hm:=Array.mem_of_getElem? ht;rw[<-Array.mem_toList_iff,show Tryz.f6.params.toList=[bm,bm] by kernel_rfl]at hm
 simp only[zAb,zAa,or_false]at hm;rcases hm with rfl|rfl
 all_goals exact(show Tryz.prog.wantsStandIn _=false by kernel_rfl)
theorem uq:Rows.ParseJoinsCardSaid:=
 Claim7.holds_tied_plain_at .later [] _ _ _ _ saidC (fun _ h=>by cases h) (by kernel_rfl) (fun _ h=>by cases h) parseJoins_row_tie rfl ⟨rfl,rfl⟩ (by kernel_rfl) rfl UE (by kernel_rfl)
end Go.Proofs.YtedmnakfknbabaaGreatDoor
