/- ParseMay holds, and its card. No condition. -/
import Derived.Test.YtedmnakfknbabaaGreatDoorCards
import Derived.Test.YtedmnakfknbabaaGreatDoorTie
import Derived.Test.YtedmnakfknbabaaGreatDoorPW0
import Derived.Test.YtedmnakfknbabaaGreatDoorPB38
import Derived.WalkKit
import Derived.ProofKit
import Derived.OpenShut
set_option linter.all false
set_option maxHeartbeats 0
open List renaming not_mem_nil→zAa,mem_cons→zAb
open Option renaming some→zAc
set_option maxRecDepth 100000
namespace Go.Proofs.YtedmnakfknbabaaGreatDoor
open Go.ChangeShapes Go.WideShapes Go.ChangeAt Go.RowKit Go.Abs Go.Abs.F
theorem MH(H:Type)(enc:TypeId×Value->H)(W:World)(base:Nat)(args:Array Value)(ds gs:List (DataW H))(before:List MemPlace)
 (hval:∀(j:Nat)t v,Tryz.f5.params[j]?=some t->args[j]?=some v->Value.okWide Tryz.prog W .any base t v)
 (hW:DataW.Whole enc Tryz.prog Tryz.f5.params.toList Rows.parseMaySpec.vars false W args.toList ds gs before) (hL:laidMet Tryz.prog Rows.parseMayRow.laid W) (hS:W.ShapedOpen Tryz.prog)
 (hwt:(DataW.weightsEach Tryz.prog (Tryz.f5.params.toList++Rows.parseMaySpec.plain.varTypes Tryz.prog) (ds++gs)).all (·<=reachBytes)=true):
 Calls Tryz.prog cH args W fun e W'=>∃v,e=.returned v/\Rows.parseMaySpec.post enc Tryz.prog Tryz.f5 false true false false W args v W':=by
 refine uB (S:=tyS) uc Dr (tb:=sb) rfl ?_ (by kernel_rfl) (by kernel_rfl) ?_ hval hW hwt (NT hL hS) ?_
 ·intro ds hds
  match ds,hds with
  |[da],_=>rfl
 ·rw[show Tryz.f5.params.toList=[jT] by kernel_rfl]
  intro t ht;simp only[zAb,zAa,or_false]at ht;rcases ht with rfl
  all_goals exact⟨by decide,by kernel_rfl,of_decide_eq_true (by kernel_rfl)⟩
 ·rw[show Tryz.f5.params.toList=[jT] by kernel_rfl]
  intro us hus;obtain⟨a,rfl,ha⟩:=hus.one;obtain⟨ba,rfl,qa⟩:=Ow ha;exact uN ba qa
def Tj(g:Nat)(h:Array Obj):Array Obj:=h.modify g fun
 | .cells _ t frozen=>.cells ((GLt g).map fun(n:Nat)=>Value.int .u8 n).toArray t frozen
 |o=>o
noncomputable def ri(os:Os):World:=
 { World.holding Tryz.prog os ⟨#[],#[],[]⟩with heap:=Tj (Fx.g 4) (Tj (Fx.g 3) (World.holding Tryz.prog os ⟨#[],#[],[]⟩).heap) }
theorem L3(os:Os):laidMet Tryz.prog Rows.parseMayRow.laid ((ri os).forCall (fun _ _=>0) ⟨#[],#[.slice none 0 0],[]⟩).memory:=
 laidMet_of_run' 16 (by kernel_rfl) (by kernel_rfl)
theorem UB(os:Os){H:Type}(enc:TypeId×Value->H):∃ds places,DataW.whole enc Tryz.prog ((ri os).forCall (fun _ _=>0) ⟨#[],#[.slice none 0 0],[]⟩).memory Tryz.f5.params.toList Rows.parseMaySpec.vars false (#[.slice none 0 0]:Array Value).toList 8=some (ds,[],places):=
 ⟨[.nil],[],by kernel_rfl⟩
set_option maxRecDepth 100000 in
theorem Sg(os:Os)(started:os.Started)(H:Type)(enc:TypeId×Value->H)(F:Stop.Interp):
 ReturnsInHanded {} Tryz.checked os cH .any ((OpenSpec.ofChange Rows.parseMaySpec).preRow enc Tryz.prog Tryz.f5 Rows.parseMayRow.domain false Rows.parseMayRow.laid) (((OpenSpec.ofChange Rows.parseMaySpec).at F).post enc Tryz.prog Tryz.f5 false true false false):=by
 obtain⟨ds,places,hx⟩:=UB os enc
 refine returnsInHanded_of_row (C:=Tryz.checked) (s:=OpenSpec.ofChange Rows.parseMaySpec) own started (by kernel_rfl) iw
  (witness_row_at (enc:=enc) (C:=Tryz.checked) false (ri os) #[.slice none 0 0] rfl (by kernel_rfl) (by kernel_rfl) (by kernel_rfl)
    (OpenSpec.preRow_of_cond 8 hx (by kernel_rfl) (fun k hk=>by cases hk) (by kernel_rfl) (L3 os))) ?_
 intro W base args ds gs before hval hW _ _ hwt hL hS _;exact MH H enc W base args ds gs before hval hW hL hS hwt
theorem va{a b:Bool}(h:a=true)(k:b=true):(a&&b)=true:=by rw[h,k];rfl
theorem IZ:(Rows.parseMayRow.inPlace == Tryz.prog.inPlace 5)=true:=by kernel_rfl
theorem Ae:(Rows.parseMayRow.unfollowed == Tryz.prog.unfollowed 5)=true:=by kernel_rfl
theorem Gd:(Rows.parseMayRow.recurses == Tryz.prog.recurses 5)=true:=by kernel_rfl
theorem OX:(Rows.parseMayRow.named == Tryz.prog.varsNamed 5)=true:=by kernel_rfl
theorem SK:joinedFacts Tryz.prog 5 Tryz.f5 (OpenSpec.ofChange Rows.parseMaySpec).bare Rows.parseMayRow=true:=by
 unfold joinedFacts
 iterate 19 refine va ?_ (by kernel_rfl)
 refine va (va (va (va ?_ IZ) Ae) Gd) OX
 iterate 8 refine va ?_ (by kernel_rfl)
 kernel_rfl
theorem saidB:Rows.ParseMaySaid:=
 OpenClaim.holds_of_cond cH Tryz.f5 rfl rfl rfl rfl rfl rfl rfl ⟨rfl,rfl,rfl,rfl,rfl⟩ rfl rfl rfl rfl rfl (by kernel_rfl) iw SK
  (of_decide_eq_true (by kernel_rfl)) (by unfold Func.isWrapper;first|(rw[if_pos (by decide+kernel)];kernel_rfl)|(rw[if_neg (by decide+kernel)];exact⟨rfl,rfl⟩))
  (fun os started H enc _ F=>by rw[OpenClaim.pre_eq_preRow];exact Sg os started H enc F)
theorem UF(f:FuncId)(fn:Func)(hf:Tryz.pinned.checked.prog.funcNamed "strainer/strainerlaw08.ParseMay"=some f)(hfn:Tryz.pinned.checked.prog.funcs[f]?=some fn):
 true=Tryz.pinned.checked.prog.looks []/\∀(j:Nat)t,fn.params[j]?=some t->Tryz.pinned.checked.prog.wantsStandIn t=false:=by
 obtain rfl:f=cH:=zAc.inj ((show Tryz.prog.funcNamed "strainer/strainerlaw08.ParseMay"=some cH by kernel_rfl).symm.trans hf) |>.symm
 obtain rfl:fn=Tryz.f5:=(zAc.inj (iw.symm.trans hfn)).symm;refine⟨by kernel_rfl,fun j t ht=>?_⟩
 have hm:=Array.mem_of_getElem? ht;rw[<-Array.mem_toList_iff,show Tryz.f5.params.toList=[jT] by kernel_rfl]at hm
 simp only[zAb,zAa,or_false]at hm;rcases hm with rfl
 all_goals exact(show Tryz.prog.wantsStandIn _=false by kernel_rfl)
theorem xX:Rows.ParseMayCardSaid:=
 Claim7.holds_tied_plain_at .later [] _ _ _ _ saidB (fun _ h=>by cases h) (by kernel_rfl) (fun _ h=>by cases h) parseMay_row_tie rfl ⟨rfl,rfl⟩ (by kernel_rfl) rfl UF (by kernel_rfl)
end Go.Proofs.YtedmnakfknbabaaGreatDoor
