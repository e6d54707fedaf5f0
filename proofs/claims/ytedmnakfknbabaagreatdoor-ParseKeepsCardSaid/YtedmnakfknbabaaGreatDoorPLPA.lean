/- ParseKeeps holds, and its card. No condition. -/
import Derived.Test.YtedmnakfknbabaaGreatDoorCards
import Derived.Test.YtedmnakfknbabaaGreatDoorTie
import Derived.Test.YtedmnakfknbabaaGreatDoorPW0
import Derived.Test.YtedmnakfknbabaaGreatDoorPB38
import Derived.WalkKit
import Derived.ProofKit
import Derived.OpenShut
set_option linter.all false
set_option maxHeartbeats 0
open List renaming mem_cons→zAh,not_mem_nil→zAj
open Option renaming some→zBe
section
set_option maxRecDepth 100000
namespace Go.Proofs.YtedmnakfknbabaaGreatDoor
open Go.ChangeShapes Go.WideShapes Go.ChangeAt Go.RowKit Go.Abs Go.Abs.F
theorem MI(H:Type)(enc:TypeId×Value->H)(W:World)(base:Nat)(args:Array Value)(ds gs:List (DataW H))(before:List MemPlace)
 (hval:∀(j:Nat)t v,Tryz.f4.params[j]?=some t->args[j]?=some v->Value.okWide Tryz.prog W .any base t v)
 (hW:DataW.Whole enc Tryz.prog Tryz.f4.params.toList Rows.parseKeepsSpec.vars false W args.toList ds gs before) (hL:laidMet Tryz.prog Rows.parseKeepsRow.laid W) (hS:W.ShapedOpen Tryz.prog)
 (hwt:(DataW.weightsEach Tryz.prog (Tryz.f4.params.toList++Rows.parseKeepsSpec.plain.varTypes Tryz.prog) (ds++gs)).all (·<=reachBytes)=true):
 Calls Tryz.prog bW args W fun e W'=>∃v,e=.returned v/\Rows.parseKeepsSpec.post enc Tryz.prog Tryz.f4 false true false false W args v W':=by
 refine uB (S:=tyS) uc Dr (tb:=sb) rfl ?_ (by kernel_rfl) (by kernel_rfl) ?_ hval hW hwt (NT hL hS) ?_
 ·intro ds hds
  match ds,hds with
  |[da],_=>rfl
 ·rw[show Tryz.f4.params.toList=[bm] by kernel_rfl]
  intro t ht;simp only[zAh,zAj,or_false]at ht;rcases ht with rfl
  all_goals exact⟨by decide,by kernel_rfl,of_decide_eq_true (by kernel_rfl)⟩
 ·rw[show Tryz.f4.params.toList=[bm] by kernel_rfl]
  intro us hus;obtain⟨a,rfl,ha⟩:=hus.one;obtain⟨la,rfl,qa,_⟩:=xZ ha;exact rM la
def Tk(g:Nat)(h:Array Obj):Array Obj:=h.modify g fun
 | .cells _ t frozen=>.cells ((GLt g).map fun(n:Nat)=>Value.int .u8 n).toArray t frozen
 |o=>o
noncomputable def rj(os:Os):World:=
 { World.holding Tryz.prog os ⟨#[],#[],[]⟩with heap:=Tk (Fx.g 4) (Tk (Fx.g 3) (World.holding Tryz.prog os ⟨#[],#[],[]⟩).heap) }
theorem L4(os:Os):laidMet Tryz.prog Rows.parseKeepsRow.laid ((rj os).forCall (fun _ _=>0) ⟨#[],#[.slice none 0 0],[]⟩).memory:=
 laidMet_of_run' 16 (by kernel_rfl) (by kernel_rfl)
theorem UC(os:Os){H:Type}(enc:TypeId×Value->H):∃ds places,DataW.whole enc Tryz.prog ((rj os).forCall (fun _ _=>0) ⟨#[],#[.slice none 0 0],[]⟩).memory Tryz.f4.params.toList Rows.parseKeepsSpec.vars false (#[.slice none 0 0]:Array Value).toList 8=some (ds,[],places):=
 ⟨[.nil],[],by kernel_rfl⟩
set_option maxRecDepth 100000 in
theorem Sh(os:Os)(started:os.Started)(H:Type)(enc:TypeId×Value->H)(F:Stop.Interp):
 ReturnsInHanded {} Tryz.checked os bW .any ((OpenSpec.ofChange Rows.parseKeepsSpec).preRow enc Tryz.prog Tryz.f4 Rows.parseKeepsRow.domain false Rows.parseKeepsRow.laid) (((OpenSpec.ofChange Rows.parseKeepsSpec).at F).post enc Tryz.prog Tryz.f4 false true false false):=by
 obtain⟨ds,places,hx⟩:=UC os enc
 refine returnsInHanded_of_row (C:=Tryz.checked) (s:=OpenSpec.ofChange Rows.parseKeepsSpec) own started (by kernel_rfl) fH
  (witness_row_at (enc:=enc) (C:=Tryz.checked) false (rj os) #[.slice none 0 0] rfl (by kernel_rfl) (by kernel_rfl) (by kernel_rfl)
    (OpenSpec.preRow_of_cond 8 hx (by kernel_rfl) (fun k hk=>by cases hk) (by kernel_rfl) (L4 os))) ?_
 intro W base args ds gs before hval hW _ _ hwt hL hS _;exact MI H enc W base args ds gs before hval hW hL hS hwt
theorem vb{a b:Bool}(h:a=true)(k:b=true):(a&&b)=true:=by rw[h,k];rfl
theorem I0:(Rows.parseKeepsRow.inPlace == Tryz.prog.inPlace 4)=true:=by kernel_rfl
theorem Af:(Rows.parseKeepsRow.unfollowed == Tryz.prog.unfollowed 4)=true:=by kernel_rfl
theorem Ge:(Rows.parseKeepsRow.recurses == Tryz.prog.recurses 4)=true:=by kernel_rfl
theorem OY:(Rows.parseKeepsRow.named == Tryz.prog.varsNamed 4)=true:=by kernel_rfl
theorem SL:joinedFacts Tryz.prog 4 Tryz.f4 (OpenSpec.ofChange Rows.parseKeepsSpec).bare Rows.parseKeepsRow=true:=by
 unfold joinedFacts
 iterate 19 refine vb ?_ (by kernel_rfl)
 refine vb (vb (vb (vb ?_ I0) Af) Ge) OY
 iterate 8 refine vb ?_ (by kernel_rfl)
 kernel_rfl
theorem saidA:Rows.ParseKeepsSaid:=
 OpenClaim.holds_of_cond bW Tryz.f4 rfl rfl rfl rfl rfl rfl rfl ⟨rfl,rfl,rfl,rfl,rfl⟩ rfl rfl rfl rfl rfl (by kernel_rfl) fH SL
  (of_decide_eq_true (by kernel_rfl)) (by unfold Func.isWrapper;first|(rw[if_pos (by decide+kernel)];kernel_rfl)|(rw[if_neg (by decide+kernel)];exact⟨rfl,rfl⟩))
  (fun os started H enc _ F=>by rw[OpenClaim.pre_eq_preRow];exact Sh os started H enc F)
theorem UG(f:FuncId)(fn:Func)(hf:Tryz.pinned.checked.prog.funcNamed "strainer/strainerlaw08.ParseKeeps"=some f)(hfn:Tryz.pinned.checked.prog.funcs[f]?=some fn):
 true=Tryz.pinned.checked.prog.looks []/\∀(j:Nat)t,fn.params[j]?=some t->Tryz.pinned.checked.prog.wantsStandIn t=false:=by
 obtain rfl:f=bW:=zBe.inj ((show Tryz.prog.funcNamed "strainer/strainerlaw08.ParseKeeps"=some bW by kernel_rfl).symm.trans hf) |>.symm
 obtain rfl:fn=Tryz.f4:=(zBe.inj (fH.symm.trans hfn)).symm;refine⟨by kernel_rfl,fun j t ht=>?_⟩
 have hm:=Array.mem_of_getElem? ht;rw[<-Array.mem_toList_iff,show Tryz.f4.params.toList=[bm] by kernel_rfl]at hm
 simp only[zAh,zAj,or_false]at hm;rcases hm with rfl
 all_goals exact(show Tryz.prog.wantsStandIn _=false by kernel_rfl)
theorem uo:Rows.ParseKeepsCardSaid:=
 Claim7.holds_tied_plain_at .later [] _ _ _ _ saidA (fun _ h=>by cases h) (by kernel_rfl) (fun _ h=>by cases h) parseKeeps_row_tie rfl ⟨rfl,rfl⟩ (by kernel_rfl) rfl UG (by kernel_rfl)
end Go.Proofs.YtedmnakfknbabaaGreatDoor
end
