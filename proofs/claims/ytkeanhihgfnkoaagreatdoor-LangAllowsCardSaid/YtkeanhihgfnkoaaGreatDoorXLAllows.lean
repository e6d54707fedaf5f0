/-
  LangAllows holds, and its card. No condition beyond the row's own.
-/
import Derived.Test.YtkeanhihgfnkoaaGreatDoorCards
import Derived.Test.YtkeanhihgfnkoaaGreatDoorTie
import Derived.Test.YtkeanhihgfnkoaaGreatDoorXG1
import Derived.WalkKit
import Derived.ProofKit
import Derived.OpenShut
set_option linter.unusedVariables false
set_option linter.unusedSimpArgs false
set_option linter.unusedSectionVars false
set_option maxRecDepth 100000
namespace Go.Proofs.YtkeanhihgfnkoaaGreatDoor
open Go.ChangeShapes Go.WideShapes Go.ChangeAt Go.RowKit Go.Abs
theorem contract (H : Type) (enc : TypeId × Value → H) (W : World) (base : Nat) (args : Array Value) (ds gs : List (DataW H)) (before : List MemPlace)
 (hval : ∀ (j : Nat) t v, Tryz.f3.params[j]? = some t → args[j]? = some v → Value.okWide Tryz.prog W .any base t v)
 (hW : DataW.Whole enc Tryz.prog Tryz.f3.params.toList Rows.langAllowsSpec.vars false W args.toList ds gs before) (hL : laidMet Tryz.prog Rows.langAllowsRow.laid W)
 (hwt : (DataW.weightsEach Tryz.prog (Tryz.f3.params.toList ++ Rows.langAllowsSpec.plain.varTypes Tryz.prog) (ds ++ gs)).all (· ≤ reachBytes) = true) :
 Calls Tryz.prog n_law12_LangAllows args W fun e W' => ∃ v, e = .returned v ∧ Rows.langAllowsSpec.post enc Tryz.prog Tryz.f3 false true false false W args v W' := by
 refine law_calls (S := tyS) tyS_plain laidOut (tb := ty_bool) rfl ?_ (by kernel_rfl) (by kernel_rfl) ?_ hval hW hwt (table hL) ?_
 · intro ds hds
   match ds, hds with
   | [da, db], _ => rfl
 · rw [show Tryz.f3.params.toList = [ty_api_Constraint, ty_string] by kernel_rfl]
   intro t ht
   simp only [List.mem_cons, List.not_mem_nil, or_false] at ht
   rcases ht with rfl | rfl
   all_goals exact ⟨by decide, by kernel_rfl, of_decide_eq_true (by kernel_rfl)⟩
 · rw [show Tryz.f3.params.toList = [ty_api_Constraint, ty_string] by kernel_rfl]
   intro us hus
   obtain ⟨a, b, rfl, ha, hb⟩ := hus.two
   obtain ⟨ca, rfl⟩ := of_constraint ha
   obtain ⟨sb, rfl⟩ := of_str hb
   exact f_law12_LangAllows ca sb
noncomputable def laidWorld (os : Os) : World :=
 { World.holding Tryz.prog os ⟨#[], #[], []⟩ with heap := (World.holding Tryz.prog os ⟨#[], #[], []⟩).heap.modify 0 fun
    | .cells _ t frozen => .cells (tabN.map fun (n : Nat) => Value.int .u8 n).toArray t frozen
    | o => o }
theorem laid_met (os : Os) : laidMet Tryz.prog Rows.langAllowsRow.laid ((laidWorld os).forCall (fun _ _ => 0) ⟨#[], #[.agg #[.int .i64 0, .slice none 0 0, .string ⟨#[]⟩], .string ⟨#[]⟩], []⟩).memory :=
 laidMet_of_run' 8 (by kernel_rfl) (by kernel_rfl)
theorem reads (os : Os) {H : Type} (enc : TypeId × Value → H) : ∃ ds places, DataW.whole enc Tryz.prog ((laidWorld os).forCall (fun _ _ => 0) ⟨#[], #[.agg #[.int .i64 0, .slice none 0 0, .string ⟨#[]⟩], .string ⟨#[]⟩], []⟩).memory Tryz.f3.params.toList Rows.langAllowsSpec.vars false (#[.agg #[.int .i64 0, .slice none 0 0, .string ⟨#[]⟩], .string ⟨#[]⟩] : Array Value).toList 8 = some (ds, [], places) :=
 ⟨[.agg [.lit (.int .i64 0), .nil, .lit (.string [])], .lit (.string [])], [], by kernel_rfl⟩
set_option maxRecDepth 100000 in
theorem lifted (os : Os) (started : os.Started) (H : Type) (enc : TypeId × Value → H) (F : Stop.Interp) :
 ReturnsInHanded {} Tryz.checked os n_law12_LangAllows .any ((OpenSpec.ofChange Rows.langAllowsSpec).preRow enc Tryz.prog Tryz.f3 Rows.langAllowsRow.domain false Rows.langAllowsRow.laid) (((OpenSpec.ofChange Rows.langAllowsSpec).at F).post enc Tryz.prog Tryz.f3 false true false false) := by
 obtain ⟨ds, places, hx⟩ := reads os enc
 refine returnsInHanded_of_row (C := Tryz.checked) (s := OpenSpec.ofChange Rows.langAllowsSpec) own started (by kernel_rfl) h_law12_LangAllows
  (witness_row_at (enc := enc) (C := Tryz.checked) false (laidWorld os) #[.agg #[.int .i64 0, .slice none 0 0, .string ⟨#[]⟩], .string ⟨#[]⟩] rfl (by kernel_rfl) (by kernel_rfl) (by kernel_rfl)
    (OpenSpec.preRow_of_cond 8 hx (by kernel_rfl) (fun k hk => by cases hk) (by kernel_rfl) (laid_met os))) ?_
 intro W base args ds gs before hval hW _ _ hwt hL _ _
 exact contract H enc W base args ds gs before hval hW hL hwt
theorem said : Rows.LangAllowsSaid :=
 OpenClaim.holds_of_cond n_law12_LangAllows Tryz.f3 rfl rfl rfl rfl rfl rfl rfl ⟨rfl, rfl, rfl, rfl, rfl⟩ rfl rfl rfl rfl rfl (by kernel_rfl) h_law12_LangAllows (by kernel_rfl)
  (of_decide_eq_true (by kernel_rfl)) (by unfold Func.isWrapper; first | (rw [if_pos (by decide +kernel)]; kernel_rfl) | (rw [if_neg (by decide +kernel)]; exact ⟨rfl, rfl⟩))
  (fun os started H enc _ F => by rw [OpenClaim.pre_eq_preRow]; exact lifted os started H enc F)
theorem plain (f : FuncId) (fn : Func) (hf : Tryz.pinned.checked.prog.funcNamed "strainer/strainerlaw12.LangAllows" = some f) (hfn : Tryz.pinned.checked.prog.funcs[f]? = some fn) :
 false = Tryz.pinned.checked.prog.looks [] ∧ ∀ (j : Nat) t, fn.params[j]? = some t → Tryz.pinned.checked.prog.wantsStandIn t = false := by
 obtain rfl : f = n_law12_LangAllows := Option.some.inj ((show Tryz.prog.funcNamed "strainer/strainerlaw12.LangAllows" = some n_law12_LangAllows by kernel_rfl).symm.trans hf) |>.symm
 obtain rfl : fn = Tryz.f3 := (Option.some.inj (h_law12_LangAllows.symm.trans hfn)).symm
 refine ⟨by kernel_rfl, fun j t ht => ?_⟩
 have hm := Array.mem_of_getElem? ht
 rw [← Array.mem_toList_iff, show Tryz.f3.params.toList = [ty_api_Constraint, ty_string] by kernel_rfl] at hm
 simp only [List.mem_cons, List.not_mem_nil, or_false] at hm
 rcases hm with rfl | rfl
 all_goals exact (show Tryz.prog.wantsStandIn _ = false by kernel_rfl)
theorem langAllows_holds : Rows.LangAllowsCardSaid :=
 Claim7.holds_tied_plain_at .later [] _ _ _ _ said (fun _ h => by cases h) (by kernel_rfl) (fun _ h => by cases h) langAllows_row_tie rfl ⟨rfl, rfl⟩ (by kernel_rfl) rfl plain (by kernel_rfl)
end Go.Proofs.YtkeanhihgfnkoaaGreatDoor
