/-
  LangWithin holds, and its card. No condition beyond the row's own.
-/
import Derived.Test.YtoonahofkpnihaaGreatDoorCards
import Derived.Test.YtoonahofkpnihaaGreatDoorTie
import Derived.Test.YtoonahofkpnihaaGreatDoorWG1
import Derived.WalkKit
import Derived.ProofKit
import Derived.OpenShut
set_option linter.unusedVariables false
set_option linter.unusedSimpArgs false
set_option linter.unusedSectionVars false
set_option maxHeartbeats 4000000
set_option maxRecDepth 100000
namespace Go.Proofs.YtoonahofkpnihaaGreatDoor
open Go.ChangeShapes Go.WideShapes Go.ChangeAt Go.RowKit Go.Abs
theorem contract (H : Type) (enc : TypeId × Value → H) (W : World) (base : Nat) (args : Array Value) (ds gs : List (DataW H)) (before : List MemPlace)
 (hval : ∀ (j : Nat) t v, Tryz.f6.params[j]? = some t → args[j]? = some v → Value.okWide Tryz.prog W .any base t v)
 (hW : DataW.Whole enc Tryz.prog Tryz.f6.params.toList Rows.langWithinSpec.vars false W args.toList ds gs before) (hL : laidMet Tryz.prog Rows.langWithinRow.laid W)
 (hwt : (DataW.weightsEach Tryz.prog (Tryz.f6.params.toList ++ Rows.langWithinSpec.plain.varTypes Tryz.prog) (ds ++ gs)).all (· ≤ reachBytes) = true) :
 Calls Tryz.prog n_law12_LangWithin args W fun e W' => ∃ v, e = .returned v ∧ Rows.langWithinSpec.post enc Tryz.prog Tryz.f6 false true false false W args v W' := by
 refine law_calls (S := tyS) tyS_plain laidOut (tb := qY) rfl ?_ (by kernel_rfl) (by kernel_rfl) ?_ hval hW hwt (table hL) ?_
 · intro ds hds
   match ds, hds with
   | [da, db, dc], _ => rfl
 · rw [show Tryz.f6.params.toList = [zH, zH, ty_string] by kernel_rfl]
   intro t ht
   simp only [List.mem_cons, List.not_mem_nil, or_false] at ht
   rcases ht with rfl | rfl | rfl
   all_goals exact ⟨by decide, by kernel_rfl, of_decide_eq_true (by kernel_rfl)⟩
 · rw [show Tryz.f6.params.toList = [zH, zH, ty_string] by kernel_rfl]
   intro us hus
   obtain ⟨a, b, c, rfl, ha, hb, hc⟩ := hus.three
   obtain ⟨ca, rfl⟩ := of_constraint ha
   obtain ⟨cb, rfl⟩ := of_constraint hb
   obtain ⟨sc, rfl⟩ := of_str hc
   exact f_law12_LangWithin ca cb sc
noncomputable def laidWorld (os : Os) : World :=
 { World.holding Tryz.prog os ⟨#[], #[], []⟩ with heap := (World.holding Tryz.prog os ⟨#[], #[], []⟩).heap.modify 0 fun
    | .cells _ t frozen => .cells (tabN.map fun (n : Nat) => Value.int .u8 n).toArray t frozen
    | o => o }
theorem laid_met (os : Os) : laidMet Tryz.prog Rows.langWithinRow.laid ((laidWorld os).forCall (fun _ _ => 0) ⟨#[], #[.agg #[.int .i64 0, .slice none 0 0, .string ⟨#[]⟩], .agg #[.int .i64 0, .slice none 0 0, .string ⟨#[]⟩], .string ⟨#[]⟩], []⟩).memory :=
 laidMet_of_run' 8 (by kernel_rfl) (by kernel_rfl)
theorem reads (os : Os) {H : Type} (enc : TypeId × Value → H) : ∃ ds places, DataW.whole enc Tryz.prog ((laidWorld os).forCall (fun _ _ => 0) ⟨#[], #[.agg #[.int .i64 0, .slice none 0 0, .string ⟨#[]⟩], .agg #[.int .i64 0, .slice none 0 0, .string ⟨#[]⟩], .string ⟨#[]⟩], []⟩).memory Tryz.f6.params.toList Rows.langWithinSpec.vars false (#[.agg #[.int .i64 0, .slice none 0 0, .string ⟨#[]⟩], .agg #[.int .i64 0, .slice none 0 0, .string ⟨#[]⟩], .string ⟨#[]⟩] : Array Value).toList 8 = some (ds, [], places) :=
 ⟨[.agg [.lit (.int .i64 0), .nil, .lit (.string [])], .agg [.lit (.int .i64 0), .nil, .lit (.string [])], .lit (.string [])], [], by kernel_rfl⟩
set_option maxRecDepth 100000 in
theorem lifted (os : Os) (started : os.Started) (H : Type) (enc : TypeId × Value → H) (F : Stop.Interp) :
 ReturnsInHanded {} Tryz.checked os n_law12_LangWithin .any ((OpenSpec.ofChange Rows.langWithinSpec).preRow enc Tryz.prog Tryz.f6 Rows.langWithinRow.domain false Rows.langWithinRow.laid) (((OpenSpec.ofChange Rows.langWithinSpec).at F).post enc Tryz.prog Tryz.f6 false true false false) := by
 obtain ⟨ds, places, hx⟩ := reads os enc
 refine returnsInHanded_of_row (C := Tryz.checked) (s := OpenSpec.ofChange Rows.langWithinSpec) own started (by kernel_rfl) h_law12_LangWithin
  (witness_row_at (enc := enc) (C := Tryz.checked) false (laidWorld os) #[.agg #[.int .i64 0, .slice none 0 0, .string ⟨#[]⟩], .agg #[.int .i64 0, .slice none 0 0, .string ⟨#[]⟩], .string ⟨#[]⟩] rfl (by kernel_rfl) (by kernel_rfl) (by kernel_rfl)
    (OpenSpec.preRow_of_cond 8 hx (by kernel_rfl) (fun k hk => by cases hk) (by kernel_rfl) (laid_met os))) ?_
 intro W base args ds gs before hval hW _ _ hwt hL _ _
 exact contract H enc W base args ds gs before hval hW hL hwt
theorem said : Rows.LangWithinSaid :=
 OpenClaim.holds_of_cond n_law12_LangWithin Tryz.f6 rfl rfl rfl rfl rfl rfl rfl ⟨rfl, rfl, rfl, rfl, rfl⟩ rfl rfl rfl rfl rfl (by kernel_rfl) h_law12_LangWithin (by kernel_rfl)
  (of_decide_eq_true (by kernel_rfl)) (by unfold Func.isWrapper; first | (rw [if_pos (by decide +kernel)]; kernel_rfl) | (rw [if_neg (by decide +kernel)]; exact ⟨rfl, rfl⟩))
  (fun os started H enc _ F => by rw [OpenClaim.pre_eq_preRow]; exact lifted os started H enc F)
theorem plain (f : FuncId) (fn : Func) (hf : Tryz.pinned.checked.prog.funcNamed "strainer/strainerlaw12.LangWithin" = some f) (hfn : Tryz.pinned.checked.prog.funcs[f]? = some fn) :
 false = Tryz.pinned.checked.prog.looks [] ∧ ∀ (j : Nat) t, fn.params[j]? = some t → Tryz.pinned.checked.prog.wantsStandIn t = false := by
 obtain rfl : f = n_law12_LangWithin := Option.some.inj ((show Tryz.prog.funcNamed "strainer/strainerlaw12.LangWithin" = some n_law12_LangWithin by kernel_rfl).symm.trans hf) |>.symm
 obtain rfl : fn = Tryz.f6 := (Option.some.inj (h_law12_LangWithin.symm.trans hfn)).symm
 refine ⟨by kernel_rfl, fun j t ht => ?_⟩
 have hm := Array.mem_of_getElem? ht
 rw [← Array.mem_toList_iff, show Tryz.f6.params.toList = [zH, zH, ty_string] by kernel_rfl] at hm
 simp only [List.mem_cons, List.not_mem_nil, or_false] at hm
 rcases hm with rfl | rfl | rfl
 all_goals exact (show Tryz.prog.wantsStandIn _ = false by kernel_rfl)
theorem langWithin_holds : Rows.LangWithinCardSaid :=
 Claim7.holds_tied_plain_at .later [] _ _ _ _ said (fun _ h => by cases h) (by kernel_rfl) (fun _ h => by cases h) langWithin_row_tie rfl ⟨rfl, rfl⟩ (by kernel_rfl) rfl plain (by kernel_rfl)
end Go.Proofs.YtoonahofkpnihaaGreatDoor
