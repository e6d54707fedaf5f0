/-
  DfaTwice holds, and its card. No condition beyond the row's own.
-/
import Derived.Test.YtpblinccnkidfaaDoorCards
import Derived.Test.YtpblinccnkidfaaDoorTie
import Derived.Test.YtpblinccnkidfaaDoorD44
import Derived.WalkKit
import Derived.ProofKit
import Derived.OpenShut
set_option maxRecDepth 100000
namespace Go.Proofs.YtpblinccnkidfaaDoor
open Go.ChangeShapes Go.WideShapes Go.ChangeAt Go.RowKit Go.Abs
theorem contract (H : Type) (enc : TypeId × Value → H) (W : World) (base : Nat) (args : Array Value) (ds gs : List (DataW H)) (before : List MemPlace)
    (hval : ∀ (j : Nat) t v, Tryd.f8.params[j]? = some t → args[j]? = some v → Value.okWide Tryd.prog W .any base t v)
    (hW : DataW.Whole enc Tryd.prog Tryd.f8.params.toList Rows.dfaTwiceSpec.vars false W args.toList ds gs before) (hL : laidMet Tryd.prog Rows.dfaTwiceRow.laid W)
    (hwt : (DataW.weightsEach Tryd.prog (Tryd.f8.params.toList ++ Rows.dfaTwiceSpec.plain.varTypes Tryd.prog) (ds ++ gs)).all (· ≤ reachBytes) = true) :
    Calls Tryd.prog n_law11_DfaTwice args W fun e W' => ∃ v, e = .returned v ∧ Rows.dfaTwiceSpec.post enc Tryd.prog Tryd.f8 false true false false W args v W' := by
  refine law_calls (S := tyS) tyS_plain laidOut (tb := ty_bool) rfl ?_ (by kernel_rfl) (by kernel_rfl) ?_ hval hW hwt (table hL) ?_
  · intro ds hds
    match ds, hds with
    | [da, db], _ => rfl
  · rw [show Tryd.f8.params.toList = [ty_IIint, ty_Ibool] by kernel_rfl]
    intro t ht
    simp only [List.mem_cons, List.not_mem_nil, or_false] at ht
    rcases ht with rfl | rfl
    all_goals exact ⟨by decide, by kernel_rfl, of_decide_eq_true (by kernel_rfl)⟩
  · rw [show Tryd.f8.params.toList = [ty_IIint, ty_Ibool] by kernel_rfl]
    intro us hus
    obtain ⟨a, b, rfl, ha, hb⟩ := hus.two
    obtain ⟨ra, rfl⟩ := of_rows ha
    obtain ⟨lb, rfl⟩ := of_bools hb
    exact f_law11_DfaTwice ra lb
/-- A world for the witness: the table (block 0) holds what its initialiser lays. -/
noncomputable def laidWorld (os : Os) : World :=
  { World.holding Tryd.prog os ⟨#[], #[], []⟩ with heap := (World.holding Tryd.prog os ⟨#[], #[], []⟩).heap.modify 0 fun
      | .cells _ t frozen => .cells (tabN.map fun (n : Nat) => Value.int .u8 n).toArray t frozen
      | o => o }
theorem laid_met (os : Os) : laidMet Tryd.prog Rows.dfaTwiceRow.laid ((laidWorld os).forCall (fun _ _ => 0) ⟨#[], #[.slice none 0 0, .slice none 0 0], []⟩).memory :=
  laidMet_of_run' 8 (by kernel_rfl) (by kernel_rfl)
theorem reads (os : Os) {H : Type} (enc : TypeId × Value → H) : ∃ ds places, DataW.whole enc Tryd.prog ((laidWorld os).forCall (fun _ _ => 0) ⟨#[], #[.slice none 0 0, .slice none 0 0], []⟩).memory Tryd.f8.params.toList Rows.dfaTwiceSpec.vars false (#[.slice none 0 0, .slice none 0 0] : Array Value).toList 8 = some (ds, [], places) :=
  ⟨[.nil, .nil], [], by kernel_rfl⟩
set_option maxRecDepth 100000 in
theorem lifted (os : Os) (started : os.Started) (H : Type) (enc : TypeId × Value → H) (F : Stop.Interp) :
    ReturnsInHanded {} Tryd.checked os n_law11_DfaTwice .any ((OpenSpec.ofChange Rows.dfaTwiceSpec).preRow enc Tryd.prog Tryd.f8 Rows.dfaTwiceRow.domain false Rows.dfaTwiceRow.laid) (((OpenSpec.ofChange Rows.dfaTwiceSpec).at F).post enc Tryd.prog Tryd.f8 false true false false) := by
  obtain ⟨ds, places, hx⟩ := reads os enc
  refine returnsInHanded_of_row (C := Tryd.checked) (s := OpenSpec.ofChange Rows.dfaTwiceSpec) own started (by kernel_rfl) h_law11_DfaTwice
    (witness_row_at (enc := enc) (C := Tryd.checked) false (laidWorld os) #[.slice none 0 0, .slice none 0 0] rfl (by kernel_rfl) (by kernel_rfl) (by kernel_rfl)
      (OpenSpec.preRow_of_cond 8 hx (by kernel_rfl) (fun k hk => by cases hk) (by kernel_rfl) (laid_met os))) ?_
  intro W base args ds gs before hval hW _ _ hwt hL _ _
  exact contract H enc W base args ds gs before hval hW hL hwt
theorem said : Rows.DfaTwiceSaid :=
  OpenClaim.holds_of_cond n_law11_DfaTwice Tryd.f8 rfl rfl rfl rfl rfl rfl rfl ⟨rfl, rfl, rfl, rfl, rfl⟩ rfl rfl rfl rfl rfl (by kernel_rfl) h_law11_DfaTwice (by kernel_rfl)
    (of_decide_eq_true (by kernel_rfl)) (by unfold Func.isWrapper; first | (rw [if_pos (by decide +kernel)]; kernel_rfl) | (rw [if_neg (by decide +kernel)]; exact ⟨rfl, rfl⟩))
    (fun os started H enc _ F => by rw [OpenClaim.pre_eq_preRow]; exact lifted os started H enc F)
/-- No parameter wants a stand-in; the program's own looks are off. -/
theorem plain (f : FuncId) (fn : Func) (hf : Tryd.pinned.checked.prog.funcNamed "strainer/strainerlaw11.DfaTwice" = some f) (hfn : Tryd.pinned.checked.prog.funcs[f]? = some fn) :
    false = Tryd.pinned.checked.prog.looks [] ∧ ∀ (j : Nat) t, fn.params[j]? = some t → Tryd.pinned.checked.prog.wantsStandIn t = false := by
  obtain rfl : f = n_law11_DfaTwice := Option.some.inj ((show Tryd.prog.funcNamed "strainer/strainerlaw11.DfaTwice" = some n_law11_DfaTwice by kernel_rfl).symm.trans hf) |>.symm
  obtain rfl : fn = Tryd.f8 := (Option.some.inj (h_law11_DfaTwice.symm.trans hfn)).symm
  refine ⟨by kernel_rfl, fun j t ht => ?_⟩
  have hm := Array.mem_of_getElem? ht
  rw [← Array.mem_toList_iff, show Tryd.f8.params.toList = [ty_IIint, ty_Ibool] by kernel_rfl] at hm
  simp only [List.mem_cons, List.not_mem_nil, or_false] at hm
  rcases hm with rfl | rfl
  all_goals exact (show Tryd.prog.wantsStandIn _ = false by kernel_rfl)
theorem dfaTwice_holds : Rows.DfaTwiceCardSaid :=
  Claim7.holds_tied_plain_at .later [] _ _ _ _ said (fun _ h => by cases h) (by kernel_rfl) (fun _ h => by cases h) dfaTwice_row_tie rfl ⟨rfl, rfl⟩ (by kernel_rfl) rfl plain (by kernel_rfl)
end Go.Proofs.YtpblinccnkidfaaDoor
