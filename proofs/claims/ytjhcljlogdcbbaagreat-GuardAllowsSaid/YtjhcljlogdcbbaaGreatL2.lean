/-
  GuardAllows holds: of nodes that a policy allows, the guard allows just those that are not dangerous. No condition beyond the row's own.
-/
import Derived.Test.YtjhcljlogdcbbaaGreatRows
import Derived.Test.YtjhcljlogdcbbaaGreatF28
import Derived.WalkKit
import Derived.ProofKit
import Derived.OpenShut
namespace Go.Proofs.YtjhcljlogdcbbaaGreat
open Go.ChangeShapes Go.WideShapes Go.ChangeAt Go.RowKit Go.Abs

theorem own : ownKnob Tryz.prog.godebug = none := by kernel_rfl
theorem laidOut : laidOutB Tryz.prog = true := by kernel_rfl
def tyS : List TypeId := [ty_bool, ty_int, ty_string, ty_Istring, ty_api_Attr, ty_Iapi_Attr, ty_api_Constraint, ty_api_Rule, ty_Iapi_Rule, ty_api_Allowed, ty_Iapi_Allowed, ty_api_Policy, ty_api_Node, ty_Iapi_Node]
theorem tyS_plain : tyS.all (plainTy Tryz.prog tyS) = true := by kernel_rfl
set_option maxRecDepth 100000 in
theorem guardAllows_lifted (os : Os) (started : os.Started) (H : Type) (enc : TypeId × Value → H) :
    ReturnsInHanded {} Tryz.checked os n_law21_GuardAllows .any (Rows.guardAllowsSpec.pre6 enc Tryz.prog Tryz.f4 Rows.guardAllowsRow.domain false) (Rows.guardAllowsSpec.post enc Tryz.prog Tryz.f4 false true false false) := by
  refine returnsInHanded_of_change_sized (C := Tryz.checked) own started (by kernel_rfl) h_law21_GuardAllows
    (ChangeSpec.witness6 (enc := enc) (C := Tryz.checked) false ⟨#[], #[.agg #[.slice none 0 0, .slice none 0 0, .slice none 0 0], .slice none 0 0], []⟩ 8 (by kernel_rfl) (by kernel_rfl) (by kernel_rfl) (by kernel_rfl)) ?_
  intro W base args ds gs before hval hW _ hwt _
  refine law_calls (S := tyS) tyS_plain laidOut (tb := ty_bool) rfl ?_ (by kernel_rfl) (by kernel_rfl) ?_ hval hW hwt ?_
  · intro ds hds
    match ds, hds with
    | [d1, d2], _ => rfl
  · rw [show Tryz.f4.params.toList = [ty_api_Policy, ty_Iapi_Node] by kernel_rfl]
    intro t ht
    simp only [List.mem_cons, List.not_mem_nil, or_false] at ht
    rcases ht with rfl | rfl
    · exact ⟨by decide, by kernel_rfl, of_decide_eq_true (by kernel_rfl)⟩
    · exact ⟨by decide, by kernel_rfl, of_decide_eq_true (by kernel_rfl)⟩
  · rw [show Tryz.f4.params.toList = [ty_api_Policy, ty_Iapi_Node] by kernel_rfl]
    intro us hus
    obtain ⟨a, b, rfl, ha, hb⟩ := hus.two
    obtain ⟨p, rfl, hp⟩ := of_policy ha
    obtain ⟨l, rfl, hl⟩ := of_nodes hb
    refine f_law21_GuardAllows p l fun e he r hr => ?_
    have := ((hp.2.2.1 e he).2.2.2.1 r hr).2.2.2
    exact Nat.le_trans this (by decide)

theorem guardAllows_holds : Rows.GuardAllowsSaid :=
  OpenClaim.holds_of_wide n_law21_GuardAllows Tryz.f4 rfl rfl rfl rfl rfl rfl rfl ⟨rfl, rfl, rfl, rfl, rfl⟩ rfl rfl rfl rfl rfl (by kernel_rfl) h_law21_GuardAllows (by kernel_rfl)
    (of_decide_eq_true (by kernel_rfl)) (by unfold Func.isWrapper; first | (rw [if_pos (by decide +kernel)]; kernel_rfl) | (rw [if_neg (by decide +kernel)]; exact ⟨rfl, rfl⟩))
    (fun os started H enc _ => guardAllows_lifted os started H enc)
end Go.Proofs.YtjhcljlogdcbbaaGreat
