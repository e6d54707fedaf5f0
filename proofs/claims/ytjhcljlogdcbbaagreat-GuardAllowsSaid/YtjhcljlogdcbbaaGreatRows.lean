/-
  NARROWER THAN 'FOR EVERY INPUT', by the rows' own cells (each row's printed sentence says how): GuardMeek: loops · GuardAllows: loops.
  DERIVED. THE GIVEN ROWS OF THIS SEAT. 2 by the template 'for every input the law returns true; each argument reads behind the call as it read before'; 0 by the template 'total and deterministic' (their statements: YtjhcljlogdcbbaaGreatTotals.lean).
  GIVEN WITH THE SEED: the statements are not yours to turn. If you find one false, say at which input.
  Laid BY PROGRAM, IN A SANDBOX (cutbox-rows.mjs): the forced cells as the released guide's own fill.sh prints them over the translation ce52862bd92ba7f7… (all of the seat's roots in one cut). By AI agents, Wed Nov 11 2026. No macro, syntax, notation, axiom, sorry.
-/
import Derived.Test.YtjhcljlogdcbbaaGreatChecked
import GoSem.Claim
import GoSem.ClaimJoined
import GoSem.ClaimMapViews
import Derived.JoinedTies
import Derived.KernelRfl
namespace Go.Proofs.YtjhcljlogdcbbaaGreat
/- THE CELL 'sum', in the pinned program and in every row, IS THE sha256 OF THE DUMP (.gsa) THAT YtjhcljlogdcbbaaGreatProg.lean LOADS. Nothing in Lean hashes anything: it is a label: what it is worth is what the hold of that sum in a sandbox is worth. -/
noncomputable def Tryz.pinned : Pinned := { name := "ytjhcljlogdcbbaagreat", sum := "ce52862bd92ba7f757ace94a9aa1fcbf1b88fe1fd8834f2969e0bac22690d092", checked := Tryz.checked }
namespace Rows
def none {H : Type} : Left H := { results := [], args := [] }

/-- 'strainerlaw21.GuardMeek': WHATEVER THE INPUT: true; the input reads as it did. -/
def guardMeekSpec : ChangeSpec := { name := "guardMeek", fn := fun _ => fun
  | [d1, d2] => { results := [.lit (.bool true)], args := [d1, d2] }
  | _ => none }
def guardMeekRow : OpenClaim := { program := "ytjhcljlogdcbbaagreat", sum := "ce52862bd92ba7f757ace94a9aa1fcbf1b88fe1fd8834f2969e0bac22690d092", func := "strainer/strainerlaw21.GuardMeek", spec := "guardMeek", inPlace := ["internal/bytealg.IndexByteString", "internal/bytealg.IndexString"], unfollowed := true, recurses := true, named := ["internal/bytealg.MaxLen"], loops := true, apart := false }
def GuardMeekSaid : Prop := guardMeekRow.holds Tryz.pinned (OpenSpec.ofChange guardMeekSpec)

/-- ITS FALSE NEIGHBOUR: 'it returns false'. Refute it at one input. -/
def guardMeekWrong : ChangeSpec := { name := "guardMeek", fn := fun _ => fun
  | [d1, d2] => { results := [.lit (.bool false)], args := [d1, d2] }
  | _ => none }
def GuardMeekWrongFalsely : Prop := guardMeekRow.holds Tryz.pinned (OpenSpec.ofChange guardMeekWrong)

/-- 'strainerlaw21.GuardAllows': WHATEVER THE INPUT: true; the input reads as it did. -/
def guardAllowsSpec : ChangeSpec := { name := "guardAllows", fn := fun _ => fun
  | [d1, d2] => { results := [.lit (.bool true)], args := [d1, d2] }
  | _ => none }
def guardAllowsRow : OpenClaim := { program := "ytjhcljlogdcbbaagreat", sum := "ce52862bd92ba7f757ace94a9aa1fcbf1b88fe1fd8834f2969e0bac22690d092", func := "strainer/strainerlaw21.GuardAllows", spec := "guardAllows", inPlace := ["internal/bytealg.IndexByteString", "internal/bytealg.IndexString"], unfollowed := true, recurses := true, named := ["internal/bytealg.MaxLen"], loops := true, apart := false }
def GuardAllowsSaid : Prop := guardAllowsRow.holds Tryz.pinned (OpenSpec.ofChange guardAllowsSpec)

/-- ITS FALSE NEIGHBOUR: 'it returns false'. Refute it at one input. -/
def guardAllowsWrong : ChangeSpec := { name := "guardAllows", fn := fun _ => fun
  | [d1, d2] => { results := [.lit (.bool false)], args := [d1, d2] }
  | _ => none }
def GuardAllowsWrongFalsely : Prop := guardAllowsRow.holds Tryz.pinned (OpenSpec.ofChange guardAllowsWrong)

/- THE SECOND FORM. 'bulk': how many values and letters a reading holds, each counted each time it is reached (what is shared counts as often as it is met; a slice's spare places count too). A statement '..UptoSaid' is the law's where the arguments, and the package variables that the reading takes, are together of bulk at most 1048576: NARROWER than '..Said'. Prove '..Said' where nothing that the law and all that it calls make is longer than what came in: it says more and counts as full. Else prove '..UptoSaid'. A law counts once. -/
mutual
def uptoBulk {H : Type} : DataW H → Nat
  | .lit (.string bytes) => bytes.length + 1
  | .lit _ => 1
  | .nil => 1
  | .ptr d => uptoBulk d + 1
  | .slice elems spare => uptoBulkAll elems + uptoBulkAll spare + 1
  | .agg parts => uptoBulkAll parts + 1
  | .iface _ d => uptoBulk d + 1
  | .map entries => uptoBulkEntries entries + 1
  | .held _ => 1
def uptoBulkAll {H : Type} : List (DataW H) → Nat
  | [] => 0
  | d :: r => uptoBulk d + uptoBulkAll r
def uptoBulkEntries {H : Type} : List (Lit × DataW H) → Nat
  | [] => 0
  | x :: r => uptoBulkEntry x + uptoBulkEntries r
def uptoBulkEntry {H : Type} : Lit × DataW H → Nat
  | (.string bytes, d) => bytes.length + uptoBulk d + 1
  | (_, d) => uptoBulk d + 1
 end
def uptoSmall : (H : Type) → List (DataW H) → Bool := fun _ ds => decide (uptoBulkAll ds ≤ 1048576)
def OpenSpec.upto (s : _root_.Go.ChangeSpec) : _root_.Go.OpenSpec := { _root_.Go.OpenSpec.ofChange s with cond := some uptoSmall }

/-- 'strainerlaw21.GuardMeek', WHERE WHAT IT READS IS OF BULK AT MOST 1048576: true; the input reads as it did. -/
def guardMeekUptoRow : OpenClaim := { program := "ytjhcljlogdcbbaagreat", sum := "ce52862bd92ba7f757ace94a9aa1fcbf1b88fe1fd8834f2969e0bac22690d092", func := "strainer/strainerlaw21.GuardMeek", spec := "guardMeek", inPlace := ["internal/bytealg.IndexByteString", "internal/bytealg.IndexString"], unfollowed := true, recurses := true, named := ["internal/bytealg.MaxLen"], loops := true, apart := false, narrowed := true }
def GuardMeekUptoSaid : Prop := guardMeekUptoRow.holds Tryz.pinned (OpenSpec.upto guardMeekSpec)

/-- 'strainerlaw21.GuardAllows', WHERE WHAT IT READS IS OF BULK AT MOST 1048576: true; the input reads as it did. -/
def guardAllowsUptoRow : OpenClaim := { program := "ytjhcljlogdcbbaagreat", sum := "ce52862bd92ba7f757ace94a9aa1fcbf1b88fe1fd8834f2969e0bac22690d092", func := "strainer/strainerlaw21.GuardAllows", spec := "guardAllows", inPlace := ["internal/bytealg.IndexByteString", "internal/bytealg.IndexString"], unfollowed := true, recurses := true, named := ["internal/bytealg.MaxLen"], loops := true, apart := false, narrowed := true }
def GuardAllowsUptoSaid : Prop := guardAllowsUptoRow.holds Tryz.pinned (OpenSpec.upto guardAllowsSpec)

end Rows
end Go.Proofs.YtjhcljlogdcbbaaGreat
