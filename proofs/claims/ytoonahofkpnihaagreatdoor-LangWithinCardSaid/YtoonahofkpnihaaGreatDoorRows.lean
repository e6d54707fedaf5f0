/-
  NARROWER THAN 'FOR EVERY INPUT', by the rows' own cells (each row's printed sentence says how): LangAllows: laid · LangExamples: laid · LangKinds: laid · LangWithin: laid · AllowNodes: loops, laid · AllowLess: loops, laid · AllowMore: loops, laid · AllowNothing: loops, laid.
  DERIVED. THE GIVEN ROWS OF THIS SEAT. 8 by the template 'for every input the law returns true; each argument reads behind the call as it read before'; 0 by the template 'total and deterministic' (their statements: YtoonahofkpnihaaGreatDoorTotals.lean).
  GIVEN WITH THE SEED: the statements are not yours to turn. If you find one false, say at which input.
  Laid BY PROGRAM, IN A SANDBOX (cutbox-rows.mjs): the forced cells as the released guide's own fill.sh prints them over the translation b1033c2c4e168838… (all of the seat's roots in one cut). By AI agents, Wed Nov 11 2026. No macro, syntax, notation, axiom, sorry.
-/
import Derived.Test.YtoonahofkpnihaaGreatDoorChecked
import GoSem.PinnedTables
import GoSem.Claim
import GoSem.ClaimJoined
import GoSem.ClaimMapViews
import Derived.JoinedTies
import Derived.KernelRfl
namespace Go.Proofs.YtoonahofkpnihaaGreatDoor
/- THE CELL 'sum', in the pinned program and in every row, IS THE sha256 OF THE DUMP (.gsa) THAT YtoonahofkpnihaaGreatDoorProg.lean LOADS. Nothing in Lean hashes anything: it is a label: what it is worth is what the hold of that sum in a sandbox is worth. -/
noncomputable def Tryz.pinned : Pinned := { name := "ytoonahofkpnihaagreatdoor", sum := "b1033c2c4e168838c5f5c7297a42cd4b96972f5ef430affd461855dd4f1f5f3b", checked := Tryz.checked }
namespace Rows
def none {H : Type} : Left H := { results := [], args := [] }

/- WHAT THE LISTED PACKAGE-LEVEL VARIABLES READ AS WHEN THE CALL BEGINS. Each datum BY PROGRAM (the guide's laid-datum.mjs) off the statement by which the dump's own 'gosem.cut.vars' lays the variable. In a bare row this is a premise. The card (YtoonahofkpnihaaGreatDoorCards.lean) ties it to the program's text. -/
def laid_math_bits_deBruijn64tab {H : Type} : DataW H := .agg [.lit (.int .u8 0), .lit (.int .u8 1), .lit (.int .u8 56), .lit (.int .u8 2), .lit (.int .u8 57), .lit (.int .u8 49), .lit (.int .u8 28), .lit (.int .u8 3), .lit (.int .u8 61), .lit (.int .u8 58), .lit (.int .u8 42), .lit (.int .u8 50), .lit (.int .u8 38), .lit (.int .u8 29), .lit (.int .u8 17), .lit (.int .u8 4), .lit (.int .u8 62), .lit (.int .u8 47), .lit (.int .u8 59), .lit (.int .u8 36), .lit (.int .u8 45), .lit (.int .u8 43), .lit (.int .u8 51), .lit (.int .u8 22), .lit (.int .u8 53), .lit (.int .u8 39), .lit (.int .u8 33), .lit (.int .u8 30), .lit (.int .u8 24), .lit (.int .u8 18), .lit (.int .u8 12), .lit (.int .u8 5), .lit (.int .u8 63), .lit (.int .u8 55), .lit (.int .u8 48), .lit (.int .u8 27), .lit (.int .u8 60), .lit (.int .u8 41), .lit (.int .u8 37), .lit (.int .u8 16), .lit (.int .u8 46), .lit (.int .u8 35), .lit (.int .u8 44), .lit (.int .u8 21), .lit (.int .u8 52), .lit (.int .u8 32), .lit (.int .u8 23), .lit (.int .u8 11), .lit (.int .u8 54), .lit (.int .u8 26), .lit (.int .u8 40), .lit (.int .u8 15), .lit (.int .u8 34), .lit (.int .u8 20), .lit (.int .u8 31), .lit (.int .u8 10), .lit (.int .u8 25), .lit (.int .u8 14), .lit (.int .u8 19), .lit (.int .u8 9), .lit (.int .u8 13), .lit (.int .u8 8), .lit (.int .u8 7), .lit (.int .u8 6)]
def laid_unicode_utf8_acceptRanges {H : Type} : DataW H := .agg [.agg [.lit (.int .u8 128), .lit (.int .u8 191)], .agg [.lit (.int .u8 160), .lit (.int .u8 191)], .agg [.lit (.int .u8 128), .lit (.int .u8 159)], .agg [.lit (.int .u8 144), .lit (.int .u8 191)], .agg [.lit (.int .u8 128), .lit (.int .u8 143)], .agg [.lit (.int .u8 0), .lit (.int .u8 0)], .agg [.lit (.int .u8 0), .lit (.int .u8 0)], .agg [.lit (.int .u8 0), .lit (.int .u8 0)], .agg [.lit (.int .u8 0), .lit (.int .u8 0)], .agg [.lit (.int .u8 0), .lit (.int .u8 0)], .agg [.lit (.int .u8 0), .lit (.int .u8 0)], .agg [.lit (.int .u8 0), .lit (.int .u8 0)], .agg [.lit (.int .u8 0), .lit (.int .u8 0)], .agg [.lit (.int .u8 0), .lit (.int .u8 0)], .agg [.lit (.int .u8 0), .lit (.int .u8 0)], .agg [.lit (.int .u8 0), .lit (.int .u8 0)]]
/-- One of Go's own tables, pinned by name: the form's constant. -/
def laid_unicode_utf8_first : DataW Unit := Go.Pinned.utf8First

/-- 'strainerlaw12.LangAllows': WHATEVER THE INPUT: true; the input reads as it did. -/
def langAllowsSpec : ChangeSpec := { name := "langAllows", fn := fun _ => fun
  | [d1, d2] => { results := [.lit (.bool true)], args := [d1, d2] }
  | _ => none }
def langAllowsRow : OpenClaim := { program := "ytoonahofkpnihaagreatdoor", sum := "b1033c2c4e168838c5f5c7297a42cd4b96972f5ef430affd461855dd4f1f5f3b", func := "strainer/strainerlaw12.LangAllows", spec := "langAllows", inPlace := ["internal/bytealg.IndexByteString", "internal/bytealg.IndexString"], unfollowed := true, recurses := true, named := ["math/bits.deBruijn64tab", "internal/bytealg.MaxLen"], plainKeys := false, apart := false, laid := [("math/bits.deBruijn64tab", laid_math_bits_deBruijn64tab)] }
def LangAllowsSaid : Prop := langAllowsRow.holds Tryz.pinned (OpenSpec.ofChange langAllowsSpec)

/-- ITS FALSE NEIGHBOUR: 'it returns false'. Refute it at one input. -/
def langAllowsWrong : ChangeSpec := { name := "langAllows", fn := fun _ => fun
  | [d1, d2] => { results := [.lit (.bool false)], args := [d1, d2] }
  | _ => none }
def LangAllowsWrongFalsely : Prop := langAllowsRow.holds Tryz.pinned (OpenSpec.ofChange langAllowsWrong)

/-- 'strainerlaw12.LangExamples': WHATEVER THE INPUT: true; the input reads as it did. -/
def langExamplesSpec : ChangeSpec := { name := "langExamples", fn := fun _ => fun
  | [d1, d2] => { results := [.lit (.bool true)], args := [d1, d2] }
  | _ => none }
def langExamplesRow : OpenClaim := { program := "ytoonahofkpnihaagreatdoor", sum := "b1033c2c4e168838c5f5c7297a42cd4b96972f5ef430affd461855dd4f1f5f3b", func := "strainer/strainerlaw12.LangExamples", spec := "langExamples", inPlace := ["internal/bytealg.IndexByteString", "internal/bytealg.IndexString"], unfollowed := true, recurses := true, named := ["math/bits.deBruijn64tab", "internal/bytealg.MaxLen"], plainKeys := false, apart := false, laid := [("math/bits.deBruijn64tab", laid_math_bits_deBruijn64tab)] }
def LangExamplesSaid : Prop := langExamplesRow.holds Tryz.pinned (OpenSpec.ofChange langExamplesSpec)

/-- ITS FALSE NEIGHBOUR: 'it returns false'. Refute it at one input. -/
def langExamplesWrong : ChangeSpec := { name := "langExamples", fn := fun _ => fun
  | [d1, d2] => { results := [.lit (.bool false)], args := [d1, d2] }
  | _ => none }
def LangExamplesWrongFalsely : Prop := langExamplesRow.holds Tryz.pinned (OpenSpec.ofChange langExamplesWrong)

/-- 'strainerlaw12.LangKinds': WHATEVER THE INPUT: true; the input reads as it did. -/
def langKindsSpec : ChangeSpec := { name := "langKinds", fn := fun _ => fun
  | [d1, d2] => { results := [.lit (.bool true)], args := [d1, d2] }
  | _ => none }
def langKindsRow : OpenClaim := { program := "ytoonahofkpnihaagreatdoor", sum := "b1033c2c4e168838c5f5c7297a42cd4b96972f5ef430affd461855dd4f1f5f3b", func := "strainer/strainerlaw12.LangKinds", spec := "langKinds", inPlace := ["internal/bytealg.IndexByteString", "internal/bytealg.IndexString"], unfollowed := true, recurses := true, named := ["math/bits.deBruijn64tab", "internal/bytealg.MaxLen"], plainKeys := false, apart := false, laid := [("math/bits.deBruijn64tab", laid_math_bits_deBruijn64tab)] }
def LangKindsSaid : Prop := langKindsRow.holds Tryz.pinned (OpenSpec.ofChange langKindsSpec)

/-- ITS FALSE NEIGHBOUR: 'it returns false'. Refute it at one input. -/
def langKindsWrong : ChangeSpec := { name := "langKinds", fn := fun _ => fun
  | [d1, d2] => { results := [.lit (.bool false)], args := [d1, d2] }
  | _ => none }
def LangKindsWrongFalsely : Prop := langKindsRow.holds Tryz.pinned (OpenSpec.ofChange langKindsWrong)

/-- 'strainerlaw12.LangWithin': WHATEVER THE INPUT: true; the input reads as it did. -/
def langWithinSpec : ChangeSpec := { name := "langWithin", fn := fun _ => fun
  | [d1, d2, d3] => { results := [.lit (.bool true)], args := [d1, d2, d3] }
  | _ => none }
def langWithinRow : OpenClaim := { program := "ytoonahofkpnihaagreatdoor", sum := "b1033c2c4e168838c5f5c7297a42cd4b96972f5ef430affd461855dd4f1f5f3b", func := "strainer/strainerlaw12.LangWithin", spec := "langWithin", inPlace := ["internal/bytealg.IndexByteString", "internal/bytealg.IndexString"], unfollowed := true, recurses := true, named := ["math/bits.deBruijn64tab", "internal/bytealg.MaxLen"], plainKeys := false, apart := false, laid := [("math/bits.deBruijn64tab", laid_math_bits_deBruijn64tab)] }
def LangWithinSaid : Prop := langWithinRow.holds Tryz.pinned (OpenSpec.ofChange langWithinSpec)

/-- ITS FALSE NEIGHBOUR: 'it returns false'. Refute it at one input. -/
def langWithinWrong : ChangeSpec := { name := "langWithin", fn := fun _ => fun
  | [d1, d2, d3] => { results := [.lit (.bool false)], args := [d1, d2, d3] }
  | _ => none }
def LangWithinWrongFalsely : Prop := langWithinRow.holds Tryz.pinned (OpenSpec.ofChange langWithinWrong)

/-- 'strainerlaw15.AllowNodes': WHATEVER THE INPUT: true; the input reads as it did. -/
def allowNodesSpec : ChangeSpec := { name := "allowNodes", fn := fun _ => fun
  | [d1, d2] => { results := [.lit (.bool true)], args := [d1, d2] }
  | _ => none }
def allowNodesRow : OpenClaim := { program := "ytoonahofkpnihaagreatdoor", sum := "b1033c2c4e168838c5f5c7297a42cd4b96972f5ef430affd461855dd4f1f5f3b", func := "strainer/strainerlaw15.AllowNodes", spec := "allowNodes", inPlace := ["internal/bytealg.IndexByteString", "internal/bytealg.IndexString"], unfollowed := true, recurses := true, named := ["unicode/utf8.first", "unicode/utf8.acceptRanges", "internal/bytealg.MaxLen"], loops := true, plainKeys := false, apart := false, laid := [("unicode/utf8.acceptRanges", laid_unicode_utf8_acceptRanges), ("unicode/utf8.first", laid_unicode_utf8_first)] }
def AllowNodesSaid : Prop := allowNodesRow.holds Tryz.pinned (OpenSpec.ofChange allowNodesSpec)

/-- ITS FALSE NEIGHBOUR: 'it returns false'. Refute it at one input. -/
def allowNodesWrong : ChangeSpec := { name := "allowNodes", fn := fun _ => fun
  | [d1, d2] => { results := [.lit (.bool false)], args := [d1, d2] }
  | _ => none }
def AllowNodesWrongFalsely : Prop := allowNodesRow.holds Tryz.pinned (OpenSpec.ofChange allowNodesWrong)

/-- 'strainerlaw15.AllowLess': WHATEVER THE INPUT: true; the input reads as it did. -/
def allowLessSpec : ChangeSpec := { name := "allowLess", fn := fun _ => fun
  | [d1, d2, d3] => { results := [.lit (.bool true)], args := [d1, d2, d3] }
  | _ => none }
def allowLessRow : OpenClaim := { program := "ytoonahofkpnihaagreatdoor", sum := "b1033c2c4e168838c5f5c7297a42cd4b96972f5ef430affd461855dd4f1f5f3b", func := "strainer/strainerlaw15.AllowLess", spec := "allowLess", inPlace := ["internal/bytealg.IndexByteString", "internal/bytealg.IndexString"], unfollowed := true, recurses := true, named := ["unicode/utf8.first", "unicode/utf8.acceptRanges", "internal/bytealg.MaxLen"], loops := true, plainKeys := false, apart := false, laid := [("unicode/utf8.acceptRanges", laid_unicode_utf8_acceptRanges), ("unicode/utf8.first", laid_unicode_utf8_first)] }
def AllowLessSaid : Prop := allowLessRow.holds Tryz.pinned (OpenSpec.ofChange allowLessSpec)

/-- ITS FALSE NEIGHBOUR: 'it returns false'. Refute it at one input. -/
def allowLessWrong : ChangeSpec := { name := "allowLess", fn := fun _ => fun
  | [d1, d2, d3] => { results := [.lit (.bool false)], args := [d1, d2, d3] }
  | _ => none }
def AllowLessWrongFalsely : Prop := allowLessRow.holds Tryz.pinned (OpenSpec.ofChange allowLessWrong)

/-- 'strainerlaw15.AllowMore': WHATEVER THE INPUT: true; the input reads as it did. -/
def allowMoreSpec : ChangeSpec := { name := "allowMore", fn := fun _ => fun
  | [d1, d2] => { results := [.lit (.bool true)], args := [d1, d2] }
  | _ => none }
def allowMoreRow : OpenClaim := { program := "ytoonahofkpnihaagreatdoor", sum := "b1033c2c4e168838c5f5c7297a42cd4b96972f5ef430affd461855dd4f1f5f3b", func := "strainer/strainerlaw15.AllowMore", spec := "allowMore", inPlace := ["internal/bytealg.IndexByteString", "internal/bytealg.IndexString"], unfollowed := true, recurses := true, named := ["unicode/utf8.first", "unicode/utf8.acceptRanges", "internal/bytealg.MaxLen"], loops := true, plainKeys := false, apart := false, laid := [("unicode/utf8.acceptRanges", laid_unicode_utf8_acceptRanges), ("unicode/utf8.first", laid_unicode_utf8_first)] }
def AllowMoreSaid : Prop := allowMoreRow.holds Tryz.pinned (OpenSpec.ofChange allowMoreSpec)

/-- ITS FALSE NEIGHBOUR: 'it returns false'. Refute it at one input. -/
def allowMoreWrong : ChangeSpec := { name := "allowMore", fn := fun _ => fun
  | [d1, d2] => { results := [.lit (.bool false)], args := [d1, d2] }
  | _ => none }
def AllowMoreWrongFalsely : Prop := allowMoreRow.holds Tryz.pinned (OpenSpec.ofChange allowMoreWrong)

/-- 'strainerlaw15.AllowNothing': WHATEVER THE INPUT: true; the input reads as it did. -/
def allowNothingSpec : ChangeSpec := { name := "allowNothing", fn := fun _ => fun
  | [d1, d2] => { results := [.lit (.bool true)], args := [d1, d2] }
  | _ => none }
def allowNothingRow : OpenClaim := { program := "ytoonahofkpnihaagreatdoor", sum := "b1033c2c4e168838c5f5c7297a42cd4b96972f5ef430affd461855dd4f1f5f3b", func := "strainer/strainerlaw15.AllowNothing", spec := "allowNothing", inPlace := ["internal/bytealg.IndexByteString", "internal/bytealg.IndexString"], unfollowed := true, recurses := true, named := ["unicode/utf8.first", "unicode/utf8.acceptRanges", "internal/bytealg.MaxLen"], loops := true, plainKeys := false, apart := false, laid := [("unicode/utf8.acceptRanges", laid_unicode_utf8_acceptRanges), ("unicode/utf8.first", laid_unicode_utf8_first)] }
def AllowNothingSaid : Prop := allowNothingRow.holds Tryz.pinned (OpenSpec.ofChange allowNothingSpec)

/-- ITS FALSE NEIGHBOUR: 'it returns false'. Refute it at one input. -/
def allowNothingWrong : ChangeSpec := { name := "allowNothing", fn := fun _ => fun
  | [d1, d2] => { results := [.lit (.bool false)], args := [d1, d2] }
  | _ => none }
def AllowNothingWrongFalsely : Prop := allowNothingRow.holds Tryz.pinned (OpenSpec.ofChange allowNothingWrong)

/- THE SECOND FORM. 'bulk': how many values and letters a reading holds, each counted each time it is reached (what is shared counts as often as it is met; a slice's spare places count too). A statement '..UptoSaid' is the law's where the arguments, and the package variables that the reading takes, are together of bulk at most 1048576: NARROWER than '..Said'. Prove '..Said' where nothing that the law and all that it calls make is longer than what came in: it says more and counts as full. Else prove '..UptoSaid'. A law counts once. -/
mutual
def uptoBulk {H : Type} : DataW H → Nat
  | .lit (.string bytes) => bytes.length + 1
  | .lit _ => 1
  | .nil => 1
  | .ptr d => uptoBulk d + 1
  | .slice elems spare => uptoBulkAll elems + uptoBulkAll spare + 1
  | .agg parts => uptoBulkAll parts + 1
  | .iface _ d => uptoBulk d + 1
  | .map entries => uptoBulkEntries entries + 1
  | .held _ => 1
def uptoBulkAll {H : Type} : List (DataW H) → Nat
  | [] => 0
  | d :: r => uptoBulk d + uptoBulkAll r
def uptoBulkEntries {H : Type} : List (Lit × DataW H) → Nat
  | [] => 0
  | x :: r => uptoBulkEntry x + uptoBulkEntries r
def uptoBulkEntry {H : Type} : Lit × DataW H → Nat
  | (.string bytes, d) => bytes.length + uptoBulk d + 1
  | (_, d) => uptoBulk d + 1
 end
def uptoSmall : (H : Type) → List (DataW H) → Bool := fun _ ds => decide (uptoBulkAll ds ≤ 1048576)
def OpenSpec.upto (s : _root_.Go.ChangeSpec) : _root_.Go.OpenSpec := { _root_.Go.OpenSpec.ofChange s with cond := some uptoSmall }

/-- 'strainerlaw12.LangAllows', WHERE WHAT IT READS IS OF BULK AT MOST 1048576: true; the input reads as it did. -/
def langAllowsUptoRow : OpenClaim := { program := "ytoonahofkpnihaagreatdoor", sum := "b1033c2c4e168838c5f5c7297a42cd4b96972f5ef430affd461855dd4f1f5f3b", func := "strainer/strainerlaw12.LangAllows", spec := "langAllows", inPlace := ["internal/bytealg.IndexByteString", "internal/bytealg.IndexString"], unfollowed := true, recurses := true, named := ["math/bits.deBruijn64tab", "internal/bytealg.MaxLen"], plainKeys := false, apart := false, laid := [("math/bits.deBruijn64tab", laid_math_bits_deBruijn64tab)], narrowed := true }
def LangAllowsUptoSaid : Prop := langAllowsUptoRow.holds Tryz.pinned (OpenSpec.upto langAllowsSpec)

/-- 'strainerlaw12.LangExamples', WHERE WHAT IT READS IS OF BULK AT MOST 1048576: true; the input reads as it did. -/
def langExamplesUptoRow : OpenClaim := { program := "ytoonahofkpnihaagreatdoor", sum := "b1033c2c4e168838c5f5c7297a42cd4b96972f5ef430affd461855dd4f1f5f3b", func := "strainer/strainerlaw12.LangExamples", spec := "langExamples", inPlace := ["internal/bytealg.IndexByteString", "internal/bytealg.IndexString"], unfollowed := true, recurses := true, named := ["math/bits.deBruijn64tab", "internal/bytealg.MaxLen"], plainKeys := false, apart := false, laid := [("math/bits.deBruijn64tab", laid_math_bits_deBruijn64tab)], narrowed := true }
def LangExamplesUptoSaid : Prop := langExamplesUptoRow.holds Tryz.pinned (OpenSpec.upto langExamplesSpec)

/-- 'strainerlaw12.LangKinds', WHERE WHAT IT READS IS OF BULK AT MOST 1048576: true; the input reads as it did. -/
def langKindsUptoRow : OpenClaim := { program := "ytoonahofkpnihaagreatdoor", sum := "b1033c2c4e168838c5f5c7297a42cd4b96972f5ef430affd461855dd4f1f5f3b", func := "strainer/strainerlaw12.LangKinds", spec := "langKinds", inPlace := ["internal/bytealg.IndexByteString", "internal/bytealg.IndexString"], unfollowed := true, recurses := true, named := ["math/bits.deBruijn64tab", "internal/bytealg.MaxLen"], plainKeys := false, apart := false, laid := [("math/bits.deBruijn64tab", laid_math_bits_deBruijn64tab)], narrowed := true }
def LangKindsUptoSaid : Prop := langKindsUptoRow.holds Tryz.pinned (OpenSpec.upto langKindsSpec)

/-- 'strainerlaw12.LangWithin', WHERE WHAT IT READS IS OF BULK AT MOST 1048576: true; the input reads as it did. -/
def langWithinUptoRow : OpenClaim := { program := "ytoonahofkpnihaagreatdoor", sum := "b1033c2c4e168838c5f5c7297a42cd4b96972f5ef430affd461855dd4f1f5f3b", func := "strainer/strainerlaw12.LangWithin", spec := "langWithin", inPlace := ["internal/bytealg.IndexByteString", "internal/bytealg.IndexString"], unfollowed := true, recurses := true, named := ["math/bits.deBruijn64tab", "internal/bytealg.MaxLen"], plainKeys := false, apart := false, laid := [("math/bits.deBruijn64tab", laid_math_bits_deBruijn64tab)], narrowed := true }
def LangWithinUptoSaid : Prop := langWithinUptoRow.holds Tryz.pinned (OpenSpec.upto langWithinSpec)

/-- 'strainerlaw15.AllowNodes', WHERE WHAT IT READS IS OF BULK AT MOST 1048576: true; the input reads as it did. -/
def allowNodesUptoRow : OpenClaim := { program := "ytoonahofkpnihaagreatdoor", sum := "b1033c2c4e168838c5f5c7297a42cd4b96972f5ef430affd461855dd4f1f5f3b", func := "strainer/strainerlaw15.AllowNodes", spec := "allowNodes", inPlace := ["internal/bytealg.IndexByteString", "internal/bytealg.IndexString"], unfollowed := true, recurses := true, named := ["unicode/utf8.first", "unicode/utf8.acceptRanges", "internal/bytealg.MaxLen"], loops := true, plainKeys := false, apart := false, laid := [("unicode/utf8.acceptRanges", laid_unicode_utf8_acceptRanges), ("unicode/utf8.first", laid_unicode_utf8_first)], narrowed := true }
def AllowNodesUptoSaid : Prop := allowNodesUptoRow.holds Tryz.pinned (OpenSpec.upto allowNodesSpec)

/-- 'strainerlaw15.AllowLess', WHERE WHAT IT READS IS OF BULK AT MOST 1048576: true; the input reads as it did. -/
def allowLessUptoRow : OpenClaim := { program := "ytoonahofkpnihaagreatdoor", sum := "b1033c2c4e168838c5f5c7297a42cd4b96972f5ef430affd461855dd4f1f5f3b", func := "strainer/strainerlaw15.AllowLess", spec := "allowLess", inPlace := ["internal/bytealg.IndexByteString", "internal/bytealg.IndexString"], unfollowed := true, recurses := true, named := ["unicode/utf8.first", "unicode/utf8.acceptRanges", "internal/bytealg.MaxLen"], loops := true, plainKeys := false, apart := false, laid := [("unicode/utf8.acceptRanges", laid_unicode_utf8_acceptRanges), ("unicode/utf8.first", laid_unicode_utf8_first)], narrowed := true }
def AllowLessUptoSaid : Prop := allowLessUptoRow.holds Tryz.pinned (OpenSpec.upto allowLessSpec)

/-- 'strainerlaw15.AllowMore', WHERE WHAT IT READS IS OF BULK AT MOST 1048576: true; the input reads as it did. -/
def allowMoreUptoRow : OpenClaim := { program := "ytoonahofkpnihaagreatdoor", sum := "b1033c2c4e168838c5f5c7297a42cd4b96972f5ef430affd461855dd4f1f5f3b", func := "strainer/strainerlaw15.AllowMore", spec := "allowMore", inPlace := ["internal/bytealg.IndexByteString", "internal/bytealg.IndexString"], unfollowed := true, recurses := true, named := ["unicode/utf8.first", "unicode/utf8.acceptRanges", "internal/bytealg.MaxLen"], loops := true, plainKeys := false, apart := false, laid := [("unicode/utf8.acceptRanges", laid_unicode_utf8_acceptRanges), ("unicode/utf8.first", laid_unicode_utf8_first)], narrowed := true }
def AllowMoreUptoSaid : Prop := allowMoreUptoRow.holds Tryz.pinned (OpenSpec.upto allowMoreSpec)

/-- 'strainerlaw15.AllowNothing', WHERE WHAT IT READS IS OF BULK AT MOST 1048576: true; the input reads as it did. -/
def allowNothingUptoRow : OpenClaim := { program := "ytoonahofkpnihaagreatdoor", sum := "b1033c2c4e168838c5f5c7297a42cd4b96972f5ef430affd461855dd4f1f5f3b", func := "strainer/strainerlaw15.AllowNothing", spec := "allowNothing", inPlace := ["internal/bytealg.IndexByteString", "internal/bytealg.IndexString"], unfollowed := true, recurses := true, named := ["unicode/utf8.first", "unicode/utf8.acceptRanges", "internal/bytealg.MaxLen"], loops := true, plainKeys := false, apart := false, laid := [("unicode/utf8.acceptRanges", laid_unicode_utf8_acceptRanges), ("unicode/utf8.first", laid_unicode_utf8_first)], narrowed := true }
def AllowNothingUptoSaid : Prop := allowNothingUptoRow.holds Tryz.pinned (OpenSpec.upto allowNothingSpec)

end Rows
end Go.Proofs.YtoonahofkpnihaaGreatDoor
