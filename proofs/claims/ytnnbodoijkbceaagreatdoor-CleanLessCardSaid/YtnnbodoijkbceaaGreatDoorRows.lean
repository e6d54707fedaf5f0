/-
  NARROWER THAN 'FOR EVERY INPUT', by the rows' own cells (each row's printed sentence says how): CleanAllows: loops, laid · CleanSettles: laid · CleanPlain: loops, laid · CleanLess: loops, laid.
  DERIVED. THE GIVEN ROWS OF THIS SEAT. 4 by the template 'for every input the law returns true; each argument reads behind the call as it read before'; 0 by the template 'total and deterministic' (their statements: YtnnbodoijkbceaaGreatDoorTotals.lean).
  GIVEN WITH THE SEED: the statements are not yours to turn. If you find one false, say at which input.
  Laid BY PROGRAM, IN A SANDBOX (cutbox-rows.mjs): the forced cells as the released guide's own fill.sh prints them over the translation f002d3a235c9b078… (all of the seat's roots in one cut). By AI agents, Wed Nov 11 2026. No macro, syntax, notation, axiom, sorry.
-/
import Derived.Test.YtnnbodoijkbceaaGreatDoorChecked
import GoSem.PinnedTables
import GoSem.Claim
import GoSem.ClaimJoined
import GoSem.ClaimMapViews
import Derived.JoinedTies
import Derived.KernelRfl
namespace Go.Proofs.YtnnbodoijkbceaaGreatDoor
/- THE CELL 'sum', in the pinned program and in every row, IS THE sha256 OF THE DUMP (.gsa) THAT YtnnbodoijkbceaaGreatDoorProg.lean LOADS. Nothing in Lean hashes anything: it is a label: what it is worth is what the hold of that sum in a sandbox is worth. -/
noncomputable def Tryz.pinned : Pinned := { name := "ytnnbodoijkbceaagreatdoor", sum := "f002d3a235c9b078dd86e7912a5840c92662e44f718ea64860a64b79e629b642", checked := Tryz.checked }
namespace Rows
def none {H : Type} : Left H := { results := [], args := [] }

/- WHAT THE LISTED PACKAGE-LEVEL VARIABLES READ AS WHEN THE CALL BEGINS. Each datum BY PROGRAM (the guide's laid-datum.mjs) off the statement by which the dump's own 'gosem.cut.vars' lays the variable. In a bare row this is a premise. The card (YtnnbodoijkbceaaGreatDoorCards.lean) ties it to the program's text. -/
def laid_unicode_utf8_acceptRanges {H : Type} : DataW H := .agg [.agg [.lit (.int .u8 128), .lit (.int .u8 191)], .agg [.lit (.int .u8 160), .lit (.int .u8 191)], .agg [.lit (.int .u8 128), .lit (.int .u8 159)], .agg [.lit (.int .u8 144), .lit (.int .u8 191)], .agg [.lit (.int .u8 128), .lit (.int .u8 143)], .agg [.lit (.int .u8 0), .lit (.int .u8 0)], .agg [.lit (.int .u8 0), .lit (.int .u8 0)], .agg [.lit (.int .u8 0), .lit (.int .u8 0)], .agg [.lit (.int .u8 0), .lit (.int .u8 0)], .agg [.lit (.int .u8 0), .lit (.int .u8 0)], .agg [.lit (.int .u8 0), .lit (.int .u8 0)], .agg [.lit (.int .u8 0), .lit (.int .u8 0)], .agg [.lit (.int .u8 0), .lit (.int .u8 0)], .agg [.lit (.int .u8 0), .lit (.int .u8 0)], .agg [.lit (.int .u8 0), .lit (.int .u8 0)], .agg [.lit (.int .u8 0), .lit (.int .u8 0)]]
/-- One of Go's own tables, pinned by name: the form's constant. -/
def laid_unicode_utf8_first : DataW Unit := Go.Pinned.utf8First

/-- 'strainerlaw16.CleanAllows': WHATEVER THE INPUT: true; the input reads as it did. -/
def cleanAllowsSpec : ChangeSpec := { name := "cleanAllows", fn := fun _ => fun
  | [d1, d2] => { results := [.lit (.bool true)], args := [d1, d2] }
  | _ => none }
def cleanAllowsRow : OpenClaim := { program := "ytnnbodoijkbceaagreatdoor", sum := "f002d3a235c9b078dd86e7912a5840c92662e44f718ea64860a64b79e629b642", func := "strainer/strainerlaw16.CleanAllows", spec := "cleanAllows", inPlace := ["internal/bytealg.IndexByteString", "internal/bytealg.IndexString", "internal/abi.NoEscape"], unfollowed := true, recurses := true, named := ["unicode/utf8.first", "unicode/utf8.acceptRanges", "internal/bytealg.MaxLen"], loops := true, apart := false, laid := [("unicode/utf8.acceptRanges", laid_unicode_utf8_acceptRanges), ("unicode/utf8.first", laid_unicode_utf8_first)] }
def CleanAllowsSaid : Prop := cleanAllowsRow.holds Tryz.pinned (OpenSpec.ofChange cleanAllowsSpec)

/-- ITS FALSE NEIGHBOUR: 'it returns false'. Refute it at one input. -/
def cleanAllowsWrong : ChangeSpec := { name := "cleanAllows", fn := fun _ => fun
  | [d1, d2] => { results := [.lit (.bool false)], args := [d1, d2] }
  | _ => none }
def CleanAllowsWrongFalsely : Prop := cleanAllowsRow.holds Tryz.pinned (OpenSpec.ofChange cleanAllowsWrong)

/-- 'strainerlaw16.CleanSettles': WHATEVER THE INPUT: true; the input reads as it did. -/
def cleanSettlesSpec : ChangeSpec := { name := "cleanSettles", fn := fun _ => fun
  | [d1, d2] => { results := [.lit (.bool true)], args := [d1, d2] }
  | _ => none }
def cleanSettlesRow : OpenClaim := { program := "ytnnbodoijkbceaagreatdoor", sum := "f002d3a235c9b078dd86e7912a5840c92662e44f718ea64860a64b79e629b642", func := "strainer/strainerlaw16.CleanSettles", spec := "cleanSettles", inPlace := ["internal/bytealg.IndexByteString", "internal/bytealg.IndexString", "internal/abi.NoEscape"], unfollowed := true, recurses := true, named := ["unicode/utf8.first", "unicode/utf8.acceptRanges", "internal/bytealg.MaxLen"], apart := false, laid := [("unicode/utf8.acceptRanges", laid_unicode_utf8_acceptRanges), ("unicode/utf8.first", laid_unicode_utf8_first)] }
def CleanSettlesSaid : Prop := cleanSettlesRow.holds Tryz.pinned (OpenSpec.ofChange cleanSettlesSpec)

/-- ITS FALSE NEIGHBOUR: 'it returns false'. Refute it at one input. -/
def cleanSettlesWrong : ChangeSpec := { name := "cleanSettles", fn := fun _ => fun
  | [d1, d2] => { results := [.lit (.bool false)], args := [d1, d2] }
  | _ => none }
def CleanSettlesWrongFalsely : Prop := cleanSettlesRow.holds Tryz.pinned (OpenSpec.ofChange cleanSettlesWrong)

/-- 'strainerlaw16.CleanPlain': WHATEVER THE INPUT: true; the input reads as it did. -/
def cleanPlainSpec : ChangeSpec := { name := "cleanPlain", fn := fun _ => fun
  | [d] => { results := [.lit (.bool true)], args := [d] }
  | _ => none }
def cleanPlainRow : OpenClaim := { program := "ytnnbodoijkbceaagreatdoor", sum := "f002d3a235c9b078dd86e7912a5840c92662e44f718ea64860a64b79e629b642", func := "strainer/strainerlaw16.CleanPlain", spec := "cleanPlain", inPlace := ["internal/bytealg.IndexByteString", "internal/bytealg.IndexString", "internal/abi.NoEscape"], unfollowed := true, recurses := true, named := ["unicode/utf8.first", "unicode/utf8.acceptRanges", "internal/bytealg.MaxLen"], loops := true, apart := false, laid := [("unicode/utf8.acceptRanges", laid_unicode_utf8_acceptRanges), ("unicode/utf8.first", laid_unicode_utf8_first)] }
def CleanPlainSaid : Prop := cleanPlainRow.holds Tryz.pinned (OpenSpec.ofChange cleanPlainSpec)

/-- ITS FALSE NEIGHBOUR: 'it returns false'. Refute it at one input. -/
def cleanPlainWrong : ChangeSpec := { name := "cleanPlain", fn := fun _ => fun
  | [d] => { results := [.lit (.bool false)], args := [d] }
  | _ => none }
def CleanPlainWrongFalsely : Prop := cleanPlainRow.holds Tryz.pinned (OpenSpec.ofChange cleanPlainWrong)

/-- 'strainerlaw16.CleanLess': WHATEVER THE INPUT: true; the input reads as it did. -/
def cleanLessSpec : ChangeSpec := { name := "cleanLess", fn := fun _ => fun
  | [d1, d2] => { results := [.lit (.bool true)], args := [d1, d2] }
  | _ => none }
def cleanLessRow : OpenClaim := { program := "ytnnbodoijkbceaagreatdoor", sum := "f002d3a235c9b078dd86e7912a5840c92662e44f718ea64860a64b79e629b642", func := "strainer/strainerlaw16.CleanLess", spec := "cleanLess", inPlace := ["internal/bytealg.IndexByteString", "internal/bytealg.IndexString", "internal/abi.NoEscape"], unfollowed := true, recurses := true, named := ["unicode/utf8.first", "unicode/utf8.acceptRanges", "internal/bytealg.MaxLen"], loops := true, apart := false, laid := [("unicode/utf8.acceptRanges", laid_unicode_utf8_acceptRanges), ("unicode/utf8.first", laid_unicode_utf8_first)] }
def CleanLessSaid : Prop := cleanLessRow.holds Tryz.pinned (OpenSpec.ofChange cleanLessSpec)

/-- ITS FALSE NEIGHBOUR: 'it returns false'. Refute it at one input. -/
def cleanLessWrong : ChangeSpec := { name := "cleanLess", fn := fun _ => fun
  | [d1, d2] => { results := [.lit (.bool false)], args := [d1, d2] }
  | _ => none }
def CleanLessWrongFalsely : Prop := cleanLessRow.holds Tryz.pinned (OpenSpec.ofChange cleanLessWrong)

/- THE SECOND FORM. 'bulk': how many values and letters a reading holds, each counted each time it is reached (what is shared counts as often as it is met; a slice's spare places count too). A statement '..UptoSaid' is the law's where the arguments, and the package variables that the reading takes, are together of bulk at most 1048576: NARROWER than '..Said'. Prove '..Said' where nothing that the law and all that it calls make is longer than what came in: it says more and counts as full. Else prove '..UptoSaid'. A law counts once. -/
mutual
def uptoBulk {H : Type} : DataW H → Nat
  | .lit (.string bytes) => bytes.length + 1
  | .lit _ => 1
  | .nil => 1
  | .ptr d => uptoBulk d + 1
  | .slice elems spare => uptoBulkAll elems + uptoBulkAll spare + 1
  | .agg parts => uptoBulkAll parts + 1
  | .iface _ d => uptoBulk d + 1
  | .map entries => uptoBulkEntries entries + 1
  | .held _ => 1
def uptoBulkAll {H : Type} : List (DataW H) → Nat
  | [] => 0
  | d :: r => uptoBulk d + uptoBulkAll r
def uptoBulkEntries {H : Type} : List (Lit × DataW H) → Nat
  | [] => 0
  | x :: r => uptoBulkEntry x + uptoBulkEntries r
def uptoBulkEntry {H : Type} : Lit × DataW H → Nat
  | (.string bytes, d) => bytes.length + uptoBulk d + 1
  | (_, d) => uptoBulk d + 1
 end
def uptoSmall : (H : Type) → List (DataW H) → Bool := fun _ ds => decide (uptoBulkAll ds ≤ 1048576)
def OpenSpec.upto (s : _root_.Go.ChangeSpec) : _root_.Go.OpenSpec := { _root_.Go.OpenSpec.ofChange s with cond := some uptoSmall }

/-- 'strainerlaw16.CleanAllows', WHERE WHAT IT READS IS OF BULK AT MOST 1048576: true; the input reads as it did. -/
def cleanAllowsUptoRow : OpenClaim := { program := "ytnnbodoijkbceaagreatdoor", sum := "f002d3a235c9b078dd86e7912a5840c92662e44f718ea64860a64b79e629b642", func := "strainer/strainerlaw16.CleanAllows", spec := "cleanAllows", inPlace := ["internal/bytealg.IndexByteString", "internal/bytealg.IndexString", "internal/abi.NoEscape"], unfollowed := true, recurses := true, named := ["unicode/utf8.first", "unicode/utf8.acceptRanges", "internal/bytealg.MaxLen"], loops := true, apart := false, laid := [("unicode/utf8.acceptRanges", laid_unicode_utf8_acceptRanges), ("unicode/utf8.first", laid_unicode_utf8_first)], narrowed := true }
def CleanAllowsUptoSaid : Prop := cleanAllowsUptoRow.holds Tryz.pinned (OpenSpec.upto cleanAllowsSpec)

/-- 'strainerlaw16.CleanSettles', WHERE WHAT IT READS IS OF BULK AT MOST 1048576: true; the input reads as it did. -/
def cleanSettlesUptoRow : OpenClaim := { program := "ytnnbodoijkbceaagreatdoor", sum := "f002d3a235c9b078dd86e7912a5840c92662e44f718ea64860a64b79e629b642", func := "strainer/strainerlaw16.CleanSettles", spec := "cleanSettles", inPlace := ["internal/bytealg.IndexByteString", "internal/bytealg.IndexString", "internal/abi.NoEscape"], unfollowed := true, recurses := true, named := ["unicode/utf8.first", "unicode/utf8.acceptRanges", "internal/bytealg.MaxLen"], apart := false, laid := [("unicode/utf8.acceptRanges", laid_unicode_utf8_acceptRanges), ("unicode/utf8.first", laid_unicode_utf8_first)], narrowed := true }
def CleanSettlesUptoSaid : Prop := cleanSettlesUptoRow.holds Tryz.pinned (OpenSpec.upto cleanSettlesSpec)

/-- 'strainerlaw16.CleanPlain', WHERE WHAT IT READS IS OF BULK AT MOST 1048576: true; the input reads as it did. -/
def cleanPlainUptoRow : OpenClaim := { program := "ytnnbodoijkbceaagreatdoor", sum := "f002d3a235c9b078dd86e7912a5840c92662e44f718ea64860a64b79e629b642", func := "strainer/strainerlaw16.CleanPlain", spec := "cleanPlain", inPlace := ["internal/bytealg.IndexByteString", "internal/bytealg.IndexString", "internal/abi.NoEscape"], unfollowed := true, recurses := true, named := ["unicode/utf8.first", "unicode/utf8.acceptRanges", "internal/bytealg.MaxLen"], loops := true, apart := false, laid := [("unicode/utf8.acceptRanges", laid_unicode_utf8_acceptRanges), ("unicode/utf8.first", laid_unicode_utf8_first)], narrowed := true }
def CleanPlainUptoSaid : Prop := cleanPlainUptoRow.holds Tryz.pinned (OpenSpec.upto cleanPlainSpec)

/-- 'strainerlaw16.CleanLess', WHERE WHAT IT READS IS OF BULK AT MOST 1048576: true; the input reads as it did. -/
def cleanLessUptoRow : OpenClaim := { program := "ytnnbodoijkbceaagreatdoor", sum := "f002d3a235c9b078dd86e7912a5840c92662e44f718ea64860a64b79e629b642", func := "strainer/strainerlaw16.CleanLess", spec := "cleanLess", inPlace := ["internal/bytealg.IndexByteString", "internal/bytealg.IndexString", "internal/abi.NoEscape"], unfollowed := true, recurses := true, named := ["unicode/utf8.first", "unicode/utf8.acceptRanges", "internal/bytealg.MaxLen"], loops := true, apart := false, laid := [("unicode/utf8.acceptRanges", laid_unicode_utf8_acceptRanges), ("unicode/utf8.first", laid_unicode_utf8_first)], narrowed := true }
def CleanLessUptoSaid : Prop := cleanLessUptoRow.holds Tryz.pinned (OpenSpec.upto cleanLessSpec)

end Rows
end Go.Proofs.YtnnbodoijkbceaaGreatDoor
