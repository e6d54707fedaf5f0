/-
  NARROWER THAN 'FOR EVERY INPUT', by the rows' own cells (each row's printed sentence says how): CellsTurned: laid · CellsSelf: laid · CompileTrees: loops, laid · CompileAllows: loops, laid · CompileTells: loops, laid · CompileOwn: loops, laid.
  DERIVED. THE GIVEN ROWS OF THIS SEAT. 6 by the template 'for every input the law returns true; each argument reads behind the call as it read before'; 0 by the template 'total and deterministic' (their statements: YtloaikaippankaaGreatDoorTotals.lean).
  GIVEN WITH THE SEED: the statements are not yours to turn. If you find one false, say at which input.
  Laid BY PROGRAM, IN A SANDBOX (cutbox-rows.mjs): the forced cells as the released guide's own fill.sh prints them over the translation 9edac2a3d31cd98c… (all of the seat's roots in one cut). By AI agents, Wed Nov 11 2026. No macro, syntax, notation, axiom, sorry.
-/
import Derived.Test.YtloaikaippankaaGreatDoorChecked
import GoSem.Claim
import GoSem.ClaimJoined
import GoSem.ClaimMapViews
import Derived.JoinedTies
import Derived.KernelRfl
namespace Go.Proofs.YtloaikaippankaaGreatDoor
/- THE CELL 'sum', in the pinned program and in every row, IS THE sha256 OF THE DUMP (.gsa) THAT YtloaikaippankaaGreatDoorProg.lean LOADS. Nothing in Lean hashes anything: it is a label: what it is worth is what the hold of that sum in a sandbox is worth. -/
noncomputable def Tryz.pinned : Pinned := { name := "ytloaikaippankaagreatdoor", sum := "9edac2a3d31cd98c1741e18f8f26db3ce659d5f156d6b103ab39a02f0cb51a6e", checked := Tryz.checked }
namespace Rows
def none {H : Type} : Left H := { results := [], args := [] }

/- WHAT THE LISTED PACKAGE-LEVEL VARIABLES READ AS WHEN THE CALL BEGINS. Each datum BY PROGRAM (the guide's laid-datum.mjs) off the statement by which the dump's own 'gosem.cut.vars' lays the variable. In a bare row this is a premise. The card (YtloaikaippankaaGreatDoorCards.lean) ties it to the program's text. -/
def laid_math_bits_deBruijn64tab {H : Type} : DataW H := .agg [.lit (.int .u8 0), .lit (.int .u8 1), .lit (.int .u8 56), .lit (.int .u8 2), .lit (.int .u8 57), .lit (.int .u8 49), .lit (.int .u8 28), .lit (.int .u8 3), .lit (.int .u8 61), .lit (.int .u8 58), .lit (.int .u8 42), .lit (.int .u8 50), .lit (.int .u8 38), .lit (.int .u8 29), .lit (.int .u8 17), .lit (.int .u8 4), .lit (.int .u8 62), .lit (.int .u8 47), .lit (.int .u8 59), .lit (.int .u8 36), .lit (.int .u8 45), .lit (.int .u8 43), .lit (.int .u8 51), .lit (.int .u8 22), .lit (.int .u8 53), .lit (.int .u8 39), .lit (.int .u8 33), .lit (.int .u8 30), .lit (.int .u8 24), .lit (.int .u8 18), .lit (.int .u8 12), .lit (.int .u8 5), .lit (.int .u8 63), .lit (.int .u8 55), .lit (.int .u8 48), .lit (.int .u8 27), .lit (.int .u8 60), .lit (.int .u8 41), .lit (.int .u8 37), .lit (.int .u8 16), .lit (.int .u8 46), .lit (.int .u8 35), .lit (.int .u8 44), .lit (.int .u8 21), .lit (.int .u8 52), .lit (.int .u8 32), .lit (.int .u8 23), .lit (.int .u8 11), .lit (.int .u8 54), .lit (.int .u8 26), .lit (.int .u8 40), .lit (.int .u8 15), .lit (.int .u8 34), .lit (.int .u8 20), .lit (.int .u8 31), .lit (.int .u8 10), .lit (.int .u8 25), .lit (.int .u8 14), .lit (.int .u8 19), .lit (.int .u8 9), .lit (.int .u8 13), .lit (.int .u8 8), .lit (.int .u8 7), .lit (.int .u8 6)]

/-- 'strainerlaw17.CellsTurned': WHATEVER THE INPUT: true; the input reads as it did. -/
def cellsTurnedSpec : ChangeSpec := { name := "cellsTurned", fn := fun _ => fun
  | [d1, d2] => { results := [.lit (.bool true)], args := [d1, d2] }
  | _ => none }
def cellsTurnedRow : OpenClaim := { program := "ytloaikaippankaagreatdoor", sum := "9edac2a3d31cd98c1741e18f8f26db3ce659d5f156d6b103ab39a02f0cb51a6e", func := "strainer/strainerlaw17.CellsTurned", spec := "cellsTurned", inPlace := ["internal/bytealg.IndexByteString"], unfollowed := true, recurses := true, named := ["math/bits.deBruijn64tab"], plainKeys := false, apart := false, laid := [("math/bits.deBruijn64tab", laid_math_bits_deBruijn64tab)] }
def CellsTurnedSaid : Prop := cellsTurnedRow.holds Tryz.pinned (OpenSpec.ofChange cellsTurnedSpec)

/-- ITS FALSE NEIGHBOUR: 'it returns false'. Refute it at one input. -/
def cellsTurnedWrong : ChangeSpec := { name := "cellsTurned", fn := fun _ => fun
  | [d1, d2] => { results := [.lit (.bool false)], args := [d1, d2] }
  | _ => none }
def CellsTurnedWrongFalsely : Prop := cellsTurnedRow.holds Tryz.pinned (OpenSpec.ofChange cellsTurnedWrong)

/-- 'strainerlaw17.CellsSelf': WHATEVER THE INPUT: true; the input reads as it did. -/
def cellsSelfSpec : ChangeSpec := { name := "cellsSelf", fn := fun _ => fun
  | [d] => { results := [.lit (.bool true)], args := [d] }
  | _ => none }
def cellsSelfRow : OpenClaim := { program := "ytloaikaippankaagreatdoor", sum := "9edac2a3d31cd98c1741e18f8f26db3ce659d5f156d6b103ab39a02f0cb51a6e", func := "strainer/strainerlaw17.CellsSelf", spec := "cellsSelf", inPlace := ["internal/bytealg.IndexByteString"], unfollowed := true, recurses := true, named := ["math/bits.deBruijn64tab"], plainKeys := false, apart := false, laid := [("math/bits.deBruijn64tab", laid_math_bits_deBruijn64tab)] }
def CellsSelfSaid : Prop := cellsSelfRow.holds Tryz.pinned (OpenSpec.ofChange cellsSelfSpec)

/-- ITS FALSE NEIGHBOUR: 'it returns false'. Refute it at one input. -/
def cellsSelfWrong : ChangeSpec := { name := "cellsSelf", fn := fun _ => fun
  | [d] => { results := [.lit (.bool false)], args := [d] }
  | _ => none }
def CellsSelfWrongFalsely : Prop := cellsSelfRow.holds Tryz.pinned (OpenSpec.ofChange cellsSelfWrong)

/-- 'strainerlaw19.CompileTrees': WHATEVER THE INPUT: true; the input reads as it did. -/
def compileTreesSpec : ChangeSpec := { name := "compileTrees", fn := fun _ => fun
  | [d1, d2, d3] => { results := [.lit (.bool true)], args := [d1, d2, d3] }
  | _ => none }
def compileTreesRow : OpenClaim := { program := "ytloaikaippankaagreatdoor", sum := "9edac2a3d31cd98c1741e18f8f26db3ce659d5f156d6b103ab39a02f0cb51a6e", func := "strainer/strainerlaw19.CompileTrees", spec := "compileTrees", inPlace := ["internal/bytealg.IndexByteString", "internal/bytealg.IndexString"], unfollowed := true, recurses := true, named := ["math/bits.deBruijn64tab", "internal/bytealg.MaxLen"], loops := true, plainKeys := false, apart := false, laid := [("math/bits.deBruijn64tab", laid_math_bits_deBruijn64tab)] }
def CompileTreesSaid : Prop := compileTreesRow.holds Tryz.pinned (OpenSpec.ofChange compileTreesSpec)

/-- ITS FALSE NEIGHBOUR: 'it returns false'. Refute it at one input. -/
def compileTreesWrong : ChangeSpec := { name := "compileTrees", fn := fun _ => fun
  | [d1, d2, d3] => { results := [.lit (.bool false)], args := [d1, d2, d3] }
  | _ => none }
def CompileTreesWrongFalsely : Prop := compileTreesRow.holds Tryz.pinned (OpenSpec.ofChange compileTreesWrong)

/-- 'strainerlaw19.CompileAllows': WHATEVER THE INPUT: true; the input reads as it did. -/
def compileAllowsSpec : ChangeSpec := { name := "compileAllows", fn := fun _ => fun
  | [d1, d2, d3] => { results := [.lit (.bool true)], args := [d1, d2, d3] }
  | _ => none }
def compileAllowsRow : OpenClaim := { program := "ytloaikaippankaagreatdoor", sum := "9edac2a3d31cd98c1741e18f8f26db3ce659d5f156d6b103ab39a02f0cb51a6e", func := "strainer/strainerlaw19.CompileAllows", spec := "compileAllows", inPlace := ["internal/bytealg.IndexByteString", "internal/bytealg.IndexString"], unfollowed := true, recurses := true, named := ["math/bits.deBruijn64tab", "internal/bytealg.MaxLen"], loops := true, plainKeys := false, apart := false, laid := [("math/bits.deBruijn64tab", laid_math_bits_deBruijn64tab)] }
def CompileAllowsSaid : Prop := compileAllowsRow.holds Tryz.pinned (OpenSpec.ofChange compileAllowsSpec)

/-- ITS FALSE NEIGHBOUR: 'it returns false'. Refute it at one input. -/
def compileAllowsWrong : ChangeSpec := { name := "compileAllows", fn := fun _ => fun
  | [d1, d2, d3] => { results := [.lit (.bool false)], args := [d1, d2, d3] }
  | _ => none }
def CompileAllowsWrongFalsely : Prop := compileAllowsRow.holds Tryz.pinned (OpenSpec.ofChange compileAllowsWrong)

/-- 'strainerlaw19.CompileTells': WHATEVER THE INPUT: true; the input reads as it did. -/
def compileTellsSpec : ChangeSpec := { name := "compileTells", fn := fun _ => fun
  | [d1, d2, d3] => { results := [.lit (.bool true)], args := [d1, d2, d3] }
  | _ => none }
def compileTellsRow : OpenClaim := { program := "ytloaikaippankaagreatdoor", sum := "9edac2a3d31cd98c1741e18f8f26db3ce659d5f156d6b103ab39a02f0cb51a6e", func := "strainer/strainerlaw19.CompileTells", spec := "compileTells", inPlace := ["internal/bytealg.IndexByteString", "internal/bytealg.IndexString"], unfollowed := true, recurses := true, named := ["math/bits.deBruijn64tab", "internal/bytealg.MaxLen"], loops := true, plainKeys := false, apart := false, laid := [("math/bits.deBruijn64tab", laid_math_bits_deBruijn64tab)] }
def CompileTellsSaid : Prop := compileTellsRow.holds Tryz.pinned (OpenSpec.ofChange compileTellsSpec)

/-- ITS FALSE NEIGHBOUR: 'it returns false'. Refute it at one input. -/
def compileTellsWrong : ChangeSpec := { name := "compileTells", fn := fun _ => fun
  | [d1, d2, d3] => { results := [.lit (.bool false)], args := [d1, d2, d3] }
  | _ => none }
def CompileTellsWrongFalsely : Prop := compileTellsRow.holds Tryz.pinned (OpenSpec.ofChange compileTellsWrong)

/-- 'strainerlaw19.CompileOwn': WHATEVER THE INPUT: true; the input reads as it did. -/
def compileOwnSpec : ChangeSpec := { name := "compileOwn", fn := fun _ => fun
  | [d1, d2] => { results := [.lit (.bool true)], args := [d1, d2] }
  | _ => none }
def compileOwnRow : OpenClaim := { program := "ytloaikaippankaagreatdoor", sum := "9edac2a3d31cd98c1741e18f8f26db3ce659d5f156d6b103ab39a02f0cb51a6e", func := "strainer/strainerlaw19.CompileOwn", spec := "compileOwn", inPlace := ["internal/bytealg.IndexByteString", "internal/bytealg.IndexString"], unfollowed := true, recurses := true, named := ["math/bits.deBruijn64tab", "internal/bytealg.MaxLen"], loops := true, plainKeys := false, apart := false, laid := [("math/bits.deBruijn64tab", laid_math_bits_deBruijn64tab)] }
def CompileOwnSaid : Prop := compileOwnRow.holds Tryz.pinned (OpenSpec.ofChange compileOwnSpec)

/-- ITS FALSE NEIGHBOUR: 'it returns false'. Refute it at one input. -/
def compileOwnWrong : ChangeSpec := { name := "compileOwn", fn := fun _ => fun
  | [d1, d2] => { results := [.lit (.bool false)], args := [d1, d2] }
  | _ => none }
def CompileOwnWrongFalsely : Prop := compileOwnRow.holds Tryz.pinned (OpenSpec.ofChange compileOwnWrong)

/- THE SECOND FORM. 'bulk': how many values and letters a reading holds, each counted each time it is reached (what is shared counts as often as it is met; a slice's spare places count too). A statement '..UptoSaid' is the law's where the arguments, and the package variables that the reading takes, are together of bulk at most 1048576: NARROWER than '..Said'. Prove '..Said' where nothing that the law and all that it calls make is longer than what came in: it says more and counts as full. Else prove '..UptoSaid'. A law counts once. -/
mutual
def uptoBulk {H : Type} : DataW H → Nat
  | .lit (.string bytes) => bytes.length + 1
  | .lit _ => 1
  | .nil => 1
  | .ptr d => uptoBulk d + 1
  | .slice elems spare => uptoBulkAll elems + uptoBulkAll spare + 1
  | .agg parts => uptoBulkAll parts + 1
  | .iface _ d => uptoBulk d + 1
  | .map entries => uptoBulkEntries entries + 1
  | .held _ => 1
def uptoBulkAll {H : Type} : List (DataW H) → Nat
  | [] => 0
  | d :: r => uptoBulk d + uptoBulkAll r
def uptoBulkEntries {H : Type} : List (Lit × DataW H) → Nat
  | [] => 0
  | x :: r => uptoBulkEntry x + uptoBulkEntries r
def uptoBulkEntry {H : Type} : Lit × DataW H → Nat
  | (.string bytes, d) => bytes.length + uptoBulk d + 1
  | (_, d) => uptoBulk d + 1
 end
def uptoSmall : (H : Type) → List (DataW H) → Bool := fun _ ds => decide (uptoBulkAll ds ≤ 1048576)
def OpenSpec.upto (s : _root_.Go.ChangeSpec) : _root_.Go.OpenSpec := { _root_.Go.OpenSpec.ofChange s with cond := some uptoSmall }

/-- 'strainerlaw17.CellsTurned', WHERE WHAT IT READS IS OF BULK AT MOST 1048576: true; the input reads as it did. -/
def cellsTurnedUptoRow : OpenClaim := { program := "ytloaikaippankaagreatdoor", sum := "9edac2a3d31cd98c1741e18f8f26db3ce659d5f156d6b103ab39a02f0cb51a6e", func := "strainer/strainerlaw17.CellsTurned", spec := "cellsTurned", inPlace := ["internal/bytealg.IndexByteString"], unfollowed := true, recurses := true, named := ["math/bits.deBruijn64tab"], plainKeys := false, apart := false, laid := [("math/bits.deBruijn64tab", laid_math_bits_deBruijn64tab)], narrowed := true }
def CellsTurnedUptoSaid : Prop := cellsTurnedUptoRow.holds Tryz.pinned (OpenSpec.upto cellsTurnedSpec)

/-- 'strainerlaw17.CellsSelf', WHERE WHAT IT READS IS OF BULK AT MOST 1048576: true; the input reads as it did. -/
def cellsSelfUptoRow : OpenClaim := { program := "ytloaikaippankaagreatdoor", sum := "9edac2a3d31cd98c1741e18f8f26db3ce659d5f156d6b103ab39a02f0cb51a6e", func := "strainer/strainerlaw17.CellsSelf", spec := "cellsSelf", inPlace := ["internal/bytealg.IndexByteString"], unfollowed := true, recurses := true, named := ["math/bits.deBruijn64tab"], plainKeys := false, apart := false, laid := [("math/bits.deBruijn64tab", laid_math_bits_deBruijn64tab)], narrowed := true }
def CellsSelfUptoSaid : Prop := cellsSelfUptoRow.holds Tryz.pinned (OpenSpec.upto cellsSelfSpec)

/-- 'strainerlaw19.CompileTrees', WHERE WHAT IT READS IS OF BULK AT MOST 1048576: true; the input reads as it did. -/
def compileTreesUptoRow : OpenClaim := { program := "ytloaikaippankaagreatdoor", sum := "9edac2a3d31cd98c1741e18f8f26db3ce659d5f156d6b103ab39a02f0cb51a6e", func := "strainer/strainerlaw19.CompileTrees", spec := "compileTrees", inPlace := ["internal/bytealg.IndexByteString", "internal/bytealg.IndexString"], unfollowed := true, recurses := true, named := ["math/bits.deBruijn64tab", "internal/bytealg.MaxLen"], loops := true, plainKeys := false, apart := false, laid := [("math/bits.deBruijn64tab", laid_math_bits_deBruijn64tab)], narrowed := true }
def CompileTreesUptoSaid : Prop := compileTreesUptoRow.holds Tryz.pinned (OpenSpec.upto compileTreesSpec)

/-- 'strainerlaw19.CompileAllows', WHERE WHAT IT READS IS OF BULK AT MOST 1048576: true; the input reads as it did. -/
def compileAllowsUptoRow : OpenClaim := { program := "ytloaikaippankaagreatdoor", sum := "9edac2a3d31cd98c1741e18f8f26db3ce659d5f156d6b103ab39a02f0cb51a6e", func := "strainer/strainerlaw19.CompileAllows", spec := "compileAllows", inPlace := ["internal/bytealg.IndexByteString", "internal/bytealg.IndexString"], unfollowed := true, recurses := true, named := ["math/bits.deBruijn64tab", "internal/bytealg.MaxLen"], loops := true, plainKeys := false, apart := false, laid := [("math/bits.deBruijn64tab", laid_math_bits_deBruijn64tab)], narrowed := true }
def CompileAllowsUptoSaid : Prop := compileAllowsUptoRow.holds Tryz.pinned (OpenSpec.upto compileAllowsSpec)

/-- 'strainerlaw19.CompileTells', WHERE WHAT IT READS IS OF BULK AT MOST 1048576: true; the input reads as it did. -/
def compileTellsUptoRow : OpenClaim := { program := "ytloaikaippankaagreatdoor", sum := "9edac2a3d31cd98c1741e18f8f26db3ce659d5f156d6b103ab39a02f0cb51a6e", func := "strainer/strainerlaw19.CompileTells", spec := "compileTells", inPlace := ["internal/bytealg.IndexByteString", "internal/bytealg.IndexString"], unfollowed := true, recurses := true, named := ["math/bits.deBruijn64tab", "internal/bytealg.MaxLen"], loops := true, plainKeys := false, apart := false, laid := [("math/bits.deBruijn64tab", laid_math_bits_deBruijn64tab)], narrowed := true }
def CompileTellsUptoSaid : Prop := compileTellsUptoRow.holds Tryz.pinned (OpenSpec.upto compileTellsSpec)

/-- 'strainerlaw19.CompileOwn', WHERE WHAT IT READS IS OF BULK AT MOST 1048576: true; the input reads as it did. -/
def compileOwnUptoRow : OpenClaim := { program := "ytloaikaippankaagreatdoor", sum := "9edac2a3d31cd98c1741e18f8f26db3ce659d5f156d6b103ab39a02f0cb51a6e", func := "strainer/strainerlaw19.CompileOwn", spec := "compileOwn", inPlace := ["internal/bytealg.IndexByteString", "internal/bytealg.IndexString"], unfollowed := true, recurses := true, named := ["math/bits.deBruijn64tab", "internal/bytealg.MaxLen"], loops := true, plainKeys := false, apart := false, laid := [("math/bits.deBruijn64tab", laid_math_bits_deBruijn64tab)], narrowed := true }
def CompileOwnUptoSaid : Prop := compileOwnUptoRow.holds Tryz.pinned (OpenSpec.upto compileOwnSpec)

end Rows
end Go.Proofs.YtloaikaippankaaGreatDoor
