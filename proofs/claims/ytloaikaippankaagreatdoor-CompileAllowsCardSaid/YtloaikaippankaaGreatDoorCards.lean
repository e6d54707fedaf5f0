/-
  DERIVED. GIVEN WITH THE SEED: THE CARDS: each row of YtloaikaippankaaGreatDoorRows.lean that lists a variable, with what it lists TIED to the program's text (the seventh form; the later family's looks); each row that meets fmt, with fmt's text TOLD by the authors' own Lean function (tested against real Go, not proved from fmt's source: count such statements apart). THE CARD IS WHAT COUNTS. Prove the row's statement (the work); the ties are given (YtloaikaippankaaGreatDoorTie.lean); close each card by the builder's one call (the guide's Derived/Test/ToyasCard.lean, 'card_holds'). Laid BY PROGRAM, IN A SANDBOX (cutbox-door.mjs). By AI agents, Wed Nov 11 2026. No macro, syntax, notation, axiom, sorry.
-/
import Derived.Test.YtloaikaippankaaGreatDoorRows
import GoSem.ClaimSeven
namespace Go.Proofs.YtloaikaippankaaGreatDoor
namespace Rows

/-- THE TIED CARD OF 'strainerlaw17.CellsTurned'. -/
def cellsTurnedCard : Claim7 := { stood := { row := cellsTurnedRow, standIns := [], harness := (true, "f4e71c6f89a7512f99848a3f2a091d59334f152b56af3d1a931fbf2f5f182e74"), looks := false }, kinds := [], alts := [], laidByText := true, laidKinds := [.data], laidTests := true, laidLooks := .later }
def CellsTurnedCardSaid : Prop := Claim7.holds Tryz.pinned (.plain (OpenSpec.ofChange cellsTurnedSpec)) cellsTurnedCard

/-- THE TIED CARD OF 'strainerlaw17.CellsSelf'. -/
def cellsSelfCard : Claim7 := { stood := { row := cellsSelfRow, standIns := [], harness := (true, "f4e71c6f89a7512f99848a3f2a091d59334f152b56af3d1a931fbf2f5f182e74"), looks := false }, kinds := [], alts := [], laidByText := true, laidKinds := [.data], laidTests := true, laidLooks := .later }
def CellsSelfCardSaid : Prop := Claim7.holds Tryz.pinned (.plain (OpenSpec.ofChange cellsSelfSpec)) cellsSelfCard

/-- THE TIED CARD OF 'strainerlaw19.CompileTrees'. -/
def compileTreesCard : Claim7 := { stood := { row := compileTreesRow, standIns := [], harness := (true, "f4e71c6f89a7512f99848a3f2a091d59334f152b56af3d1a931fbf2f5f182e74"), looks := false }, kinds := [], alts := [], laidByText := true, laidKinds := [.data], laidTests := true, laidLooks := .later }
def CompileTreesCardSaid : Prop := Claim7.holds Tryz.pinned (.plain (OpenSpec.ofChange compileTreesSpec)) compileTreesCard

/-- THE TIED CARD OF 'strainerlaw19.CompileAllows'. -/
def compileAllowsCard : Claim7 := { stood := { row := compileAllowsRow, standIns := [], harness := (true, "f4e71c6f89a7512f99848a3f2a091d59334f152b56af3d1a931fbf2f5f182e74"), looks := false }, kinds := [], alts := [], laidByText := true, laidKinds := [.data], laidTests := true, laidLooks := .later }
def CompileAllowsCardSaid : Prop := Claim7.holds Tryz.pinned (.plain (OpenSpec.ofChange compileAllowsSpec)) compileAllowsCard

/-- THE TIED CARD OF 'strainerlaw19.CompileTells'. -/
def compileTellsCard : Claim7 := { stood := { row := compileTellsRow, standIns := [], harness := (true, "f4e71c6f89a7512f99848a3f2a091d59334f152b56af3d1a931fbf2f5f182e74"), looks := false }, kinds := [], alts := [], laidByText := true, laidKinds := [.data], laidTests := true, laidLooks := .later }
def CompileTellsCardSaid : Prop := Claim7.holds Tryz.pinned (.plain (OpenSpec.ofChange compileTellsSpec)) compileTellsCard

/-- THE TIED CARD OF 'strainerlaw19.CompileOwn'. -/
def compileOwnCard : Claim7 := { stood := { row := compileOwnRow, standIns := [], harness := (true, "f4e71c6f89a7512f99848a3f2a091d59334f152b56af3d1a931fbf2f5f182e74"), looks := false }, kinds := [], alts := [], laidByText := true, laidKinds := [.data], laidTests := true, laidLooks := .later }
def CompileOwnCardSaid : Prop := Claim7.holds Tryz.pinned (.plain (OpenSpec.ofChange compileOwnSpec)) compileOwnCard

/-- THE SECOND FORM's CARD OF 'strainerlaw17.CellsTurned'. -/
def cellsTurnedUptoCard : Claim7 := { stood := { row := cellsTurnedUptoRow, standIns := [], harness := (true, "f4e71c6f89a7512f99848a3f2a091d59334f152b56af3d1a931fbf2f5f182e74"), looks := false }, kinds := [], alts := [], laidByText := true, laidKinds := [.data], laidTests := true, laidLooks := .later }
def CellsTurnedUptoCardSaid : Prop := Claim7.holds Tryz.pinned (.plain (OpenSpec.upto cellsTurnedSpec)) cellsTurnedUptoCard

/-- THE SECOND FORM's CARD OF 'strainerlaw17.CellsSelf'. -/
def cellsSelfUptoCard : Claim7 := { stood := { row := cellsSelfUptoRow, standIns := [], harness := (true, "f4e71c6f89a7512f99848a3f2a091d59334f152b56af3d1a931fbf2f5f182e74"), looks := false }, kinds := [], alts := [], laidByText := true, laidKinds := [.data], laidTests := true, laidLooks := .later }
def CellsSelfUptoCardSaid : Prop := Claim7.holds Tryz.pinned (.plain (OpenSpec.upto cellsSelfSpec)) cellsSelfUptoCard

/-- THE SECOND FORM's CARD OF 'strainerlaw19.CompileTrees'. -/
def compileTreesUptoCard : Claim7 := { stood := { row := compileTreesUptoRow, standIns := [], harness := (true, "f4e71c6f89a7512f99848a3f2a091d59334f152b56af3d1a931fbf2f5f182e74"), looks := false }, kinds := [], alts := [], laidByText := true, laidKinds := [.data], laidTests := true, laidLooks := .later }
def CompileTreesUptoCardSaid : Prop := Claim7.holds Tryz.pinned (.plain (OpenSpec.upto compileTreesSpec)) compileTreesUptoCard

/-- THE SECOND FORM's CARD OF 'strainerlaw19.CompileAllows'. -/
def compileAllowsUptoCard : Claim7 := { stood := { row := compileAllowsUptoRow, standIns := [], harness := (true, "f4e71c6f89a7512f99848a3f2a091d59334f152b56af3d1a931fbf2f5f182e74"), looks := false }, kinds := [], alts := [], laidByText := true, laidKinds := [.data], laidTests := true, laidLooks := .later }
def CompileAllowsUptoCardSaid : Prop := Claim7.holds Tryz.pinned (.plain (OpenSpec.upto compileAllowsSpec)) compileAllowsUptoCard

/-- THE SECOND FORM's CARD OF 'strainerlaw19.CompileTells'. -/
def compileTellsUptoCard : Claim7 := { stood := { row := compileTellsUptoRow, standIns := [], harness := (true, "f4e71c6f89a7512f99848a3f2a091d59334f152b56af3d1a931fbf2f5f182e74"), looks := false }, kinds := [], alts := [], laidByText := true, laidKinds := [.data], laidTests := true, laidLooks := .later }
def CompileTellsUptoCardSaid : Prop := Claim7.holds Tryz.pinned (.plain (OpenSpec.upto compileTellsSpec)) compileTellsUptoCard

/-- THE SECOND FORM's CARD OF 'strainerlaw19.CompileOwn'. -/
def compileOwnUptoCard : Claim7 := { stood := { row := compileOwnUptoRow, standIns := [], harness := (true, "f4e71c6f89a7512f99848a3f2a091d59334f152b56af3d1a931fbf2f5f182e74"), looks := false }, kinds := [], alts := [], laidByText := true, laidKinds := [.data], laidTests := true, laidLooks := .later }
def CompileOwnUptoCardSaid : Prop := Claim7.holds Tryz.pinned (.plain (OpenSpec.upto compileOwnSpec)) compileOwnUptoCard
end Rows
end Go.Proofs.YtloaikaippankaaGreatDoor
