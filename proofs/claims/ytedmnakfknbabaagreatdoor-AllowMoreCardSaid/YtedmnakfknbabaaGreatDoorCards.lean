/-
  DERIVED. GIVEN WITH THE SEED: THE CARDS: each row of YtedmnakfknbabaaGreatDoorRows.lean that lists a variable, with what it lists TIED to the program's text (the seventh form; the later family's looks); each row that meets fmt, with fmt's text TOLD by the authors' own Lean function (tested against real Go, not proved from fmt's source: count such statements apart). THE CARD IS WHAT COUNTS. Prove the row's statement (the work); the ties are given (YtedmnakfknbabaaGreatDoorTie.lean); close each card by the builder's one call (the guide's Derived/Test/ToyasCard.lean, 'card_holds'). Laid BY PROGRAM, IN A SANDBOX (cutbox-door.mjs). By AI agents, Wed Nov 11 2026. No macro, syntax, notation, axiom, sorry.
-/
import Derived.Test.YtedmnakfknbabaaGreatDoorRows
import GoSem.ClaimSeven
namespace Go.Proofs.YtedmnakfknbabaaGreatDoor
namespace Rows

/-- THE TIED CARD OF 'strainerlaw15.AllowMore'. -/
def allowMoreCard : Claim7 := { stood := { row := allowMoreRow, standIns := [], harness := (true, "808179ed2a5170421ef4b66a4fb12b7477c48afdcc4d4457a60454e12e81b701"), looks := true }, kinds := [], alts := [], laidByText := true, laidKinds := [.data, .pinned], laidTests := true, laidLooks := .later }
def AllowMoreCardSaid : Prop := Claim7.holds Tryz.pinned (.plain (OpenSpec.ofChange allowMoreSpec)) allowMoreCard

/-- THE TIED CARD OF 'strainerlaw08.ParseKeeps'. -/
def parseKeepsCard : Claim7 := { stood := { row := parseKeepsRow, standIns := [], harness := (true, "808179ed2a5170421ef4b66a4fb12b7477c48afdcc4d4457a60454e12e81b701"), looks := true }, kinds := [], alts := [], laidByText := true, laidKinds := [.data, .pinned], laidTests := true, laidLooks := .later }
def ParseKeepsCardSaid : Prop := Claim7.holds Tryz.pinned (.plain (OpenSpec.ofChange parseKeepsSpec)) parseKeepsCard

/-- THE TIED CARD OF 'strainerlaw08.ParseMay'. -/
def parseMayCard : Claim7 := { stood := { row := parseMayRow, standIns := [], harness := (true, "808179ed2a5170421ef4b66a4fb12b7477c48afdcc4d4457a60454e12e81b701"), looks := true }, kinds := [], alts := [], laidByText := true, laidKinds := [.data, .pinned], laidTests := true, laidLooks := .later }
def ParseMayCardSaid : Prop := Claim7.holds Tryz.pinned (.plain (OpenSpec.ofChange parseMaySpec)) parseMayCard

/-- THE TIED CARD OF 'strainerlaw08.ParseJoins'. -/
def parseJoinsCard : Claim7 := { stood := { row := parseJoinsRow, standIns := [], harness := (true, "808179ed2a5170421ef4b66a4fb12b7477c48afdcc4d4457a60454e12e81b701"), looks := true }, kinds := [], alts := [], laidByText := true, laidKinds := [.data, .pinned], laidTests := true, laidLooks := .later }
def ParseJoinsCardSaid : Prop := Claim7.holds Tryz.pinned (.plain (OpenSpec.ofChange parseJoinsSpec)) parseJoinsCard

/-- THE SECOND FORM's CARD OF 'strainerlaw15.AllowMore'. -/
def allowMoreUptoCard : Claim7 := { stood := { row := allowMoreUptoRow, standIns := [], harness := (true, "808179ed2a5170421ef4b66a4fb12b7477c48afdcc4d4457a60454e12e81b701"), looks := true }, kinds := [], alts := [], laidByText := true, laidKinds := [.data, .pinned], laidTests := true, laidLooks := .later }
def AllowMoreUptoCardSaid : Prop := Claim7.holds Tryz.pinned (.plain (OpenSpec.upto allowMoreSpec)) allowMoreUptoCard

/-- THE SECOND FORM's CARD OF 'strainerlaw08.ParseKeeps'. -/
def parseKeepsUptoCard : Claim7 := { stood := { row := parseKeepsUptoRow, standIns := [], harness := (true, "808179ed2a5170421ef4b66a4fb12b7477c48afdcc4d4457a60454e12e81b701"), looks := true }, kinds := [], alts := [], laidByText := true, laidKinds := [.data, .pinned], laidTests := true, laidLooks := .later }
def ParseKeepsUptoCardSaid : Prop := Claim7.holds Tryz.pinned (.plain (OpenSpec.upto parseKeepsSpec)) parseKeepsUptoCard

/-- THE SECOND FORM's CARD OF 'strainerlaw08.ParseMay'. -/
def parseMayUptoCard : Claim7 := { stood := { row := parseMayUptoRow, standIns := [], harness := (true, "808179ed2a5170421ef4b66a4fb12b7477c48afdcc4d4457a60454e12e81b701"), looks := true }, kinds := [], alts := [], laidByText := true, laidKinds := [.data, .pinned], laidTests := true, laidLooks := .later }
def ParseMayUptoCardSaid : Prop := Claim7.holds Tryz.pinned (.plain (OpenSpec.upto parseMaySpec)) parseMayUptoCard

/-- THE SECOND FORM's CARD OF 'strainerlaw08.ParseJoins'. -/
def parseJoinsUptoCard : Claim7 := { stood := { row := parseJoinsUptoRow, standIns := [], harness := (true, "808179ed2a5170421ef4b66a4fb12b7477c48afdcc4d4457a60454e12e81b701"), looks := true }, kinds := [], alts := [], laidByText := true, laidKinds := [.data, .pinned], laidTests := true, laidLooks := .later }
def ParseJoinsUptoCardSaid : Prop := Claim7.holds Tryz.pinned (.plain (OpenSpec.upto parseJoinsSpec)) parseJoinsUptoCard
end Rows
end Go.Proofs.YtedmnakfknbabaaGreatDoor
