/-
  DERIVED. GIVEN WITH THE SEED: THE CARDS: each row of YthficpngadcpgaaGreatDoorRows.lean that lists a variable, with what it lists TIED to the program's text (the seventh form; the later family's looks); each row that meets fmt, with fmt's text TOLD by the authors' own Lean function (tested against real Go, not proved from fmt's source: count such statements apart). THE CARD IS WHAT COUNTS. Prove the row's statement (the work); the ties are given (YthficpngadcpgaaGreatDoorTie.lean); close each card by the builder's one call (the guide's Derived/Test/ToyasCard.lean, 'card_holds'). Laid BY PROGRAM, IN A SANDBOX (cutbox-door.mjs). By AI agents, Wed Nov 11 2026. No macro, syntax, notation, axiom, sorry.
-/
import Derived.Test.YthficpngadcpgaaGreatDoorRows
import GoSem.ClaimSeven
namespace Go.Proofs.YthficpngadcpgaaGreatDoor
namespace Rows

/-- THE TIED CARD OF 'strainerlaw15.AllowNodes'. -/
def allowNodesCard : Claim7 := { stood := { row := allowNodesRow, standIns := [], harness := (true, "4818ef23d467d9a1acaeae8d3a2532ac833b9d30898410f0f15aad7e44e9a293"), looks := true }, kinds := [], alts := [], laidByText := true, laidKinds := [.data, .pinned], laidTests := true, laidLooks := .later }
def AllowNodesCardSaid : Prop := Claim7.holds Tryz.pinned (.plain (OpenSpec.ofChange allowNodesSpec)) allowNodesCard

/-- THE TIED CARD OF 'strainerlaw15.AllowLess'. -/
def allowLessCard : Claim7 := { stood := { row := allowLessRow, standIns := [], harness := (true, "4818ef23d467d9a1acaeae8d3a2532ac833b9d30898410f0f15aad7e44e9a293"), looks := true }, kinds := [], alts := [], laidByText := true, laidKinds := [.data, .pinned], laidTests := true, laidLooks := .later }
def AllowLessCardSaid : Prop := Claim7.holds Tryz.pinned (.plain (OpenSpec.ofChange allowLessSpec)) allowLessCard

/-- THE TIED CARD OF 'strainerlaw15.AllowMore'. -/
def allowMoreCard : Claim7 := { stood := { row := allowMoreRow, standIns := [], harness := (true, "4818ef23d467d9a1acaeae8d3a2532ac833b9d30898410f0f15aad7e44e9a293"), looks := true }, kinds := [], alts := [], laidByText := true, laidKinds := [.data, .pinned], laidTests := true, laidLooks := .later }
def AllowMoreCardSaid : Prop := Claim7.holds Tryz.pinned (.plain (OpenSpec.ofChange allowMoreSpec)) allowMoreCard

/-- THE TIED CARD OF 'strainerlaw15.AllowNothing'. -/
def allowNothingCard : Claim7 := { stood := { row := allowNothingRow, standIns := [], harness := (true, "4818ef23d467d9a1acaeae8d3a2532ac833b9d30898410f0f15aad7e44e9a293"), looks := true }, kinds := [], alts := [], laidByText := true, laidKinds := [.data, .pinned], laidTests := true, laidLooks := .later }
def AllowNothingCardSaid : Prop := Claim7.holds Tryz.pinned (.plain (OpenSpec.ofChange allowNothingSpec)) allowNothingCard

/-- THE TIED CARD OF 'strainerlaw08.ParseKeeps'. -/
def parseKeepsCard : Claim7 := { stood := { row := parseKeepsRow, standIns := [], harness := (true, "4818ef23d467d9a1acaeae8d3a2532ac833b9d30898410f0f15aad7e44e9a293"), looks := true }, kinds := [], alts := [], laidByText := true, laidKinds := [.data, .pinned], laidTests := true, laidLooks := .later }
def ParseKeepsCardSaid : Prop := Claim7.holds Tryz.pinned (.plain (OpenSpec.ofChange parseKeepsSpec)) parseKeepsCard

/-- THE TIED CARD OF 'strainerlaw08.ParseMay'. -/
def parseMayCard : Claim7 := { stood := { row := parseMayRow, standIns := [], harness := (true, "4818ef23d467d9a1acaeae8d3a2532ac833b9d30898410f0f15aad7e44e9a293"), looks := true }, kinds := [], alts := [], laidByText := true, laidKinds := [.data, .pinned], laidTests := true, laidLooks := .later }
def ParseMayCardSaid : Prop := Claim7.holds Tryz.pinned (.plain (OpenSpec.ofChange parseMaySpec)) parseMayCard

/-- THE TIED CARD OF 'strainerlaw08.ParseJoins'. -/
def parseJoinsCard : Claim7 := { stood := { row := parseJoinsRow, standIns := [], harness := (true, "4818ef23d467d9a1acaeae8d3a2532ac833b9d30898410f0f15aad7e44e9a293"), looks := true }, kinds := [], alts := [], laidByText := true, laidKinds := [.data, .pinned], laidTests := true, laidLooks := .later }
def ParseJoinsCardSaid : Prop := Claim7.holds Tryz.pinned (.plain (OpenSpec.ofChange parseJoinsSpec)) parseJoinsCard

/-- THE TIED CARD OF 'strainerlaw16.CleanAllows'. -/
def cleanAllowsCard : Claim7 := { stood := { row := cleanAllowsRow, standIns := [], harness := (true, "4818ef23d467d9a1acaeae8d3a2532ac833b9d30898410f0f15aad7e44e9a293"), looks := true }, kinds := [], alts := [], laidByText := true, laidKinds := [.data, .pinned], laidTests := true, laidLooks := .later }
def CleanAllowsCardSaid : Prop := Claim7.holds Tryz.pinned (.plain (OpenSpec.ofChange cleanAllowsSpec)) cleanAllowsCard

/-- THE TIED CARD OF 'strainerlaw16.CleanSettles'. -/
def cleanSettlesCard : Claim7 := { stood := { row := cleanSettlesRow, standIns := [], harness := (true, "4818ef23d467d9a1acaeae8d3a2532ac833b9d30898410f0f15aad7e44e9a293"), looks := true }, kinds := [], alts := [], laidByText := true, laidKinds := [.data, .pinned], laidTests := true, laidLooks := .later }
def CleanSettlesCardSaid : Prop := Claim7.holds Tryz.pinned (.plain (OpenSpec.ofChange cleanSettlesSpec)) cleanSettlesCard

/-- THE TIED CARD OF 'strainerlaw16.CleanPlain'. -/
def cleanPlainCard : Claim7 := { stood := { row := cleanPlainRow, standIns := [], harness := (true, "4818ef23d467d9a1acaeae8d3a2532ac833b9d30898410f0f15aad7e44e9a293"), looks := true }, kinds := [], alts := [], laidByText := true, laidKinds := [.data, .pinned], laidTests := true, laidLooks := .later }
def CleanPlainCardSaid : Prop := Claim7.holds Tryz.pinned (.plain (OpenSpec.ofChange cleanPlainSpec)) cleanPlainCard

/-- THE TIED CARD OF 'strainerlaw16.CleanLess'. -/
def cleanLessCard : Claim7 := { stood := { row := cleanLessRow, standIns := [], harness := (true, "4818ef23d467d9a1acaeae8d3a2532ac833b9d30898410f0f15aad7e44e9a293"), looks := true }, kinds := [], alts := [], laidByText := true, laidKinds := [.data, .pinned], laidTests := true, laidLooks := .later }
def CleanLessCardSaid : Prop := Claim7.holds Tryz.pinned (.plain (OpenSpec.ofChange cleanLessSpec)) cleanLessCard

/-- THE SECOND FORM's CARD OF 'strainerlaw15.AllowNodes'. -/
def allowNodesUptoCard : Claim7 := { stood := { row := allowNodesUptoRow, standIns := [], harness := (true, "4818ef23d467d9a1acaeae8d3a2532ac833b9d30898410f0f15aad7e44e9a293"), looks := true }, kinds := [], alts := [], laidByText := true, laidKinds := [.data, .pinned], laidTests := true, laidLooks := .later }
def AllowNodesUptoCardSaid : Prop := Claim7.holds Tryz.pinned (.plain (OpenSpec.upto allowNodesSpec)) allowNodesUptoCard

/-- THE SECOND FORM's CARD OF 'strainerlaw15.AllowLess'. -/
def allowLessUptoCard : Claim7 := { stood := { row := allowLessUptoRow, standIns := [], harness := (true, "4818ef23d467d9a1acaeae8d3a2532ac833b9d30898410f0f15aad7e44e9a293"), looks := true }, kinds := [], alts := [], laidByText := true, laidKinds := [.data, .pinned], laidTests := true, laidLooks := .later }
def AllowLessUptoCardSaid : Prop := Claim7.holds Tryz.pinned (.plain (OpenSpec.upto allowLessSpec)) allowLessUptoCard

/-- THE SECOND FORM's CARD OF 'strainerlaw15.AllowMore'. -/
def allowMoreUptoCard : Claim7 := { stood := { row := allowMoreUptoRow, standIns := [], harness := (true, "4818ef23d467d9a1acaeae8d3a2532ac833b9d30898410f0f15aad7e44e9a293"), looks := true }, kinds := [], alts := [], laidByText := true, laidKinds := [.data, .pinned], laidTests := true, laidLooks := .later }
def AllowMoreUptoCardSaid : Prop := Claim7.holds Tryz.pinned (.plain (OpenSpec.upto allowMoreSpec)) allowMoreUptoCard

/-- THE SECOND FORM's CARD OF 'strainerlaw15.AllowNothing'. -/
def allowNothingUptoCard : Claim7 := { stood := { row := allowNothingUptoRow, standIns := [], harness := (true, "4818ef23d467d9a1acaeae8d3a2532ac833b9d30898410f0f15aad7e44e9a293"), looks := true }, kinds := [], alts := [], laidByText := true, laidKinds := [.data, .pinned], laidTests := true, laidLooks := .later }
def AllowNothingUptoCardSaid : Prop := Claim7.holds Tryz.pinned (.plain (OpenSpec.upto allowNothingSpec)) allowNothingUptoCard

/-- THE SECOND FORM's CARD OF 'strainerlaw08.ParseKeeps'. -/
def parseKeepsUptoCard : Claim7 := { stood := { row := parseKeepsUptoRow, standIns := [], harness := (true, "4818ef23d467d9a1acaeae8d3a2532ac833b9d30898410f0f15aad7e44e9a293"), looks := true }, kinds := [], alts := [], laidByText := true, laidKinds := [.data, .pinned], laidTests := true, laidLooks := .later }
def ParseKeepsUptoCardSaid : Prop := Claim7.holds Tryz.pinned (.plain (OpenSpec.upto parseKeepsSpec)) parseKeepsUptoCard

/-- THE SECOND FORM's CARD OF 'strainerlaw08.ParseMay'. -/
def parseMayUptoCard : Claim7 := { stood := { row := parseMayUptoRow, standIns := [], harness := (true, "4818ef23d467d9a1acaeae8d3a2532ac833b9d30898410f0f15aad7e44e9a293"), looks := true }, kinds := [], alts := [], laidByText := true, laidKinds := [.data, .pinned], laidTests := true, laidLooks := .later }
def ParseMayUptoCardSaid : Prop := Claim7.holds Tryz.pinned (.plain (OpenSpec.upto parseMaySpec)) parseMayUptoCard

/-- THE SECOND FORM's CARD OF 'strainerlaw08.ParseJoins'. -/
def parseJoinsUptoCard : Claim7 := { stood := { row := parseJoinsUptoRow, standIns := [], harness := (true, "4818ef23d467d9a1acaeae8d3a2532ac833b9d30898410f0f15aad7e44e9a293"), looks := true }, kinds := [], alts := [], laidByText := true, laidKinds := [.data, .pinned], laidTests := true, laidLooks := .later }
def ParseJoinsUptoCardSaid : Prop := Claim7.holds Tryz.pinned (.plain (OpenSpec.upto parseJoinsSpec)) parseJoinsUptoCard

/-- THE SECOND FORM's CARD OF 'strainerlaw16.CleanAllows'. -/
def cleanAllowsUptoCard : Claim7 := { stood := { row := cleanAllowsUptoRow, standIns := [], harness := (true, "4818ef23d467d9a1acaeae8d3a2532ac833b9d30898410f0f15aad7e44e9a293"), looks := true }, kinds := [], alts := [], laidByText := true, laidKinds := [.data, .pinned], laidTests := true, laidLooks := .later }
def CleanAllowsUptoCardSaid : Prop := Claim7.holds Tryz.pinned (.plain (OpenSpec.upto cleanAllowsSpec)) cleanAllowsUptoCard

/-- THE SECOND FORM's CARD OF 'strainerlaw16.CleanSettles'. -/
def cleanSettlesUptoCard : Claim7 := { stood := { row := cleanSettlesUptoRow, standIns := [], harness := (true, "4818ef23d467d9a1acaeae8d3a2532ac833b9d30898410f0f15aad7e44e9a293"), looks := true }, kinds := [], alts := [], laidByText := true, laidKinds := [.data, .pinned], laidTests := true, laidLooks := .later }
def CleanSettlesUptoCardSaid : Prop := Claim7.holds Tryz.pinned (.plain (OpenSpec.upto cleanSettlesSpec)) cleanSettlesUptoCard

/-- THE SECOND FORM's CARD OF 'strainerlaw16.CleanPlain'. -/
def cleanPlainUptoCard : Claim7 := { stood := { row := cleanPlainUptoRow, standIns := [], harness := (true, "4818ef23d467d9a1acaeae8d3a2532ac833b9d30898410f0f15aad7e44e9a293"), looks := true }, kinds := [], alts := [], laidByText := true, laidKinds := [.data, .pinned], laidTests := true, laidLooks := .later }
def CleanPlainUptoCardSaid : Prop := Claim7.holds Tryz.pinned (.plain (OpenSpec.upto cleanPlainSpec)) cleanPlainUptoCard

/-- THE SECOND FORM's CARD OF 'strainerlaw16.CleanLess'. -/
def cleanLessUptoCard : Claim7 := { stood := { row := cleanLessUptoRow, standIns := [], harness := (true, "4818ef23d467d9a1acaeae8d3a2532ac833b9d30898410f0f15aad7e44e9a293"), looks := true }, kinds := [], alts := [], laidByText := true, laidKinds := [.data, .pinned], laidTests := true, laidLooks := .later }
def CleanLessUptoCardSaid : Prop := Claim7.holds Tryz.pinned (.plain (OpenSpec.upto cleanLessSpec)) cleanLessUptoCard
end Rows
end Go.Proofs.YthficpngadcpgaaGreatDoor
