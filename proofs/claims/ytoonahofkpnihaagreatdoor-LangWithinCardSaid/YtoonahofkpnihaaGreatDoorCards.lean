/-
  DERIVED. GIVEN WITH THE SEED: THE CARDS: each row of YtoonahofkpnihaaGreatDoorRows.lean that lists a variable, with what it lists TIED to the program's text (the seventh form; the later family's looks); each row that meets fmt, with fmt's text TOLD by the authors' own Lean function (tested against real Go, not proved from fmt's source: count such statements apart). THE CARD IS WHAT COUNTS. Prove the row's statement (the work); the ties are given (YtoonahofkpnihaaGreatDoorTie.lean); close each card by the builder's one call (the guide's Derived/Test/ToyasCard.lean, 'card_holds'). Laid BY PROGRAM, IN A SANDBOX (cutbox-door.mjs). By AI agents, Wed Nov 11 2026. No macro, syntax, notation, axiom, sorry.
-/
import Derived.Test.YtoonahofkpnihaaGreatDoorRows
import GoSem.ClaimSeven
namespace Go.Proofs.YtoonahofkpnihaaGreatDoor
namespace Rows

/-- THE TIED CARD OF 'strainerlaw12.LangAllows'. -/
def langAllowsCard : Claim7 := { stood := { row := langAllowsRow, standIns := [], harness := (true, "95bcb2c685a9703f05caea6807a50f77c0b53168c5b591463e416b70bf89b767"), looks := false }, kinds := [], alts := [], laidByText := true, laidKinds := [.data], laidTests := true, laidLooks := .later }
def LangAllowsCardSaid : Prop := Claim7.holds Tryz.pinned (.plain (OpenSpec.ofChange langAllowsSpec)) langAllowsCard

/-- THE TIED CARD OF 'strainerlaw12.LangExamples'. -/
def langExamplesCard : Claim7 := { stood := { row := langExamplesRow, standIns := [], harness := (true, "95bcb2c685a9703f05caea6807a50f77c0b53168c5b591463e416b70bf89b767"), looks := false }, kinds := [], alts := [], laidByText := true, laidKinds := [.data], laidTests := true, laidLooks := .later }
def LangExamplesCardSaid : Prop := Claim7.holds Tryz.pinned (.plain (OpenSpec.ofChange langExamplesSpec)) langExamplesCard

/-- THE TIED CARD OF 'strainerlaw12.LangKinds'. -/
def langKindsCard : Claim7 := { stood := { row := langKindsRow, standIns := [], harness := (true, "95bcb2c685a9703f05caea6807a50f77c0b53168c5b591463e416b70bf89b767"), looks := false }, kinds := [], alts := [], laidByText := true, laidKinds := [.data], laidTests := true, laidLooks := .later }
def LangKindsCardSaid : Prop := Claim7.holds Tryz.pinned (.plain (OpenSpec.ofChange langKindsSpec)) langKindsCard

/-- THE TIED CARD OF 'strainerlaw12.LangWithin'. -/
def langWithinCard : Claim7 := { stood := { row := langWithinRow, standIns := [], harness := (true, "95bcb2c685a9703f05caea6807a50f77c0b53168c5b591463e416b70bf89b767"), looks := false }, kinds := [], alts := [], laidByText := true, laidKinds := [.data], laidTests := true, laidLooks := .later }
def LangWithinCardSaid : Prop := Claim7.holds Tryz.pinned (.plain (OpenSpec.ofChange langWithinSpec)) langWithinCard

/-- THE TIED CARD OF 'strainerlaw15.AllowNodes'. -/
def allowNodesCard : Claim7 := { stood := { row := allowNodesRow, standIns := [], harness := (true, "95bcb2c685a9703f05caea6807a50f77c0b53168c5b591463e416b70bf89b767"), looks := false }, kinds := [], alts := [], laidByText := true, laidKinds := [.data, .pinned], laidTests := true, laidLooks := .later }
def AllowNodesCardSaid : Prop := Claim7.holds Tryz.pinned (.plain (OpenSpec.ofChange allowNodesSpec)) allowNodesCard

/-- THE TIED CARD OF 'strainerlaw15.AllowLess'. -/
def allowLessCard : Claim7 := { stood := { row := allowLessRow, standIns := [], harness := (true, "95bcb2c685a9703f05caea6807a50f77c0b53168c5b591463e416b70bf89b767"), looks := false }, kinds := [], alts := [], laidByText := true, laidKinds := [.data, .pinned], laidTests := true, laidLooks := .later }
def AllowLessCardSaid : Prop := Claim7.holds Tryz.pinned (.plain (OpenSpec.ofChange allowLessSpec)) allowLessCard

/-- THE TIED CARD OF 'strainerlaw15.AllowMore'. -/
def allowMoreCard : Claim7 := { stood := { row := allowMoreRow, standIns := [], harness := (true, "95bcb2c685a9703f05caea6807a50f77c0b53168c5b591463e416b70bf89b767"), looks := false }, kinds := [], alts := [], laidByText := true, laidKinds := [.data, .pinned], laidTests := true, laidLooks := .later }
def AllowMoreCardSaid : Prop := Claim7.holds Tryz.pinned (.plain (OpenSpec.ofChange allowMoreSpec)) allowMoreCard

/-- THE TIED CARD OF 'strainerlaw15.AllowNothing'. -/
def allowNothingCard : Claim7 := { stood := { row := allowNothingRow, standIns := [], harness := (true, "95bcb2c685a9703f05caea6807a50f77c0b53168c5b591463e416b70bf89b767"), looks := false }, kinds := [], alts := [], laidByText := true, laidKinds := [.data, .pinned], laidTests := true, laidLooks := .later }
def AllowNothingCardSaid : Prop := Claim7.holds Tryz.pinned (.plain (OpenSpec.ofChange allowNothingSpec)) allowNothingCard

/-- THE SECOND FORM's CARD OF 'strainerlaw12.LangAllows'. -/
def langAllowsUptoCard : Claim7 := { stood := { row := langAllowsUptoRow, standIns := [], harness := (true, "95bcb2c685a9703f05caea6807a50f77c0b53168c5b591463e416b70bf89b767"), looks := false }, kinds := [], alts := [], laidByText := true, laidKinds := [.data], laidTests := true, laidLooks := .later }
def LangAllowsUptoCardSaid : Prop := Claim7.holds Tryz.pinned (.plain (OpenSpec.upto langAllowsSpec)) langAllowsUptoCard

/-- THE SECOND FORM's CARD OF 'strainerlaw12.LangExamples'. -/
def langExamplesUptoCard : Claim7 := { stood := { row := langExamplesUptoRow, standIns := [], harness := (true, "95bcb2c685a9703f05caea6807a50f77c0b53168c5b591463e416b70bf89b767"), looks := false }, kinds := [], alts := [], laidByText := true, laidKinds := [.data], laidTests := true, laidLooks := .later }
def LangExamplesUptoCardSaid : Prop := Claim7.holds Tryz.pinned (.plain (OpenSpec.upto langExamplesSpec)) langExamplesUptoCard

/-- THE SECOND FORM's CARD OF 'strainerlaw12.LangKinds'. -/
def langKindsUptoCard : Claim7 := { stood := { row := langKindsUptoRow, standIns := [], harness := (true, "95bcb2c685a9703f05caea6807a50f77c0b53168c5b591463e416b70bf89b767"), looks := false }, kinds := [], alts := [], laidByText := true, laidKinds := [.data], laidTests := true, laidLooks := .later }
def LangKindsUptoCardSaid : Prop := Claim7.holds Tryz.pinned (.plain (OpenSpec.upto langKindsSpec)) langKindsUptoCard

/-- THE SECOND FORM's CARD OF 'strainerlaw12.LangWithin'. -/
def langWithinUptoCard : Claim7 := { stood := { row := langWithinUptoRow, standIns := [], harness := (true, "95bcb2c685a9703f05caea6807a50f77c0b53168c5b591463e416b70bf89b767"), looks := false }, kinds := [], alts := [], laidByText := true, laidKinds := [.data], laidTests := true, laidLooks := .later }
def LangWithinUptoCardSaid : Prop := Claim7.holds Tryz.pinned (.plain (OpenSpec.upto langWithinSpec)) langWithinUptoCard

/-- THE SECOND FORM's CARD OF 'strainerlaw15.AllowNodes'. -/
def allowNodesUptoCard : Claim7 := { stood := { row := allowNodesUptoRow, standIns := [], harness := (true, "95bcb2c685a9703f05caea6807a50f77c0b53168c5b591463e416b70bf89b767"), looks := false }, kinds := [], alts := [], laidByText := true, laidKinds := [.data, .pinned], laidTests := true, laidLooks := .later }
def AllowNodesUptoCardSaid : Prop := Claim7.holds Tryz.pinned (.plain (OpenSpec.upto allowNodesSpec)) allowNodesUptoCard

/-- THE SECOND FORM's CARD OF 'strainerlaw15.AllowLess'. -/
def allowLessUptoCard : Claim7 := { stood := { row := allowLessUptoRow, standIns := [], harness := (true, "95bcb2c685a9703f05caea6807a50f77c0b53168c5b591463e416b70bf89b767"), looks := false }, kinds := [], alts := [], laidByText := true, laidKinds := [.data, .pinned], laidTests := true, laidLooks := .later }
def AllowLessUptoCardSaid : Prop := Claim7.holds Tryz.pinned (.plain (OpenSpec.upto allowLessSpec)) allowLessUptoCard

/-- THE SECOND FORM's CARD OF 'strainerlaw15.AllowMore'. -/
def allowMoreUptoCard : Claim7 := { stood := { row := allowMoreUptoRow, standIns := [], harness := (true, "95bcb2c685a9703f05caea6807a50f77c0b53168c5b591463e416b70bf89b767"), looks := false }, kinds := [], alts := [], laidByText := true, laidKinds := [.data, .pinned], laidTests := true, laidLooks := .later }
def AllowMoreUptoCardSaid : Prop := Claim7.holds Tryz.pinned (.plain (OpenSpec.upto allowMoreSpec)) allowMoreUptoCard

/-- THE SECOND FORM's CARD OF 'strainerlaw15.AllowNothing'. -/
def allowNothingUptoCard : Claim7 := { stood := { row := allowNothingUptoRow, standIns := [], harness := (true, "95bcb2c685a9703f05caea6807a50f77c0b53168c5b591463e416b70bf89b767"), looks := false }, kinds := [], alts := [], laidByText := true, laidKinds := [.data, .pinned], laidTests := true, laidLooks := .later }
def AllowNothingUptoCardSaid : Prop := Claim7.holds Tryz.pinned (.plain (OpenSpec.upto allowNothingSpec)) allowNothingUptoCard
end Rows
end Go.Proofs.YtoonahofkpnihaaGreatDoor
