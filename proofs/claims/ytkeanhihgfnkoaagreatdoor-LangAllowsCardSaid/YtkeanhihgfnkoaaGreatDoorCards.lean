/-
  DERIVED. GIVEN WITH THE SEED: THE CARDS: each row of YtkeanhihgfnkoaaGreatDoorRows.lean that lists a variable, with what it lists TIED to the program's text (the seventh form; the later family's looks); each row that meets fmt, with fmt's text TOLD by the authors' own Lean function (tested against real Go, not proved from fmt's source: count such statements apart). THE CARD IS WHAT COUNTS. Prove the row's statement (the work); the ties are given (YtkeanhihgfnkoaaGreatDoorTie.lean); close each card by the builder's one call (the guide's Derived/Test/ToyasCard.lean, 'card_holds'). Laid BY PROGRAM, IN A SANDBOX (cutbox-door.mjs). By AI agents, Wed Nov 11 2026. No macro, syntax, notation, axiom, sorry.
-/
import Derived.Test.YtkeanhihgfnkoaaGreatDoorRows
import GoSem.ClaimSeven
namespace Go.Proofs.YtkeanhihgfnkoaaGreatDoor
namespace Rows

/-- THE TIED CARD OF 'strainerlaw12.LangAllows'. -/
def langAllowsCard : Claim7 := { stood := { row := langAllowsRow, standIns := [], harness := (true, "3215b373e7e3c6c7cbdd547865c8e444f2f379c8f8799bcd63d86d9a0bdf6353"), looks := false }, kinds := [], alts := [], laidByText := true, laidKinds := [.data], laidTests := true, laidLooks := .later }
def LangAllowsCardSaid : Prop := Claim7.holds Tryz.pinned (.plain (OpenSpec.ofChange langAllowsSpec)) langAllowsCard

/-- THE TIED CARD OF 'strainerlaw12.LangExamples'. -/
def langExamplesCard : Claim7 := { stood := { row := langExamplesRow, standIns := [], harness := (true, "3215b373e7e3c6c7cbdd547865c8e444f2f379c8f8799bcd63d86d9a0bdf6353"), looks := false }, kinds := [], alts := [], laidByText := true, laidKinds := [.data], laidTests := true, laidLooks := .later }
def LangExamplesCardSaid : Prop := Claim7.holds Tryz.pinned (.plain (OpenSpec.ofChange langExamplesSpec)) langExamplesCard

/-- THE TIED CARD OF 'strainerlaw12.LangKinds'. -/
def langKindsCard : Claim7 := { stood := { row := langKindsRow, standIns := [], harness := (true, "3215b373e7e3c6c7cbdd547865c8e444f2f379c8f8799bcd63d86d9a0bdf6353"), looks := false }, kinds := [], alts := [], laidByText := true, laidKinds := [.data], laidTests := true, laidLooks := .later }
def LangKindsCardSaid : Prop := Claim7.holds Tryz.pinned (.plain (OpenSpec.ofChange langKindsSpec)) langKindsCard

/-- THE TIED CARD OF 'strainerlaw12.LangWithin'. -/
def langWithinCard : Claim7 := { stood := { row := langWithinRow, standIns := [], harness := (true, "3215b373e7e3c6c7cbdd547865c8e444f2f379c8f8799bcd63d86d9a0bdf6353"), looks := false }, kinds := [], alts := [], laidByText := true, laidKinds := [.data], laidTests := true, laidLooks := .later }
def LangWithinCardSaid : Prop := Claim7.holds Tryz.pinned (.plain (OpenSpec.ofChange langWithinSpec)) langWithinCard

/-- THE SECOND FORM's CARD OF 'strainerlaw12.LangAllows'. -/
def langAllowsUptoCard : Claim7 := { stood := { row := langAllowsUptoRow, standIns := [], harness := (true, "3215b373e7e3c6c7cbdd547865c8e444f2f379c8f8799bcd63d86d9a0bdf6353"), looks := false }, kinds := [], alts := [], laidByText := true, laidKinds := [.data], laidTests := true, laidLooks := .later }
def LangAllowsUptoCardSaid : Prop := Claim7.holds Tryz.pinned (.plain (OpenSpec.upto langAllowsSpec)) langAllowsUptoCard

/-- THE SECOND FORM's CARD OF 'strainerlaw12.LangExamples'. -/
def langExamplesUptoCard : Claim7 := { stood := { row := langExamplesUptoRow, standIns := [], harness := (true, "3215b373e7e3c6c7cbdd547865c8e444f2f379c8f8799bcd63d86d9a0bdf6353"), looks := false }, kinds := [], alts := [], laidByText := true, laidKinds := [.data], laidTests := true, laidLooks := .later }
def LangExamplesUptoCardSaid : Prop := Claim7.holds Tryz.pinned (.plain (OpenSpec.upto langExamplesSpec)) langExamplesUptoCard

/-- THE SECOND FORM's CARD OF 'strainerlaw12.LangKinds'. -/
def langKindsUptoCard : Claim7 := { stood := { row := langKindsUptoRow, standIns := [], harness := (true, "3215b373e7e3c6c7cbdd547865c8e444f2f379c8f8799bcd63d86d9a0bdf6353"), looks := false }, kinds := [], alts := [], laidByText := true, laidKinds := [.data], laidTests := true, laidLooks := .later }
def LangKindsUptoCardSaid : Prop := Claim7.holds Tryz.pinned (.plain (OpenSpec.upto langKindsSpec)) langKindsUptoCard

/-- THE SECOND FORM's CARD OF 'strainerlaw12.LangWithin'. -/
def langWithinUptoCard : Claim7 := { stood := { row := langWithinUptoRow, standIns := [], harness := (true, "3215b373e7e3c6c7cbdd547865c8e444f2f379c8f8799bcd63d86d9a0bdf6353"), looks := false }, kinds := [], alts := [], laidByText := true, laidKinds := [.data], laidTests := true, laidLooks := .later }
def LangWithinUptoCardSaid : Prop := Claim7.holds Tryz.pinned (.plain (OpenSpec.upto langWithinSpec)) langWithinUptoCard
end Rows
end Go.Proofs.YtkeanhihgfnkoaaGreatDoor
