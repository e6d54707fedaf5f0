/-
  DERIVED. GIVEN WITH THE SEED: THE CARDS: each row of YtnnbodoijkbceaaGreatDoorRows.lean that lists a variable, with what it lists TIED to the program's text (the seventh form; the later family's looks); each row that meets fmt, with fmt's text TOLD by the authors' own Lean function (tested against real Go, not proved from fmt's source: count such statements apart). THE CARD IS WHAT COUNTS. Prove the row's statement (the work); the ties are given (YtnnbodoijkbceaaGreatDoorTie.lean); close each card by the builder's one call (the guide's Derived/Test/ToyasCard.lean, 'card_holds'). Laid BY PROGRAM, IN A SANDBOX (cutbox-door.mjs). By AI agents, Wed Nov 11 2026. No macro, syntax, notation, axiom, sorry.
-/
import Derived.Test.YtnnbodoijkbceaaGreatDoorRows
import GoSem.ClaimSeven
namespace Go.Proofs.YtnnbodoijkbceaaGreatDoor
namespace Rows

/-- THE TIED CARD OF 'strainerlaw16.CleanAllows'. -/
def cleanAllowsCard : Claim7 := { stood := { row := cleanAllowsRow, standIns := [], harness := (true, "05e324b27eb968f58b77ed464e4e8334d37cb98bd7b9d0d35decc9d7ea415a49"), looks := true }, kinds := [], alts := [], laidByText := true, laidKinds := [.data, .pinned], laidTests := true, laidLooks := .later }
def CleanAllowsCardSaid : Prop := Claim7.holds Tryz.pinned (.plain (OpenSpec.ofChange cleanAllowsSpec)) cleanAllowsCard

/-- THE TIED CARD OF 'strainerlaw16.CleanSettles'. -/
def cleanSettlesCard : Claim7 := { stood := { row := cleanSettlesRow, standIns := [], harness := (true, "05e324b27eb968f58b77ed464e4e8334d37cb98bd7b9d0d35decc9d7ea415a49"), looks := true }, kinds := [], alts := [], laidByText := true, laidKinds := [.data, .pinned], laidTests := true, laidLooks := .later }
def CleanSettlesCardSaid : Prop := Claim7.holds Tryz.pinned (.plain (OpenSpec.ofChange cleanSettlesSpec)) cleanSettlesCard

/-- THE TIED CARD OF 'strainerlaw16.CleanPlain'. -/
def cleanPlainCard : Claim7 := { stood := { row := cleanPlainRow, standIns := [], harness := (true, "05e324b27eb968f58b77ed464e4e8334d37cb98bd7b9d0d35decc9d7ea415a49"), looks := true }, kinds := [], alts := [], laidByText := true, laidKinds := [.data, .pinned], laidTests := true, laidLooks := .later }
def CleanPlainCardSaid : Prop := Claim7.holds Tryz.pinned (.plain (OpenSpec.ofChange cleanPlainSpec)) cleanPlainCard

/-- THE TIED CARD OF 'strainerlaw16.CleanLess'. -/
def cleanLessCard : Claim7 := { stood := { row := cleanLessRow, standIns := [], harness := (true, "05e324b27eb968f58b77ed464e4e8334d37cb98bd7b9d0d35decc9d7ea415a49"), looks := true }, kinds := [], alts := [], laidByText := true, laidKinds := [.data, .pinned], laidTests := true, laidLooks := .later }
def CleanLessCardSaid : Prop := Claim7.holds Tryz.pinned (.plain (OpenSpec.ofChange cleanLessSpec)) cleanLessCard

/-- THE SECOND FORM's CARD OF 'strainerlaw16.CleanAllows'. -/
def cleanAllowsUptoCard : Claim7 := { stood := { row := cleanAllowsUptoRow, standIns := [], harness := (true, "05e324b27eb968f58b77ed464e4e8334d37cb98bd7b9d0d35decc9d7ea415a49"), looks := true }, kinds := [], alts := [], laidByText := true, laidKinds := [.data, .pinned], laidTests := true, laidLooks := .later }
def CleanAllowsUptoCardSaid : Prop := Claim7.holds Tryz.pinned (.plain (OpenSpec.upto cleanAllowsSpec)) cleanAllowsUptoCard

/-- THE SECOND FORM's CARD OF 'strainerlaw16.CleanSettles'. -/
def cleanSettlesUptoCard : Claim7 := { stood := { row := cleanSettlesUptoRow, standIns := [], harness := (true, "05e324b27eb968f58b77ed464e4e8334d37cb98bd7b9d0d35decc9d7ea415a49"), looks := true }, kinds := [], alts := [], laidByText := true, laidKinds := [.data, .pinned], laidTests := true, laidLooks := .later }
def CleanSettlesUptoCardSaid : Prop := Claim7.holds Tryz.pinned (.plain (OpenSpec.upto cleanSettlesSpec)) cleanSettlesUptoCard

/-- THE SECOND FORM's CARD OF 'strainerlaw16.CleanPlain'. -/
def cleanPlainUptoCard : Claim7 := { stood := { row := cleanPlainUptoRow, standIns := [], harness := (true, "05e324b27eb968f58b77ed464e4e8334d37cb98bd7b9d0d35decc9d7ea415a49"), looks := true }, kinds := [], alts := [], laidByText := true, laidKinds := [.data, .pinned], laidTests := true, laidLooks := .later }
def CleanPlainUptoCardSaid : Prop := Claim7.holds Tryz.pinned (.plain (OpenSpec.upto cleanPlainSpec)) cleanPlainUptoCard

/-- THE SECOND FORM's CARD OF 'strainerlaw16.CleanLess'. -/
def cleanLessUptoCard : Claim7 := { stood := { row := cleanLessUptoRow, standIns := [], harness := (true, "05e324b27eb968f58b77ed464e4e8334d37cb98bd7b9d0d35decc9d7ea415a49"), looks := true }, kinds := [], alts := [], laidByText := true, laidKinds := [.data, .pinned], laidTests := true, laidLooks := .later }
def CleanLessUptoCardSaid : Prop := Claim7.holds Tryz.pinned (.plain (OpenSpec.upto cleanLessSpec)) cleanLessUptoCard
end Rows
end Go.Proofs.YtnnbodoijkbceaaGreatDoor
