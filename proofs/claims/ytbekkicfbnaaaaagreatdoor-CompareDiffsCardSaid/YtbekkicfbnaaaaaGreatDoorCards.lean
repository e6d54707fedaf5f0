/-
  DERIVED. GIVEN WITH THE SEED: THE CARDS: each row of YtbekkicfbnaaaaaGreatDoorRows.lean that lists a variable, with what it lists TIED to the program's text (the seventh form; the later family's looks); each row that meets fmt, with fmt's text TOLD by the authors' own Lean function (tested against real Go, not proved from fmt's source: count such statements apart). THE CARD IS WHAT COUNTS. Prove the row's statement (the work); the ties are given (YtbekkicfbnaaaaaGreatDoorTie.lean); close each card by the builder's one call (the guide's Derived/Test/ToyasCard.lean, 'card_holds'). Laid BY PROGRAM, IN A SANDBOX (cutbox-door.mjs). By AI agents, Wed Nov 11 2026. No macro, syntax, notation, axiom, sorry.
-/
import Derived.Test.YtbekkicfbnaaaaaGreatDoorRows
import GoSem.ClaimSeven
namespace Go.Proofs.YtbekkicfbnaaaaaGreatDoor
namespace Rows

/-- THE TIED CARD OF 'strainerlaw20.CompareCosts'. -/
def compareCostsCard : Claim7 := { stood := { row := compareCostsRow, standIns := [], harness := (true, "ad193a4196427cea60dee7487fc97e7d6172ae4f393f0c0f5948664d18644e23"), looks := true }, kinds := [], alts := [], laidByText := true, laidKinds := [.data], laidTests := true, laidLooks := .later }
def CompareCostsCardSaid : Prop := Claim7.holds Tryz.pinned (.plain (OpenSpec.ofChange compareCostsSpec)) compareCostsCard

/-- THE TIED CARD OF 'strainerlaw20.CompareLeast'. -/
def compareLeastCard : Claim7 := { stood := { row := compareLeastRow, standIns := [], harness := (true, "ad193a4196427cea60dee7487fc97e7d6172ae4f393f0c0f5948664d18644e23"), looks := true }, kinds := [], alts := [], laidByText := true, laidKinds := [.data], laidTests := true, laidLooks := .later }
def CompareLeastCardSaid : Prop := Claim7.holds Tryz.pinned (.plain (OpenSpec.ofChange compareLeastSpec)) compareLeastCard

/-- THE TIED CARD OF 'strainerlaw20.CompareDiffs'. -/
def compareDiffsCard : Claim7 := { stood := { row := compareDiffsRow, standIns := [], harness := (true, "ad193a4196427cea60dee7487fc97e7d6172ae4f393f0c0f5948664d18644e23"), looks := true }, kinds := [], alts := [], laidByText := true, laidKinds := [.data], laidTests := true, laidLooks := .later }
def CompareDiffsCardSaid : Prop := Claim7.holds Tryz.pinned (.plain (OpenSpec.ofChange compareDiffsSpec)) compareDiffsCard

/-- THE TIED CARD OF 'strainerlaw20.CompareChain'. -/
def compareChainCard : Claim7 := { stood := { row := compareChainRow, standIns := [], harness := (true, "ad193a4196427cea60dee7487fc97e7d6172ae4f393f0c0f5948664d18644e23"), looks := true }, kinds := [], alts := [], laidByText := true, laidKinds := [.data], laidTests := true, laidLooks := .later }
def CompareChainCardSaid : Prop := Claim7.holds Tryz.pinned (.plain (OpenSpec.ofChange compareChainSpec)) compareChainCard

/-- THE SECOND FORM's CARD OF 'strainerlaw20.CompareCosts'. -/
def compareCostsUptoCard : Claim7 := { stood := { row := compareCostsUptoRow, standIns := [], harness := (true, "ad193a4196427cea60dee7487fc97e7d6172ae4f393f0c0f5948664d18644e23"), looks := true }, kinds := [], alts := [], laidByText := true, laidKinds := [.data], laidTests := true, laidLooks := .later }
def CompareCostsUptoCardSaid : Prop := Claim7.holds Tryz.pinned (.plain (OpenSpec.upto compareCostsSpec)) compareCostsUptoCard

/-- THE SECOND FORM's CARD OF 'strainerlaw20.CompareLeast'. -/
def compareLeastUptoCard : Claim7 := { stood := { row := compareLeastUptoRow, standIns := [], harness := (true, "ad193a4196427cea60dee7487fc97e7d6172ae4f393f0c0f5948664d18644e23"), looks := true }, kinds := [], alts := [], laidByText := true, laidKinds := [.data], laidTests := true, laidLooks := .later }
def CompareLeastUptoCardSaid : Prop := Claim7.holds Tryz.pinned (.plain (OpenSpec.upto compareLeastSpec)) compareLeastUptoCard

/-- THE SECOND FORM's CARD OF 'strainerlaw20.CompareDiffs'. -/
def compareDiffsUptoCard : Claim7 := { stood := { row := compareDiffsUptoRow, standIns := [], harness := (true, "ad193a4196427cea60dee7487fc97e7d6172ae4f393f0c0f5948664d18644e23"), looks := true }, kinds := [], alts := [], laidByText := true, laidKinds := [.data], laidTests := true, laidLooks := .later }
def CompareDiffsUptoCardSaid : Prop := Claim7.holds Tryz.pinned (.plain (OpenSpec.upto compareDiffsSpec)) compareDiffsUptoCard

/-- THE SECOND FORM's CARD OF 'strainerlaw20.CompareChain'. -/
def compareChainUptoCard : Claim7 := { stood := { row := compareChainUptoRow, standIns := [], harness := (true, "ad193a4196427cea60dee7487fc97e7d6172ae4f393f0c0f5948664d18644e23"), looks := true }, kinds := [], alts := [], laidByText := true, laidKinds := [.data], laidTests := true, laidLooks := .later }
def CompareChainUptoCardSaid : Prop := Claim7.holds Tryz.pinned (.plain (OpenSpec.upto compareChainSpec)) compareChainUptoCard
end Rows
end Go.Proofs.YtbekkicfbnaaaaaGreatDoor
