/-
  DERIVED. GIVEN WITH THE SEED: THE CARDS: each row of YtpblinccnkidfaaDoorRows.lean that lists a variable, with what it lists TIED to the program's text (the seventh form; the later family's looks); each row that meets fmt, with fmt's text TOLD by the authors' own Lean function (tested against real Go, not proved from fmt's source: count such statements apart). THE CARD IS WHAT COUNTS. Prove the row's statement (the work); the ties are given (YtpblinccnkidfaaDoorTie.lean); close each card by the builder's one call (the guide's Derived/Test/ToyasCard.lean, 'card_holds'). Laid BY PROGRAM, IN A SANDBOX (cutbox-door.mjs). By AI agents, Wed Nov 11 2026. No macro, syntax, notation, axiom, sorry.
-/
import Derived.Test.YtpblinccnkidfaaDoorRows
import GoSem.ClaimSeven
namespace Go.Proofs.YtpblinccnkidfaaDoor
namespace Rows

/-- THE TIED CARD OF 'strainerlaw11.DfaLeast'. -/
def dfaLeastCard : Claim7 := { stood := { row := dfaLeastRow, standIns := [], harness := (true, "a03f3e83c707ea727dcf857929f91b1c91b163ba9f2a2fe93dc16ca281e84612"), looks := false }, kinds := [], alts := [], laidByText := true, laidKinds := [.data], laidTests := true, laidLooks := .later }
def DfaLeastCardSaid : Prop := Claim7.holds Tryd.pinned (.plain (OpenSpec.ofChange dfaLeastSpec)) dfaLeastCard

/-- THE TIED CARD OF 'strainerlaw11.DfaMay'. -/
def dfaMayCard : Claim7 := { stood := { row := dfaMayRow, standIns := [], harness := (true, "a03f3e83c707ea727dcf857929f91b1c91b163ba9f2a2fe93dc16ca281e84612"), looks := false }, kinds := [], alts := [], laidByText := true, laidKinds := [.data], laidTests := true, laidLooks := .later }
def DfaMayCardSaid : Prop := Claim7.holds Tryd.pinned (.plain (OpenSpec.ofChange dfaMaySpec)) dfaMayCard

/-- THE TIED CARD OF 'strainerlaw11.DfaForms'. -/
def dfaFormsCard : Claim7 := { stood := { row := dfaFormsRow, standIns := [], harness := (true, "a03f3e83c707ea727dcf857929f91b1c91b163ba9f2a2fe93dc16ca281e84612"), looks := false }, kinds := [], alts := [], laidByText := true, laidKinds := [.data], laidTests := true, laidLooks := .later }
def DfaFormsCardSaid : Prop := Claim7.holds Tryd.pinned (.plain (OpenSpec.ofChange dfaFormsSpec)) dfaFormsCard

/-- THE TIED CARD OF 'strainerlaw11.DfaOne'. -/
def dfaOneCard : Claim7 := { stood := { row := dfaOneRow, standIns := [], harness := (true, "a03f3e83c707ea727dcf857929f91b1c91b163ba9f2a2fe93dc16ca281e84612"), looks := false }, kinds := [], alts := [], laidByText := true, laidKinds := [.data], laidTests := true, laidLooks := .later }
def DfaOneCardSaid : Prop := Claim7.holds Tryd.pinned (.plain (OpenSpec.ofChange dfaOneSpec)) dfaOneCard

/-- THE TIED CARD OF 'strainerlaw11.DfaAnds'. -/
def dfaAndsCard : Claim7 := { stood := { row := dfaAndsRow, standIns := [], harness := (true, "a03f3e83c707ea727dcf857929f91b1c91b163ba9f2a2fe93dc16ca281e84612"), looks := false }, kinds := [], alts := [], laidByText := true, laidKinds := [.data], laidTests := true, laidLooks := .later }
def DfaAndsCardSaid : Prop := Claim7.holds Tryd.pinned (.plain (OpenSpec.ofChange dfaAndsSpec)) dfaAndsCard

/-- THE TIED CARD OF 'strainerlaw11.DfaTwice'. -/
def dfaTwiceCard : Claim7 := { stood := { row := dfaTwiceRow, standIns := [], harness := (true, "a03f3e83c707ea727dcf857929f91b1c91b163ba9f2a2fe93dc16ca281e84612"), looks := false }, kinds := [], alts := [], laidByText := true, laidKinds := [.data], laidTests := true, laidLooks := .later }
def DfaTwiceCardSaid : Prop := Claim7.holds Tryd.pinned (.plain (OpenSpec.ofChange dfaTwiceSpec)) dfaTwiceCard

/-- THE SECOND FORM's CARD OF 'strainerlaw11.DfaLeast'. -/
def dfaLeastUptoCard : Claim7 := { stood := { row := dfaLeastUptoRow, standIns := [], harness := (true, "a03f3e83c707ea727dcf857929f91b1c91b163ba9f2a2fe93dc16ca281e84612"), looks := false }, kinds := [], alts := [], laidByText := true, laidKinds := [.data], laidTests := true, laidLooks := .later }
def DfaLeastUptoCardSaid : Prop := Claim7.holds Tryd.pinned (.plain (OpenSpec.upto dfaLeastSpec)) dfaLeastUptoCard

/-- THE SECOND FORM's CARD OF 'strainerlaw11.DfaMay'. -/
def dfaMayUptoCard : Claim7 := { stood := { row := dfaMayUptoRow, standIns := [], harness := (true, "a03f3e83c707ea727dcf857929f91b1c91b163ba9f2a2fe93dc16ca281e84612"), looks := false }, kinds := [], alts := [], laidByText := true, laidKinds := [.data], laidTests := true, laidLooks := .later }
def DfaMayUptoCardSaid : Prop := Claim7.holds Tryd.pinned (.plain (OpenSpec.upto dfaMaySpec)) dfaMayUptoCard

/-- THE SECOND FORM's CARD OF 'strainerlaw11.DfaForms'. -/
def dfaFormsUptoCard : Claim7 := { stood := { row := dfaFormsUptoRow, standIns := [], harness := (true, "a03f3e83c707ea727dcf857929f91b1c91b163ba9f2a2fe93dc16ca281e84612"), looks := false }, kinds := [], alts := [], laidByText := true, laidKinds := [.data], laidTests := true, laidLooks := .later }
def DfaFormsUptoCardSaid : Prop := Claim7.holds Tryd.pinned (.plain (OpenSpec.upto dfaFormsSpec)) dfaFormsUptoCard

/-- THE SECOND FORM's CARD OF 'strainerlaw11.DfaOne'. -/
def dfaOneUptoCard : Claim7 := { stood := { row := dfaOneUptoRow, standIns := [], harness := (true, "a03f3e83c707ea727dcf857929f91b1c91b163ba9f2a2fe93dc16ca281e84612"), looks := false }, kinds := [], alts := [], laidByText := true, laidKinds := [.data], laidTests := true, laidLooks := .later }
def DfaOneUptoCardSaid : Prop := Claim7.holds Tryd.pinned (.plain (OpenSpec.upto dfaOneSpec)) dfaOneUptoCard

/-- THE SECOND FORM's CARD OF 'strainerlaw11.DfaAnds'. -/
def dfaAndsUptoCard : Claim7 := { stood := { row := dfaAndsUptoRow, standIns := [], harness := (true, "a03f3e83c707ea727dcf857929f91b1c91b163ba9f2a2fe93dc16ca281e84612"), looks := false }, kinds := [], alts := [], laidByText := true, laidKinds := [.data], laidTests := true, laidLooks := .later }
def DfaAndsUptoCardSaid : Prop := Claim7.holds Tryd.pinned (.plain (OpenSpec.upto dfaAndsSpec)) dfaAndsUptoCard

/-- THE SECOND FORM's CARD OF 'strainerlaw11.DfaTwice'. -/
def dfaTwiceUptoCard : Claim7 := { stood := { row := dfaTwiceUptoRow, standIns := [], harness := (true, "a03f3e83c707ea727dcf857929f91b1c91b163ba9f2a2fe93dc16ca281e84612"), looks := false }, kinds := [], alts := [], laidByText := true, laidKinds := [.data], laidTests := true, laidLooks := .later }
def DfaTwiceUptoCardSaid : Prop := Claim7.holds Tryd.pinned (.plain (OpenSpec.upto dfaTwiceSpec)) dfaTwiceUptoCard
end Rows
end Go.Proofs.YtpblinccnkidfaaDoor
