/-
  DERIVED. GIVEN WITH THE SEED: THE CARDS: each row of YtfcgmfefdgcmjaaDoorRows.lean that lists a variable, with what it lists TIED to the program's text (the seventh form; the later family's looks); each row that meets fmt, with fmt's text TOLD by the authors' own Lean function (tested against real Go, not proved from fmt's source: count such statements apart). THE CARD IS WHAT COUNTS. Prove the row's statement (the work); the ties are given (YtfcgmfefdgcmjaaDoorTie.lean); close each card by the builder's one call (the guide's Derived/Test/ToyasCard.lean, 'card_holds'). Laid BY PROGRAM, IN A SANDBOX (cutbox-door.mjs). By AI agents, Wed Nov 11 2026. No macro, syntax, notation, axiom, sorry.
-/
import Derived.Test.YtfcgmfefdgcmjaaDoorRows
import GoSem.ClaimSeven
namespace Go.Proofs.YtfcgmfefdgcmjaaDoor
namespace Rows

/-- THE TIED CARD OF 'winnowlaw01.WordTexts'. -/
def wordTextsCard : Claim7 := { stood := { row := wordTextsRow, standIns := [], harness := (true, "72a21524d5dee9ac610736f4c07edf3914233f6b97fc01034be1072fff1bf0f0"), looks := true }, kinds := [], alts := [], laidByText := true, laidKinds := [.data, .data, .data, .sentinel, .sentinel], laidTests := true, laidLooks := .later }
def WordTextsCardSaid : Prop := Claim7.holds Tryd.pinned (.plain (OpenSpec.ofChange wordTextsSpec)) wordTextsCard

/-- THE TIED CARD OF 'winnowlaw01.WordDivides'. -/
def wordDividesCard : Claim7 := { stood := { row := wordDividesRow, standIns := [], harness := (true, "72a21524d5dee9ac610736f4c07edf3914233f6b97fc01034be1072fff1bf0f0"), looks := true }, kinds := [], alts := [], laidByText := true, laidKinds := [.data, .data, .data, .sentinel, .sentinel], laidTests := true, laidLooks := .later }
def WordDividesCardSaid : Prop := Claim7.holds Tryd.pinned (.plain (OpenSpec.ofChange wordDividesSpec)) wordDividesCard

/-- THE TIED CARD OF 'winnowlaw01.WordWhole'. -/
def wordWholeCard : Claim7 := { stood := { row := wordWholeRow, standIns := [], harness := (true, "72a21524d5dee9ac610736f4c07edf3914233f6b97fc01034be1072fff1bf0f0"), looks := true }, kinds := [], alts := [], laidByText := true, laidKinds := [.data, .data, .data, .sentinel, .sentinel], laidTests := true, laidLooks := .later }
def WordWholeCardSaid : Prop := Claim7.holds Tryd.pinned (.plain (OpenSpec.ofChange wordWholeSpec)) wordWholeCard

/-- THE TIED CARD OF 'winnowlaw01.WordOps'. -/
def wordOpsCard : Claim7 := { stood := { row := wordOpsRow, standIns := [], harness := (true, "72a21524d5dee9ac610736f4c07edf3914233f6b97fc01034be1072fff1bf0f0"), looks := true }, kinds := [], alts := [], laidByText := true, laidKinds := [.data, .data, .data, .sentinel, .sentinel], laidTests := true, laidLooks := .later }
def WordOpsCardSaid : Prop := Claim7.holds Tryd.pinned (.plain (OpenSpec.ofChange wordOpsSpec)) wordOpsCard

/-- THE SECOND FORM's CARD OF 'winnowlaw01.WordTexts'. -/
def wordTextsUptoCard : Claim7 := { stood := { row := wordTextsUptoRow, standIns := [], harness := (true, "72a21524d5dee9ac610736f4c07edf3914233f6b97fc01034be1072fff1bf0f0"), looks := true }, kinds := [], alts := [], laidByText := true, laidKinds := [.data, .data, .data, .sentinel, .sentinel], laidTests := true, laidLooks := .later }
def WordTextsUptoCardSaid : Prop := Claim7.holds Tryd.pinned (.plain (OpenSpec.upto wordTextsSpec)) wordTextsUptoCard

/-- THE SECOND FORM's CARD OF 'winnowlaw01.WordDivides'. -/
def wordDividesUptoCard : Claim7 := { stood := { row := wordDividesUptoRow, standIns := [], harness := (true, "72a21524d5dee9ac610736f4c07edf3914233f6b97fc01034be1072fff1bf0f0"), looks := true }, kinds := [], alts := [], laidByText := true, laidKinds := [.data, .data, .data, .sentinel, .sentinel], laidTests := true, laidLooks := .later }
def WordDividesUptoCardSaid : Prop := Claim7.holds Tryd.pinned (.plain (OpenSpec.upto wordDividesSpec)) wordDividesUptoCard

/-- THE SECOND FORM's CARD OF 'winnowlaw01.WordWhole'. -/
def wordWholeUptoCard : Claim7 := { stood := { row := wordWholeUptoRow, standIns := [], harness := (true, "72a21524d5dee9ac610736f4c07edf3914233f6b97fc01034be1072fff1bf0f0"), looks := true }, kinds := [], alts := [], laidByText := true, laidKinds := [.data, .data, .data, .sentinel, .sentinel], laidTests := true, laidLooks := .later }
def WordWholeUptoCardSaid : Prop := Claim7.holds Tryd.pinned (.plain (OpenSpec.upto wordWholeSpec)) wordWholeUptoCard

/-- THE SECOND FORM's CARD OF 'winnowlaw01.WordOps'. -/
def wordOpsUptoCard : Claim7 := { stood := { row := wordOpsUptoRow, standIns := [], harness := (true, "72a21524d5dee9ac610736f4c07edf3914233f6b97fc01034be1072fff1bf0f0"), looks := true }, kinds := [], alts := [], laidByText := true, laidKinds := [.data, .data, .data, .sentinel, .sentinel], laidTests := true, laidLooks := .later }
def WordOpsUptoCardSaid : Prop := Claim7.holds Tryd.pinned (.plain (OpenSpec.upto wordOpsSpec)) wordOpsUptoCard
end Rows
end Go.Proofs.YtfcgmfefdgcmjaaDoor
