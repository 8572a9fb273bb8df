/-
  DERIVED. GIVEN WITH THE SEED: THE CARDS: each row of YtoggbmfjkcbilaaDoorRows.lean that lists a variable, with what it lists TIED to the program's text (the seventh form; the later family's looks); each row that meets fmt, with fmt's text TOLD by the authors' own Lean function (tested against real Go, not proved from fmt's source: count such statements apart). THE CARD IS WHAT COUNTS. Prove the row's statement (the work); the ties are given (YtoggbmfjkcbilaaDoorTie.lean); close each card by the builder's one call (the guide's Derived/Test/ToyasCard.lean, 'card_holds'). Laid BY PROGRAM, IN A SANDBOX (cutbox-door.mjs). By AI agents, Wed Nov 11 2026. No macro, syntax, notation, axiom, sorry.
-/
import Derived.Test.YtoggbmfjkcbilaaDoorRows
import GoSem.ClaimSeven
namespace Go.Proofs.YtoggbmfjkcbilaaDoor
namespace Rows

/-- THE TIED CARD OF 'winnowlaw12.CongMeets'. -/
def congMeetsCard : Claim7 := { stood := { row := congMeetsRow, standIns := [], harness := (true, "da5d5e13368c32a5ca5f1765fff494c00b981b02b698d99851f5200e9e53ed59"), looks := false }, kinds := [], alts := [], laidByText := true, laidKinds := [.data], laidTests := true, laidLooks := .later }
def CongMeetsCardSaid : Prop := Claim7.holds Tryd.pinned (.plain (OpenSpec.ofChange congMeetsSpec)) congMeetsCard

/-- THE TIED CARD OF 'winnowlaw12.CongSets'. -/
def congSetsCard : Claim7 := { stood := { row := congSetsRow, standIns := [], harness := (true, "da5d5e13368c32a5ca5f1765fff494c00b981b02b698d99851f5200e9e53ed59"), looks := false }, kinds := [], alts := [], laidByText := true, laidKinds := [.data], laidTests := true, laidLooks := .later }
def CongSetsCardSaid : Prop := Claim7.holds Tryd.pinned (.plain (OpenSpec.ofChange congSetsSpec)) congSetsCard

/-- THE TIED CARD OF 'winnowlaw12.CongSteps'. -/
def congStepsCard : Claim7 := { stood := { row := congStepsRow, standIns := [], harness := (true, "da5d5e13368c32a5ca5f1765fff494c00b981b02b698d99851f5200e9e53ed59"), looks := false }, kinds := [], alts := [], laidByText := true, laidKinds := [.data], laidTests := true, laidLooks := .later }
def CongStepsCardSaid : Prop := Claim7.holds Tryd.pinned (.plain (OpenSpec.ofChange congStepsSpec)) congStepsCard

/-- THE TIED CARD OF 'winnowlaw12.CongOps'. -/
def congOpsCard : Claim7 := { stood := { row := congOpsRow, standIns := [], harness := (true, "da5d5e13368c32a5ca5f1765fff494c00b981b02b698d99851f5200e9e53ed59"), looks := false }, kinds := [], alts := [], laidByText := true, laidKinds := [.data, .data, .data], laidTests := true, laidLooks := .later }
def CongOpsCardSaid : Prop := Claim7.holds Tryd.pinned (.plain (OpenSpec.ofChange congOpsSpec)) congOpsCard

/-- THE TIED CARD OF 'winnowlaw12.CongHolds'. -/
def congHoldsCard : Claim7 := { stood := { row := congHoldsRow, standIns := [], harness := (true, "da5d5e13368c32a5ca5f1765fff494c00b981b02b698d99851f5200e9e53ed59"), looks := false }, kinds := [], alts := [], laidByText := true, laidKinds := [.data, .data, .data], laidTests := true, laidLooks := .later }
def CongHoldsCardSaid : Prop := Claim7.holds Tryd.pinned (.plain (OpenSpec.ofChange congHoldsSpec)) congHoldsCard

/-- THE SECOND FORM's CARD OF 'winnowlaw12.CongMeets'. -/
def congMeetsUptoCard : Claim7 := { stood := { row := congMeetsUptoRow, standIns := [], harness := (true, "da5d5e13368c32a5ca5f1765fff494c00b981b02b698d99851f5200e9e53ed59"), looks := false }, kinds := [], alts := [], laidByText := true, laidKinds := [.data], laidTests := true, laidLooks := .later }
def CongMeetsUptoCardSaid : Prop := Claim7.holds Tryd.pinned (.plain (OpenSpec.upto congMeetsSpec)) congMeetsUptoCard

/-- THE SECOND FORM's CARD OF 'winnowlaw12.CongSets'. -/
def congSetsUptoCard : Claim7 := { stood := { row := congSetsUptoRow, standIns := [], harness := (true, "da5d5e13368c32a5ca5f1765fff494c00b981b02b698d99851f5200e9e53ed59"), looks := false }, kinds := [], alts := [], laidByText := true, laidKinds := [.data], laidTests := true, laidLooks := .later }
def CongSetsUptoCardSaid : Prop := Claim7.holds Tryd.pinned (.plain (OpenSpec.upto congSetsSpec)) congSetsUptoCard

/-- THE SECOND FORM's CARD OF 'winnowlaw12.CongSteps'. -/
def congStepsUptoCard : Claim7 := { stood := { row := congStepsUptoRow, standIns := [], harness := (true, "da5d5e13368c32a5ca5f1765fff494c00b981b02b698d99851f5200e9e53ed59"), looks := false }, kinds := [], alts := [], laidByText := true, laidKinds := [.data], laidTests := true, laidLooks := .later }
def CongStepsUptoCardSaid : Prop := Claim7.holds Tryd.pinned (.plain (OpenSpec.upto congStepsSpec)) congStepsUptoCard

/-- THE SECOND FORM's CARD OF 'winnowlaw12.CongOps'. -/
def congOpsUptoCard : Claim7 := { stood := { row := congOpsUptoRow, standIns := [], harness := (true, "da5d5e13368c32a5ca5f1765fff494c00b981b02b698d99851f5200e9e53ed59"), looks := false }, kinds := [], alts := [], laidByText := true, laidKinds := [.data, .data, .data], laidTests := true, laidLooks := .later }
def CongOpsUptoCardSaid : Prop := Claim7.holds Tryd.pinned (.plain (OpenSpec.upto congOpsSpec)) congOpsUptoCard

/-- THE SECOND FORM's CARD OF 'winnowlaw12.CongHolds'. -/
def congHoldsUptoCard : Claim7 := { stood := { row := congHoldsUptoRow, standIns := [], harness := (true, "da5d5e13368c32a5ca5f1765fff494c00b981b02b698d99851f5200e9e53ed59"), looks := false }, kinds := [], alts := [], laidByText := true, laidKinds := [.data, .data, .data], laidTests := true, laidLooks := .later }
def CongHoldsUptoCardSaid : Prop := Claim7.holds Tryd.pinned (.plain (OpenSpec.upto congHoldsSpec)) congHoldsUptoCard
end Rows
end Go.Proofs.YtoggbmfjkcbilaaDoor
