/-
  DERIVED. GIVEN WITH THE SEED: THE CARDS: each row of YtonpbbhlmapbdaaGreatDoorRows.lean that lists a variable, with what it lists TIED to the program's text (the seventh form; the later family's looks); each row that meets fmt, with fmt's text TOLD by the authors' own Lean function (tested against real Go, not proved from fmt's source: count such statements apart). THE CARD IS WHAT COUNTS. Prove the row's statement (the work); the ties are given (YtonpbbhlmapbdaaGreatDoorTie.lean); close each card by the builder's one call (the guide's Derived/Test/ToyasCard.lean, 'card_holds'). Laid BY PROGRAM, IN A SANDBOX (cutbox-door.mjs). By AI agents, Wed Nov 11 2026. No macro, syntax, notation, axiom, sorry.
-/
import Derived.Test.YtonpbbhlmapbdaaGreatDoorRows
import GoSem.ClaimSeven
namespace Go.Proofs.YtonpbbhlmapbdaaGreatDoor
namespace Rows

/-- THE TIED CARD OF 'winnowlaw13.NumHolds'. -/
def numHoldsCard : Claim7 := { stood := { row := numHoldsRow, standIns := [], harness := (true, "f676dd6e84a603e404f0cc4343bb332e961659a81497f21cacdba83058b1108a"), looks := false }, kinds := [], alts := [], laidByText := true, laidKinds := [.data, .data, .data, .data, .data], laidTests := true, laidLooks := .later }
def NumHoldsCardSaid : Prop := Claim7.holds Tryz.pinned (.plain (OpenSpec.ofChange numHoldsSpec)) numHoldsCard

/-- THE TIED CARD OF 'winnowlaw13.NumSets'. -/
def numSetsCard : Claim7 := { stood := { row := numSetsRow, standIns := [], harness := (true, "f676dd6e84a603e404f0cc4343bb332e961659a81497f21cacdba83058b1108a"), looks := false }, kinds := [], alts := [], laidByText := true, laidKinds := [.data, .data, .data, .data, .data], laidTests := true, laidLooks := .later }
def NumSetsCardSaid : Prop := Claim7.holds Tryz.pinned (.plain (OpenSpec.ofChange numSetsSpec)) numSetsCard

/-- THE TIED CARD OF 'winnowlaw13.NumForms'. -/
def numFormsCard : Claim7 := { stood := { row := numFormsRow, standIns := [], harness := (true, "f676dd6e84a603e404f0cc4343bb332e961659a81497f21cacdba83058b1108a"), looks := false }, kinds := [], alts := [], laidByText := true, laidKinds := [.data, .data, .data, .data, .data], laidTests := true, laidLooks := .later }
def NumFormsCardSaid : Prop := Claim7.holds Tryz.pinned (.plain (OpenSpec.ofChange numFormsSpec)) numFormsCard

/-- THE TIED CARD OF 'winnowlaw13.NumOps'. -/
def numOpsCard : Claim7 := { stood := { row := numOpsRow, standIns := [], harness := (true, "f676dd6e84a603e404f0cc4343bb332e961659a81497f21cacdba83058b1108a"), looks := false }, kinds := [], alts := [], laidByText := true, laidKinds := [.data, .data, .data, .data, .data], laidTests := true, laidLooks := .later }
def NumOpsCardSaid : Prop := Claim7.holds Tryz.pinned (.plain (OpenSpec.ofChange numOpsSpec)) numOpsCard

/-- THE TIED CARD OF 'winnowlaw13.NumRows'. -/
def numRowsCard : Claim7 := { stood := { row := numRowsRow, standIns := [], harness := (true, "f676dd6e84a603e404f0cc4343bb332e961659a81497f21cacdba83058b1108a"), looks := false }, kinds := [], alts := [], laidByText := true, laidKinds := [.data, .data, .data, .data, .data], laidTests := true, laidLooks := .later }
def NumRowsCardSaid : Prop := Claim7.holds Tryz.pinned (.plain (OpenSpec.ofChange numRowsSpec)) numRowsCard

/-- THE TIED CARD OF 'winnowlaw14.InvSolves'. -/
def invSolvesCard : Claim7 := { stood := { row := invSolvesRow, standIns := [], harness := (true, "f676dd6e84a603e404f0cc4343bb332e961659a81497f21cacdba83058b1108a"), looks := false }, kinds := [], alts := [], laidByText := true, laidKinds := [.data, .data, .data, .data, .data], laidTests := true, laidLooks := .later }
def InvSolvesCardSaid : Prop := Claim7.holds Tryz.pinned (.plain (OpenSpec.ofChange invSolvesSpec)) invSolvesCard

/-- THE TIED CARD OF 'winnowlaw14.InvCompares'. -/
def invComparesCard : Claim7 := { stood := { row := invComparesRow, standIns := [], harness := (true, "f676dd6e84a603e404f0cc4343bb332e961659a81497f21cacdba83058b1108a"), looks := false }, kinds := [], alts := [], laidByText := true, laidKinds := [.data, .data, .data, .data, .data], laidTests := true, laidLooks := .later }
def InvComparesCardSaid : Prop := Claim7.holds Tryz.pinned (.plain (OpenSpec.ofChange invComparesSpec)) invComparesCard

/-- THE TIED CARD OF 'winnowlaw14.InvKeeps'. -/
def invKeepsCard : Claim7 := { stood := { row := invKeepsRow, standIns := [], harness := (true, "f676dd6e84a603e404f0cc4343bb332e961659a81497f21cacdba83058b1108a"), looks := false }, kinds := [], alts := [], laidByText := true, laidKinds := [.data, .data, .data, .data, .data], laidTests := true, laidLooks := .later }
def InvKeepsCardSaid : Prop := Claim7.holds Tryz.pinned (.plain (OpenSpec.ofChange invKeepsSpec)) invKeepsCard

/-- THE TIED CARD OF 'winnowlaw14.InvHolds'. -/
def invHoldsCard : Claim7 := { stood := { row := invHoldsRow, standIns := [], harness := (true, "f676dd6e84a603e404f0cc4343bb332e961659a81497f21cacdba83058b1108a"), looks := false }, kinds := [], alts := [], laidByText := true, laidKinds := [.data, .data, .data, .data, .data], laidTests := true, laidLooks := .later }
def InvHoldsCardSaid : Prop := Claim7.holds Tryz.pinned (.plain (OpenSpec.ofChange invHoldsSpec)) invHoldsCard

/-- THE TIED CARD OF 'winnowlaw14.InvTurned'. -/
def invTurnedCard : Claim7 := { stood := { row := invTurnedRow, standIns := [], harness := (true, "f676dd6e84a603e404f0cc4343bb332e961659a81497f21cacdba83058b1108a"), looks := false }, kinds := [], alts := [], laidByText := true, laidKinds := [.data, .data, .data, .data, .data], laidTests := true, laidLooks := .later }
def InvTurnedCardSaid : Prop := Claim7.holds Tryz.pinned (.plain (OpenSpec.ofChange invTurnedSpec)) invTurnedCard

/-- THE SECOND FORM's CARD OF 'winnowlaw13.NumHolds'. -/
def numHoldsUptoCard : Claim7 := { stood := { row := numHoldsUptoRow, standIns := [], harness := (true, "f676dd6e84a603e404f0cc4343bb332e961659a81497f21cacdba83058b1108a"), looks := false }, kinds := [], alts := [], laidByText := true, laidKinds := [.data, .data, .data, .data, .data], laidTests := true, laidLooks := .later }
def NumHoldsUptoCardSaid : Prop := Claim7.holds Tryz.pinned (.plain (OpenSpec.upto numHoldsSpec)) numHoldsUptoCard

/-- THE SECOND FORM's CARD OF 'winnowlaw13.NumSets'. -/
def numSetsUptoCard : Claim7 := { stood := { row := numSetsUptoRow, standIns := [], harness := (true, "f676dd6e84a603e404f0cc4343bb332e961659a81497f21cacdba83058b1108a"), looks := false }, kinds := [], alts := [], laidByText := true, laidKinds := [.data, .data, .data, .data, .data], laidTests := true, laidLooks := .later }
def NumSetsUptoCardSaid : Prop := Claim7.holds Tryz.pinned (.plain (OpenSpec.upto numSetsSpec)) numSetsUptoCard

/-- THE SECOND FORM's CARD OF 'winnowlaw13.NumForms'. -/
def numFormsUptoCard : Claim7 := { stood := { row := numFormsUptoRow, standIns := [], harness := (true, "f676dd6e84a603e404f0cc4343bb332e961659a81497f21cacdba83058b1108a"), looks := false }, kinds := [], alts := [], laidByText := true, laidKinds := [.data, .data, .data, .data, .data], laidTests := true, laidLooks := .later }
def NumFormsUptoCardSaid : Prop := Claim7.holds Tryz.pinned (.plain (OpenSpec.upto numFormsSpec)) numFormsUptoCard

/-- THE SECOND FORM's CARD OF 'winnowlaw13.NumOps'. -/
def numOpsUptoCard : Claim7 := { stood := { row := numOpsUptoRow, standIns := [], harness := (true, "f676dd6e84a603e404f0cc4343bb332e961659a81497f21cacdba83058b1108a"), looks := false }, kinds := [], alts := [], laidByText := true, laidKinds := [.data, .data, .data, .data, .data], laidTests := true, laidLooks := .later }
def NumOpsUptoCardSaid : Prop := Claim7.holds Tryz.pinned (.plain (OpenSpec.upto numOpsSpec)) numOpsUptoCard

/-- THE SECOND FORM's CARD OF 'winnowlaw13.NumRows'. -/
def numRowsUptoCard : Claim7 := { stood := { row := numRowsUptoRow, standIns := [], harness := (true, "f676dd6e84a603e404f0cc4343bb332e961659a81497f21cacdba83058b1108a"), looks := false }, kinds := [], alts := [], laidByText := true, laidKinds := [.data, .data, .data, .data, .data], laidTests := true, laidLooks := .later }
def NumRowsUptoCardSaid : Prop := Claim7.holds Tryz.pinned (.plain (OpenSpec.upto numRowsSpec)) numRowsUptoCard

/-- THE SECOND FORM's CARD OF 'winnowlaw14.InvSolves'. -/
def invSolvesUptoCard : Claim7 := { stood := { row := invSolvesUptoRow, standIns := [], harness := (true, "f676dd6e84a603e404f0cc4343bb332e961659a81497f21cacdba83058b1108a"), looks := false }, kinds := [], alts := [], laidByText := true, laidKinds := [.data, .data, .data, .data, .data], laidTests := true, laidLooks := .later }
def InvSolvesUptoCardSaid : Prop := Claim7.holds Tryz.pinned (.plain (OpenSpec.upto invSolvesSpec)) invSolvesUptoCard

/-- THE SECOND FORM's CARD OF 'winnowlaw14.InvCompares'. -/
def invComparesUptoCard : Claim7 := { stood := { row := invComparesUptoRow, standIns := [], harness := (true, "f676dd6e84a603e404f0cc4343bb332e961659a81497f21cacdba83058b1108a"), looks := false }, kinds := [], alts := [], laidByText := true, laidKinds := [.data, .data, .data, .data, .data], laidTests := true, laidLooks := .later }
def InvComparesUptoCardSaid : Prop := Claim7.holds Tryz.pinned (.plain (OpenSpec.upto invComparesSpec)) invComparesUptoCard

/-- THE SECOND FORM's CARD OF 'winnowlaw14.InvKeeps'. -/
def invKeepsUptoCard : Claim7 := { stood := { row := invKeepsUptoRow, standIns := [], harness := (true, "f676dd6e84a603e404f0cc4343bb332e961659a81497f21cacdba83058b1108a"), looks := false }, kinds := [], alts := [], laidByText := true, laidKinds := [.data, .data, .data, .data, .data], laidTests := true, laidLooks := .later }
def InvKeepsUptoCardSaid : Prop := Claim7.holds Tryz.pinned (.plain (OpenSpec.upto invKeepsSpec)) invKeepsUptoCard

/-- THE SECOND FORM's CARD OF 'winnowlaw14.InvHolds'. -/
def invHoldsUptoCard : Claim7 := { stood := { row := invHoldsUptoRow, standIns := [], harness := (true, "f676dd6e84a603e404f0cc4343bb332e961659a81497f21cacdba83058b1108a"), looks := false }, kinds := [], alts := [], laidByText := true, laidKinds := [.data, .data, .data, .data, .data], laidTests := true, laidLooks := .later }
def InvHoldsUptoCardSaid : Prop := Claim7.holds Tryz.pinned (.plain (OpenSpec.upto invHoldsSpec)) invHoldsUptoCard

/-- THE SECOND FORM's CARD OF 'winnowlaw14.InvTurned'. -/
def invTurnedUptoCard : Claim7 := { stood := { row := invTurnedUptoRow, standIns := [], harness := (true, "f676dd6e84a603e404f0cc4343bb332e961659a81497f21cacdba83058b1108a"), looks := false }, kinds := [], alts := [], laidByText := true, laidKinds := [.data, .data, .data, .data, .data], laidTests := true, laidLooks := .later }
def InvTurnedUptoCardSaid : Prop := Claim7.holds Tryz.pinned (.plain (OpenSpec.upto invTurnedSpec)) invTurnedUptoCard
end Rows
end Go.Proofs.YtonpbbhlmapbdaaGreatDoor
