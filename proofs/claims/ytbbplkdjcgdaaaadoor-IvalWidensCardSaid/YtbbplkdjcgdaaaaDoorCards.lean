/-
  DERIVED. GIVEN WITH THE SEED: THE CARDS: each row of YtbbplkdjcgdaaaaDoorRows.lean that lists a variable, with what it lists TIED to the program's text (the seventh form; the later family's looks); each row that meets fmt, with fmt's text TOLD by the authors' own Lean function (tested against real Go, not proved from fmt's source: count such statements apart). THE CARD IS WHAT COUNTS. Prove the row's statement (the work); the ties are given (YtbbplkdjcgdaaaaDoorTie.lean); close each card by the builder's one call (the guide's Derived/Test/ToyasCard.lean, 'card_holds'). Laid BY PROGRAM, IN A SANDBOX (cutbox-door.mjs). By AI agents, Wed Nov 11 2026. No macro, syntax, notation, axiom, sorry.
-/
import Derived.Test.YtbbplkdjcgdaaaaDoorRows
import GoSem.ClaimSeven
namespace Go.Proofs.YtbbplkdjcgdaaaaDoor
namespace Rows

/-- THE TIED CARD OF 'winnowlaw11.IvalWidens'. -/
def ivalWidensCard : Claim7 := { stood := { row := ivalWidensRow, standIns := [], harness := (true, "35a955de9f08f4b611f0259ff061ec8323d06e30d1af693f66a6f1d304f096c6"), looks := false }, kinds := [], alts := [], laidByText := true, laidKinds := [.data, .data], laidTests := true, laidLooks := .later }
def IvalWidensCardSaid : Prop := Claim7.holds Tryd.pinned (.plain (OpenSpec.ofChange ivalWidensSpec)) ivalWidensCard

/-- THE TIED CARD OF 'winnowlaw11.IvalSets'. -/
def ivalSetsCard : Claim7 := { stood := { row := ivalSetsRow, standIns := [], harness := (true, "35a955de9f08f4b611f0259ff061ec8323d06e30d1af693f66a6f1d304f096c6"), looks := false }, kinds := [], alts := [], laidByText := true, laidKinds := [.data, .data], laidTests := true, laidLooks := .later }
def IvalSetsCardSaid : Prop := Claim7.holds Tryd.pinned (.plain (OpenSpec.ofChange ivalSetsSpec)) ivalSetsCard

/-- THE TIED CARD OF 'winnowlaw11.IvalOps'. -/
def ivalOpsCard : Claim7 := { stood := { row := ivalOpsRow, standIns := [], harness := (true, "35a955de9f08f4b611f0259ff061ec8323d06e30d1af693f66a6f1d304f096c6"), looks := false }, kinds := [], alts := [], laidByText := true, laidKinds := [.data, .data], laidTests := true, laidLooks := .later }
def IvalOpsCardSaid : Prop := Claim7.holds Tryd.pinned (.plain (OpenSpec.ofChange ivalOpsSpec)) ivalOpsCard

/-- THE TIED CARD OF 'winnowlaw11.IvalHulls'. -/
def ivalHullsCard : Claim7 := { stood := { row := ivalHullsRow, standIns := [], harness := (true, "35a955de9f08f4b611f0259ff061ec8323d06e30d1af693f66a6f1d304f096c6"), looks := false }, kinds := [], alts := [], laidByText := true, laidKinds := [.data, .data], laidTests := true, laidLooks := .later }
def IvalHullsCardSaid : Prop := Claim7.holds Tryd.pinned (.plain (OpenSpec.ofChange ivalHullsSpec)) ivalHullsCard

/-- THE TIED CARD OF 'winnowlaw11.IvalHolds'. -/
def ivalHoldsCard : Claim7 := { stood := { row := ivalHoldsRow, standIns := [], harness := (true, "35a955de9f08f4b611f0259ff061ec8323d06e30d1af693f66a6f1d304f096c6"), looks := false }, kinds := [], alts := [], laidByText := true, laidKinds := [.data, .data], laidTests := true, laidLooks := .later }
def IvalHoldsCardSaid : Prop := Claim7.holds Tryd.pinned (.plain (OpenSpec.ofChange ivalHoldsSpec)) ivalHoldsCard

/-- THE SECOND FORM's CARD OF 'winnowlaw11.IvalWidens'. -/
def ivalWidensUptoCard : Claim7 := { stood := { row := ivalWidensUptoRow, standIns := [], harness := (true, "35a955de9f08f4b611f0259ff061ec8323d06e30d1af693f66a6f1d304f096c6"), looks := false }, kinds := [], alts := [], laidByText := true, laidKinds := [.data, .data], laidTests := true, laidLooks := .later }
def IvalWidensUptoCardSaid : Prop := Claim7.holds Tryd.pinned (.plain (OpenSpec.upto ivalWidensSpec)) ivalWidensUptoCard

/-- THE SECOND FORM's CARD OF 'winnowlaw11.IvalSets'. -/
def ivalSetsUptoCard : Claim7 := { stood := { row := ivalSetsUptoRow, standIns := [], harness := (true, "35a955de9f08f4b611f0259ff061ec8323d06e30d1af693f66a6f1d304f096c6"), looks := false }, kinds := [], alts := [], laidByText := true, laidKinds := [.data, .data], laidTests := true, laidLooks := .later }
def IvalSetsUptoCardSaid : Prop := Claim7.holds Tryd.pinned (.plain (OpenSpec.upto ivalSetsSpec)) ivalSetsUptoCard

/-- THE SECOND FORM's CARD OF 'winnowlaw11.IvalOps'. -/
def ivalOpsUptoCard : Claim7 := { stood := { row := ivalOpsUptoRow, standIns := [], harness := (true, "35a955de9f08f4b611f0259ff061ec8323d06e30d1af693f66a6f1d304f096c6"), looks := false }, kinds := [], alts := [], laidByText := true, laidKinds := [.data, .data], laidTests := true, laidLooks := .later }
def IvalOpsUptoCardSaid : Prop := Claim7.holds Tryd.pinned (.plain (OpenSpec.upto ivalOpsSpec)) ivalOpsUptoCard

/-- THE SECOND FORM's CARD OF 'winnowlaw11.IvalHulls'. -/
def ivalHullsUptoCard : Claim7 := { stood := { row := ivalHullsUptoRow, standIns := [], harness := (true, "35a955de9f08f4b611f0259ff061ec8323d06e30d1af693f66a6f1d304f096c6"), looks := false }, kinds := [], alts := [], laidByText := true, laidKinds := [.data, .data], laidTests := true, laidLooks := .later }
def IvalHullsUptoCardSaid : Prop := Claim7.holds Tryd.pinned (.plain (OpenSpec.upto ivalHullsSpec)) ivalHullsUptoCard

/-- THE SECOND FORM's CARD OF 'winnowlaw11.IvalHolds'. -/
def ivalHoldsUptoCard : Claim7 := { stood := { row := ivalHoldsUptoRow, standIns := [], harness := (true, "35a955de9f08f4b611f0259ff061ec8323d06e30d1af693f66a6f1d304f096c6"), looks := false }, kinds := [], alts := [], laidByText := true, laidKinds := [.data, .data], laidTests := true, laidLooks := .later }
def IvalHoldsUptoCardSaid : Prop := Claim7.holds Tryd.pinned (.plain (OpenSpec.upto ivalHoldsSpec)) ivalHoldsUptoCard
end Rows
end Go.Proofs.YtbbplkdjcgdaaaaDoor
