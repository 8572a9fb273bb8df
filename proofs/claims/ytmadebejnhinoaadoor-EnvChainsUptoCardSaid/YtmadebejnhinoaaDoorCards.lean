/-
  DERIVED. GIVEN WITH THE SEED: THE CARDS: each row of YtmadebejnhinoaaDoorRows.lean that lists a variable, with what it lists TIED to the program's text (the seventh form; the later family's looks); each row that meets fmt, with fmt's text TOLD by the authors' own Lean function (tested against real Go, not proved from fmt's source: count such statements apart). THE CARD IS WHAT COUNTS. Prove the row's statement (the work); the ties are given (YtmadebejnhinoaaDoorTie.lean); close each card by the builder's one call (the guide's Derived/Test/ToyasCard.lean, 'card_holds'). Laid BY PROGRAM, IN A SANDBOX (cutbox-door.mjs). By AI agents, Wed Nov 11 2026. No macro, syntax, notation, axiom, sorry.
-/
import Derived.Test.YtmadebejnhinoaaDoorRows
import GoSem.ClaimSeven
namespace Go.Proofs.YtmadebejnhinoaaDoor
namespace Rows

/-- THE TIED CARD OF 'winnowlaw15.EnvOrders'. -/
def envOrdersCard : Claim7 := { stood := { row := envOrdersRow, standIns := [], harness := (true, "20e078e31d72a588db3dbe9e921746aad0a3eb63b045967ad0de75eaa4f51a42"), looks := false }, kinds := [], alts := [], laidByText := true, laidKinds := [.data, .data], laidTests := true, laidLooks := .later }
def EnvOrdersCardSaid : Prop := Claim7.holds Tryd.pinned (.plain (OpenSpec.ofChange envOrdersSpec)) envOrdersCard

/-- THE TIED CARD OF 'winnowlaw15.EnvChains'. -/
def envChainsCard : Claim7 := { stood := { row := envChainsRow, standIns := [], harness := (true, "20e078e31d72a588db3dbe9e921746aad0a3eb63b045967ad0de75eaa4f51a42"), looks := false }, kinds := [], alts := [], laidByText := true, laidKinds := [.data, .data], laidTests := true, laidLooks := .later }
def EnvChainsCardSaid : Prop := Claim7.holds Tryd.pinned (.plain (OpenSpec.ofChange envChainsSpec)) envChainsCard

/-- THE TIED CARD OF 'winnowlaw15.EnvMembers'. -/
def envMembersCard : Claim7 := { stood := { row := envMembersRow, standIns := [], harness := (true, "20e078e31d72a588db3dbe9e921746aad0a3eb63b045967ad0de75eaa4f51a42"), looks := false }, kinds := [], alts := [], laidByText := true, laidKinds := [.data, .data], laidTests := true, laidLooks := .later }
def EnvMembersCardSaid : Prop := Claim7.holds Tryd.pinned (.plain (OpenSpec.ofChange envMembersSpec)) envMembersCard

/-- THE SECOND FORM's CARD OF 'winnowlaw15.EnvOrders'. -/
def envOrdersUptoCard : Claim7 := { stood := { row := envOrdersUptoRow, standIns := [], harness := (true, "20e078e31d72a588db3dbe9e921746aad0a3eb63b045967ad0de75eaa4f51a42"), looks := false }, kinds := [], alts := [], laidByText := true, laidKinds := [.data, .data], laidTests := true, laidLooks := .later }
def EnvOrdersUptoCardSaid : Prop := Claim7.holds Tryd.pinned (.plain (OpenSpec.upto envOrdersSpec)) envOrdersUptoCard

/-- THE SECOND FORM's CARD OF 'winnowlaw15.EnvChains'. -/
def envChainsUptoCard : Claim7 := { stood := { row := envChainsUptoRow, standIns := [], harness := (true, "20e078e31d72a588db3dbe9e921746aad0a3eb63b045967ad0de75eaa4f51a42"), looks := false }, kinds := [], alts := [], laidByText := true, laidKinds := [.data, .data], laidTests := true, laidLooks := .later }
def EnvChainsUptoCardSaid : Prop := Claim7.holds Tryd.pinned (.plain (OpenSpec.upto envChainsSpec)) envChainsUptoCard

/-- THE SECOND FORM's CARD OF 'winnowlaw15.EnvMembers'. -/
def envMembersUptoCard : Claim7 := { stood := { row := envMembersUptoRow, standIns := [], harness := (true, "20e078e31d72a588db3dbe9e921746aad0a3eb63b045967ad0de75eaa4f51a42"), looks := false }, kinds := [], alts := [], laidByText := true, laidKinds := [.data, .data], laidTests := true, laidLooks := .later }
def EnvMembersUptoCardSaid : Prop := Claim7.holds Tryd.pinned (.plain (OpenSpec.upto envMembersSpec)) envMembersUptoCard
end Rows
end Go.Proofs.YtmadebejnhinoaaDoor
