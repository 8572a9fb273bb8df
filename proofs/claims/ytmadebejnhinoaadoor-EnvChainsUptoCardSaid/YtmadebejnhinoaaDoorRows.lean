/-
  NARROWER THAN 'FOR EVERY INPUT', by the rows' own cells (each row's printed sentence says how): EnvOrders: laid · EnvChains: laid · EnvMembers: laid.
  DERIVED. THE GIVEN ROWS OF THIS SEAT. 3 by the template 'for every input the law returns true; each argument reads behind the call as it read before'; 0 by the template 'total and deterministic' (their statements: YtmadebejnhinoaaDoorTotals.lean).
  GIVEN WITH THE SEED: the statements are not yours to turn. If you find one false, say at which input.
  Laid BY PROGRAM, IN A SANDBOX (cutbox-rows.mjs): the forced cells as the released guide's own fill.sh prints them over the translation 2689066e783c0343… (all of the seat's roots in one cut). By AI agents, Wed Nov 11 2026. No macro, syntax, notation, axiom, sorry.
-/
import Derived.Test.YtmadebejnhinoaaDoorChecked
import GoSem.Claim
import GoSem.ClaimJoined
import GoSem.ClaimMapViews
import Derived.JoinedTies
import Derived.KernelRfl
namespace Go.Proofs.YtmadebejnhinoaaDoor
/- THE CELL 'sum', in the pinned program and in every row, IS THE sha256 OF THE DUMP (.gsa) THAT YtmadebejnhinoaaDoorProg.lean LOADS. Nothing in Lean hashes anything: it is a label: what it is worth is what the hold of that sum in a sandbox is worth. -/
noncomputable def Tryd.pinned : Pinned := { name := "ytmadebejnhinoaadoor", sum := "2689066e783c03431d08b47c2ed08460c64af90d174f0863447d4f76869de30c", checked := Tryd.checked }
namespace Rows
def none {H : Type} : Left H := { results := [], args := [] }

/- WHAT THE LISTED PACKAGE-LEVEL VARIABLES READ AS WHEN THE CALL BEGINS. Each datum BY PROGRAM (the guide's laid-datum.mjs) off the statement by which the dump's own 'gosem.cut.vars' lays the variable. In a bare row this is a premise. The card (YtmadebejnhinoaaDoorCards.lean) ties it to the program's text. -/
def laid_winnow_cong_zero {H : Type} : DataW H := .agg [.lit (.int .u64 0), .lit (.int .u64 0)]
def laid_winnow_ival_nothing {H : Type} : DataW H := .agg [.lit (.int .i64 1), .lit (.int .i64 0)]

/-- 'winnowlaw15.EnvOrders': WHATEVER THE INPUT: true; the input reads as it did. -/
def envOrdersSpec : ChangeSpec := { name := "envOrders", fn := fun _ => fun
  | [d1, d2, d3, d4] => { results := [.lit (.bool true)], args := [d1, d2, d3, d4] }
  | _ => none }
def envOrdersRow : OpenClaim := { program := "ytmadebejnhinoaadoor", sum := "2689066e783c03431d08b47c2ed08460c64af90d174f0863447d4f76869de30c", func := "winnow/winnowlaw15.EnvOrders", spec := "envOrders", inPlace := ["math/bits.Add64", "math/bits.Sub64"], unfollowed := true, recurses := true, named := ["winnow/ival.nothing", "winnow/cong.zero", "math/bits.divideError", "math/bits.overflowError"], apart := false, laid := [("winnow/cong.zero", laid_winnow_cong_zero), ("winnow/ival.nothing", laid_winnow_ival_nothing)] }
def EnvOrdersSaid : Prop := envOrdersRow.holds Tryd.pinned (OpenSpec.ofChange envOrdersSpec)

/-- ITS FALSE NEIGHBOUR: 'it returns false'. Refute it at one input. -/
def envOrdersWrong : ChangeSpec := { name := "envOrders", fn := fun _ => fun
  | [d1, d2, d3, d4] => { results := [.lit (.bool false)], args := [d1, d2, d3, d4] }
  | _ => none }
def EnvOrdersWrongFalsely : Prop := envOrdersRow.holds Tryd.pinned (OpenSpec.ofChange envOrdersWrong)

/-- 'winnowlaw15.EnvChains': WHATEVER THE INPUT: true; the input reads as it did. -/
def envChainsSpec : ChangeSpec := { name := "envChains", fn := fun _ => fun
  | [d1, d2, d3] => { results := [.lit (.bool true)], args := [d1, d2, d3] }
  | _ => none }
def envChainsRow : OpenClaim := { program := "ytmadebejnhinoaadoor", sum := "2689066e783c03431d08b47c2ed08460c64af90d174f0863447d4f76869de30c", func := "winnow/winnowlaw15.EnvChains", spec := "envChains", inPlace := ["math/bits.Add64", "math/bits.Sub64"], unfollowed := true, recurses := true, named := ["winnow/ival.nothing", "winnow/cong.zero", "math/bits.divideError", "math/bits.overflowError"], apart := false, laid := [("winnow/cong.zero", laid_winnow_cong_zero), ("winnow/ival.nothing", laid_winnow_ival_nothing)] }
def EnvChainsSaid : Prop := envChainsRow.holds Tryd.pinned (OpenSpec.ofChange envChainsSpec)

/-- ITS FALSE NEIGHBOUR: 'it returns false'. Refute it at one input. -/
def envChainsWrong : ChangeSpec := { name := "envChains", fn := fun _ => fun
  | [d1, d2, d3] => { results := [.lit (.bool false)], args := [d1, d2, d3] }
  | _ => none }
def EnvChainsWrongFalsely : Prop := envChainsRow.holds Tryd.pinned (OpenSpec.ofChange envChainsWrong)

/-- 'winnowlaw15.EnvMembers': WHATEVER THE INPUT: true; the input reads as it did. -/
def envMembersSpec : ChangeSpec := { name := "envMembers", fn := fun _ => fun
  | [d1, d2, d3, d4] => { results := [.lit (.bool true)], args := [d1, d2, d3, d4] }
  | _ => none }
def envMembersRow : OpenClaim := { program := "ytmadebejnhinoaadoor", sum := "2689066e783c03431d08b47c2ed08460c64af90d174f0863447d4f76869de30c", func := "winnow/winnowlaw15.EnvMembers", spec := "envMembers", inPlace := ["math/bits.Add64", "math/bits.Sub64"], unfollowed := true, recurses := true, named := ["winnow/ival.nothing", "winnow/cong.zero", "math/bits.divideError", "math/bits.overflowError"], apart := false, laid := [("winnow/cong.zero", laid_winnow_cong_zero), ("winnow/ival.nothing", laid_winnow_ival_nothing)] }
def EnvMembersSaid : Prop := envMembersRow.holds Tryd.pinned (OpenSpec.ofChange envMembersSpec)

/-- ITS FALSE NEIGHBOUR: 'it returns false'. Refute it at one input. -/
def envMembersWrong : ChangeSpec := { name := "envMembers", fn := fun _ => fun
  | [d1, d2, d3, d4] => { results := [.lit (.bool false)], args := [d1, d2, d3, d4] }
  | _ => none }
def EnvMembersWrongFalsely : Prop := envMembersRow.holds Tryd.pinned (OpenSpec.ofChange envMembersWrong)

/- THE SECOND FORM. 'bulk': how many values and letters a reading holds, each counted each time it is reached (what is shared counts as often as it is met; a slice's spare places count too). A statement '..UptoSaid' is the law's where the arguments, and the package variables that the reading takes, are together of bulk at most 1048576: NARROWER than '..Said'. Prove '..Said' where nothing that the law and all that it calls make is longer than what came in: it says more and counts as full. Else prove '..UptoSaid'. A law counts once. -/
mutual
def uptoBulk {H : Type} : DataW H → Nat
  | .lit (.string bytes) => bytes.length + 1
  | .lit _ => 1
  | .nil => 1
  | .ptr d => uptoBulk d + 1
  | .slice elems spare => uptoBulkAll elems + uptoBulkAll spare + 1
  | .agg parts => uptoBulkAll parts + 1
  | .iface _ d => uptoBulk d + 1
  | .map entries => uptoBulkEntries entries + 1
  | .held _ => 1
def uptoBulkAll {H : Type} : List (DataW H) → Nat
  | [] => 0
  | d :: r => uptoBulk d + uptoBulkAll r
def uptoBulkEntries {H : Type} : List (Lit × DataW H) → Nat
  | [] => 0
  | x :: r => uptoBulkEntry x + uptoBulkEntries r
def uptoBulkEntry {H : Type} : Lit × DataW H → Nat
  | (.string bytes, d) => bytes.length + uptoBulk d + 1
  | (_, d) => uptoBulk d + 1
 end
def uptoSmall : (H : Type) → List (DataW H) → Bool := fun _ ds => decide (uptoBulkAll ds ≤ 1048576)
def OpenSpec.upto (s : _root_.Go.ChangeSpec) : _root_.Go.OpenSpec := { _root_.Go.OpenSpec.ofChange s with cond := some uptoSmall }

/-- 'winnowlaw15.EnvOrders', WHERE WHAT IT READS IS OF BULK AT MOST 1048576: true; the input reads as it did. -/
def envOrdersUptoRow : OpenClaim := { program := "ytmadebejnhinoaadoor", sum := "2689066e783c03431d08b47c2ed08460c64af90d174f0863447d4f76869de30c", func := "winnow/winnowlaw15.EnvOrders", spec := "envOrders", inPlace := ["math/bits.Add64", "math/bits.Sub64"], unfollowed := true, recurses := true, named := ["winnow/ival.nothing", "winnow/cong.zero", "math/bits.divideError", "math/bits.overflowError"], apart := false, laid := [("winnow/cong.zero", laid_winnow_cong_zero), ("winnow/ival.nothing", laid_winnow_ival_nothing)], narrowed := true }
def EnvOrdersUptoSaid : Prop := envOrdersUptoRow.holds Tryd.pinned (OpenSpec.upto envOrdersSpec)

/-- 'winnowlaw15.EnvChains', WHERE WHAT IT READS IS OF BULK AT MOST 1048576: true; the input reads as it did. -/
def envChainsUptoRow : OpenClaim := { program := "ytmadebejnhinoaadoor", sum := "2689066e783c03431d08b47c2ed08460c64af90d174f0863447d4f76869de30c", func := "winnow/winnowlaw15.EnvChains", spec := "envChains", inPlace := ["math/bits.Add64", "math/bits.Sub64"], unfollowed := true, recurses := true, named := ["winnow/ival.nothing", "winnow/cong.zero", "math/bits.divideError", "math/bits.overflowError"], apart := false, laid := [("winnow/cong.zero", laid_winnow_cong_zero), ("winnow/ival.nothing", laid_winnow_ival_nothing)], narrowed := true }
def EnvChainsUptoSaid : Prop := envChainsUptoRow.holds Tryd.pinned (OpenSpec.upto envChainsSpec)

/-- 'winnowlaw15.EnvMembers', WHERE WHAT IT READS IS OF BULK AT MOST 1048576: true; the input reads as it did. -/
def envMembersUptoRow : OpenClaim := { program := "ytmadebejnhinoaadoor", sum := "2689066e783c03431d08b47c2ed08460c64af90d174f0863447d4f76869de30c", func := "winnow/winnowlaw15.EnvMembers", spec := "envMembers", inPlace := ["math/bits.Add64", "math/bits.Sub64"], unfollowed := true, recurses := true, named := ["winnow/ival.nothing", "winnow/cong.zero", "math/bits.divideError", "math/bits.overflowError"], apart := false, laid := [("winnow/cong.zero", laid_winnow_cong_zero), ("winnow/ival.nothing", laid_winnow_ival_nothing)], narrowed := true }
def EnvMembersUptoSaid : Prop := envMembersUptoRow.holds Tryd.pinned (OpenSpec.upto envMembersSpec)

end Rows
end Go.Proofs.YtmadebejnhinoaaDoor
