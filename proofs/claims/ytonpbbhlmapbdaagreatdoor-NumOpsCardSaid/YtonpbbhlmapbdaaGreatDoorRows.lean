/-
  NARROWER THAN 'FOR EVERY INPUT', by the rows' own cells (each row's printed sentence says how): NumHolds: laid · NumSets: laid · NumForms: laid · NumOps: laid · NumRows: laid · InvSolves: laid · InvCompares: laid · InvKeeps: laid · InvHolds: laid · InvTurned: laid.
  DERIVED. THE GIVEN ROWS OF THIS SEAT. 10 by the template 'for every input the law returns true; each argument reads behind the call as it read before'; 0 by the template 'total and deterministic' (their statements: YtonpbbhlmapbdaaGreatDoorTotals.lean).
  GIVEN WITH THE SEED: the statements are not yours to turn. If you find one false, say at which input.
  Laid BY PROGRAM, IN A SANDBOX (cutbox-rows.mjs): the forced cells as the released guide's own fill.sh prints them over the translation 4e02ae722b4dc61f… (all of the seat's roots in one cut). By AI agents, Wed Nov 11 2026. No macro, syntax, notation, axiom, sorry.
-/
import Derived.Test.YtonpbbhlmapbdaaGreatDoorChecked
import GoSem.Claim
import GoSem.ClaimJoined
import GoSem.ClaimMapViews
import Derived.JoinedTies
import Derived.KernelRfl
namespace Go.Proofs.YtonpbbhlmapbdaaGreatDoor
/- THE CELL 'sum', in the pinned program and in every row, IS THE sha256 OF THE DUMP (.gsa) THAT YtonpbbhlmapbdaaGreatDoorProg.lean LOADS. Nothing in Lean hashes anything: it is a label: what it is worth is what the hold of that sum in a sandbox is worth. -/
noncomputable def Tryz.pinned : Pinned := { name := "ytonpbbhlmapbdaagreatdoor", sum := "4e02ae722b4dc61fda86e56b307456e26887ac11aa3dc2416254300f63716ba4", checked := Tryz.checked }
namespace Rows
def none {H : Type} : Left H := { results := [], args := [] }

/- WHAT THE LISTED PACKAGE-LEVEL VARIABLES READ AS WHEN THE CALL BEGINS. Each datum BY PROGRAM (the guide's laid-datum.mjs) off the statement by which the dump's own 'gosem.cut.vars' lays the variable. In a bare row this is a premise. The card (YtonpbbhlmapbdaaGreatDoorCards.lean) ties it to the program's text. -/
def laid_math_bits_deBruijn64tab {H : Type} : DataW H := .agg [.lit (.int .u8 0), .lit (.int .u8 1), .lit (.int .u8 56), .lit (.int .u8 2), .lit (.int .u8 57), .lit (.int .u8 49), .lit (.int .u8 28), .lit (.int .u8 3), .lit (.int .u8 61), .lit (.int .u8 58), .lit (.int .u8 42), .lit (.int .u8 50), .lit (.int .u8 38), .lit (.int .u8 29), .lit (.int .u8 17), .lit (.int .u8 4), .lit (.int .u8 62), .lit (.int .u8 47), .lit (.int .u8 59), .lit (.int .u8 36), .lit (.int .u8 45), .lit (.int .u8 43), .lit (.int .u8 51), .lit (.int .u8 22), .lit (.int .u8 53), .lit (.int .u8 39), .lit (.int .u8 33), .lit (.int .u8 30), .lit (.int .u8 24), .lit (.int .u8 18), .lit (.int .u8 12), .lit (.int .u8 5), .lit (.int .u8 63), .lit (.int .u8 55), .lit (.int .u8 48), .lit (.int .u8 27), .lit (.int .u8 60), .lit (.int .u8 41), .lit (.int .u8 37), .lit (.int .u8 16), .lit (.int .u8 46), .lit (.int .u8 35), .lit (.int .u8 44), .lit (.int .u8 21), .lit (.int .u8 52), .lit (.int .u8 32), .lit (.int .u8 23), .lit (.int .u8 11), .lit (.int .u8 54), .lit (.int .u8 26), .lit (.int .u8 40), .lit (.int .u8 15), .lit (.int .u8 34), .lit (.int .u8 20), .lit (.int .u8 31), .lit (.int .u8 10), .lit (.int .u8 25), .lit (.int .u8 14), .lit (.int .u8 19), .lit (.int .u8 9), .lit (.int .u8 13), .lit (.int .u8 8), .lit (.int .u8 7), .lit (.int .u8 6)]
def laid_winnow_cong_everything {H : Type} : DataW H := .agg [.lit (.int .u64 1), .lit (.int .u64 0)]
def laid_winnow_cong_zero {H : Type} : DataW H := .agg [.lit (.int .u64 0), .lit (.int .u64 0)]
def laid_winnow_ival_nothing {H : Type} : DataW H := .agg [.lit (.int .i64 1), .lit (.int .i64 0)]
def laid_winnow_ival_all {H : Type} : DataW H := .agg [.lit (.int .i64 (-9223372036854775808)), .lit (.int .i64 9223372036854775807)]

/-- 'winnowlaw13.NumHolds': WHATEVER THE INPUT: true; the input reads as it did. -/
def numHoldsSpec : ChangeSpec := { name := "numHolds", fn := fun _ => fun
  | [d] => { results := [.lit (.bool true)], args := [d] }
  | _ => none }
def numHoldsRow : OpenClaim := { program := "ytonpbbhlmapbdaagreatdoor", sum := "4e02ae722b4dc61fda86e56b307456e26887ac11aa3dc2416254300f63716ba4", func := "winnow/winnowlaw13.NumHolds", spec := "numHolds", inPlace := ["math/bits.Sub64", "math/bits.Add64"], unfollowed := true, recurses := true, named := ["winnow/ival.nothing", "winnow/ival.all", "winnow/cong.zero", "math/bits.deBruijn64tab", "math/bits.divideError", "math/bits.overflowError", "winnow/cong.everything"], apart := false, laid := [("math/bits.deBruijn64tab", laid_math_bits_deBruijn64tab), ("winnow/cong.everything", laid_winnow_cong_everything), ("winnow/cong.zero", laid_winnow_cong_zero), ("winnow/ival.nothing", laid_winnow_ival_nothing), ("winnow/ival.all", laid_winnow_ival_all)] }
def NumHoldsSaid : Prop := numHoldsRow.holds Tryz.pinned (OpenSpec.ofChange numHoldsSpec)

/-- ITS FALSE NEIGHBOUR: 'it returns false'. Refute it at one input. -/
def numHoldsWrong : ChangeSpec := { name := "numHolds", fn := fun _ => fun
  | [d] => { results := [.lit (.bool false)], args := [d] }
  | _ => none }
def NumHoldsWrongFalsely : Prop := numHoldsRow.holds Tryz.pinned (OpenSpec.ofChange numHoldsWrong)

/-- 'winnowlaw13.NumSets': WHATEVER THE INPUT: true; the input reads as it did. -/
def numSetsSpec : ChangeSpec := { name := "numSets", fn := fun _ => fun
  | [d1, d2, d3] => { results := [.lit (.bool true)], args := [d1, d2, d3] }
  | _ => none }
def numSetsRow : OpenClaim := { program := "ytonpbbhlmapbdaagreatdoor", sum := "4e02ae722b4dc61fda86e56b307456e26887ac11aa3dc2416254300f63716ba4", func := "winnow/winnowlaw13.NumSets", spec := "numSets", inPlace := ["math/bits.Sub64", "math/bits.Add64"], unfollowed := true, recurses := true, named := ["winnow/ival.nothing", "winnow/ival.all", "winnow/cong.zero", "math/bits.deBruijn64tab", "math/bits.divideError", "math/bits.overflowError", "winnow/cong.everything"], apart := false, laid := [("math/bits.deBruijn64tab", laid_math_bits_deBruijn64tab), ("winnow/cong.everything", laid_winnow_cong_everything), ("winnow/cong.zero", laid_winnow_cong_zero), ("winnow/ival.nothing", laid_winnow_ival_nothing), ("winnow/ival.all", laid_winnow_ival_all)] }
def NumSetsSaid : Prop := numSetsRow.holds Tryz.pinned (OpenSpec.ofChange numSetsSpec)

/-- ITS FALSE NEIGHBOUR: 'it returns false'. Refute it at one input. -/
def numSetsWrong : ChangeSpec := { name := "numSets", fn := fun _ => fun
  | [d1, d2, d3] => { results := [.lit (.bool false)], args := [d1, d2, d3] }
  | _ => none }
def NumSetsWrongFalsely : Prop := numSetsRow.holds Tryz.pinned (OpenSpec.ofChange numSetsWrong)

/-- 'winnowlaw13.NumForms': WHATEVER THE INPUT: true; the input reads as it did. -/
def numFormsSpec : ChangeSpec := { name := "numForms", fn := fun _ => fun
  | [d1, d2, d3, d4] => { results := [.lit (.bool true)], args := [d1, d2, d3, d4] }
  | _ => none }
def numFormsRow : OpenClaim := { program := "ytonpbbhlmapbdaagreatdoor", sum := "4e02ae722b4dc61fda86e56b307456e26887ac11aa3dc2416254300f63716ba4", func := "winnow/winnowlaw13.NumForms", spec := "numForms", inPlace := ["math/bits.Sub64", "math/bits.Add64"], unfollowed := true, recurses := true, named := ["winnow/ival.nothing", "winnow/ival.all", "winnow/cong.zero", "math/bits.deBruijn64tab", "math/bits.divideError", "math/bits.overflowError", "winnow/cong.everything"], apart := false, laid := [("math/bits.deBruijn64tab", laid_math_bits_deBruijn64tab), ("winnow/cong.everything", laid_winnow_cong_everything), ("winnow/cong.zero", laid_winnow_cong_zero), ("winnow/ival.nothing", laid_winnow_ival_nothing), ("winnow/ival.all", laid_winnow_ival_all)] }
def NumFormsSaid : Prop := numFormsRow.holds Tryz.pinned (OpenSpec.ofChange numFormsSpec)

/-- ITS FALSE NEIGHBOUR: 'it returns false'. Refute it at one input. -/
def numFormsWrong : ChangeSpec := { name := "numForms", fn := fun _ => fun
  | [d1, d2, d3, d4] => { results := [.lit (.bool false)], args := [d1, d2, d3, d4] }
  | _ => none }
def NumFormsWrongFalsely : Prop := numFormsRow.holds Tryz.pinned (OpenSpec.ofChange numFormsWrong)

/-- 'winnowlaw13.NumOps': WHATEVER THE INPUT: true; the input reads as it did. -/
def numOpsSpec : ChangeSpec := { name := "numOps", fn := fun _ => fun
  | [d1, d2, d3, d4] => { results := [.lit (.bool true)], args := [d1, d2, d3, d4] }
  | _ => none }
def numOpsRow : OpenClaim := { program := "ytonpbbhlmapbdaagreatdoor", sum := "4e02ae722b4dc61fda86e56b307456e26887ac11aa3dc2416254300f63716ba4", func := "winnow/winnowlaw13.NumOps", spec := "numOps", inPlace := ["math/bits.Sub64", "math/bits.Add64"], unfollowed := true, recurses := true, named := ["winnow/ival.nothing", "winnow/ival.all", "winnow/cong.zero", "math/bits.deBruijn64tab", "math/bits.divideError", "math/bits.overflowError", "winnow/cong.everything"], apart := false, laid := [("math/bits.deBruijn64tab", laid_math_bits_deBruijn64tab), ("winnow/cong.everything", laid_winnow_cong_everything), ("winnow/cong.zero", laid_winnow_cong_zero), ("winnow/ival.nothing", laid_winnow_ival_nothing), ("winnow/ival.all", laid_winnow_ival_all)] }
def NumOpsSaid : Prop := numOpsRow.holds Tryz.pinned (OpenSpec.ofChange numOpsSpec)

/-- ITS FALSE NEIGHBOUR: 'it returns false'. Refute it at one input. -/
def numOpsWrong : ChangeSpec := { name := "numOps", fn := fun _ => fun
  | [d1, d2, d3, d4] => { results := [.lit (.bool false)], args := [d1, d2, d3, d4] }
  | _ => none }
def NumOpsWrongFalsely : Prop := numOpsRow.holds Tryz.pinned (OpenSpec.ofChange numOpsWrong)

/-- 'winnowlaw13.NumRows': WHATEVER THE INPUT: true; the input reads as it did. -/
def numRowsSpec : ChangeSpec := { name := "numRows", fn := fun _ => fun
  | [d1, d2, d3] => { results := [.lit (.bool true)], args := [d1, d2, d3] }
  | _ => none }
def numRowsRow : OpenClaim := { program := "ytonpbbhlmapbdaagreatdoor", sum := "4e02ae722b4dc61fda86e56b307456e26887ac11aa3dc2416254300f63716ba4", func := "winnow/winnowlaw13.NumRows", spec := "numRows", inPlace := ["math/bits.Sub64", "math/bits.Add64"], unfollowed := true, recurses := true, named := ["winnow/ival.nothing", "winnow/ival.all", "winnow/cong.zero", "math/bits.deBruijn64tab", "math/bits.divideError", "math/bits.overflowError", "winnow/cong.everything"], apart := false, laid := [("math/bits.deBruijn64tab", laid_math_bits_deBruijn64tab), ("winnow/cong.everything", laid_winnow_cong_everything), ("winnow/cong.zero", laid_winnow_cong_zero), ("winnow/ival.nothing", laid_winnow_ival_nothing), ("winnow/ival.all", laid_winnow_ival_all)] }
def NumRowsSaid : Prop := numRowsRow.holds Tryz.pinned (OpenSpec.ofChange numRowsSpec)

/-- ITS FALSE NEIGHBOUR: 'it returns false'. Refute it at one input. -/
def numRowsWrong : ChangeSpec := { name := "numRows", fn := fun _ => fun
  | [d1, d2, d3] => { results := [.lit (.bool false)], args := [d1, d2, d3] }
  | _ => none }
def NumRowsWrongFalsely : Prop := numRowsRow.holds Tryz.pinned (OpenSpec.ofChange numRowsWrong)

/-- 'winnowlaw14.InvSolves': WHATEVER THE INPUT: true; the input reads as it did. -/
def invSolvesSpec : ChangeSpec := { name := "invSolves", fn := fun _ => fun
  | [d1, d2, d3, d4] => { results := [.lit (.bool true)], args := [d1, d2, d3, d4] }
  | _ => none }
def invSolvesRow : OpenClaim := { program := "ytonpbbhlmapbdaagreatdoor", sum := "4e02ae722b4dc61fda86e56b307456e26887ac11aa3dc2416254300f63716ba4", func := "winnow/winnowlaw14.InvSolves", spec := "invSolves", inPlace := ["math/bits.Sub64", "math/bits.Add64"], unfollowed := true, recurses := true, named := ["winnow/ival.nothing", "winnow/ival.all", "winnow/cong.zero", "math/bits.deBruijn64tab", "math/bits.divideError", "math/bits.overflowError", "winnow/cong.everything"], apart := false, laid := [("math/bits.deBruijn64tab", laid_math_bits_deBruijn64tab), ("winnow/cong.everything", laid_winnow_cong_everything), ("winnow/cong.zero", laid_winnow_cong_zero), ("winnow/ival.nothing", laid_winnow_ival_nothing), ("winnow/ival.all", laid_winnow_ival_all)] }
def InvSolvesSaid : Prop := invSolvesRow.holds Tryz.pinned (OpenSpec.ofChange invSolvesSpec)

/-- ITS FALSE NEIGHBOUR: 'it returns false'. Refute it at one input. -/
def invSolvesWrong : ChangeSpec := { name := "invSolves", fn := fun _ => fun
  | [d1, d2, d3, d4] => { results := [.lit (.bool false)], args := [d1, d2, d3, d4] }
  | _ => none }
def InvSolvesWrongFalsely : Prop := invSolvesRow.holds Tryz.pinned (OpenSpec.ofChange invSolvesWrong)

/-- 'winnowlaw14.InvCompares': WHATEVER THE INPUT: true; the input reads as it did. -/
def invComparesSpec : ChangeSpec := { name := "invCompares", fn := fun _ => fun
  | [d1, d2, d3] => { results := [.lit (.bool true)], args := [d1, d2, d3] }
  | _ => none }
def invComparesRow : OpenClaim := { program := "ytonpbbhlmapbdaagreatdoor", sum := "4e02ae722b4dc61fda86e56b307456e26887ac11aa3dc2416254300f63716ba4", func := "winnow/winnowlaw14.InvCompares", spec := "invCompares", inPlace := ["math/bits.Add64", "math/bits.Sub64"], unfollowed := true, recurses := true, named := ["winnow/cong.zero", "math/bits.divideError", "math/bits.overflowError", "winnow/ival.nothing", "winnow/ival.all", "math/bits.deBruijn64tab", "winnow/cong.everything"], apart := false, laid := [("math/bits.deBruijn64tab", laid_math_bits_deBruijn64tab), ("winnow/cong.everything", laid_winnow_cong_everything), ("winnow/cong.zero", laid_winnow_cong_zero), ("winnow/ival.nothing", laid_winnow_ival_nothing), ("winnow/ival.all", laid_winnow_ival_all)] }
def InvComparesSaid : Prop := invComparesRow.holds Tryz.pinned (OpenSpec.ofChange invComparesSpec)

/-- ITS FALSE NEIGHBOUR: 'it returns false'. Refute it at one input. -/
def invComparesWrong : ChangeSpec := { name := "invCompares", fn := fun _ => fun
  | [d1, d2, d3] => { results := [.lit (.bool false)], args := [d1, d2, d3] }
  | _ => none }
def InvComparesWrongFalsely : Prop := invComparesRow.holds Tryz.pinned (OpenSpec.ofChange invComparesWrong)

/-- 'winnowlaw14.InvKeeps': WHATEVER THE INPUT: true; the input reads as it did. -/
def invKeepsSpec : ChangeSpec := { name := "invKeeps", fn := fun _ => fun
  | [d1, d2] => { results := [.lit (.bool true)], args := [d1, d2] }
  | _ => none }
def invKeepsRow : OpenClaim := { program := "ytonpbbhlmapbdaagreatdoor", sum := "4e02ae722b4dc61fda86e56b307456e26887ac11aa3dc2416254300f63716ba4", func := "winnow/winnowlaw14.InvKeeps", spec := "invKeeps", inPlace := ["math/bits.Sub64", "math/bits.Add64"], unfollowed := true, recurses := true, named := ["winnow/ival.nothing", "winnow/ival.all", "winnow/cong.zero", "math/bits.deBruijn64tab", "math/bits.divideError", "math/bits.overflowError", "winnow/cong.everything"], apart := false, laid := [("math/bits.deBruijn64tab", laid_math_bits_deBruijn64tab), ("winnow/cong.everything", laid_winnow_cong_everything), ("winnow/cong.zero", laid_winnow_cong_zero), ("winnow/ival.nothing", laid_winnow_ival_nothing), ("winnow/ival.all", laid_winnow_ival_all)] }
def InvKeepsSaid : Prop := invKeepsRow.holds Tryz.pinned (OpenSpec.ofChange invKeepsSpec)

/-- ITS FALSE NEIGHBOUR: 'it returns false'. Refute it at one input. -/
def invKeepsWrong : ChangeSpec := { name := "invKeeps", fn := fun _ => fun
  | [d1, d2] => { results := [.lit (.bool false)], args := [d1, d2] }
  | _ => none }
def InvKeepsWrongFalsely : Prop := invKeepsRow.holds Tryz.pinned (OpenSpec.ofChange invKeepsWrong)

/-- 'winnowlaw14.InvHolds': WHATEVER THE INPUT: true; the input reads as it did. -/
def invHoldsSpec : ChangeSpec := { name := "invHolds", fn := fun _ => fun
  | [d1, d2] => { results := [.lit (.bool true)], args := [d1, d2] }
  | _ => none }
def invHoldsRow : OpenClaim := { program := "ytonpbbhlmapbdaagreatdoor", sum := "4e02ae722b4dc61fda86e56b307456e26887ac11aa3dc2416254300f63716ba4", func := "winnow/winnowlaw14.InvHolds", spec := "invHolds", inPlace := ["math/bits.Add64", "math/bits.Sub64"], unfollowed := true, recurses := true, named := ["winnow/cong.zero", "math/bits.divideError", "math/bits.overflowError", "winnow/ival.nothing", "winnow/ival.all", "math/bits.deBruijn64tab", "winnow/cong.everything"], apart := false, laid := [("math/bits.deBruijn64tab", laid_math_bits_deBruijn64tab), ("winnow/cong.everything", laid_winnow_cong_everything), ("winnow/cong.zero", laid_winnow_cong_zero), ("winnow/ival.nothing", laid_winnow_ival_nothing), ("winnow/ival.all", laid_winnow_ival_all)] }
def InvHoldsSaid : Prop := invHoldsRow.holds Tryz.pinned (OpenSpec.ofChange invHoldsSpec)

/-- ITS FALSE NEIGHBOUR: 'it returns false'. Refute it at one input. -/
def invHoldsWrong : ChangeSpec := { name := "invHolds", fn := fun _ => fun
  | [d1, d2] => { results := [.lit (.bool false)], args := [d1, d2] }
  | _ => none }
def InvHoldsWrongFalsely : Prop := invHoldsRow.holds Tryz.pinned (OpenSpec.ofChange invHoldsWrong)

/-- 'winnowlaw14.InvTurned': WHATEVER THE INPUT: true; the input reads as it did. -/
def invTurnedSpec : ChangeSpec := { name := "invTurned", fn := fun _ => fun
  | [d1, d2] => { results := [.lit (.bool true)], args := [d1, d2] }
  | _ => none }
def invTurnedRow : OpenClaim := { program := "ytonpbbhlmapbdaagreatdoor", sum := "4e02ae722b4dc61fda86e56b307456e26887ac11aa3dc2416254300f63716ba4", func := "winnow/winnowlaw14.InvTurned", spec := "invTurned", inPlace := ["math/bits.Add64", "math/bits.Sub64"], unfollowed := true, recurses := true, named := ["winnow/cong.zero", "math/bits.divideError", "math/bits.overflowError", "winnow/ival.nothing", "winnow/ival.all", "math/bits.deBruijn64tab", "winnow/cong.everything"], apart := false, laid := [("math/bits.deBruijn64tab", laid_math_bits_deBruijn64tab), ("winnow/cong.everything", laid_winnow_cong_everything), ("winnow/cong.zero", laid_winnow_cong_zero), ("winnow/ival.nothing", laid_winnow_ival_nothing), ("winnow/ival.all", laid_winnow_ival_all)] }
def InvTurnedSaid : Prop := invTurnedRow.holds Tryz.pinned (OpenSpec.ofChange invTurnedSpec)

/-- ITS FALSE NEIGHBOUR: 'it returns false'. Refute it at one input. -/
def invTurnedWrong : ChangeSpec := { name := "invTurned", fn := fun _ => fun
  | [d1, d2] => { results := [.lit (.bool false)], args := [d1, d2] }
  | _ => none }
def InvTurnedWrongFalsely : Prop := invTurnedRow.holds Tryz.pinned (OpenSpec.ofChange invTurnedWrong)

/- THE SECOND FORM. 'bulk': how many values and letters a reading holds, each counted each time it is reached (what is shared counts as often as it is met; a slice's spare places count too). A statement '..UptoSaid' is the law's where the arguments, and the package variables that the reading takes, are together of bulk at most 1048576: NARROWER than '..Said'. Prove '..Said' where nothing that the law and all that it calls make is longer than what came in: it says more and counts as full. Else prove '..UptoSaid'. A law counts once. -/
mutual
def uptoBulk {H : Type} : DataW H → Nat
  | .lit (.string bytes) => bytes.length + 1
  | .lit _ => 1
  | .nil => 1
  | .ptr d => uptoBulk d + 1
  | .slice elems spare => uptoBulkAll elems + uptoBulkAll spare + 1
  | .agg parts => uptoBulkAll parts + 1
  | .iface _ d => uptoBulk d + 1
  | .map entries => uptoBulkEntries entries + 1
  | .held _ => 1
def uptoBulkAll {H : Type} : List (DataW H) → Nat
  | [] => 0
  | d :: r => uptoBulk d + uptoBulkAll r
def uptoBulkEntries {H : Type} : List (Lit × DataW H) → Nat
  | [] => 0
  | x :: r => uptoBulkEntry x + uptoBulkEntries r
def uptoBulkEntry {H : Type} : Lit × DataW H → Nat
  | (.string bytes, d) => bytes.length + uptoBulk d + 1
  | (_, d) => uptoBulk d + 1
 end
def uptoSmall : (H : Type) → List (DataW H) → Bool := fun _ ds => decide (uptoBulkAll ds ≤ 1048576)
def OpenSpec.upto (s : _root_.Go.ChangeSpec) : _root_.Go.OpenSpec := { _root_.Go.OpenSpec.ofChange s with cond := some uptoSmall }

/-- 'winnowlaw13.NumHolds', WHERE WHAT IT READS IS OF BULK AT MOST 1048576: true; the input reads as it did. -/
def numHoldsUptoRow : OpenClaim := { program := "ytonpbbhlmapbdaagreatdoor", sum := "4e02ae722b4dc61fda86e56b307456e26887ac11aa3dc2416254300f63716ba4", func := "winnow/winnowlaw13.NumHolds", spec := "numHolds", inPlace := ["math/bits.Sub64", "math/bits.Add64"], unfollowed := true, recurses := true, named := ["winnow/ival.nothing", "winnow/ival.all", "winnow/cong.zero", "math/bits.deBruijn64tab", "math/bits.divideError", "math/bits.overflowError", "winnow/cong.everything"], apart := false, laid := [("math/bits.deBruijn64tab", laid_math_bits_deBruijn64tab), ("winnow/cong.everything", laid_winnow_cong_everything), ("winnow/cong.zero", laid_winnow_cong_zero), ("winnow/ival.nothing", laid_winnow_ival_nothing), ("winnow/ival.all", laid_winnow_ival_all)], narrowed := true }
def NumHoldsUptoSaid : Prop := numHoldsUptoRow.holds Tryz.pinned (OpenSpec.upto numHoldsSpec)

/-- 'winnowlaw13.NumSets', WHERE WHAT IT READS IS OF BULK AT MOST 1048576: true; the input reads as it did. -/
def numSetsUptoRow : OpenClaim := { program := "ytonpbbhlmapbdaagreatdoor", sum := "4e02ae722b4dc61fda86e56b307456e26887ac11aa3dc2416254300f63716ba4", func := "winnow/winnowlaw13.NumSets", spec := "numSets", inPlace := ["math/bits.Sub64", "math/bits.Add64"], unfollowed := true, recurses := true, named := ["winnow/ival.nothing", "winnow/ival.all", "winnow/cong.zero", "math/bits.deBruijn64tab", "math/bits.divideError", "math/bits.overflowError", "winnow/cong.everything"], apart := false, laid := [("math/bits.deBruijn64tab", laid_math_bits_deBruijn64tab), ("winnow/cong.everything", laid_winnow_cong_everything), ("winnow/cong.zero", laid_winnow_cong_zero), ("winnow/ival.nothing", laid_winnow_ival_nothing), ("winnow/ival.all", laid_winnow_ival_all)], narrowed := true }
def NumSetsUptoSaid : Prop := numSetsUptoRow.holds Tryz.pinned (OpenSpec.upto numSetsSpec)

/-- 'winnowlaw13.NumForms', WHERE WHAT IT READS IS OF BULK AT MOST 1048576: true; the input reads as it did. -/
def numFormsUptoRow : OpenClaim := { program := "ytonpbbhlmapbdaagreatdoor", sum := "4e02ae722b4dc61fda86e56b307456e26887ac11aa3dc2416254300f63716ba4", func := "winnow/winnowlaw13.NumForms", spec := "numForms", inPlace := ["math/bits.Sub64", "math/bits.Add64"], unfollowed := true, recurses := true, named := ["winnow/ival.nothing", "winnow/ival.all", "winnow/cong.zero", "math/bits.deBruijn64tab", "math/bits.divideError", "math/bits.overflowError", "winnow/cong.everything"], apart := false, laid := [("math/bits.deBruijn64tab", laid_math_bits_deBruijn64tab), ("winnow/cong.everything", laid_winnow_cong_everything), ("winnow/cong.zero", laid_winnow_cong_zero), ("winnow/ival.nothing", laid_winnow_ival_nothing), ("winnow/ival.all", laid_winnow_ival_all)], narrowed := true }
def NumFormsUptoSaid : Prop := numFormsUptoRow.holds Tryz.pinned (OpenSpec.upto numFormsSpec)

/-- 'winnowlaw13.NumOps', WHERE WHAT IT READS IS OF BULK AT MOST 1048576: true; the input reads as it did. -/
def numOpsUptoRow : OpenClaim := { program := "ytonpbbhlmapbdaagreatdoor", sum := "4e02ae722b4dc61fda86e56b307456e26887ac11aa3dc2416254300f63716ba4", func := "winnow/winnowlaw13.NumOps", spec := "numOps", inPlace := ["math/bits.Sub64", "math/bits.Add64"], unfollowed := true, recurses := true, named := ["winnow/ival.nothing", "winnow/ival.all", "winnow/cong.zero", "math/bits.deBruijn64tab", "math/bits.divideError", "math/bits.overflowError", "winnow/cong.everything"], apart := false, laid := [("math/bits.deBruijn64tab", laid_math_bits_deBruijn64tab), ("winnow/cong.everything", laid_winnow_cong_everything), ("winnow/cong.zero", laid_winnow_cong_zero), ("winnow/ival.nothing", laid_winnow_ival_nothing), ("winnow/ival.all", laid_winnow_ival_all)], narrowed := true }
def NumOpsUptoSaid : Prop := numOpsUptoRow.holds Tryz.pinned (OpenSpec.upto numOpsSpec)

/-- 'winnowlaw13.NumRows', WHERE WHAT IT READS IS OF BULK AT MOST 1048576: true; the input reads as it did. -/
def numRowsUptoRow : OpenClaim := { program := "ytonpbbhlmapbdaagreatdoor", sum := "4e02ae722b4dc61fda86e56b307456e26887ac11aa3dc2416254300f63716ba4", func := "winnow/winnowlaw13.NumRows", spec := "numRows", inPlace := ["math/bits.Sub64", "math/bits.Add64"], unfollowed := true, recurses := true, named := ["winnow/ival.nothing", "winnow/ival.all", "winnow/cong.zero", "math/bits.deBruijn64tab", "math/bits.divideError", "math/bits.overflowError", "winnow/cong.everything"], apart := false, laid := [("math/bits.deBruijn64tab", laid_math_bits_deBruijn64tab), ("winnow/cong.everything", laid_winnow_cong_everything), ("winnow/cong.zero", laid_winnow_cong_zero), ("winnow/ival.nothing", laid_winnow_ival_nothing), ("winnow/ival.all", laid_winnow_ival_all)], narrowed := true }
def NumRowsUptoSaid : Prop := numRowsUptoRow.holds Tryz.pinned (OpenSpec.upto numRowsSpec)

/-- 'winnowlaw14.InvSolves', WHERE WHAT IT READS IS OF BULK AT MOST 1048576: true; the input reads as it did. -/
def invSolvesUptoRow : OpenClaim := { program := "ytonpbbhlmapbdaagreatdoor", sum := "4e02ae722b4dc61fda86e56b307456e26887ac11aa3dc2416254300f63716ba4", func := "winnow/winnowlaw14.InvSolves", spec := "invSolves", inPlace := ["math/bits.Sub64", "math/bits.Add64"], unfollowed := true, recurses := true, named := ["winnow/ival.nothing", "winnow/ival.all", "winnow/cong.zero", "math/bits.deBruijn64tab", "math/bits.divideError", "math/bits.overflowError", "winnow/cong.everything"], apart := false, laid := [("math/bits.deBruijn64tab", laid_math_bits_deBruijn64tab), ("winnow/cong.everything", laid_winnow_cong_everything), ("winnow/cong.zero", laid_winnow_cong_zero), ("winnow/ival.nothing", laid_winnow_ival_nothing), ("winnow/ival.all", laid_winnow_ival_all)], narrowed := true }
def InvSolvesUptoSaid : Prop := invSolvesUptoRow.holds Tryz.pinned (OpenSpec.upto invSolvesSpec)

/-- 'winnowlaw14.InvCompares', WHERE WHAT IT READS IS OF BULK AT MOST 1048576: true; the input reads as it did. -/
def invComparesUptoRow : OpenClaim := { program := "ytonpbbhlmapbdaagreatdoor", sum := "4e02ae722b4dc61fda86e56b307456e26887ac11aa3dc2416254300f63716ba4", func := "winnow/winnowlaw14.InvCompares", spec := "invCompares", inPlace := ["math/bits.Add64", "math/bits.Sub64"], unfollowed := true, recurses := true, named := ["winnow/cong.zero", "math/bits.divideError", "math/bits.overflowError", "winnow/ival.nothing", "winnow/ival.all", "math/bits.deBruijn64tab", "winnow/cong.everything"], apart := false, laid := [("math/bits.deBruijn64tab", laid_math_bits_deBruijn64tab), ("winnow/cong.everything", laid_winnow_cong_everything), ("winnow/cong.zero", laid_winnow_cong_zero), ("winnow/ival.nothing", laid_winnow_ival_nothing), ("winnow/ival.all", laid_winnow_ival_all)], narrowed := true }
def InvComparesUptoSaid : Prop := invComparesUptoRow.holds Tryz.pinned (OpenSpec.upto invComparesSpec)

/-- 'winnowlaw14.InvKeeps', WHERE WHAT IT READS IS OF BULK AT MOST 1048576: true; the input reads as it did. -/
def invKeepsUptoRow : OpenClaim := { program := "ytonpbbhlmapbdaagreatdoor", sum := "4e02ae722b4dc61fda86e56b307456e26887ac11aa3dc2416254300f63716ba4", func := "winnow/winnowlaw14.InvKeeps", spec := "invKeeps", inPlace := ["math/bits.Sub64", "math/bits.Add64"], unfollowed := true, recurses := true, named := ["winnow/ival.nothing", "winnow/ival.all", "winnow/cong.zero", "math/bits.deBruijn64tab", "math/bits.divideError", "math/bits.overflowError", "winnow/cong.everything"], apart := false, laid := [("math/bits.deBruijn64tab", laid_math_bits_deBruijn64tab), ("winnow/cong.everything", laid_winnow_cong_everything), ("winnow/cong.zero", laid_winnow_cong_zero), ("winnow/ival.nothing", laid_winnow_ival_nothing), ("winnow/ival.all", laid_winnow_ival_all)], narrowed := true }
def InvKeepsUptoSaid : Prop := invKeepsUptoRow.holds Tryz.pinned (OpenSpec.upto invKeepsSpec)

/-- 'winnowlaw14.InvHolds', WHERE WHAT IT READS IS OF BULK AT MOST 1048576: true; the input reads as it did. -/
def invHoldsUptoRow : OpenClaim := { program := "ytonpbbhlmapbdaagreatdoor", sum := "4e02ae722b4dc61fda86e56b307456e26887ac11aa3dc2416254300f63716ba4", func := "winnow/winnowlaw14.InvHolds", spec := "invHolds", inPlace := ["math/bits.Add64", "math/bits.Sub64"], unfollowed := true, recurses := true, named := ["winnow/cong.zero", "math/bits.divideError", "math/bits.overflowError", "winnow/ival.nothing", "winnow/ival.all", "math/bits.deBruijn64tab", "winnow/cong.everything"], apart := false, laid := [("math/bits.deBruijn64tab", laid_math_bits_deBruijn64tab), ("winnow/cong.everything", laid_winnow_cong_everything), ("winnow/cong.zero", laid_winnow_cong_zero), ("winnow/ival.nothing", laid_winnow_ival_nothing), ("winnow/ival.all", laid_winnow_ival_all)], narrowed := true }
def InvHoldsUptoSaid : Prop := invHoldsUptoRow.holds Tryz.pinned (OpenSpec.upto invHoldsSpec)

/-- 'winnowlaw14.InvTurned', WHERE WHAT IT READS IS OF BULK AT MOST 1048576: true; the input reads as it did. -/
def invTurnedUptoRow : OpenClaim := { program := "ytonpbbhlmapbdaagreatdoor", sum := "4e02ae722b4dc61fda86e56b307456e26887ac11aa3dc2416254300f63716ba4", func := "winnow/winnowlaw14.InvTurned", spec := "invTurned", inPlace := ["math/bits.Add64", "math/bits.Sub64"], unfollowed := true, recurses := true, named := ["winnow/cong.zero", "math/bits.divideError", "math/bits.overflowError", "winnow/ival.nothing", "winnow/ival.all", "math/bits.deBruijn64tab", "winnow/cong.everything"], apart := false, laid := [("math/bits.deBruijn64tab", laid_math_bits_deBruijn64tab), ("winnow/cong.everything", laid_winnow_cong_everything), ("winnow/cong.zero", laid_winnow_cong_zero), ("winnow/ival.nothing", laid_winnow_ival_nothing), ("winnow/ival.all", laid_winnow_ival_all)], narrowed := true }
def InvTurnedUptoSaid : Prop := invTurnedUptoRow.holds Tryz.pinned (OpenSpec.upto invTurnedSpec)

end Rows
end Go.Proofs.YtonpbbhlmapbdaaGreatDoor
