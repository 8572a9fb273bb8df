/-
  NARROWER THAN 'FOR EVERY INPUT', by the rows' own cells (each row's printed sentence says how): CongMeets: laid · CongSets: laid · CongSteps: laid · CongOps: laid · CongHolds: laid.
  DERIVED. THE GIVEN ROWS OF THIS SEAT. 5 by the template 'for every input the law returns true; each argument reads behind the call as it read before'; 0 by the template 'total and deterministic' (their statements: YtoggbmfjkcbilaaDoorTotals.lean).
  GIVEN WITH THE SEED: the statements are not yours to turn. If you find one false, say at which input.
  Laid BY PROGRAM, IN A SANDBOX (cutbox-rows.mjs): the forced cells as the released guide's own fill.sh prints them over the translation b3b98d5d2cdcb3de… (all of the seat's roots in one cut). By AI agents, Wed Nov 11 2026. No macro, syntax, notation, axiom, sorry.
-/
import Derived.Test.YtoggbmfjkcbilaaDoorChecked
import GoSem.Claim
import GoSem.ClaimJoined
import GoSem.ClaimMapViews
import Derived.JoinedTies
import Derived.KernelRfl
namespace Go.Proofs.YtoggbmfjkcbilaaDoor
/- THE CELL 'sum', in the pinned program and in every row, IS THE sha256 OF THE DUMP (.gsa) THAT YtoggbmfjkcbilaaDoorProg.lean LOADS. Nothing in Lean hashes anything: it is a label: what it is worth is what the hold of that sum in a sandbox is worth. -/
noncomputable def Tryd.pinned : Pinned := { name := "ytoggbmfjkcbilaadoor", sum := "b3b98d5d2cdcb3deec9f4bfc0de33f3a08759b659714b8ac5dd10cc908360095", checked := Tryd.checked }
namespace Rows
def none {H : Type} : Left H := { results := [], args := [] }

/- WHAT THE LISTED PACKAGE-LEVEL VARIABLES READ AS WHEN THE CALL BEGINS. Each datum BY PROGRAM (the guide's laid-datum.mjs) off the statement by which the dump's own 'gosem.cut.vars' lays the variable. In a bare row this is a premise. The card (YtoggbmfjkcbilaaDoorCards.lean) ties it to the program's text. -/
def laid_winnow_cong_zero {H : Type} : DataW H := .agg [.lit (.int .u64 0), .lit (.int .u64 0)]
def laid_math_bits_deBruijn64tab {H : Type} : DataW H := .agg [.lit (.int .u8 0), .lit (.int .u8 1), .lit (.int .u8 56), .lit (.int .u8 2), .lit (.int .u8 57), .lit (.int .u8 49), .lit (.int .u8 28), .lit (.int .u8 3), .lit (.int .u8 61), .lit (.int .u8 58), .lit (.int .u8 42), .lit (.int .u8 50), .lit (.int .u8 38), .lit (.int .u8 29), .lit (.int .u8 17), .lit (.int .u8 4), .lit (.int .u8 62), .lit (.int .u8 47), .lit (.int .u8 59), .lit (.int .u8 36), .lit (.int .u8 45), .lit (.int .u8 43), .lit (.int .u8 51), .lit (.int .u8 22), .lit (.int .u8 53), .lit (.int .u8 39), .lit (.int .u8 33), .lit (.int .u8 30), .lit (.int .u8 24), .lit (.int .u8 18), .lit (.int .u8 12), .lit (.int .u8 5), .lit (.int .u8 63), .lit (.int .u8 55), .lit (.int .u8 48), .lit (.int .u8 27), .lit (.int .u8 60), .lit (.int .u8 41), .lit (.int .u8 37), .lit (.int .u8 16), .lit (.int .u8 46), .lit (.int .u8 35), .lit (.int .u8 44), .lit (.int .u8 21), .lit (.int .u8 52), .lit (.int .u8 32), .lit (.int .u8 23), .lit (.int .u8 11), .lit (.int .u8 54), .lit (.int .u8 26), .lit (.int .u8 40), .lit (.int .u8 15), .lit (.int .u8 34), .lit (.int .u8 20), .lit (.int .u8 31), .lit (.int .u8 10), .lit (.int .u8 25), .lit (.int .u8 14), .lit (.int .u8 19), .lit (.int .u8 9), .lit (.int .u8 13), .lit (.int .u8 8), .lit (.int .u8 7), .lit (.int .u8 6)]
def laid_winnow_cong_everything {H : Type} : DataW H := .agg [.lit (.int .u64 1), .lit (.int .u64 0)]

/-- 'winnowlaw12.CongMeets': WHATEVER THE INPUT: true; the input reads as it did. -/
def congMeetsSpec : ChangeSpec := { name := "congMeets", fn := fun _ => fun
  | [d1, d2, d3, d4] => { results := [.lit (.bool true)], args := [d1, d2, d3, d4] }
  | _ => none }
def congMeetsRow : OpenClaim := { program := "ytoggbmfjkcbilaadoor", sum := "b3b98d5d2cdcb3deec9f4bfc0de33f3a08759b659714b8ac5dd10cc908360095", func := "winnow/winnowlaw12.CongMeets", spec := "congMeets", inPlace := ["math/bits.Add64", "math/bits.Sub64"], unfollowed := true, recurses := true, named := ["winnow/cong.zero", "math/bits.divideError", "math/bits.overflowError"], apart := false, laid := [("winnow/cong.zero", laid_winnow_cong_zero)] }
def CongMeetsSaid : Prop := congMeetsRow.holds Tryd.pinned (OpenSpec.ofChange congMeetsSpec)

/-- ITS FALSE NEIGHBOUR: 'it returns false'. Refute it at one input. -/
def congMeetsWrong : ChangeSpec := { name := "congMeets", fn := fun _ => fun
  | [d1, d2, d3, d4] => { results := [.lit (.bool false)], args := [d1, d2, d3, d4] }
  | _ => none }
def CongMeetsWrongFalsely : Prop := congMeetsRow.holds Tryd.pinned (OpenSpec.ofChange congMeetsWrong)

/-- 'winnowlaw12.CongSets': WHATEVER THE INPUT: true; the input reads as it did. -/
def congSetsSpec : ChangeSpec := { name := "congSets", fn := fun _ => fun
  | [d1, d2, d3] => { results := [.lit (.bool true)], args := [d1, d2, d3] }
  | _ => none }
def congSetsRow : OpenClaim := { program := "ytoggbmfjkcbilaadoor", sum := "b3b98d5d2cdcb3deec9f4bfc0de33f3a08759b659714b8ac5dd10cc908360095", func := "winnow/winnowlaw12.CongSets", spec := "congSets", inPlace := ["math/bits.Add64", "math/bits.Sub64"], unfollowed := true, recurses := true, named := ["winnow/cong.zero", "math/bits.divideError", "math/bits.overflowError"], apart := false, laid := [("winnow/cong.zero", laid_winnow_cong_zero)] }
def CongSetsSaid : Prop := congSetsRow.holds Tryd.pinned (OpenSpec.ofChange congSetsSpec)

/-- ITS FALSE NEIGHBOUR: 'it returns false'. Refute it at one input. -/
def congSetsWrong : ChangeSpec := { name := "congSets", fn := fun _ => fun
  | [d1, d2, d3] => { results := [.lit (.bool false)], args := [d1, d2, d3] }
  | _ => none }
def CongSetsWrongFalsely : Prop := congSetsRow.holds Tryd.pinned (OpenSpec.ofChange congSetsWrong)

/-- 'winnowlaw12.CongSteps': WHATEVER THE INPUT: true; the input reads as it did. -/
def congStepsSpec : ChangeSpec := { name := "congSteps", fn := fun _ => fun
  | [d1, d2, d3] => { results := [.lit (.bool true)], args := [d1, d2, d3] }
  | _ => none }
def congStepsRow : OpenClaim := { program := "ytoggbmfjkcbilaadoor", sum := "b3b98d5d2cdcb3deec9f4bfc0de33f3a08759b659714b8ac5dd10cc908360095", func := "winnow/winnowlaw12.CongSteps", spec := "congSteps", inPlace := ["math/bits.Add64", "math/bits.Sub64"], unfollowed := true, recurses := true, named := ["winnow/cong.zero", "math/bits.divideError", "math/bits.overflowError"], apart := false, laid := [("winnow/cong.zero", laid_winnow_cong_zero)] }
def CongStepsSaid : Prop := congStepsRow.holds Tryd.pinned (OpenSpec.ofChange congStepsSpec)

/-- ITS FALSE NEIGHBOUR: 'it returns false'. Refute it at one input. -/
def congStepsWrong : ChangeSpec := { name := "congSteps", fn := fun _ => fun
  | [d1, d2, d3] => { results := [.lit (.bool false)], args := [d1, d2, d3] }
  | _ => none }
def CongStepsWrongFalsely : Prop := congStepsRow.holds Tryd.pinned (OpenSpec.ofChange congStepsWrong)

/-- 'winnowlaw12.CongOps': WHATEVER THE INPUT: true; the input reads as it did. -/
def congOpsSpec : ChangeSpec := { name := "congOps", fn := fun _ => fun
  | [d1, d2, d3] => { results := [.lit (.bool true)], args := [d1, d2, d3] }
  | _ => none }
def congOpsRow : OpenClaim := { program := "ytoggbmfjkcbilaadoor", sum := "b3b98d5d2cdcb3deec9f4bfc0de33f3a08759b659714b8ac5dd10cc908360095", func := "winnow/winnowlaw12.CongOps", spec := "congOps", inPlace := ["math/bits.Add64", "math/bits.Sub64"], unfollowed := true, recurses := true, named := ["winnow/cong.zero", "math/bits.divideError", "math/bits.overflowError", "math/bits.deBruijn64tab", "winnow/cong.everything"], apart := false, laid := [("math/bits.deBruijn64tab", laid_math_bits_deBruijn64tab), ("winnow/cong.everything", laid_winnow_cong_everything), ("winnow/cong.zero", laid_winnow_cong_zero)] }
def CongOpsSaid : Prop := congOpsRow.holds Tryd.pinned (OpenSpec.ofChange congOpsSpec)

/-- ITS FALSE NEIGHBOUR: 'it returns false'. Refute it at one input. -/
def congOpsWrong : ChangeSpec := { name := "congOps", fn := fun _ => fun
  | [d1, d2, d3] => { results := [.lit (.bool false)], args := [d1, d2, d3] }
  | _ => none }
def CongOpsWrongFalsely : Prop := congOpsRow.holds Tryd.pinned (OpenSpec.ofChange congOpsWrong)

/-- 'winnowlaw12.CongHolds': WHATEVER THE INPUT: true; the input reads as it did. -/
def congHoldsSpec : ChangeSpec := { name := "congHolds", fn := fun _ => fun
  | [d] => { results := [.lit (.bool true)], args := [d] }
  | _ => none }
def congHoldsRow : OpenClaim := { program := "ytoggbmfjkcbilaadoor", sum := "b3b98d5d2cdcb3deec9f4bfc0de33f3a08759b659714b8ac5dd10cc908360095", func := "winnow/winnowlaw12.CongHolds", spec := "congHolds", inPlace := ["math/bits.Add64", "math/bits.Sub64"], unfollowed := true, recurses := true, named := ["winnow/cong.zero", "math/bits.divideError", "math/bits.overflowError", "math/bits.deBruijn64tab", "winnow/cong.everything"], apart := false, laid := [("math/bits.deBruijn64tab", laid_math_bits_deBruijn64tab), ("winnow/cong.everything", laid_winnow_cong_everything), ("winnow/cong.zero", laid_winnow_cong_zero)] }
def CongHoldsSaid : Prop := congHoldsRow.holds Tryd.pinned (OpenSpec.ofChange congHoldsSpec)

/-- ITS FALSE NEIGHBOUR: 'it returns false'. Refute it at one input. -/
def congHoldsWrong : ChangeSpec := { name := "congHolds", fn := fun _ => fun
  | [d] => { results := [.lit (.bool false)], args := [d] }
  | _ => none }
def CongHoldsWrongFalsely : Prop := congHoldsRow.holds Tryd.pinned (OpenSpec.ofChange congHoldsWrong)

/- THE SECOND FORM. 'bulk': how many values and letters a reading holds, each counted each time it is reached (what is shared counts as often as it is met; a slice's spare places count too). A statement '..UptoSaid' is the law's where the arguments, and the package variables that the reading takes, are together of bulk at most 1048576: NARROWER than '..Said'. Prove '..Said' where nothing that the law and all that it calls make is longer than what came in: it says more and counts as full. Else prove '..UptoSaid'. A law counts once. -/
mutual
def uptoBulk {H : Type} : DataW H → Nat
  | .lit (.string bytes) => bytes.length + 1
  | .lit _ => 1
  | .nil => 1
  | .ptr d => uptoBulk d + 1
  | .slice elems spare => uptoBulkAll elems + uptoBulkAll spare + 1
  | .agg parts => uptoBulkAll parts + 1
  | .iface _ d => uptoBulk d + 1
  | .map entries => uptoBulkEntries entries + 1
  | .held _ => 1
def uptoBulkAll {H : Type} : List (DataW H) → Nat
  | [] => 0
  | d :: r => uptoBulk d + uptoBulkAll r
def uptoBulkEntries {H : Type} : List (Lit × DataW H) → Nat
  | [] => 0
  | x :: r => uptoBulkEntry x + uptoBulkEntries r
def uptoBulkEntry {H : Type} : Lit × DataW H → Nat
  | (.string bytes, d) => bytes.length + uptoBulk d + 1
  | (_, d) => uptoBulk d + 1
 end
def uptoSmall : (H : Type) → List (DataW H) → Bool := fun _ ds => decide (uptoBulkAll ds ≤ 1048576)
def OpenSpec.upto (s : _root_.Go.ChangeSpec) : _root_.Go.OpenSpec := { _root_.Go.OpenSpec.ofChange s with cond := some uptoSmall }

/-- 'winnowlaw12.CongMeets', WHERE WHAT IT READS IS OF BULK AT MOST 1048576: true; the input reads as it did. -/
def congMeetsUptoRow : OpenClaim := { program := "ytoggbmfjkcbilaadoor", sum := "b3b98d5d2cdcb3deec9f4bfc0de33f3a08759b659714b8ac5dd10cc908360095", func := "winnow/winnowlaw12.CongMeets", spec := "congMeets", inPlace := ["math/bits.Add64", "math/bits.Sub64"], unfollowed := true, recurses := true, named := ["winnow/cong.zero", "math/bits.divideError", "math/bits.overflowError"], apart := false, laid := [("winnow/cong.zero", laid_winnow_cong_zero)], narrowed := true }
def CongMeetsUptoSaid : Prop := congMeetsUptoRow.holds Tryd.pinned (OpenSpec.upto congMeetsSpec)

/-- 'winnowlaw12.CongSets', WHERE WHAT IT READS IS OF BULK AT MOST 1048576: true; the input reads as it did. -/
def congSetsUptoRow : OpenClaim := { program := "ytoggbmfjkcbilaadoor", sum := "b3b98d5d2cdcb3deec9f4bfc0de33f3a08759b659714b8ac5dd10cc908360095", func := "winnow/winnowlaw12.CongSets", spec := "congSets", inPlace := ["math/bits.Add64", "math/bits.Sub64"], unfollowed := true, recurses := true, named := ["winnow/cong.zero", "math/bits.divideError", "math/bits.overflowError"], apart := false, laid := [("winnow/cong.zero", laid_winnow_cong_zero)], narrowed := true }
def CongSetsUptoSaid : Prop := congSetsUptoRow.holds Tryd.pinned (OpenSpec.upto congSetsSpec)

/-- 'winnowlaw12.CongSteps', WHERE WHAT IT READS IS OF BULK AT MOST 1048576: true; the input reads as it did. -/
def congStepsUptoRow : OpenClaim := { program := "ytoggbmfjkcbilaadoor", sum := "b3b98d5d2cdcb3deec9f4bfc0de33f3a08759b659714b8ac5dd10cc908360095", func := "winnow/winnowlaw12.CongSteps", spec := "congSteps", inPlace := ["math/bits.Add64", "math/bits.Sub64"], unfollowed := true, recurses := true, named := ["winnow/cong.zero", "math/bits.divideError", "math/bits.overflowError"], apart := false, laid := [("winnow/cong.zero", laid_winnow_cong_zero)], narrowed := true }
def CongStepsUptoSaid : Prop := congStepsUptoRow.holds Tryd.pinned (OpenSpec.upto congStepsSpec)

/-- 'winnowlaw12.CongOps', WHERE WHAT IT READS IS OF BULK AT MOST 1048576: true; the input reads as it did. -/
def congOpsUptoRow : OpenClaim := { program := "ytoggbmfjkcbilaadoor", sum := "b3b98d5d2cdcb3deec9f4bfc0de33f3a08759b659714b8ac5dd10cc908360095", func := "winnow/winnowlaw12.CongOps", spec := "congOps", inPlace := ["math/bits.Add64", "math/bits.Sub64"], unfollowed := true, recurses := true, named := ["winnow/cong.zero", "math/bits.divideError", "math/bits.overflowError", "math/bits.deBruijn64tab", "winnow/cong.everything"], apart := false, laid := [("math/bits.deBruijn64tab", laid_math_bits_deBruijn64tab), ("winnow/cong.everything", laid_winnow_cong_everything), ("winnow/cong.zero", laid_winnow_cong_zero)], narrowed := true }
def CongOpsUptoSaid : Prop := congOpsUptoRow.holds Tryd.pinned (OpenSpec.upto congOpsSpec)

/-- 'winnowlaw12.CongHolds', WHERE WHAT IT READS IS OF BULK AT MOST 1048576: true; the input reads as it did. -/
def congHoldsUptoRow : OpenClaim := { program := "ytoggbmfjkcbilaadoor", sum := "b3b98d5d2cdcb3deec9f4bfc0de33f3a08759b659714b8ac5dd10cc908360095", func := "winnow/winnowlaw12.CongHolds", spec := "congHolds", inPlace := ["math/bits.Add64", "math/bits.Sub64"], unfollowed := true, recurses := true, named := ["winnow/cong.zero", "math/bits.divideError", "math/bits.overflowError", "math/bits.deBruijn64tab", "winnow/cong.everything"], apart := false, laid := [("math/bits.deBruijn64tab", laid_math_bits_deBruijn64tab), ("winnow/cong.everything", laid_winnow_cong_everything), ("winnow/cong.zero", laid_winnow_cong_zero)], narrowed := true }
def CongHoldsUptoSaid : Prop := congHoldsUptoRow.holds Tryd.pinned (OpenSpec.upto congHoldsSpec)

end Rows
end Go.Proofs.YtoggbmfjkcbilaaDoor
