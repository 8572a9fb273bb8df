/-
  NARROWER THAN 'FOR EVERY INPUT', by the rows' own cells (each row's printed sentence says how): IvalWidens: laid · IvalSets: laid · IvalOps: laid · IvalHulls: laid · IvalHolds: laid.
  DERIVED. THE GIVEN ROWS OF THIS SEAT. 5 by the template 'for every input the law returns true; each argument reads behind the call as it read before'; 0 by the template 'total and deterministic' (their statements: YtbbplkdjcgdaaaaDoorTotals.lean).
  GIVEN WITH THE SEED: the statements are not yours to turn. If you find one false, say at which input.
  Laid BY PROGRAM, IN A SANDBOX (cutbox-rows.mjs): the forced cells as the released guide's own fill.sh prints them over the translation 912f89b51e7d9de6… (all of the seat's roots in one cut). By AI agents, Wed Nov 11 2026. No macro, syntax, notation, axiom, sorry.
-/
import Derived.Test.YtbbplkdjcgdaaaaDoorChecked
import GoSem.Claim
import GoSem.ClaimJoined
import GoSem.ClaimMapViews
import Derived.JoinedTies
import Derived.KernelRfl
namespace Go.Proofs.YtbbplkdjcgdaaaaDoor
/- THE CELL 'sum', in the pinned program and in every row, IS THE sha256 OF THE DUMP (.gsa) THAT YtbbplkdjcgdaaaaDoorProg.lean LOADS. Nothing in Lean hashes anything: it is a label: what it is worth is what the hold of that sum in a sandbox is worth. -/
noncomputable def Tryd.pinned : Pinned := { name := "ytbbplkdjcgdaaaadoor", sum := "912f89b51e7d9de6889bfd0b09b70213b7ae63ec46badecb5d8b34bb63d9ceed", checked := Tryd.checked }
namespace Rows
def none {H : Type} : Left H := { results := [], args := [] }

/- WHAT THE LISTED PACKAGE-LEVEL VARIABLES READ AS WHEN THE CALL BEGINS. Each datum BY PROGRAM (the guide's laid-datum.mjs) off the statement by which the dump's own 'gosem.cut.vars' lays the variable. In a bare row this is a premise. The card (YtbbplkdjcgdaaaaDoorCards.lean) ties it to the program's text. -/
def laid_winnow_ival_nothing {H : Type} : DataW H := .agg [.lit (.int .i64 1), .lit (.int .i64 0)]
def laid_winnow_ival_all {H : Type} : DataW H := .agg [.lit (.int .i64 (-9223372036854775808)), .lit (.int .i64 9223372036854775807)]

/-- 'winnowlaw11.IvalWidens': WHATEVER THE INPUT: true; the input reads as it did. -/
def ivalWidensSpec : ChangeSpec := { name := "ivalWidens", fn := fun _ => fun
  | [d1, d2, d3] => { results := [.lit (.bool true)], args := [d1, d2, d3] }
  | _ => none }
def ivalWidensRow : OpenClaim := { program := "ytbbplkdjcgdaaaadoor", sum := "912f89b51e7d9de6889bfd0b09b70213b7ae63ec46badecb5d8b34bb63d9ceed", func := "winnow/winnowlaw11.IvalWidens", spec := "ivalWidens", unfollowed := true, recurses := true, named := ["winnow/ival.nothing", "winnow/ival.all"], apart := false, laid := [("winnow/ival.nothing", laid_winnow_ival_nothing), ("winnow/ival.all", laid_winnow_ival_all)] }
def IvalWidensSaid : Prop := ivalWidensRow.holds Tryd.pinned (OpenSpec.ofChange ivalWidensSpec)

/-- ITS FALSE NEIGHBOUR: 'it returns false'. Refute it at one input. -/
def ivalWidensWrong : ChangeSpec := { name := "ivalWidens", fn := fun _ => fun
  | [d1, d2, d3] => { results := [.lit (.bool false)], args := [d1, d2, d3] }
  | _ => none }
def IvalWidensWrongFalsely : Prop := ivalWidensRow.holds Tryd.pinned (OpenSpec.ofChange ivalWidensWrong)

/-- 'winnowlaw11.IvalSets': WHATEVER THE INPUT: true; the input reads as it did. -/
def ivalSetsSpec : ChangeSpec := { name := "ivalSets", fn := fun _ => fun
  | [d1, d2, d3] => { results := [.lit (.bool true)], args := [d1, d2, d3] }
  | _ => none }
def ivalSetsRow : OpenClaim := { program := "ytbbplkdjcgdaaaadoor", sum := "912f89b51e7d9de6889bfd0b09b70213b7ae63ec46badecb5d8b34bb63d9ceed", func := "winnow/winnowlaw11.IvalSets", spec := "ivalSets", unfollowed := true, recurses := true, named := ["winnow/ival.nothing", "winnow/ival.all"], apart := false, laid := [("winnow/ival.nothing", laid_winnow_ival_nothing), ("winnow/ival.all", laid_winnow_ival_all)] }
def IvalSetsSaid : Prop := ivalSetsRow.holds Tryd.pinned (OpenSpec.ofChange ivalSetsSpec)

/-- ITS FALSE NEIGHBOUR: 'it returns false'. Refute it at one input. -/
def ivalSetsWrong : ChangeSpec := { name := "ivalSets", fn := fun _ => fun
  | [d1, d2, d3] => { results := [.lit (.bool false)], args := [d1, d2, d3] }
  | _ => none }
def IvalSetsWrongFalsely : Prop := ivalSetsRow.holds Tryd.pinned (OpenSpec.ofChange ivalSetsWrong)

/-- 'winnowlaw11.IvalOps': WHATEVER THE INPUT: true; the input reads as it did. -/
def ivalOpsSpec : ChangeSpec := { name := "ivalOps", fn := fun _ => fun
  | [d1, d2] => { results := [.lit (.bool true)], args := [d1, d2] }
  | _ => none }
def ivalOpsRow : OpenClaim := { program := "ytbbplkdjcgdaaaadoor", sum := "912f89b51e7d9de6889bfd0b09b70213b7ae63ec46badecb5d8b34bb63d9ceed", func := "winnow/winnowlaw11.IvalOps", spec := "ivalOps", unfollowed := true, recurses := true, named := ["winnow/ival.nothing", "winnow/ival.all"], apart := false, laid := [("winnow/ival.nothing", laid_winnow_ival_nothing), ("winnow/ival.all", laid_winnow_ival_all)] }
def IvalOpsSaid : Prop := ivalOpsRow.holds Tryd.pinned (OpenSpec.ofChange ivalOpsSpec)

/-- ITS FALSE NEIGHBOUR: 'it returns false'. Refute it at one input. -/
def ivalOpsWrong : ChangeSpec := { name := "ivalOps", fn := fun _ => fun
  | [d1, d2] => { results := [.lit (.bool false)], args := [d1, d2] }
  | _ => none }
def IvalOpsWrongFalsely : Prop := ivalOpsRow.holds Tryd.pinned (OpenSpec.ofChange ivalOpsWrong)

/-- 'winnowlaw11.IvalHulls': WHATEVER THE INPUT: true; the input reads as it did. -/
def ivalHullsSpec : ChangeSpec := { name := "ivalHulls", fn := fun _ => fun
  | [d1, d2, d3, d4] => { results := [.lit (.bool true)], args := [d1, d2, d3, d4] }
  | _ => none }
def ivalHullsRow : OpenClaim := { program := "ytbbplkdjcgdaaaadoor", sum := "912f89b51e7d9de6889bfd0b09b70213b7ae63ec46badecb5d8b34bb63d9ceed", func := "winnow/winnowlaw11.IvalHulls", spec := "ivalHulls", unfollowed := true, recurses := true, named := ["winnow/ival.nothing", "winnow/ival.all"], apart := false, laid := [("winnow/ival.nothing", laid_winnow_ival_nothing), ("winnow/ival.all", laid_winnow_ival_all)] }
def IvalHullsSaid : Prop := ivalHullsRow.holds Tryd.pinned (OpenSpec.ofChange ivalHullsSpec)

/-- ITS FALSE NEIGHBOUR: 'it returns false'. Refute it at one input. -/
def ivalHullsWrong : ChangeSpec := { name := "ivalHulls", fn := fun _ => fun
  | [d1, d2, d3, d4] => { results := [.lit (.bool false)], args := [d1, d2, d3, d4] }
  | _ => none }
def IvalHullsWrongFalsely : Prop := ivalHullsRow.holds Tryd.pinned (OpenSpec.ofChange ivalHullsWrong)

/-- 'winnowlaw11.IvalHolds': WHATEVER THE INPUT: true; the input reads as it did. -/
def ivalHoldsSpec : ChangeSpec := { name := "ivalHolds", fn := fun _ => fun
  | [d] => { results := [.lit (.bool true)], args := [d] }
  | _ => none }
def ivalHoldsRow : OpenClaim := { program := "ytbbplkdjcgdaaaadoor", sum := "912f89b51e7d9de6889bfd0b09b70213b7ae63ec46badecb5d8b34bb63d9ceed", func := "winnow/winnowlaw11.IvalHolds", spec := "ivalHolds", unfollowed := true, recurses := true, named := ["winnow/ival.nothing", "winnow/ival.all"], apart := false, laid := [("winnow/ival.nothing", laid_winnow_ival_nothing), ("winnow/ival.all", laid_winnow_ival_all)] }
def IvalHoldsSaid : Prop := ivalHoldsRow.holds Tryd.pinned (OpenSpec.ofChange ivalHoldsSpec)

/-- ITS FALSE NEIGHBOUR: 'it returns false'. Refute it at one input. -/
def ivalHoldsWrong : ChangeSpec := { name := "ivalHolds", fn := fun _ => fun
  | [d] => { results := [.lit (.bool false)], args := [d] }
  | _ => none }
def IvalHoldsWrongFalsely : Prop := ivalHoldsRow.holds Tryd.pinned (OpenSpec.ofChange ivalHoldsWrong)

/- THE SECOND FORM. 'bulk': how many values and letters a reading holds, each counted each time it is reached (what is shared counts as often as it is met; a slice's spare places count too). A statement '..UptoSaid' is the law's where the arguments, and the package variables that the reading takes, are together of bulk at most 1048576: NARROWER than '..Said'. Prove '..Said' where nothing that the law and all that it calls make is longer than what came in: it says more and counts as full. Else prove '..UptoSaid'. A law counts once. -/
mutual
def uptoBulk {H : Type} : DataW H → Nat
  | .lit (.string bytes) => bytes.length + 1
  | .lit _ => 1
  | .nil => 1
  | .ptr d => uptoBulk d + 1
  | .slice elems spare => uptoBulkAll elems + uptoBulkAll spare + 1
  | .agg parts => uptoBulkAll parts + 1
  | .iface _ d => uptoBulk d + 1
  | .map entries => uptoBulkEntries entries + 1
  | .held _ => 1
def uptoBulkAll {H : Type} : List (DataW H) → Nat
  | [] => 0
  | d :: r => uptoBulk d + uptoBulkAll r
def uptoBulkEntries {H : Type} : List (Lit × DataW H) → Nat
  | [] => 0
  | x :: r => uptoBulkEntry x + uptoBulkEntries r
def uptoBulkEntry {H : Type} : Lit × DataW H → Nat
  | (.string bytes, d) => bytes.length + uptoBulk d + 1
  | (_, d) => uptoBulk d + 1
 end
def uptoSmall : (H : Type) → List (DataW H) → Bool := fun _ ds => decide (uptoBulkAll ds ≤ 1048576)
def OpenSpec.upto (s : _root_.Go.ChangeSpec) : _root_.Go.OpenSpec := { _root_.Go.OpenSpec.ofChange s with cond := some uptoSmall }

/-- 'winnowlaw11.IvalWidens', WHERE WHAT IT READS IS OF BULK AT MOST 1048576: true; the input reads as it did. -/
def ivalWidensUptoRow : OpenClaim := { program := "ytbbplkdjcgdaaaadoor", sum := "912f89b51e7d9de6889bfd0b09b70213b7ae63ec46badecb5d8b34bb63d9ceed", func := "winnow/winnowlaw11.IvalWidens", spec := "ivalWidens", unfollowed := true, recurses := true, named := ["winnow/ival.nothing", "winnow/ival.all"], apart := false, laid := [("winnow/ival.nothing", laid_winnow_ival_nothing), ("winnow/ival.all", laid_winnow_ival_all)], narrowed := true }
def IvalWidensUptoSaid : Prop := ivalWidensUptoRow.holds Tryd.pinned (OpenSpec.upto ivalWidensSpec)

/-- 'winnowlaw11.IvalSets', WHERE WHAT IT READS IS OF BULK AT MOST 1048576: true; the input reads as it did. -/
def ivalSetsUptoRow : OpenClaim := { program := "ytbbplkdjcgdaaaadoor", sum := "912f89b51e7d9de6889bfd0b09b70213b7ae63ec46badecb5d8b34bb63d9ceed", func := "winnow/winnowlaw11.IvalSets", spec := "ivalSets", unfollowed := true, recurses := true, named := ["winnow/ival.nothing", "winnow/ival.all"], apart := false, laid := [("winnow/ival.nothing", laid_winnow_ival_nothing), ("winnow/ival.all", laid_winnow_ival_all)], narrowed := true }
def IvalSetsUptoSaid : Prop := ivalSetsUptoRow.holds Tryd.pinned (OpenSpec.upto ivalSetsSpec)

/-- 'winnowlaw11.IvalOps', WHERE WHAT IT READS IS OF BULK AT MOST 1048576: true; the input reads as it did. -/
def ivalOpsUptoRow : OpenClaim := { program := "ytbbplkdjcgdaaaadoor", sum := "912f89b51e7d9de6889bfd0b09b70213b7ae63ec46badecb5d8b34bb63d9ceed", func := "winnow/winnowlaw11.IvalOps", spec := "ivalOps", unfollowed := true, recurses := true, named := ["winnow/ival.nothing", "winnow/ival.all"], apart := false, laid := [("winnow/ival.nothing", laid_winnow_ival_nothing), ("winnow/ival.all", laid_winnow_ival_all)], narrowed := true }
def IvalOpsUptoSaid : Prop := ivalOpsUptoRow.holds Tryd.pinned (OpenSpec.upto ivalOpsSpec)

/-- 'winnowlaw11.IvalHulls', WHERE WHAT IT READS IS OF BULK AT MOST 1048576: true; the input reads as it did. -/
def ivalHullsUptoRow : OpenClaim := { program := "ytbbplkdjcgdaaaadoor", sum := "912f89b51e7d9de6889bfd0b09b70213b7ae63ec46badecb5d8b34bb63d9ceed", func := "winnow/winnowlaw11.IvalHulls", spec := "ivalHulls", unfollowed := true, recurses := true, named := ["winnow/ival.nothing", "winnow/ival.all"], apart := false, laid := [("winnow/ival.nothing", laid_winnow_ival_nothing), ("winnow/ival.all", laid_winnow_ival_all)], narrowed := true }
def IvalHullsUptoSaid : Prop := ivalHullsUptoRow.holds Tryd.pinned (OpenSpec.upto ivalHullsSpec)

/-- 'winnowlaw11.IvalHolds', WHERE WHAT IT READS IS OF BULK AT MOST 1048576: true; the input reads as it did. -/
def ivalHoldsUptoRow : OpenClaim := { program := "ytbbplkdjcgdaaaadoor", sum := "912f89b51e7d9de6889bfd0b09b70213b7ae63ec46badecb5d8b34bb63d9ceed", func := "winnow/winnowlaw11.IvalHolds", spec := "ivalHolds", unfollowed := true, recurses := true, named := ["winnow/ival.nothing", "winnow/ival.all"], apart := false, laid := [("winnow/ival.nothing", laid_winnow_ival_nothing), ("winnow/ival.all", laid_winnow_ival_all)], narrowed := true }
def IvalHoldsUptoSaid : Prop := ivalHoldsUptoRow.holds Tryd.pinned (OpenSpec.upto ivalHoldsSpec)

end Rows
end Go.Proofs.YtbbplkdjcgdaaaaDoor
