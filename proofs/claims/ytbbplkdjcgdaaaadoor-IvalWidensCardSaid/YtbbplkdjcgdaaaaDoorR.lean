/- What every row of this seat needs: the listed variables, as the program lays them. Conditions: none. -/
import Derived.Test.YtbbplkdjcgdaaaaDoorB
import Derived.Test.YtbbplkdjcgdaaaaDoorRows
import Derived.Test.YtbbplkdjcgdaaaaDoorTie
import Derived.Test.YtbbplkdjcgdaaaaDoorCards
import Derived.SevenTiedAt
import Derived.LaidMore
import Derived.LaidLaws
import Derived.Stop.Joined
import Derived.ProofKit
import Derived.OpenShut
import Derived.ShutString
import Derived.ChangeOld
import Derived.Below
import Derived.SizedLaws
import Derived.Carry
set_option linter.unusedVariables false
set_option linter.unusedSimpArgs false
namespace Go.Proofs.YtbbplkdjcgdaaaaDoor.V
open Go Go.Wk Go.ChangeShapes Go.WideShapes Go.ChangeAt Go.RowKit
theorem own : ownKnob Tryd.prog.godebug = none := by kernel_rfl
theorem laidOut : laidOutB Tryd.prog = true := by kernel_rfl
theorem k23 : kindsOf Tryd.prog 9 23 = some [.i .i64, .i .i64] := by kernel_rfl
theorem k43 : kindsOf Tryd.prog 9 43 = some [.i .i64, .i .i64, .i .i64, .i .i64, .i .i64, .i .i64] := by kernel_rfl
def laidL : List (String × DataW Unit) := [("winnow/ival.nothing", Rows.laid_winnow_ival_nothing), ("winnow/ival.all", Rows.laid_winnow_ival_all)]
theorem gn0 : Tryd.prog.globalNamed "winnow/ival.nothing" = some 0 := by kernel_rfl
theorem gt0 : (Tryd.prog.globals[0]?).map (·.type) = some 23 := by kernel_rfl
theorem gn1 : Tryd.prog.globalNamed "winnow/ival.all" = some 1 := by kernel_rfl
theorem gt1 : (Tryd.prog.globals[1]?).map (·.type) = some 23 := by kernel_rfl
theorem door_met (os : Os) (args : Array Value) : laidMetH Tryd.prog laidL ((World.doorLaid Tryd.prog 400 os).forCall (fun _ _ => 0) ⟨#[], args, []⟩).memory :=
  laidMetH_of_parts3 (fuel := 8) (laidMet_of_run' 8 (by kernel_rfl) (by kernel_rfl)) (by kernel_rfl) (by kernel_rfl)
theorem gok_of_laid {W : World} (h : laidMetH Tryd.prog laidL W) : GOK G W := by
  rw [MakeChecks.laidMetH_plain _ _ _ (by kernel_rfl)] at h
  obtain ⟨ps, ⟨g0, t0, cs0, f0, p0, q0, hg0, ht0, hv0, hd0, ⟨g1, t1, cs1, f1, p1, q1, hg1, ht1, hv1, hd1, _, _⟩, _⟩, _, _⟩ := h
  obtain rfl := Option.some.inj (gn0.symm.trans hg0)
  obtain rfl := Option.some.inj (gt0.symm.trans ht0)
  have e0 := (trod_flat 9 23 _ k23 _ _ _ hd0).1
  obtain rfl := Option.some.inj (gn1.symm.trans hg1)
  obtain rfl := Option.some.inj (gt1.symm.trans ht1)
  have e1 := (trod_flat 9 23 _ k23 _ _ _ hd1).1
  intro g cs hg o v hv
  simp only [G, List.mem_cons, Prod.mk.injEq, List.mem_nil_iff, or_false] at hg
  rcases hg with ⟨rfl, rfl⟩ | ⟨rfl, rfl⟩
  · rw [World.var?_cell hg0 hv0 o, ← Array.getElem?_toList, e0]; exact hv
  · rw [World.var?_cell hg1 hv1 o, ← Array.getElem?_toList, e1]; exact hv
end Go.Proofs.YtbbplkdjcgdaaaaDoor.V
