/- What every row of this seat needs: the listed variables, as the program lays them. Conditions: none. -/
import Derived.Test.YtmadebejnhinoaaDoorB
import Derived.Test.YtmadebejnhinoaaDoorRows
import Derived.Test.YtmadebejnhinoaaDoorTie
import Derived.Test.YtmadebejnhinoaaDoorCards
import Derived.SevenTiedAt
import Derived.LaidMore
import Derived.LaidLaws
import Derived.Stop.Joined
import Derived.ProofKit
import Derived.OpenShut
import Derived.ShutString
import Derived.ChangeOld
import Derived.Below
import Derived.SizedLaws
import Derived.Carry
set_option linter.unusedVariables false
set_option linter.unusedSimpArgs false
namespace Go.Proofs.YtmadebejnhinoaaDoor.V
open Go Go.Wk Go.ChangeShapes Go.WideShapes Go.ChangeAt Go.RowKit
theorem own : ownKnob Tryd.prog.godebug = none := by kernel_rfl
theorem laidOut : laidOutB Tryd.prog = true := by kernel_rfl
theorem k41 : kindsOf Tryd.prog 9 41 = some [.i .i64, .i .i64] := by kernel_rfl
theorem k44 : kindsOf Tryd.prog 9 44 = some [.i .u64, .i .u64] := by kernel_rfl
theorem var_heap {P : Program} {w : World} {n : String} {g : Nat} {cs : Array Value} (hg : P.globalNamed n = some g) (h : w.var? P n = some cs) : ∃ t fr, w.heap[g]? = some (.cells cs t fr) := by
  simp only [World.var?, hg, Option.bind_some] at h
  split at h <;> simp at h
  subst h
  exact ⟨_, _, by assumption⟩
def laidL : List (String × DataW Unit) := [("winnow/cong.zero", Rows.laid_winnow_cong_zero), ("winnow/ival.nothing", Rows.laid_winnow_ival_nothing)]
theorem gn0 : Tryd.prog.globalNamed "winnow/cong.zero" = some 0 := by kernel_rfl
theorem gt0 : (Tryd.prog.globals[0]?).map (·.type) = some 44 := by kernel_rfl
theorem gn1 : Tryd.prog.globalNamed "winnow/ival.nothing" = some 1 := by kernel_rfl
theorem gt1 : (Tryd.prog.globals[1]?).map (·.type) = some 41 := by kernel_rfl
theorem door_met (os : Os) (args : Array Value) : laidMetH Tryd.prog laidL ((World.doorLaid Tryd.prog 400 os).forCall (fun _ _ => 0) ⟨#[], args, []⟩).memory :=
  laidMetH_of_parts3 (fuel := 8) (laidMet_of_run' 8 (by kernel_rfl) (by kernel_rfl)) (by kernel_rfl) (by kernel_rfl)
theorem gok_of_laid {W : World} (h : laidMetH Tryd.prog laidL W) : GOK G W := by
  rw [MakeChecks.laidMetH_plain _ _ _ (by kernel_rfl)] at h
  obtain ⟨ps, ⟨g0, t0, cs0, f0, p0, q0, hg0, ht0, hv0, hd0, ⟨g1, t1, cs1, f1, p1, q1, hg1, ht1, hv1, hd1, _, _⟩, _⟩, _, _⟩ := h
  obtain rfl := Option.some.inj (gn0.symm.trans hg0)
  obtain rfl := Option.some.inj (gt0.symm.trans ht0)
  have e0 := (trod_flat 9 44 _ k44 _ _ _ hd0).1
  obtain rfl := Option.some.inj (gn1.symm.trans hg1)
  obtain rfl := Option.some.inj (gt1.symm.trans ht1)
  have e1 := (trod_flat 9 41 _ k41 _ _ _ hd1).1
  intro g cs hg
  simp only [G, List.mem_cons, Prod.mk.injEq, List.mem_nil_iff, or_false] at hg
  rcases hg with ⟨rfl, rfl⟩ | ⟨rfl, rfl⟩
  · obtain ⟨tt, fr, hh⟩ := var_heap hg0 hv0
    exact ⟨tt, fr, hh.trans (congrArg (fun z => some (Obj.cells z tt fr)) (Array.ext' e0))⟩
  · obtain ⟨tt, fr, hh⟩ := var_heap hg1 hv1
    exact ⟨tt, fr, hh.trans (congrArg (fun z => some (Obj.cells z tt fr)) (Array.ext' e1))⟩
end Go.Proofs.YtmadebejnhinoaaDoor.V
