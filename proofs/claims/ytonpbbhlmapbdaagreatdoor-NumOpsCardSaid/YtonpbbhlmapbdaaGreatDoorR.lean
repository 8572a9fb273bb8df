/- What every row of this seat needs: the listed variables, as the program lays them. Conditions: none. -/
import Derived.Test.YtonpbbhlmapbdaaGreatDoorB
import Derived.Test.YtonpbbhlmapbdaaGreatDoorRows
import Derived.Test.YtonpbbhlmapbdaaGreatDoorTie
import Derived.Test.YtonpbbhlmapbdaaGreatDoorCards
import Derived.SevenTiedAt
import Derived.LaidMore
import Derived.LaidLaws
import Derived.Stop.Joined
import Derived.ProofKit
import Derived.OpenShut
import Derived.ShutString
import Derived.ChangeOld
import Derived.Below
import Derived.SizedLaws
import Derived.Carry
set_option linter.unusedVariables false
set_option linter.unusedSimpArgs false
namespace Go.Proofs.YtonpbbhlmapbdaaGreatDoor.V
open Go Go.Wk Go.ChangeShapes Go.WideShapes Go.ChangeAt Go.RowKit
theorem own : ownKnob Tryz.prog.godebug = none := by kernel_rfl
theorem laidOut : laidOutB Tryz.prog = true := by kernel_rfl
theorem k23 : kindsOf Tryz.prog 9 23 = some [.i .i64, .i .i64] := by kernel_rfl
theorem k26 : kindsOf Tryz.prog 9 26 = some [.i .u64, .i .u64] := by kernel_rfl
theorem k28 : kindsOf Tryz.prog 9 28 = some [.b, .i .i64, .i .i64, .i .u64, .i .u64] := by kernel_rfl
theorem k205 : kindsOf Tryz.prog 9 205 = some [.i .u8, .i .u8, .i .u8, .i .u8, .i .u8, .i .u8, .i .u8, .i .u8, .i .u8, .i .u8, .i .u8, .i .u8, .i .u8, .i .u8, .i .u8, .i .u8, .i .u8, .i .u8, .i .u8, .i .u8, .i .u8, .i .u8, .i .u8, .i .u8, .i .u8, .i .u8, .i .u8, .i .u8, .i .u8, .i .u8, .i .u8, .i .u8, .i .u8, .i .u8, .i .u8, .i .u8, .i .u8, .i .u8, .i .u8, .i .u8, .i .u8, .i .u8, .i .u8, .i .u8, .i .u8, .i .u8, .i .u8, .i .u8, .i .u8, .i .u8, .i .u8, .i .u8, .i .u8, .i .u8, .i .u8, .i .u8, .i .u8, .i .u8, .i .u8, .i .u8, .i .u8, .i .u8, .i .u8, .i .u8] := by kernel_rfl
theorem var_heap {P : Program} {w : World} {n : String} {g : Nat} {cs : Array Value} (hg : P.globalNamed n = some g) (h : w.var? P n = some cs) : ∃ t fr, w.heap[g]? = some (.cells cs t fr) := by
  simp only [World.var?, hg, Option.bind_some] at h
  split at h <;> simp at h
  subst h
  exact ⟨_, _, by assumption⟩
def laidL : List (String × DataW Unit) := [("math/bits.deBruijn64tab", Rows.laid_math_bits_deBruijn64tab), ("winnow/cong.everything", Rows.laid_winnow_cong_everything), ("winnow/cong.zero", Rows.laid_winnow_cong_zero), ("winnow/ival.nothing", Rows.laid_winnow_ival_nothing), ("winnow/ival.all", Rows.laid_winnow_ival_all)]
theorem gn0 : Tryz.prog.globalNamed "math/bits.deBruijn64tab" = some 4 := by kernel_rfl
theorem gt0 : (Tryz.prog.globals[4]?).map (·.type) = some 205 := by kernel_rfl
theorem gn1 : Tryz.prog.globalNamed "winnow/cong.everything" = some 3 := by kernel_rfl
theorem gt1 : (Tryz.prog.globals[3]?).map (·.type) = some 26 := by kernel_rfl
theorem gn2 : Tryz.prog.globalNamed "winnow/cong.zero" = some 1 := by kernel_rfl
theorem gt2 : (Tryz.prog.globals[1]?).map (·.type) = some 26 := by kernel_rfl
theorem gn3 : Tryz.prog.globalNamed "winnow/ival.nothing" = some 0 := by kernel_rfl
theorem gt3 : (Tryz.prog.globals[0]?).map (·.type) = some 23 := by kernel_rfl
theorem gn4 : Tryz.prog.globalNamed "winnow/ival.all" = some 2 := by kernel_rfl
theorem gt4 : (Tryz.prog.globals[2]?).map (·.type) = some 23 := by kernel_rfl
theorem door_met (os : Os) (args : Array Value) : laidMetH Tryz.prog laidL ((World.doorLaid Tryz.prog 400 os).forCall (fun _ _ => 0) ⟨#[], args, []⟩).memory :=
  laidMetH_of_parts3 (fuel := 8) (laidMet_of_run' 8 (by kernel_rfl) (by kernel_rfl)) (by kernel_rfl) (by kernel_rfl)
theorem gok_of_laid {W : World} (h : laidMetH Tryz.prog laidL W) : GOK G W := by
  rw [MakeChecks.laidMetH_plain _ _ _ (by kernel_rfl)] at h
  obtain ⟨ps, ⟨g0, t0, cs0, f0, p0, q0, hg0, ht0, hv0, hd0, ⟨g1, t1, cs1, f1, p1, q1, hg1, ht1, hv1, hd1, ⟨g2, t2, cs2, f2, p2, q2, hg2, ht2, hv2, hd2, ⟨g3, t3, cs3, f3, p3, q3, hg3, ht3, hv3, hd3, ⟨g4, t4, cs4, f4, p4, q4, hg4, ht4, hv4, hd4, _, _⟩, _⟩, _⟩, _⟩, _⟩, _, _⟩ := h
  obtain rfl := Option.some.inj (gn0.symm.trans hg0)
  obtain rfl := Option.some.inj (gt0.symm.trans ht0)
  have e0 := (trod_flat 9 205 _ k205 _ _ _ hd0).1
  obtain rfl := Option.some.inj (gn1.symm.trans hg1)
  obtain rfl := Option.some.inj (gt1.symm.trans ht1)
  have e1 := (trod_flat 9 26 _ k26 _ _ _ hd1).1
  obtain rfl := Option.some.inj (gn2.symm.trans hg2)
  obtain rfl := Option.some.inj (gt2.symm.trans ht2)
  have e2 := (trod_flat 9 26 _ k26 _ _ _ hd2).1
  obtain rfl := Option.some.inj (gn3.symm.trans hg3)
  obtain rfl := Option.some.inj (gt3.symm.trans ht3)
  have e3 := (trod_flat 9 23 _ k23 _ _ _ hd3).1
  obtain rfl := Option.some.inj (gn4.symm.trans hg4)
  obtain rfl := Option.some.inj (gt4.symm.trans ht4)
  have e4 := (trod_flat 9 23 _ k23 _ _ _ hd4).1
  intro g cs hg
  simp only [G, List.mem_cons, Prod.mk.injEq, List.mem_nil_iff, or_false] at hg
  rcases hg with ⟨rfl, rfl⟩ | ⟨rfl, rfl⟩ | ⟨rfl, rfl⟩ | ⟨rfl, rfl⟩ | ⟨rfl, rfl⟩
  · obtain ⟨tt, fr, hh⟩ := var_heap hg3 hv3
    exact ⟨tt, fr, hh.trans (congrArg (fun z => some (Obj.cells z tt fr)) (Array.ext' e3))⟩
  · obtain ⟨tt, fr, hh⟩ := var_heap hg2 hv2
    exact ⟨tt, fr, hh.trans (congrArg (fun z => some (Obj.cells z tt fr)) (Array.ext' e2))⟩
  · obtain ⟨tt, fr, hh⟩ := var_heap hg4 hv4
    exact ⟨tt, fr, hh.trans (congrArg (fun z => some (Obj.cells z tt fr)) (Array.ext' e4))⟩
  · obtain ⟨tt, fr, hh⟩ := var_heap hg1 hv1
    exact ⟨tt, fr, hh.trans (congrArg (fun z => some (Obj.cells z tt fr)) (Array.ext' e1))⟩
  · obtain ⟨tt, fr, hh⟩ := var_heap hg0 hv0
    exact ⟨tt, fr, hh.trans (congrArg (fun z => some (Obj.cells z tt fr)) (Array.ext' e0))⟩
end Go.Proofs.YtonpbbhlmapbdaaGreatDoor.V
