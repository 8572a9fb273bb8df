/- What every row of this seat needs: the listed variables, as the program lays them. Conditions: none. -/
import Derived.Test.YtoggbmfjkcbilaaDoorB
import Derived.Test.YtoggbmfjkcbilaaDoorRows
import Derived.Test.YtoggbmfjkcbilaaDoorTie
import Derived.Test.YtoggbmfjkcbilaaDoorCards
import Derived.SevenTiedAt
import Derived.LaidMore
import Derived.LaidLaws
import Derived.Stop.Joined
import Derived.ProofKit
import Derived.OpenShut
import Derived.ShutString
import Derived.ChangeOld
import Derived.Below
import Derived.SizedLaws
import Derived.Carry
set_option linter.unusedVariables false
set_option linter.unusedSimpArgs false
namespace Go.Proofs.YtoggbmfjkcbilaaDoor.V
open Go Go.Wk Go.ChangeShapes Go.WideShapes Go.ChangeAt Go.RowKit
theorem own : ownKnob Tryd.prog.godebug = none := by kernel_rfl
theorem laidOut : laidOutB Tryd.prog = true := by kernel_rfl
theorem k24 : kindsOf Tryd.prog 9 24 = some [.i .u64, .i .u64] := by kernel_rfl
theorem k97 : kindsOf Tryd.prog 9 97 = some [.i .u8, .i .u8, .i .u8, .i .u8, .i .u8, .i .u8, .i .u8, .i .u8, .i .u8, .i .u8, .i .u8, .i .u8, .i .u8, .i .u8, .i .u8, .i .u8, .i .u8, .i .u8, .i .u8, .i .u8, .i .u8, .i .u8, .i .u8, .i .u8, .i .u8, .i .u8, .i .u8, .i .u8, .i .u8, .i .u8, .i .u8, .i .u8, .i .u8, .i .u8, .i .u8, .i .u8, .i .u8, .i .u8, .i .u8, .i .u8, .i .u8, .i .u8, .i .u8, .i .u8, .i .u8, .i .u8, .i .u8, .i .u8, .i .u8, .i .u8, .i .u8, .i .u8, .i .u8, .i .u8, .i .u8, .i .u8, .i .u8, .i .u8, .i .u8, .i .u8, .i .u8, .i .u8, .i .u8, .i .u8] := by kernel_rfl
theorem k42 : kindsOf Tryd.prog 9 42 = some [.i .u64, .i .u64, .i .u64, .i .u64, .i .i64, .i .i64] := by kernel_rfl
def laidLS : List (String × DataW Unit) := [("winnow/cong.zero", Rows.laid_winnow_cong_zero)]
theorem gnS0 : Tryd.prog.globalNamed "winnow/cong.zero" = some 0 := by kernel_rfl
theorem gtS0 : (Tryd.prog.globals[0]?).map (·.type) = some 24 := by kernel_rfl
theorem door_metS (os : Os) (args : Array Value) : laidMetH Tryd.prog laidLS ((World.doorLaid Tryd.prog 400 os).forCall (fun _ _ => 0) ⟨#[], args, []⟩).memory :=
  laidMetH_of_parts3 (fuel := 8) (laidMet_of_run' 8 (by kernel_rfl) (by kernel_rfl)) (by kernel_rfl) (by kernel_rfl)
theorem gok_of_laidS {W : World} (h : laidMetH Tryd.prog laidLS W) : GOK GS W := by
  rw [MakeChecks.laidMetH_plain _ _ _ (by kernel_rfl)] at h
  obtain ⟨ps, ⟨g0, t0, cs0, f0, p0, q0, hg0, ht0, hv0, hd0, _, _⟩, _, _⟩ := h
  obtain rfl := Option.some.inj (gnS0.symm.trans hg0)
  obtain rfl := Option.some.inj (gtS0.symm.trans ht0)
  have e0 := (trod_flat 9 24 _ k24 _ _ _ hd0).1
  intro g cs hg o v hv
  simp only [GS, List.mem_cons, Prod.mk.injEq, List.mem_nil_iff, or_false] at hg
  obtain ⟨rfl, rfl⟩ := hg
  · rw [World.var?_cell hg0 hv0 o, ← Array.getElem?_toList, e0]; exact hv
def laidLL : List (String × DataW Unit) := [("math/bits.deBruijn64tab", Rows.laid_math_bits_deBruijn64tab), ("winnow/cong.everything", Rows.laid_winnow_cong_everything), ("winnow/cong.zero", Rows.laid_winnow_cong_zero)]
theorem gnL0 : Tryd.prog.globalNamed "math/bits.deBruijn64tab" = some 2 := by kernel_rfl
theorem gtL0 : (Tryd.prog.globals[2]?).map (·.type) = some 97 := by kernel_rfl
theorem gnL1 : Tryd.prog.globalNamed "winnow/cong.everything" = some 1 := by kernel_rfl
theorem gtL1 : (Tryd.prog.globals[1]?).map (·.type) = some 24 := by kernel_rfl
theorem gnL2 : Tryd.prog.globalNamed "winnow/cong.zero" = some 0 := by kernel_rfl
theorem gtL2 : (Tryd.prog.globals[0]?).map (·.type) = some 24 := by kernel_rfl
theorem door_metL (os : Os) (args : Array Value) : laidMetH Tryd.prog laidLL ((World.doorLaid Tryd.prog 400 os).forCall (fun _ _ => 0) ⟨#[], args, []⟩).memory :=
  laidMetH_of_parts3 (fuel := 8) (laidMet_of_run' 8 (by kernel_rfl) (by kernel_rfl)) (by kernel_rfl) (by kernel_rfl)
theorem gok_of_laidL {W : World} (h : laidMetH Tryd.prog laidLL W) : GOK G W := by
  rw [MakeChecks.laidMetH_plain _ _ _ (by kernel_rfl)] at h
  obtain ⟨ps, ⟨g0, t0, cs0, f0, p0, q0, hg0, ht0, hv0, hd0, ⟨g1, t1, cs1, f1, p1, q1, hg1, ht1, hv1, hd1, ⟨g2, t2, cs2, f2, p2, q2, hg2, ht2, hv2, hd2, _, _⟩, _⟩, _⟩, _, _⟩ := h
  obtain rfl := Option.some.inj (gnL0.symm.trans hg0)
  obtain rfl := Option.some.inj (gtL0.symm.trans ht0)
  have e0 := (trod_flat 9 97 _ k97 _ _ _ hd0).1
  obtain rfl := Option.some.inj (gnL1.symm.trans hg1)
  obtain rfl := Option.some.inj (gtL1.symm.trans ht1)
  have e1 := (trod_flat 9 24 _ k24 _ _ _ hd1).1
  obtain rfl := Option.some.inj (gnL2.symm.trans hg2)
  obtain rfl := Option.some.inj (gtL2.symm.trans ht2)
  have e2 := (trod_flat 9 24 _ k24 _ _ _ hd2).1
  intro g cs hg o v hv
  simp only [G, List.mem_cons, Prod.mk.injEq, List.mem_nil_iff, or_false] at hg
  rcases hg with ⟨rfl, rfl⟩ | ⟨rfl, rfl⟩ | ⟨rfl, rfl⟩
  · rw [World.var?_cell hg2 hv2 o, ← Array.getElem?_toList, e2]; exact hv
  · rw [World.var?_cell hg1 hv1 o, ← Array.getElem?_toList, e1]; exact hv
  · rw [World.var?_cell hg0 hv0 o, ← Array.getElem?_toList, e0]; exact hv
end Go.Proofs.YtoggbmfjkcbilaaDoor.V
