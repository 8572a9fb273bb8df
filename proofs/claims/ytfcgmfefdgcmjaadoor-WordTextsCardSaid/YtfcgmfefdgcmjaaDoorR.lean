/- What every row of this seat needs: the listed variables, as the program lays them. Conditions: none. -/
import Derived.Test.YtfcgmfefdgcmjaaDoorB
import Derived.Test.YtfcgmfefdgcmjaaDoorRows
import Derived.Test.YtfcgmfefdgcmjaaDoorTie
import Derived.Test.YtfcgmfefdgcmjaaDoorCards
import Derived.SevenTiedAt
import Derived.LaidMore
import Derived.LaidLaws
import Derived.Stop.Joined
import Derived.ProofKit
import Derived.OpenShut
import Derived.ShutString
import Derived.ChangeOld
import Derived.Below
import Derived.SizedLaws
import Derived.Carry
set_option linter.unusedVariables false
set_option linter.unusedSimpArgs false
namespace Go.Proofs.YtfcgmfefdgcmjaaDoor.V
open Go Go.Wk Go.ChangeShapes Go.WideShapes Go.ChangeAt Go.RowKit
theorem own : ownKnob Tryd.prog.godebug = none := by kernel_rfl
theorem laidOut : laidOutB Tryd.prog = true := by kernel_rfl
theorem k77 : kindsOf Tryd.prog 9 77 = some [.i .u64, .i .u64, .i .u64, .i .u64, .i .u64, .i .u64, .i .u64, .i .u64, .i .u64, .i .u64, .i .u64, .i .u64, .i .u64, .i .u64, .i .u64, .i .u64, .i .u64, .i .u64, .i .u64, .i .u64] := by kernel_rfl
theorem var_heap {P : Program} {w : World} {n : String} {g : Nat} {cs : Array Value} (hg : P.globalNamed n = some g) (h : w.var? P n = some cs) : ∃ t fr, w.heap[g]? = some (.cells cs t fr) := by
  simp only [World.var?, hg, Option.bind_some] at h
  split at h <;> simp at h
  subst h
  exact ⟨_, _, by assumption⟩
def laidL : List (String × DataW Unit) := [("math/bits.deBruijn32tab", Rows.laid_math_bits_deBruijn32tab), ("math/bits.deBruijn64tab", Rows.laid_math_bits_deBruijn64tab), ("internal/strconv.uint64pow10", Rows.laid_internal_strconv_uint64pow10), ("strconv.ErrRange", Rows.laid_strconv_ErrRange), ("strconv.ErrSyntax", Rows.laid_strconv_ErrSyntax)]
theorem gn0 : Tryd.prog.globalNamed "math/bits.deBruijn32tab" = some 3 := by kernel_rfl
theorem gt0 : (Tryd.prog.globals[3]?).map (·.type) = some 87 := by kernel_rfl
theorem gn1 : Tryd.prog.globalNamed "math/bits.deBruijn64tab" = some 4 := by kernel_rfl
theorem gt1 : (Tryd.prog.globals[4]?).map (·.type) = some 88 := by kernel_rfl
theorem gn2 : Tryd.prog.globalNamed "internal/strconv.uint64pow10" = some 2 := by kernel_rfl
theorem gt2 : (Tryd.prog.globals[2]?).map (·.type) = some 77 := by kernel_rfl
theorem gn3 : Tryd.prog.globalNamed "strconv.ErrRange" = some 1 := by kernel_rfl
theorem gt3 : (Tryd.prog.globals[1]?).map (·.type) = some 46 := by kernel_rfl
theorem gn4 : Tryd.prog.globalNamed "strconv.ErrSyntax" = some 0 := by kernel_rfl
theorem gt4 : (Tryd.prog.globals[0]?).map (·.type) = some 46 := by kernel_rfl
theorem door_met (os : Os) (args : Array Value) : laidMetH Tryd.prog laidL ((World.doorLaid Tryd.prog 400 os).forCall (fun _ _ => 0) ⟨#[], args, []⟩).memory :=
  laidMetH_of_parts3 (fuel := 8) (laidMet_of_run' 8 (by kernel_rfl) (by kernel_rfl)) (by kernel_rfl) (by kernel_rfl)
theorem gok_of_laid {W : World} (h : laidMetH Tryd.prog laidL W) : GOK G W := by
  rw [MakeChecks.laidMetH_plain _ _ _ (by kernel_rfl)] at h
  obtain ⟨ps, ⟨g0, t0, cs0, f0, p0, q0, hg0, ht0, hv0, hd0, ⟨g1, t1, cs1, f1, p1, q1, hg1, ht1, hv1, hd1, ⟨g2, t2, cs2, f2, p2, q2, hg2, ht2, hv2, hd2, ⟨g3, t3, cs3, f3, p3, q3, hg3, ht3, hv3, hd3, ⟨g4, t4, cs4, f4, p4, q4, hg4, ht4, hv4, hd4, _, _⟩, _⟩, _⟩, _⟩, _⟩, _, _⟩ := h
  obtain rfl := Option.some.inj (gn2.symm.trans hg2)
  obtain rfl := Option.some.inj (gt2.symm.trans ht2)
  have e2 := (trod_flat 9 77 _ k77 _ _ _ hd2).1
  intro g cs hg
  simp only [G, List.mem_cons, Prod.mk.injEq, List.mem_nil_iff, or_false] at hg
  obtain ⟨rfl, rfl⟩ := hg
  · obtain ⟨tt, fr, hh⟩ := var_heap hg2 hv2
    exact ⟨tt, fr, hh.trans (congrArg (fun z => some (Obj.cells z tt fr)) (Array.ext' e2))⟩
end Go.Proofs.YtfcgmfefdgcmjaaDoor.V
