/- Contracts of the functions that NumHolds calls, out of the table. Conditions: none. -/
import Derived.Test.YtonpbbhlmapbdaaGreatDoorKC
import Derived.WalkKit
import Derived.Lib.Hide
set_option linter.unusedVariables false
set_option linter.unusedSimpArgs false
namespace Go.Proofs.YtonpbbhlmapbdaaGreatDoor.V
open Go Go.Wk Go.RowKit

/-- a Num as a value -/
def nv (x : Nm) : Value := .agg #[.bool x.1, .int .i64 x.2.1, .int .i64 x.2.2.1, .int .u64 x.2.2.2.1, .int .u64 x.2.2.2.2]
section
variable {W : World} (hG : GOK G W)
include hG
theorem c_works : Calls P 13 #[] W fun e w' => e = .returned (.bool true) ∧ Below W.heap.size W w' := by
  have := TabOK_calls C law_normal.t (F := law_works.F) rfl Tryz.func13 (by kernel_rfl) (vs := []) (v := .bool law_works) hG (by
    show some (law_works.ok, Value.bool law_works) = _
    rw [works_ok])
  rw [works_s] at this
  exact this
theorem c_norm {x : Nm} (h : Raw x) : Calls P 14 #[nv x] W fun e w' => e = .returned (nv (normS x)) ∧ Below W.heap.size W w' := by
  obtain ⟨a0, a1, a2, a3, a4⟩ := x
  have := TabOK_calls C law_normal.t (F := num_Norm.F) rfl Tryz.func14 (by kernel_rfl) (vs := [nv (a0, a1, a2, a3, a4)]) (v := nv (num_Norm a0 a1 a2 a3 a4)) hG rfl
  rw [num_Norm_s h] at this
  exact this
theorem c_normal {x : Nm} (h : NF x) : Calls P 15 #[nv x] W fun e w' => e = .returned (.bool true) ∧ Below W.heap.size W w' := by
  obtain ⟨a0, a1, a2, a3, a4⟩ := x
  have := TabOK_calls C law_normal.t (F := law_normal.F) rfl Tryz.func15 (by kernel_rfl) (vs := [nv (a0, a1, a2, a3, a4)]) (v := .bool (law_normal a0 a1 a2 a3 a4)) hG (by
    show some (law_normal.ok a0 a1 a2 a3 a4, _) = _
    rw [normal_ok h])
  rw [normal_s h] at this
  exact this
end
end Go.Proofs.YtonpbbhlmapbdaaGreatDoor.V
