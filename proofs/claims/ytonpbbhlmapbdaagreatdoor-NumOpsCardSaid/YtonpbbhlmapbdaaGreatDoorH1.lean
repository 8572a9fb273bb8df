/- Contracts of the functions that NumHolds calls, out of the table. Conditions: none. -/
import Derived.Test.YtonpbbhlmapbdaaGreatDoorKC
import Derived.WalkKit
import Derived.Lib.Hide
set_option linter.unusedVariables false
set_option linter.unusedSimpArgs false
namespace Go.Proofs.YtonpbbhlmapbdaaGreatDoor.V
open Go Go.Wk Go.RowKit
section
variable {W : World} (hG : GOK G W)
include hG
theorem c_works : Calls P 13 #[] W fun e w' => e = .returned (.bool true) ∧ Below W.heap.size W w' := by
  have := TabOK_calls C law_rest.t (F := law_works.F) rfl Tryz.func13 (by kernel_rfl) (vs := []) (v := .bool law_works) hG (by
    show some (law_works.ok, Value.bool law_works) = _
    rw [works_ok])
  rw [works_s] at this
  exact this
end
end Go.Proofs.YtonpbbhlmapbdaaGreatDoor.V
