/- Contracts of the functions that NumHolds calls, out of the table. Conditions: none. -/
import Derived.Test.YtonpbbhlmapbdaaGreatDoorK8
import Derived.WalkKit
import Derived.Lib.Hide
set_option linter.unusedVariables false
set_option linter.unusedSimpArgs false
namespace Go.Proofs.YtonpbbhlmapbdaaGreatDoor.V
open Go Go.Wk Go.RowKit

def doneS (op x y : Int) : Int × Bool := if (op = 6 ∨ op = 7) ∧ y = 0 then (0, false) else (resS op x y, true)
theorem done_k {γ : Type} (n : γ) (k : Int × Bool → γ) {op x y : Int} (hop : isOp op) : law_done.c n k op x y = k (doneS op x y) := by
  unfold law_done.c law_done.c0 doneS resS
  rcases hop with rfl | rfl | rfl | rfl | rfl | rfl
  · rfl
  · rfl
  · rfl
  · rfl
  · by_cases h : y = 0
    · subst h; rfl
    · have e : (y == 0) = false := by simpa using h
      have e' : decide (y = 0) = false := by simpa using h
      rw [if_neg (fun q => h q.2)]
      unfold B.qw
      by_cases h1 : y = -1
      · subst h1
        show k (IntKind.i64.wrap (0 - x), true) = k (IntKind.i64.wrap (-x), true)
        rw [Int.zero_sub]
      · have e1 : (y == -1) = false := by simpa using h1
        rw [e, e', e1, if_neg h1]
        rfl
  · by_cases h : y = 0
    · subst h; rfl
    · have e : (y == 0) = false := by simpa using h
      have e' : decide (y = 0) = false := by simpa using h
      rw [if_neg (fun q => h q.2)]
      unfold B.rw'
      by_cases h1 : y = -1
      · subst h1; rfl
      · have e1 : (y == -1) = false := by simpa using h1
        rw [e, e', e1, if_neg h1]
        rfl
theorem done_ok {op x y : Int} (hop : isOp op) : law_done.ok op x y = true := done_k _ _ hop
theorem done_s {op x y : Int} (hop : isOp op) : law_done op x y = doneS op x y := done_k _ _ hop

section
variable {W : World} (hG : GOK G W)
include hG
end
end Go.Proofs.YtonpbbhlmapbdaaGreatDoor.V
