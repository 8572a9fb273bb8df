/- The document's Apply of chapter 13. Conditions: none. -/
import Derived.Test.YtonpbbhlmapbdaaGreatDoorK4
set_option linter.unusedVariables false
set_option linter.unusedSimpArgs false
namespace Go.Proofs.YtonpbbhlmapbdaaGreatDoor.V
open Go Go.Wk Go.RowKit

section
variable {a0 b0 : Bool} {a1 a2 a3 a4 b1 b2 b3 b4 : Int}
end
end Go.Proofs.YtonpbbhlmapbdaaGreatDoor.V
