/- What the functions of this seat compute, told by evaluation of their code. Conditions: none. -/
import Derived.Test.YtonpbbhlmapbdaaGreatDoorF1
set_option linter.unusedVariables false
set_option linter.unusedSimpArgs false
namespace Go.Proofs.YtonpbbhlmapbdaaGreatDoor.V
open Go Go.Wk
noncomputable section
end
end Go.Proofs.YtonpbbhlmapbdaaGreatDoor.V
