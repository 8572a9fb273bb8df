/- The seat's program, its package-level variables, and what the evaluation asks of a program. Conditions: none. -/
import Derived.Test.YtbbplkdjcgdaaaaDoorWkN
import Derived.Test.YtbbplkdjcgdaaaaDoorProg
import Derived.KernelRfl
namespace Go.Proofs.YtbbplkdjcgdaaaaDoor.V
open Go Go.Wk
noncomputable abbrev P : Program := Tryd.prog
def G : Glob := [(0, [.int .i64 1, .int .i64 0]), (1, [.int .i64 (-9223372036854775808), .int .i64 9223372036854775807])]
theorem C : Cx P G where
  mixed := by kernel_rfl
  names := noCount_of (by kernel_rfl)
  full := by intro g cs h; simp only [G, List.mem_cons, Prod.mk.injEq, List.mem_nil_iff, or_false] at h; rcases h with ⟨_, rfl⟩ | ⟨_, rfl⟩ <;> simp
end Go.Proofs.YtbbplkdjcgdaaaaDoor.V
