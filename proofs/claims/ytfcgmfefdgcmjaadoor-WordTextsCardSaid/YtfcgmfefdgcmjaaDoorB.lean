/- The seat's program, its package-level variables, and what the evaluation asks of a program. Conditions: none. -/
import Derived.Test.YtfcgmfefdgcmjaaDoorWkN
import Derived.Test.YtfcgmfefdgcmjaaDoorProg
import Derived.KernelRfl
import Derived.Laws.Externs
set_option linter.unusedSimpArgs false
namespace Go.Proofs.YtfcgmfefdgcmjaaDoor.V
open Go Go.Wk
noncomputable abbrev P : Program := Tryd.prog
def G : Glob := [(2, [.int .u64 1, .int .u64 10, .int .u64 100, .int .u64 1000, .int .u64 10000, .int .u64 100000, .int .u64 1000000, .int .u64 10000000, .int .u64 100000000, .int .u64 1000000000, .int .u64 10000000000, .int .u64 100000000000, .int .u64 1000000000000, .int .u64 10000000000000, .int .u64 100000000000000, .int .u64 1000000000000000, .int .u64 10000000000000000, .int .u64 100000000000000000, .int .u64 1000000000000000000, .int .u64 10000000000000000000])]
theorem C : Cx P G where
  mixed := by kernel_rfl
  names := noCount_of (by kernel_rfl)
  full := by intro g cs h; simp only [G, List.mem_cons, Prod.mk.injEq, List.mem_nil_iff, or_false] at h; obtain ⟨rfl, rfl⟩ := h; simp
end Go.Proofs.YtfcgmfefdgcmjaaDoor.V
