/- IvalHulls: the walk of the statement. Conditions: none. -/
import Derived.Test.YtbbplkdjcgdaaaaDoorX3
set_option linter.unusedVariables false
set_option linter.unusedSimpArgs false
namespace Go.Proofs.YtbbplkdjcgdaaaaDoor.V
open Go Go.Wk Go.RowKit
theorem ivalHulls.walk (a0 a1 a2 a3 : Int) (W : World) (h0 : (Lit.int .i64 a0).wf = true) (h1 : (Lit.int .i64 a1).wf = true) (h2 : (Lit.int .i64 a2).wf = true) (h3 : (Lit.int .i64 a3).wf = true) (hG : GOK G W) :
    Calls Tryd.prog 6 #[.int .i64 a0, .int .i64 a1, .int .i64 a2, .int .i64 a3] W fun e w' => e = .returned (.bool true) ∧ Below W.heap.size W w' :=
  hulls_walk hG (i64_wf h0) (i64_wf h1) (i64_wf h2) (i64_wf h3)
end Go.Proofs.YtbbplkdjcgdaaaaDoor.V
