/- CongOps: the law function, evaluated: it answers true. Conditions: none. -/
import Derived.Test.YtoggbmfjkcbilaaDoorN11
import Derived.Test.YtoggbmfjkcbilaaDoorN16
set_option linter.unusedVariables false
set_option linter.unusedSimpArgs false
namespace Go.Proofs.YtoggbmfjkcbilaaDoor.V
open Go Go.Wk Go.RowKit

theorem congOps.v {γ : Type} (n : γ) (k : Bool → γ) {a b c d : Int} (e : Bool) (h1 : U64 a) (h2 : U64 b) (h3 : U64 c) (h4 : U64 d) : law_CongOps.c n k a b c d e = k true := by
  unfold law_CongOps.c
  (try unfold law_CongOps.c0)
  simp only [works_ok, works_s, neg_s e h1 h2, neg2_s e h1 h2, neg_ok e h1 h2, neg2_ok e h1 h2, add_s e h1 h2 h3 h4, add2_s e h1 h2 h3 h4, add_ok e h1 h2 h3 h4, add2_ok e h1 h2 h3 h4, sub_s e h1 h2 h3 h4, sub2_s e h1 h2 h3 h4, sub_ok e h1 h2 h3 h4, sub2_ok e h1 h2 h3 h4, mul_s e h1 h2 h3 h4, mul2_s e h1 h2 h3 h4, mul_ok e h1 h2 h3 h4, mul2_ok e h1 h2 h3 h4, div_s h1 h2 h3 h4, div2_s h1 h2 h3 h4, div_ok h1 h2 h3 h4, div2_ok h1 h2 h3 h4, rem_s h1 h2 h3 h4, rem2_s h1 h2 h3 h4, rem_ok h1 h2 h3 h4, rem2_ok h1 h2 h3 h4, beq_self_eq_true, Bool.and_self, Bool.not_true, cond_true, cond_false]
theorem congOps.walk (a b c d : Int) (e : Bool) (W : World) (h1 : (Lit.int .u64 a).wf = true) (h2 : (Lit.int .u64 b).wf = true) (h3 : (Lit.int .u64 c).wf = true) (h4 : (Lit.int .u64 d).wf = true) (hG : GOK G W) :
    Calls Tryd.prog 6 #[.agg #[.int .u64 a, .int .u64 b], .agg #[.int .u64 c, .int .u64 d], .bool e] W fun x w' => x = .returned (.bool true) ∧ Below W.heap.size W w' := by
  have hF : law_CongOps.F [.agg #[.int .u64 a, .int .u64 b], .agg #[.int .u64 c, .int .u64 d], .bool e] = some (true, .bool true) := by
    show some (law_CongOps.ok a b c d e, Value.bool (law_CongOps a b c d e)) = _
    unfold law_CongOps.ok law_CongOps
    rw [congOps.v _ _ e (u64_wf h1) (u64_wf h2) (u64_wf h3) (u64_wf h4), congOps.v _ _ e (u64_wf h1) (u64_wf h2) (u64_wf h3) (u64_wf h4)]
    rfl
  exact TabOK_calls C law_CongOps.t rfl Tryd.func6 (by kernel_rfl) hG hF
end Go.Proofs.YtoggbmfjkcbilaaDoor.V
