/- CongSets: the law function, evaluated: it answers true. Conditions: none. -/
import Derived.Test.YtoggbmfjkcbilaaDoorN11
set_option linter.unusedVariables false
set_option linter.unusedSimpArgs false
namespace Go.Proofs.YtoggbmfjkcbilaaDoor.V
open Go Go.Wk Go.RowKit

theorem congSets.v {γ : Type} (n : γ) (k : Bool → γ) {a b c d v : Int} (h1 : U64 a) (h2 : U64 b) (h3 : U64 c) (h4 : U64 d) (hv : I64 v) : law_CongSets.c n k a b c d v = k true := by
  unfold law_CongSets.c
  (try unfold law_CongSets.c0)
  simp only [works_ok, works_s, norm_s h1 h2, norm2_s h1 h2, const_s, const2_s, has2_ok h1 h2 hv, has2_s h1 h2 hv, has_s h1 h2 hv, leq_ok h1 h2 h3 h4, leq2_ok h1 h2 h3 h4, leq_s h1 h2 h3 h4, leq2_s h1 h2 h3 h4, join_ok h1 h2 h3 h4, join2_ok h1 h2 h3 h4, join_s h1 h2 h3 h4, join2_s h1 h2 h3 h4, meet_ok h1 h2 h3 h4, meet2_ok h1 h2 h3 h4, meet_s h1 h2 h3 h4, meet2_s h1 h2 h3 h4, up2_ok h1 h2 hv, dn2_ok h1 h2 hv, up_s h1 h2 hv, up2_s h1 h2 hv, dn_s h1 h2 hv, dn2_s h1 h2 hv, beq_self_eq_true, Bool.and_self, Bool.not_true, cond_true, cond_false]
theorem congSets.walk (a b c d v : Int) (W : World) (h1 : (Lit.int .u64 a).wf = true) (h2 : (Lit.int .u64 b).wf = true) (h3 : (Lit.int .u64 c).wf = true) (h4 : (Lit.int .u64 d).wf = true) (h5 : (Lit.int .i64 v).wf = true) (hG : GOK GS W) :
    Calls Tryd.prog 4 #[.agg #[.int .u64 a, .int .u64 b], .agg #[.int .u64 c, .int .u64 d], .int .i64 v] W fun e w' => e = .returned (.bool true) ∧ Below W.heap.size W w' := by
  refine runF_calls CS.mixed CS.names law_works.t (m := true) (d := 60) Tryd.func4 hG (gok_lt CS hG) (vs := [.agg #[.int .u64 a, .int .u64 b], .agg #[.int .u64 c, .int .u64 d], .int .i64 v]) ?_
  rw [law_CongSets.r, congSets.v _ _ (u64_wf h1) (u64_wf h2) (u64_wf h3) (u64_wf h4) (i64_wf h5)]
end Go.Proofs.YtoggbmfjkcbilaaDoor.V
