/- IvalOps: the law function, evaluated: it answers true. Conditions: none. -/
import Derived.Test.YtbbplkdjcgdaaaaDoorE5
import Derived.Test.YtbbplkdjcgdaaaaDoorN10
set_option linter.unusedVariables false
set_option linter.unusedSimpArgs false
namespace Go.Proofs.YtbbplkdjcgdaaaaDoor.V
open Go Go.Wk Go.RowKit

theorem ivalOps.v {γ : Type} (n : γ) (k : Bool → γ) {a b c d : Int} (ha : I64 a) (hb : I64 b) (hc : I64 c) (hd : I64 d) : law_IvalOps.c n k a b c d = k true := by
  unfold law_IvalOps.c law_IvalOps.c0
  simp only [neg_eq ha hb, add_eq ha hb hc hd, sub_eq ha hb hc hd, mul_eq ha hb hc hd, div_eq ha hb hc hd, rem_eq ha hb hc hd, ref_Div_ok, ref_Rem_ok ha hb hc hd, beq_self_eq_true, Bool.and_self, cond_true]
theorem ivalOps.walk (a b c d : Int) (W : World) (h1 : (Lit.int .i64 a).wf = true) (h2 : (Lit.int .i64 b).wf = true) (h3 : (Lit.int .i64 c).wf = true) (h4 : (Lit.int .i64 d).wf = true) (hG : GOK G W) :
    Calls Tryd.prog 5 #[.agg #[.int .i64 a, .int .i64 b], .agg #[.int .i64 c, .int .i64 d]] W fun e w' => e = .returned (.bool true) ∧ Below W.heap.size W w' := by
  refine runF_calls C.mixed C.names ref_Rem.t (m := true) (d := 60) Tryd.func5 hG (gok_lt C hG) (vs := [.agg #[.int .i64 a, .int .i64 b], .agg #[.int .i64 c, .int .i64 d]]) ?_
  rw [law_IvalOps.r, ivalOps.v _ _ (i64_wf h1) (i64_wf h2) (i64_wf h3) (i64_wf h4)]
end Go.Proofs.YtbbplkdjcgdaaaaDoor.V
