/- NumSets: the law function, evaluated: it answers true. Conditions: none. -/
import Derived.Test.YtonpbbhlmapbdaaGreatDoorK6
set_option linter.unusedVariables false
set_option linter.unusedSimpArgs false
namespace Go.Proofs.YtonpbbhlmapbdaaGreatDoor.V
open Go Go.Wk Go.RowKit

theorem numSets.v {γ : Type} (n : γ) (k : Bool → γ) {a0 b0 : Bool} {a1 a2 a3 a4 b1 b2 b3 b4 v : Int} (h : Raw (a0, a1, a2, a3, a4)) (h' : Raw (b0, b1, b2, b3, b4)) (hv : I64 v) : law_NumSets.c n k a0 a1 a2 a3 a4 b0 b1 b2 b3 b4 v = k true := by
  unfold law_NumSets.c
  (try unfold law_NumSets.c0)
  simp only [works_ok, works_s, num_Top_s, nref_Top_s, nref_Top_ok, num_Bot_s, nref_Bot_s, num_Make_s h.l h.h h'.m h'.r, nref_Make_s h.l h.h h'.m h'.r, nref_Make_ok h.l h.h h'.m h'.r, num_Norm_s h, nref_Norm_s h, nref_Norm_ok h, num_Const_s hv, nref_Const_s, num_Range_s h.l h'.h, nref_Range_s h.l h'.h, nref_Range_ok h.l h'.h, num_Has_s h hv, nref_Has_s h hv, nref_Has_ok h hv, num_Leq_ok h h', num_Leq_s h h', nref_Leq_ok h h', nref_Leq_s h h', num_NonZero_s h, nref_NonZero_ok h, nref_NonZero_s h, num_Join_ok h h', num_Join_s h h', nref_Join_ok h h', nref_Join_s h h', num_Meet_ok h h', num_Meet_s h h', nref_Meet_ok h h', nref_Meet_s h h', make_const hv, constS, beq_self_eq_true, bne_self_eq_false, Bool.and_self, Bool.not_true, Bool.not_false, Bool.true_or, Bool.or_true, Bool.true_and, Bool.and_true, cond_true, cond_false]
theorem numSets.walk (a0 : Bool) (a1 a2 a3 a4 : Int) (b0 : Bool) (b1 b2 b3 b4 v : Int) (W : World) (h1 : (Lit.int .i64 a1).wf = true) (h2 : (Lit.int .i64 a2).wf = true) (h3 : (Lit.int .u64 a3).wf = true) (h4 : (Lit.int .u64 a4).wf = true) (g1 : (Lit.int .i64 b1).wf = true) (g2 : (Lit.int .i64 b2).wf = true) (g3 : (Lit.int .u64 b3).wf = true) (g4 : (Lit.int .u64 b4).wf = true) (h5 : (Lit.int .i64 v).wf = true) (hG : GOK G W) :
    Calls Tryz.prog 4 #[.agg #[.bool a0, .int .i64 a1, .int .i64 a2, .int .u64 a3, .int .u64 a4], .agg #[.bool b0, .int .i64 b1, .int .i64 b2, .int .u64 b3, .int .u64 b4], .int .i64 v] W fun e w' => e = .returned (.bool true) ∧ Below W.heap.size W w' := by
  refine runF_calls' C.mixed C.names law_done.t (H := { merge := true, glue := true }) (d := 60) (fun c _ => LoopsOK_nil c) Tryz.func4 hG (gok_lt C hG) (vs := [.agg #[.bool a0, .int .i64 a1, .int .i64 a2, .int .u64 a3, .int .u64 a4], .agg #[.bool b0, .int .i64 b1, .int .i64 b2, .int .u64 b3, .int .u64 b4], .int .i64 v]) ?_
  rw [law_NumSets.r, numSets.v _ _ (raw5 (i64_wf h1) (i64_wf h2) (u64_wf h3) (u64_wf h4)) (raw5 (i64_wf g1) (i64_wf g2) (u64_wf g3) (u64_wf g4)) (i64_wf h5)]
end Go.Proofs.YtonpbbhlmapbdaaGreatDoor.V
