/- InvSolves: the law function, evaluated: it answers true. Conditions: none. -/
import Derived.Test.YtonpbbhlmapbdaaGreatDoorM12
set_option linter.unusedVariables false
set_option linter.unusedSimpArgs false
namespace Go.Proofs.YtonpbbhlmapbdaaGreatDoor.V
open Go Go.Wk Go.RowKit
theorem invSolves.v {γ : Type} (n : γ) (k : Bool → γ) {op : Int} {a0 b0 c0 : Bool} {a1 a2 a3 a4 b1 b2 b3 b4 c1 c2 c3 c4 : Int} (h : Raw (a0, a1, a2, a3, a4)) (h' : Raw (b0, b1, b2, b3, b4)) (h'' : Raw (c0, c1, c2, c3, c4)) : law_InvSolves.c n k op a0 a1 a2 a3 a4 b0 b1 b2 b3 b4 c0 c1 c2 c3 c4 = k true := by
  have e1 : inv_Solve.ok op a0 a1 a2 a3 a4 b0 b1 b2 b3 b4 c0 c1 c2 c3 c4 = true := inv_Solve_ok h h' h''
  have e2 : r14_Solve.ok op a0 a1 a2 a3 a4 b0 b1 b2 b3 b4 c0 c1 c2 c3 c4 = true := r14_Solve_ok h h' h''
  have e3 : inv_Solve op a0 a1 a2 a3 a4 b0 b1 b2 b3 b4 c0 c1 c2 c3 c4 = r14_Solve op a0 a1 a2 a3 a4 b0 b1 b2 b3 b4 c0 c1 c2 c3 c4 := (inv_Solve_s h h' h'').trans (r14_Solve_s h h' h'').symm
  unfold law_InvSolves.c
  (try unfold law_InvSolves.c0)
  simp only [e1, e2, e3, taken_ok, taken_s, beq_self_eq_true, bne_self_eq_false, cond_true, cond_false, Bool.true_or, Bool.or_true, Bool.true_and, Bool.and_true, Bool.not_true, Bool.not_false]
theorem invSolves.walk (op : Int) (a0 : Bool) (a1 a2 a3 a4 : Int) (b0 : Bool) (b1 b2 b3 b4 : Int) (c0 : Bool) (c1 c2 c3 c4 : Int) (W : World) (h0 : (Lit.int .i64 op).wf = true) (h1 : (Lit.int .i64 a1).wf = true) (h2 : (Lit.int .i64 a2).wf = true) (h3 : (Lit.int .u64 a3).wf = true) (h4 : (Lit.int .u64 a4).wf = true) (g1 : (Lit.int .i64 b1).wf = true) (g2 : (Lit.int .i64 b2).wf = true) (g3 : (Lit.int .u64 b3).wf = true) (g4 : (Lit.int .u64 b4).wf = true) (f1 : (Lit.int .i64 c1).wf = true) (f2 : (Lit.int .i64 c2).wf = true) (f3 : (Lit.int .u64 c3).wf = true) (f4 : (Lit.int .u64 c4).wf = true) (hG : GOK G W) :
    Calls Tryz.prog 8 #[.int .i64 op, .agg #[.bool a0, .int .i64 a1, .int .i64 a2, .int .u64 a3, .int .u64 a4], .agg #[.bool b0, .int .i64 b1, .int .i64 b2, .int .u64 b3, .int .u64 b4], .agg #[.bool c0, .int .i64 c1, .int .i64 c2, .int .u64 c3, .int .u64 c4]] W fun e w' => e = .returned (.bool true) ∧ Below W.heap.size W w' := by
  refine runF_calls' C.mixed C.names law_taken.t (H := { merge := true, glue := true }) (d := 60) (fun c _ => LoopsOK_nil c) Tryz.func8 hG (gok_lt C hG) (vs := [.int .i64 op, .agg #[.bool a0, .int .i64 a1, .int .i64 a2, .int .u64 a3, .int .u64 a4], .agg #[.bool b0, .int .i64 b1, .int .i64 b2, .int .u64 b3, .int .u64 b4], .agg #[.bool c0, .int .i64 c1, .int .i64 c2, .int .u64 c3, .int .u64 c4]]) ?_
  rw [law_InvSolves.r, invSolves.v _ _ (raw5 (i64_wf h1) (i64_wf h2) (u64_wf h3) (u64_wf h4)) (raw5 (i64_wf g1) (i64_wf g2) (u64_wf g3) (u64_wf g4)) (raw5 (i64_wf f1) (i64_wf f2) (u64_wf f3) (u64_wf f4))]
end Go.Proofs.YtonpbbhlmapbdaaGreatDoor.V
