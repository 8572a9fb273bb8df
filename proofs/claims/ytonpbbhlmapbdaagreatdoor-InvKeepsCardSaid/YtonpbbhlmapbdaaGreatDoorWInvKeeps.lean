/- InvKeeps: the law function, evaluated: it answers true. Conditions: none. -/
import Derived.Test.YtonpbbhlmapbdaaGreatDoorMC
set_option linter.unusedVariables false
set_option linter.unusedSimpArgs false
namespace Go.Proofs.YtonpbbhlmapbdaaGreatDoor.V
open Go Go.Wk Go.RowKit
theorem invKeeps.v {γ : Type} (n : γ) (k : Bool → γ) {op : Int} {p0 p5 p10 : Bool} {p1 p2 p3 p4 p6 p7 p8 p9 p11 p12 p13 p14 v w : Int} (h : Raw (p0, p1, p2, p3, p4)) (h' : Raw (p5, p6, p7, p8, p9)) (h'' : Raw (p10, p11, p12, p13, p14)) (hv : I64 v) (hw : I64 w) :
    law_InvKeeps.c n k op p0 p1 p2 p3 p4 p5 p6 p7 p8 p9 p10 p11 p12 p13 p14 v w = k true := by
  have e1 : inv_Solve.ok op p0 p1 p2 p3 p4 p5 p6 p7 p8 p9 p10 p11 p12 p13 p14 = true := inv_Solve_ok h h' h''
  have e3 : inv_Solve op p0 p1 p2 p3 p4 p5 p6 p7 p8 p9 p10 p11 p12 p13 p14 = _ := inv_Solve_s h h' h''
  unfold law_InvKeeps.c
  (try unfold law_InvKeeps.c0)
  simp only [e1, e3, taken_ok, taken_s]
  by_cases o : isOp op
  · obtain ⟨⟨n1, s1⟩, s2, n2⟩ := solve_le o h h' h''
    have kp := solve_keep (v := v) (w := w) o h h' h'' hv hw
    simp only [if_pos o]
    generalize solveS op (p0, p1, p2, p3, p4) (p5, p6, p7, p8, p9) (p10, p11, p12, p13, p14) = p at *
    obtain ⟨x, y⟩ := p
    simp only at n1 n2 s1 s2 kp
    have rx : Raw (x.1, x.2.1, x.2.2.1, x.2.2.2.1, x.2.2.2.2) := n1.raw
    have ry : Raw (y.1, y.2.1, y.2.2.1, y.2.2.2.1, y.2.2.2.2) := n2.raw
    have l1 : leqS (x.1, x.2.1, x.2.2.1, x.2.2.2.1, x.2.2.2.2) (p0, p1, p2, p3, p4) = true := (leq_iff rx h).2 s1
    have l2 : (bif op != 1 then !leqS (y.1, y.2.1, y.2.2.1, y.2.2.2.1, y.2.2.2.2) (p5, p6, p7, p8, p9) else false) = false := by
      by_cases q : op = 1
      · rw [q]; rfl
      · have l : leqS (y.1, y.2.1, y.2.2.1, y.2.2.2.1, y.2.2.2.2) (p5, p6, p7, p8, p9) = true := (leq_iff ry h').2 (s2 q).2
        rw [l]; cases (op != 1) <;> rfl
    have hr := resS_I (op := op) (y := w) hv
    have hr1 : I64 (law_result op v w).1 := by rw [result_s o hv hw]; split; exact I0; exact hr
    simp only [app11, nref_Leq_ok rx h, nref_Leq_s rx h, nref_Leq_ok ry h', nref_Leq_s ry h', l1, l2, result_ok o hv hw, nref_Has_ok h hv, nref_Has_s h hv, nref_Has_ok h' hw, nref_Has_s h' hw, nref_Has_ok h'' hr1, nref_Has_s h'' hr1, nref_Has_ok rx hv, nref_Has_s rx hv, nref_Has_ok ry hw, nref_Has_s ry hw, bne_self_eq_false, cond_true, cond_false, Bool.true_or, Bool.or_true, Bool.true_and, Bool.and_true, Bool.not_true, Bool.not_false]
    rw [result_s o hv hw]
    by_cases c : (op = 6 ∨ op = 7) ∧ w = 0
    · rw [if_pos c]; rfl
    · rw [if_neg c]
      by_cases a : In (p0, p1, p2, p3, p4) v
      · by_cases b : op = 1 ∨ In (p5, p6, p7, p8, p9) w
        · by_cases d : In (p10, p11, p12, p13, p14) (resS op v w)
          · have z := kp a (fun q => b.resolve_left q) (fun q q2 => c ⟨q, q2⟩) d
            have z1 : decide (In (x.1, x.2.1, x.2.2.1, x.2.2.2.1, x.2.2.2.2) v) = true := decide_eq_true z.1
            have z2 : (bif op == 1 then true else decide (In (y.1, y.2.1, y.2.2.1, y.2.2.2.1, y.2.2.2.2) w)) = true := by
              by_cases q : op = 1
              · rw [q]; rfl
              · have : decide (In (y.1, y.2.1, y.2.2.1, y.2.2.2.1, y.2.2.2.2) w) = true := decide_eq_true (z.2 q)
                rw [this]; cases (op == 1) <;> rfl
            have z3 : (bif decide (In (p5, p6, p7, p8, p9) w) then true else op == 1) = true := by
              rcases b with q | q
              · rw [q]; cases (decide (In (p5, p6, p7, p8, p9) w)) <;> rfl
              · rw [decide_eq_true q]; rfl
            rw [z3, z1, z2, decide_eq_true a, decide_eq_true d]; rfl
          · rw [decide_eq_false d]
            cases (bif (bif decide (In (p0, p1, p2, p3, p4) v) then (bif decide (In (p5, p6, p7, p8, p9) w) then true else op == 1) else false) then false else true) <;> simp
        · have z3 : (bif decide (In (p5, p6, p7, p8, p9) w) then true else op == 1) = false := by
            rw [decide_eq_false (fun q => b (.inr q)), cond_false]
            exact beq_false_of_ne (fun q => b (.inl q))
          rw [z3, decide_eq_true a]; rfl
      · rw [decide_eq_false a]; rfl
  · have rb : Raw (true, 0, 0, 0, 0) := raw_bot
    have e5 : num_Norm true 0 0 0 0 = botS := (num_Norm_s rb).trans (by rfl)
    simp only [if_neg o, app11, botS, e5]
    rfl
theorem invKeeps.walk (op : Int) (p0 : Bool) (p1 p2 p3 p4 : Int) (p5 : Bool) (p6 p7 p8 p9 : Int) (p10 : Bool) (p11 p12 p13 p14 v w : Int) (W : World) (h0 : (Lit.int .i64 op).wf = true) (h1 : (Lit.int .i64 p1).wf = true) (h2 : (Lit.int .i64 p2).wf = true) (h3 : (Lit.int .u64 p3).wf = true) (h4 : (Lit.int .u64 p4).wf = true) (g1 : (Lit.int .i64 p6).wf = true) (g2 : (Lit.int .i64 p7).wf = true) (g3 : (Lit.int .u64 p8).wf = true) (g4 : (Lit.int .u64 p9).wf = true) (f1 : (Lit.int .i64 p11).wf = true) (f2 : (Lit.int .i64 p12).wf = true) (f3 : (Lit.int .u64 p13).wf = true) (f4 : (Lit.int .u64 p14).wf = true) (h5 : (Lit.int .i64 v).wf = true) (h6 : (Lit.int .i64 w).wf = true) (hG : GOK G W) :
    Calls Tryz.prog 10 #[.int .i64 op, .agg #[.bool p0, .int .i64 p1, .int .i64 p2, .int .u64 p3, .int .u64 p4, .bool p5, .int .i64 p6, .int .i64 p7, .int .u64 p8, .int .u64 p9, .bool p10, .int .i64 p11, .int .i64 p12, .int .u64 p13, .int .u64 p14, .int .i64 v, .int .i64 w]] W fun e w' => e = .returned (.bool true) ∧ Below W.heap.size W w' := by
  refine runF_calls' C.mixed C.names law_result.t (H := { merge := true, glue := true }) (d := 60) (fun c _ => LoopsOK_nil c) Tryz.func10 hG (gok_lt C hG) (vs := [.int .i64 op, .agg #[.bool p0, .int .i64 p1, .int .i64 p2, .int .u64 p3, .int .u64 p4, .bool p5, .int .i64 p6, .int .i64 p7, .int .u64 p8, .int .u64 p9, .bool p10, .int .i64 p11, .int .i64 p12, .int .u64 p13, .int .u64 p14, .int .i64 v, .int .i64 w]]) ?_
  rw [law_InvKeeps.r, invKeeps.v _ _ (raw5 (i64_wf h1) (i64_wf h2) (u64_wf h3) (u64_wf h4)) (raw5 (i64_wf g1) (i64_wf g2) (u64_wf g3) (u64_wf g4)) (raw5 (i64_wf f1) (i64_wf f2) (u64_wf f3) (u64_wf f4)) (i64_wf h5) (i64_wf h6)]
end Go.Proofs.YtonpbbhlmapbdaaGreatDoor.V
