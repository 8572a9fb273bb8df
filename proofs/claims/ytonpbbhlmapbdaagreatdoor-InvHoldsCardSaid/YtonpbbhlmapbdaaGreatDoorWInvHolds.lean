/- InvHolds: the law function, evaluated: it answers true. Conditions: none. -/
import Derived.Test.YtonpbbhlmapbdaaGreatDoorK12
set_option linter.unusedVariables false
set_option linter.unusedSimpArgs false
namespace Go.Proofs.YtonpbbhlmapbdaaGreatDoor.V
open Go Go.Wk Go.RowKit

theorem cf {α : Type} {c : Bool} {x y z : α} (h : c = false) (h' : y = z) : (bif c then x else y) = z := by subst h; exact h'
theorem invHolds.v {γ : Type} (n : γ) (k : Bool → γ) {op : Int} {p0 p5 p10 : Bool} {p1 p2 p3 p4 p6 p7 p8 p9 p11 p12 p13 p14 v w : Int} (h : Raw (p0, p1, p2, p3, p4)) (h' : Raw (p5, p6, p7, p8, p9)) (hv : I64 v) (hw : I64 w) :
    law_InvHolds.c n k op p0 p1 p2 p3 p4 p5 p6 p7 p8 p9 p10 p11 p12 p13 p14 v w = k true := by
  have e1 := fun (op : Int) => (inv_Compare_ok (op := op) h h' : inv_Compare.ok op p0 p1 p2 p3 p4 p5 p6 p7 p8 p9 = true)
  have e3 := fun (op : Int) => (inv_Compare_s (op := op) h h' : inv_Compare op p0 p1 p2 p3 p4 p5 p6 p7 p8 p9 = _)
  unfold law_InvHolds.c
  (try unfold law_InvHolds.c0)
  simp only [e1, inv_Negate_s, taken_ok, taken_s, nref_Has_ok h hv, nref_Has_ok h' hw, nref_Has_s h hv, nref_Has_s h' hw, holds_s]
  by_cases o : isCmp op
  · have o' := neg_cmp o
    obtain ⟨⟨n1, n2⟩, ⟨s1, s2⟩, k1⟩ := cmp_spec o h h'
    obtain ⟨⟨m1, m2⟩, ⟨t1, t2⟩, k2⟩ := cmp_spec o' h h'
    have k1 := k1 v w hv hw
    have k2 := k2 v w hv hw
    simp only [if_pos o, e3, if_pos o']
    generalize cmpS op (p0, p1, p2, p3, p4) (p5, p6, p7, p8, p9) = p at *
    generalize cmpS (negO op) (p0, p1, p2, p3, p4) (p5, p6, p7, p8, p9) = q at *
    obtain ⟨x, y⟩ := p
    obtain ⟨x', y'⟩ := q
    simp only at n1 n2 s1 s2 k1 m1 m2 t1 t2 k2
    have rx : Raw (x.1, x.2.1, x.2.2.1, x.2.2.2.1, x.2.2.2.2) := n1.raw
    have ry : Raw (y.1, y.2.1, y.2.2.1, y.2.2.2.1, y.2.2.2.2) := n2.raw
    have rx' : Raw (x'.1, x'.2.1, x'.2.2.1, x'.2.2.2.1, x'.2.2.2.2) := m1.raw
    have ry' : Raw (y'.1, y'.2.1, y'.2.2.1, y'.2.2.2.1, y'.2.2.2.2) := m2.raw
    have l1 := (leq_iff rx h).2 s1
    have l2 := (leq_iff ry h').2 s2
    have l3 := (leq_iff rx' h).2 t1
    have l4 := (leq_iff ry' h').2 t2
    simp only [app11, nref_Leq_ok rx h, nref_Leq_s rx h, nref_Leq_ok ry h', nref_Leq_s ry h', nref_Leq_ok rx' h, nref_Leq_s rx' h, nref_Leq_ok ry' h', nref_Leq_s ry' h', l1, l2, l3, l4, nref_Has_ok rx hv, nref_Has_s rx hv, nref_Has_ok ry hw, nref_Has_s ry hw, nref_Has_ok rx' hv, nref_Has_s rx' hv, nref_Has_ok ry' hw, nref_Has_s ry' hw, bne_self_eq_false, cond_true, cond_false, Bool.true_or, Bool.or_true, Bool.true_and, Bool.and_true, Bool.not_true, Bool.not_false]
    by_cases a : In (p0, p1, p2, p3, p4) v
    · by_cases b : In (p5, p6, p7, p8, p9) w
      · by_cases c : holdsP op v w
        · have z := k1 a b c
          have z1 : decide (In (x.1, x.2.1, x.2.2.1, x.2.2.2.1, x.2.2.2.2) v) = true := decide_eq_true z.1
          have z2 : decide (In (y.1, y.2.1, y.2.2.1, y.2.2.2.1, y.2.2.2.2) w) = true := decide_eq_true z.2
          rw [decide_eq_true a, decide_eq_true b, decide_eq_true c, z1, z2]
          rfl
        · have z := k2 a b (neg_holds o c)
          have z1 : decide (In (x'.1, x'.2.1, x'.2.2.1, x'.2.2.2.1, x'.2.2.2.2) v) = true := decide_eq_true z.1
          have z2 : decide (In (y'.1, y'.2.1, y'.2.2.1, y'.2.2.2.1, y'.2.2.2.2) w) = true := decide_eq_true z.2
          rw [decide_eq_true a, decide_eq_true b, decide_eq_false c, z1, z2]
          rfl
      · rw [decide_eq_true a, decide_eq_false b]; rfl
    · rw [decide_eq_false a]; rfl
  · simp only [if_neg o, e3, app11]
    rfl
theorem invHolds.walk (op : Int) (p0 : Bool) (p1 p2 p3 p4 : Int) (p5 : Bool) (p6 p7 p8 p9 : Int) (p10 : Bool) (p11 p12 p13 p14 v w : Int) (W : World) (h0 : (Lit.int .i64 op).wf = true) (h1 : (Lit.int .i64 p1).wf = true) (h2 : (Lit.int .i64 p2).wf = true) (h3 : (Lit.int .u64 p3).wf = true) (h4 : (Lit.int .u64 p4).wf = true) (g1 : (Lit.int .i64 p6).wf = true) (g2 : (Lit.int .i64 p7).wf = true) (g3 : (Lit.int .u64 p8).wf = true) (g4 : (Lit.int .u64 p9).wf = true) (f1 : (Lit.int .i64 p11).wf = true) (f2 : (Lit.int .i64 p12).wf = true) (f3 : (Lit.int .u64 p13).wf = true) (f4 : (Lit.int .u64 p14).wf = true) (h5 : (Lit.int .i64 v).wf = true) (h6 : (Lit.int .i64 w).wf = true) (hG : GOK G W) :
    Calls Tryz.prog 11 #[.int .i64 op, .agg #[.bool p0, .int .i64 p1, .int .i64 p2, .int .u64 p3, .int .u64 p4, .bool p5, .int .i64 p6, .int .i64 p7, .int .u64 p8, .int .u64 p9, .bool p10, .int .i64 p11, .int .i64 p12, .int .u64 p13, .int .u64 p14, .int .i64 v, .int .i64 w]] W fun e w' => e = .returned (.bool true) ∧ Below W.heap.size W w' := by
  refine runF_calls' C.mixed C.names law_holds.t (H := { merge := true, glue := true }) (d := 60) (fun c _ => LoopsOK_nil c) Tryz.func11 hG (gok_lt C hG) (vs := [.int .i64 op, .agg #[.bool p0, .int .i64 p1, .int .i64 p2, .int .u64 p3, .int .u64 p4, .bool p5, .int .i64 p6, .int .i64 p7, .int .u64 p8, .int .u64 p9, .bool p10, .int .i64 p11, .int .i64 p12, .int .u64 p13, .int .u64 p14, .int .i64 v, .int .i64 w]]) ?_
  rw [law_InvHolds.r, invHolds.v _ _ (raw5 (i64_wf h1) (i64_wf h2) (u64_wf h3) (u64_wf h4)) (raw5 (i64_wf g1) (i64_wf g2) (u64_wf g3) (u64_wf g4)) (i64_wf h5) (i64_wf h6)]
end Go.Proofs.YtonpbbhlmapbdaaGreatDoor.V
