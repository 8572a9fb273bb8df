/- The document's Apply of chapter 13. Conditions: none. -/
import Derived.Test.YtonpbbhlmapbdaaGreatDoorK4
set_option linter.unusedVariables false
set_option linter.unusedSimpArgs false
namespace Go.Proofs.YtonpbbhlmapbdaaGreatDoor.V
open Go Go.Wk Go.RowKit
section
variable {a0 b0 : Bool} {a1 a2 a3 a4 b1 b2 b3 b4 : Int}
theorem nref_Apply_k {γ : Type} (n : γ) (k : Bool × Int × Int × Int × Int × Int → γ) {op : Int} (h : Raw (a0, a1, a2, a3, a4)) (h' : Raw (b0, b1, b2, b3, b4)) :
    nref_Apply.c n k op a0 a1 a2 a3 a4 b0 b1 b2 b3 b4 = k (if isOp op then app6 (applyS op (a0, a1, a2, a3, a4) (b0, b1, b2, b3, b4)) 0 else (false, 0, 0, 0, 0, 1)) := by
  unfold nref_Apply.c nref_Apply.c0 applyS
  have n1 := norm_nf h
  have n2 := norm_nf h'
  simp only [nref_Norm_ok h, nref_Norm_ok h', nref_Norm_s h, nref_Norm_s h', nref_Bot_s, nref_Const_s, cond_true]
  generalize normS (a0, a1, a2, a3, a4) = x at *
  generalize normS (b0, b1, b2, b3, b4) = y at *
  have n3 := nzN_nf n2
  have r1 := n1.raw
  have r2 := n2.raw
  have r3 := n3.raw
  have ez : nref_NonZero y.1 y.2.1 y.2.2.1 y.2.2.2.1 y.2.2.2.2 = nzN y := (nref_NonZero_s (a0 := y.1) (a1 := y.2.1) (a2 := y.2.2.1) (a3 := y.2.2.2.1) (a4 := y.2.2.2.2) r2).trans (nzS_norm n2)
  have eo : nref_NonZero.ok y.1 y.2.1 y.2.2.1 y.2.2.2.1 y.2.2.2.2 = true := nref_NonZero_ok (a0 := y.1) (a1 := y.2.1) (a2 := y.2.2.1) (a3 := y.2.2.2.1) (a4 := y.2.2.2.2) r2
  by_cases e1 : op = 1
  · subst e1
    simp only [isOp, rhs, show ¬ ((1 : Int) = 6 ∨ (1 : Int) = 7) by decide, if_false, true_or, if_true, show ((1 : Int) == 1) = true from rfl, show ((1 : Int) != 1) = false from rfl, show ((1 : Int) == 3) = false from rfl, show ((1 : Int) != 3) = true from rfl, show ((1 : Int) == 4) = false from rfl, show ((1 : Int) != 4) = true from rfl, show ((1 : Int) == 5) = false from rfl, show ((1 : Int) != 5) = true from rfl, show ((1 : Int) == 6) = false from rfl, show ((1 : Int) != 6) = true from rfl, show ((1 : Int) == 7) = false from rfl, show ((1 : Int) != 7) = true from rfl, cond_true, cond_false, ne_eq, not_true_eq_false, and_false, or_false, Bool.or_true, Bool.true_and, Bool.and_true]
    by_cases hx : x.1 = true
    · simp [hx, app6, botS, constS]
    · rw [if_neg hx]
      have hx' : x.1 = false := by simpa using hx
      have z := nz1 n1 hx
      rw [hx']
      simp only [constS, cond_false, ← A.neg_eq z.w.l z.w.h, B.neg2_ok _ r1.m r1.r, B.neg2_s _ r1.m r1.r, mk4_ok (fit_neg z), mk4_ref (fit_neg z), cond_true]
      unfold applyN
      simp [app6]
  by_cases e3 : op = 3
  · subst e3
    simp only [isOp, rhs, show ¬ ((3 : Int) = 6 ∨ (3 : Int) = 7) by decide, if_false, true_or, or_true, if_true, show ((3 : Int) == 1) = false from rfl, show ((3 : Int) != 1) = true from rfl, show ((3 : Int) == 3) = true from rfl, show ((3 : Int) != 3) = false from rfl, show ((3 : Int) == 4) = false from rfl, show ((3 : Int) != 4) = true from rfl, show ((3 : Int) == 5) = false from rfl, show ((3 : Int) != 5) = true from rfl, show ((3 : Int) == 6) = false from rfl, show ((3 : Int) != 6) = true from rfl, show ((3 : Int) == 7) = false from rfl, show ((3 : Int) != 7) = true from rfl, cond_true, cond_false, ne_eq, show ¬ (3 : Int) = 1 by decide, not_false_eq_true, and_true, Bool.or_true, Bool.true_and, Bool.and_true]
    by_cases hx : x.1 = true
    · simp [hx, app6, botS]
    · by_cases hy : y.1 = true
      · simp [hx, hy, app6, botS]
      · rw [if_neg (by simp [hx, hy])]
        have hx' : x.1 = false := by simpa using hx
        have hy' : y.1 = false := by simpa using hy
        have z := nz1 n1 hx
        have v := nz1 n2 hy
        rw [hx', hy']
        simp only [cond_false, ← A.add_eq z.w.l z.w.h v.w.l v.w.h, B.add2_ok _ r1.m r1.r r2.m r2.r, B.add2_s _ r1.m r1.r r2.m r2.r, mk4_ok (fit_add z v), mk4_ref (fit_add z v), cond_true]
        simp [applyN, app6]
  by_cases e4 : op = 4
  · subst e4
    simp only [isOp, rhs, show ¬ ((4 : Int) = 6 ∨ (4 : Int) = 7) by decide, if_false, true_or, or_true, if_true, show ((4 : Int) == 1) = false from rfl, show ((4 : Int) != 1) = true from rfl, show ((4 : Int) == 3) = false from rfl, show ((4 : Int) != 3) = true from rfl, show ((4 : Int) == 4) = true from rfl, show ((4 : Int) != 4) = false from rfl, show ((4 : Int) == 5) = false from rfl, show ((4 : Int) != 5) = true from rfl, show ((4 : Int) == 6) = false from rfl, show ((4 : Int) != 6) = true from rfl, show ((4 : Int) == 7) = false from rfl, show ((4 : Int) != 7) = true from rfl, cond_true, cond_false, ne_eq, show ¬ (4 : Int) = 1 by decide, not_false_eq_true, and_true, Bool.or_true, Bool.true_and, Bool.and_true]
    by_cases hx : x.1 = true
    · simp [hx, app6, botS]
    · by_cases hy : y.1 = true
      · simp [hx, hy, app6, botS]
      · rw [if_neg (by simp [hx, hy])]
        have hx' : x.1 = false := by simpa using hx
        have hy' : y.1 = false := by simpa using hy
        have z := nz1 n1 hx
        have v := nz1 n2 hy
        rw [hx', hy']
        simp only [cond_false, ← A.sub_eq z.w.l z.w.h v.w.l v.w.h, B.sub2_ok _ r1.m r1.r r2.m r2.r, B.sub2_s _ r1.m r1.r r2.m r2.r, mk4_ok (fit_sub z v), mk4_ref (fit_sub z v), cond_true]
        simp [applyN, app6]
  by_cases e5 : op = 5
  · subst e5
    simp only [isOp, rhs, show ¬ ((5 : Int) = 6 ∨ (5 : Int) = 7) by decide, if_false, true_or, or_true, if_true, show ((5 : Int) == 1) = false from rfl, show ((5 : Int) != 1) = true from rfl, show ((5 : Int) == 3) = false from rfl, show ((5 : Int) != 3) = true from rfl, show ((5 : Int) == 4) = false from rfl, show ((5 : Int) != 4) = true from rfl, show ((5 : Int) == 5) = true from rfl, show ((5 : Int) != 5) = false from rfl, show ((5 : Int) == 6) = false from rfl, show ((5 : Int) != 6) = true from rfl, show ((5 : Int) == 7) = false from rfl, show ((5 : Int) != 7) = true from rfl, cond_true, cond_false, ne_eq, show ¬ (5 : Int) = 1 by decide, not_false_eq_true, and_true, Bool.or_true, Bool.true_and, Bool.and_true]
    by_cases hx : x.1 = true
    · simp [hx, app6, botS]
    · by_cases hy : y.1 = true
      · simp [hx, hy, app6, botS]
      · rw [if_neg (by simp [hx, hy])]
        have hx' : x.1 = false := by simpa using hx
        have hy' : y.1 = false := by simpa using hy
        have z := nz1 n1 hx
        have v := nz1 n2 hy
        rw [hx', hy']
        simp only [cond_false, ← A.mul_eq z.w.l z.w.h v.w.l v.w.h, B.mul2_ok _ r1.m r1.r r2.m r2.r, B.mul2_s _ r1.m r1.r r2.m r2.r, mk4_ok (fit_mul z v), mk4_ref (fit_mul z v), cond_true]
        simp [applyN, app6]
  by_cases e6 : op = 6
  · subst e6
    simp only [isOp, rhs, show ((6 : Int) = 6 ∨ (6 : Int) = 7) by decide, if_false, true_or, or_true, if_true, show ((6 : Int) == 1) = false from rfl, show ((6 : Int) != 1) = true from rfl, show ((6 : Int) == 3) = false from rfl, show ((6 : Int) != 3) = true from rfl, show ((6 : Int) == 4) = false from rfl, show ((6 : Int) != 4) = true from rfl, show ((6 : Int) == 5) = false from rfl, show ((6 : Int) != 5) = true from rfl, show ((6 : Int) == 6) = true from rfl, show ((6 : Int) != 6) = false from rfl, show ((6 : Int) == 7) = false from rfl, show ((6 : Int) != 7) = true from rfl, cond_true, cond_false, ne_eq, show ¬ (6 : Int) = 1 by decide, not_false_eq_true, and_true, Bool.or_true, Bool.true_and, Bool.and_true, eo, ez]
    by_cases hx : x.1 = true
    · simp [hx, app6, botS]
    · by_cases hy : (nzN y).1 = true
      · simp [hx, hy, app6, botS]
      · rw [if_neg (by simp [hx, hy])]
        have hx' : x.1 = false := by simpa using hx
        have hy' : (nzN y).1 = false := by simpa using hy
        have z := nz1 n1 hx
        have v := nz1 n3 hy
        rw [hx', hy']
        simp only [cond_false, A.ref_Div_ok, ← A.div_eq z.w.l z.w.h v.w.l v.w.h, B.div2_ok r1.m r1.r r3.m r3.r, B.div2_s r1.m r1.r r3.m r3.r, mk4_ok (fit_div z v (nzN_lo n2 hy')), mk4_ref (fit_div z v (nzN_lo n2 hy')), cond_true]
        simp [applyN, app6]
  by_cases e7 : op = 7
  · subst e7
    simp only [isOp, rhs, show ((7 : Int) = 6 ∨ (7 : Int) = 7) by decide, if_false, true_or, or_true, if_true, show ((7 : Int) == 1) = false from rfl, show ((7 : Int) != 1) = true from rfl, show ((7 : Int) == 3) = false from rfl, show ((7 : Int) != 3) = true from rfl, show ((7 : Int) == 4) = false from rfl, show ((7 : Int) != 4) = true from rfl, show ((7 : Int) == 5) = false from rfl, show ((7 : Int) != 5) = true from rfl, show ((7 : Int) == 6) = false from rfl, show ((7 : Int) != 6) = true from rfl, show ((7 : Int) == 7) = true from rfl, show ((7 : Int) != 7) = false from rfl, cond_true, cond_false, ne_eq, show ¬ (7 : Int) = 1 by decide, not_false_eq_true, and_true, Bool.or_true, Bool.true_and, Bool.and_true, eo, ez]
    by_cases hx : x.1 = true
    · simp [hx, app6, botS]
    · by_cases hy : (nzN y).1 = true
      · simp [hx, hy, app6, botS]
      · rw [if_neg (by simp [hx, hy])]
        have hx' : x.1 = false := by simpa using hx
        have hy' : (nzN y).1 = false := by simpa using hy
        have z := nz1 n1 hx
        have v := nz1 n3 hy
        rw [hx', hy']
        simp only [cond_false, A.ref_Rem_ok z.w.l z.w.h v.w.l v.w.h, ← A.rem_eq z.w.l z.w.h v.w.l v.w.h, B.rem2_ok r1.m r1.r r3.m r3.r, B.rem2_s r1.m r1.r r3.m r3.r, mk4_ok (fit_rem z v (nzN_lo n2 hy')), mk4_ref (fit_rem z v (nzN_lo n2 hy')), cond_true]
        simp [applyN, app6]
  rw [if_neg (by unfold isOp; omega)]
  simp [Bool.cond_eq_ite, e1, e3, e4, e5, e6, e7]
theorem nref_Apply_ok {op : Int} (h : Raw (a0, a1, a2, a3, a4)) (h' : Raw (b0, b1, b2, b3, b4)) : nref_Apply.ok op a0 a1 a2 a3 a4 b0 b1 b2 b3 b4 = true := nref_Apply_k _ _ h h'
theorem nref_Apply_s {op : Int} (h : Raw (a0, a1, a2, a3, a4)) (h' : Raw (b0, b1, b2, b3, b4)) : nref_Apply op a0 a1 a2 a3 a4 b0 b1 b2 b3 b4 = if isOp op then app6 (applyS op (a0, a1, a2, a3, a4) (b0, b1, b2, b3, b4)) 0 else (false, 0, 0, 0, 0, 1) := nref_Apply_k _ _ h h'
end
end Go.Proofs.YtonpbbhlmapbdaaGreatDoor.V
