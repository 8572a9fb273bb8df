/- Apply of chapter 13, the program's and the document's. Conditions: none. -/
import Derived.Test.YtonpbbhlmapbdaaGreatDoorK3
set_option linter.unusedVariables false
set_option linter.unusedSimpArgs false
namespace Go.Proofs.YtonpbbhlmapbdaaGreatDoor.V
open Go Go.Wk Go.RowKit

section
variable {a0 b0 : Bool} {a1 a2 a3 a4 b1 b2 b3 b4 : Int}
theorem num_op1_s (a b c d : Int) : num_op1 a b c d = A.ival_Neg a b := by
  unfold num_op1 num_op1.c
  (try unfold num_op1.c0)
  rfl
theorem num_op2_k {γ : Type} (n : γ) (k : Int × Int → γ) {a b c d : Int} (e : Bool) (ha : U64 a) (hb : U64 b) : num_op2.c n k a b c d e = k (B.negS a b e) := by
  unfold num_op2.c
  (try unfold num_op2.c0)
  simp only [B.neg_ok e ha hb, B.neg_s e ha hb, cond_true]
theorem num_op2_ok {a b c d : Int} (e : Bool) (ha : U64 a) (hb : U64 b) : num_op2.ok a b c d e = true := num_op2_k _ _ e ha hb
theorem num_op2_s {a b c d : Int} (e : Bool) (ha : U64 a) (hb : U64 b) : num_op2 a b c d e = B.negS a b e := num_op2_k _ _ e ha hb
theorem num_op3_k {γ : Type} (n : γ) (k : Int × Int → γ) {a b c d : Int} (e : Bool) (ha : U64 a) (hb : U64 b) (hc : U64 c) (hd : U64 d) : num_op3.c n k a b c d e = k (B.divS a b c d) := by
  unfold num_op3.c
  (try unfold num_op3.c0)
  simp only [B.div_ok ha hb hc hd, B.div_s ha hb hc hd, cond_true]
theorem num_op3_ok {a b c d : Int} (e : Bool) (ha : U64 a) (hb : U64 b) (hc : U64 c) (hd : U64 d) : num_op3.ok a b c d e = true := num_op3_k _ _ e ha hb hc hd
theorem num_op3_s {a b c d : Int} (e : Bool) (ha : U64 a) (hb : U64 b) (hc : U64 c) (hd : U64 d) : num_op3 a b c d e = B.divS a b c d := num_op3_k _ _ e ha hb hc hd
theorem num_op4_k {γ : Type} (n : γ) (k : Int × Int → γ) {a b c d : Int} (e : Bool) (ha : U64 a) (hb : U64 b) (hc : U64 c) (hd : U64 d) : num_op4.c n k a b c d e = k (B.remS a b c d) := by
  unfold num_op4.c
  (try unfold num_op4.c0)
  simp only [B.rem_ok ha hb hc hd, B.rem_s ha hb hc hd, cond_true]
theorem num_op4_ok {a b c d : Int} (e : Bool) (ha : U64 a) (hb : U64 b) (hc : U64 c) (hd : U64 d) : num_op4.ok a b c d e = true := num_op4_k _ _ e ha hb hc hd
theorem num_op4_s {a b c d : Int} (e : Bool) (ha : U64 a) (hb : U64 b) (hc : U64 c) (hd : U64 d) : num_op4 a b c d e = B.remS a b c d := num_op4_k _ _ e ha hb hc hd
/-- the intervals and classes of two normal forms, worked on, are of 64 bits -/
structure Fit4 (i : Int × Int × Bool) (c : Int × Int) : Prop where
  l : I64 i.1
  h : I64 i.2.1
  m : U64 c.1
  r : U64 c.2
theorem mk4_num {i : Int × Int × Bool} {c : Int × Int} (f : Fit4 i c) : num_Make i.1 i.2.1 c.1 c.2 = mk4 i c := num_Make_s f.l f.h f.m f.r
theorem fit_neg {x : Nm} (z : Nz x) : Fit4 (A.ival_Neg x.2.1 x.2.2.1) (B.negS x.2.2.2.1 x.2.2.2.2 (A.ival_Neg x.2.1 x.2.2.1).2.2) := by
  have e := A.neg_span z.w.l z.w.h z.le
  have hI := span_I (0 - x.2.2.1) (0 - x.2.1)
  have hf := A.span_fit (l := 0 - x.2.2.1) (h := 0 - x.2.1) (z := 0 - x.2.1) (by have := z.le; omega) (by omega)
  rw [← e] at hI hf
  have hu := B.neg_has (e := (A.ival_Neg x.2.1 x.2.2.1).2.2) z.w.m z.w.r z.w.l z.l.2.2 (fun h => by have := hf h; unfold A.fit at this; omega)
  exact ⟨hI.1, hI.2, hu.1, hu.2.1⟩
theorem fit_add {x y : Nm} (z : Nz x) (v : Nz y) : Fit4 (A.ival_Add x.2.1 x.2.2.1 y.2.1 y.2.2.1) (B.addS x.2.2.2.1 x.2.2.2.2 y.2.2.2.1 y.2.2.2.2 (A.ival_Add x.2.1 x.2.2.1 y.2.1 y.2.2.1).2.2) := by
  have e := A.add_span z.w.l z.w.h v.w.l v.w.h z.le v.le
  have hI := span_I (x.2.1 + y.2.1) (x.2.2.1 + y.2.2.1)
  have l1 := z.le
  have l2 := v.le
  have hf := A.span_fit (l := x.2.1 + y.2.1) (h := x.2.2.1 + y.2.2.1) (z := x.2.1 + y.2.1) (by omega) (by omega)
  rw [← e] at hI hf
  have hu := B.add_has (e := (A.ival_Add x.2.1 x.2.2.1 y.2.1 y.2.2.1).2.2) z.w.m z.w.r v.w.m v.w.r z.l.2.2 v.l.2.2 (fun h => fitI (hf h))
  exact ⟨hI.1, hI.2, hu.1, hu.2.1⟩
theorem fit_sub {x y : Nm} (z : Nz x) (v : Nz y) : Fit4 (A.ival_Sub x.2.1 x.2.2.1 y.2.1 y.2.2.1) (B.subS x.2.2.2.1 x.2.2.2.2 y.2.2.2.1 y.2.2.2.2 (A.ival_Sub x.2.1 x.2.2.1 y.2.1 y.2.2.1).2.2) := by
  have e := A.sub_span z.w.l z.w.h v.w.l v.w.h z.le v.le
  have hI := span_I (x.2.1 - y.2.2.1) (x.2.2.1 - y.2.1)
  have l1 := z.le
  have l2 := v.le
  have hf := A.span_fit (l := x.2.1 - y.2.2.1) (h := x.2.2.1 - y.2.1) (z := x.2.1 - y.2.1) (by omega) (by omega)
  rw [← e] at hI hf
  have hu := B.sub_has (e := (A.ival_Sub x.2.1 x.2.2.1 y.2.1 y.2.2.1).2.2) z.w.m z.w.r v.w.m v.w.r z.l.2.2 v.l.2.2 (fun h => fitI (hf h))
  exact ⟨hI.1, hI.2, hu.1, hu.2.1⟩
theorem fit_mul {x y : Nm} (z : Nz x) (v : Nz y) : Fit4 (A.ival_Mul x.2.1 x.2.2.1 y.2.1 y.2.2.1) (B.mulS x.2.2.2.1 x.2.2.2.2 y.2.2.2.1 y.2.2.2.2 (A.ival_Mul x.2.1 x.2.2.1 y.2.1 y.2.2.1).2.2) := by
  rw [A.ival_Mul_s z.w.l z.w.h v.w.l v.w.h]
  have hI := mulI x.2.1 x.2.2.1 y.2.1 y.2.2.1
  have hu := B.mul_has (e := (A.mulS x.2.1 x.2.2.1 y.2.1 y.2.2.1).2.2) z.w.m z.w.r v.w.m v.w.r z.l.2.2 v.l.2.2 (fun h => fitI ((A.mul_in (Int.le_refl _) z.le (Int.le_refl _) v.le).2 h))
  exact ⟨hI.1, hI.2, hu.1, hu.2.1⟩
theorem fit_div {x y : Nm} (z : Nz x) (v : Nz y) (h : y.2.1 ≠ 0) : Fit4 (A.ival_Div x.2.1 x.2.2.1 y.2.1 y.2.2.1) (B.divS x.2.2.2.1 x.2.2.2.2 y.2.2.2.1 y.2.2.2.2) := by
  have hI := divI z.w.l z.w.h v.w.l v.w.h z.le v.le
  have hu := B.div_has z.w.m z.w.r v.w.m v.w.r z.w.l v.w.l z.l.2.2 v.l.2.2 h
  exact ⟨hI.1, hI.2, hu.1, hu.2.1⟩
theorem fit_rem {x y : Nm} (z : Nz x) (v : Nz y) (h : y.2.1 ≠ 0) : Fit4 (A.ival_Rem x.2.1 x.2.2.1 y.2.1 y.2.2.1) (B.remS x.2.2.2.1 x.2.2.2.2 y.2.2.2.1 y.2.2.2.2) := by
  have hI := remI z.w.l z.w.h v.w.l v.w.h
  have hu := B.rem_has z.w.m z.w.r v.w.m v.w.r z.w.l v.w.l z.l.2.2 v.l.2.2 h
  exact ⟨hI.1, hI.2, hu.1, hu.2.1⟩
theorem nzS_norm {x : Nm} (n : NF x) : nzS x = nzN x := by unfold nzS; rw [norm_fix n]
theorem num_Apply_k {γ : Type} (n : γ) (k : Bool × Int × Int × Int × Int × Int → γ) {op : Int} (h : Raw (a0, a1, a2, a3, a4)) (h' : Raw (b0, b1, b2, b3, b4)) :
    num_Apply.c n k op a0 a1 a2 a3 a4 b0 b1 b2 b3 b4 = k (if isOp op then app6 (applyS op (a0, a1, a2, a3, a4) (b0, b1, b2, b3, b4)) 0 else (false, 0, 0, 0, 0, 1)) := by
  unfold num_Apply.c num_Apply.c0 applyS
  have n1 := norm_nf h
  have n2 := norm_nf h'
  simp only [num_Norm_s h, num_Norm_s h', num_Bot_s]
  generalize normS (a0, a1, a2, a3, a4) = x at *
  generalize normS (b0, b1, b2, b3, b4) = y at *
  have n3 := nzN_nf n2
  have r1 := n1.raw
  have r2 := n2.raw
  have r3 := n3.raw
  have ez : num_NonZero y.1 y.2.1 y.2.2.1 y.2.2.2.1 y.2.2.2.2 = nzN y := (num_NonZero_s (a0 := y.1) (a1 := y.2.1) (a2 := y.2.2.1) (a3 := y.2.2.2.1) (a4 := y.2.2.2.2) r2).trans (nzS_norm n2)
  simp only [ez, num_op1_s, num_op2_ok _ r1.m r1.r, num_op2_s _ r1.m r1.r, B.add_ok _ r1.m r1.r r2.m r2.r, B.add_s _ r1.m r1.r r2.m r2.r, B.sub_ok _ r1.m r1.r r2.m r2.r, B.sub_s _ r1.m r1.r r2.m r2.r, B.mul_ok _ r1.m r1.r r2.m r2.r, B.mul_s _ r1.m r1.r r2.m r2.r, num_op3_ok _ r1.m r1.r r3.m r3.r, num_op3_s _ r1.m r1.r r3.m r3.r, num_op4_ok _ r1.m r1.r r3.m r3.r, num_op4_s _ r1.m r1.r r3.m r3.r, cond_true]
  by_cases e1 : op = 1
  · subst e1
    simp only [isOp, rhs, show ¬ ((1 : Int) = 6 ∨ (1 : Int) = 7) by decide, if_false, true_or, if_true, show ((1 : Int) == 1) = true from rfl, show ((1 : Int) != 1) = false from rfl, cond_true, ne_eq, not_true_eq_false, and_false, or_false]
    by_cases hx : x.1 = true
    · cases y.1 <;> simp [hx, app6, botS]
    · rw [if_neg hx]
      have hx' : x.1 = false := by simpa using hx
      have z := nz1 n1 hx
      rw [hx']
      simp only [mk4_num (fit_neg z)]
      unfold applyN
      cases y.1 <;> simp [app6]
  by_cases e2 : op = 3
  · subst e2
    simp only [isOp, rhs, show ¬ ((3 : Int) = 6 ∨ (3 : Int) = 7) by decide, if_false, true_or, or_true, if_true, show ((3 : Int) == 1) = false from rfl, show ((3 : Int) == 3) = true from rfl, show ((3 : Int) != 1) = true from rfl, cond_true, cond_false, ne_eq, show ¬ (3 : Int) = 1 by decide, not_false_eq_true, and_true]
    by_cases hx : x.1 = true
    · simp [hx, app6, botS]
    · by_cases hy : y.1 = true
      · simp [hx, hy, app6, botS]
      · rw [if_neg (by simp [hx, hy])]
        have hx' : x.1 = false := by simpa using hx
        have hy' : y.1 = false := by simpa using hy
        rw [hx', hy']
        simp only [mk4_num (fit_add (nz1 n1 hx) (nz1 n2 hy))]
        simp [applyN, app6]
  by_cases e3 : op = 4
  · subst e3
    simp only [isOp, rhs, show ¬ ((4 : Int) = 6 ∨ (4 : Int) = 7) by decide, if_false, true_or, or_true, if_true, show ((4 : Int) == 1) = false from rfl, show ((4 : Int) == 3) = false from rfl, show ((4 : Int) == 4) = true from rfl, show ((4 : Int) != 1) = true from rfl, cond_true, cond_false, ne_eq, show ¬ (4 : Int) = 1 by decide, not_false_eq_true, and_true]
    by_cases hx : x.1 = true
    · simp [hx, app6, botS]
    · by_cases hy : y.1 = true
      · simp [hx, hy, app6, botS]
      · rw [if_neg (by simp [hx, hy])]
        have hx' : x.1 = false := by simpa using hx
        have hy' : y.1 = false := by simpa using hy
        rw [hx', hy']
        simp only [mk4_num (fit_sub (nz1 n1 hx) (nz1 n2 hy))]
        simp [applyN, app6]
  by_cases e4 : op = 5
  · subst e4
    simp only [isOp, rhs, show ¬ ((5 : Int) = 6 ∨ (5 : Int) = 7) by decide, if_false, true_or, or_true, if_true, show ((5 : Int) == 1) = false from rfl, show ((5 : Int) == 3) = false from rfl, show ((5 : Int) == 4) = false from rfl, show ((5 : Int) == 5) = true from rfl, show ((5 : Int) != 1) = true from rfl, cond_true, cond_false, ne_eq, show ¬ (5 : Int) = 1 by decide, not_false_eq_true, and_true]
    by_cases hx : x.1 = true
    · simp [hx, app6, botS]
    · by_cases hy : y.1 = true
      · simp [hx, hy, app6, botS]
      · rw [if_neg (by simp [hx, hy])]
        have hx' : x.1 = false := by simpa using hx
        have hy' : y.1 = false := by simpa using hy
        rw [hx', hy']
        simp only [mk4_num (fit_mul (nz1 n1 hx) (nz1 n2 hy))]
        simp [applyN, app6]
  by_cases e5 : op = 6
  · subst e5
    simp only [isOp, rhs, show ((6 : Int) = 6 ∨ (6 : Int) = 7) by decide, if_false, true_or, or_true, if_true, show ((6 : Int) == 1) = false from rfl, show ((6 : Int) == 3) = false from rfl, show ((6 : Int) == 4) = false from rfl, show ((6 : Int) == 5) = false from rfl, show ((6 : Int) == 6) = true from rfl, show ((6 : Int) != 1) = true from rfl, cond_true, cond_false, ne_eq, show ¬ (6 : Int) = 1 by decide, not_false_eq_true, and_true]
    by_cases hx : x.1 = true
    · simp [hx, app6, botS]
    · by_cases hy : (nzN y).1 = true
      · simp [hx, hy, app6, botS]
      · rw [if_neg (by simp [hx, hy])]
        have hx' : x.1 = false := by simpa using hx
        have hy' : (nzN y).1 = false := by simpa using hy
        rw [hx', hy']
        simp only [mk4_num (fit_div (nz1 n1 hx) (nz1 n3 hy) (nzN_lo n2 hy'))]
        simp [applyN, app6]
  by_cases e6 : op = 7
  · subst e6
    simp only [isOp, rhs, show ((7 : Int) = 6 ∨ (7 : Int) = 7) by decide, if_false, true_or, or_true, if_true, show ((7 : Int) == 1) = false from rfl, show ((7 : Int) == 3) = false from rfl, show ((7 : Int) == 4) = false from rfl, show ((7 : Int) == 5) = false from rfl, show ((7 : Int) == 6) = false from rfl, show ((7 : Int) == 7) = true from rfl, show ((7 : Int) != 1) = true from rfl, cond_true, cond_false, ne_eq, show ¬ (7 : Int) = 1 by decide, not_false_eq_true, and_true]
    by_cases hx : x.1 = true
    · simp [hx, app6, botS]
    · by_cases hy : (nzN y).1 = true
      · simp [hx, hy, app6, botS]
      · rw [if_neg (by simp [hx, hy])]
        have hx' : x.1 = false := by simpa using hx
        have hy' : (nzN y).1 = false := by simpa using hy
        rw [hx', hy']
        simp only [mk4_num (fit_rem (nz1 n1 hx) (nz1 n3 hy) (nzN_lo n2 hy'))]
        simp [applyN, app6]
  rw [if_neg (by unfold isOp; omega)]
  simp [Bool.cond_eq_ite, e1, e2, e3, e4, e5, e6]
theorem num_Apply_ok {op : Int} (h : Raw (a0, a1, a2, a3, a4)) (h' : Raw (b0, b1, b2, b3, b4)) : num_Apply.ok op a0 a1 a2 a3 a4 b0 b1 b2 b3 b4 = true := num_Apply_k _ _ h h'
theorem num_Apply_s {op : Int} (h : Raw (a0, a1, a2, a3, a4)) (h' : Raw (b0, b1, b2, b3, b4)) : num_Apply op a0 a1 a2 a3 a4 b0 b1 b2 b3 b4 = if isOp op then app6 (applyS op (a0, a1, a2, a3, a4) (b0, b1, b2, b3, b4)) 0 else (false, 0, 0, 0, 0, 1) := num_Apply_k _ _ h h'
end
end Go.Proofs.YtonpbbhlmapbdaaGreatDoor.V
