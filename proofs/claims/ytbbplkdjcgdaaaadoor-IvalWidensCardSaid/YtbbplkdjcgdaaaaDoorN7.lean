/- Quotients of intervals: the program's are the document's. Conditions: none. -/
import Derived.Test.YtbbplkdjcgdaaaaDoorN6
set_option linter.unusedVariables false
set_option linter.unusedSimpArgs false
namespace Go.Proofs.YtbbplkdjcgdaaaaDoor.V
open Go Go.Wk

theorem mt_m (a b c d : Int) : mt a b c d = if min b d < max a c then (1, 0) else (max a c, min b d) := by
  have e1 : (if d < b then d else b) = min b d := by split <;> omega
  have e2 : (if c > a then c else a) = max a c := by split <;> omega
  unfold mt
  rw [e1, e2]
theorem mt_mem (a b c d y : Int) : ((mt a b c d).1 ≤ y ∧ y ≤ (mt a b c d).2) ↔ (a ≤ y ∧ y ≤ b ∧ c ≤ y ∧ y ≤ d) := by
  rw [mt_m]
  by_cases h : min b d < max a c
  · rw [if_pos h]; simp only; omega
  · rw [if_neg h]; simp only; omega
theorem jn4 (p1 p2 p3 p4 : Int) : jn (jn (jn (jn 1 0 p1 p1).1 (jn 1 0 p1 p1).2 p2 p2).1 (jn (jn 1 0 p1 p1).1 (jn 1 0 p1 p1).2 p2 p2).2 p3 p3).1 (jn (jn (jn 1 0 p1 p1).1 (jn 1 0 p1 p1).2 p2 p2).1 (jn (jn 1 0 p1 p1).1 (jn 1 0 p1 p1).2 p2 p2).2 p3 p3).2 p4 p4 = (min (min p1 p2) (min p3 p4), max (max p1 p2) (max p3 p4)) := by
  have j1 := jn_p (l := p1) (h := p1) p2 (by omega)
  have j2 := jn_p (l := min p1 p2) (h := max p1 p2) p3 (by omega)
  have j3 := jn_p (l := min (min p1 p2) p3) (h := max (max p1 p2) p3) p4 (by omega)
  simp only [jn_1, j1, j2, j3, Prod.mk.injEq]
  constructor <;> omega
theorem word_Neg_s (a : Int) : word_Neg a = IntKind.i64.wrap (-a) := by
  unfold word_Neg word_Neg.c; (try unfold word_Neg.c0); simp only [id, word_Sub_s, Int.zero_sub]
theorem word_Div_s {x y : Int} (hx : I64 x) (hy : y ≠ 0) (h : x ≠ -9223372036854775808 ∨ y ≠ -1) : (word_Div x y).1 = x.tdiv y := by
  have hi' := tdiv_I hx hy h
  unfold word_Div word_Div.c word_Div.c0
  have e0 : (y == 0) = false := by simpa using hy
  simp only [e0, cond_false]
  by_cases h1 : y = -1
  · subst h1
    have hx' : x ≠ -9223372036854775808 := h.elim id (fun h => absurd rfl h)
    have e1 : ((-1 : Int) == -1) = true := rfl
    rw [e1, cond_true, word_Neg_s]
    unfold I64 at hx
    rw [wi_id (by omega) (by omega)]
    simp
  · have e1 : (y == -1) = false := by simpa using h1
    have e2 : decide (y = 0) = false := by simpa using hy
    rw [e1, cond_false, e2]
    exact wi_id hi'.1 hi'.2
theorem cq_s {a b c d : Int} (ha : I64 a) (hb : I64 b) (hc : 0 < c ∨ d < 0) (hw : a ≠ -9223372036854775808 ∨ d ≠ -1) : ival_cornersQ a b c d = cor a b c d := by
  unfold ival_cornersQ ival_cornersQ.c ival_cornersQ.c0 cor
  simp only [none_s, id, Bool.cond_decide, ij_s]
  split
  · rfl
  · split
    · rfl
    · rw [word_Div_s ha (y := c) (by omega) (by omega), word_Div_s ha (y := d) (by omega) (by omega), word_Div_s hb (y := c) (by omega) (by unfold I64 at ha; omega), word_Div_s hb (y := d) (by omega) (by unfold I64 at ha; omega), jn4]
theorem rc_ok {a b c d : Int} (hc : 0 < c ∨ d < 0) : ref_corners.ok a b c d = true := by
  unfold ref_corners.ok ref_corners.c ref_corners.c0
  simp only [empty_s, Bool.cond_decide]
  split
  · rfl
  · split
    · rfl
    · have e1 : decide (c = 0) = false := by rw [decide_eq_false_iff_not]; omega
      have e2 : decide (d = 0) = false := by rw [decide_eq_false_iff_not]; omega
      simp only [e1, e2, Bool.not_false, cond_true]
theorem rc_s {a b c d : Int} (ha : I64 a) (hb : I64 b) (hc : 0 < c ∨ d < 0) (hw : a ≠ -9223372036854775808 ∨ d ≠ -1) : ref_corners a b c d = cor a b c d := by
  unfold ref_corners ref_corners.c ref_corners.c0 cor
  simp only [empty_s, id, Bool.cond_decide, rj_s, None_s]
  split
  · rfl
  · split
    · rfl
    · have e1 : decide (c = 0) = false := by rw [decide_eq_false_iff_not]; omega
      have e2 : decide (d = 0) = false := by rw [decide_eq_false_iff_not]; omega
      have i1 := tdiv_I ha (y := c) (by omega) (by omega)
      have i2 := tdiv_I ha (y := d) (by omega) (by omega)
      have i3 := tdiv_I hb (y := c) (by omega) (by unfold I64 at ha; omega)
      have i4 := tdiv_I hb (y := d) (by omega) (by unfold I64 at ha; omega)
      simp only [e1, e2, Bool.not_false, cond_true, wi_id i1.1 i1.2, wi_id i2.1 i2.2, wi_id i3.1 i3.2, wi_id i4.1 i4.2, jn4]
theorem ih_s (a b v : Int) : ival_Has a b v = decide (a ≤ v ∧ v ≤ b) := by
  unfold ival_Has ival_Has.c; by_cases h : a ≤ v <;> simp [h]
theorem rh_s (a b v : Int) : ref_Has a b v = decide (a ≤ v ∧ v ≤ b) := by
  unfold ref_Has ref_Has.c; by_cases h : a ≤ v <;> simp [h]
theorem iu_s (a b : Int) : ival_under a b = mt a b (-9223372036854775808) (-1) := by unfold ival_under ival_under.c ival_under.c0; simp only [im_s, id]
theorem io_s (a b : Int) : ival_over a b = mt a b 1 9223372036854775807 := by unfold ival_over ival_over.c; (try unfold ival_over.c0); simp only [im_s, id]
theorem mt_lt (a b c d : Int) (h : d < 0) : 0 < (mt a b c d).1 ∨ (mt a b c d).2 < 0 := by
  rw [mt_m]
  by_cases h : min b d < max a c
  · rw [if_pos h]; left; simp only; omega
  · rw [if_neg h]; right; simp only; omega
theorem mt_gt (a b c d : Int) (h : 0 < c) : 0 < (mt a b c d).1 ∨ (mt a b c d).2 < 0 := by
  rw [mt_m]
  by_cases h : min b d < max a c
  · rw [if_pos h]; left; simp only; omega
  · rw [if_neg h]; left; simp only; omega
theorem mt_I {a b c d : Int} (ha : I64 a) (hb : I64 b) (hc : I64 c) (hd : I64 d) : I64 (mt a b c d).1 ∧ I64 (mt a b c d).2 := by
  unfold I64 at *
  rw [mt_m]
  by_cases h : min b d < max a c
  · rw [if_pos h]; simp only; omega
  · rw [if_neg h]; simp only; omega
theorem mt_no (a b c d v : Int) (h : d < v) (hv : v ≠ 0) : (mt a b c d).2 ≠ v := by
  rw [mt_m]
  by_cases h : min b d < max a c
  · rw [if_pos h]; simp only; omega
  · rw [if_neg h]; simp only; omega
theorem mt_no' (a b c d v : Int) (h : v < c) (hv : v ≠ 1) : (mt a b c d).1 ≠ v := by
  rw [mt_m]
  by_cases h : min b d < max a c
  · rw [if_pos h]; simp only; omega
  · rw [if_neg h]; simp only; omega
end Go.Proofs.YtbbplkdjcgdaaaaDoor.V
