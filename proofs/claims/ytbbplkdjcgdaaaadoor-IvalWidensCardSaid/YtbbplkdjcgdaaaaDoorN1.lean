/- The document's numbers of two words, as whole numbers. Conditions: none. -/
import Derived.Test.YtbbplkdjcgdaaaaDoorE4
set_option linter.unusedVariables false
set_option linter.unusedSimpArgs false
namespace Go.Proofs.YtbbplkdjcgdaaaaDoor.V
open Go Go.Wk

theorem sh63 (x : Int) : x.fdiv (2 ^ min (Int.toNat 63) IntKind.i64.bits) = x / 9223372036854775808 := by
  have e : (2 : Int) ^ min (Int.toNat 63) IntKind.i64.bits = 9223372036854775808 := by decide
  rw [e, Int.fdiv_eq_ediv_of_nonneg _ (by omega)]
def w128 (z : Int) : Int := (z + 170141183460469231731687303715884105728) % 340282366920938463463374607431768211456 - 170141183460469231731687303715884105728
def I128 (z : Int) : Prop := -170141183460469231731687303715884105728 ≤ z ∧ z < 170141183460469231731687303715884105728
def hi (z : Int) : Int := z / 18446744073709551616
def lo (z : Int) : Int := z % 18446744073709551616
theorem w128_I (z : Int) : I128 (w128 z) := by unfold I128 w128; omega
theorem w128_id {z : Int} (h : I128 z) : w128 z = z := by unfold I128 at h; unfold w128; omega
theorem w128_add (x y : Int) : w128 (w128 x + w128 y) = w128 (x + y) := by unfold w128; omega
theorem w128_sub (x y : Int) : w128 (w128 x - w128 y) = w128 (x - y) := by unfold w128; omega
theorem ref_Of_s {a : Int} (h : I64 a) : ref_Of a = (hi a, lo a) := by
  unfold I64 at h
  unfold ref_Of ref_Of.c ref_Of.c0 hi lo
  simp only [id, sh63, wu_eq, Prod.mk.injEq, and_true]
  omega
theorem ref_plus_s {x y : Int} (hx : I128 x) (hy : I128 y) : ref_plus (hi x) (lo x) (hi y) (lo y) = (hi (w128 (x + y)), lo (w128 (x + y))) := by
  unfold I128 at hx hy
  unfold ref_plus ref_plus.c ref_plus.c0 hi lo w128
  simp only [id, wu_eq, wi_eq]
  by_cases h : (x % 18446744073709551616 + y % 18446744073709551616) % 18446744073709551616 < x % 18446744073709551616
  · simp only [h, decide_true, cond_true, Prod.mk.injEq]; constructor <;> omega
  · simp only [h, decide_false, cond_false, Prod.mk.injEq]; constructor <;> omega
theorem ref_minus_s {x y : Int} (hx : I128 x) (hy : I128 y) : ref_minus (hi x) (lo x) (hi y) (lo y) = (hi (w128 (x - y)), lo (w128 (x - y))) := by
  unfold I128 at hx hy
  unfold ref_minus ref_minus.c ref_minus.c0 hi lo w128
  simp only [id, wu_eq, wi_eq]
  by_cases h : x % 18446744073709551616 < y % 18446744073709551616
  · simp only [h, decide_true, cond_true, Prod.mk.injEq]; constructor <;> omega
  · simp only [h, decide_false, cond_false, Prod.mk.injEq]; constructor <;> omega
theorem ref_less_s (x y : Int) : ref_less (hi x) (lo x) (hi y) (lo y) = decide (x < y) := by
  unfold ref_less ref_less.c hi lo
  by_cases h : x / 18446744073709551616 < y / 18446744073709551616
  · simp only [h, decide_true, cond_true, id]; symm; rw [decide_eq_true_eq]; omega
  · simp only [h, decide_false, cond_false]
    by_cases h2 : x / 18446744073709551616 = y / 18446744073709551616
    · have e : (x / 18446744073709551616 == y / 18446744073709551616) = true := by simpa using h2
      simp only [e, cond_true, id]
      congr 1; apply propext; omega
    · have e : (x / 18446744073709551616 == y / 18446744073709551616) = false := by simpa using h2
      simp only [e, cond_false, id]; symm; rw [decide_eq_false_iff_not]; omega
theorem ref_Fits_s (x : Int) : ref_Fits (hi x) (lo x) = decide (-9223372036854775808 ≤ x ∧ x ≤ 9223372036854775807) := by
  unfold ref_Fits ref_Fits.c ref_Fits.c0 hi lo
  simp only [id, sh63, wi_eq]
  rw [Bool.eq_iff_iff]
  simp only [beq_iff_eq, decide_eq_true_eq]
  omega
end Go.Proofs.YtbbplkdjcgdaaaaDoor.V
