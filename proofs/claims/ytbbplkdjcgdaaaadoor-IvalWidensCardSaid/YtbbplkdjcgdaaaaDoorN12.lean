/- A result of numbers within is within the answer, and does not wrap where the answer says so. Conditions: none. -/
import Derived.Test.YtbbplkdjcgdaaaaDoorN11
set_option linter.unusedVariables false
set_option linter.unusedSimpArgs false
namespace Go.Proofs.YtbbplkdjcgdaaaaDoor.V
open Go Go.Wk

theorem span_in {l h z : Int} (h1 : l ≤ z) (h2 : z ≤ h) : (span_s l h).1 ≤ IntKind.i64.wrap z ∧ IntKind.i64.wrap z ≤ (span_s l h).2.1 := by
  unfold span_s
  by_cases hc : cnt l = cnt h
  · rw [if_pos hc]; unfold cnt at hc; simp only [wi_eq]; omega
  · rw [if_neg hc]; simp only [wi_eq]; omega
theorem span_fit {l h z : Int} (h1 : l ≤ z) (h2 : z ≤ h) (he : (span_s l h).2.2 = true) : fit z := by
  unfold span_s at he
  by_cases hc : cnt l = cnt h
  · rw [if_pos hc] at he
    simp only [decide_eq_true_eq] at he
    unfold cnt at hc he
    unfold fit; omega
  · rw [if_neg hc] at he; simp at he
theorem add_span {a b c d : Int} (ha : I64 a) (hb : I64 b) (hc : I64 c) (hd : I64 d) (h1 : a ≤ b) (h2 : c ≤ d) : ival_Add a b c d = span_s (a + c) (b + d) := by
  unfold ival_Add ival_Add.c ival_Add.c0
  simp only [none_s, id, Bool.cond_decide]
  rw [if_neg (by omega), if_neg (by omega), word_Add_s, word_Add_s, beyond_s ha hc, beyond_s hb hd, shifted_s]
theorem sub_span {a b c d : Int} (ha : I64 a) (hb : I64 b) (hc : I64 c) (hd : I64 d) (h1 : a ≤ b) (h2 : c ≤ d) : ival_Sub a b c d = span_s (a - d) (b - c) := by
  unfold ival_Sub ival_Sub.c ival_Sub.c0
  simp only [none_s, id, Bool.cond_decide]
  rw [if_neg (by omega), if_neg (by omega), word_Sub_s, word_Sub_s, short_s ha hd, short_s hb hc, shifted_s]
theorem i64z : I64 0 := by unfold I64; omega
theorem neg_span {a b : Int} (ha : I64 a) (hb : I64 b) (h1 : a ≤ b) : ival_Neg a b = span_s (0 - b) (0 - a) := by
  unfold ival_Neg ival_Neg.c ival_Neg.c0
  rw [sub_span i64z i64z ha hb (by omega) h1]
  rfl
/-- a product lies between the products of the ends -/
theorem mul_one {x c d y : Int} (h1 : c ≤ y) (h2 : y ≤ d) : min (x * c) (x * d) ≤ x * y ∧ x * y ≤ max (x * c) (x * d) := by
  rcases Int.le_total 0 x with hx | hx
  · have := Int.mul_le_mul_of_nonneg_left h1 hx
    have := Int.mul_le_mul_of_nonneg_left h2 hx
    omega
  · have := Int.mul_le_mul_of_nonpos_left hx h1
    have := Int.mul_le_mul_of_nonpos_left hx h2
    omega
theorem mul_box {a b c d x y : Int} (h1 : a ≤ x) (h2 : x ≤ b) (h3 : c ≤ y) (h4 : y ≤ d) : min (min (a * c) (a * d)) (min (b * c) (b * d)) ≤ x * y ∧ x * y ≤ max (max (a * c) (a * d)) (max (b * c) (b * d)) := by
  have e := mul_one (x := x) h3 h4
  have e1 := mul_one (x := c) h1 h2
  have e2 := mul_one (x := d) h1 h2
  rw [Int.mul_comm c a, Int.mul_comm c b, Int.mul_comm c x] at e1
  rw [Int.mul_comm d a, Int.mul_comm d b, Int.mul_comm d x] at e2
  omega
theorem mul_in {a b c d x y : Int} (h1 : a ≤ x) (h2 : x ≤ b) (h3 : c ≤ y) (h4 : y ≤ d) : ((mulS a b c d).1 ≤ IntKind.i64.wrap (x * y) ∧ IntKind.i64.wrap (x * y) ≤ (mulS a b c d).2.1) ∧ ((mulS a b c d).2.2 = true → fit (x * y)) := by
  have hb := mul_box h1 h2 h3 h4
  unfold mulS
  rw [if_neg (by omega)]
  by_cases hf : fit (a * c) ∧ fit (a * d) ∧ fit (b * c) ∧ fit (b * d)
  · rw [if_pos hf]
    unfold fit at hf
    have hxy : fit (x * y) := by unfold fit; omega
    rw [wi_id hxy.1 hxy.2]
    exact ⟨hb, fun _ => hxy⟩
  · rw [if_neg hf]
    by_cases e : a = b ∧ c = d
    · rw [if_pos e]
      have ex : x = a := by omega
      have ey : y = c := by omega
      subst ex ey
      exact ⟨⟨Int.le_refl _, Int.le_refl _⟩, fun h => by simp at h⟩
    · rw [if_neg e]
      exact ⟨⟨wi_lo _, wi_hi _⟩, fun h => by simp at h⟩
theorem div_in {a b c d x y : Int} (ha : I64 a) (hb : I64 b) (hc : I64 c) (hd : I64 d) (h1 : a ≤ x) (h2 : x ≤ b) (h3 : c ≤ y) (h4 : y ≤ d) (hy : y ≠ 0) :
    ((ival_Div a b c d).1 ≤ (if x = -9223372036854775808 ∧ y = -1 then -9223372036854775808 else x.tdiv y) ∧ (if x = -9223372036854775808 ∧ y = -1 then -9223372036854775808 else x.tdiv y) ≤ (ival_Div a b c d).2.1) ∧ ((ival_Div a b c d).2.2 = true → ¬ (x = -9223372036854775808 ∧ y = -1)) := by
  obtain ⟨p1, p2⟩ := ival_Div_s ha hb hc hd (by omega) (by omega)
  have hq : Q a b c d (if x = -9223372036854775808 ∧ y = -1 then -9223372036854775808 else x.tdiv y) := ⟨x, y, h1, h2, h3, h4, hy, rfl⟩
  refine ⟨?_, fun h e => ?_⟩
  · rcases p1 with ⟨_, h⟩ | ⟨_, _, h⟩
    · exact absurd hq (h _)
    · exact h _ hq
  · rw [p2] at h
    simp only [Bool.not_eq_true', decide_eq_false_iff_not] at h
    exact h ⟨by omega, by omega⟩
end Go.Proofs.YtbbplkdjcgdaaaaDoor.V
