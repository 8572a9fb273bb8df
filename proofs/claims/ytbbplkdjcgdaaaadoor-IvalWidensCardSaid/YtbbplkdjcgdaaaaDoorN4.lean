/- Sums, differences and products of intervals: the program's are the document's. Conditions: none. -/
import Derived.Test.YtbbplkdjcgdaaaaDoorN3
set_option linter.unusedVariables false
set_option linter.unusedSimpArgs false
namespace Go.Proofs.YtbbplkdjcgdaaaaDoor.V
open Go Go.Wk

theorem none_s (a b : Int) : ival_none a b = decide (b < a) := by unfold ival_none ival_none.c; rfl
theorem empty_s (a b : Int) : ref_Empty a b = decide (b < a) := by unfold ref_Empty ref_Empty.c; rfl
theorem None_s : ref_None = (1, 0) := rfl
theorem word_Add_s (a b : Int) : word_Add a b = IntKind.i64.wrap (a + b) := by
  unfold word_Add word_Add.c; (try unfold word_Add.c0); simp only [id, wi_eq, wu_eq]; omega
theorem word_Sub_s (a b : Int) : word_Sub a b = IntKind.i64.wrap (a - b) := by
  unfold word_Sub word_Sub.c; (try unfold word_Sub.c0); simp only [id, wi_eq, wu_eq]; omega
/-- how many times 2^64 a number lies away from what it wraps to -/
def cnt (z : Int) : Int := (z + 9223372036854775808) / 18446744073709551616
theorem beyond_s {a b : Int} (ha : I64 a) (hb : I64 b) : ival_beyond a b = cnt (a + b) := by
  unfold I64 at ha hb
  unfold ival_beyond ival_beyond.c ival_beyond.c0
  simp only [id, word_Add_s, wi_eq, Bool.cond_decide, cnt]
  (repeat' split) <;> omega
theorem short_s {a b : Int} (ha : I64 a) (hb : I64 b) : ival_short a b = cnt (a - b) := by
  unfold I64 at ha hb
  unfold ival_short ival_short.c ival_short.c0
  simp only [id, word_Sub_s, wi_eq, Bool.cond_decide, cnt]
  (repeat' split) <;> omega
def span_s (x y : Int) : Int × Int × Bool := if cnt x = cnt y then (IntKind.i64.wrap x, IntKind.i64.wrap y, decide (cnt x = 0)) else (-9223372036854775808, 9223372036854775807, false)
theorem shifted_s (x y : Int) : ival_shifted (IntKind.i64.wrap x) (IntKind.i64.wrap y) (cnt x) (cnt y) = span_s x y := by
  unfold ival_shifted ival_shifted.c span_s
  by_cases h : cnt x = cnt y
  · have e : (cnt x != cnt y) = false := by simp [h]
    rw [e, if_pos h]
    simp only [cond_false, id]
    congr 2
  · have e : (cnt x != cnt y) = true := by simp [h]
    rw [e, if_neg h]
    simp only [cond_true, id]
theorem ref_span_s {x y : Int} (hxy : x ≤ y) (hx : -18446744073709551616 ≤ x) (hy : y ≤ 18446744073709551616) : ref_span (hi x) (lo x) (hi y) (lo y) = span_s x y := by
  have hm : ref_minus (hi y) (lo y) (hi x) (lo x) = (hi (y - x), lo (y - x)) := by
    rw [ref_minus_s (by unfold I128; omega) (by unfold I128; omega), w128_id (by unfold I128; omega)]
  have w1 : ∀ z, IntKind.i64.wrap (lo z) = IntKind.i64.wrap z := fun z => by unfold lo; simp only [wi_eq]; omega
  unfold ref_span ref_span.c ref_span.c0 span_s
  simp only [ref_Fits_s, hm, w1, empty_s, id]
  have key : ∀ (b : Bool) (p : Prop) [Decidable p], (b = true ↔ p) → ∀ {α : Type} (X Y : α), (bif b then X else Y) = if p then X else Y := by
    intro b p _ h α X Y
    by_cases hp : p
    · rw [if_pos hp, h.2 hp]; rfl
    · rw [if_neg hp]; cases b with
      | true => exact absurd (h.1 rfl) hp
      | false => rfl
  have e2 : ∀ {α : Type} (X Y : α), (bif (lo (y - x) == 18446744073709551615) then X else Y) = if lo (y - x) = 18446744073709551615 then X else Y := fun X Y => key _ _ (by simp) X Y
  simp only [Bool.cond_decide, e2]
  have d1 : hi (y - x) = (y - x) / 18446744073709551616 := rfl
  have d2 : lo (y - x) = (y - x) % 18446744073709551616 := rfl
  have d3 : cnt x = (x + 9223372036854775808) / 18446744073709551616 := rfl
  have d4 : cnt y = (y + 9223372036854775808) / 18446744073709551616 := rfl
  by_cases f1 : -9223372036854775808 ≤ x ∧ x ≤ 9223372036854775807
  · rw [if_pos f1]
    by_cases f2 : -9223372036854775808 ≤ y ∧ y ≤ 9223372036854775807
    · rw [if_pos f2, if_pos (show cnt x = cnt y by omega), decide_eq_true (show cnt x = 0 by omega)]
    · rw [if_neg f2, if_neg (show ¬ cnt x = cnt y by omega)]
      split
      · rfl
      · split
        · rfl
        · split
          · rfl
          · rename_i g1 g2 g3
            simp only [wi_eq] at g3
            omega
  · rw [if_neg f1]
    by_cases hc : cnt x = cnt y
    · rw [if_pos hc, decide_eq_false (show ¬ cnt x = 0 by omega)]
      split
      · omega
      · split
        · simp only [wi_eq, Prod.mk.injEq, and_true]; constructor <;> omega
        · split
          · rename_i g1 g2 g3
            simp only [wi_eq] at g3
            omega
          · rfl
    · rw [if_neg hc]
      split
      · rfl
      · split
        · rfl
        · split
          · rfl
          · rename_i g1 g2 g3
            simp only [wi_eq] at g3
            omega
theorem add_eq {a b c d : Int} (ha : I64 a) (hb : I64 b) (hc : I64 c) (hd : I64 d) : ival_Add a b c d = ref_Add a b c d := by
  unfold ival_Add ival_Add.c ival_Add.c0 ref_Add ref_Add.c ref_Add.c0
  simp only [none_s, empty_s, None_s, id, Bool.cond_decide]
  by_cases h1 : b < a
  · simp only [h1, if_true]
  · by_cases h2 : d < c
    · simp only [h1, h2, if_true, if_false]
    · simp only [h1, h2, if_false]
      rw [ref_Of_s ha, ref_Of_s hb, ref_Of_s hc, ref_Of_s hd]
      unfold I64 at ha hb hc hd
      simp only
      rw [ref_plus_s (by unfold I128; omega) (by unfold I128; omega), ref_plus_s (by unfold I128; omega) (by unfold I128; omega), w128_id (by unfold I128; omega), w128_id (by unfold I128; omega)]
      simp only
      rw [ref_span_s (by omega) (by omega) (by omega), word_Add_s, word_Add_s, beyond_s (by unfold I64; omega) (by unfold I64; omega), beyond_s (by unfold I64; omega) (by unfold I64; omega), shifted_s]
theorem sub_eq {a b c d : Int} (ha : I64 a) (hb : I64 b) (hc : I64 c) (hd : I64 d) : ival_Sub a b c d = ref_Sub a b c d := by
  unfold ival_Sub ival_Sub.c ival_Sub.c0 ref_Sub ref_Sub.c ref_Sub.c0
  simp only [none_s, empty_s, None_s, id, Bool.cond_decide]
  by_cases h1 : b < a
  · simp only [h1, if_true]
  · by_cases h2 : d < c
    · simp only [h1, h2, if_true, if_false]
    · simp only [h1, h2, if_false]
      rw [ref_Of_s ha, ref_Of_s hb, ref_Of_s hc, ref_Of_s hd]
      unfold I64 at ha hb hc hd
      simp only
      rw [ref_minus_s (by unfold I128; omega) (by unfold I128; omega), ref_minus_s (by unfold I128; omega) (by unfold I128; omega), w128_id (by unfold I128; omega), w128_id (by unfold I128; omega)]
      simp only
      rw [ref_span_s (by omega) (by omega) (by omega), word_Sub_s, word_Sub_s, short_s (by unfold I64; omega) (by unfold I64; omega), short_s (by unfold I64; omega) (by unfold I64; omega), shifted_s]
theorem neg_eq {a b : Int} (ha : I64 a) (hb : I64 b) : ival_Neg a b = ref_Neg a b := by
  unfold ival_Neg ival_Neg.c ival_Neg.c0
  rw [sub_eq (by unfold I64; omega) (by unfold I64; omega) ha hb]
  unfold ref_Sub ref_Sub.c ref_Sub.c0 ref_Neg ref_Neg.c ref_Neg.c0
  simp only [empty_s, None_s, id, Bool.cond_decide]
  have e : ref_Of 0 = (0, 0) := rfl
  by_cases h1 : b < a
  · simp [h1]
  · simp [h1, e]
end Go.Proofs.YtbbplkdjcgdaaaaDoor.V
