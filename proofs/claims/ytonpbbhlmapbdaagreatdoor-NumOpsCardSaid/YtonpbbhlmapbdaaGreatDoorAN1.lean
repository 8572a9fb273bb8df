/- Numbers of two words, products and sums of intervals. Conditions: none. -/
import Derived.Test.YtonpbbhlmapbdaaGreatDoorBN1
set_option linter.unusedVariables false
set_option linter.unusedSimpArgs false
namespace Go.Proofs.YtonpbbhlmapbdaaGreatDoor.V.A
open Go Go.Wk
theorem sh63 (x : Int) : x.fdiv (2 ^ min (Int.toNat 63) IntKind.i64.bits) = x / 9223372036854775808 := by
  have e : (2 : Int) ^ min (Int.toNat 63) IntKind.i64.bits = 9223372036854775808 := by decide
  rw [e, Int.fdiv_eq_ediv_of_nonneg _ (by omega)]
def w128 (z : Int) : Int := (z + 170141183460469231731687303715884105728) % 340282366920938463463374607431768211456 - 170141183460469231731687303715884105728
def I128 (z : Int) : Prop := -170141183460469231731687303715884105728 ≤ z ∧ z < 170141183460469231731687303715884105728
def hi (z : Int) : Int := z / 18446744073709551616
def lo (z : Int) : Int := z % 18446744073709551616
theorem w128_I (z : Int) : I128 (w128 z) := by unfold I128 w128; omega
theorem w128_id {z : Int} (h : I128 z) : w128 z = z := by unfold I128 at h; unfold w128; omega
theorem w128_add (x y : Int) : w128 (w128 x + w128 y) = w128 (x + y) := by unfold w128; omega
theorem w128_sub (x y : Int) : w128 (w128 x - w128 y) = w128 (x - y) := by unfold w128; omega
theorem ref_Of_s {a : Int} (h : I64 a) : ref_Of a = (hi a, lo a) := by
  unfold I64 at h
  unfold ref_Of ref_Of.c ref_Of.c0 hi lo
  simp only [id, sh63, wu_eq, Prod.mk.injEq, and_true]
  omega
theorem ref_plus_s {x y : Int} (hx : I128 x) (hy : I128 y) : ref_plus (hi x) (lo x) (hi y) (lo y) = (hi (w128 (x + y)), lo (w128 (x + y))) := by
  unfold I128 at hx hy
  unfold ref_plus ref_plus.c ref_plus.c0 hi lo w128
  simp only [id, wu_eq, wi_eq]
  by_cases h : (x % 18446744073709551616 + y % 18446744073709551616) % 18446744073709551616 < x % 18446744073709551616
  · simp only [h, decide_true, cond_true, Prod.mk.injEq]; constructor <;> omega
  · simp only [h, decide_false, cond_false, Prod.mk.injEq]; constructor <;> omega
theorem ref_minus_s {x y : Int} (hx : I128 x) (hy : I128 y) : ref_minus (hi x) (lo x) (hi y) (lo y) = (hi (w128 (x - y)), lo (w128 (x - y))) := by
  unfold I128 at hx hy
  unfold ref_minus ref_minus.c ref_minus.c0 hi lo w128
  simp only [id, wu_eq, wi_eq]
  by_cases h : x % 18446744073709551616 < y % 18446744073709551616
  · simp only [h, decide_true, cond_true, Prod.mk.injEq]; constructor <;> omega
  · simp only [h, decide_false, cond_false, Prod.mk.injEq]; constructor <;> omega
theorem ref_less_s (x y : Int) : ref_less (hi x) (lo x) (hi y) (lo y) = decide (x < y) := by
  unfold ref_less ref_less.c hi lo
  by_cases h : x / 18446744073709551616 < y / 18446744073709551616
  · simp only [h, decide_true, cond_true, id]; symm; rw [decide_eq_true_eq]; omega
  · simp only [h, decide_false, cond_false]
    by_cases h2 : x / 18446744073709551616 = y / 18446744073709551616
    · have e : (x / 18446744073709551616 == y / 18446744073709551616) = true := by simpa using h2
      simp only [e, cond_true, id]
      congr 1; apply propext; omega
    · have e : (x / 18446744073709551616 == y / 18446744073709551616) = false := by simpa using h2
      simp only [e, cond_false, id]; symm; rw [decide_eq_false_iff_not]; omega
theorem ref_Fits_s (x : Int) : ref_Fits (hi x) (lo x) = decide (-9223372036854775808 ≤ x ∧ x ≤ 9223372036854775807) := by
  unfold ref_Fits ref_Fits.c ref_Fits.c0 hi lo
  simp only [id, sh63, wi_eq]
  rw [Bool.eq_iff_iff]
  simp only [beq_iff_eq, decide_eq_true_eq]
  omega
open Go Go.Wk
theorem bitU (U i : Nat) (hi : i < 64) : andI IntKind.u64 ((U : Int).fdiv (2 ^ min (Int.toNat (i : Int)) IntKind.u64.bits)) 1 = ((U / 2 ^ i % 2 : Nat) : Int) := by
  rw [B.and_one]
  have e : min (Int.toNat (i : Int)) IntKind.u64.bits = i := by
    have : IntKind.u64.bits = 64 := rfl
    rw [this, Int.toNat_natCast]; omega
  have hp : (0 : Int) ≤ 2 ^ i := by exact_mod_cast Nat.zero_le (2 ^ i)
  rw [e, Int.fdiv_eq_ediv_of_nonneg _ hp]
  have e2 : (U : Int) / 2 ^ i = ((U / 2 ^ i : Nat) : Int) := by push_cast; rfl
  rw [e2]
  omega
theorem mod_succ (U i : Nat) : ((U % 2 ^ (i + 1) : Nat) : Int) = ((U % 2 ^ i : Nat) : Int) + ((2 ^ i : Nat) : Int) * ((U / 2 ^ i % 2 : Nat) : Int) := by
  rw [← Int.natCast_mul, ← Int.natCast_add, Nat.mod_pow_succ]
/-- the sum after so many bits -/
def part (a b : Int) (U i : Nat) : Int := if i ≤ 63 then a * ((U % 2 ^ i : Nat) : Int) else a * b
theorem Times_loop (N : Nat) (a b : Int) (hb : I64 b) (U : Nat) (hU : (U : Int) = b % 18446744073709551616) : ∀ (m i : Nat) (p r : Int), m + i = 64 →
    ref_Times.L0 N (m + 1) ((U : Int), (i : Int), p, r, hi (w128 (a * ((2 ^ i : Nat) : Int))), lo (w128 (a * ((2 ^ i : Nat) : Int))), hi (w128 (part a b U i)), lo (w128 (part a b U i))) = some (hi (w128 (a * b)), lo (w128 (a * b)))
  | 0, i, p, r, hm => by
    have hi' : i = 64 := by omega
    subst hi'
    have h1 : decide (((64 : Nat) : Int) < 64) = false := by decide
    have h2 : part a b U 64 = a * b := rfl
    simp only [ref_Times.L0, ref_Times.l0.c, ref_Times.l0.c0, h1, cond_false, h2]
  | m + 1, i, p, r, hm => by
    have h1 : decide ((i : Int) < 64) = true := by simp; omega
    have h2 : decide ((i : Int) < 0) = false := by simp
    have h3 : IntKind.i64.wrap ((i : Int) + 1) = ((i + 1 : Nat) : Int) := by rw [wi_id (by omega) (by omega)]; omega
    have hx : ref_plus (hi (w128 (a * ((2 ^ i : Nat) : Int)))) (lo (w128 (a * ((2 ^ i : Nat) : Int)))) (hi (w128 (a * ((2 ^ i : Nat) : Int)))) (lo (w128 (a * ((2 ^ i : Nat) : Int)))) = (hi (w128 (a * ((2 ^ (i + 1) : Nat) : Int))), lo (w128 (a * ((2 ^ (i + 1) : Nat) : Int)))) := by
      rw [ref_plus_s (w128_I _) (w128_I _), w128_add]
      have : a * ((2 ^ i : Nat) : Int) + a * ((2 ^ i : Nat) : Int) = a * ((2 ^ (i + 1) : Nat) : Int) := by rw [← Int.mul_add]; congr 1; rw [Nat.pow_succ]; omega
      rw [this]
    have ih := Times_loop N a b hb U hU m (i + 1) p r (by omega)
    have hsucc : a * ((U % 2 ^ (i + 1) : Nat) : Int) = a * ((U % 2 ^ i : Nat) : Int) + a * ((2 ^ i : Nat) : Int) * ((U / 2 ^ i % 2 : Nat) : Int) := by rw [mod_succ, Int.mul_add, Int.mul_assoc]
    have hp0 : part a b U i = a * ((U % 2 ^ i : Nat) : Int) := by unfold part; rw [if_pos (by omega)]
    rw [ref_Times.L0]
    simp only [ref_Times.l0.c, ref_Times.l0.c0, h1, h2, h3, cond_true, Bool.not_false, bitU U i (by omega), hx, hp0]
    have hbit : U / 2 ^ i % 2 = 0 ∨ U / 2 ^ i % 2 = 1 := by omega
    by_cases h63 : i = 63
    · subst h63
      have hfin : part a b U 64 = a * b := rfl
      have hbv : b = ((U % 2 ^ 63 : Nat) : Int) - ((2 ^ 63 : Nat) : Int) * ((U / 2 ^ 63 % 2 : Nat) : Int) := by unfold I64 at hb; omega
      have hab : a * b = a * ((U % 2 ^ 63 : Nat) : Int) - a * ((2 ^ 63 : Nat) : Int) * ((U / 2 ^ 63 % 2 : Nat) : Int) := by
        conv => lhs; rw [hbv]
        rw [Int.mul_sub, Int.mul_assoc]
      have e63 : (((63 : Nat) : Int) == 63) = true := by decide
      rcases hbit with h0 | h0
      · have e0 : (((U / 2 ^ 63 % 2 : Nat) : Int) == 1) = false := by rw [h0]; decide
        rw [e0, cond_false]
        rw [h0] at hab
        have : a * ((U % 2 ^ 63 : Nat) : Int) = part a b U 64 := by rw [hfin, hab]; simp
        rw [this]
        exact ih
      · have e0 : (((U / 2 ^ 63 % 2 : Nat) : Int) == 1) = true := by rw [h0]; decide
        rw [e0, cond_true, e63, cond_true]
        rw [ref_minus_s (w128_I _) (w128_I _), w128_sub]
        rw [h0] at hab
        have : a * ((U % 2 ^ 63 : Nat) : Int) - a * ((2 ^ 63 : Nat) : Int) = part a b U 64 := by rw [hfin, hab]; simp
        rw [this]
        exact ih
    · have hfin : part a b U (i + 1) = a * ((U % 2 ^ (i + 1) : Nat) : Int) := by unfold part; rw [if_pos (by omega)]
      have e63 : ((i : Int) == 63) = false := by simp; omega
      rcases hbit with h0 | h0
      · have e0 : (((U / 2 ^ i % 2 : Nat) : Int) == 1) = false := by rw [h0]; decide
        rw [e0, cond_false]
        rw [h0] at hsucc
        have : a * ((U % 2 ^ i : Nat) : Int) = part a b U (i + 1) := by rw [hfin, hsucc]; simp
        rw [this]
        exact ih
      · have e0 : (((U / 2 ^ i % 2 : Nat) : Int) == 1) = true := by rw [h0]; decide
        rw [e0, cond_true, e63, cond_false]
        rw [ref_plus_s (w128_I _) (w128_I _), w128_add]
        rw [h0] at hsucc
        have : a * ((U % 2 ^ i : Nat) : Int) + a * ((2 ^ i : Nat) : Int) = part a b U (i + 1) := by rw [hfin, hsucc]; simp
        rw [this]
        exact ih
theorem mul_I {a b : Int} (ha : I64 a) (hb : I64 b) : -85070591730234615865843651857942052864 ≤ a * b ∧ a * b ≤ 85070591730234615865843651857942052864 := by
  unfold I64 at ha hb
  have h1 : a.natAbs ≤ 9223372036854775808 := by omega
  have h2 : b.natAbs ≤ 9223372036854775808 := by omega
  have h3 := Nat.mul_le_mul h1 h2
  rw [← Int.natAbs_mul] at h3
  omega
theorem ref_Times_s {a b : Int} (ha : I64 a) (hb : I64 b) : ref_Times a b = (hi (a * b), lo (a * b)) := by
  have hm := mul_I ha hb
  have hw : w128 (a * b) = a * b := w128_id (by unfold I128; omega)
  have ho : ref_Times.o 65 a b = some (hi (a * b), lo (a * b)) := by
    unfold ref_Times.o ref_Times.c ref_Times.c0
    simp only [ref_Of_s ha, wu_eq]
    have hU : (((b % 18446744073709551616).toNat : Nat) : Int) = b % 18446744073709551616 := by omega
    have h := Times_loop 65 a b hb (b % 18446744073709551616).toNat hU 64 0 0 0 rfl
    rw [hw, hU] at h
    have e1 : w128 (a * ((2 ^ 0 : Nat) : Int)) = a := by
      have : a * ((2 ^ 0 : Nat) : Int) = a := by simp
      rw [this]; exact w128_id (by unfold I64 at ha; unfold I128; omega)
    have e2 : w128 (part a b (b % 18446744073709551616).toNat 0) = 0 := by
      have : part a b (b % 18446744073709551616).toNat 0 = 0 := by unfold part; simp [Nat.mod_one]
      rw [this]; rfl
    rw [e1, e2] at h
    exact h
  unfold ref_Times
  rw [ho]; rfl
open Go Go.Wk
theorem sh32 (x : Int) : x.fdiv (2 ^ min (Int.toNat 32) IntKind.u64.bits) = x / 4294967296 := by
  have e : (2 : Int) ^ min (Int.toNat 32) IntKind.u64.bits = 4294967296 := by decide
  rw [e, Int.fdiv_eq_ediv_of_nonneg _ (by omega)]
theorem bits_Mul64_s {a b : Int} (ha : U64 a) (hb : U64 b) : bits_Mul64 a b = (a * b / 18446744073709551616, a * b % 18446744073709551616) := B.bits_Mul64_s ha hb
theorem word_Wide_s {a b : Int} (ha : I64 a) (hb : I64 b) : word_Wide a b = (hi (a * b), lo (a * b)) := by
  have hm := mul_I ha hb
  unfold word_Wide word_Wide.c word_Wide.c0
  have hu : ∀ x : Int, U64 (IntKind.u64.wrap x) := fun x => ⟨wu_lo x, wu_hi x⟩
  simp only [id, bits_Mul64_s (hu a) (hu b)]
  unfold I64 at ha hb
  simp only [wu_eq, wi_eq, hi, lo, Bool.cond_decide]
  have ea : a % 18446744073709551616 = if a < 0 then a + 18446744073709551616 else a := by split <;> omega
  have eb : b % 18446744073709551616 = if b < 0 then b + 18446744073709551616 else b := by split <;> omega
  rw [ea, eb]
  by_cases h1 : a < 0 <;> by_cases h2 : b < 0
  · simp only [h1, h2, if_true]
    have e : (a + 18446744073709551616) * (b + 18446744073709551616) = a * b + 18446744073709551616 * (a + b + 18446744073709551616) := by rw [Int.add_mul, Int.mul_add, Int.mul_comm a 18446744073709551616]; omega
    rw [e]; generalize a * b = p at *
    simp only [Prod.mk.injEq]; constructor <;> omega
  · simp only [h1, h2, if_true, if_false]
    have e : (a + 18446744073709551616) * b = a * b + 18446744073709551616 * b := by rw [Int.add_mul]
    rw [e]; generalize a * b = p at *
    simp only [Prod.mk.injEq]; constructor <;> omega
  · simp only [h1, h2, if_true, if_false]
    have e : a * (b + 18446744073709551616) = a * b + 18446744073709551616 * a := by rw [Int.mul_add, Int.mul_comm a 18446744073709551616]
    rw [e]; generalize a * b = p at *
    simp only [Prod.mk.injEq]; constructor <;> omega
  · simp only [h1, h2, if_false]
    generalize a * b = p at *
    simp only [Prod.mk.injEq]; constructor
    · omega
    · trivial
theorem word_Mul_s {a b : Int} : word_Mul a b = IntKind.i64.wrap (a * b) := by
  unfold word_Mul word_Mul.c word_Mul.c0
  simp only [id, wu_eq, wi_eq]
  have e : (a % 18446744073709551616) * (b % 18446744073709551616) % 18446744073709551616 = a * b % 18446744073709551616 := by rw [← Int.mul_emod]
  rw [e]; omega
/-- the program's word: does a product fit -/
theorem fit_s (p : Int) : (hi p == (IntKind.i64.wrap (lo p)).fdiv (2 ^ min (Int.toNat 63) IntKind.i64.bits)) = decide (-9223372036854775808 ≤ p ∧ p ≤ 9223372036854775807) := ref_Fits_s p
open Go Go.Wk
theorem none_s (a b : Int) : ival_none a b = decide (b < a) := by unfold ival_none ival_none.c; rfl
theorem empty_s (a b : Int) : ref_Empty a b = decide (b < a) := by unfold ref_Empty ref_Empty.c; rfl
theorem None_s : ref_None = (1, 0) := rfl
theorem word_Add_s (a b : Int) : word_Add a b = IntKind.i64.wrap (a + b) := by
  unfold word_Add word_Add.c; (try unfold word_Add.c0); simp only [id, wi_eq, wu_eq]; omega
theorem word_Sub_s (a b : Int) : word_Sub a b = IntKind.i64.wrap (a - b) := by
  unfold word_Sub word_Sub.c; (try unfold word_Sub.c0); simp only [id, wi_eq, wu_eq]; omega
/-- how many times 2^64 a number lies away from what it wraps to -/
def cnt (z : Int) : Int := (z + 9223372036854775808) / 18446744073709551616
theorem beyond_s {a b : Int} (ha : I64 a) (hb : I64 b) : ival_beyond a b = cnt (a + b) := by
  unfold I64 at ha hb
  unfold ival_beyond ival_beyond.c ival_beyond.c0
  simp only [id, word_Add_s, wi_eq, Bool.cond_decide, cnt]
  (repeat' split) <;> omega
theorem short_s {a b : Int} (ha : I64 a) (hb : I64 b) : ival_short a b = cnt (a - b) := by
  unfold I64 at ha hb
  unfold ival_short ival_short.c ival_short.c0
  simp only [id, word_Sub_s, wi_eq, Bool.cond_decide, cnt]
  (repeat' split) <;> omega
def span_s (x y : Int) : Int × Int × Bool := if cnt x = cnt y then (IntKind.i64.wrap x, IntKind.i64.wrap y, decide (cnt x = 0)) else (-9223372036854775808, 9223372036854775807, false)
theorem shifted_s (x y : Int) : ival_shifted (IntKind.i64.wrap x) (IntKind.i64.wrap y) (cnt x) (cnt y) = span_s x y := by
  unfold ival_shifted ival_shifted.c span_s
  by_cases h : cnt x = cnt y
  · have e : (cnt x != cnt y) = false := by simp [h]
    rw [e, if_pos h]
    simp only [cond_false, id]
    congr 2
  · have e : (cnt x != cnt y) = true := by simp [h]
    rw [e, if_neg h]
    simp only [cond_true, id]
theorem ref_span_s {x y : Int} (hxy : x ≤ y) (hx : -18446744073709551616 ≤ x) (hy : y ≤ 18446744073709551616) : ref_span (hi x) (lo x) (hi y) (lo y) = span_s x y := by
  have hm : ref_minus (hi y) (lo y) (hi x) (lo x) = (hi (y - x), lo (y - x)) := by
    rw [ref_minus_s (by unfold I128; omega) (by unfold I128; omega), w128_id (by unfold I128; omega)]
  have w1 : ∀ z, IntKind.i64.wrap (lo z) = IntKind.i64.wrap z := fun z => by unfold lo; simp only [wi_eq]; omega
  unfold ref_span ref_span.c ref_span.c0 span_s
  simp only [ref_Fits_s, hm, w1, empty_s, id]
  have key : ∀ (b : Bool) (p : Prop) [Decidable p], (b = true ↔ p) → ∀ {α : Type} (X Y : α), (bif b then X else Y) = if p then X else Y := by
    intro b p _ h α X Y
    by_cases hp : p
    · rw [if_pos hp, h.2 hp]; rfl
    · rw [if_neg hp]; cases b with
      | true => exact absurd (h.1 rfl) hp
      | false => rfl
  have e2 : ∀ {α : Type} (X Y : α), (bif (lo (y - x) == 18446744073709551615) then X else Y) = if lo (y - x) = 18446744073709551615 then X else Y := fun X Y => key _ _ (by simp) X Y
  simp only [Bool.cond_decide, e2]
  have d1 : hi (y - x) = (y - x) / 18446744073709551616 := rfl
  have d2 : lo (y - x) = (y - x) % 18446744073709551616 := rfl
  have d3 : cnt x = (x + 9223372036854775808) / 18446744073709551616 := rfl
  have d4 : cnt y = (y + 9223372036854775808) / 18446744073709551616 := rfl
  by_cases f1 : -9223372036854775808 ≤ x ∧ x ≤ 9223372036854775807
  · rw [if_pos f1]
    by_cases f2 : -9223372036854775808 ≤ y ∧ y ≤ 9223372036854775807
    · rw [if_pos f2, if_pos (show cnt x = cnt y by omega), decide_eq_true (show cnt x = 0 by omega)]
    · rw [if_neg f2, if_neg (show ¬ cnt x = cnt y by omega)]
      split
      · rfl
      · split
        · rfl
        · split
          · rfl
          · rename_i g1 g2 g3
            simp only [wi_eq] at g3
            omega
  · rw [if_neg f1]
    by_cases hc : cnt x = cnt y
    · rw [if_pos hc, decide_eq_false (show ¬ cnt x = 0 by omega)]
      split
      · omega
      · split
        · simp only [wi_eq, Prod.mk.injEq, and_true]; constructor <;> omega
        · split
          · rename_i g1 g2 g3
            simp only [wi_eq] at g3
            omega
          · rfl
    · rw [if_neg hc]
      split
      · rfl
      · split
        · rfl
        · split
          · rfl
          · rename_i g1 g2 g3
            simp only [wi_eq] at g3
            omega
theorem add_eq {a b c d : Int} (ha : I64 a) (hb : I64 b) (hc : I64 c) (hd : I64 d) : ival_Add a b c d = ref_Add a b c d := by
  unfold ival_Add ival_Add.c ival_Add.c0 ref_Add ref_Add.c ref_Add.c0
  simp only [none_s, empty_s, None_s, id, Bool.cond_decide]
  by_cases h1 : b < a
  · simp only [h1, if_true]
  · by_cases h2 : d < c
    · simp only [h1, h2, if_true, if_false]
    · simp only [h1, h2, if_false]
      rw [ref_Of_s ha, ref_Of_s hb, ref_Of_s hc, ref_Of_s hd]
      unfold I64 at ha hb hc hd
      simp only
      rw [ref_plus_s (by unfold I128; omega) (by unfold I128; omega), ref_plus_s (by unfold I128; omega) (by unfold I128; omega), w128_id (by unfold I128; omega), w128_id (by unfold I128; omega)]
      simp only
      rw [ref_span_s (by omega) (by omega) (by omega), word_Add_s, word_Add_s, beyond_s (by unfold I64; omega) (by unfold I64; omega), beyond_s (by unfold I64; omega) (by unfold I64; omega), shifted_s]
theorem sub_eq {a b c d : Int} (ha : I64 a) (hb : I64 b) (hc : I64 c) (hd : I64 d) : ival_Sub a b c d = ref_Sub a b c d := by
  unfold ival_Sub ival_Sub.c ival_Sub.c0 ref_Sub ref_Sub.c ref_Sub.c0
  simp only [none_s, empty_s, None_s, id, Bool.cond_decide]
  by_cases h1 : b < a
  · simp only [h1, if_true]
  · by_cases h2 : d < c
    · simp only [h1, h2, if_true, if_false]
    · simp only [h1, h2, if_false]
      rw [ref_Of_s ha, ref_Of_s hb, ref_Of_s hc, ref_Of_s hd]
      unfold I64 at ha hb hc hd
      simp only
      rw [ref_minus_s (by unfold I128; omega) (by unfold I128; omega), ref_minus_s (by unfold I128; omega) (by unfold I128; omega), w128_id (by unfold I128; omega), w128_id (by unfold I128; omega)]
      simp only
      rw [ref_span_s (by omega) (by omega) (by omega), word_Sub_s, word_Sub_s, short_s (by unfold I64; omega) (by unfold I64; omega), short_s (by unfold I64; omega) (by unfold I64; omega), shifted_s]
theorem neg_eq {a b : Int} (ha : I64 a) (hb : I64 b) : ival_Neg a b = ref_Neg a b := by
  unfold ival_Neg ival_Neg.c ival_Neg.c0
  rw [sub_eq (by unfold I64; omega) (by unfold I64; omega) ha hb]
  unfold ref_Sub ref_Sub.c ref_Sub.c0 ref_Neg ref_Neg.c ref_Neg.c0
  simp only [empty_s, None_s, id, Bool.cond_decide]
  have e : ref_Of 0 = (0, 0) := rfl
  by_cases h1 : b < a
  · simp [h1]
  · simp [h1, e]
open Go Go.Wk
def jn (a b c d : Int) : Int × Int := if b < a then (if d < c then (1, 0) else (c, d)) else if d < c then (a, b) else (if c < a then c else a, if d > b then d else b)
theorem ij_s (a b c d : Int) : ival_Join a b c d = jn a b c d := by
  unfold ival_Join ival_Join.c ival_Join.c0 jn
  simp only [none_s, id, Bool.cond_decide]
  by_cases h1 : b < a <;> by_cases h2 : d < c <;> simp [h1, h2]
theorem rj_s (a b c d : Int) : ref_Join a b c d = jn a b c d := by
  unfold ref_Join ref_Join.c ref_Join.c0 ref_normal ref_normal.c ref_normal.c0 jn
  simp only [empty_s, None_s, id, Bool.cond_decide]
theorem jn_1 (v : Int) : jn 1 0 v v = (v, v) := by unfold jn; simp
theorem jn_p {l h : Int} (v : Int) (hl : l ≤ h) : jn l h v v = (min l v, max h v) := by
  unfold jn; rw [if_neg (by omega), if_neg (by omega), Prod.mk.injEq]
  constructor <;> split <;> omega
def mt (a b c d : Int) : Int × Int := if (if d < b then d else b) < (if c > a then c else a) then (1, 0) else (if c > a then c else a, if d < b then d else b)
theorem rm_s (a b c d : Int) : ref_Meet a b c d = mt a b c d := by
  unfold ref_Meet ref_Meet.c ref_Meet.c0 ref_normal ref_normal.c ref_normal.c0 mt
  simp only [empty_s, None_s, id, Bool.cond_decide]
theorem im_s (a b c d : Int) : ival_Meet a b c d = mt a b c d := by
  unfold ival_Meet ival_Meet.c ival_Meet.c0 mt
  simp only [none_s, id, Bool.cond_decide]
  by_cases h : (if d < b then d else b) < (if c > a then c else a)
  · simp only [if_pos h]; split <;> (try split) <;> rfl
  · have h1 : ¬ b < a := by intro h1; apply h; split <;> split <;> omega
    have h2 : ¬ d < c := by intro h1; apply h; split <;> split <;> omega
    simp only [h1, h2, if_neg h, if_false]
theorem bif_hi (x y : Int) (p : Prop) [Decidable p] : (bif decide p then hi x else hi y) = hi (if p then x else y) := by by_cases h : p <;> simp [h]
theorem bif_lo (x y : Int) (p : Prop) [Decidable p] : (bif decide p then lo x else lo y) = lo (if p then x else y) := by by_cases h : p <;> simp [h]
def fit (p : Int) : Prop := -9223372036854775808 ≤ p ∧ p ≤ 9223372036854775807
instance (p : Int) : Decidable (fit p) := inferInstanceAs (Decidable (_ ∧ _))
theorem wrap_lo (z : Int) : IntKind.i64.wrap (lo z) = IntKind.i64.wrap z := by unfold lo; simp only [wi_eq]; omega
/-- what both answer -/
def mulS (a b c d : Int) : Int × Int × Bool :=
  if b < a ∨ d < c then (1, 0, true)
  else if fit (a * c) ∧ fit (a * d) ∧ fit (b * c) ∧ fit (b * d) then (min (min (a * c) (a * d)) (min (b * c) (b * d)), max (max (a * c) (a * d)) (max (b * c) (b * d)), true)
  else if a = b ∧ c = d then (IntKind.i64.wrap (a * c), IntKind.i64.wrap (a * c), false)
  else (-9223372036854775808, 9223372036854775807, false)
theorem ref_Mul_s {a b c d : Int} (ha : I64 a) (hb : I64 b) (hc : I64 c) (hd : I64 d) : ref_Mul a b c d = mulS a b c d := by
  unfold ref_Mul ref_Mul.c ref_Mul.c0 mulS
  simp only [ref_Times_s ha hc, ref_Times_s ha hd, ref_Times_s hb hc, ref_Times_s hb hd, ref_less_s, bif_hi, bif_lo, ref_Fits_s, wrap_lo, empty_s, None_s, id]
  by_cases h1 : b < a
  · simp [h1]
  · by_cases h2 : d < c
    · simp [h1, h2]
    · simp only [h1, h2, decide_false, cond_false, or_self, if_false]
      have emin : (if b * d < (if b * c < (if a * d < a * c then a * d else a * c) then b * c else (if a * d < a * c then a * d else a * c)) then b * d else (if b * c < (if a * d < a * c then a * d else a * c) then b * c else (if a * d < a * c then a * d else a * c))) = min (min (a * c) (a * d)) (min (b * c) (b * d)) := by
        generalize a * c = p1; generalize a * d = p2; generalize b * c = p3; generalize b * d = p4
        (repeat' split) <;> omega
      have emax : (if (if (if a * c < a * d then a * d else a * c) < b * c then b * c else (if a * c < a * d then a * d else a * c)) < b * d then b * d else (if (if a * c < a * d then a * d else a * c) < b * c then b * c else (if a * c < a * d then a * d else a * c))) = max (max (a * c) (a * d)) (max (b * c) (b * d)) := by
        generalize a * c = p1; generalize a * d = p2; generalize b * c = p3; generalize b * d = p4
        (repeat' split) <;> omega
      rw [emin, emax]
      by_cases hf : fit (a * c) ∧ fit (a * d) ∧ fit (b * c) ∧ fit (b * d)
      · rw [if_pos hf]
        unfold fit at hf
        have f1 : (-9223372036854775808 ≤ min (min (a * c) (a * d)) (min (b * c) (b * d)) ∧ min (min (a * c) (a * d)) (min (b * c) (b * d)) ≤ 9223372036854775807) := by omega
        have f2 : (-9223372036854775808 ≤ max (max (a * c) (a * d)) (max (b * c) (b * d)) ∧ max (max (a * c) (a * d)) (max (b * c) (b * d)) ≤ 9223372036854775807) := by omega
        rw [decide_eq_true f1, decide_eq_true f2, wi_id f1.1 f1.2, wi_id f2.1 f2.2]
        rfl
      · rw [if_neg hf]
        have hcase : ∀ X Y : Int × Int × Bool, (bif decide (-9223372036854775808 ≤ min (min (a * c) (a * d)) (min (b * c) (b * d)) ∧ min (min (a * c) (a * d)) (min (b * c) (b * d)) ≤ 9223372036854775807) then (bif decide (-9223372036854775808 ≤ max (max (a * c) (a * d)) (max (b * c) (b * d)) ∧ max (max (a * c) (a * d)) (max (b * c) (b * d)) ≤ 9223372036854775807) then X else Y) else Y) = Y := by
          intro X Y
          unfold fit at hf
          by_cases f1 : (-9223372036854775808 ≤ min (min (a * c) (a * d)) (min (b * c) (b * d)) ∧ min (min (a * c) (a * d)) (min (b * c) (b * d)) ≤ 9223372036854775807)
          · by_cases f2 : (-9223372036854775808 ≤ max (max (a * c) (a * d)) (max (b * c) (b * d)) ∧ max (max (a * c) (a * d)) (max (b * c) (b * d)) ≤ 9223372036854775807)
            · exact absurd (by omega) hf
            · rw [decide_eq_false f2]; simp
          · rw [decide_eq_false f1]; rfl
        rw [hcase]
        by_cases e1 : a = b
        · by_cases e2 : c = d
          · subst e1 e2
            simp
          · have e2' : (c == d) = false := by simpa using e2
            simp [e1, e2, e2']
        · have e1' : (a == b) = false := by simpa using e1
          simp [e1, e1']
theorem ival_Mul_s {a b c d : Int} (ha : I64 a) (hb : I64 b) (hc : I64 c) (hd : I64 d) : ival_Mul a b c d = mulS a b c d := by
  unfold ival_Mul ival_Mul.c ival_Mul.c0 mulS ival_one ival_one.c
  simp only [word_Wide_s ha hc, word_Wide_s ha hd, word_Wide_s hb hc, word_Wide_s hb hd, word_Mul_s, fit_s, none_s, ij_s, id, jn_1]
  by_cases h1 : b < a
  · simp [h1]
  · by_cases h2 : d < c
    · simp [h1, h2]
    · simp only [h1, h2, decide_false, cond_false, or_self, if_false]
      by_cases hf : fit (a * c) ∧ fit (a * d) ∧ fit (b * c) ∧ fit (b * d)
      · rw [if_pos hf]
        unfold fit at hf
        obtain ⟨f1, f2, f3, f4⟩ := hf
        simp only [decide_eq_true f1, decide_eq_true f2, decide_eq_true f3, decide_eq_true f4, cond_true, wi_id f1.1 f1.2, wi_id f2.1 f2.2, wi_id f3.1 f3.2, wi_id f4.1 f4.2]
        generalize a * c = p1 at *; generalize a * d = p2 at *; generalize b * c = p3 at *; generalize b * d = p4 at *
        have j1 := jn_p (l := p1) (h := p1) p2 (by omega)
        have j2 := jn_p (l := min p1 p2) (h := max p1 p2) p3 (by omega)
        have j3 := jn_p (l := min (min p1 p2) p3) (h := max (max p1 p2) p3) p4 (by omega)
        simp only [j1, j2, j3, Prod.mk.injEq, and_true]
        constructor <;> omega
      · rw [if_neg hf]
        by_cases e : a = b ∧ c = d
        · obtain ⟨rfl, rfl⟩ := e
          have f1 : ¬ (-9223372036854775808 ≤ a * c ∧ a * c ≤ 9223372036854775807) := by unfold fit at hf; omega
          simp only [decide_eq_false f1, cond_false, beq_self_eq_true, cond_true, and_self, if_true]
          have j1 := jn_p (l := IntKind.i64.wrap (a * c)) (h := IntKind.i64.wrap (a * c)) (IntKind.i64.wrap (a * c)) (by omega)
          rw [Int.min_self, Int.max_self] at j1
          simp only [j1]
        · rw [if_neg e]
          have hone : ∀ X Y : Int × Int × Bool, (bif a == b then (bif c == d then X else Y) else Y) = Y := by
            intro X Y
            by_cases e1 : a = b
            · have e2 : (c == d) = false := by simp; exact fun h => e ⟨e1, h⟩
              rw [e2]; simp
            · have e1' : (a == b) = false := by simpa using e1
              rw [e1']; rfl
          simp only [hone]
          unfold fit at hf
          by_cases f1 : (-9223372036854775808 ≤ a * c ∧ a * c ≤ 9223372036854775807)
          · by_cases f2 : (-9223372036854775808 ≤ a * d ∧ a * d ≤ 9223372036854775807)
            · by_cases f3 : (-9223372036854775808 ≤ b * c ∧ b * c ≤ 9223372036854775807)
              · by_cases f4 : (-9223372036854775808 ≤ b * d ∧ b * d ≤ 9223372036854775807)
                · exact absurd ⟨f1, f2, f3, f4⟩ hf
                · simp only [decide_eq_true f1, decide_eq_true f2, decide_eq_true f3, decide_eq_false f4, cond_true, cond_false]
              · simp only [decide_eq_true f1, decide_eq_true f2, decide_eq_false f3, cond_true, cond_false]
            · simp only [decide_eq_true f1, decide_eq_false f2, cond_true, cond_false]
          · simp only [decide_eq_false f1, cond_false]
theorem mul_eq {a b c d : Int} (ha : I64 a) (hb : I64 b) (hc : I64 c) (hd : I64 d) : ival_Mul a b c d = ref_Mul a b c d := (ival_Mul_s ha hb hc hd).trans (ref_Mul_s ha hb hc hd).symm
end Go.Proofs.YtonpbbhlmapbdaaGreatDoor.V.A
