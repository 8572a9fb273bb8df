/- The document's numbers of two words: order, differences, doubling, quotients, products, common divisors. Conditions: none. -/
import Derived.Test.YtoggbmfjkcbilaaDoorN4
import Derived.Test.YtoggbmfjkcbilaaDoorE5
set_option linter.unusedVariables false
set_option linter.unusedSimpArgs false
namespace Go.Proofs.YtoggbmfjkcbilaaDoor.V
open Go Go.Wk

/-- a number of two words -/
def D (x : Int) : Prop := 0 ≤ x ∧ x < 340282366920938463463374607431768211456
theorem less_s {x y : Int} (hx : D x) (hy : D y) : ref_less (x / 18446744073709551616) (x % 18446744073709551616) (y / 18446744073709551616) (y % 18446744073709551616) = decide (x < y) := by
  unfold D at hx hy
  unfold ref_less ref_less.c
  (try unfold ref_less.c0)
  simp only [Bool.cond_decide, cbe, id]
  by_cases h1 : x / 18446744073709551616 < y / 18446744073709551616
  · rw [if_pos h1, eq_comm, decide_eq_true_eq]; omega
  · rw [if_neg h1]
    by_cases h2 : x / 18446744073709551616 = y / 18446744073709551616
    · rw [if_pos h2, decide_eq_decide]; omega
    · rw [if_neg h2, eq_comm, decide_eq_false_iff_not]; omega
theorem minus2_s {x y : Int} (hx : D x) (hy : D y) : ref_minus (x / 18446744073709551616) (x % 18446744073709551616) (y / 18446744073709551616) (y % 18446744073709551616) = ((x - y) % 340282366920938463463374607431768211456 / 18446744073709551616, (x - y) % 18446744073709551616) := by
  unfold D at hx hy
  unfold ref_minus ref_minus.c
  (try unfold ref_minus.c0)
  simp only [Bool.cond_decide, id, wu_eq]
  by_cases h1 : x % 18446744073709551616 < y % 18446744073709551616
  · rw [if_pos h1]; congr 1 <;> omega
  · rw [if_neg h1]; congr 1 <;> omega
theorem or_bit {t b : Int} (ht : U64 t) (h2 : t % 2 = 0) (hb : 0 ≤ b ∧ b < 2) : orI .u64 t b = t + b := by
  unfold U64 at ht
  have := or_sum (t / 2).toNat b.toNat 1 (by omega) (by omega) (by decide)
  rw [show (((t / 2).toNat : Nat) : Int) * 2 ^ 1 = t by omega, show ((b.toNat : Nat) : Int) = b by omega] at this
  exact this
theorem twice_s {x b : Int} (hx : D x) (hb : 0 ≤ b ∧ b < 2) : ref_twice (x / 18446744073709551616) (x % 18446744073709551616) b = ((2 * x + b) % 340282366920938463463374607431768211456 / 18446744073709551616, (2 * x + b) % 18446744073709551616, decide (340282366920938463463374607431768211456 ≤ 2 * x + b)) := by
  unfold D at hx
  unfold ref_twice ref_twice.c
  (try unfold ref_twice.c0)
  have e1 : ∀ z : Int, z * 2 ^ min (Int.toNat 1) IntKind.u64.bits = z * 2 := fun z => rfl
  have e2 : ∀ z : Int, z.fdiv (2 ^ min (Int.toNat 63) IntKind.u64.bits) = z / 9223372036854775808 := fun z => shr_k 63 (by decide) z
  simp only [id, e1, e2, wu_eq]
  rw [or_bit (by unfold U64; omega) (by omega) (by omega), or_bit (by unfold U64; omega) (by omega) hb]
  simp only [Prod.mk.injEq]
  refine ⟨by omega, by omega, ?_⟩
  rw [Bool.eq_iff_iff, beq_iff_eq, decide_eq_true_eq]
  omega
theorem twice0 {x : Int} (hx : D x) (h2 : 2 * x < 340282366920938463463374607431768211456) : ref_twice (x / 18446744073709551616) (x % 18446744073709551616) 0 = (2 * x / 18446744073709551616, 2 * x % 18446744073709551616, false) := by
  rw [twice_s hx (by omega)]
  unfold D at hx
  simp only [Prod.mk.injEq, decide_eq_false_iff_not]
  refine ⟨by omega, by omega, by omega⟩
theorem bit_k {γ : Type} (n : γ) (k : Int → γ) {x : Int} (hx : D x) (i : Nat) (hi : i < 128) : ref_bitOf.c n k (x / 18446744073709551616) (x % 18446744073709551616) (i : Int) = k (x / 2 ^ i % 2) := by
  unfold D at hx
  unfold ref_bitOf.c ref_bitOf.c0
  have e0 : ¬ (i : Int) < 0 := by omega
  simp only [cbd, Bool.cond_decide, if_neg e0]
  have hp : (0 : Int) < 2 ^ i := Int.pow_pos (by decide)
  by_cases h : (i : Int) < 64
  · rw [if_pos h, Int.toNat_natCast, shr_k i (by omega), and_one]
    congr 1
    have h64 : (2 : Int) ^ i * 2 ^ (64 - i) = 18446744073709551616 := by rw [← Int.pow_add, show i + (64 - i) = 64 by omega]; rfl
    have e : x % 18446744073709551616 = x - 2 ^ i * (2 ^ (64 - i) * (x / 18446744073709551616)) := by rw [← Int.mul_assoc, h64]; omega
    rw [e, Int.sub_eq_add_neg, ← Int.mul_neg, Int.add_mul_ediv_left _ _ (by omega)]
    have h2 : (2 : Int) ^ (64 - i) = 2 * 2 ^ (63 - i) := by rw [show 64 - i = (63 - i) + 1 by omega, Int.pow_succ, Int.mul_comm]
    rw [h2, Int.mul_assoc]
    omega
  · have e1 : IntKind.i64.wrap ((i : Int) - 64) = ((i - 64 : Nat) : Int) := by rw [wi_id (by omega) (by omega)]; omega
    have e2 : ¬ (((i - 64 : Nat) : Int) < 0) := by omega
    rw [if_neg h, e1, if_neg e2, Int.toNat_natCast, shr_k _ (by omega), and_one]
    congr 2
    have : (2 : Int) ^ i = 18446744073709551616 * 2 ^ (i - 64) := by
      conv => lhs; rw [show i = 64 + (i - 64) by omega, Int.pow_add]
      rfl
    rw [this, Int.ediv_ediv_of_nonneg (by decide)]
theorem half (A : Int) (i : Nat) : A / 2 ^ i = 2 * (A / 2 ^ (i + 1)) + A / 2 ^ i % 2 := by
  have : (2 : Int) ^ (i + 1) = 2 ^ i * 2 := Int.pow_succ 2 i
  rw [this, ← Int.ediv_ediv_of_nonneg (Int.le_of_lt (Int.pow_pos (by decide)))]
  omega
theorem qr_step {X X' M b : Int} (hM : 0 < M) (hX : X' = 2 * X + b) (hb : 0 ≤ b ∧ b < 2) :
    (M ≤ 2 * (X % M) + b → X' / M = 2 * (X / M) + 1 ∧ X' % M = 2 * (X % M) + b - M) ∧ (¬ M ≤ 2 * (X % M) + b → X' / M = 2 * (X / M) ∧ X' % M = 2 * (X % M) + b) := by
  have h1 := Int.emod_nonneg X (show M ≠ 0 by omega)
  have h2 := Int.emod_lt_of_pos X hM
  have h3 := Int.emod_add_mul_ediv X M
  constructor
  · intro h
    have := (Int.ediv_emod_unique (a := X') (b := M) (r := 2 * (X % M) + b - M) (q := 2 * (X / M) + 1) hM).2 ⟨by rw [Int.mul_add, Int.mul_left_comm]; omega, by omega, by omega⟩
    exact this
  · intro h
    have := (Int.ediv_emod_unique (a := X') (b := M) (r := 2 * (X % M) + b) (q := 2 * (X / M)) hM).2 ⟨by rw [Int.mul_left_comm]; omega, by omega, by omega⟩
    exact this
theorem ediv_D {A : Int} (hA : D A) {p : Int} (hp : 0 < p) : D (A / p) := by
  unfold D at *
  exact ⟨Int.ediv_nonneg hA.1 (by omega), Int.lt_of_le_of_lt (Int.ediv_le_self p hA.1) hA.2⟩
theorem parted_L (N : Nat) {A M c0 c1 d0 d1 : Int} (hA : D A) (hM : D M) (h0 : 0 < M) : ∀ (i m : Nat), i ≤ 128 → i < m →
    ref_parted.L0 N m ((i : Int) - 1, A / 18446744073709551616, A % 18446744073709551616, M / 18446744073709551616, M % 18446744073709551616, c0, c1, d0, d1, A / 2 ^ i / M / 18446744073709551616, A / 2 ^ i / M % 18446744073709551616, A / 2 ^ i % M / 18446744073709551616, A / 2 ^ i % M % 18446744073709551616)
      = some (A / M / 18446744073709551616, A / M % 18446744073709551616, A % M / 18446744073709551616, A % M % 18446744073709551616)
  | 0, 0, _, h => by omega
  | 0, m + 1, hi, hm => by
    unfold ref_parted.L0 ref_parted.l0.c
    (try unfold ref_parted.l0.c0)
    simp only [Bool.cond_decide]
    rw [if_neg (by omega)]
    simp
  | i + 1, 0, _, h => by omega
  | i + 1, m + 1, hi, hm => by
    have ih := parted_L N (c0 := c0) (c1 := c1) (d0 := d0) (d1 := d1) hA hM h0 i m (by omega) (by omega)
    have hb : 0 ≤ A / 2 ^ i % 2 ∧ A / 2 ^ i % 2 < 2 := by omega
    have hp : (0 : Int) < 2 ^ i := Int.pow_pos (by decide)
    have hp1 : (0 : Int) < 2 ^ (i + 1) := Int.pow_pos (by decide)
    have hX := half A i
    obtain ⟨s1, s2⟩ := qr_step h0 hX hb
    have r1 := Int.emod_nonneg (A / 2 ^ (i + 1)) (show M ≠ 0 by omega)
    have r2 := Int.emod_lt_of_pos (A / 2 ^ (i + 1)) h0
    have hq : D (A / 2 ^ i / M) := ediv_D (ediv_D hA hp) h0
    have hq1 : D (A / 2 ^ (i + 1) / M) := ediv_D (ediv_D hA hp1) h0
    have hr : D (A / 2 ^ (i + 1) % M) := by unfold D at *; omega
    have hq2 : 2 * (A / 2 ^ (i + 1) / M) < 340282366920938463463374607431768211456 := by
      by_cases h : M ≤ 2 * (A / 2 ^ (i + 1) % M) + A / 2 ^ i % 2
      · have := (s1 h).1; unfold D at hq; omega
      · have := (s2 h).1; unfold D at hq; omega
    have ei : IntKind.i64.wrap (((i + 1 : Nat) : Int) - 1 - 1) = (i : Int) - 1 := by rw [wi_id (by omega) (by omega)]; omega
    have ei2 : ((i + 1 : Nat) : Int) - 1 = (i : Int) := by omega
    unfold ref_parted.L0 ref_parted.l0.c
    (try unfold ref_parted.l0.c0)
    simp only [Bool.cond_decide, ei]
    rw [if_pos (by omega)]
    rw [ei2]
    unfold ref_bitOf.ok ref_bitOf
    simp only [bit_k _ _ hA i (by omega), id, cond_true]
    rw [twice_s hr hb, twice0 hq1 hq2]
    simp only
    have hor : orI .u64 (2 * (A / 2 ^ (i + 1) / M) % 18446744073709551616) 1 = (2 * (A / 2 ^ (i + 1) / M) + 1) % 18446744073709551616 := by
      rw [or_bit (by unfold U64; omega) (by omega) (by omega)]; omega
    rw [hor]
    generalize hr2 : 2 * (A / 2 ^ (i + 1) % M) + A / 2 ^ i % 2 = r at s1 s2
    have hr0 : 0 ≤ r ∧ r < 2 * M := by omega
    have hrm : D (r % 340282366920938463463374607431768211456) := by unfold D; omega
    have er : r % 18446744073709551616 = r % 340282366920938463463374607431768211456 % 18446744073709551616 := by omega
    rw [er, less_s hrm hM, minus2_s hrm hM]
    by_cases h : M ≤ r
    · obtain ⟨g1, g2⟩ := s1 h
      rw [g1, g2] at ih
      unfold D at hM hq1
      have k1 : (r % 340282366920938463463374607431768211456 - M) % 340282366920938463463374607431768211456 / 18446744073709551616 = (r - M) / 18446744073709551616 := by omega
      have k2 : (r % 340282366920938463463374607431768211456 - M) % 18446744073709551616 = (r - M) % 18446744073709551616 := by omega
      have k3 : 2 * (A / 2 ^ (i + 1) / M) / 18446744073709551616 = (2 * (A / 2 ^ (i + 1) / M) + 1) / 18446744073709551616 := by omega
      simp only [k1, k2, k3]
      by_cases hb2 : 340282366920938463463374607431768211456 ≤ r
      · rw [decide_eq_true hb2]; exact ih
      · rw [decide_eq_false hb2, decide_eq_false (show ¬ r % 340282366920938463463374607431768211456 < M by omega)]; exact ih
    · obtain ⟨g1, g2⟩ := s2 h
      rw [g1, g2] at ih
      unfold D at hM
      rw [decide_eq_false (show ¬ 340282366920938463463374607431768211456 ≤ r by omega), show r % 340282366920938463463374607431768211456 = r by omega, decide_eq_true (show r < M by omega)]
      exact ih
theorem of_s (x : Int) : ref_of x = (0, x) := by unfold ref_of ref_of.c; (try unfold ref_of.c0); rfl
theorem parted_o {A M : Int} (hA : D A) (hM : D M) (h0 : 0 < M) : ref_parted.o 130 (A / 18446744073709551616) (A % 18446744073709551616) (M / 18446744073709551616) (M % 18446744073709551616) = some (A / M / 18446744073709551616, A / M % 18446744073709551616, A % M / 18446744073709551616, A % M % 18446744073709551616) := by
  have key := parted_L 130 (c0 := 0) (c1 := 0) (d0 := 0) (d1 := 0) hA hM h0 128 130 (by decide) (by decide)
  have e128 : A / 2 ^ 128 = 0 := by
    unfold D at hA
    have : (2 : Int) ^ 128 = 340282366920938463463374607431768211456 := by decide
    rw [this]; omega
  rw [e128] at key
  simp only [Int.zero_ediv, Int.zero_emod] at key
  unfold ref_parted.o ref_parted.c
  (try unfold ref_parted.c0)
  simp only [cbe, cbd, of_s]
  by_cases h1 : A / 18446744073709551616 = 0
  · rw [if_pos h1]
    by_cases h2 : M / 18446744073709551616 = 0
    · unfold D at hA hM
      have eA : A % 18446744073709551616 = A := by omega
      have eM : M % 18446744073709551616 = M := by omega
      have q1 := Int.ediv_nonneg hA.1 (show 0 ≤ M by omega)
      have q2 := Int.ediv_le_self M hA.1
      have q3 := Int.emod_nonneg A (show M ≠ 0 by omega)
      have q4 := Int.emod_lt_of_pos A h0
      rw [if_pos h2, eA, eM, if_neg (by omega), if_neg (by omega), Int.tdiv_eq_ediv_of_nonneg hA.1, Int.tmod_eq_emod_of_nonneg hA.1, wu_id (by omega) (by omega)]
      simp only [Option.some.injEq, Prod.mk.injEq]
      refine ⟨by omega, by omega, by omega, by omega⟩
    · rw [if_neg h2]; exact key
  · rw [if_neg h1]; exact key
theorem parted_g {A M : Int} (hA : D A) (hM : D M) (h0 : 0 < M) : ref_parted.g (A / 18446744073709551616) (A % 18446744073709551616) (M / 18446744073709551616) (M % 18446744073709551616) = true := by
  unfold ref_parted.g; rw [hide_eq, parted_o hA hM h0]; rfl
theorem parted_s {A M : Int} (hA : D A) (hM : D M) (h0 : 0 < M) : ref_parted (A / 18446744073709551616) (A % 18446744073709551616) (M / 18446744073709551616) (M % 18446744073709551616) = (A / M / 18446744073709551616, A / M % 18446744073709551616, A % M / 18446744073709551616, A % M % 18446744073709551616) := by
  unfold ref_parted; rw [hide_eq, parted_o hA hM h0]; rfl
end Go.Proofs.YtoggbmfjkcbilaaDoor.V
