/- Normal forms, order, members, joins, next numbers of classes. Conditions: none. -/
import Derived.Test.YtonpbbhlmapbdaaGreatDoorBN1
set_option linter.unusedVariables false
set_option linter.unusedSimpArgs false
namespace Go.Proofs.YtonpbbhlmapbdaaGreatDoor.V.B
open Go Go.Wk
/-- a number of two words -/
def D (x : Int) : Prop := 0 ≤ x ∧ x < 340282366920938463463374607431768211456
theorem less_s {x y : Int} (hx : D x) (hy : D y) : ref_less (x / 18446744073709551616) (x % 18446744073709551616) (y / 18446744073709551616) (y % 18446744073709551616) = decide (x < y) := by
  unfold D at hx hy
  unfold ref_less ref_less.c
  (try unfold ref_less.c0)
  simp only [Bool.cond_decide, cbe, id]
  by_cases h1 : x / 18446744073709551616 < y / 18446744073709551616
  · rw [if_pos h1, eq_comm, decide_eq_true_eq]; omega
  · rw [if_neg h1]
    by_cases h2 : x / 18446744073709551616 = y / 18446744073709551616
    · rw [if_pos h2, decide_eq_decide]; omega
    · rw [if_neg h2, eq_comm, decide_eq_false_iff_not]; omega
theorem minus2_s {x y : Int} (hx : D x) (hy : D y) : ref_minus (x / 18446744073709551616) (x % 18446744073709551616) (y / 18446744073709551616) (y % 18446744073709551616) = ((x - y) % 340282366920938463463374607431768211456 / 18446744073709551616, (x - y) % 18446744073709551616) := by
  unfold D at hx hy
  unfold ref_minus ref_minus.c
  (try unfold ref_minus.c0)
  simp only [Bool.cond_decide, id, wu_eq]
  by_cases h1 : x % 18446744073709551616 < y % 18446744073709551616
  · rw [if_pos h1]; congr 1 <;> omega
  · rw [if_neg h1]; congr 1 <;> omega
theorem or_bit {t b : Int} (ht : U64 t) (h2 : t % 2 = 0) (hb : 0 ≤ b ∧ b < 2) : orI .u64 t b = t + b := by
  unfold U64 at ht
  have := or_sum (t / 2).toNat b.toNat 1 (by omega) (by omega) (by decide)
  rw [show (((t / 2).toNat : Nat) : Int) * 2 ^ 1 = t by omega, show ((b.toNat : Nat) : Int) = b by omega] at this
  exact this
theorem twice_s {x b : Int} (hx : D x) (hb : 0 ≤ b ∧ b < 2) : ref_twice (x / 18446744073709551616) (x % 18446744073709551616) b = ((2 * x + b) % 340282366920938463463374607431768211456 / 18446744073709551616, (2 * x + b) % 18446744073709551616, decide (340282366920938463463374607431768211456 ≤ 2 * x + b)) := by
  unfold D at hx
  unfold ref_twice ref_twice.c
  (try unfold ref_twice.c0)
  have e1 : ∀ z : Int, z * 2 ^ min (Int.toNat 1) IntKind.u64.bits = z * 2 := fun z => rfl
  have e2 : ∀ z : Int, z.fdiv (2 ^ min (Int.toNat 63) IntKind.u64.bits) = z / 9223372036854775808 := fun z => shr_k 63 (by decide) z
  simp only [id, e1, e2, wu_eq]
  rw [or_bit (by unfold U64; omega) (by omega) (by omega), or_bit (by unfold U64; omega) (by omega) hb]
  simp only [Prod.mk.injEq]
  refine ⟨by omega, by omega, ?_⟩
  rw [Bool.eq_iff_iff, beq_iff_eq, decide_eq_true_eq]
  omega
theorem twice0 {x : Int} (hx : D x) (h2 : 2 * x < 340282366920938463463374607431768211456) : ref_twice (x / 18446744073709551616) (x % 18446744073709551616) 0 = (2 * x / 18446744073709551616, 2 * x % 18446744073709551616, false) := by
  rw [twice_s hx (by omega)]
  unfold D at hx
  simp only [Prod.mk.injEq, decide_eq_false_iff_not]
  refine ⟨by omega, by omega, by omega⟩
theorem bit_k {γ : Type} (n : γ) (k : Int → γ) {x : Int} (hx : D x) (i : Nat) (hi : i < 128) : ref_bitOf.c n k (x / 18446744073709551616) (x % 18446744073709551616) (i : Int) = k (x / 2 ^ i % 2) := by
  unfold D at hx
  unfold ref_bitOf.c ref_bitOf.c0
  have e0 : ¬ (i : Int) < 0 := by omega
  simp only [cbd, Bool.cond_decide, if_neg e0]
  have hp : (0 : Int) < 2 ^ i := Int.pow_pos (by decide)
  by_cases h : (i : Int) < 64
  · rw [if_pos h, Int.toNat_natCast, shr_k i (by omega), and_one]
    congr 1
    have h64 : (2 : Int) ^ i * 2 ^ (64 - i) = 18446744073709551616 := by rw [← Int.pow_add, show i + (64 - i) = 64 by omega]; rfl
    have e : x % 18446744073709551616 = x - 2 ^ i * (2 ^ (64 - i) * (x / 18446744073709551616)) := by rw [← Int.mul_assoc, h64]; omega
    rw [e, Int.sub_eq_add_neg, ← Int.mul_neg, Int.add_mul_ediv_left _ _ (by omega)]
    have h2 : (2 : Int) ^ (64 - i) = 2 * 2 ^ (63 - i) := by rw [show 64 - i = (63 - i) + 1 by omega, Int.pow_succ, Int.mul_comm]
    rw [h2, Int.mul_assoc]
    omega
  · have e1 : IntKind.i64.wrap ((i : Int) - 64) = ((i - 64 : Nat) : Int) := by rw [wi_id (by omega) (by omega)]; omega
    have e2 : ¬ (((i - 64 : Nat) : Int) < 0) := by omega
    rw [if_neg h, e1, if_neg e2, Int.toNat_natCast, shr_k _ (by omega), and_one]
    congr 2
    have : (2 : Int) ^ i = 18446744073709551616 * 2 ^ (i - 64) := by
      conv => lhs; rw [show i = 64 + (i - 64) by omega, Int.pow_add]
      rfl
    rw [this, Int.ediv_ediv_of_nonneg (by decide)]
theorem half (A : Int) (i : Nat) : A / 2 ^ i = 2 * (A / 2 ^ (i + 1)) + A / 2 ^ i % 2 := by
  have : (2 : Int) ^ (i + 1) = 2 ^ i * 2 := Int.pow_succ 2 i
  rw [this, ← Int.ediv_ediv_of_nonneg (Int.le_of_lt (Int.pow_pos (by decide)))]
  omega
theorem qr_step {X X' M b : Int} (hM : 0 < M) (hX : X' = 2 * X + b) (hb : 0 ≤ b ∧ b < 2) :
    (M ≤ 2 * (X % M) + b → X' / M = 2 * (X / M) + 1 ∧ X' % M = 2 * (X % M) + b - M) ∧ (¬ M ≤ 2 * (X % M) + b → X' / M = 2 * (X / M) ∧ X' % M = 2 * (X % M) + b) := by
  have h1 := Int.emod_nonneg X (show M ≠ 0 by omega)
  have h2 := Int.emod_lt_of_pos X hM
  have h3 := Int.emod_add_mul_ediv X M
  constructor
  · intro h
    have := (Int.ediv_emod_unique (a := X') (b := M) (r := 2 * (X % M) + b - M) (q := 2 * (X / M) + 1) hM).2 ⟨by rw [Int.mul_add, Int.mul_left_comm]; omega, by omega, by omega⟩
    exact this
  · intro h
    have := (Int.ediv_emod_unique (a := X') (b := M) (r := 2 * (X % M) + b) (q := 2 * (X / M)) hM).2 ⟨by rw [Int.mul_left_comm]; omega, by omega, by omega⟩
    exact this
theorem ediv_D {A : Int} (hA : D A) {p : Int} (hp : 0 < p) : D (A / p) := by
  unfold D at *
  exact ⟨Int.ediv_nonneg hA.1 (by omega), Int.lt_of_le_of_lt (Int.ediv_le_self p hA.1) hA.2⟩
theorem parted_L (N : Nat) {A M c0 c1 d0 d1 : Int} (hA : D A) (hM : D M) (h0 : 0 < M) : ∀ (i m : Nat), i ≤ 128 → i < m →
    ref_parted.L0 N m ((i : Int) - 1, A / 18446744073709551616, A % 18446744073709551616, M / 18446744073709551616, M % 18446744073709551616, c0, c1, d0, d1, A / 2 ^ i / M / 18446744073709551616, A / 2 ^ i / M % 18446744073709551616, A / 2 ^ i % M / 18446744073709551616, A / 2 ^ i % M % 18446744073709551616)
      = some (A / M / 18446744073709551616, A / M % 18446744073709551616, A % M / 18446744073709551616, A % M % 18446744073709551616)
  | 0, 0, _, h => by omega
  | 0, m + 1, hi, hm => by
    unfold ref_parted.L0 ref_parted.l0.c
    (try unfold ref_parted.l0.c0)
    simp only [Bool.cond_decide]
    rw [if_neg (by omega)]
    simp
  | i + 1, 0, _, h => by omega
  | i + 1, m + 1, hi, hm => by
    have ih := parted_L N (c0 := c0) (c1 := c1) (d0 := d0) (d1 := d1) hA hM h0 i m (by omega) (by omega)
    have hb : 0 ≤ A / 2 ^ i % 2 ∧ A / 2 ^ i % 2 < 2 := by omega
    have hp : (0 : Int) < 2 ^ i := Int.pow_pos (by decide)
    have hp1 : (0 : Int) < 2 ^ (i + 1) := Int.pow_pos (by decide)
    have hX := half A i
    obtain ⟨s1, s2⟩ := qr_step h0 hX hb
    have r1 := Int.emod_nonneg (A / 2 ^ (i + 1)) (show M ≠ 0 by omega)
    have r2 := Int.emod_lt_of_pos (A / 2 ^ (i + 1)) h0
    have hq : D (A / 2 ^ i / M) := ediv_D (ediv_D hA hp) h0
    have hq1 : D (A / 2 ^ (i + 1) / M) := ediv_D (ediv_D hA hp1) h0
    have hr : D (A / 2 ^ (i + 1) % M) := by unfold D at *; omega
    have hq2 : 2 * (A / 2 ^ (i + 1) / M) < 340282366920938463463374607431768211456 := by
      by_cases h : M ≤ 2 * (A / 2 ^ (i + 1) % M) + A / 2 ^ i % 2
      · have := (s1 h).1; unfold D at hq; omega
      · have := (s2 h).1; unfold D at hq; omega
    have ei : IntKind.i64.wrap (((i + 1 : Nat) : Int) - 1 - 1) = (i : Int) - 1 := by rw [wi_id (by omega) (by omega)]; omega
    have ei2 : ((i + 1 : Nat) : Int) - 1 = (i : Int) := by omega
    unfold ref_parted.L0 ref_parted.l0.c
    (try unfold ref_parted.l0.c0)
    simp only [Bool.cond_decide, ei]
    rw [if_pos (by omega)]
    rw [ei2]
    unfold ref_bitOf.ok ref_bitOf
    simp only [bit_k _ _ hA i (by omega), id, cond_true]
    rw [twice_s hr hb, twice0 hq1 hq2]
    simp only
    have hor : orI .u64 (2 * (A / 2 ^ (i + 1) / M) % 18446744073709551616) 1 = (2 * (A / 2 ^ (i + 1) / M) + 1) % 18446744073709551616 := by
      rw [or_bit (by unfold U64; omega) (by omega) (by omega)]; omega
    rw [hor]
    generalize hr2 : 2 * (A / 2 ^ (i + 1) % M) + A / 2 ^ i % 2 = r at s1 s2
    have hr0 : 0 ≤ r ∧ r < 2 * M := by omega
    have hrm : D (r % 340282366920938463463374607431768211456) := by unfold D; omega
    have er : r % 18446744073709551616 = r % 340282366920938463463374607431768211456 % 18446744073709551616 := by omega
    rw [er, less_s hrm hM, minus2_s hrm hM]
    by_cases h : M ≤ r
    · obtain ⟨g1, g2⟩ := s1 h
      rw [g1, g2] at ih
      unfold D at hM hq1
      have k1 : (r % 340282366920938463463374607431768211456 - M) % 340282366920938463463374607431768211456 / 18446744073709551616 = (r - M) / 18446744073709551616 := by omega
      have k2 : (r % 340282366920938463463374607431768211456 - M) % 18446744073709551616 = (r - M) % 18446744073709551616 := by omega
      have k3 : 2 * (A / 2 ^ (i + 1) / M) / 18446744073709551616 = (2 * (A / 2 ^ (i + 1) / M) + 1) / 18446744073709551616 := by omega
      simp only [k1, k2, k3]
      by_cases hb2 : 340282366920938463463374607431768211456 ≤ r
      · rw [decide_eq_true hb2]; exact ih
      · rw [decide_eq_false hb2, decide_eq_false (show ¬ r % 340282366920938463463374607431768211456 < M by omega)]; exact ih
    · obtain ⟨g1, g2⟩ := s2 h
      rw [g1, g2] at ih
      unfold D at hM
      rw [decide_eq_false (show ¬ 340282366920938463463374607431768211456 ≤ r by omega), show r % 340282366920938463463374607431768211456 = r by omega, decide_eq_true (show r < M by omega)]
      exact ih
theorem of_s (x : Int) : ref_of x = (0, x) := by unfold ref_of ref_of.c; (try unfold ref_of.c0); rfl
theorem parted_o {A M : Int} (hA : D A) (hM : D M) (h0 : 0 < M) : ref_parted.o 130 (A / 18446744073709551616) (A % 18446744073709551616) (M / 18446744073709551616) (M % 18446744073709551616) = some (A / M / 18446744073709551616, A / M % 18446744073709551616, A % M / 18446744073709551616, A % M % 18446744073709551616) := by
  have key := parted_L 130 (c0 := 0) (c1 := 0) (d0 := 0) (d1 := 0) hA hM h0 128 130 (by decide) (by decide)
  have e128 : A / 2 ^ 128 = 0 := by
    unfold D at hA
    have : (2 : Int) ^ 128 = 340282366920938463463374607431768211456 := by decide
    rw [this]; omega
  rw [e128] at key
  simp only [Int.zero_ediv, Int.zero_emod] at key
  unfold ref_parted.o ref_parted.c
  (try unfold ref_parted.c0)
  simp only [cbe, cbd, of_s]
  by_cases h1 : A / 18446744073709551616 = 0
  · rw [if_pos h1]
    by_cases h2 : M / 18446744073709551616 = 0
    · unfold D at hA hM
      have eA : A % 18446744073709551616 = A := by omega
      have eM : M % 18446744073709551616 = M := by omega
      have q1 := Int.ediv_nonneg hA.1 (show 0 ≤ M by omega)
      have q2 := Int.ediv_le_self M hA.1
      have q3 := Int.emod_nonneg A (show M ≠ 0 by omega)
      have q4 := Int.emod_lt_of_pos A h0
      rw [if_pos h2, eA, eM, if_neg (by omega), if_neg (by omega), Int.tdiv_eq_ediv_of_nonneg hA.1, Int.tmod_eq_emod_of_nonneg hA.1, wu_id (by omega) (by omega)]
      simp only [Option.some.injEq, Prod.mk.injEq]
      refine ⟨by omega, by omega, by omega, by omega⟩
    · rw [if_neg h2]; exact key
  · rw [if_neg h1]; exact key
theorem parted_g {A M : Int} (hA : D A) (hM : D M) (h0 : 0 < M) : ref_parted.g (A / 18446744073709551616) (A % 18446744073709551616) (M / 18446744073709551616) (M % 18446744073709551616) = true := by
  unfold ref_parted.g; rw [hide_eq, parted_o hA hM h0]; rfl
theorem parted_s {A M : Int} (hA : D A) (hM : D M) (h0 : 0 < M) : ref_parted (A / 18446744073709551616) (A % 18446744073709551616) (M / 18446744073709551616) (M % 18446744073709551616) = (A / M / 18446744073709551616, A / M % 18446744073709551616, A % M / 18446744073709551616, A % M % 18446744073709551616) := by
  unfold ref_parted; rw [hide_eq, parted_o hA hM h0]; rfl
open Go Go.Wk
theorem UD {x : Int} (h : U64 x) : D x := by unfold U64 at h; unfold D; omega
theorem sm {x : Int} (h : U64 x) : x / 18446744073709551616 = 0 ∧ x % 18446744073709551616 = x := by unfold U64 at h; omega
theorem of_u {x : Int} (h : U64 x) : ref_of x = (x / 18446744073709551616, x % 18446744073709551616) := by
  rw [of_s, (sm h).1, (sm h).2]
theorem times2_L (N : Nat) {a b c0 c1 : Int} (ha : U64 a) (hb : U64 b) : ∀ (i m : Nat), i ≤ 64 → i < m →
    ref_times.L0 N m (a, b, (i : Int) - 1, c0, c1, a * (b / 2 ^ i) / 18446744073709551616, a * (b / 2 ^ i) % 18446744073709551616) = some (a * b / 18446744073709551616, a * b % 18446744073709551616)
  | 0, 0, _, h => by omega
  | 0, m + 1, hi, hm => by
    unfold ref_times.L0 ref_times.l0.c
    (try unfold ref_times.l0.c0)
    simp only [Bool.cond_decide]
    rw [if_neg (by omega)]
    simp
  | i + 1, 0, _, h => by omega
  | i + 1, m + 1, hi, hm => by
    have ih := times2_L N (c0 := c0) (c1 := c1) ha hb i m (by omega) (by omega)
    have hX := half b i
    have hp : (0 : Int) < 2 ^ i := Int.pow_pos (by decide)
    have hp1 : (0 : Int) < 2 ^ (i + 1) := Int.pow_pos (by decide)
    have hbit : 0 ≤ b / 2 ^ i % 2 ∧ b / 2 ^ i % 2 < 2 := by omega
    have hbi : U64 (b / 2 ^ i) := by
      unfold U64 at *
      exact ⟨Int.ediv_nonneg hb.1 (by omega), Int.lt_of_le_of_lt (Int.ediv_le_self _ hb.1) hb.2⟩
    have hbi1 : U64 (b / 2 ^ (i + 1)) := by
      unfold U64 at *
      exact ⟨Int.ediv_nonneg hb.1 (by omega), Int.lt_of_le_of_lt (Int.ediv_le_self _ hb.1) hb.2⟩
    have m0 := mul_U ha hbi
    have m1 := mul_U ha hbi1
    have hs : a * (b / 2 ^ i) = 2 * (a * (b / 2 ^ (i + 1))) + a * (b / 2 ^ i % 2) := by
      conv => lhs; rw [hX]
      rw [Int.mul_add, Int.mul_left_comm]
    have ab0 : b / 2 ^ i % 2 = 0 → a * (b / 2 ^ i % 2) = 0 := fun h => by rw [h]; simp
    have ab1 : b / 2 ^ i % 2 = 1 → a * (b / 2 ^ i % 2) = a := fun h => by rw [h]; simp
    have ei : IntKind.i64.wrap (((i + 1 : Nat) : Int) - 1 - 1) = (i : Int) - 1 := by rw [wi_id (by omega) (by omega)]; omega
    have ei2 : ((i + 1 : Nat) : Int) - 1 = (i : Int) := by omega
    have ha' := ha
    unfold U64 at ha'
    have h2 : 2 * (a * (b / 2 ^ (i + 1))) < 340282366920938463463374607431768211456 := by
      by_cases h : b / 2 ^ i % 2 = 0
      · have := ab0 h; omega
      · have := ab1 (by omega); omega
    unfold ref_times.L0 ref_times.l0.c
    (try unfold ref_times.l0.c0)
    simp only [Bool.cond_decide, ei]
    rw [if_pos (by omega), ei2, twice0 (by unfold D; omega) h2]
    simp only [cbd, cbe]
    rw [if_neg (by omega), Int.toNat_natCast, shr_k i (by omega), and_one]
    simp only [wu_eq]
    generalize a * (b / 2 ^ (i + 1)) = s at hs h2 m1
    by_cases h : b / 2 ^ i % 2 = 1
    · have e := ab1 h
      rw [e] at hs
      rw [hs] at ih m0
      rw [if_pos h]
      by_cases g : (2 * s % 18446744073709551616 + a) % 18446744073709551616 < a
      · rw [if_pos g, ← ih]
        congr 2
        simp only [Prod.mk.injEq, true_and]
        omega
      · rw [if_neg g, ← ih]
        congr 2
        simp only [Prod.mk.injEq, true_and]
        omega
    · have e := ab0 (by omega)
      rw [e] at hs
      rw [hs] at ih m0
      rw [if_neg h, ← ih]
      simp only [Int.add_zero]
theorem times2_o {a b : Int} (ha : U64 a) (hb : U64 b) : ref_times.o 66 a b = some (a * b / 18446744073709551616, a * b % 18446744073709551616) := by
  have key := times2_L 66 (c0 := 0) (c1 := 0) ha hb 64 66 (by decide) (by decide)
  have e : b / 2 ^ 64 = 0 := by
    unfold U64 at hb
    have : (2 : Int) ^ 64 = 18446744073709551616 := by decide
    rw [this]; omega
  rw [e] at key
  simp only [Int.mul_zero, Int.zero_ediv, Int.zero_emod] at key
  unfold ref_times.o ref_times.c
  exact key
theorem times2_g {a b : Int} (ha : U64 a) (hb : U64 b) : ref_times.g a b = true := by unfold ref_times.g; rw [hide_eq, times2_o ha hb]; rfl
theorem times2_s {a b : Int} (ha : U64 a) (hb : U64 b) : ref_times a b = (a * b / 18446744073709551616, a * b % 18446744073709551616) := by unfold ref_times; rw [hide_eq, times2_o ha hb]; rfl
theorem gcd2_L (N : Nat) : ∀ (m : Nat) (a b c0 c1 : Int), D a → D b → b < m → ref_gcd.L0 N m (a / 18446744073709551616, a % 18446744073709551616, b / 18446744073709551616, b % 18446744073709551616, c0, c1) = some (gg a b / 18446744073709551616, gg a b % 18446744073709551616)
  | 0, a, b, _, _, ha, hb, hm => by unfold D at hb; omega
  | m + 1, a, b, c0, c1, ha, hb, hm => by
    unfold ref_gcd.L0 ref_gcd.l0.c
    (try unfold ref_gcd.l0.c0)
    simp only
    by_cases h : b = 0
    · subst h
      rw [gg_zero ha.1]; simp
    · have hb0 : 0 < b := by unfold D at hb; omega
      have e : (b / 18446744073709551616 == 0 && (b % 18446744073709551616 == 0 && true)) = false := by
        rw [Bool.and_true, Bool.and_eq_false_iff]
        by_cases g : b / 18446744073709551616 = 0
        · right; simp; omega
        · left; simpa using g
      rw [e, parted_g ha hb hb0, parted_s ha hb hb0]
      simp only [Bool.not_false, cond_true]
      have h1 := Int.emod_nonneg a (show b ≠ 0 from h)
      have h2 := Int.emod_lt_of_pos a hb0
      rw [gcd2_L N m b (a % b) c0 c1 hb (by unfold D at *; omega) (by omega), gg_step ha.1 hb.1]
theorem fuel2 {b : Int} (hb : D b) : b < (((b / 18446744073709551616).toNat * 18446744073709551616 + (b % 18446744073709551616).toNat + 2 : Nat) : Int) := by
  unfold D at hb
  have e1 : (((b / 18446744073709551616).toNat : Nat) : Int) = b / 18446744073709551616 := Int.toNat_of_nonneg (by omega)
  have e2 : (((b % 18446744073709551616).toNat : Nat) : Int) = b % 18446744073709551616 := Int.toNat_of_nonneg (by omega)
  rw [Int.natCast_add, Int.natCast_add, Int.natCast_mul, e1, e2, show ((18446744073709551616 : Nat) : Int) = 18446744073709551616 from rfl, show ((2 : Nat) : Int) = 2 from rfl]
  omega
theorem gcd2_o' {a b : Int} (F : Nat) (ha : D a) (hb : D b) (hF : b < F) : ref_gcd.o F (a / 18446744073709551616) (a % 18446744073709551616) (b / 18446744073709551616) (b % 18446744073709551616) = some (gg a b / 18446744073709551616, gg a b % 18446744073709551616) := by
  unfold ref_gcd.o ref_gcd.c
  exact gcd2_L F F a b 0 0 ha hb hF
theorem gcd2_o {a b : Int} (ha : D a) (hb : D b) : ref_gcd.o ((b / 18446744073709551616).toNat * 18446744073709551616 + (b % 18446744073709551616).toNat + 2) (a / 18446744073709551616) (a % 18446744073709551616) (b / 18446744073709551616) (b % 18446744073709551616) = some (gg a b / 18446744073709551616, gg a b % 18446744073709551616) := by
  exact gcd2_o' _ ha hb (fuel2 hb)
theorem gcd2_g {a b : Int} (ha : D a) (hb : D b) : ref_gcd.g (a / 18446744073709551616) (a % 18446744073709551616) (b / 18446744073709551616) (b % 18446744073709551616) = true := by
  unfold ref_gcd.g; rw [hide_eq, gcd2_o ha hb]; rfl
theorem gcd2_s {a b : Int} (ha : D a) (hb : D b) : ref_gcd (a / 18446744073709551616) (a % 18446744073709551616) (b / 18446744073709551616) (b % 18446744073709551616) = (gg a b / 18446744073709551616, gg a b % 18446744073709551616) := by
  unfold ref_gcd; rw [hide_eq, gcd2_o ha hb]; rfl
theorem gg_D {a b : Int} (ha : D a) (hb : D b) : D (gg a b) := by
  unfold D at *
  refine ⟨gg_nonneg a b, ?_⟩
  by_cases h : a = 0
  · by_cases h' : b = 0
    · subst h h'; decide
    · rw [gg_comm]; have := gg_le hb.1 ha.1 h'; omega
  · have := gg_le ha.1 hb.1 h; omega
def av (v : Int) : Int := if v < 0 then -v else v
theorem far2_s {v : Int} (hv : I64 v) : ref_far v = av v := by
  unfold I64 at hv
  unfold ref_far ref_far.c ref_far.c0 av
  simp only [Bool.cond_decide, id, wu_eq]
  by_cases h : v < 0
  · simp only [if_pos h]; omega
  · simp only [if_neg h]; omega
theorem av_U {v : Int} (hv : I64 v) : U64 (av v) := by unfold I64 at hv; unfold U64 av; split <;> omega
/-- a raw class's remainder, in normal form -/
def nr (m r : Int) : Int := if m = 0 then r else r % m
/-- a raw class's whole number -/
def val (m r : Int) : Int := if m = 0 then IntKind.i64.wrap r else r % m
theorem val_nr (m r : Int) : vc m (nr m r) = val m r := by unfold vc nr val; by_cases h : m = 0 <;> simp [h]
theorem nr_U {m r : Int} (hm : U64 m) (hr : U64 r) : U64 (nr m r) := by
  unfold nr; by_cases h : m = 0
  · rw [if_pos h]; exact hr
  · rw [if_neg h]; exact (emod_U hm h).2.2
theorem norm_k {γ : Type} (n : γ) (k : Int × Int → γ) {m r : Int} (hm : U64 m) (hr : U64 r) : cong_Norm.c n k m r = k (m, nr m r) := by
  unfold U64 at *
  unfold cong_Norm.c nr
  (try unfold cong_Norm.c0)
  simp only [Bool.cond_decide, cbd]
  by_cases h : m = 0
  · rw [if_neg (by omega), if_pos h]
  · rw [if_pos (by omega), if_neg h, if_neg h, Int.tmod_eq_emod_of_nonneg hr.1]
theorem norm_s {m r : Int} (hm : U64 m) (hr : U64 r) : cong_Norm m r = (m, nr m r) := norm_k _ _ hm hr
theorem norm2_k {γ : Type} (n : γ) (k : Int × Int → γ) {m r : Int} (hm : U64 m) (hr : U64 r) : ref_Norm.c n k m r = k (m, nr m r) := by
  unfold U64 at *
  unfold ref_Norm.c nr
  (try unfold ref_Norm.c0)
  simp only [Bool.cond_decide, cbd]
  by_cases h : m = 0
  · rw [if_neg (by omega), if_pos h]
  · rw [if_pos (by omega), if_neg h, if_neg h, Int.tmod_eq_emod_of_nonneg hr.1]
theorem norm2_s {m r : Int} (hm : U64 m) (hr : U64 r) : ref_Norm m r = (m, nr m r) := norm2_k _ _ hm hr
theorem r_k {γ : Type} (n : γ) (k : Int × Int × Bool → γ) {m r : Int} (hm : U64 m) (hr : U64 r) : ref_r.c n k m r = k (av (val m r) / 18446744073709551616, av (val m r) % 18446744073709551616, decide (val m r < 0)) := by
  have en : ref_number m r = IntKind.i64.wrap r := by unfold ref_number ref_number.c; (try unfold ref_number.c0); rfl
  unfold ref_r.c val
  (try unfold ref_r.c0)
  simp only [en, far2_s (i64u r), cbe, cbd]
  by_cases h : m = 0
  · simp only [if_pos h, of_u (av_U (i64u r))]
  · have := (emod_U (x := r) hm h)
    unfold U64 at *
    simp only [if_neg h, Int.tmod_eq_emod_of_nonneg hr.1]
    have e : av (r % m) = r % m := by unfold av; rw [if_neg (by omega)]
    rw [e, of_u this.2.2, decide_eq_false (by omega)]
theorem r_ok {m r : Int} (hm : U64 m) (hr : U64 r) : ref_r.ok m r = true := r_k _ _ hm hr
theorem r_s {m r : Int} (hm : U64 m) (hr : U64 r) : ref_r m r = (av (val m r) / 18446744073709551616, av (val m r) % 18446744073709551616, decide (val m r < 0)) := r_k _ _ hm hr
theorem val_b {m r : Int} (hm : U64 m) (hr : U64 r) : -9223372036854775808 ≤ val m r ∧ val m r < 18446744073709551616 := by
  unfold val
  by_cases h : m = 0
  · rw [if_pos h]; have := i64u r; unfold I64 at this; omega
  · rw [if_neg h]; have := emod_U (x := r) hm h; unfold U64 at hm; omega
theorem av_val {m r : Int} (hm : U64 m) (hr : U64 r) : U64 (av (val m r)) := by
  have := val_b hm hr
  unfold U64 av; split <;> omega
theorem neg_mod {A m : Int} (h0 : 0 < m) : (-A) % m = if A % m = 0 then 0 else m - A % m := by
  have h1 := Int.emod_nonneg A (show m ≠ 0 by omega)
  have h2 := Int.emod_lt_of_pos A h0
  have h3 := Int.emod_add_mul_ediv A m
  by_cases h : A % m = 0
  · rw [if_pos h]
    refine mod_of (q := -(A / m)) ?_ (by omega) (by omega)
    rw [Int.mul_neg]; omega
  · rw [if_neg h]
    refine mod_of (q := -(A / m) - 1) ?_ (by omega) (by omega)
    rw [Int.mul_sub, Int.mul_neg, Int.mul_one]; omega
theorem rest2_k {γ : Type} (n : γ) (k : Int × Int → γ) {A m : Int} (b : Bool) (hA : D A) (hm : D m) (h0 : 0 < m) : ref_rest.c n k (A / 18446744073709551616) (A % 18446744073709551616) b (m / 18446744073709551616) (m % 18446744073709551616) = k ((if b then -A else A) % m / 18446744073709551616, (if b then -A else A) % m % 18446744073709551616) := by
  unfold ref_rest.c
  (try unfold ref_rest.c0)
  simp only [parted_g hA hm h0, parted_s hA hm h0, cond_true]
  cases b with
  | false => rfl
  | true =>
    have h1 := Int.emod_nonneg A (show m ≠ 0 by omega)
    have h2 := Int.emod_lt_of_pos A h0
    have hAm : D (A % m) := by unfold D at *; omega
    simp only [cond_true, if_true]
    rw [minus2_s hm hAm, neg_mod h0]
    by_cases h : A % m = 0
    · rw [if_pos h, h]; rfl
    · have e : (A % m / 18446744073709551616 == 0 && (A % m % 18446744073709551616 == 0 && true)) = false := by
        rw [Bool.and_true, Bool.and_eq_false_iff]
        by_cases g : A % m / 18446744073709551616 = 0
        · right; simp; omega
        · left; simpa using g
      rw [if_neg h, e]
      simp only [Bool.not_false, cond_true]
      unfold D at hm
      congr 2
      omega
theorem rest2_ok {A m : Int} (b : Bool) (hA : D A) (hm : D m) (h0 : 0 < m) : ref_rest.ok (A / 18446744073709551616) (A % 18446744073709551616) b (m / 18446744073709551616) (m % 18446744073709551616) = true := rest2_k _ _ b hA hm h0
theorem rest2_s {A m : Int} (b : Bool) (hA : D A) (hm : D m) (h0 : 0 < m) : ref_rest (A / 18446744073709551616) (A % 18446744073709551616) b (m / 18446744073709551616) (m % 18446744073709551616) = ((if b then -A else A) % m / 18446744073709551616, (if b then -A else A) % m % 18446744073709551616) := rest2_k _ _ b hA hm h0
theorem class_k {γ : Type} (n : γ) (k : Int × Int → γ) {A g : Int} (b : Bool) (hA : D A) (hg : U64 g) (h0 : g ≠ 0) : ref_class.c n k (A / 18446744073709551616) (A % 18446744073709551616) b g = k (g, (if b then -A else A) % g) := by
  have hg' := hg
  unfold U64 at hg'
  unfold ref_class.c
  (try unfold ref_class.c0)
  simp only [of_u hg, rest2_ok b hA (UD hg) (by omega), rest2_s b hA (UD hg) (by omega), cond_true]
  have := emod_U (x := if b then -A else A) hg h0
  rw [(sm this.2.2).2]
theorem class_ok {A g : Int} (b : Bool) (hA : D A) (hg : U64 g) (h0 : g ≠ 0) : ref_class.ok (A / 18446744073709551616) (A % 18446744073709551616) b g = true := class_k _ _ b hA hg h0
theorem class_s {A g : Int} (b : Bool) (hA : D A) (hg : U64 g) (h0 : g ≠ 0) : ref_class (A / 18446744073709551616) (A % 18446744073709551616) b g = (g, (if b then -A else A) % g) := class_k _ _ b hA hg h0
theorem sgn (v : Int) : (if decide (v < 0) then -av v else av v) = v := by
  unfold av; by_cases h : v < 0
  · rw [decide_eq_true h, if_pos h]; simp
  · rw [decide_eq_false h, if_neg h]; simp
/-- order -/
def leqS (a0 a1 b0 b1 : Int) : Bool := if b0 = 0 then decide (a0 = 0 ∧ a1 = b1) else decide (a0 % b0 = 0 ∧ val a0 a1 % b0 = val b0 b1 % b0)
theorem pair_eq {x y m : Int} (hm : U64 m) (h0 : m ≠ 0) : (x % m / 18446744073709551616 == y % m / 18446744073709551616 && (x % m % 18446744073709551616 == y % m % 18446744073709551616 && true)) = decide (x % m = y % m) := by
  have h1 := (emod_U (x := x) hm h0).2.2
  have h2 := (emod_U (x := y) hm h0).2.2
  rw [(sm h1).1, (sm h1).2, (sm h2).1, (sm h2).2, Bool.eq_iff_iff]
  simp
theorem leq2_k {γ : Type} (n : γ) (k : Bool → γ) {a0 a1 b0 b1 : Int} (h1 : U64 a0) (h2 : U64 a1) (h3 : U64 b0) (h4 : U64 b1) : ref_Leq.c n k a0 a1 b0 b1 = k (leqS a0 a1 b0 b1) := by
  have h3' := h3
  unfold U64 at h3'
  unfold ref_Leq.c leqS
  (try unfold ref_Leq.c0)
  simp only [r_ok h1 h2, r_s h1 h2, r_ok h3 h4, r_s h3 h4, cbe, cbd, cond_true]
  by_cases h : b0 = 0
  · rw [if_pos h, if_pos h]
    by_cases g : a0 = 0
    · rw [if_pos g]; congr 1; rw [Bool.eq_iff_iff]; simp [g]
    · rw [if_neg g, decide_eq_false (by omega)]
  · rw [if_neg h, if_neg h, if_neg h, of_u h3, rest2_ok _ (UD (av_val h1 h2)) (UD h3) (by omega), rest2_ok _ (UD (av_val h3 h4)) (UD h3) (by omega), rest2_s _ (UD (av_val h1 h2)) (UD h3) (by omega), rest2_s _ (UD (av_val h3 h4)) (UD h3) (by omega)]
    simp only [sgn, cond_true]
    unfold U64 at h1
    rw [Int.tmod_eq_emod_of_nonneg h1.1, pair_eq h3 h]
    by_cases g : a0 % b0 = 0
    · rw [if_pos g]; congr 1; rw [decide_eq_decide]; simp [g]
    · rw [if_neg g, decide_eq_false (by omega)]
theorem leq2_ok {a0 a1 b0 b1 : Int} (h1 : U64 a0) (h2 : U64 a1) (h3 : U64 b0) (h4 : U64 b1) : ref_Leq.ok a0 a1 b0 b1 = true := leq2_k _ _ h1 h2 h3 h4
theorem leq2_s {a0 a1 b0 b1 : Int} (h1 : U64 a0) (h2 : U64 a1) (h3 : U64 b0) (h4 : U64 b1) : ref_Leq a0 a1 b0 b1 = leqS a0 a1 b0 b1 := leq2_k _ _ h1 h2 h3 h4
theorem leq_k {γ : Type} (n : γ) (k : Bool → γ) {a0 a1 b0 b1 : Int} (h1 : U64 a0) (h2 : U64 a1) (h3 : U64 b0) (h4 : U64 b1) : cong_Leq.c n k a0 a1 b0 b1 = k (leqS a0 a1 b0 b1) := by
  unfold cong_Leq.c leqS
  (try unfold cong_Leq.c0)
  simp only [norm_s h1 h2, norm_s h3 h4, alone_s, cbe, cbd]
  rw [rest_s (nr_U h1 h2) h3, val_nr]
  by_cases h : b0 = 0
  · rw [if_pos h, if_pos h]
    congr 1
    rw [Bool.eq_iff_iff]
    unfold nr
    by_cases g : a0 = 0
    · simp [g, h]
    · simp [g, h]
  · rw [if_neg h, if_neg h, if_neg h]
    have h1' := h1
    unfold U64 at h1'
    rw [Int.tmod_eq_emod_of_nonneg h1'.1]
    have e : md (val a0 a1) b0 = val a0 a1 % b0 := by unfold md; rw [if_neg h]
    have e2 : val b0 b1 % b0 = nr b0 b1 := by unfold val nr; rw [if_neg h, if_neg h, Int.emod_emod]
    rw [e, e2]
    by_cases g : a0 % b0 = 0
    · rw [if_pos g]; congr 1; rw [Bool.eq_iff_iff]; simp [g]
    · rw [if_neg g, decide_eq_false (by omega)]
theorem leq_ok {a0 a1 b0 b1 : Int} (h1 : U64 a0) (h2 : U64 a1) (h3 : U64 b0) (h4 : U64 b1) : cong_Leq.ok a0 a1 b0 b1 = true := leq_k _ _ h1 h2 h3 h4
theorem leq_s {a0 a1 b0 b1 : Int} (h1 : U64 a0) (h2 : U64 a1) (h3 : U64 b0) (h4 : U64 b1) : cong_Leq a0 a1 b0 b1 = leqS a0 a1 b0 b1 := leq_k _ _ h1 h2 h3 h4
/-- members -/
def hasS (m r v : Int) : Bool := if m = 0 then decide (v = IntKind.i64.wrap r) else decide (v % m = r % m)
theorem has_s {m r v : Int} (hm : U64 m) (hr : U64 r) (hv : I64 v) : cong_Has m r v = hasS m r v := by
  unfold cong_Has cong_Has.c hasS
  (try unfold cong_Has.c0)
  simp only [norm_s hm hr, mod_s hv hm, id]
  unfold md nr
  by_cases h : m = 0
  · simp only [if_pos h]
    rw [Bool.eq_iff_iff, beq_iff_eq, decide_eq_true_eq]
    unfold U64 at hr; unfold I64 at hv
    rw [wi_eq]; omega
  · simp only [if_neg h]
    rw [Bool.eq_iff_iff, beq_iff_eq, decide_eq_true_eq]
theorem const2_s (v : Int) : ref_Const v = (0, IntKind.u64.wrap v) := by unfold ref_Const ref_Const.c; (try unfold ref_Const.c0); rfl
theorem const_s (v : Int) : cong_Const v = (0, IntKind.u64.wrap v) := by unfold cong_Const cong_Const.c; (try unfold cong_Const.c0); rfl
theorem val0 {v : Int} (hv : I64 v) : val 0 (IntKind.u64.wrap v) = v := by
  unfold I64 at hv
  unfold val; rw [if_pos rfl, wi_eq, wu_eq]; omega
open Go Go.Wk
theorem gg_congr {g p q : Int} (hg : 0 ≤ g) (hp : 0 ≤ p) (hq : 0 ≤ q) (h : g ∣ p - q ∨ g ∣ p + q) : gg g p = gg g q := by
  have key : ∀ p q : Int, 0 ≤ p → 0 ≤ q → (g ∣ p - q ∨ g ∣ p + q) → gg g p ∣ gg g q := by
    intro p q hp hq h
    obtain ⟨h1, h2⟩ := gg_dvd hg hp
    refine dvd_gg hg hq h1 ?_
    rcases h with h | h
    · have := Int.dvd_sub h2 (Int.dvd_trans h1 h)
      rwa [show p - (p - q) = q by omega] at this
    · have := Int.dvd_sub (Int.dvd_trans h1 h) h2
      rwa [show p + q - p = q by omega] at this
  have h' : g ∣ q - p ∨ g ∣ q + p := by
    rcases h with h | h
    · left; have := Int.dvd_neg.2 h; rwa [show -(p - q) = q - p by omega] at this
    · right; rwa [Int.add_comm]
  exact Int.dvd_antisymm (gg_nonneg _ _) (gg_nonneg _ _) (key p q hp hq h) (key q p hq hp h')
theorem gg0 {a : Int} (ha : 0 ≤ a) : gg 0 a = a := by rw [gg_comm, gg_zero ha]
/-- how far apart two whole numbers are -/
def dst (x y : Int) : Int := if x < y then y - x else x - y
/-- the modulus of a join -/
def jg (a0 a1 b0 b1 : Int) : Int := gg (gg a0 b0) (dst (val a0 a1) (val b0 b1))
def joinS (a0 a1 b0 b1 : Int) : Int × Int := (jg a0 a1 b0 b1, if jg a0 a1 b0 b1 = 0 then nr a0 a1 else val a0 a1 % jg a0 a1 b0 b1)
theorem jg_U {a0 a1 b0 b1 : Int} (h1 : U64 a0) (h2 : U64 a1) (h3 : U64 b0) (h4 : U64 b1) : U64 (jg a0 a1 b0 b1) := by
  have g := gg_U h1 h3
  have v1 := val_b h1 h2
  have v2 := val_b h3 h4
  have hd : 0 ≤ dst (val a0 a1) (val b0 b1) := by unfold dst; split <;> omega
  unfold jg
  by_cases h : gg a0 b0 = 0
  · have e1 : a0 = 0 := by
      rcases Int.lt_or_le 0 a0 with h' | h'
      · have := gg_pos h1.1 h3.1 (.inl (by omega)); omega
      · have := h1.1; omega
    have e2 : b0 = 0 := by
      rcases Int.lt_or_le 0 b0 with h' | h'
      · have := gg_pos h1.1 h3.1 (.inr (by omega)); omega
      · have := h3.1; omega
    rw [h, gg0 hd]
    have w1 := i64u a1
    have w2 := i64u b1
    unfold val dst
    rw [if_pos e1, if_pos e2]
    unfold I64 at w1 w2; unfold U64
    split <;> omega
  · have := gg_le (gg_nonneg a0 b0) hd h
    unfold U64 at g ⊢
    exact ⟨gg_nonneg _ _, by omega⟩
theorem zero2 {g : Int} (hg : D g) : (g / 18446744073709551616 == 0 && (g % 18446744073709551616 == 0 && true)) = decide (g = 0) := by
  unfold D at hg
  rw [Bool.eq_iff_iff]
  simp only [Bool.and_true, Bool.and_eq_true, beq_iff_eq, decide_eq_true_eq]
  omega
theorem dst_wrap {x y : Int} (hx : I64 x) (hy : I64 y) : IntKind.u64.wrap (IntKind.u64.wrap (if y > x then y else x) - IntKind.u64.wrap (if y < x then y else x)) = dst x y := by
  unfold I64 at *
  unfold dst
  simp only [wu_eq]
  (repeat' split) <;> omega
theorem dst_u {x y : Int} (hx : U64 x) (hy : U64 y) : IntKind.u64.wrap ((if y > x then y else x) - (if y < x then y else x)) = dst x y := by
  unfold U64 at *
  unfold dst
  simp only [wu_eq]
  (repeat' split) <;> omega
theorem dst_nonneg (x y : Int) : 0 ≤ dst x y := by unfold dst; split <;> omega
theorem dst_mod {x y g : Int} (h : g ≠ 0) : g ∣ dst (x % g) (y % g) - dst x y ∨ g ∣ dst (x % g) (y % g) + dst x y := by
  have d1 : g ∣ x % g - x := Int.dvd_emod_sub_self
  have d2 : g ∣ y % g - y := Int.dvd_emod_sub_self
  have d3 := Int.dvd_sub d1 d2
  have d4 := Int.dvd_neg.2 d3
  unfold dst
  split <;> split
  · left; rwa [show y % g - x % g - (y - x) = -(x % g - x - (y % g - y)) by omega]
  · right; rwa [show y % g - x % g + (x - y) = -(x % g - x - (y % g - y)) by omega]
  · right; rwa [show x % g - y % g + (y - x) = (x % g - x - (y % g - y)) by omega]
  · left; rwa [show x % g - y % g - (x - y) = (x % g - x - (y % g - y)) by omega]
theorem join_k {γ : Type} (n : γ) (k : Int × Int → γ) {a0 a1 b0 b1 : Int} (h1 : U64 a0) (h2 : U64 a1) (h3 : U64 b0) (h4 : U64 b1) : cong_Join.c n k a0 a1 b0 b1 = k (joinS a0 a1 b0 b1) := by
  have hj := jg_U h1 h2 h3 h4
  have hn1 := nr_U h1 h2
  have hn3 := nr_U h3 h4
  have z : (0 : Int) ≤ 0 := Int.le_refl 0
  have hg := gg_U h1 h3
  unfold cong_Join.c
  (try unfold cong_Join.c0)
  simp only [norm_s h1 h2, norm_s h3 h4, gcd_g z h1.1, gcd_s z h1.1, gg0 h1.1, gcd_g h1.1 h3.1, gcd_s h1.1 h3.1, gcd_g z hg.1, gcd_s z hg.1, gg0 hg.1, cond_true, cbe]
  rw [dst_wrap (i64u _) (i64u _), rest_s hn1 hg, rest_s hn3 hg, val_nr, val_nr, dst_u (md_U _ hg) (md_U _ hg), gcd_g hg.1 (dst_nonneg _ _), gcd_s hg.1 (dst_nonneg _ _)]
  simp only [cond_true]
  unfold joinS
  by_cases h : gg a0 b0 = 0
  · have e1 : a0 = 0 := by
      rcases Int.lt_or_le 0 a0 with h' | h'
      · have := gg_pos h1.1 h3.1 (.inl (by omega)); omega
      · have := h1.1; omega
    have e2 : b0 = 0 := by
      rcases Int.lt_or_le 0 b0 with h' | h'
      · have := gg_pos h1.1 h3.1 (.inr (by omega)); omega
      · have := h3.1; omega
    rw [if_pos h]
    have e3 : dst (IntKind.i64.wrap (nr a0 a1)) (IntKind.i64.wrap (nr b0 b1)) = jg a0 a1 b0 b1 := by
      unfold jg
      rw [h, gg0 (dst_nonneg _ _)]
      unfold nr val
      simp only [if_pos e1, if_pos e2]
    rw [e3, rest_s hn1 hj, val_nr]
    congr 2
    unfold md
    by_cases g : jg a0 a1 b0 b1 = 0
    · rw [if_pos g, if_pos g]
      unfold val nr
      rw [if_pos e1, if_pos e1, wi_emod]
      unfold U64 at h2
      exact Int.emod_eq_of_lt h2.1 h2.2
    · rw [if_neg g, if_neg g]
  · rw [if_neg h]
    have e3 : gg (gg a0 b0) (dst (md (val a0 a1) (gg a0 b0)) (md (val b0 b1) (gg a0 b0))) = jg a0 a1 b0 b1 := by
      unfold jg md
      rw [if_neg h, if_neg h]
      exact gg_congr hg.1 (dst_nonneg _ _) (dst_nonneg _ _) (dst_mod h)
    rw [e3, rest_s hn1 hj, val_nr]
    have hne : jg a0 a1 b0 b1 ≠ 0 := by
      have := gg_pos hg.1 (dst_nonneg (val a0 a1) (val b0 b1)) (.inl h)
      unfold jg; omega
    unfold md
    rw [if_neg hne, if_neg hne]
theorem join_s {a0 a1 b0 b1 : Int} (h1 : U64 a0) (h2 : U64 a1) (h3 : U64 b0) (h4 : U64 b1) : cong_Join a0 a1 b0 b1 = joinS a0 a1 b0 b1 := join_k _ _ h1 h2 h3 h4
theorem join_ok {a0 a1 b0 b1 : Int} (h1 : U64 a0) (h2 : U64 a1) (h3 : U64 b0) (h4 : U64 b1) : cong_Join.ok a0 a1 b0 b1 = true := join_k _ _ h1 h2 h3 h4
/-- how far it is from a number to a class's next -/
def far1 (m x y : Int) : Int := (x - y) % m
theorem far1_s {m x y : Int} (hm : 0 < m) : far1 m x y = if x % m ≥ y % m then x % m - y % m else m - y % m + x % m := by
  have a1 := Int.emod_nonneg x (show m ≠ 0 by omega)
  have a2 := Int.emod_lt_of_pos x hm
  have b1 := Int.emod_nonneg y (show m ≠ 0 by omega)
  have b2 := Int.emod_lt_of_pos y hm
  unfold far1
  rw [Int.sub_emod]
  by_cases h : x % m ≥ y % m
  · rw [if_pos h, Int.emod_eq_of_lt (by omega) (by omega)]
  · rw [if_neg h]
    exact mod_of (q := -1) (by rw [Int.mul_neg, Int.mul_one]; omega) (by omega) (by omega)
theorem far1_b {m x y : Int} (hm : 0 < m) : 0 ≤ far1 m x y ∧ far1 m x y < m := ⟨Int.emod_nonneg _ (by omega), Int.emod_lt_of_pos _ hm⟩
def upS (m r v : Int) : Int × Bool := if m = 0 then (if IntKind.i64.wrap r < v then (0, false) else (IntKind.i64.wrap r, true)) else if far1 m r v ≤ 9223372036854775807 - v then (v + far1 m r v, true) else (0, false)
def dnS (m r v : Int) : Int × Bool := if m = 0 then (if IntKind.i64.wrap r > v then (0, false) else (IntKind.i64.wrap r, true)) else if far1 m v r ≤ v + 9223372036854775808 then (v - far1 m v r, true) else (0, false)
theorem up_s {m r v : Int} (hm : U64 m) (hr : U64 r) (hv : I64 v) : cong_Up m r v = upS m r v := by
  have hm' := hm
  unfold U64 at hm'
  unfold I64 at hv
  unfold cong_Up cong_Up.c cong_next cong_next.c
  (try unfold cong_Up.c0)
  (try unfold cong_next.c0)
  simp only [norm_s hm hr, alone_s, mod_s hv hm, id, cbe, show decide ((1 : Int) < 0) = false from rfl, cond_false, show decide ((1 : Int) > 0) = true from rfl, Int.mul_one, Bool.cond_decide]
  unfold upS
  by_cases h : m = 0
  · rw [if_pos h, if_pos h]
    have e : nr m r = r := by unfold nr; rw [if_pos h]
    rw [e]
    by_cases g : IntKind.i64.wrap r = v
    · rw [if_pos g, if_neg (by omega)]
    · rw [if_neg g]
      by_cases g2 : IntKind.i64.wrap r > v
      · rw [decide_eq_true g2, if_neg (by omega)]; rfl
      · rw [decide_eq_false g2, if_pos (by omega)]; rfl
  · rw [if_neg h, if_neg h]
    have e : nr m r = r % m := by unfold nr; rw [if_neg h]
    have e2 : md v m = v % m := by unfold md; rw [if_neg h]
    have a1 := Int.emod_nonneg r h
    have a2 := Int.emod_lt_of_pos r (show 0 < m by omega)
    have b1 := Int.emod_nonneg v h
    have b2 := Int.emod_lt_of_pos v (show 0 < m by omega)
    have hb := far1_b (m := m) (x := r) (y := v) (by omega)
    rw [e, e2]
    have hf := far1_s (m := m) (x := r) (y := v) (by omega)
    generalize far1 m r v = f at hf hb ⊢
    generalize r % m = x at *
    generalize v % m = y at *
    simp only [wu_eq, wi_eq]
    by_cases g : x ≥ y
    · rw [if_pos g] at hf
      rw [if_pos g]
      by_cases g2 : f ≤ 9223372036854775807 - v
      · rw [if_pos g2, if_pos (by omega)]; simp only [Prod.mk.injEq, and_true]; omega
      · rw [if_neg g2, if_neg (by omega)]
    · rw [if_neg g] at hf
      rw [if_neg g]
      by_cases g2 : f ≤ 9223372036854775807 - v
      · rw [if_pos g2, if_pos (by omega)]; simp only [Prod.mk.injEq, and_true]; omega
      · rw [if_neg g2, if_neg (by omega)]
theorem dn_s {m r v : Int} (hm : U64 m) (hr : U64 r) (hv : I64 v) : cong_Down m r v = dnS m r v := by
  have hm' := hm
  unfold U64 at hm'
  unfold I64 at hv
  unfold cong_Down cong_Down.c cong_next cong_next.c
  (try unfold cong_Down.c0)
  (try unfold cong_next.c0)
  simp only [norm_s hm hr, alone_s, mod_s hv hm, id, cbe, show decide ((-1 : Int) < 0) = true from rfl, cond_true, show decide ((-1 : Int) > 0) = false from rfl, Int.mul_neg, Int.mul_one, Bool.cond_decide]
  unfold dnS
  by_cases h : m = 0
  · rw [if_pos h, if_pos h]
    have e : nr m r = r := by unfold nr; rw [if_pos h]
    rw [e]
    by_cases g : IntKind.i64.wrap r = v
    · rw [if_pos g, if_neg (by omega)]
    · rw [if_neg g]
      by_cases g2 : IntKind.i64.wrap r > v
      · rw [decide_eq_true g2, if_pos (by omega)]; rfl
      · rw [decide_eq_false g2, if_neg (by omega)]; rfl
  · rw [if_neg h, if_neg h]
    have e : nr m r = r % m := by unfold nr; rw [if_neg h]
    have e2 : md v m = v % m := by unfold md; rw [if_neg h]
    have a1 := Int.emod_nonneg r h
    have a2 := Int.emod_lt_of_pos r (show 0 < m by omega)
    have b1 := Int.emod_nonneg v h
    have b2 := Int.emod_lt_of_pos v (show 0 < m by omega)
    have hb := far1_b (m := m) (x := v) (y := r) (by omega)
    rw [e, e2]
    have hf := far1_s (m := m) (x := v) (y := r) (by omega)
    generalize far1 m v r = f at hf hb ⊢
    generalize r % m = x at *
    generalize v % m = y at *
    simp only [wu_eq, wi_eq]
    by_cases g : y ≥ x
    · rw [if_pos g] at hf
      rw [if_pos g]
      by_cases g2 : f ≤ v + 9223372036854775808
      · rw [if_pos g2, if_pos (by omega)]; simp only [Prod.mk.injEq, and_true]; omega
      · rw [if_neg g2, if_neg (by omega)]
    · rw [if_neg g] at hf
      rw [if_neg g]
      by_cases g2 : f ≤ v + 9223372036854775808
      · rw [if_pos g2, if_pos (by omega)]; simp only [Prod.mk.injEq, and_true]; omega
      · rw [if_neg g2, if_neg (by omega)]
theorem addMod_s {x y m : Int} (hm : U64 m) (hx : 0 ≤ x) (hx2 : x < m) (hy : 0 ≤ y) (hy2 : y < m) : ref_addMod x y m = (x + y) % m := by
  unfold U64 at hm
  unfold ref_addMod ref_addMod.c
  (try unfold ref_addMod.c0)
  simp only [Bool.cond_decide, id]
  rw [wu_id (x := m - y) (by omega) (by omega)]
  by_cases h : x ≥ m - y
  · rw [if_pos h, wu_id (by omega) (by omega)]
    exact (mod_of (q := 1) (by omega) (by omega) (by omega)).symm
  · rw [if_neg h, wu_id (by omega) (by omega), Int.emod_eq_of_lt (by omega) (by omega)]
theorem addMod_far {m x y : Int} (hm : U64 m) (h0 : m ≠ 0) : ref_addMod (x % m) (IntKind.u64.wrap (m - y % m) % m) m = far1 m x y := by
  have hm' := hm
  unfold U64 at hm'
  have a1 := Int.emod_nonneg x h0
  have a2 := Int.emod_lt_of_pos x (show 0 < m by omega)
  have b1 := Int.emod_nonneg y h0
  have b2 := Int.emod_lt_of_pos y (show 0 < m by omega)
  rw [wu_id (by omega) (by omega)]
  rw [addMod_s hm a1 a2 (Int.emod_nonneg _ h0) (Int.emod_lt_of_pos _ (by omega))]
  unfold far1
  rw [Int.add_emod, Int.emod_emod, Int.emod_emod, ← Int.add_emod, Int.sub_emod]
  rw [show x + (m - y % m) = (x - y % m) + m * 1 by omega, Int.add_mul_emod_self_left, Int.sub_emod, Int.emod_emod]
theorem up2_k {γ : Type} (n : γ) (k : Int × Bool → γ) {m r v : Int} (hm : U64 m) (hr : U64 r) (hv : I64 v) : ref_Up.c n k m r v = k (upS m r v) := by
  have hm' := hm
  unfold U64 at hm'
  have z : U64 0 := by unfold U64; omega
  have en : ref_number m r = IntKind.i64.wrap r := by unfold ref_number ref_number.c; (try unfold ref_number.c0); rfl
  unfold ref_Up.c upS
  (try unfold ref_Up.c0)
  simp only [en, const2_s, r_ok hm hr, r_s hm hr, r_s z (u64u v), cbe, cbd, Bool.cond_decide, of_u hm, cond_true]
  by_cases h : m = 0
  · rw [if_pos h, if_pos h]
    by_cases g : IntKind.i64.wrap r < v
    · rw [if_pos g, if_pos g]
    · rw [if_neg g, if_neg g]
  · rw [if_neg h, if_neg h, if_neg h]
    rw [rest2_ok _ (UD (av_val hm hr)) (UD hm) (by omega), rest2_ok _ (UD (av_val z (u64u v))) (UD hm) (by omega), rest2_s _ (UD (av_val hm hr)) (UD hm) (by omega), rest2_s _ (UD (av_val z (u64u v))) (UD hm) (by omega)]
    simp only [sgn, val0 hv, cond_true]
    rw [(sm (emod_U (x := val m r) hm h).2.2).2, (sm (emod_U (x := v) hm h).2.2).2]
    have e : val m r % m = r % m := by unfold val; rw [if_neg h, Int.emod_emod]
    rw [e, Int.tmod_eq_emod_of_nonneg (wu_lo _), addMod_far hm h]
    have hb := far1_b (m := m) (x := r) (y := v) (by omega)
    generalize far1 m r v = f at hb ⊢
    unfold I64 at hv
    simp only [wu_eq, wi_eq]
    by_cases g2 : f ≤ 9223372036854775807 - v
    · rw [if_pos g2, if_neg (by omega)]; congr 2; omega
    · rw [if_neg g2, if_pos (by omega)]
theorem up2_ok {m r v : Int} (hm : U64 m) (hr : U64 r) (hv : I64 v) : ref_Up.ok m r v = true := up2_k _ _ hm hr hv
theorem up2_s {m r v : Int} (hm : U64 m) (hr : U64 r) (hv : I64 v) : ref_Up m r v = upS m r v := up2_k _ _ hm hr hv
theorem dn2_k {γ : Type} (n : γ) (k : Int × Bool → γ) {m r v : Int} (hm : U64 m) (hr : U64 r) (hv : I64 v) : ref_Down.c n k m r v = k (dnS m r v) := by
  have hm' := hm
  unfold U64 at hm'
  have z : U64 0 := by unfold U64; omega
  have en : ref_number m r = IntKind.i64.wrap r := by unfold ref_number ref_number.c; (try unfold ref_number.c0); rfl
  unfold ref_Down.c dnS
  (try unfold ref_Down.c0)
  simp only [en, const2_s, r_ok hm hr, r_s hm hr, r_ok z (u64u v), r_s z (u64u v), cbe, cbd, Bool.cond_decide, of_u hm, cond_true]
  by_cases h : m = 0
  · rw [if_pos h, if_pos h]
    by_cases g : IntKind.i64.wrap r > v
    · rw [if_pos g, if_pos g]
    · rw [if_neg g, if_neg g]
  · rw [if_neg h, if_neg h, if_neg h]
    rw [rest2_ok _ (UD (av_val hm hr)) (UD hm) (by omega), rest2_ok _ (UD (av_val z (u64u v))) (UD hm) (by omega), rest2_s _ (UD (av_val hm hr)) (UD hm) (by omega), rest2_s _ (UD (av_val z (u64u v))) (UD hm) (by omega)]
    simp only [sgn, val0 hv, cond_true]
    rw [(sm (emod_U (x := val m r) hm h).2.2).2, (sm (emod_U (x := v) hm h).2.2).2]
    have e : val m r % m = r % m := by unfold val; rw [if_neg h, Int.emod_emod]
    rw [e, Int.tmod_eq_emod_of_nonneg (wu_lo _), addMod_far hm h]
    have hb := far1_b (m := m) (x := v) (y := r) (by omega)
    generalize far1 m v r = f at hb ⊢
    unfold I64 at hv
    simp only [wu_eq, wi_eq]
    by_cases g2 : f ≤ v + 9223372036854775808
    · rw [if_pos g2, if_neg (by omega)]; congr 2; omega
    · rw [if_neg g2, if_pos (by omega)]
theorem dn2_ok {m r v : Int} (hm : U64 m) (hr : U64 r) (hv : I64 v) : ref_Down.ok m r v = true := dn2_k _ _ hm hr hv
theorem dn2_s {m r v : Int} (hm : U64 m) (hr : U64 r) (hv : I64 v) : ref_Down m r v = dnS m r v := dn2_k _ _ hm hr hv
end Go.Proofs.YtonpbbhlmapbdaaGreatDoor.V.B
