/- Normal forms, order, members, joins, next numbers of classes. Conditions: none. -/
import Derived.Test.YtonpbbhlmapbdaaGreatDoorBN1
set_option linter.unusedVariables false
set_option linter.unusedSimpArgs false
namespace Go.Proofs.YtonpbbhlmapbdaaGreatDoor.V.B
open Go Go.Wk

/-- a number of two words -/
def D (x : Int) : Prop := 0 ≤ x ∧ x < 340282366920938463463374607431768211456
theorem less_s {x y : Int} (hx : D x) (hy : D y) : ref_less (x / 18446744073709551616) (x % 18446744073709551616) (y / 18446744073709551616) (y % 18446744073709551616) = decide (x < y) := by
  unfold D at hx hy
  unfold ref_less ref_less.c
  (try unfold ref_less.c0)
  simp only [Bool.cond_decide, cbe, id]
  by_cases h1 : x / 18446744073709551616 < y / 18446744073709551616
  · rw [if_pos h1, eq_comm, decide_eq_true_eq]; omega
  · rw [if_neg h1]
    by_cases h2 : x / 18446744073709551616 = y / 18446744073709551616
    · rw [if_pos h2, decide_eq_decide]; omega
    · rw [if_neg h2, eq_comm, decide_eq_false_iff_not]; omega
theorem minus2_s {x y : Int} (hx : D x) (hy : D y) : ref_minus (x / 18446744073709551616) (x % 18446744073709551616) (y / 18446744073709551616) (y % 18446744073709551616) = ((x - y) % 340282366920938463463374607431768211456 / 18446744073709551616, (x - y) % 18446744073709551616) := by
  unfold D at hx hy
  unfold ref_minus ref_minus.c
  (try unfold ref_minus.c0)
  simp only [Bool.cond_decide, id, wu_eq]
  by_cases h1 : x % 18446744073709551616 < y % 18446744073709551616
  · rw [if_pos h1]; congr 1 <;> omega
  · rw [if_neg h1]; congr 1 <;> omega
theorem or_bit {t b : Int} (ht : U64 t) (h2 : t % 2 = 0) (hb : 0 ≤ b ∧ b < 2) : orI .u64 t b = t + b := by
  unfold U64 at ht
  have := or_sum (t / 2).toNat b.toNat 1 (by omega) (by omega) (by decide)
  rw [show (((t / 2).toNat : Nat) : Int) * 2 ^ 1 = t by omega, show ((b.toNat : Nat) : Int) = b by omega] at this
  exact this
theorem twice_s {x b : Int} (hx : D x) (hb : 0 ≤ b ∧ b < 2) : ref_twice (x / 18446744073709551616) (x % 18446744073709551616) b = ((2 * x + b) % 340282366920938463463374607431768211456 / 18446744073709551616, (2 * x + b) % 18446744073709551616, decide (340282366920938463463374607431768211456 ≤ 2 * x + b)) := by
  unfold D at hx
  unfold ref_twice ref_twice.c
  (try unfold ref_twice.c0)
  have e1 : ∀ z : Int, z * 2 ^ min (Int.toNat 1) IntKind.u64.bits = z * 2 := fun z => rfl
  have e2 : ∀ z : Int, z.fdiv (2 ^ min (Int.toNat 63) IntKind.u64.bits) = z / 9223372036854775808 := fun z => shr_k 63 (by decide) z
  simp only [id, e1, e2, wu_eq]
  rw [or_bit (by unfold U64; omega) (by omega) (by omega), or_bit (by unfold U64; omega) (by omega) hb]
  simp only [Prod.mk.injEq]
  refine ⟨by omega, by omega, ?_⟩
  rw [Bool.eq_iff_iff, beq_iff_eq, decide_eq_true_eq]
  omega
theorem twice0 {x : Int} (hx : D x) (h2 : 2 * x < 340282366920938463463374607431768211456) : ref_twice (x / 18446744073709551616) (x % 18446744073709551616) 0 = (2 * x / 18446744073709551616, 2 * x % 18446744073709551616, false) := by
  rw [twice_s hx (by omega)]
  unfold D at hx
  simp only [Prod.mk.injEq, decide_eq_false_iff_not]
  refine ⟨by omega, by omega, by omega⟩
theorem bit_k {γ : Type} (n : γ) (k : Int → γ) {x : Int} (hx : D x) (i : Nat) (hi : i < 128) : ref_bitOf.c n k (x / 18446744073709551616) (x % 18446744073709551616) (i : Int) = k (x / 2 ^ i % 2) := by
  unfold D at hx
  unfold ref_bitOf.c ref_bitOf.c0
  have e0 : ¬ (i : Int) < 0 := by omega
  simp only [cbd, Bool.cond_decide, if_neg e0]
  have hp : (0 : Int) < 2 ^ i := Int.pow_pos (by decide)
  by_cases h : (i : Int) < 64
  · rw [if_pos h, Int.toNat_natCast, shr_k i (by omega), and_one]
    congr 1
    have h64 : (2 : Int) ^ i * 2 ^ (64 - i) = 18446744073709551616 := by rw [← Int.pow_add, show i + (64 - i) = 64 by omega]; rfl
    have e : x % 18446744073709551616 = x - 2 ^ i * (2 ^ (64 - i) * (x / 18446744073709551616)) := by rw [← Int.mul_assoc, h64]; omega
    rw [e, Int.sub_eq_add_neg, ← Int.mul_neg, Int.add_mul_ediv_left _ _ (by omega)]
    have h2 : (2 : Int) ^ (64 - i) = 2 * 2 ^ (63 - i) := by rw [show 64 - i = (63 - i) + 1 by omega, Int.pow_succ, Int.mul_comm]
    rw [h2, Int.mul_assoc]
    omega
  · have e1 : IntKind.i64.wrap ((i : Int) - 64) = ((i - 64 : Nat) : Int) := by rw [wi_id (by omega) (by omega)]; omega
    have e2 : ¬ (((i - 64 : Nat) : Int) < 0) := by omega
    rw [if_neg h, e1, if_neg e2, Int.toNat_natCast, shr_k _ (by omega), and_one]
    congr 2
    have : (2 : Int) ^ i = 18446744073709551616 * 2 ^ (i - 64) := by
      conv => lhs; rw [show i = 64 + (i - 64) by omega, Int.pow_add]
      rfl
    rw [this, Int.ediv_ediv_of_nonneg (by decide)]
theorem half (A : Int) (i : Nat) : A / 2 ^ i = 2 * (A / 2 ^ (i + 1)) + A / 2 ^ i % 2 := by
  have : (2 : Int) ^ (i + 1) = 2 ^ i * 2 := Int.pow_succ 2 i
  rw [this, ← Int.ediv_ediv_of_nonneg (Int.le_of_lt (Int.pow_pos (by decide)))]
  omega
theorem qr_step {X X' M b : Int} (hM : 0 < M) (hX : X' = 2 * X + b) (hb : 0 ≤ b ∧ b < 2) :
    (M ≤ 2 * (X % M) + b → X' / M = 2 * (X / M) + 1 ∧ X' % M = 2 * (X % M) + b - M) ∧ (¬ M ≤ 2 * (X % M) + b → X' / M = 2 * (X / M) ∧ X' % M = 2 * (X % M) + b) := by
  have h1 := Int.emod_nonneg X (show M ≠ 0 by omega)
  have h2 := Int.emod_lt_of_pos X hM
  have h3 := Int.emod_add_mul_ediv X M
  constructor
  · intro h
    have := (Int.ediv_emod_unique (a := X') (b := M) (r := 2 * (X % M) + b - M) (q := 2 * (X / M) + 1) hM).2 ⟨by rw [Int.mul_add, Int.mul_left_comm]; omega, by omega, by omega⟩
    exact this
  · intro h
    have := (Int.ediv_emod_unique (a := X') (b := M) (r := 2 * (X % M) + b) (q := 2 * (X / M)) hM).2 ⟨by rw [Int.mul_left_comm]; omega, by omega, by omega⟩
    exact this
theorem ediv_D {A : Int} (hA : D A) {p : Int} (hp : 0 < p) : D (A / p) := by
  unfold D at *
  exact ⟨Int.ediv_nonneg hA.1 (by omega), Int.lt_of_le_of_lt (Int.ediv_le_self p hA.1) hA.2⟩
theorem parted_L (N : Nat) {A M c0 c1 d0 d1 : Int} (hA : D A) (hM : D M) (h0 : 0 < M) : ∀ (i m : Nat), i ≤ 128 → i < m →
    ref_parted.L0 N m ((i : Int) - 1, A / 18446744073709551616, A % 18446744073709551616, M / 18446744073709551616, M % 18446744073709551616, c0, c1, d0, d1, A / 2 ^ i / M / 18446744073709551616, A / 2 ^ i / M % 18446744073709551616, A / 2 ^ i % M / 18446744073709551616, A / 2 ^ i % M % 18446744073709551616)
      = some (A / M / 18446744073709551616, A / M % 18446744073709551616, A % M / 18446744073709551616, A % M % 18446744073709551616)
  | 0, 0, _, h => by omega
  | 0, m + 1, hi, hm => by
    unfold ref_parted.L0 ref_parted.l0.c
    (try unfold ref_parted.l0.c0)
    simp only [Bool.cond_decide]
    rw [if_neg (by omega)]
    simp
  | i + 1, 0, _, h => by omega
  | i + 1, m + 1, hi, hm => by
    have ih := parted_L N (c0 := c0) (c1 := c1) (d0 := d0) (d1 := d1) hA hM h0 i m (by omega) (by omega)
    have hb : 0 ≤ A / 2 ^ i % 2 ∧ A / 2 ^ i % 2 < 2 := by omega
    have hp : (0 : Int) < 2 ^ i := Int.pow_pos (by decide)
    have hp1 : (0 : Int) < 2 ^ (i + 1) := Int.pow_pos (by decide)
    have hX := half A i
    obtain ⟨s1, s2⟩ := qr_step h0 hX hb
    have r1 := Int.emod_nonneg (A / 2 ^ (i + 1)) (show M ≠ 0 by omega)
    have r2 := Int.emod_lt_of_pos (A / 2 ^ (i + 1)) h0
    have hq : D (A / 2 ^ i / M) := ediv_D (ediv_D hA hp) h0
    have hq1 : D (A / 2 ^ (i + 1) / M) := ediv_D (ediv_D hA hp1) h0
    have hr : D (A / 2 ^ (i + 1) % M) := by unfold D at *; omega
    have hq2 : 2 * (A / 2 ^ (i + 1) / M) < 340282366920938463463374607431768211456 := by
      by_cases h : M ≤ 2 * (A / 2 ^ (i + 1) % M) + A / 2 ^ i % 2
      · have := (s1 h).1; unfold D at hq; omega
      · have := (s2 h).1; unfold D at hq; omega
    have ei : IntKind.i64.wrap (((i + 1 : Nat) : Int) - 1 - 1) = (i : Int) - 1 := by rw [wi_id (by omega) (by omega)]; omega
    have ei2 : ((i + 1 : Nat) : Int) - 1 = (i : Int) := by omega
    unfold ref_parted.L0 ref_parted.l0.c
    (try unfold ref_parted.l0.c0)
    simp only [Bool.cond_decide, ei]
    rw [if_pos (by omega)]
    rw [ei2]
    unfold ref_bitOf.ok ref_bitOf
    simp only [bit_k _ _ hA i (by omega), id, cond_true]
    rw [twice_s hr hb, twice0 hq1 hq2]
    simp only
    have hor : orI .u64 (2 * (A / 2 ^ (i + 1) / M) % 18446744073709551616) 1 = (2 * (A / 2 ^ (i + 1) / M) + 1) % 18446744073709551616 := by
      rw [or_bit (by unfold U64; omega) (by omega) (by omega)]; omega
    rw [hor]
    generalize hr2 : 2 * (A / 2 ^ (i + 1) % M) + A / 2 ^ i % 2 = r at s1 s2
    have hr0 : 0 ≤ r ∧ r < 2 * M := by omega
    have hrm : D (r % 340282366920938463463374607431768211456) := by unfold D; omega
    have er : r % 18446744073709551616 = r % 340282366920938463463374607431768211456 % 18446744073709551616 := by omega
    rw [er, less_s hrm hM, minus2_s hrm hM]
    by_cases h : M ≤ r
    · obtain ⟨g1, g2⟩ := s1 h
      rw [g1, g2] at ih
      unfold D at hM hq1
      have k1 : (r % 340282366920938463463374607431768211456 - M) % 340282366920938463463374607431768211456 / 18446744073709551616 = (r - M) / 18446744073709551616 := by omega
      have k2 : (r % 340282366920938463463374607431768211456 - M) % 18446744073709551616 = (r - M) % 18446744073709551616 := by omega
      have k3 : 2 * (A / 2 ^ (i + 1) / M) / 18446744073709551616 = (2 * (A / 2 ^ (i + 1) / M) + 1) / 18446744073709551616 := by omega
      simp only [k1, k2, k3]
      by_cases hb2 : 340282366920938463463374607431768211456 ≤ r
      · rw [decide_eq_true hb2]; exact ih
      · rw [decide_eq_false hb2, decide_eq_false (show ¬ r % 340282366920938463463374607431768211456 < M by omega)]; exact ih
    · obtain ⟨g1, g2⟩ := s2 h
      rw [g1, g2] at ih
      unfold D at hM
      rw [decide_eq_false (show ¬ 340282366920938463463374607431768211456 ≤ r by omega), show r % 340282366920938463463374607431768211456 = r by omega, decide_eq_true (show r < M by omega)]
      exact ih
theorem of_s (x : Int) : ref_of x = (0, x) := by unfold ref_of ref_of.c; (try unfold ref_of.c0); rfl
theorem parted_o {A M : Int} (hA : D A) (hM : D M) (h0 : 0 < M) : ref_parted.o 130 (A / 18446744073709551616) (A % 18446744073709551616) (M / 18446744073709551616) (M % 18446744073709551616) = some (A / M / 18446744073709551616, A / M % 18446744073709551616, A % M / 18446744073709551616, A % M % 18446744073709551616) := by
  have key := parted_L 130 (c0 := 0) (c1 := 0) (d0 := 0) (d1 := 0) hA hM h0 128 130 (by decide) (by decide)
  have e128 : A / 2 ^ 128 = 0 := by
    unfold D at hA
    have : (2 : Int) ^ 128 = 340282366920938463463374607431768211456 := by decide
    rw [this]; omega
  rw [e128] at key
  simp only [Int.zero_ediv, Int.zero_emod] at key
  unfold ref_parted.o ref_parted.c
  (try unfold ref_parted.c0)
  simp only [cbe, cbd, of_s]
  by_cases h1 : A / 18446744073709551616 = 0
  · rw [if_pos h1]
    by_cases h2 : M / 18446744073709551616 = 0
    · unfold D at hA hM
      have eA : A % 18446744073709551616 = A := by omega
      have eM : M % 18446744073709551616 = M := by omega
      have q1 := Int.ediv_nonneg hA.1 (show 0 ≤ M by omega)
      have q2 := Int.ediv_le_self M hA.1
      have q3 := Int.emod_nonneg A (show M ≠ 0 by omega)
      have q4 := Int.emod_lt_of_pos A h0
      rw [if_pos h2, eA, eM, if_neg (by omega), if_neg (by omega), Int.tdiv_eq_ediv_of_nonneg hA.1, Int.tmod_eq_emod_of_nonneg hA.1, wu_id (by omega) (by omega)]
      simp only [Option.some.injEq, Prod.mk.injEq]
      refine ⟨by omega, by omega, by omega, by omega⟩
    · rw [if_neg h2]; exact key
  · rw [if_neg h1]; exact key
theorem parted_g {A M : Int} (hA : D A) (hM : D M) (h0 : 0 < M) : ref_parted.g (A / 18446744073709551616) (A % 18446744073709551616) (M / 18446744073709551616) (M % 18446744073709551616) = true := by
  unfold ref_parted.g; rw [hide_eq, parted_o hA hM h0]; rfl
theorem parted_s {A M : Int} (hA : D A) (hM : D M) (h0 : 0 < M) : ref_parted (A / 18446744073709551616) (A % 18446744073709551616) (M / 18446744073709551616) (M % 18446744073709551616) = (A / M / 18446744073709551616, A / M % 18446744073709551616, A % M / 18446744073709551616, A % M % 18446744073709551616) := by
  unfold ref_parted; rw [hide_eq, parted_o hA hM h0]; rfl

open Go Go.Wk

theorem UD {x : Int} (h : U64 x) : D x := by unfold U64 at h; unfold D; omega
theorem sm {x : Int} (h : U64 x) : x / 18446744073709551616 = 0 ∧ x % 18446744073709551616 = x := by unfold U64 at h; omega
theorem of_u {x : Int} (h : U64 x) : ref_of x = (x / 18446744073709551616, x % 18446744073709551616) := by
  rw [of_s, (sm h).1, (sm h).2]
theorem gg_D {a b : Int} (ha : D a) (hb : D b) : D (gg a b) := by
  unfold D at *
  refine ⟨gg_nonneg a b, ?_⟩
  by_cases h : a = 0
  · by_cases h' : b = 0
    · subst h h'; decide
    · rw [gg_comm]; have := gg_le hb.1 ha.1 h'; omega
  · have := gg_le ha.1 hb.1 h; omega
def av (v : Int) : Int := if v < 0 then -v else v
theorem far2_s {v : Int} (hv : I64 v) : ref_far v = av v := by
  unfold I64 at hv
  unfold ref_far ref_far.c ref_far.c0 av
  simp only [Bool.cond_decide, id, wu_eq]
  by_cases h : v < 0
  · simp only [if_pos h]; omega
  · simp only [if_neg h]; omega
theorem av_U {v : Int} (hv : I64 v) : U64 (av v) := by unfold I64 at hv; unfold U64 av; split <;> omega
/-- a raw class's remainder, in normal form -/
def nr (m r : Int) : Int := if m = 0 then r else r % m
/-- a raw class's whole number -/
def val (m r : Int) : Int := if m = 0 then IntKind.i64.wrap r else r % m
theorem val_nr (m r : Int) : vc m (nr m r) = val m r := by unfold vc nr val; by_cases h : m = 0 <;> simp [h]
theorem nr_U {m r : Int} (hm : U64 m) (hr : U64 r) : U64 (nr m r) := by
  unfold nr; by_cases h : m = 0
  · rw [if_pos h]; exact hr
  · rw [if_neg h]; exact (emod_U hm h).2.2
theorem norm_k {γ : Type} (n : γ) (k : Int × Int → γ) {m r : Int} (hm : U64 m) (hr : U64 r) : cong_Norm.c n k m r = k (m, nr m r) := by
  unfold U64 at *
  unfold cong_Norm.c nr
  (try unfold cong_Norm.c0)
  simp only [Bool.cond_decide, cbd]
  by_cases h : m = 0
  · rw [if_neg (by omega), if_pos h]
  · rw [if_pos (by omega), if_neg h, if_neg h, Int.tmod_eq_emod_of_nonneg hr.1]
theorem norm_s {m r : Int} (hm : U64 m) (hr : U64 r) : cong_Norm m r = (m, nr m r) := norm_k _ _ hm hr
theorem norm2_k {γ : Type} (n : γ) (k : Int × Int → γ) {m r : Int} (hm : U64 m) (hr : U64 r) : ref_Norm.c n k m r = k (m, nr m r) := by
  unfold U64 at *
  unfold ref_Norm.c nr
  (try unfold ref_Norm.c0)
  simp only [Bool.cond_decide, cbd]
  by_cases h : m = 0
  · rw [if_neg (by omega), if_pos h]
  · rw [if_pos (by omega), if_neg h, if_neg h, Int.tmod_eq_emod_of_nonneg hr.1]
theorem norm2_s {m r : Int} (hm : U64 m) (hr : U64 r) : ref_Norm m r = (m, nr m r) := norm2_k _ _ hm hr
theorem r_k {γ : Type} (n : γ) (k : Int × Int × Bool → γ) {m r : Int} (hm : U64 m) (hr : U64 r) : ref_r.c n k m r = k (av (val m r) / 18446744073709551616, av (val m r) % 18446744073709551616, decide (val m r < 0)) := by
  have en : ref_number m r = IntKind.i64.wrap r := by unfold ref_number ref_number.c; (try unfold ref_number.c0); rfl
  unfold ref_r.c val
  (try unfold ref_r.c0)
  simp only [en, far2_s (i64u r), cbe, cbd]
  by_cases h : m = 0
  · simp only [if_pos h, of_u (av_U (i64u r))]
  · have := (emod_U (x := r) hm h)
    unfold U64 at *
    simp only [if_neg h, Int.tmod_eq_emod_of_nonneg hr.1]
    have e : av (r % m) = r % m := by unfold av; rw [if_neg (by omega)]
    rw [e, of_u this.2.2, decide_eq_false (by omega)]
theorem r_ok {m r : Int} (hm : U64 m) (hr : U64 r) : ref_r.ok m r = true := r_k _ _ hm hr
theorem r_s {m r : Int} (hm : U64 m) (hr : U64 r) : ref_r m r = (av (val m r) / 18446744073709551616, av (val m r) % 18446744073709551616, decide (val m r < 0)) := r_k _ _ hm hr
theorem val_b {m r : Int} (hm : U64 m) (hr : U64 r) : -9223372036854775808 ≤ val m r ∧ val m r < 18446744073709551616 := by
  unfold val
  by_cases h : m = 0
  · rw [if_pos h]; have := i64u r; unfold I64 at this; omega
  · rw [if_neg h]; have := emod_U (x := r) hm h; unfold U64 at hm; omega
theorem av_val {m r : Int} (hm : U64 m) (hr : U64 r) : U64 (av (val m r)) := by
  have := val_b hm hr
  unfold U64 av; split <;> omega
theorem neg_mod {A m : Int} (h0 : 0 < m) : (-A) % m = if A % m = 0 then 0 else m - A % m := by
  have h1 := Int.emod_nonneg A (show m ≠ 0 by omega)
  have h2 := Int.emod_lt_of_pos A h0
  have h3 := Int.emod_add_mul_ediv A m
  by_cases h : A % m = 0
  · rw [if_pos h]
    refine mod_of (q := -(A / m)) ?_ (by omega) (by omega)
    rw [Int.mul_neg]; omega
  · rw [if_neg h]
    refine mod_of (q := -(A / m) - 1) ?_ (by omega) (by omega)
    rw [Int.mul_sub, Int.mul_neg, Int.mul_one]; omega
theorem rest2_k {γ : Type} (n : γ) (k : Int × Int → γ) {A m : Int} (b : Bool) (hA : D A) (hm : D m) (h0 : 0 < m) : ref_rest.c n k (A / 18446744073709551616) (A % 18446744073709551616) b (m / 18446744073709551616) (m % 18446744073709551616) = k ((if b then -A else A) % m / 18446744073709551616, (if b then -A else A) % m % 18446744073709551616) := by
  unfold ref_rest.c
  (try unfold ref_rest.c0)
  simp only [parted_g hA hm h0, parted_s hA hm h0, cond_true]
  cases b with
  | false => rfl
  | true =>
    have h1 := Int.emod_nonneg A (show m ≠ 0 by omega)
    have h2 := Int.emod_lt_of_pos A h0
    have hAm : D (A % m) := by unfold D at *; omega
    simp only [cond_true, if_true]
    rw [minus2_s hm hAm, neg_mod h0]
    by_cases h : A % m = 0
    · rw [if_pos h, h]; rfl
    · have e : (A % m / 18446744073709551616 == 0 && (A % m % 18446744073709551616 == 0 && true)) = false := by
        rw [Bool.and_true, Bool.and_eq_false_iff]
        by_cases g : A % m / 18446744073709551616 = 0
        · right; simp; omega
        · left; simpa using g
      rw [if_neg h, e]
      simp only [Bool.not_false, cond_true]
      unfold D at hm
      congr 2
      omega
theorem rest2_ok {A m : Int} (b : Bool) (hA : D A) (hm : D m) (h0 : 0 < m) : ref_rest.ok (A / 18446744073709551616) (A % 18446744073709551616) b (m / 18446744073709551616) (m % 18446744073709551616) = true := rest2_k _ _ b hA hm h0
theorem rest2_s {A m : Int} (b : Bool) (hA : D A) (hm : D m) (h0 : 0 < m) : ref_rest (A / 18446744073709551616) (A % 18446744073709551616) b (m / 18446744073709551616) (m % 18446744073709551616) = ((if b then -A else A) % m / 18446744073709551616, (if b then -A else A) % m % 18446744073709551616) := rest2_k _ _ b hA hm h0
theorem sgn (v : Int) : (if decide (v < 0) then -av v else av v) = v := by
  unfold av; by_cases h : v < 0
  · rw [decide_eq_true h, if_pos h]; simp
  · rw [decide_eq_false h, if_neg h]; simp
/-- members -/
def hasS (m r v : Int) : Bool := if m = 0 then decide (v = IntKind.i64.wrap r) else decide (v % m = r % m)
theorem has_s {m r v : Int} (hm : U64 m) (hr : U64 r) (hv : I64 v) : cong_Has m r v = hasS m r v := by
  unfold cong_Has cong_Has.c hasS
  (try unfold cong_Has.c0)
  simp only [norm_s hm hr, mod_s hv hm, id]
  unfold md nr
  by_cases h : m = 0
  · simp only [if_pos h]
    rw [Bool.eq_iff_iff, beq_iff_eq, decide_eq_true_eq]
    unfold U64 at hr; unfold I64 at hv
    rw [wi_eq]; omega
  · simp only [if_neg h]
    rw [Bool.eq_iff_iff, beq_iff_eq, decide_eq_true_eq]
theorem const2_s (v : Int) : ref_Const v = (0, IntKind.u64.wrap v) := by unfold ref_Const ref_Const.c; (try unfold ref_Const.c0); rfl
theorem const_s (v : Int) : cong_Const v = (0, IntKind.u64.wrap v) := by unfold cong_Const cong_Const.c; (try unfold cong_Const.c0); rfl
theorem val0 {v : Int} (hv : I64 v) : val 0 (IntKind.u64.wrap v) = v := by
  unfold I64 at hv
  unfold val; rw [if_pos rfl, wi_eq, wu_eq]; omega
open Go Go.Wk

theorem gg_congr {g p q : Int} (hg : 0 ≤ g) (hp : 0 ≤ p) (hq : 0 ≤ q) (h : g ∣ p - q ∨ g ∣ p + q) : gg g p = gg g q := by
  have key : ∀ p q : Int, 0 ≤ p → 0 ≤ q → (g ∣ p - q ∨ g ∣ p + q) → gg g p ∣ gg g q := by
    intro p q hp hq h
    obtain ⟨h1, h2⟩ := gg_dvd hg hp
    refine dvd_gg hg hq h1 ?_
    rcases h with h | h
    · have := Int.dvd_sub h2 (Int.dvd_trans h1 h)
      rwa [show p - (p - q) = q by omega] at this
    · have := Int.dvd_sub (Int.dvd_trans h1 h) h2
      rwa [show p + q - p = q by omega] at this
  have h' : g ∣ q - p ∨ g ∣ q + p := by
    rcases h with h | h
    · left; have := Int.dvd_neg.2 h; rwa [show -(p - q) = q - p by omega] at this
    · right; rwa [Int.add_comm]
  exact Int.dvd_antisymm (gg_nonneg _ _) (gg_nonneg _ _) (key p q hp hq h) (key q p hq hp h')
theorem gg0 {a : Int} (ha : 0 ≤ a) : gg 0 a = a := by rw [gg_comm, gg_zero ha]
/-- how far apart two whole numbers are -/
def dst (x y : Int) : Int := if x < y then y - x else x - y
theorem zero2 {g : Int} (hg : D g) : (g / 18446744073709551616 == 0 && (g % 18446744073709551616 == 0 && true)) = decide (g = 0) := by
  unfold D at hg
  rw [Bool.eq_iff_iff]
  simp only [Bool.and_true, Bool.and_eq_true, beq_iff_eq, decide_eq_true_eq]
  omega
theorem dst_u {x y : Int} (hx : U64 x) (hy : U64 y) : IntKind.u64.wrap ((if y > x then y else x) - (if y < x then y else x)) = dst x y := by
  unfold U64 at *
  unfold dst
  simp only [wu_eq]
  (repeat' split) <;> omega
/-- how far it is from a number to a class's next -/
def far1 (m x y : Int) : Int := (x - y) % m
theorem far1_s {m x y : Int} (hm : 0 < m) : far1 m x y = if x % m ≥ y % m then x % m - y % m else m - y % m + x % m := by
  have a1 := Int.emod_nonneg x (show m ≠ 0 by omega)
  have a2 := Int.emod_lt_of_pos x hm
  have b1 := Int.emod_nonneg y (show m ≠ 0 by omega)
  have b2 := Int.emod_lt_of_pos y hm
  unfold far1
  rw [Int.sub_emod]
  by_cases h : x % m ≥ y % m
  · rw [if_pos h, Int.emod_eq_of_lt (by omega) (by omega)]
  · rw [if_neg h]
    exact mod_of (q := -1) (by rw [Int.mul_neg, Int.mul_one]; omega) (by omega) (by omega)
theorem far1_b {m x y : Int} (hm : 0 < m) : 0 ≤ far1 m x y ∧ far1 m x y < m := ⟨Int.emod_nonneg _ (by omega), Int.emod_lt_of_pos _ hm⟩
def upS (m r v : Int) : Int × Bool := if m = 0 then (if IntKind.i64.wrap r < v then (0, false) else (IntKind.i64.wrap r, true)) else if far1 m r v ≤ 9223372036854775807 - v then (v + far1 m r v, true) else (0, false)
def dnS (m r v : Int) : Int × Bool := if m = 0 then (if IntKind.i64.wrap r > v then (0, false) else (IntKind.i64.wrap r, true)) else if far1 m v r ≤ v + 9223372036854775808 then (v - far1 m v r, true) else (0, false)
theorem up_s {m r v : Int} (hm : U64 m) (hr : U64 r) (hv : I64 v) : cong_Up m r v = upS m r v := by
  have hm' := hm
  unfold U64 at hm'
  unfold I64 at hv
  unfold cong_Up cong_Up.c cong_next cong_next.c
  (try unfold cong_Up.c0)
  (try unfold cong_next.c0)
  simp only [norm_s hm hr, alone_s, mod_s hv hm, id, cbe, show decide ((1 : Int) < 0) = false from rfl, cond_false, show decide ((1 : Int) > 0) = true from rfl, Int.mul_one, Bool.cond_decide]
  unfold upS
  by_cases h : m = 0
  · rw [if_pos h, if_pos h]
    have e : nr m r = r := by unfold nr; rw [if_pos h]
    rw [e]
    by_cases g : IntKind.i64.wrap r = v
    · rw [if_pos g, if_neg (by omega)]
    · rw [if_neg g]
      by_cases g2 : IntKind.i64.wrap r > v
      · rw [decide_eq_true g2, if_neg (by omega)]; rfl
      · rw [decide_eq_false g2, if_pos (by omega)]; rfl
  · rw [if_neg h, if_neg h]
    have e : nr m r = r % m := by unfold nr; rw [if_neg h]
    have e2 : md v m = v % m := by unfold md; rw [if_neg h]
    have a1 := Int.emod_nonneg r h
    have a2 := Int.emod_lt_of_pos r (show 0 < m by omega)
    have b1 := Int.emod_nonneg v h
    have b2 := Int.emod_lt_of_pos v (show 0 < m by omega)
    have hb := far1_b (m := m) (x := r) (y := v) (by omega)
    rw [e, e2]
    have hf := far1_s (m := m) (x := r) (y := v) (by omega)
    generalize far1 m r v = f at hf hb ⊢
    generalize r % m = x at *
    generalize v % m = y at *
    simp only [wu_eq, wi_eq]
    by_cases g : x ≥ y
    · rw [if_pos g] at hf
      rw [if_pos g]
      by_cases g2 : f ≤ 9223372036854775807 - v
      · rw [if_pos g2, if_pos (by omega)]; simp only [Prod.mk.injEq, and_true]; omega
      · rw [if_neg g2, if_neg (by omega)]
    · rw [if_neg g] at hf
      rw [if_neg g]
      by_cases g2 : f ≤ 9223372036854775807 - v
      · rw [if_pos g2, if_pos (by omega)]; simp only [Prod.mk.injEq, and_true]; omega
      · rw [if_neg g2, if_neg (by omega)]
theorem dn_s {m r v : Int} (hm : U64 m) (hr : U64 r) (hv : I64 v) : cong_Down m r v = dnS m r v := by
  have hm' := hm
  unfold U64 at hm'
  unfold I64 at hv
  unfold cong_Down cong_Down.c cong_next cong_next.c
  (try unfold cong_Down.c0)
  (try unfold cong_next.c0)
  simp only [norm_s hm hr, alone_s, mod_s hv hm, id, cbe, show decide ((-1 : Int) < 0) = true from rfl, cond_true, show decide ((-1 : Int) > 0) = false from rfl, Int.mul_neg, Int.mul_one, Bool.cond_decide]
  unfold dnS
  by_cases h : m = 0
  · rw [if_pos h, if_pos h]
    have e : nr m r = r := by unfold nr; rw [if_pos h]
    rw [e]
    by_cases g : IntKind.i64.wrap r = v
    · rw [if_pos g, if_neg (by omega)]
    · rw [if_neg g]
      by_cases g2 : IntKind.i64.wrap r > v
      · rw [decide_eq_true g2, if_pos (by omega)]; rfl
      · rw [decide_eq_false g2, if_neg (by omega)]; rfl
  · rw [if_neg h, if_neg h]
    have e : nr m r = r % m := by unfold nr; rw [if_neg h]
    have e2 : md v m = v % m := by unfold md; rw [if_neg h]
    have a1 := Int.emod_nonneg r h
    have a2 := Int.emod_lt_of_pos r (show 0 < m by omega)
    have b1 := Int.emod_nonneg v h
    have b2 := Int.emod_lt_of_pos v (show 0 < m by omega)
    have hb := far1_b (m := m) (x := v) (y := r) (by omega)
    rw [e, e2]
    have hf := far1_s (m := m) (x := v) (y := r) (by omega)
    generalize far1 m v r = f at hf hb ⊢
    generalize r % m = x at *
    generalize v % m = y at *
    simp only [wu_eq, wi_eq]
    by_cases g : y ≥ x
    · rw [if_pos g] at hf
      rw [if_pos g]
      by_cases g2 : f ≤ v + 9223372036854775808
      · rw [if_pos g2, if_pos (by omega)]; simp only [Prod.mk.injEq, and_true]; omega
      · rw [if_neg g2, if_neg (by omega)]
    · rw [if_neg g] at hf
      rw [if_neg g]
      by_cases g2 : f ≤ v + 9223372036854775808
      · rw [if_pos g2, if_pos (by omega)]; simp only [Prod.mk.injEq, and_true]; omega
      · rw [if_neg g2, if_neg (by omega)]
theorem addMod_s {x y m : Int} (hm : U64 m) (hx : 0 ≤ x) (hx2 : x < m) (hy : 0 ≤ y) (hy2 : y < m) : ref_addMod x y m = (x + y) % m := by
  unfold U64 at hm
  unfold ref_addMod ref_addMod.c
  (try unfold ref_addMod.c0)
  simp only [Bool.cond_decide, id]
  rw [wu_id (x := m - y) (by omega) (by omega)]
  by_cases h : x ≥ m - y
  · rw [if_pos h, wu_id (by omega) (by omega)]
    exact (mod_of (q := 1) (by omega) (by omega) (by omega)).symm
  · rw [if_neg h, wu_id (by omega) (by omega), Int.emod_eq_of_lt (by omega) (by omega)]
theorem addMod_far {m x y : Int} (hm : U64 m) (h0 : m ≠ 0) : ref_addMod (x % m) (IntKind.u64.wrap (m - y % m) % m) m = far1 m x y := by
  have hm' := hm
  unfold U64 at hm'
  have a1 := Int.emod_nonneg x h0
  have a2 := Int.emod_lt_of_pos x (show 0 < m by omega)
  have b1 := Int.emod_nonneg y h0
  have b2 := Int.emod_lt_of_pos y (show 0 < m by omega)
  rw [wu_id (by omega) (by omega)]
  rw [addMod_s hm a1 a2 (Int.emod_nonneg _ h0) (Int.emod_lt_of_pos _ (by omega))]
  unfold far1
  rw [Int.add_emod, Int.emod_emod, Int.emod_emod, ← Int.add_emod, Int.sub_emod]
  rw [show x + (m - y % m) = (x - y % m) + m * 1 by omega, Int.add_mul_emod_self_left, Int.sub_emod, Int.emod_emod]
theorem up2_k {γ : Type} (n : γ) (k : Int × Bool → γ) {m r v : Int} (hm : U64 m) (hr : U64 r) (hv : I64 v) : ref_Up.c n k m r v = k (upS m r v) := by
  have hm' := hm
  unfold U64 at hm'
  have z : U64 0 := by unfold U64; omega
  have en : ref_number m r = IntKind.i64.wrap r := by unfold ref_number ref_number.c; (try unfold ref_number.c0); rfl
  unfold ref_Up.c upS
  (try unfold ref_Up.c0)
  simp only [en, const2_s, r_ok hm hr, r_s hm hr, r_s z (u64u v), cbe, cbd, Bool.cond_decide, of_u hm, cond_true]
  by_cases h : m = 0
  · rw [if_pos h, if_pos h]
    by_cases g : IntKind.i64.wrap r < v
    · rw [if_pos g, if_pos g]
    · rw [if_neg g, if_neg g]
  · rw [if_neg h, if_neg h, if_neg h]
    rw [rest2_ok _ (UD (av_val hm hr)) (UD hm) (by omega), rest2_ok _ (UD (av_val z (u64u v))) (UD hm) (by omega), rest2_s _ (UD (av_val hm hr)) (UD hm) (by omega), rest2_s _ (UD (av_val z (u64u v))) (UD hm) (by omega)]
    simp only [sgn, val0 hv, cond_true]
    rw [(sm (emod_U (x := val m r) hm h).2.2).2, (sm (emod_U (x := v) hm h).2.2).2]
    have e : val m r % m = r % m := by unfold val; rw [if_neg h, Int.emod_emod]
    rw [e, Int.tmod_eq_emod_of_nonneg (wu_lo _), addMod_far hm h]
    have hb := far1_b (m := m) (x := r) (y := v) (by omega)
    generalize far1 m r v = f at hb ⊢
    unfold I64 at hv
    simp only [wu_eq, wi_eq]
    by_cases g2 : f ≤ 9223372036854775807 - v
    · rw [if_pos g2, if_neg (by omega)]; congr 2; omega
    · rw [if_neg g2, if_pos (by omega)]
theorem up2_ok {m r v : Int} (hm : U64 m) (hr : U64 r) (hv : I64 v) : ref_Up.ok m r v = true := up2_k _ _ hm hr hv
theorem up2_s {m r v : Int} (hm : U64 m) (hr : U64 r) (hv : I64 v) : ref_Up m r v = upS m r v := up2_k _ _ hm hr hv
theorem dn2_k {γ : Type} (n : γ) (k : Int × Bool → γ) {m r v : Int} (hm : U64 m) (hr : U64 r) (hv : I64 v) : ref_Down.c n k m r v = k (dnS m r v) := by
  have hm' := hm
  unfold U64 at hm'
  have z : U64 0 := by unfold U64; omega
  have en : ref_number m r = IntKind.i64.wrap r := by unfold ref_number ref_number.c; (try unfold ref_number.c0); rfl
  unfold ref_Down.c dnS
  (try unfold ref_Down.c0)
  simp only [en, const2_s, r_ok hm hr, r_s hm hr, r_ok z (u64u v), r_s z (u64u v), cbe, cbd, Bool.cond_decide, of_u hm, cond_true]
  by_cases h : m = 0
  · rw [if_pos h, if_pos h]
    by_cases g : IntKind.i64.wrap r > v
    · rw [if_pos g, if_pos g]
    · rw [if_neg g, if_neg g]
  · rw [if_neg h, if_neg h, if_neg h]
    rw [rest2_ok _ (UD (av_val hm hr)) (UD hm) (by omega), rest2_ok _ (UD (av_val z (u64u v))) (UD hm) (by omega), rest2_s _ (UD (av_val hm hr)) (UD hm) (by omega), rest2_s _ (UD (av_val z (u64u v))) (UD hm) (by omega)]
    simp only [sgn, val0 hv, cond_true]
    rw [(sm (emod_U (x := val m r) hm h).2.2).2, (sm (emod_U (x := v) hm h).2.2).2]
    have e : val m r % m = r % m := by unfold val; rw [if_neg h, Int.emod_emod]
    rw [e, Int.tmod_eq_emod_of_nonneg (wu_lo _), addMod_far hm h]
    have hb := far1_b (m := m) (x := v) (y := r) (by omega)
    generalize far1 m v r = f at hb ⊢
    unfold I64 at hv
    simp only [wu_eq, wi_eq]
    by_cases g2 : f ≤ v + 9223372036854775808
    · rw [if_pos g2, if_neg (by omega)]; congr 2; omega
    · rw [if_neg g2, if_pos (by omega)]
theorem dn2_ok {m r v : Int} (hm : U64 m) (hr : U64 r) (hv : I64 v) : ref_Down.ok m r v = true := dn2_k _ _ hm hr hv
theorem dn2_s {m r v : Int} (hm : U64 m) (hr : U64 r) (hv : I64 v) : ref_Down m r v = dnS m r v := dn2_k _ _ hm hr hv

end Go.Proofs.YtonpbbhlmapbdaaGreatDoor.V.B
