/- The library's division of two words by one, whole; products by a modulus. Conditions: none. -/
import Derived.Test.YtoggbmfjkcbilaaDoorN2
set_option linter.unusedVariables false
set_option linter.unusedSimpArgs false
namespace Go.Proofs.YtoggbmfjkcbilaaDoor.V
open Go Go.Wk

theorem lz_s {c : Int} (hc : U64 c) (h0 : c ≠ 0) : ∃ s : Nat, bits_LeadingZeros64 c = (s : Int) ∧ s ≤ 63 ∧ (9223372036854775808 : Int) ≤ c * 2 ^ s ∧ c * 2 ^ s < 18446744073709551616 := by
  obtain ⟨m, hm, h64, hlt, hge⟩ := len_k (0 : Int) id hc
  obtain ⟨m1, hge⟩ := hge h0
  refine ⟨64 - m, ?_, by omega, ?_, ?_⟩
  · unfold bits_LeadingZeros64 bits_LeadingZeros64.c
    try unfold bits_LeadingZeros64.c0
    unfold bits_Len64
    rw [hm]
    simp only [id]
    rw [wi_id (by omega) (by omega)]; omega
  · have h1 : (2 : Int) ^ (m - 1) * 2 ^ (64 - m) = 9223372036854775808 := by rw [← Int.pow_add, show m - 1 + (64 - m) = 63 by omega]; rfl
    rw [← h1]
    exact Int.mul_le_mul_of_nonneg_right hge (Int.le_of_lt (Int.pow_pos (by decide)))
  · have h1 : (2 : Int) ^ m * 2 ^ (64 - m) = 18446744073709551616 := by rw [← Int.pow_add, show m + (64 - m) = 64 by omega]; rfl
    rw [← h1]
    exact Int.mul_lt_mul_of_pos_right hlt (Int.pow_pos (by decide))
theorem or_sum (a b s : Nat) (hb : b < 2 ^ s) (h : a * 2 ^ s < 2 ^ 64) (hs : s ≤ 64) : orI .u64 ((a : Int) * 2 ^ s) (b : Int) = (a : Int) * 2 ^ s + b := by
  have hp : (2 : Nat) ^ s ≤ 2 ^ 64 := Nat.pow_le_pow_right (by decide) hs
  have e1 : ((a : Int) * 2 ^ s % 18446744073709551616).toNat = 2 ^ s * a := by
    have : ((a : Int) * 2 ^ s) = ((a * 2 ^ s : Nat) : Int) := by push_cast; rfl
    rw [this, Nat.mul_comm (2 ^ s) a]; omega
  have e2 : ((b : Int) % 18446744073709551616).toNat = b := by omega
  rw [orU, e1, e2, ← Nat.two_pow_add_eq_or_of_lt hb a]
  push_cast
  rw [Int.mul_comm]
/-- two digits of a quotient -/
theorem two_digits {u n1 n0 y : Int} (hy : 0 < y) : (u * 4294967296 + n1) / y * 4294967296 + ((u * 4294967296 + n1) % y * 4294967296 + n0) / y = (u * 18446744073709551616 + n1 * 4294967296 + n0) / y ∧
    ((u * 4294967296 + n1) % y * 4294967296 + n0) % y = (u * 18446744073709551616 + n1 * 4294967296 + n0) % y := by
  have e := Int.emod_add_mul_ediv (u * 4294967296 + n1) y
  have e2 : u * 18446744073709551616 + n1 * 4294967296 + n0 = ((u * 4294967296 + n1) % y * 4294967296 + n0) + y * ((u * 4294967296 + n1) / y * 4294967296) := by
    rw [← Int.mul_assoc]; omega
  rw [e2, Int.add_mul_ediv_left _ _ (by omega), Int.add_mul_emod_self_left]
  exact ⟨Int.add_comm _ _, rfl⟩
theorem div64_o {a b c : Int} (ha : 0 ≤ a) (hac : a < c) (hb : U64 b) (hc : U64 c) : bits_Div64.o 8 a b c = some ((a * 18446744073709551616 + b) / c, (a * 18446744073709551616 + b) % c) := by
  have hc' := hc
  unfold U64 at hb hc
  obtain ⟨s, hs, h63, hlo, hhi⟩ := lz_s hc' (by omega)
  have w1 : IntKind.u64.wrap (s : Int) = s := wu_id (by omega) (by omega)
  have w2 : IntKind.u64.wrap (64 - (s : Int)) = 64 - s := wu_id (by omega) (by omega)
  have w3 : min ((s : Int).toNat) IntKind.u64.bits = s := by have : IntKind.u64.bits = 64 := rfl; rw [this, Int.toNat_natCast]; omega
  have w4 : min ((64 - (s : Int)).toNat) IntKind.u64.bits = 64 - s := by have : IntKind.u64.bits = 64 := rfl; rw [this]; omega
  have hpq : (2 : Int) ^ s * 2 ^ (64 - s) = 18446744073709551616 := by rw [← Int.pow_add, show s + (64 - s) = 64 by omega]; rfl
  have hp : (0 : Int) < 2 ^ s := Int.pow_pos (by decide)
  have hq : (0 : Int) < 2 ^ (64 - s) := Int.pow_pos (by decide)
  have e0 : (c == 0) = false := by simp; omega
  have e1 : decide (c ≤ a) = false := by simp; omega
  have e2 : decide (c = 0) = false := by simp; omega
  have e3 : decide ((s : Int) < 0) = false := decide_eq_false (by omega)
  have e4 : decide ((64 : Int) - s < 0) = false := by simp; omega
  unfold bits_Div64.o bits_Div64.c bits_Div64.c0
  simp only [hs, w1, w2, w3, w4, e0, e1, e2, e3, e4, cond_false, cond_true, Bool.not_false, sh32, and_low]
  by_cases h0 : a = 0
  · subst h0
    have h1 : 0 ≤ b / c := Int.ediv_nonneg hb.1 (by omega)
    have h2 : b / c ≤ b := Int.ediv_le_self c hb.1
    rw [Int.tdiv_eq_ediv_of_nonneg hb.1, Int.tmod_eq_emod_of_nonneg hb.1, wu_id h1 (by omega)]
    simp
  · have e5 : (a == 0) = false := by simpa using h0
    rw [e5]
    simp only [cond_false]
    have hap : a * 2 ^ s < c * 2 ^ s := Int.mul_lt_mul_of_pos_right hac hp
    have hap0 : 0 ≤ a * 2 ^ s := Int.mul_nonneg ha (Int.le_of_lt hp)
    have f1 : IntKind.u64.wrap (c * 2 ^ s) = c * 2 ^ s := wu_id (by omega) (by omega)
    have f2 : IntKind.u64.wrap (a * 2 ^ s) = a * 2 ^ s := wu_id (by omega) (by omega)
    have hbq : b / 2 ^ (64 - s) < 2 ^ s := Int.ediv_lt_of_lt_mul hq (by rw [hpq]; exact hb.2)
    have hbq0 : 0 ≤ b / 2 ^ (64 - s) := Int.ediv_nonneg hb.1 (Int.le_of_lt hq)
    have hbm := Int.emod_nonneg b (show (2 : Int) ^ (64 - s) ≠ 0 by omega)
    have hbm2 := Int.emod_lt_of_pos b hq
    have hbe := Int.emod_add_mul_ediv b (2 ^ (64 - s))
    have f3 : orI .u64 (a * 2 ^ s) (b.fdiv (2 ^ (64 - s))) = a * 2 ^ s + b / 2 ^ (64 - s) := by
      rw [Int.fdiv_eq_ediv_of_nonneg _ (Int.le_of_lt hq)]
      have := or_sum a.toNat (b / 2 ^ (64 - s)).toNat s (by
        have h2 : ((b / 2 ^ (64 - s)).toNat : Int) < ((2 ^ s : Nat) : Int) := by push_cast; omega
        exact_mod_cast h2) (by
        have h2 : ((a.toNat * 2 ^ s : Nat) : Int) < ((2 ^ 64 : Nat) : Int) := by rw [Int.natCast_mul, Int.natCast_pow, show ((a.toNat : Nat) : Int) = a by omega]; exact Int.lt_of_lt_of_le (Int.lt_trans hap hhi) (by decide)
        exact_mod_cast h2) (by omega)
      rw [show ((a.toNat : Nat) : Int) = a by omega, show (((b / 2 ^ (64 - s)).toNat : Nat) : Int) = b / 2 ^ (64 - s) by omega] at this
      exact this
    have hm0 : 0 ≤ b % 2 ^ (64 - s) * 2 ^ s := Int.mul_nonneg hbm (Int.le_of_lt hp)
    have hm1 : b % 2 ^ (64 - s) * 2 ^ s < 18446744073709551616 := by
      have := Int.mul_lt_mul_of_pos_right hbm2 hp
      rw [Int.mul_comm (2 ^ (64 - s))] at this
      omega
    have hb2 : b * 2 ^ s = b / 2 ^ (64 - s) * 18446744073709551616 + b % 2 ^ (64 - s) * 2 ^ s := by
      conv => lhs; rw [← hbe]
      rw [Int.add_mul, ← hpq]
      have : 2 ^ (64 - s) * (b / 2 ^ (64 - s)) * 2 ^ s = b / 2 ^ (64 - s) * ((2 : Int) ^ s * 2 ^ (64 - s)) := by
        rw [Int.mul_comm (2 ^ (64 - s)) (b / 2 ^ (64 - s)), Int.mul_assoc, Int.mul_comm (2 ^ (64 - s)) (2 ^ s)]
      omega
    have f4 : IntKind.u64.wrap (b * 2 ^ s) = b % 2 ^ (64 - s) * 2 ^ s := by rw [hb2, wu_eq]; omega
    rw [f1, f2, f3, f4]
    have hu0 : 0 ≤ a * 2 ^ s + b / 2 ^ (64 - s) := by omega
    have hu1 : a * 2 ^ s + b / 2 ^ (64 - s) < c * 2 ^ s := by
      have h1 : (a + 1) * 2 ^ s ≤ c * 2 ^ s := Int.mul_le_mul_of_nonneg_right (by omega) (Int.le_of_lt hp)
      rw [Int.add_mul, Int.one_mul] at h1
      omega
    have hM : (a * 18446744073709551616 + b) * 2 ^ s = (a * 2 ^ s + b / 2 ^ (64 - s)) * 18446744073709551616 + b % 2 ^ (64 - s) * 2 ^ s := by
      rw [Int.add_mul, hb2, Int.add_mul]
      have : a * 18446744073709551616 * 2 ^ s = a * 2 ^ s * 18446744073709551616 := by rw [Int.mul_assoc, Int.mul_comm 18446744073709551616, ← Int.mul_assoc]
      omega
    have key := Int.mul_ediv_mul_of_pos_left (a * 18446744073709551616 + b) c hp
    have key2 : (a * 18446744073709551616 + b) * 2 ^ s % (c * 2 ^ s) = (a * 18446744073709551616 + b) % c * 2 ^ s := by
      rw [Int.mul_comm _ (2 ^ s), Int.mul_comm c, Int.mul_emod_mul_of_pos _ _ hp, Int.mul_comm]
    rw [hM] at key key2
    generalize a * 2 ^ s + b / 2 ^ (64 - s) = u at hu0 hu1 key key2 ⊢
    generalize b % 2 ^ (64 - s) * 2 ^ s = v at hm0 hm1 key key2 ⊢
    generalize c * 2 ^ s = y at hlo hhi hu1 key key2 ⊢
    obtain ⟨d1, d2⟩ := Dg.first (y := y) (yn1 := y / 4294967296) (yn0 := y % 4294967296) (u := u) (un := v / 4294967296) (by omega) (by omega) (by omega) (by omega) ⟨hu0, hu1⟩
    have g1 : IntKind.u64.wrap (u.tdiv (y / 4294967296)) = u / (y / 4294967296) := tdiv_w hu0 (by omega) (by omega)
    have g0 := d1.r0
    have g9 := d1.er
    have g2 : IntKind.u64.wrap (u - IntKind.u64.wrap (u / (y / 4294967296) * (y / 4294967296))) = u - u / (y / 4294967296) * (y / 4294967296) := by
      simp only [wu_eq]; omega
    have g3 : decide (y / 4294967296 = 0) = false := by simp; omega
    rw [g1, g2, g3]
    simp only [Bool.not_false, cond_true]
    rw [L0_s 5 (s : Int) (by omega) (un0 := v % 4294967296) (by omega) 7 _ _ d1 d2 (by omega)]
    obtain ⟨t1, t2⟩ := two_digits (u := u) (n1 := v / 4294967296) (n0 := v % 4294967296) (y := y) (by omega)
    rw [show u * 18446744073709551616 + v / 4294967296 * 4294967296 + v % 4294967296 = u * 18446744073709551616 + v by omega] at t1 t2
    rw [t2, key2, w3, Int.fdiv_eq_ediv_of_nonneg _ (Int.le_of_lt hp), Int.mul_ediv_cancel _ (by omega)]
    congr 2
    rw [key] at t1
    have r1 : 0 ≤ (a * 18446744073709551616 + b) / c := Int.ediv_nonneg (by omega) (by omega)
    have r2 : (a * 18446744073709551616 + b) / c < 18446744073709551616 := Int.ediv_lt_of_lt_mul (by omega) (by
      have : (a + 1) * 18446744073709551616 ≤ c * 18446744073709551616 := Int.mul_le_mul_of_nonneg_right (by omega) (by decide)
      omega)
    simp only [wu_eq]
    omega
theorem div64_g {a b c : Int} (ha : 0 ≤ a) (hac : a < c) (hb : U64 b) (hc : U64 c) : bits_Div64.g a b c = true := by
  unfold bits_Div64.g; rw [hide_eq, div64_o ha hac hb hc]; rfl
theorem div64_s {a b c : Int} (ha : 0 ≤ a) (hac : a < c) (hb : U64 b) (hc : U64 c) : bits_Div64 a b c = ((a * 18446744073709551616 + b) / c, (a * 18446744073709551616 + b) % c) := by
  unfold bits_Div64; rw [hide_eq, div64_o ha hac hb hc]; rfl
end Go.Proofs.YtoggbmfjkcbilaaDoor.V
