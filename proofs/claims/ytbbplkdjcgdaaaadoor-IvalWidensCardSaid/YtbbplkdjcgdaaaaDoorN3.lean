/- The program's wide product, as a whole number. Conditions: none. -/
import Derived.Test.YtbbplkdjcgdaaaaDoorN2
set_option linter.unusedVariables false
set_option linter.unusedSimpArgs false
namespace Go.Proofs.YtbbplkdjcgdaaaaDoor.V
open Go Go.Wk

theorem sh32 (x : Int) : x.fdiv (2 ^ min (Int.toNat 32) IntKind.u64.bits) = x / 4294967296 := by
  have e : (2 : Int) ^ min (Int.toNat 32) IntKind.u64.bits = 4294967296 := by decide
  rw [e, Int.fdiv_eq_ediv_of_nonneg _ (by omega)]
theorem mul_bound {x y : Int} (hx : 0 ≤ x) (hx' : x < 4294967296) (hy : 0 ≤ y) (hy' : y < 4294967296) : 0 ≤ x * y ∧ x * y ≤ 18446744065119617025 := by
  have h1 : x.natAbs ≤ 4294967295 := by omega
  have h2 : y.natAbs ≤ 4294967295 := by omega
  have h3 := Nat.mul_le_mul h1 h2
  rw [← Int.natAbs_mul] at h3
  have h4 := Int.mul_nonneg hx hy
  omega
theorem bits_Mul64_s {a b : Int} (ha : U64 a) (hb : U64 b) : bits_Mul64 a b = (a * b / 18446744073709551616, a * b % 18446744073709551616) := by
  unfold U64 at ha hb
  unfold bits_Mul64 bits_Mul64.c bits_Mul64.c0
  simp only [id, sh32, and_low, wu_eq]
  have eab : a * b = (a / 4294967296) * (b / 4294967296) * 18446744073709551616 + ((a / 4294967296) * (b % 4294967296) + (a % 4294967296) * (b / 4294967296)) * 4294967296 + (a % 4294967296) * (b % 4294967296) := by
    conv => lhs; rw [show a = a / 4294967296 * 4294967296 + a % 4294967296 by omega, show b = b / 4294967296 * 4294967296 + b % 4294967296 by omega]
    generalize a / 4294967296 = x1
    generalize a % 4294967296 = x0
    generalize b / 4294967296 = y1
    generalize b % 4294967296 = y0
    simp only [Int.add_mul, Int.mul_add]
    have e1 : x1 * 4294967296 * (y1 * 4294967296) = x1 * y1 * 18446744073709551616 := by
      rw [Int.mul_assoc, Int.mul_left_comm 4294967296, ← Int.mul_assoc x1]; rfl
    have e2 : x1 * 4294967296 * y0 = x1 * y0 * 4294967296 := by rw [Int.mul_assoc, Int.mul_comm 4294967296, ← Int.mul_assoc]
    have e3 : x0 * (y1 * 4294967296) = x0 * y1 * 4294967296 := by rw [← Int.mul_assoc]
    rw [e1, e2, e3]
    omega
  have m1 : b % 4294967296 % 18446744073709551616 = b % 4294967296 := by omega
  have m2 : a % 4294967296 % 18446744073709551616 = a % 4294967296 := by omega
  simp only [m1, m2]
  rw [eab]
  have b11 := mul_bound (x := a / 4294967296) (y := b / 4294967296) (by omega) (by omega) (by omega) (by omega)
  have b10 := mul_bound (x := a / 4294967296) (y := b % 4294967296) (by omega) (by omega) (by omega) (by omega)
  have b01 := mul_bound (x := a % 4294967296) (y := b / 4294967296) (by omega) (by omega) (by omega) (by omega)
  have b00 := mul_bound (x := a % 4294967296) (y := b % 4294967296) (by omega) (by omega) (by omega) (by omega)
  revert b11 b10 b01 b00
  generalize (a / 4294967296) * (b / 4294967296) = p11
  generalize (a / 4294967296) * (b % 4294967296) = p10
  generalize (a % 4294967296) * (b / 4294967296) = p01
  generalize (a % 4294967296) * (b % 4294967296) = p00
  intro b11 b10 b01 b00
  simp only [Prod.mk.injEq]
  constructor
  · have q1 : p11 % 18446744073709551616 = p11 := by omega
    have q2 : p10 % 18446744073709551616 = p10 := by omega
    have q3 : p01 % 18446744073709551616 = p01 := by omega
    have q4 : p00 % 18446744073709551616 = p00 := by omega
    simp only [q1, q2, q3, q4]
    have q5 : (p10 + p00 / 4294967296) % 18446744073709551616 = p10 + p00 / 4294967296 := by omega
    simp only [q5]
    omega
  · trivial
theorem word_Wide_s {a b : Int} (ha : I64 a) (hb : I64 b) : word_Wide a b = (hi (a * b), lo (a * b)) := by
  have hm := mul_I ha hb
  unfold word_Wide word_Wide.c word_Wide.c0
  have hu : ∀ x : Int, U64 (IntKind.u64.wrap x) := fun x => ⟨wu_lo x, wu_hi x⟩
  simp only [id, bits_Mul64_s (hu a) (hu b)]
  unfold I64 at ha hb
  simp only [wu_eq, wi_eq, hi, lo, Bool.cond_decide]
  have ea : a % 18446744073709551616 = if a < 0 then a + 18446744073709551616 else a := by split <;> omega
  have eb : b % 18446744073709551616 = if b < 0 then b + 18446744073709551616 else b := by split <;> omega
  rw [ea, eb]
  by_cases h1 : a < 0 <;> by_cases h2 : b < 0
  · simp only [h1, h2, if_true]
    have e : (a + 18446744073709551616) * (b + 18446744073709551616) = a * b + 18446744073709551616 * (a + b + 18446744073709551616) := by rw [Int.add_mul, Int.mul_add, Int.mul_comm a 18446744073709551616]; omega
    rw [e]; generalize a * b = p at *
    simp only [Prod.mk.injEq]; constructor <;> omega
  · simp only [h1, h2, if_true, if_false]
    have e : (a + 18446744073709551616) * b = a * b + 18446744073709551616 * b := by rw [Int.add_mul]
    rw [e]; generalize a * b = p at *
    simp only [Prod.mk.injEq]; constructor <;> omega
  · simp only [h1, h2, if_true, if_false]
    have e : a * (b + 18446744073709551616) = a * b + 18446744073709551616 * a := by rw [Int.mul_add, Int.mul_comm a 18446744073709551616]
    rw [e]; generalize a * b = p at *
    simp only [Prod.mk.injEq]; constructor <;> omega
  · simp only [h1, h2, if_false]
    generalize a * b = p at *
    simp only [Prod.mk.injEq]; constructor
    · omega
    · trivial
theorem word_Mul_s {a b : Int} : word_Mul a b = IntKind.i64.wrap (a * b) := by
  unfold word_Mul word_Mul.c word_Mul.c0
  simp only [id, wu_eq, wi_eq]
  have e : (a % 18446744073709551616) * (b % 18446744073709551616) % 18446744073709551616 = a * b % 18446744073709551616 := by rw [← Int.mul_emod]
  rw [e]; omega
/-- the program's word: does a product fit -/
theorem fit_s (p : Int) : (hi p == (IntKind.i64.wrap (lo p)).fdiv (2 ^ min (Int.toNat 63) IntKind.i64.bits)) = decide (-9223372036854775808 ≤ p ∧ p ≤ 9223372036854775807) := ref_Fits_s p
end Go.Proofs.YtbbplkdjcgdaaaaDoor.V
