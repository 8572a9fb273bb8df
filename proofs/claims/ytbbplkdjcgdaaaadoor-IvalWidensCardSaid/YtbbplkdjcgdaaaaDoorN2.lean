/- The document's product and the library's, as whole numbers. Conditions: none. -/
import Derived.Test.YtbbplkdjcgdaaaaDoorN1
set_option linter.unusedVariables false
set_option linter.unusedSimpArgs false
namespace Go.Proofs.YtbbplkdjcgdaaaaDoor.V
open Go Go.Wk

theorem and_one (x : Int) : ((BitVec.ofInt IntKind.u64.bits x &&& BitVec.ofInt IntKind.u64.bits 1).toNat : Int) = x % 2 := by
  have e : IntKind.u64.bits = 64 := rfl
  rw [BitVec.toNat_and, BitVec.toNat_ofInt, BitVec.toNat_ofInt, e]
  have e1 : ((1 : Int) % ((2 ^ 64 : Nat) : Int)).toNat = 1 := by decide
  rw [e1, Nat.and_one_is_mod]
  omega
theorem and_low (x : Int) : ((BitVec.ofInt IntKind.u64.bits x &&& BitVec.ofInt IntKind.u64.bits 4294967295).toNat : Int) = x % 4294967296 := by
  have e : IntKind.u64.bits = 64 := rfl
  rw [BitVec.toNat_and, BitVec.toNat_ofInt, BitVec.toNat_ofInt, e]
  have e1 : ((4294967295 : Int) % ((2 ^ 64 : Nat) : Int)).toNat = 2 ^ 32 - 1 := by decide
  rw [e1, Nat.and_two_pow_sub_one_eq_mod]
  omega
theorem bitU (U i : Nat) (hi : i < 64) : IntKind.u64.wrap ((BitVec.ofInt IntKind.u64.bits ((U : Int).fdiv (2 ^ min (Int.toNat (i : Int)) IntKind.u64.bits)) &&& BitVec.ofInt IntKind.u64.bits 1).toNat : Int) = ((U / 2 ^ i % 2 : Nat) : Int) := by
  rw [and_one]
  have e : min (Int.toNat (i : Int)) IntKind.u64.bits = i := by
    have : IntKind.u64.bits = 64 := rfl
    rw [this, Int.toNat_natCast]; omega
  have hp : (0 : Int) ≤ 2 ^ i := by exact_mod_cast Nat.zero_le (2 ^ i)
  rw [e, Int.fdiv_eq_ediv_of_nonneg _ hp]
  have e2 : (U : Int) / 2 ^ i = ((U / 2 ^ i : Nat) : Int) := by push_cast; rfl
  rw [e2]
  rw [wu_id] <;> omega
theorem mod_succ (U i : Nat) : ((U % 2 ^ (i + 1) : Nat) : Int) = ((U % 2 ^ i : Nat) : Int) + ((2 ^ i : Nat) : Int) * ((U / 2 ^ i % 2 : Nat) : Int) := by
  rw [← Int.natCast_mul, ← Int.natCast_add, Nat.mod_pow_succ]
/-- the sum after so many bits -/
def part (a b : Int) (U i : Nat) : Int := if i ≤ 63 then a * ((U % 2 ^ i : Nat) : Int) else a * b
theorem Times_loop (N : Nat) (a b : Int) (hb : I64 b) (U : Nat) (hU : (U : Int) = b % 18446744073709551616) : ∀ (m i : Nat) (p r : Int), m + i = 64 →
    ref_Times.L0 N (m + 1) ((U : Int), (i : Int), p, r, hi (w128 (a * ((2 ^ i : Nat) : Int))), lo (w128 (a * ((2 ^ i : Nat) : Int))), hi (w128 (part a b U i)), lo (w128 (part a b U i))) = some (hi (w128 (a * b)), lo (w128 (a * b)))
  | 0, i, p, r, hm => by
    have hi' : i = 64 := by omega
    subst hi'
    have h1 : decide (((64 : Nat) : Int) < 64) = false := by decide
    have h2 : part a b U 64 = a * b := rfl
    simp only [ref_Times.L0, ref_Times.l0.c, ref_Times.l0.c0, h1, cond_false, h2]
  | m + 1, i, p, r, hm => by
    have h1 : decide ((i : Int) < 64) = true := by simp; omega
    have h2 : decide ((i : Int) < 0) = false := by simp
    have h3 : IntKind.i64.wrap ((i : Int) + 1) = ((i + 1 : Nat) : Int) := by rw [wi_id (by omega) (by omega)]; omega
    have hx : ref_plus (hi (w128 (a * ((2 ^ i : Nat) : Int)))) (lo (w128 (a * ((2 ^ i : Nat) : Int)))) (hi (w128 (a * ((2 ^ i : Nat) : Int)))) (lo (w128 (a * ((2 ^ i : Nat) : Int)))) = (hi (w128 (a * ((2 ^ (i + 1) : Nat) : Int))), lo (w128 (a * ((2 ^ (i + 1) : Nat) : Int)))) := by
      rw [ref_plus_s (w128_I _) (w128_I _), w128_add]
      have : a * ((2 ^ i : Nat) : Int) + a * ((2 ^ i : Nat) : Int) = a * ((2 ^ (i + 1) : Nat) : Int) := by rw [← Int.mul_add]; congr 1; rw [Nat.pow_succ]; omega
      rw [this]
    have ih := Times_loop N a b hb U hU m (i + 1) p r (by omega)
    have hsucc : a * ((U % 2 ^ (i + 1) : Nat) : Int) = a * ((U % 2 ^ i : Nat) : Int) + a * ((2 ^ i : Nat) : Int) * ((U / 2 ^ i % 2 : Nat) : Int) := by rw [mod_succ, Int.mul_add, Int.mul_assoc]
    have hp0 : part a b U i = a * ((U % 2 ^ i : Nat) : Int) := by unfold part; rw [if_pos (by omega)]
    rw [ref_Times.L0]
    simp only [ref_Times.l0.c, ref_Times.l0.c0, h1, h2, h3, cond_true, Bool.not_false, bitU U i (by omega), hx, hp0]
    have hbit : U / 2 ^ i % 2 = 0 ∨ U / 2 ^ i % 2 = 1 := by omega
    by_cases h63 : i = 63
    · subst h63
      have hfin : part a b U 64 = a * b := rfl
      have hbv : b = ((U % 2 ^ 63 : Nat) : Int) - ((2 ^ 63 : Nat) : Int) * ((U / 2 ^ 63 % 2 : Nat) : Int) := by unfold I64 at hb; omega
      have hab : a * b = a * ((U % 2 ^ 63 : Nat) : Int) - a * ((2 ^ 63 : Nat) : Int) * ((U / 2 ^ 63 % 2 : Nat) : Int) := by
        conv => lhs; rw [hbv]
        rw [Int.mul_sub, Int.mul_assoc]
      have e63 : (((63 : Nat) : Int) == 63) = true := by decide
      rcases hbit with h0 | h0
      · have e0 : (((U / 2 ^ 63 % 2 : Nat) : Int) == 1) = false := by rw [h0]; decide
        rw [e0, cond_false]
        rw [h0] at hab
        have : a * ((U % 2 ^ 63 : Nat) : Int) = part a b U 64 := by rw [hfin, hab]; simp
        rw [this]
        exact ih
      · have e0 : (((U / 2 ^ 63 % 2 : Nat) : Int) == 1) = true := by rw [h0]; decide
        rw [e0, cond_true, e63, cond_true]
        rw [ref_minus_s (w128_I _) (w128_I _), w128_sub]
        rw [h0] at hab
        have : a * ((U % 2 ^ 63 : Nat) : Int) - a * ((2 ^ 63 : Nat) : Int) = part a b U 64 := by rw [hfin, hab]; simp
        rw [this]
        exact ih
    · have hfin : part a b U (i + 1) = a * ((U % 2 ^ (i + 1) : Nat) : Int) := by unfold part; rw [if_pos (by omega)]
      have e63 : ((i : Int) == 63) = false := by simp; omega
      rcases hbit with h0 | h0
      · have e0 : (((U / 2 ^ i % 2 : Nat) : Int) == 1) = false := by rw [h0]; decide
        rw [e0, cond_false]
        rw [h0] at hsucc
        have : a * ((U % 2 ^ i : Nat) : Int) = part a b U (i + 1) := by rw [hfin, hsucc]; simp
        rw [this]
        exact ih
      · have e0 : (((U / 2 ^ i % 2 : Nat) : Int) == 1) = true := by rw [h0]; decide
        rw [e0, cond_true, e63, cond_false]
        rw [ref_plus_s (w128_I _) (w128_I _), w128_add]
        rw [h0] at hsucc
        have : a * ((U % 2 ^ i : Nat) : Int) + a * ((2 ^ i : Nat) : Int) = part a b U (i + 1) := by rw [hfin, hsucc]; simp
        rw [this]
        exact ih
theorem mul_I {a b : Int} (ha : I64 a) (hb : I64 b) : -85070591730234615865843651857942052864 ≤ a * b ∧ a * b ≤ 85070591730234615865843651857942052864 := by
  unfold I64 at ha hb
  have h1 : a.natAbs ≤ 9223372036854775808 := by omega
  have h2 : b.natAbs ≤ 9223372036854775808 := by omega
  have h3 := Nat.mul_le_mul h1 h2
  rw [← Int.natAbs_mul] at h3
  omega
theorem ref_Times_s {a b : Int} (ha : I64 a) (hb : I64 b) : ref_Times a b = (hi (a * b), lo (a * b)) := by
  have hm := mul_I ha hb
  have hw : w128 (a * b) = a * b := w128_id (by unfold I128; omega)
  have ho : ref_Times.o 65 a b = some (hi (a * b), lo (a * b)) := by
    unfold ref_Times.o ref_Times.c ref_Times.c0
    simp only [ref_Of_s ha, wu_eq]
    have hU : (((b % 18446744073709551616).toNat : Nat) : Int) = b % 18446744073709551616 := by omega
    have h := Times_loop 65 a b hb (b % 18446744073709551616).toNat hU 64 0 0 0 rfl
    rw [hw, hU] at h
    have e1 : w128 (a * ((2 ^ 0 : Nat) : Int)) = a := by
      have : a * ((2 ^ 0 : Nat) : Int) = a := by simp
      rw [this]; exact w128_id (by unfold I64 at ha; unfold I128; omega)
    have e2 : w128 (part a b (b % 18446744073709551616).toNat 0) = 0 := by
      have : part a b (b % 18446744073709551616).toNat 0 = 0 := by unfold part; simp [Nat.mod_one]
      rw [this]; rfl
    rw [e1, e2] at h
    exact h
  unfold ref_Times
  rw [ho]; rfl
end Go.Proofs.YtbbplkdjcgdaaaaDoor.V
