/- Lowest bits. Conditions: none. -/
import Derived.Test.YtoggbmfjkcbilaaDoorN10
import Derived.Test.YtoggbmfjkcbilaaDoorE7
set_option linter.unusedVariables false
set_option linter.unusedSimpArgs false
namespace Go.Proofs.YtoggbmfjkcbilaaDoor.V
open Go Go.Wk

theorem tz_ex : ∀ (n : Nat), n ≠ 0 → ∃ j o : Nat, n = 2 ^ j * o ∧ o % 2 = 1 := by
  intro n
  induction n using Nat.strongRecOn with
  | ind n ih =>
    intro h
    by_cases h2 : n % 2 = 1
    · exact ⟨0, n, by simp, h2⟩
    · obtain ⟨j, o, e, ho⟩ := ih (n / 2) (by omega) (by omega)
      refine ⟨j + 1, o, ?_, ho⟩
      rw [Nat.pow_succ, Nat.mul_comm (2 ^ j) 2, Nat.mul_assoc, ← e]; omega
theorem low_bit (w j o : Nat) (h : 2 ^ j * o < 2 ^ w) (ho : o % 2 = 1) : (2 ^ j * o) &&& (2 ^ w - 2 ^ j * o) = 2 ^ j := by
  have hp : 0 < 2 ^ j := Nat.two_pow_pos j
  have ho1 : 1 ≤ o := by omega
  have hpos : 0 < 2 ^ j * o := Nat.mul_pos hp ho1
  apply Nat.eq_of_testBit_eq
  intro i
  rw [Nat.testBit_and]
  have e1 : 2 ^ w - 2 ^ j * o = 2 ^ w - ((2 ^ j * o - 1) + 1) := by congr 1; omega
  rw [e1, Nat.testBit_two_pow_sub_succ (by omega)]
  have e2 : 2 ^ j * o - 1 = 2 ^ j * (o - 1) + (2 ^ j - 1) := by
    have : 2 ^ j * o = 2 ^ j * (o - 1) + 2 ^ j := by
      rw [← Nat.mul_succ]; congr 1; omega
    omega
  rw [e2, Nat.testBit_two_pow_mul_add _ (by omega)]
  have e3 : Nat.testBit (2 ^ j * o) i = if i < j then false else Nat.testBit o (i - j) := by
    have := Nat.testBit_two_pow_mul_add (i := j) o (b := 0) hp i
    simpa using this
  rw [e3, Nat.testBit_two_pow]
  by_cases hi : i < j
  · rw [if_pos hi]; simp; omega
  · rw [if_neg hi, if_neg hi]
    by_cases hij : i = j
    · subst hij
      have hw : i < w := by
        rcases Nat.lt_or_ge i w with h' | h'
        · exact h'
        · have h1 : 2 ^ w ≤ 2 ^ i := Nat.pow_le_pow_right (by decide) h'
          have h2 : 2 ^ i * 1 ≤ 2 ^ i * o := Nat.mul_le_mul_left _ ho1
          omega
      have b1 : Nat.testBit o 0 = true := by rw [Nat.testBit_zero]; simpa using ho
      have b2 : Nat.testBit (o - 1) 0 = false := by rw [Nat.testBit_zero]; simp; omega
      simp [b1, b2, hw]
    · have b : Nat.testBit o (i - j) = Nat.testBit (o - 1) (i - j) := by
        obtain ⟨k, hk⟩ : ∃ k, i - j = k + 1 := ⟨i - j - 1, by omega⟩
        rw [hk, Nat.testBit_succ, Nat.testBit_succ]
        congr 1; omega
      rw [b, show (decide (j = i)) = false by simp; omega]
      cases Nat.testBit (o - 1) (i - j) <;> simp
/-- the number of noughts at a number's end, and what is ahead of them -/
def Tz (x : Int) (j : Nat) : Prop := ∃ o : Int, x = 2 ^ j * o ∧ o % 2 = 1
theorem Tz.ex {x : Int} (h : 0 < x) : ∃ j, Tz x j := by
  obtain ⟨j, o, e, ho⟩ := tz_ex x.toNat (by omega)
  refine ⟨j, (o : Int), ?_, by omega⟩
  have : x = ((x.toNat : Nat) : Int) := by omega
  rw [this, e]; push_cast; rfl
theorem Tz.uniq {x : Int} {i j : Nat} (h : Tz x i) (h' : Tz x j) : i = j := by
  have key : ∀ {i j : Nat}, i < j → Tz x i → Tz x j → False := by
    intro i j hij h h'
    obtain ⟨o, e, ho⟩ := h
    obtain ⟨p, f, hp⟩ := h'
    have e2 : (2 : Int) ^ j = 2 ^ i * 2 ^ (j - i) := by rw [← Int.pow_add]; congr 1; omega
    rw [e2, Int.mul_assoc] at f
    have : o = 2 ^ (j - i) * p := Int.eq_of_mul_eq_mul_left (by have := Int.pow_pos (n := 2) (m := i) (by decide); omega) (e.symm.trans f)
    rw [show j - i = (j - i - 1) + 1 by omega, Int.pow_succ, Int.mul_comm (2 ^ _) 2, Int.mul_assoc] at this
    omega
  rcases Nat.lt_trichotomy i j with g | g | g
  · exact (key g h h').elim
  · exact g
  · exact (key g h' h).elim
theorem Tz.lt {x : Int} {j w : Nat} (h : Tz x j) (h0 : 0 < x) (hw : x < 2 ^ w) : j < w ∧ (2 : Int) ^ j ≤ x := by
  obtain ⟨o, e, ho⟩ := h
  have hp : (0 : Int) < 2 ^ j := Int.pow_pos (by decide)
  have ho1 : 1 ≤ o := by
    rcases Int.lt_or_le 0 o with h' | h'
    · exact h'
    · have := Int.mul_le_mul_of_nonneg_left h' (Int.le_of_lt hp); rw [Int.mul_zero] at this; omega
  have h2 : (2 : Int) ^ j * 1 ≤ 2 ^ j * o := Int.mul_le_mul_of_nonneg_left ho1 (Int.le_of_lt hp)
  rw [Int.mul_one, ← e] at h2
  refine ⟨?_, h2⟩
  rcases Nat.lt_or_ge j w with h' | h'
  · exact h'
  · exfalso
    have h1 : (2 : Nat) ^ w ≤ 2 ^ j := Nat.pow_le_pow_right (by decide) h'
    have h3 : ((2 : Int) ^ w) ≤ 2 ^ j := by exact_mod_cast h1
    omega
theorem and_low_bit {x : Int} {j : Nat} (hx : U64 x) (h0 : 0 < x) (h : Tz x j) : andI .u64 x (IntKind.u64.wrap (0 - x)) = 2 ^ j := by
  unfold U64 at hx
  obtain ⟨o, e, ho⟩ := h
  have ho1 : 0 ≤ o := by
    rcases Int.lt_or_le o 0 with h' | h'
    · have := Int.mul_neg_of_pos_of_neg (Int.pow_pos (n := 2) (m := j) (by decide)) h'; omega
    · exact h'
  have en : x.toNat = 2 ^ j * o.toNat := by
    have : ((x.toNat : Nat) : Int) = ((2 ^ j * o.toNat : Nat) : Int) := by
      rw [Int.natCast_mul, Int.natCast_pow, show ((o.toNat : Nat) : Int) = o by omega, show ((x.toNat : Nat) : Int) = x by omega]; exact e
    exact_mod_cast this
  rw [andU]
  have e1 : (x % 18446744073709551616).toNat = 2 ^ j * o.toNat := by rw [← en]; omega
  have e2 : (IntKind.u64.wrap (0 - x) % 18446744073709551616).toNat = 2 ^ 64 - 2 ^ j * o.toNat := by
    rw [← en, wu_eq]; omega
  rw [e1, e2, low_bit 64 j o.toNat (by rw [← en]; omega) (by omega)]
  push_cast; rfl
theorem even_s {x : Int} {j : Nat} (hx : U64 x) (h0 : 0 < x) (h : Tz x j) : word_Even x = 2 ^ j := by
  unfold word_Even word_Even.c
  (try unfold word_Even.c0)
  exact and_low_bit hx h0 h
theorem table_s : ∀ j : Fin 64, deBruijn.getD ((2 ^ j.val * 285870213051353865 % 18446744073709551616) / 288230376151711744) 0 = (j.val : Int) := by decide +kernel
theorem trail_k {γ : Type} (n : γ) (k : Int → γ) {x : Int} {j : Nat} (hx : U64 x) (h0 : 0 < x) (h : Tz x j) : bits_TrailingZeros64.c n k x = k (j : Int) := by
  have hj := h.lt h0 (w := 64) (by unfold U64 at hx; exact hx.2)
  unfold bits_TrailingZeros64.c
  (try unfold bits_TrailingZeros64.c0)
  simp only [tzi, tzi', tzj, cond_true]
  simp only [cbe, and_low_bit hx h0 h, tz0]
  rw [if_neg (by omega)]
  congr 1
  have e : (0 + (IntKind.u64.wrap (2 ^ j * 285870213051353865) / 288230376151711744).toNat * 1) = (2 ^ j * 285870213051353865 % 18446744073709551616) / 288230376151711744 := by
    rw [wu_eq]
    have : ((2 : Int) ^ j * 285870213051353865) = ((2 ^ j * 285870213051353865 : Nat) : Int) := by rw [Int.natCast_mul, Int.natCast_pow]; rfl
    rw [this]
    omega
  rw [e]
  have t := table_s ⟨j, hj.1⟩
  simp only at t
  rw [t, wi_id (by omega) (by omega)]
theorem trail_s {x : Int} {j : Nat} (hx : U64 x) (h0 : 0 < x) (h : Tz x j) : bits_TrailingZeros64 x = (j : Int) := trail_k _ _ hx h0 h
theorem trail_0 : bits_TrailingZeros64 0 = 64 := by
  unfold bits_TrailingZeros64 bits_TrailingZeros64.c
  (try unfold bits_TrailingZeros64.c0)
  rfl
end Go.Proofs.YtoggbmfjkcbilaaDoor.V
