/- Shifts, halves, lengths of numbers without sign. Conditions: none. -/
import Derived.Test.YtoggbmfjkcbilaaDoorE2
set_option linter.unusedVariables false
set_option linter.unusedSimpArgs false
namespace Go.Proofs.YtoggbmfjkcbilaaDoor.V
open Go Go.Wk

theorem shr_k (k : Nat) (hk : k ≤ 64) (x : Int) : x.fdiv (2 ^ min k IntKind.u64.bits) = x / 2 ^ k := by
  have e : IntKind.u64.bits = 64 := rfl
  rw [e, Nat.min_eq_left hk]
  exact Int.fdiv_eq_ediv_of_nonneg _ (Int.le_of_lt (Int.pow_pos (by decide)))
theorem sh32 (x : Int) : x.fdiv (2 ^ min (Int.toNat 32) IntKind.u64.bits) = x / 4294967296 := shr_k 32 (by decide) x
theorem sh16 (x : Int) : x.fdiv (2 ^ min (Int.toNat 16) IntKind.u64.bits) = x / 65536 := shr_k 16 (by decide) x
theorem sh8 (x : Int) : x.fdiv (2 ^ min (Int.toNat 8) IntKind.u64.bits) = x / 256 := shr_k 8 (by decide) x
theorem u8_eq (x : Int) : IntKind.u8.wrap x = x % 256 := by simp [IntKind.wrap, IntKind.signed, IntKind.bits]
theorem andU (a b : Int) : andI .u64 a b = (((a % 18446744073709551616).toNat &&& (b % 18446744073709551616).toNat : Nat) : Int) := by
  rw [andI_eq, wu_eq]
  have e : IntKind.u64.bits = 64 := rfl
  rw [BitVec.toNat_and, BitVec.toNat_ofInt, BitVec.toNat_ofInt, e]
  have e2 : ((2 ^ 64 : Nat) : Int) = 18446744073709551616 := by decide
  rw [e2]
  have h1 : (a % 18446744073709551616).toNat &&& (b % 18446744073709551616).toNat < 2 ^ 64 := Nat.and_lt_two_pow _ (by omega)
  omega
theorem orU (a b : Int) : orI .u64 a b = (((a % 18446744073709551616).toNat ||| (b % 18446744073709551616).toNat : Nat) : Int) := by
  rw [orI_eq, wu_eq]
  have e : IntKind.u64.bits = 64 := rfl
  rw [BitVec.toNat_or, BitVec.toNat_ofInt, BitVec.toNat_ofInt, e]
  have e2 : ((2 ^ 64 : Nat) : Int) = 18446744073709551616 := by decide
  rw [e2]
  have h1 : (a % 18446744073709551616).toNat ||| (b % 18446744073709551616).toNat < 2 ^ 64 := Nat.or_lt_two_pow (by omega) (by omega)
  omega
theorem and_low (x : Int) : andI .u64 x 4294967295 = x % 4294967296 := by
  rw [andU]
  have e1 : ((4294967295 : Int) % 18446744073709551616).toNat = 2 ^ 32 - 1 := by decide
  rw [e1, Nat.and_two_pow_sub_one_eq_mod]
  omega
theorem and_one (x : Int) : andI .u64 x 1 = x % 2 := by
  rw [andU]
  have e1 : ((1 : Int) % 18446744073709551616).toNat = 2 ^ 1 - 1 := by decide
  rw [e1, Nat.and_two_pow_sub_one_eq_mod]
  omega
theorem mul_bound {x y : Int} (hx : 0 ≤ x) (hx' : x < 4294967296) (hy : 0 ≤ y) (hy' : y < 4294967296) : 0 ≤ x * y ∧ x * y ≤ 18446744065119617025 := by
  have h1 : x.natAbs ≤ 4294967295 := by omega
  have h2 : y.natAbs ≤ 4294967295 := by omega
  have h3 := Nat.mul_le_mul h1 h2
  rw [← Int.natAbs_mul] at h3
  have h4 := Int.mul_nonneg hx hy
  omega
theorem bits_Mul64_s {a b : Int} (ha : U64 a) (hb : U64 b) : bits_Mul64 a b = (a * b / 18446744073709551616, a * b % 18446744073709551616) := by
  unfold U64 at ha hb
  unfold bits_Mul64 bits_Mul64.c bits_Mul64.c0
  simp only [id, sh32, and_low, wu_eq]
  have eab : a * b = (a / 4294967296) * (b / 4294967296) * 18446744073709551616 + ((a / 4294967296) * (b % 4294967296) + (a % 4294967296) * (b / 4294967296)) * 4294967296 + (a % 4294967296) * (b % 4294967296) := by
    conv => lhs; rw [show a = a / 4294967296 * 4294967296 + a % 4294967296 by omega, show b = b / 4294967296 * 4294967296 + b % 4294967296 by omega]
    generalize a / 4294967296 = x1
    generalize a % 4294967296 = x0
    generalize b / 4294967296 = y1
    generalize b % 4294967296 = y0
    simp only [Int.add_mul, Int.mul_add]
    have e1 : x1 * 4294967296 * (y1 * 4294967296) = x1 * y1 * 18446744073709551616 := by
      rw [Int.mul_assoc, Int.mul_left_comm 4294967296, ← Int.mul_assoc x1]; rfl
    have e2 : x1 * 4294967296 * y0 = x1 * y0 * 4294967296 := by rw [Int.mul_assoc, Int.mul_comm 4294967296, ← Int.mul_assoc]
    have e3 : x0 * (y1 * 4294967296) = x0 * y1 * 4294967296 := by rw [← Int.mul_assoc]
    rw [e1, e2, e3]
    omega
  rw [eab]
  have b11 := mul_bound (x := a / 4294967296) (y := b / 4294967296) (by omega) (by omega) (by omega) (by omega)
  have b10 := mul_bound (x := a / 4294967296) (y := b % 4294967296) (by omega) (by omega) (by omega) (by omega)
  have b01 := mul_bound (x := a % 4294967296) (y := b / 4294967296) (by omega) (by omega) (by omega) (by omega)
  have b00 := mul_bound (x := a % 4294967296) (y := b % 4294967296) (by omega) (by omega) (by omega) (by omega)
  revert b11 b10 b01 b00
  generalize (a / 4294967296) * (b / 4294967296) = p11
  generalize (a / 4294967296) * (b % 4294967296) = p10
  generalize (a % 4294967296) * (b / 4294967296) = p01
  generalize (a % 4294967296) * (b % 4294967296) = p00
  intro b11 b10 b01 b00
  simp only [Prod.mk.injEq]
  constructor
  · have q1 : p11 % 18446744073709551616 = p11 := by omega
    have q2 : p10 % 18446744073709551616 = p10 := by omega
    have q3 : p01 % 18446744073709551616 = p01 := by omega
    have q4 : p00 % 18446744073709551616 = p00 := by omega
    simp only [q1, q2, q3, q4]
    have q5 : (p10 + p00 / 4294967296) % 18446744073709551616 = p10 + p00 / 4294967296 := by omega
    simp only [q5]
    omega
  · trivial
/-- the table of lengths -/
theorem bl_s (t : Int) (h0 : 0 ≤ t) (h1 : t < 256) : ∃ m : Nat, byteAt len8tab t = m ∧ m ≤ 8 ∧ t < 2 ^ m ∧ (t ≠ 0 → 1 ≤ m ∧ (2 : Int) ^ (m - 1) ≤ t) := by
  have key : ∀ k : Fin 256, (len8tab.data.getD k.val 0).toNat ≤ 8 ∧ k.val < 2 ^ (len8tab.data.getD k.val 0).toNat ∧ (k.val ≠ 0 → 1 ≤ (len8tab.data.getD k.val 0).toNat ∧ 2 ^ ((len8tab.data.getD k.val 0).toNat - 1) ≤ k.val) := by decide +kernel
  have hk := key ⟨t.toNat, by omega⟩
  refine ⟨(len8tab.data.getD t.toNat 0).toNat, rfl, hk.1, ?_, fun h => ?_⟩
  · have := hk.2.1
    have e : ((t.toNat : Nat) : Int) = t := by omega
    rw [← e]; exact_mod_cast this
  · have := hk.2.2 (by simp only; omega)
    refine ⟨this.1, ?_⟩
    have e : ((t.toNat : Nat) : Int) = t := by omega
    have h2 := this.2
    rw [← e]; exact_mod_cast h2
theorem len_fin {γ : Type} (k : Int → γ) (a t : Int) (sh : Nat) (hsh : sh ≤ 56) (ht : t = a / 2 ^ sh) (h0 : 0 ≤ a) (h256 : t < 256) (hlow : sh ≠ 0 → 1 ≤ t) :
    ∃ m : Nat, k (IntKind.i64.wrap (sh + IntKind.i64.wrap (byteAt len8tab t))) = k (m : Int) ∧ m ≤ 64 ∧ a < 2 ^ m ∧ (a ≠ 0 → 1 ≤ m ∧ (2 : Int) ^ (m - 1) ≤ a) := by
  have hd : (0 : Int) < 2 ^ sh := Int.pow_pos (by decide)
  have ht0 : 0 ≤ t := by rw [ht]; exact Int.ediv_nonneg h0 (Int.le_of_lt hd)
  obtain ⟨m, hm, h8, hlt, hge⟩ := bl_s t ht0 h256
  refine ⟨sh + m, ?_, by omega, ?_, fun ha => ?_⟩
  · rw [hm, wi_id (x := (m : Int)) (by omega) (by omega), wi_id (by omega) (by omega)]
    congr 1
  · rw [Int.pow_add]
    rw [ht] at hlt
    have := Int.lt_mul_of_ediv_lt hd hlt
    rwa [Int.mul_comm] at this
  · have ht1 : t ≠ 0 := by
      by_cases hs : sh = 0
      · subst hs; simp at ht; omega
      · have := hlow hs; omega
    obtain ⟨g1, g2⟩ := hge ht1
    refine ⟨by omega, ?_⟩
    rw [ht] at g2
    have := (Int.le_ediv_iff_mul_le hd).1 g2
    rw [show sh + m - 1 = (m - 1) + sh by omega, Int.pow_add]
    exact this
theorem len_k {γ : Type} (n : γ) (k : Int → γ) {a : Int} (ha : U64 a) : ∃ m : Nat, bits_Len64.c n k a = k (m : Int) ∧ m ≤ 64 ∧ a < 2 ^ m ∧ (a ≠ 0 → 1 ≤ m ∧ (2 : Int) ^ (m - 1) ≤ a) := by
  unfold U64 at ha
  unfold bits_Len64.c
  try unfold bits_Len64.c0
  simp only [u8i, cond_true]
  simp only [Bool.cond_decide, sh32, sh16, sh8, u8_eq]
  have fin := fun t sh h1 h2 h3 h4 => len_fin k a t sh h1 h2 ha.1 h3 h4
  by_cases c1 : a ≥ 4294967296
  · simp only [if_pos c1, show IntKind.i64.wrap (32 + 16) = 48 from rfl]
    by_cases c2 : a / 4294967296 ≥ 65536
    · simp only [if_pos c2, show IntKind.i64.wrap (48 + 8) = 56 from rfl]
      by_cases c3 : a / 4294967296 / 65536 ≥ 256
      · simp only [if_pos c3]
        rw [show a / 4294967296 / 65536 / 256 % 256 = a / 4294967296 / 65536 / 256 by omega]
        exact fin (a / 4294967296 / 65536 / 256) 56 (by decide) (by rw [show (2 : Int) ^ 56 = 72057594037927936 by decide]; omega) (by omega) (by omega)
      · simp only [if_neg c3]
        rw [show a / 4294967296 / 65536 % 256 = a / 4294967296 / 65536 by omega]
        exact fin (a / 4294967296 / 65536) 48 (by decide) (by rw [show (2 : Int) ^ 48 = 281474976710656 by decide]; omega) (by omega) (by omega)
    · simp only [if_neg c2, show IntKind.i64.wrap (32 + 8) = 40 from rfl]
      by_cases c3 : a / 4294967296 ≥ 256
      · simp only [if_pos c3]
        rw [show a / 4294967296 / 256 % 256 = a / 4294967296 / 256 by omega]
        exact fin (a / 4294967296 / 256) 40 (by decide) (by rw [show (2 : Int) ^ 40 = 1099511627776 by decide]; omega) (by omega) (by omega)
      · simp only [if_neg c3]
        rw [show a / 4294967296 % 256 = a / 4294967296 by omega]
        exact fin (a / 4294967296) 32 (by decide) rfl (by omega) (by omega)
  · simp only [if_neg c1, show IntKind.i64.wrap (0 + 16) = 16 from rfl]
    by_cases c2 : a ≥ 65536
    · simp only [if_pos c2, show IntKind.i64.wrap (16 + 8) = 24 from rfl]
      by_cases c3 : a / 65536 ≥ 256
      · simp only [if_pos c3]
        rw [show a / 65536 / 256 % 256 = a / 65536 / 256 by omega]
        exact fin (a / 65536 / 256) 24 (by decide) (by rw [show (2 : Int) ^ 24 = 16777216 by decide]; omega) (by omega) (by omega)
      · simp only [if_neg c3]
        rw [show a / 65536 % 256 = a / 65536 by omega]
        exact fin (a / 65536) 16 (by decide) rfl (by omega) (by omega)
    · simp only [if_neg c2, show IntKind.i64.wrap (0 + 8) = 8 from rfl]
      by_cases c3 : a ≥ 256
      · simp only [if_pos c3]
        rw [show a / 256 % 256 = a / 256 by omega]
        exact fin (a / 256) 8 (by decide) rfl (by omega) (by omega)
      · simp only [if_neg c3]
        rw [show a % 256 = a by omega]
        exact fin (a) 0 (by decide) (by simp) (by omega) (by omega)
end Go.Proofs.YtoggbmfjkcbilaaDoor.V
