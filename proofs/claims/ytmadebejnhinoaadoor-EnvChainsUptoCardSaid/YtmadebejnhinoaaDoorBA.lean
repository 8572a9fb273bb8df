/- Products of words, numbers of two words; Normal forms, order, members, joins, next numbers of classes; Meets of classes; Common divisors by halving, operations on classes; Products, quotients and remainders of classes; Classes as sets; Operations on classes hold of the numbers; Numbers of two words, products and sums of intervals; Quotients and remainders of intervals. Conditions: none. -/
import Derived.Test.YtmadebejnhinoaaDoorEB

set_option linter.unusedVariables false
set_option linter.unusedSimpArgs false
namespace Go.Proofs.YtmadebejnhinoaaDoor.V.B
open Go Go.Wk

theorem shr_k (k : Nat) (hk : k ≤ 64) (x : Int) : x.fdiv (2 ^ min k IntKind.u64.bits) = x / 2 ^ k := by
  have e : IntKind.u64.bits = 64 := rfl
  rw [e, Nat.min_eq_left hk]
  exact Int.fdiv_eq_ediv_of_nonneg _ (Int.le_of_lt (Int.pow_pos (by decide)))
theorem sh32 (x : Int) : x.fdiv (2 ^ min (Int.toNat 32) IntKind.u64.bits) = x / 4294967296 := shr_k 32 (by decide) x
theorem sh16 (x : Int) : x.fdiv (2 ^ min (Int.toNat 16) IntKind.u64.bits) = x / 65536 := shr_k 16 (by decide) x
theorem sh8 (x : Int) : x.fdiv (2 ^ min (Int.toNat 8) IntKind.u64.bits) = x / 256 := shr_k 8 (by decide) x
theorem u8_eq (x : Int) : IntKind.u8.wrap x = x % 256 := by simp [IntKind.wrap, IntKind.signed, IntKind.bits]
theorem andU (a b : Int) : andI .u64 a b = (((a % 18446744073709551616).toNat &&& (b % 18446744073709551616).toNat : Nat) : Int) := by
  rw [andI_eq, wu_eq]
  have e : IntKind.u64.bits = 64 := rfl
  rw [BitVec.toNat_and, BitVec.toNat_ofInt, BitVec.toNat_ofInt, e]
  have e2 : ((2 ^ 64 : Nat) : Int) = 18446744073709551616 := by decide
  rw [e2]
  have h1 : (a % 18446744073709551616).toNat &&& (b % 18446744073709551616).toNat < 2 ^ 64 := Nat.and_lt_two_pow _ (by omega)
  omega
theorem orU (a b : Int) : orI .u64 a b = (((a % 18446744073709551616).toNat ||| (b % 18446744073709551616).toNat : Nat) : Int) := by
  rw [orI_eq, wu_eq]
  have e : IntKind.u64.bits = 64 := rfl
  rw [BitVec.toNat_or, BitVec.toNat_ofInt, BitVec.toNat_ofInt, e]
  have e2 : ((2 ^ 64 : Nat) : Int) = 18446744073709551616 := by decide
  rw [e2]
  have h1 : (a % 18446744073709551616).toNat ||| (b % 18446744073709551616).toNat < 2 ^ 64 := Nat.or_lt_two_pow (by omega) (by omega)
  omega
theorem and_low (x : Int) : andI .u64 x 4294967295 = x % 4294967296 := by
  rw [andU]
  have e1 : ((4294967295 : Int) % 18446744073709551616).toNat = 2 ^ 32 - 1 := by decide
  rw [e1, Nat.and_two_pow_sub_one_eq_mod]
  omega
theorem mul_bound {x y : Int} (hx : 0 ≤ x) (hx' : x < 4294967296) (hy : 0 ≤ y) (hy' : y < 4294967296) : 0 ≤ x * y ∧ x * y ≤ 18446744065119617025 := by
  have h1 : x.natAbs ≤ 4294967295 := by omega
  have h2 : y.natAbs ≤ 4294967295 := by omega
  have h3 := Nat.mul_le_mul h1 h2
  rw [← Int.natAbs_mul] at h3
  have h4 := Int.mul_nonneg hx hy
  omega
theorem bits_Mul64_s {a b : Int} (ha : U64 a) (hb : U64 b) : bits_Mul64 a b = (a * b / 18446744073709551616, a * b % 18446744073709551616) := by
  unfold U64 at ha hb
  unfold bits_Mul64 bits_Mul64.c bits_Mul64.c0
  simp only [id, sh32, and_low, wu_eq]
  have eab : a * b = (a / 4294967296) * (b / 4294967296) * 18446744073709551616 + ((a / 4294967296) * (b % 4294967296) + (a % 4294967296) * (b / 4294967296)) * 4294967296 + (a % 4294967296) * (b % 4294967296) := by
    conv => lhs; rw [show a = a / 4294967296 * 4294967296 + a % 4294967296 by omega, show b = b / 4294967296 * 4294967296 + b % 4294967296 by omega]
    generalize a / 4294967296 = x1
    generalize a % 4294967296 = x0
    generalize b / 4294967296 = y1
    generalize b % 4294967296 = y0
    simp only [Int.add_mul, Int.mul_add]
    have e1 : x1 * 4294967296 * (y1 * 4294967296) = x1 * y1 * 18446744073709551616 := by
      rw [Int.mul_assoc, Int.mul_left_comm 4294967296, ← Int.mul_assoc x1]; rfl
    have e2 : x1 * 4294967296 * y0 = x1 * y0 * 4294967296 := by rw [Int.mul_assoc, Int.mul_comm 4294967296, ← Int.mul_assoc]
    have e3 : x0 * (y1 * 4294967296) = x0 * y1 * 4294967296 := by rw [← Int.mul_assoc]
    rw [e1, e2, e3]
    omega
  rw [eab]
  have b11 := mul_bound (x := a / 4294967296) (y := b / 4294967296) (by omega) (by omega) (by omega) (by omega)
  have b10 := mul_bound (x := a / 4294967296) (y := b % 4294967296) (by omega) (by omega) (by omega) (by omega)
  have b01 := mul_bound (x := a % 4294967296) (y := b / 4294967296) (by omega) (by omega) (by omega) (by omega)
  have b00 := mul_bound (x := a % 4294967296) (y := b % 4294967296) (by omega) (by omega) (by omega) (by omega)
  revert b11 b10 b01 b00
  generalize (a / 4294967296) * (b / 4294967296) = p11
  generalize (a / 4294967296) * (b % 4294967296) = p10
  generalize (a % 4294967296) * (b / 4294967296) = p01
  generalize (a % 4294967296) * (b % 4294967296) = p00
  intro b11 b10 b01 b00
  simp only [Prod.mk.injEq]
  constructor
  · have q1 : p11 % 18446744073709551616 = p11 := by omega
    have q2 : p10 % 18446744073709551616 = p10 := by omega
    have q3 : p01 % 18446744073709551616 = p01 := by omega
    have q4 : p00 % 18446744073709551616 = p00 := by omega
    simp only [q1, q2, q3, q4]
    have q5 : (p10 + p00 / 4294967296) % 18446744073709551616 = p10 + p00 / 4294967296 := by omega
    simp only [q5]
    omega
  · trivial
/-- the table of lengths -/
theorem bl_s (t : Int) (h0 : 0 ≤ t) (h1 : t < 256) : ∃ m : Nat, byteAt len8tab t = m ∧ m ≤ 8 ∧ t < 2 ^ m ∧ (t ≠ 0 → 1 ≤ m ∧ (2 : Int) ^ (m - 1) ≤ t) := by
  have key : ∀ k : Fin 256, (len8tab.data.getD k.val 0).toNat ≤ 8 ∧ k.val < 2 ^ (len8tab.data.getD k.val 0).toNat ∧ (k.val ≠ 0 → 1 ≤ (len8tab.data.getD k.val 0).toNat ∧ 2 ^ ((len8tab.data.getD k.val 0).toNat - 1) ≤ k.val) := by decide +kernel
  have hk := key ⟨t.toNat, by omega⟩
  refine ⟨(len8tab.data.getD t.toNat 0).toNat, rfl, hk.1, ?_, fun h => ?_⟩
  · have := hk.2.1
    have e : ((t.toNat : Nat) : Int) = t := by omega
    rw [← e]; exact_mod_cast this
  · have := hk.2.2 (by simp only; omega)
    refine ⟨this.1, ?_⟩
    have e : ((t.toNat : Nat) : Int) = t := by omega
    have h2 := this.2
    rw [← e]; exact_mod_cast h2
theorem len_fin {γ : Type} (k : Int → γ) (a t : Int) (sh : Nat) (hsh : sh ≤ 56) (ht : t = a / 2 ^ sh) (h0 : 0 ≤ a) (h256 : t < 256) (hlow : sh ≠ 0 → 1 ≤ t) :
    ∃ m : Nat, k (IntKind.i64.wrap (sh + IntKind.i64.wrap (byteAt len8tab t))) = k (m : Int) ∧ m ≤ 64 ∧ a < 2 ^ m ∧ (a ≠ 0 → 1 ≤ m ∧ (2 : Int) ^ (m - 1) ≤ a) := by
  have hd : (0 : Int) < 2 ^ sh := Int.pow_pos (by decide)
  have ht0 : 0 ≤ t := by rw [ht]; exact Int.ediv_nonneg h0 (Int.le_of_lt hd)
  obtain ⟨m, hm, h8, hlt, hge⟩ := bl_s t ht0 h256
  refine ⟨sh + m, ?_, by omega, ?_, fun ha => ?_⟩
  · rw [hm, wi_id (x := (m : Int)) (by omega) (by omega), wi_id (by omega) (by omega)]
    congr 1
  · rw [Int.pow_add]
    rw [ht] at hlt
    have := Int.lt_mul_of_ediv_lt hd hlt
    rwa [Int.mul_comm] at this
  · have ht1 : t ≠ 0 := by
      by_cases hs : sh = 0
      · subst hs; simp at ht; omega
      · have := hlow hs; omega
    obtain ⟨g1, g2⟩ := hge ht1
    refine ⟨by omega, ?_⟩
    rw [ht] at g2
    have := (Int.le_ediv_iff_mul_le hd).1 g2
    rw [show sh + m - 1 = (m - 1) + sh by omega, Int.pow_add]
    exact this
theorem len_k {γ : Type} (n : γ) (k : Int → γ) {a : Int} (ha : U64 a) : ∃ m : Nat, bits_Len64.c n k a = k (m : Int) ∧ m ≤ 64 ∧ a < 2 ^ m ∧ (a ≠ 0 → 1 ≤ m ∧ (2 : Int) ^ (m - 1) ≤ a) := by
  unfold U64 at ha
  unfold bits_Len64.c
  try unfold bits_Len64.c0
  simp only [u8i, cond_true]
  simp only [Bool.cond_decide, sh32, sh16, sh8, u8_eq]
  have fin := fun t sh h1 h2 h3 h4 => len_fin k a t sh h1 h2 ha.1 h3 h4
  by_cases c1 : a ≥ 4294967296
  · simp only [if_pos c1, show IntKind.i64.wrap (32 + 16) = 48 from rfl]
    by_cases c2 : a / 4294967296 ≥ 65536
    · simp only [if_pos c2, show IntKind.i64.wrap (48 + 8) = 56 from rfl]
      by_cases c3 : a / 4294967296 / 65536 ≥ 256
      · simp only [if_pos c3]
        rw [show a / 4294967296 / 65536 / 256 % 256 = a / 4294967296 / 65536 / 256 by omega]
        exact fin (a / 4294967296 / 65536 / 256) 56 (by decide) (by rw [show (2 : Int) ^ 56 = 72057594037927936 by decide]; omega) (by omega) (by omega)
      · simp only [if_neg c3]
        rw [show a / 4294967296 / 65536 % 256 = a / 4294967296 / 65536 by omega]
        exact fin (a / 4294967296 / 65536) 48 (by decide) (by rw [show (2 : Int) ^ 48 = 281474976710656 by decide]; omega) (by omega) (by omega)
    · simp only [if_neg c2, show IntKind.i64.wrap (32 + 8) = 40 from rfl]
      by_cases c3 : a / 4294967296 ≥ 256
      · simp only [if_pos c3]
        rw [show a / 4294967296 / 256 % 256 = a / 4294967296 / 256 by omega]
        exact fin (a / 4294967296 / 256) 40 (by decide) (by rw [show (2 : Int) ^ 40 = 1099511627776 by decide]; omega) (by omega) (by omega)
      · simp only [if_neg c3]
        rw [show a / 4294967296 % 256 = a / 4294967296 by omega]
        exact fin (a / 4294967296) 32 (by decide) rfl (by omega) (by omega)
  · simp only [if_neg c1, show IntKind.i64.wrap (0 + 16) = 16 from rfl]
    by_cases c2 : a ≥ 65536
    · simp only [if_pos c2, show IntKind.i64.wrap (16 + 8) = 24 from rfl]
      by_cases c3 : a / 65536 ≥ 256
      · simp only [if_pos c3]
        rw [show a / 65536 / 256 % 256 = a / 65536 / 256 by omega]
        exact fin (a / 65536 / 256) 24 (by decide) (by rw [show (2 : Int) ^ 24 = 16777216 by decide]; omega) (by omega) (by omega)
      · simp only [if_neg c3]
        rw [show a / 65536 % 256 = a / 65536 by omega]
        exact fin (a / 65536) 16 (by decide) rfl (by omega) (by omega)
    · simp only [if_neg c2, show IntKind.i64.wrap (0 + 8) = 8 from rfl]
      by_cases c3 : a ≥ 256
      · simp only [if_pos c3]
        rw [show a / 256 % 256 = a / 256 by omega]
        exact fin (a / 256) 8 (by decide) rfl (by omega) (by omega)
      · simp only [if_neg c3]
        rw [show a % 256 = a by omega]
        exact fin (a) 0 (by decide) (by simp) (by omega) (by omega)

open Go Go.Wk

theorem exact {N y Q : Int} (h1 : 0 ≤ N - Q * y) (h2 : N < (Q + 1) * y) : Q = N / y ∧ N - Q * y = N % y := by
  have hy : (Q + 1) * y = Q * y + y := by rw [Int.add_mul, Int.one_mul]
  have h3 : N - Q * y < y := by omega
  have := Int.ediv_emod_unique (a := N) (b := y) (r := N - Q * y) (q := Q) (by omega)
  have := this.2 ⟨by rw [Int.mul_comm]; omega, h1, h3⟩
  exact ⟨this.1.symm, this.2.symm⟩
/-- a quotient's digit that is not too small, and what is left of its upper half -/
structure Dg (y yn1 yn0 u un q r : Int) : Prop where
  ey : y = yn1 * 4294967296 + yn0
  a1 : 2147483648 ≤ yn1 ∧ yn1 < 4294967296
  a0 : 0 ≤ yn0 ∧ yn0 < 4294967296
  n0 : 0 ≤ un ∧ un < 4294967296
  u0 : 0 ≤ u ∧ u < y
  q0 : 0 ≤ q ∧ q ≤ 4294967297
  er : q * yn1 = u - r
  r0 : 0 ≤ r
  big : u * 4294967296 + un < (q + 1) * y
theorem Dg.mul {y yn1 yn0 u un q r : Int} (h : Dg y yn1 yn0 u un q r) : q * y = (u - r) * 4294967296 + q * yn0 := by
  rw [h.ey, Int.mul_add, ← Int.mul_assoc, h.er]
theorem Dg.bB {y yn1 yn0 u un q r : Int} (h : Dg y yn1 yn0 u un q r) : 0 ≤ q * yn0 ∧ q * yn0 ≤ 4294967297 * yn0 ∧ (q < 4294967296 → q * yn0 ≤ 4294967295 * yn0) ∧ (4294967296 ≤ q → 4294967296 * yn0 ≤ q * yn0 ∧ 4294967296 * yn1 ≤ q * yn1) :=
  ⟨Int.mul_nonneg h.q0.1 h.a0.1, Int.mul_le_mul_of_nonneg_right h.q0.2 h.a0.1, fun hq => Int.mul_le_mul_of_nonneg_right (by omega) h.a0.1,
    fun hq => ⟨Int.mul_le_mul_of_nonneg_right hq h.a0.1, Int.mul_le_mul_of_nonneg_right hq (by have := h.a1; omega)⟩⟩
theorem Dg.stop {y yn1 yn0 u un q r : Int} (h : Dg y yn1 yn0 u un q r) (hq : q < 4294967296) (ht : q * yn0 ≤ 4294967296 * r + un) : q = (u * 4294967296 + un) / y ∧ u * 4294967296 + un - q * y = (u * 4294967296 + un) % y :=
  exact (by rw [h.mul]; omega) h.big
theorem Dg.more {y yn1 yn0 u un q r : Int} (h : Dg y yn1 yn0 u un q r) (ht : 4294967296 ≤ q ∨ q * yn0 > 4294967296 * r + un) : 1 ≤ q ∧ Dg y yn1 yn0 u un (q - 1) (r + yn1) := by
  have hm := h.mul
  obtain ⟨b1, b2, b3, b4⟩ := h.bB
  obtain ⟨ey, a1, a0, n0, u0, q0, er, r0, big⟩ := h
  have hq : 1 ≤ q := by
    rcases Int.lt_or_le q 1 with h' | h'
    · have : q = 0 := by omega
      subst this
      rw [Int.zero_mul] at ht
      omega
    · exact h'
  refine ⟨hq, ey, a1, a0, n0, u0, by omega, by rw [Int.sub_mul, er]; omega, by omega, ?_⟩
  rw [show q - 1 + 1 = q by omega, hm]
  rcases ht with ht | ht
  · obtain ⟨c1, c2⟩ := b4 ht
    omega
  · omega
theorem Dg.out {y yn1 yn0 u un q r : Int} (h : Dg y yn1 yn0 u un q r) (hq : q ≤ 4294967296) (hr : 4294967296 ≤ r) : q = (u * 4294967296 + un) / y ∧ u * 4294967296 + un - q * y = (u * 4294967296 + un) % y := by
  have hm := h.mul
  have b : q * yn0 ≤ 4294967296 * yn0 := Int.mul_le_mul_of_nonneg_right hq h.a0.1
  have := h.a0; have := h.n0
  exact exact (by rw [hm]; omega) h.big
theorem Dg.yb {y yn1 yn0 u un q r : Int} (h : Dg y yn1 yn0 u un q r) : 0 < y ∧ y < 18446744073709551616 := by
  have := h.ey; have := h.a1; have := h.a0; omega
theorem wr3 (a b c : Int) : IntKind.u64.wrap (IntKind.u64.wrap (IntKind.u64.wrap a + b) - IntKind.u64.wrap c) = IntKind.u64.wrap (a + b - c) := by simp only [wu_eq]; omega
theorem wr_mod {N y : Int} (h : 0 < y ∧ y < 18446744073709551616) : IntKind.u64.wrap (N % y) = N % y := by
  have h1 := Int.emod_nonneg N (show y ≠ 0 by omega)
  have h2 := Int.emod_lt_of_pos N h.1
  exact wu_id h1 (by omega)

theorem L1_step (N0 : Nat) {y yn1 yn0 un0 u : Int} (s q1 : Int) (hs : 0 ≤ s) (m : Nat) (q r : Int) (h : Dg y yn1 yn0 u un0 q r) (hr : r < 4294967296)
    (ih : ¬ r + yn1 ≥ 4294967296 → Dg y yn1 yn0 u un0 (q - 1) (r + yn1) → bits_Div64.L1 N0 m (y, s, yn1, yn0, un0, q1, r + yn1, u, q - 1) = some (IntKind.u64.wrap (IntKind.u64.wrap (q1 * 4294967296) + (u * 4294967296 + un0) / y), ((u * 4294967296 + un0) % y).fdiv (2 ^ min s.toNat IntKind.u64.bits))) :
    bits_Div64.L1 N0 (m + 1) (y, s, yn1, yn0, un0, q1, r, u, q) = some (IntKind.u64.wrap (IntKind.u64.wrap (q1 * 4294967296) + (u * 4294967296 + un0) / y), ((u * 4294967296 + un0) % y).fdiv (2 ^ min s.toNat IntKind.u64.bits)) := by
  obtain ⟨b1, b2, b3, b4⟩ := h.bB
  have a1 := h.a1; have a0 := h.a0; have n0 := h.n0; have r0 := h.r0; have q0 := h.q0
  have hy := h.yb
  have hs' : decide (s < 0) = false := by simpa using hs
  have e1 : IntKind.u64.wrap (r + yn1) = r + yn1 := wu_id (by omega) (by omega)
  have e2 : IntKind.u64.wrap (4294967296 * r) = 4294967296 * r := wu_id (by omega) (by omega)
  have e3 : IntKind.u64.wrap (4294967296 * r + un0) = 4294967296 * r + un0 := wu_id (by omega) (by omega)
  unfold bits_Div64.L1 bits_Div64.l1.c bits_Div64.l1.c0
  simp only [e1, e2, e3, wr3, hs', Bool.not_false, cond_true]
  have next : 4294967296 ≤ q ∨ q * yn0 > 4294967296 * r + un0 → (bif decide (r + yn1 ≥ 4294967296) then some (IntKind.u64.wrap (IntKind.u64.wrap (q1 * 4294967296) + IntKind.u64.wrap (q - 1)), (IntKind.u64.wrap (u * 4294967296 + un0 - IntKind.u64.wrap (q - 1) * y)).fdiv (2 ^ min s.toNat IntKind.u64.bits)) else bits_Div64.L1 N0 m (y, s, yn1, yn0, un0, q1, r + yn1, u, IntKind.u64.wrap (q - 1)))
      = some (IntKind.u64.wrap (IntKind.u64.wrap (q1 * 4294967296) + (u * 4294967296 + un0) / y), ((u * 4294967296 + un0) % y).fdiv (2 ^ min s.toNat IntKind.u64.bits)) := by
    intro ht
    obtain ⟨hq, h'⟩ := h.more ht
    have e4 : IntKind.u64.wrap (q - 1) = q - 1 := wu_id (by omega) (by omega)
    rw [e4]
    by_cases g : r + yn1 ≥ 4294967296
    · obtain ⟨f1, f2⟩ := h'.out (by omega) g
      rw [decide_eq_true g, f2, wr_mod hy, ← f1]
      rfl
    · rw [decide_eq_false g]
      exact ih g h'
  by_cases g1 : q ≥ 4294967296
  · rw [decide_eq_true g1]
    exact next (.inl g1)
  · have e5 : IntKind.u64.wrap (q * yn0) = q * yn0 := wu_id (by omega) (by have := b3 (by omega); omega)
    rw [decide_eq_false g1, e5]
    by_cases g2 : q * yn0 > 4294967296 * r + un0
    · rw [decide_eq_true g2]
      exact next (.inr g2)
    · obtain ⟨f1, f2⟩ := h.stop (by omega) (by omega)
      rw [decide_eq_false g2, f2, wr_mod hy, ← f1]
      rfl
theorem L1_s (N0 : Nat) {y yn1 yn0 un0 u : Int} (s q1 : Int) (hs : 0 ≤ s) : ∀ (m : Nat) (q r : Int), Dg y yn1 yn0 u un0 q r → r < 4294967296 → 4294967296 - r ≤ m * 2147483648 →
    bits_Div64.L1 N0 (m + 1) (y, s, yn1, yn0, un0, q1, r, u, q) = some (IntKind.u64.wrap (IntKind.u64.wrap (q1 * 4294967296) + (u * 4294967296 + un0) / y), ((u * 4294967296 + un0) % y).fdiv (2 ^ min s.toNat IntKind.u64.bits)) := by
  intro m
  induction m with
  | zero => intro q r h hr hm; exact L1_step N0 s q1 hs 0 q r h hr (fun g => by have := h.r0; have := h.a1; omega)
  | succ m ih => intro q r h hr hm; exact L1_step N0 s q1 hs (m + 1) q r h hr (fun g h2 => ih _ _ h2 (by omega) (by have := h.a1; omega))
theorem Dg.first {y yn1 yn0 u un : Int} (ey : y = yn1 * 4294967296 + yn0) (a1 : 2147483648 ≤ yn1 ∧ yn1 < 4294967296) (a0 : 0 ≤ yn0 ∧ yn0 < 4294967296) (n0 : 0 ≤ un ∧ un < 4294967296) (u0 : 0 ≤ u ∧ u < y) :
    Dg y yn1 yn0 u un (u / yn1) (u - u / yn1 * yn1) ∧ u - u / yn1 * yn1 < 4294967296 := by
  have e := Int.emod_add_mul_ediv u yn1
  have h1 := Int.emod_nonneg u (show yn1 ≠ 0 by omega)
  have h2 := Int.emod_lt_of_pos u (show 0 < yn1 by omega)
  have h3 : 0 ≤ u / yn1 := Int.ediv_nonneg u0.1 (by omega)
  have h4 : u / yn1 ≤ 4294967297 := by
    have : u / yn1 < 4294967298 := Int.ediv_lt_of_lt_mul (by omega) (by omega)
    omega
  have e' : u / yn1 * yn1 = u - u % yn1 := by rw [Int.mul_comm]; omega
  refine ⟨⟨ey, a1, a0, n0, u0, ⟨h3, h4⟩, by omega, by omega, ?_⟩, by omega⟩
  have b : 0 ≤ u / yn1 * yn0 := Int.mul_nonneg h3 a0.1
  rw [Int.add_mul, Int.one_mul]
  have : u / yn1 * y = (u / yn1 * yn1) * 4294967296 + u / yn1 * yn0 := by rw [ey, Int.mul_add, ← Int.mul_assoc]
  rw [this, e']
  omega
theorem tdiv_w {u v : Int} (hu : 0 ≤ u) (hu' : u < 18446744073709551616) (hv : 0 < v) : IntKind.u64.wrap (u.tdiv v) = u / v := by
  rw [Int.tdiv_eq_ediv_of_nonneg hu]
  have h1 : 0 ≤ u / v := Int.ediv_nonneg hu (by omega)
  have h2 : u / v ≤ u := Int.ediv_le_self v hu
  exact wu_id h1 (by omega)
theorem L0_step (N0 : Nat) {y yn1 yn0 un1 un0 u : Int} (s : Int) (hs : 0 ≤ s) (hn : 0 ≤ un0 ∧ un0 < 4294967296) (m : Nat) (q r : Int) (h : Dg y yn1 yn0 u un1 q r) (hr : r < 4294967296)
    (ih : ¬ r + yn1 ≥ 4294967296 → Dg y yn1 yn0 u un1 (q - 1) (r + yn1) → bits_Div64.L0 (N0 + 3) (bits_Div64.L1 (N0 + 3) (N0 + 3)) m (y, s, yn1, yn0, u, un1, un0, q - 1, r + yn1) = some (IntKind.u64.wrap (IntKind.u64.wrap ((u * 4294967296 + un1) / y * 4294967296) + ((u * 4294967296 + un1) % y * 4294967296 + un0) / y), (((u * 4294967296 + un1) % y * 4294967296 + un0) % y).fdiv (2 ^ min s.toNat IntKind.u64.bits))) :
    bits_Div64.L0 (N0 + 3) (bits_Div64.L1 (N0 + 3) (N0 + 3)) (m + 1) (y, s, yn1, yn0, u, un1, un0, q, r) = some (IntKind.u64.wrap (IntKind.u64.wrap ((u * 4294967296 + un1) / y * 4294967296) + ((u * 4294967296 + un1) % y * 4294967296 + un0) / y), (((u * 4294967296 + un1) % y * 4294967296 + un0) % y).fdiv (2 ^ min s.toNat IntKind.u64.bits)) := by
  obtain ⟨b1, b2, b3, b4⟩ := h.bB
  have a1 := h.a1; have a0 := h.a0; have n0 := h.n0; have r0 := h.r0; have q0 := h.q0
  have hy := h.yb
  have e0 : decide (yn1 = 0) = false := by simp; omega
  have e1 : IntKind.u64.wrap (r + yn1) = r + yn1 := wu_id (by omega) (by omega)
  have e2 : IntKind.u64.wrap (4294967296 * r) = 4294967296 * r := wu_id (by omega) (by omega)
  have e3 : IntKind.u64.wrap (4294967296 * r + un1) = 4294967296 * r + un1 := wu_id (by omega) (by omega)
  have hmod := Int.emod_nonneg (u * 4294967296 + un1) (show y ≠ 0 by omega)
  have hmod2 := Int.emod_lt_of_pos (u * 4294967296 + un1) hy.1
  unfold bits_Div64.L0 bits_Div64.l0.c bits_Div64.l0.c0
  simp only [e1, e2, e3, wr3, e0, Bool.not_false, cond_true]
  have fin : ∀ Q : Int, Q = (u * 4294967296 + un1) / y → u * 4294967296 + un1 - Q * y = (u * 4294967296 + un1) % y → bits_Div64.L1 (N0 + 3) (N0 + 3) (y, s, yn1, yn0, un0, Q, IntKind.u64.wrap (IntKind.u64.wrap (u * 4294967296 + un1 - Q * y) - IntKind.u64.wrap (IntKind.u64.wrap ((IntKind.u64.wrap (u * 4294967296 + un1 - Q * y)).tdiv yn1) * yn1)), IntKind.u64.wrap (u * 4294967296 + un1 - Q * y), IntKind.u64.wrap ((IntKind.u64.wrap (u * 4294967296 + un1 - Q * y)).tdiv yn1))
      = some (IntKind.u64.wrap (IntKind.u64.wrap ((u * 4294967296 + un1) / y * 4294967296) + ((u * 4294967296 + un1) % y * 4294967296 + un0) / y), (((u * 4294967296 + un1) % y * 4294967296 + un0) % y).fdiv (2 ^ min s.toNat IntKind.u64.bits)) := by
    intro Q f1 f2
    rw [f2, wr_mod hy, tdiv_w hmod (by omega) (by omega)]
    obtain ⟨d1, d2⟩ := Dg.first h.ey h.a1 h.a0 hn ⟨hmod, hmod2⟩
    have g1 := d1.r0
    have g3 := d1.er
    have g2 : IntKind.u64.wrap ((u * 4294967296 + un1) % y - IntKind.u64.wrap ((u * 4294967296 + un1) % y / yn1 * yn1)) = (u * 4294967296 + un1) % y - (u * 4294967296 + un1) % y / yn1 * yn1 := by
      simp only [wu_eq]; omega
    rw [g2, f1]
    exact L1_s (N0 + 3) s _ hs (N0 + 2) _ _ d1 d2 (by omega)
  have next : 4294967296 ≤ q ∨ q * yn0 > 4294967296 * r + un1 → (bif decide (r + yn1 ≥ 4294967296) then bits_Div64.L1 (N0 + 3) (N0 + 3) (y, s, yn1, yn0, un0, IntKind.u64.wrap (q - 1), IntKind.u64.wrap (IntKind.u64.wrap (u * 4294967296 + un1 - IntKind.u64.wrap (q - 1) * y) - IntKind.u64.wrap (IntKind.u64.wrap ((IntKind.u64.wrap (u * 4294967296 + un1 - IntKind.u64.wrap (q - 1) * y)).tdiv yn1) * yn1)), IntKind.u64.wrap (u * 4294967296 + un1 - IntKind.u64.wrap (q - 1) * y), IntKind.u64.wrap ((IntKind.u64.wrap (u * 4294967296 + un1 - IntKind.u64.wrap (q - 1) * y)).tdiv yn1))
        else bits_Div64.L0 (N0 + 3) (bits_Div64.L1 (N0 + 3) (N0 + 3)) m (y, s, yn1, yn0, u, un1, un0, IntKind.u64.wrap (q - 1), r + yn1))
      = some (IntKind.u64.wrap (IntKind.u64.wrap ((u * 4294967296 + un1) / y * 4294967296) + ((u * 4294967296 + un1) % y * 4294967296 + un0) / y), (((u * 4294967296 + un1) % y * 4294967296 + un0) % y).fdiv (2 ^ min s.toNat IntKind.u64.bits)) := by
    intro ht
    obtain ⟨hq, h'⟩ := h.more ht
    have e4 : IntKind.u64.wrap (q - 1) = q - 1 := wu_id (by omega) (by omega)
    rw [e4]
    by_cases g : r + yn1 ≥ 4294967296
    · obtain ⟨f1, f2⟩ := h'.out (by omega) g
      rw [decide_eq_true g]
      exact fin _ f1 f2
    · rw [decide_eq_false g]
      exact ih g h'
  by_cases g1 : q ≥ 4294967296
  · rw [decide_eq_true g1]
    exact next (.inl g1)
  · have e5 : IntKind.u64.wrap (q * yn0) = q * yn0 := wu_id (by omega) (by have := b3 (by omega); omega)
    rw [decide_eq_false g1, e5]
    by_cases g2 : q * yn0 > 4294967296 * r + un1
    · rw [decide_eq_true g2]
      exact next (.inr g2)
    · obtain ⟨f1, f2⟩ := h.stop (by omega) (by omega)
      rw [decide_eq_false g2]
      exact fin _ f1 f2
theorem L0_s (N0 : Nat) {y yn1 yn0 un1 un0 u : Int} (s : Int) (hs : 0 ≤ s) (hn : 0 ≤ un0 ∧ un0 < 4294967296) : ∀ (m : Nat) (q r : Int), Dg y yn1 yn0 u un1 q r → r < 4294967296 → 4294967296 - r ≤ m * 2147483648 →
    bits_Div64.L0 (N0 + 3) (bits_Div64.L1 (N0 + 3) (N0 + 3)) (m + 1) (y, s, yn1, yn0, u, un1, un0, q, r) = some (IntKind.u64.wrap (IntKind.u64.wrap ((u * 4294967296 + un1) / y * 4294967296) + ((u * 4294967296 + un1) % y * 4294967296 + un0) / y), (((u * 4294967296 + un1) % y * 4294967296 + un0) % y).fdiv (2 ^ min s.toNat IntKind.u64.bits)) := by
  intro m
  induction m with
  | zero => intro q r h hr hm; exact L0_step N0 s hs hn 0 q r h hr (fun g => by have := h.r0; have := h.a1; omega)
  | succ m ih => intro q r h hr hm; exact L0_step N0 s hs hn (m + 1) q r h hr (fun g h2 => ih _ _ h2 (by omega) (by have := h.a1; omega))

open Go Go.Wk

theorem lz_s {c : Int} (hc : U64 c) (h0 : c ≠ 0) : ∃ s : Nat, bits_LeadingZeros64 c = (s : Int) ∧ s ≤ 63 ∧ (9223372036854775808 : Int) ≤ c * 2 ^ s ∧ c * 2 ^ s < 18446744073709551616 := by
  obtain ⟨m, hm, h64, hlt, hge⟩ := len_k (0 : Int) id hc
  obtain ⟨m1, hge⟩ := hge h0
  refine ⟨64 - m, ?_, by omega, ?_, ?_⟩
  · unfold bits_LeadingZeros64 bits_LeadingZeros64.c
    try unfold bits_LeadingZeros64.c0
    unfold bits_Len64
    rw [hm]
    simp only [id]
    rw [wi_id (by omega) (by omega)]; omega
  · have h1 : (2 : Int) ^ (m - 1) * 2 ^ (64 - m) = 9223372036854775808 := by rw [← Int.pow_add, show m - 1 + (64 - m) = 63 by omega]; rfl
    rw [← h1]
    exact Int.mul_le_mul_of_nonneg_right hge (Int.le_of_lt (Int.pow_pos (by decide)))
  · have h1 : (2 : Int) ^ m * 2 ^ (64 - m) = 18446744073709551616 := by rw [← Int.pow_add, show m + (64 - m) = 64 by omega]; rfl
    rw [← h1]
    exact Int.mul_lt_mul_of_pos_right hlt (Int.pow_pos (by decide))
theorem or_sum (a b s : Nat) (hb : b < 2 ^ s) (h : a * 2 ^ s < 2 ^ 64) (hs : s ≤ 64) : orI .u64 ((a : Int) * 2 ^ s) (b : Int) = (a : Int) * 2 ^ s + b := by
  have hp : (2 : Nat) ^ s ≤ 2 ^ 64 := Nat.pow_le_pow_right (by decide) hs
  have e1 : ((a : Int) * 2 ^ s % 18446744073709551616).toNat = 2 ^ s * a := by
    have : ((a : Int) * 2 ^ s) = ((a * 2 ^ s : Nat) : Int) := by push_cast; rfl
    rw [this, Nat.mul_comm (2 ^ s) a]; omega
  have e2 : ((b : Int) % 18446744073709551616).toNat = b := by omega
  rw [orU, e1, e2, ← Nat.two_pow_add_eq_or_of_lt hb a]
  push_cast
  rw [Int.mul_comm]
/-- two digits of a quotient -/
theorem two_digits {u n1 n0 y : Int} (hy : 0 < y) : (u * 4294967296 + n1) / y * 4294967296 + ((u * 4294967296 + n1) % y * 4294967296 + n0) / y = (u * 18446744073709551616 + n1 * 4294967296 + n0) / y ∧
    ((u * 4294967296 + n1) % y * 4294967296 + n0) % y = (u * 18446744073709551616 + n1 * 4294967296 + n0) % y := by
  have e := Int.emod_add_mul_ediv (u * 4294967296 + n1) y
  have e2 : u * 18446744073709551616 + n1 * 4294967296 + n0 = ((u * 4294967296 + n1) % y * 4294967296 + n0) + y * ((u * 4294967296 + n1) / y * 4294967296) := by
    rw [← Int.mul_assoc]; omega
  rw [e2, Int.add_mul_ediv_left _ _ (by omega), Int.add_mul_emod_self_left]
  exact ⟨Int.add_comm _ _, rfl⟩
theorem div64_o {a b c : Int} (ha : 0 ≤ a) (hac : a < c) (hb : U64 b) (hc : U64 c) : bits_Div64.o 8 a b c = some ((a * 18446744073709551616 + b) / c, (a * 18446744073709551616 + b) % c) := by
  have hc' := hc
  unfold U64 at hb hc
  obtain ⟨s, hs, h63, hlo, hhi⟩ := lz_s hc' (by omega)
  have w1 : IntKind.u64.wrap (s : Int) = s := wu_id (by omega) (by omega)
  have w2 : IntKind.u64.wrap (64 - (s : Int)) = 64 - s := wu_id (by omega) (by omega)
  have w3 : min ((s : Int).toNat) IntKind.u64.bits = s := by have : IntKind.u64.bits = 64 := rfl; rw [this, Int.toNat_natCast]; omega
  have w4 : min ((64 - (s : Int)).toNat) IntKind.u64.bits = 64 - s := by have : IntKind.u64.bits = 64 := rfl; rw [this]; omega
  have hpq : (2 : Int) ^ s * 2 ^ (64 - s) = 18446744073709551616 := by rw [← Int.pow_add, show s + (64 - s) = 64 by omega]; rfl
  have hp : (0 : Int) < 2 ^ s := Int.pow_pos (by decide)
  have hq : (0 : Int) < 2 ^ (64 - s) := Int.pow_pos (by decide)
  have e0 : (c == 0) = false := by simp; omega
  have e1 : decide (c ≤ a) = false := by simp; omega
  have e2 : decide (c = 0) = false := by simp; omega
  have e3 : decide ((s : Int) < 0) = false := decide_eq_false (by omega)
  have e4 : decide ((64 : Int) - s < 0) = false := by simp; omega
  unfold bits_Div64.o bits_Div64.c bits_Div64.c0
  simp only [hs, w1, w2, w3, w4, e0, e1, e2, e3, e4, cond_false, cond_true, Bool.not_false, sh32, and_low]
  by_cases h0 : a = 0
  · subst h0
    have h1 : 0 ≤ b / c := Int.ediv_nonneg hb.1 (by omega)
    have h2 : b / c ≤ b := Int.ediv_le_self c hb.1
    rw [Int.tdiv_eq_ediv_of_nonneg hb.1, Int.tmod_eq_emod_of_nonneg hb.1, wu_id h1 (by omega)]
    simp
  · have e5 : (a == 0) = false := by simpa using h0
    rw [e5]
    simp only [cond_false]
    have hap : a * 2 ^ s < c * 2 ^ s := Int.mul_lt_mul_of_pos_right hac hp
    have hap0 : 0 ≤ a * 2 ^ s := Int.mul_nonneg ha (Int.le_of_lt hp)
    have f1 : IntKind.u64.wrap (c * 2 ^ s) = c * 2 ^ s := wu_id (by omega) (by omega)
    have f2 : IntKind.u64.wrap (a * 2 ^ s) = a * 2 ^ s := wu_id (by omega) (by omega)
    have hbq : b / 2 ^ (64 - s) < 2 ^ s := Int.ediv_lt_of_lt_mul hq (by rw [hpq]; exact hb.2)
    have hbq0 : 0 ≤ b / 2 ^ (64 - s) := Int.ediv_nonneg hb.1 (Int.le_of_lt hq)
    have hbm := Int.emod_nonneg b (show (2 : Int) ^ (64 - s) ≠ 0 by omega)
    have hbm2 := Int.emod_lt_of_pos b hq
    have hbe := Int.emod_add_mul_ediv b (2 ^ (64 - s))
    have f3 : orI .u64 (a * 2 ^ s) (b.fdiv (2 ^ (64 - s))) = a * 2 ^ s + b / 2 ^ (64 - s) := by
      rw [Int.fdiv_eq_ediv_of_nonneg _ (Int.le_of_lt hq)]
      have := or_sum a.toNat (b / 2 ^ (64 - s)).toNat s (by
        have h2 : ((b / 2 ^ (64 - s)).toNat : Int) < ((2 ^ s : Nat) : Int) := by push_cast; omega
        exact_mod_cast h2) (by
        have h2 : ((a.toNat * 2 ^ s : Nat) : Int) < ((2 ^ 64 : Nat) : Int) := by rw [Int.natCast_mul, Int.natCast_pow, show ((a.toNat : Nat) : Int) = a by omega]; exact Int.lt_of_lt_of_le (Int.lt_trans hap hhi) (by decide)
        exact_mod_cast h2) (by omega)
      rw [show ((a.toNat : Nat) : Int) = a by omega, show (((b / 2 ^ (64 - s)).toNat : Nat) : Int) = b / 2 ^ (64 - s) by omega] at this
      exact this
    have hm0 : 0 ≤ b % 2 ^ (64 - s) * 2 ^ s := Int.mul_nonneg hbm (Int.le_of_lt hp)
    have hm1 : b % 2 ^ (64 - s) * 2 ^ s < 18446744073709551616 := by
      have := Int.mul_lt_mul_of_pos_right hbm2 hp
      rw [Int.mul_comm (2 ^ (64 - s))] at this
      omega
    have hb2 : b * 2 ^ s = b / 2 ^ (64 - s) * 18446744073709551616 + b % 2 ^ (64 - s) * 2 ^ s := by
      conv => lhs; rw [← hbe]
      rw [Int.add_mul, ← hpq]
      have : 2 ^ (64 - s) * (b / 2 ^ (64 - s)) * 2 ^ s = b / 2 ^ (64 - s) * ((2 : Int) ^ s * 2 ^ (64 - s)) := by
        rw [Int.mul_comm (2 ^ (64 - s)) (b / 2 ^ (64 - s)), Int.mul_assoc, Int.mul_comm (2 ^ (64 - s)) (2 ^ s)]
      omega
    have f4 : IntKind.u64.wrap (b * 2 ^ s) = b % 2 ^ (64 - s) * 2 ^ s := by rw [hb2, wu_eq]; omega
    rw [f1, f2, f3, f4]
    have hu0 : 0 ≤ a * 2 ^ s + b / 2 ^ (64 - s) := by omega
    have hu1 : a * 2 ^ s + b / 2 ^ (64 - s) < c * 2 ^ s := by
      have h1 : (a + 1) * 2 ^ s ≤ c * 2 ^ s := Int.mul_le_mul_of_nonneg_right (by omega) (Int.le_of_lt hp)
      rw [Int.add_mul, Int.one_mul] at h1
      omega
    have hM : (a * 18446744073709551616 + b) * 2 ^ s = (a * 2 ^ s + b / 2 ^ (64 - s)) * 18446744073709551616 + b % 2 ^ (64 - s) * 2 ^ s := by
      rw [Int.add_mul, hb2, Int.add_mul]
      have : a * 18446744073709551616 * 2 ^ s = a * 2 ^ s * 18446744073709551616 := by rw [Int.mul_assoc, Int.mul_comm 18446744073709551616, ← Int.mul_assoc]
      omega
    have key := Int.mul_ediv_mul_of_pos_left (a * 18446744073709551616 + b) c hp
    have key2 : (a * 18446744073709551616 + b) * 2 ^ s % (c * 2 ^ s) = (a * 18446744073709551616 + b) % c * 2 ^ s := by
      rw [Int.mul_comm _ (2 ^ s), Int.mul_comm c, Int.mul_emod_mul_of_pos _ _ hp, Int.mul_comm]
    rw [hM] at key key2
    generalize a * 2 ^ s + b / 2 ^ (64 - s) = u at hu0 hu1 key key2 ⊢
    generalize b % 2 ^ (64 - s) * 2 ^ s = v at hm0 hm1 key key2 ⊢
    generalize c * 2 ^ s = y at hlo hhi hu1 key key2 ⊢
    obtain ⟨d1, d2⟩ := Dg.first (y := y) (yn1 := y / 4294967296) (yn0 := y % 4294967296) (u := u) (un := v / 4294967296) (by omega) (by omega) (by omega) (by omega) ⟨hu0, hu1⟩
    have g1 : IntKind.u64.wrap (u.tdiv (y / 4294967296)) = u / (y / 4294967296) := tdiv_w hu0 (by omega) (by omega)
    have g0 := d1.r0
    have g9 := d1.er
    have g2 : IntKind.u64.wrap (u - IntKind.u64.wrap (u / (y / 4294967296) * (y / 4294967296))) = u - u / (y / 4294967296) * (y / 4294967296) := by
      simp only [wu_eq]; omega
    have g3 : decide (y / 4294967296 = 0) = false := by simp; omega
    rw [g1, g2, g3]
    simp only [Bool.not_false, cond_true]
    rw [L0_s 5 (s : Int) (by omega) (un0 := v % 4294967296) (by omega) 7 _ _ d1 d2 (by omega)]
    obtain ⟨t1, t2⟩ := two_digits (u := u) (n1 := v / 4294967296) (n0 := v % 4294967296) (y := y) (by omega)
    rw [show u * 18446744073709551616 + v / 4294967296 * 4294967296 + v % 4294967296 = u * 18446744073709551616 + v by omega] at t1 t2
    rw [t2, key2, w3, Int.fdiv_eq_ediv_of_nonneg _ (Int.le_of_lt hp), Int.mul_ediv_cancel _ (by omega)]
    congr 2
    rw [key] at t1
    have r1 : 0 ≤ (a * 18446744073709551616 + b) / c := Int.ediv_nonneg (by omega) (by omega)
    have r2 : (a * 18446744073709551616 + b) / c < 18446744073709551616 := Int.ediv_lt_of_lt_mul (by omega) (by
      have : (a + 1) * 18446744073709551616 ≤ c * 18446744073709551616 := Int.mul_le_mul_of_nonneg_right (by omega) (by decide)
      omega)
    simp only [wu_eq]
    omega
theorem div64_g {a b c : Int} (ha : 0 ≤ a) (hac : a < c) (hb : U64 b) (hc : U64 c) : bits_Div64.g a b c = true := by
  unfold bits_Div64.g; rw [hide_eq, div64_o ha hac hb hc]; rfl
theorem div64_s {a b c : Int} (ha : 0 ≤ a) (hac : a < c) (hb : U64 b) (hc : U64 c) : bits_Div64 a b c = ((a * 18446744073709551616 + b) / c, (a * 18446744073709551616 + b) % c) := by
  unfold bits_Div64; rw [hide_eq, div64_o ha hac hb hc]; rfl

open Go Go.Wk

theorem cbe {α : Type} (x y : Int) (X Y : α) : (bif x == y then X else Y) = if x = y then X else Y := by
  by_cases h : x = y
  · subst h; simp
  · rw [if_neg h, show (x == y) = false by simpa using h]; rfl
theorem cbn {α : Type} (x y : Int) (X Y : α) : (bif x != y then X else Y) = if x = y then Y else X := by
  by_cases h : x = y
  · subst h; simp
  · rw [if_neg h, show (x != y) = true by simpa using h]; rfl
theorem cbd {α : Type} (p : Prop) [Decidable p] (X Y : α) : (bif !decide p then X else Y) = if p then Y else X := by
  by_cases h : p <;> simp [h]
theorem i64u (x : Int) : I64 (IntKind.i64.wrap x) := ⟨wi_lo x, wi_hi x⟩
theorem emod_U {x m : Int} (hm : U64 m) (h0 : m ≠ 0) : 0 ≤ x % m ∧ x % m < m ∧ U64 (x % m) := by
  have h1 := Int.emod_nonneg x h0
  unfold U64 at *
  have h2 := Int.emod_lt_of_pos x (show 0 < m by omega)
  exact ⟨h1, h2, h1, by omega⟩
theorem mod_of {v m r q : Int} (h : v = r + m * q) (h0 : 0 ≤ r) (h1 : r < m) : v % m = r := by
  rw [h, Int.add_mul_emod_self_left, Int.emod_eq_of_lt h0 h1]
/-- a remainder; by 0 the bits -/
def md (x m : Int) : Int := if m = 0 then x % 18446744073709551616 else x % m
theorem mod_k {γ : Type} (n : γ) (k : Int → γ) {v m : Int} (hv : I64 v) (hm : U64 m) : word_Mod.c n k v m = k (md v m) := by
  unfold I64 at hv; unfold U64 at hm
  unfold word_Mod.c word_Mod.c0 md
  simp only [cbe, cbd, Bool.cond_decide]
  by_cases h0 : m = 0
  · simp only [if_pos h0, wu_eq]
  · simp only [if_neg h0]
    by_cases h1 : v ≥ 0
    · simp only [if_pos h1]
      rw [wu_id h1 (by omega), Int.tmod_eq_emod_of_nonneg h1]
    · simp only [if_neg h1]
      have e1 : IntKind.i64.wrap (v + 1) = v + 1 := wi_id (by omega) (by omega)
      have e2 : IntKind.i64.wrap (0 - (v + 1)) = 0 - (v + 1) := wi_id (by omega) (by omega)
      have e3 : IntKind.u64.wrap (0 - (v + 1)) = 0 - (v + 1) := wu_id (by omega) (by omega)
      have e4 : IntKind.u64.wrap (m - 1) = m - 1 := wu_id (by omega) (by omega)
      rw [e1, e2, e3, e4, Int.tmod_eq_emod_of_nonneg (by omega)]
      have g1 := Int.emod_nonneg (0 - (v + 1)) h0
      have g2 := Int.emod_lt_of_pos (0 - (v + 1)) (show 0 < m by omega)
      have g3 := Int.emod_add_mul_ediv (0 - (v + 1)) m
      rw [wu_id (by omega) (by omega)]
      rw [mod_of (v := v) (r := m - 1 - (0 - (v + 1)) % m) (q := -((0 - (v + 1)) / m) - 1) (by
        have e : m * (-((0 - (v + 1)) / m) - 1) = -(m * ((0 - (v + 1)) / m)) - m := by rw [Int.mul_sub, Int.mul_neg, Int.mul_one]
        omega) (by omega) (by omega)]
theorem mod_s {v m : Int} (hv : I64 v) (hm : U64 m) : word_Mod v m = md v m := mod_k _ _ hv hm
theorem alone_s (a b : Int) : cong_alone a b = (a == 0) := by unfold cong_alone cong_alone.c; (try unfold cong_alone.c0); rfl
/-- a class's whole number -/
def vc (m r : Int) : Int := if m = 0 then IntKind.i64.wrap r else r
theorem wi_emod (r : Int) : IntKind.i64.wrap r % 18446744073709551616 = r % 18446744073709551616 := by rw [wi_eq]; omega
theorem rest_k {γ : Type} (n : γ) (k : Int → γ) {c r m : Int} (hr : U64 r) (hm : U64 m) : cong_rest.c n k c r m = k (md (vc c r) m) := by
  unfold cong_rest.c cong_rest.c0
  simp only [alone_s, mod_s (i64u r) hm, cbe, cbd]
  unfold vc
  unfold U64 at hr
  by_cases h : c = 0
  · rw [if_pos h, if_pos h]
  · rw [if_neg h, if_neg h]
    unfold md
    by_cases h2 : m = 0
    · rw [if_pos h2, if_pos h2]; rw [Int.emod_eq_of_lt hr.1 hr.2]
    · rw [if_neg h2, if_neg h2, if_neg h2, Int.tmod_eq_emod_of_nonneg hr.1]
theorem rest_s {c r m : Int} (hr : U64 r) (hm : U64 m) : cong_rest c r m = md (vc c r) m := rest_k _ _ hr hm
theorem md_U (x : Int) {m : Int} (hm : U64 m) : U64 (md x m) := by
  unfold md
  by_cases h : m = 0
  · rw [if_pos h]; unfold U64; omega
  · rw [if_neg h]; exact (emod_U hm h).2.2
/-- greatest common divisor -/
def gg (a b : Int) : Int := (Nat.gcd a.toNat b.toNat : Int)
theorem gg_step {a b : Int} (ha : 0 ≤ a) (hb : 0 ≤ b) : gg b (a % b) = gg a b := by
  unfold gg
  have : (a % b).toNat = a.toNat % b.toNat := by
    have e : ((a.toNat % b.toNat : Nat) : Int) = a % b := by rw [Int.natCast_emod]; rw [show ((a.toNat : Nat) : Int) = a by omega, show ((b.toNat : Nat) : Int) = b by omega]
    omega
  rw [this, Nat.gcd_comm b.toNat, ← Nat.gcd_rec, Nat.gcd_comm]
theorem gg_zero {a : Int} (ha : 0 ≤ a) : gg a 0 = a := by unfold gg; simp; omega
theorem gcd_L (N : Nat) : ∀ (m : Nat) (a b : Int), 0 ≤ a → 0 ≤ b → b < m → word_Gcd.L0 N m (a, b) = some (gg a b)
  | 0, a, b, ha, hb, hm => by omega
  | m + 1, a, b, ha, hb, hm => by
    unfold word_Gcd.L0 word_Gcd.l0.c
    (try unfold word_Gcd.l0.c0)
    simp only [cbn, cbd]
    by_cases h : b = 0
    · rw [if_pos h, h, gg_zero ha]
    · rw [if_neg h, if_neg h, Int.tmod_eq_emod_of_nonneg ha]
      have h1 := Int.emod_nonneg a h
      have h2 := Int.emod_lt_of_pos a (show 0 < b by omega)
      rw [gcd_L N m b (a % b) hb h1 (by omega), gg_step ha hb]
theorem gcd_o {a b : Int} (ha : 0 ≤ a) (hb : 0 ≤ b) : word_Gcd.o (b.toNat + 2) a b = some (gg a b) := by
  unfold word_Gcd.o word_Gcd.c
  exact gcd_L _ _ _ _ ha hb (by omega)
theorem gcd_g {a b : Int} (ha : 0 ≤ a) (hb : 0 ≤ b) : word_Gcd.g a b = true := by unfold word_Gcd.g; rw [hide_eq, gcd_o ha hb]; rfl
theorem gcd_s {a b : Int} (ha : 0 ≤ a) (hb : 0 ≤ b) : word_Gcd a b = gg a b := by unfold word_Gcd; rw [hide_eq, gcd_o ha hb]; rfl
theorem gg_comm (a b : Int) : gg a b = gg b a := by unfold gg; rw [Nat.gcd_comm]
theorem gg_nonneg (a b : Int) : 0 ≤ gg a b := by unfold gg; omega
theorem gg_dvd {a b : Int} (ha : 0 ≤ a) (hb : 0 ≤ b) : gg a b ∣ a ∧ gg a b ∣ b := by
  unfold gg
  have h1 := Nat.gcd_dvd_left a.toNat b.toNat
  have h2 := Nat.gcd_dvd_right a.toNat b.toNat
  have e1 : ((a.toNat : Nat) : Int) = a := by omega
  have e2 : ((b.toNat : Nat) : Int) = b := by omega
  constructor
  · have := Int.natCast_dvd_natCast.2 h1; rwa [e1] at this
  · have := Int.natCast_dvd_natCast.2 h2; rwa [e2] at this
theorem dvd_gg {a b d : Int} (ha : 0 ≤ a) (hb : 0 ≤ b) (h1 : d ∣ a) (h2 : d ∣ b) : d ∣ gg a b := by
  unfold gg
  rw [← Int.natAbs_dvd] at h1 h2 ⊢
  have e1 : ((a.toNat : Nat) : Int) = a := by omega
  have e2 : ((b.toNat : Nat) : Int) = b := by omega
  rw [← e1] at h1
  rw [← e2] at h2
  exact Int.natCast_dvd_natCast.2 (Nat.dvd_gcd (Int.natCast_dvd_natCast.1 h1) (Int.natCast_dvd_natCast.1 h2))
theorem gg_pos {a b : Int} (ha : 0 ≤ a) (hb : 0 ≤ b) (h : a ≠ 0 ∨ b ≠ 0) : 0 < gg a b := by
  unfold gg
  have : 0 < Nat.gcd a.toNat b.toNat := by
    rcases h with h | h
    · exact Nat.gcd_pos_of_pos_left _ (by omega)
    · exact Nat.gcd_pos_of_pos_right _ (by omega)
  omega
theorem gg_le {a b : Int} (ha : 0 ≤ a) (hb : 0 ≤ b) (h : a ≠ 0) : gg a b ≤ a := by
  have := Int.le_of_dvd (by omega) (gg_dvd ha hb).1
  exact this
theorem gg_U {a b : Int} (ha : U64 a) (hb : U64 b) : U64 (gg a b) := by
  unfold U64 at *
  refine ⟨gg_nonneg a b, ?_⟩
  by_cases h : a = 0
  · by_cases h' : b = 0
    · subst h h'; decide
    · rw [gg_comm]; have := gg_le hb.1 ha.1 h'; omega
  · have := gg_le ha.1 hb.1 h; omega
theorem minus_s {x y m : Int} (hm : U64 m) (hx : 0 ≤ x) (hx2 : x < m) (hy : 0 ≤ y) (hy2 : y < m) : cong_minus x y m = (x - y) % m := by
  unfold U64 at hm
  unfold cong_minus cong_minus.c cong_minus.c0
  simp only [Bool.cond_decide, id]
  by_cases h : x ≥ y
  · rw [if_pos h, wu_id (by omega) (by omega), Int.emod_eq_of_lt (by omega) (by omega)]
  · rw [if_neg h, wu_id (x := m - y) (by omega) (by omega), wu_id (by omega) (by omega)]
    rw [show x - y = (m - y + x) + m * (-1) by omega, Int.add_mul_emod_self_left, Int.emod_eq_of_lt (by omega) (by omega)]
theorem mul_U {a b : Int} (ha : U64 a) (hb : U64 b) : 0 ≤ a * b ∧ a * b < 340282366920938463463374607431768211456 ∧ a * b / 18446744073709551616 < 18446744073709551616 := by
  unfold U64 at *
  have h0 := Int.mul_nonneg ha.1 hb.1
  have h1 : a * b ≤ 18446744073709551615 * b := Int.mul_le_mul_of_nonneg_right (by omega) hb.1
  omega
theorem times_k {γ : Type} (n : γ) (k : Int → γ) {x y m : Int} (hx : U64 x) (hy : U64 y) (hm : U64 m) (h0 : m ≠ 0) : cong_times.c n k x y m = k (x * y % m) := by
  have hm' := hm
  have hb := mul_U hx hy
  unfold U64 at hm
  unfold cong_times.c cong_times.c0
  simp only [bits_Mul64_s hx hy]
  have g1 : 0 ≤ x * y / 18446744073709551616 := by omega
  have e1 : (x * y / 18446744073709551616).tmod m = x * y / 18446744073709551616 % m := Int.tmod_eq_emod_of_nonneg g1
  have g2 := Int.emod_nonneg (x * y / 18446744073709551616) h0
  have g3 := Int.emod_lt_of_pos (x * y / 18446744073709551616) (show 0 < m by omega)
  have hl : U64 (x * y % 18446744073709551616) := by unfold U64; omega
  have e2 : ∀ {β : Type} (n : β) (k : Int → β), bits_Rem64.c n k (x * y / 18446744073709551616) (x * y % 18446744073709551616) m = k (x * y % m) := by
    intro β n k
    unfold bits_Rem64.c bits_Rem64.c0
    simp only [e1, div64_g g2 g3 hl hm', div64_s g2 g3 hl hm', cbd, if_neg h0, cond_true]
    congr 1
    rw [Int.add_emod, Int.mul_emod, Int.emod_emod, ← Int.mul_emod, ← Int.add_emod]
    congr 1
    omega
  unfold bits_Rem64.ok bits_Rem64
  rw [e2, e2]
  rfl
theorem times_ok {x y m : Int} (hx : U64 x) (hy : U64 y) (hm : U64 m) (h0 : m ≠ 0) : cong_times.ok x y m = true := times_k _ _ hx hy hm h0
theorem times_s {x y m : Int} (hx : U64 x) (hy : U64 y) (hm : U64 m) (h0 : m ≠ 0) : cong_times x y m = x * y % m := times_k _ _ hx hy hm h0

end Go.Proofs.YtmadebejnhinoaaDoor.V.B


set_option linter.unusedVariables false
set_option linter.unusedSimpArgs false
namespace Go.Proofs.YtmadebejnhinoaaDoor.V.B
open Go Go.Wk

/-- a number of two words -/
def D (x : Int) : Prop := 0 ≤ x ∧ x < 340282366920938463463374607431768211456
theorem half (A : Int) (i : Nat) : A / 2 ^ i = 2 * (A / 2 ^ (i + 1)) + A / 2 ^ i % 2 := by
  have : (2 : Int) ^ (i + 1) = 2 ^ i * 2 := Int.pow_succ 2 i
  rw [this, ← Int.ediv_ediv_of_nonneg (Int.le_of_lt (Int.pow_pos (by decide)))]
  omega
open Go Go.Wk

/-- a raw class's remainder, in normal form -/
def nr (m r : Int) : Int := if m = 0 then r else r % m
/-- a raw class's whole number -/
def val (m r : Int) : Int := if m = 0 then IntKind.i64.wrap r else r % m
theorem val_nr (m r : Int) : vc m (nr m r) = val m r := by unfold vc nr val; by_cases h : m = 0 <;> simp [h]
theorem nr_U {m r : Int} (hm : U64 m) (hr : U64 r) : U64 (nr m r) := by
  unfold nr; by_cases h : m = 0
  · rw [if_pos h]; exact hr
  · rw [if_neg h]; exact (emod_U hm h).2.2
theorem norm_k {γ : Type} (n : γ) (k : Int × Int → γ) {m r : Int} (hm : U64 m) (hr : U64 r) : cong_Norm.c n k m r = k (m, nr m r) := by
  unfold U64 at *
  unfold cong_Norm.c nr
  (try unfold cong_Norm.c0)
  simp only [Bool.cond_decide, cbd]
  by_cases h : m = 0
  · rw [if_neg (by omega), if_pos h]
  · rw [if_pos (by omega), if_neg h, if_neg h, Int.tmod_eq_emod_of_nonneg hr.1]
theorem norm_s {m r : Int} (hm : U64 m) (hr : U64 r) : cong_Norm m r = (m, nr m r) := norm_k _ _ hm hr
theorem val_b {m r : Int} (hm : U64 m) (hr : U64 r) : -9223372036854775808 ≤ val m r ∧ val m r < 18446744073709551616 := by
  unfold val
  by_cases h : m = 0
  · rw [if_pos h]; have := i64u r; unfold I64 at this; omega
  · rw [if_neg h]; have := emod_U (x := r) hm h; unfold U64 at hm; omega
/-- order -/
def leqS (a0 a1 b0 b1 : Int) : Bool := if b0 = 0 then decide (a0 = 0 ∧ a1 = b1) else decide (a0 % b0 = 0 ∧ val a0 a1 % b0 = val b0 b1 % b0)
theorem leq_k {γ : Type} (n : γ) (k : Bool → γ) {a0 a1 b0 b1 : Int} (h1 : U64 a0) (h2 : U64 a1) (h3 : U64 b0) (h4 : U64 b1) : cong_Leq.c n k a0 a1 b0 b1 = k (leqS a0 a1 b0 b1) := by
  unfold cong_Leq.c leqS
  (try unfold cong_Leq.c0)
  simp only [norm_s h1 h2, norm_s h3 h4, alone_s, cbe, cbd]
  rw [rest_s (nr_U h1 h2) h3, val_nr]
  by_cases h : b0 = 0
  · rw [if_pos h, if_pos h]
    congr 1
    rw [Bool.eq_iff_iff]
    unfold nr
    by_cases g : a0 = 0
    · simp [g, h]
    · simp [g, h]
  · rw [if_neg h, if_neg h, if_neg h]
    have h1' := h1
    unfold U64 at h1'
    rw [Int.tmod_eq_emod_of_nonneg h1'.1]
    have e : md (val a0 a1) b0 = val a0 a1 % b0 := by unfold md; rw [if_neg h]
    have e2 : val b0 b1 % b0 = nr b0 b1 := by unfold val nr; rw [if_neg h, if_neg h, Int.emod_emod]
    rw [e, e2]
    by_cases g : a0 % b0 = 0
    · rw [if_pos g]; congr 1; rw [Bool.eq_iff_iff]; simp [g]
    · rw [if_neg g, decide_eq_false (by omega)]
theorem leq_ok {a0 a1 b0 b1 : Int} (h1 : U64 a0) (h2 : U64 a1) (h3 : U64 b0) (h4 : U64 b1) : cong_Leq.ok a0 a1 b0 b1 = true := leq_k _ _ h1 h2 h3 h4
theorem leq_s {a0 a1 b0 b1 : Int} (h1 : U64 a0) (h2 : U64 a1) (h3 : U64 b0) (h4 : U64 b1) : cong_Leq a0 a1 b0 b1 = leqS a0 a1 b0 b1 := leq_k _ _ h1 h2 h3 h4
/-- members -/
def hasS (m r v : Int) : Bool := if m = 0 then decide (v = IntKind.i64.wrap r) else decide (v % m = r % m)
theorem has_s {m r v : Int} (hm : U64 m) (hr : U64 r) (hv : I64 v) : cong_Has m r v = hasS m r v := by
  unfold cong_Has cong_Has.c hasS
  (try unfold cong_Has.c0)
  simp only [norm_s hm hr, mod_s hv hm, id]
  unfold md nr
  by_cases h : m = 0
  · simp only [if_pos h]
    rw [Bool.eq_iff_iff, beq_iff_eq, decide_eq_true_eq]
    unfold U64 at hr; unfold I64 at hv
    rw [wi_eq]; omega
  · simp only [if_neg h]
    rw [Bool.eq_iff_iff, beq_iff_eq, decide_eq_true_eq]
theorem const_s (v : Int) : cong_Const v = (0, IntKind.u64.wrap v) := by unfold cong_Const cong_Const.c; (try unfold cong_Const.c0); rfl
theorem val0 {v : Int} (hv : I64 v) : val 0 (IntKind.u64.wrap v) = v := by
  unfold I64 at hv
  unfold val; rw [if_pos rfl, wi_eq, wu_eq]; omega
open Go Go.Wk

theorem gg_congr {g p q : Int} (hg : 0 ≤ g) (hp : 0 ≤ p) (hq : 0 ≤ q) (h : g ∣ p - q ∨ g ∣ p + q) : gg g p = gg g q := by
  have key : ∀ p q : Int, 0 ≤ p → 0 ≤ q → (g ∣ p - q ∨ g ∣ p + q) → gg g p ∣ gg g q := by
    intro p q hp hq h
    obtain ⟨h1, h2⟩ := gg_dvd hg hp
    refine dvd_gg hg hq h1 ?_
    rcases h with h | h
    · have := Int.dvd_sub h2 (Int.dvd_trans h1 h)
      rwa [show p - (p - q) = q by omega] at this
    · have := Int.dvd_sub (Int.dvd_trans h1 h) h2
      rwa [show p + q - p = q by omega] at this
  have h' : g ∣ q - p ∨ g ∣ q + p := by
    rcases h with h | h
    · left; have := Int.dvd_neg.2 h; rwa [show -(p - q) = q - p by omega] at this
    · right; rwa [Int.add_comm]
  exact Int.dvd_antisymm (gg_nonneg _ _) (gg_nonneg _ _) (key p q hp hq h) (key q p hq hp h')
theorem gg0 {a : Int} (ha : 0 ≤ a) : gg 0 a = a := by rw [gg_comm, gg_zero ha]
/-- how far apart two whole numbers are -/
def dst (x y : Int) : Int := if x < y then y - x else x - y
/-- the modulus of a join -/
def jg (a0 a1 b0 b1 : Int) : Int := gg (gg a0 b0) (dst (val a0 a1) (val b0 b1))
def joinS (a0 a1 b0 b1 : Int) : Int × Int := (jg a0 a1 b0 b1, if jg a0 a1 b0 b1 = 0 then nr a0 a1 else val a0 a1 % jg a0 a1 b0 b1)
theorem jg_U {a0 a1 b0 b1 : Int} (h1 : U64 a0) (h2 : U64 a1) (h3 : U64 b0) (h4 : U64 b1) : U64 (jg a0 a1 b0 b1) := by
  have g := gg_U h1 h3
  have v1 := val_b h1 h2
  have v2 := val_b h3 h4
  have hd : 0 ≤ dst (val a0 a1) (val b0 b1) := by unfold dst; split <;> omega
  unfold jg
  by_cases h : gg a0 b0 = 0
  · have e1 : a0 = 0 := by
      rcases Int.lt_or_le 0 a0 with h' | h'
      · have := gg_pos h1.1 h3.1 (.inl (by omega)); omega
      · have := h1.1; omega
    have e2 : b0 = 0 := by
      rcases Int.lt_or_le 0 b0 with h' | h'
      · have := gg_pos h1.1 h3.1 (.inr (by omega)); omega
      · have := h3.1; omega
    rw [h, gg0 hd]
    have w1 := i64u a1
    have w2 := i64u b1
    unfold val dst
    rw [if_pos e1, if_pos e2]
    unfold I64 at w1 w2; unfold U64
    split <;> omega
  · have := gg_le (gg_nonneg a0 b0) hd h
    unfold U64 at g ⊢
    exact ⟨gg_nonneg _ _, by omega⟩
theorem dst_wrap {x y : Int} (hx : I64 x) (hy : I64 y) : IntKind.u64.wrap (IntKind.u64.wrap (if y > x then y else x) - IntKind.u64.wrap (if y < x then y else x)) = dst x y := by
  unfold I64 at *
  unfold dst
  simp only [wu_eq]
  (repeat' split) <;> omega
theorem dst_u {x y : Int} (hx : U64 x) (hy : U64 y) : IntKind.u64.wrap ((if y > x then y else x) - (if y < x then y else x)) = dst x y := by
  unfold U64 at *
  unfold dst
  simp only [wu_eq]
  (repeat' split) <;> omega
theorem dst_nonneg (x y : Int) : 0 ≤ dst x y := by unfold dst; split <;> omega
theorem dst_mod {x y g : Int} (h : g ≠ 0) : g ∣ dst (x % g) (y % g) - dst x y ∨ g ∣ dst (x % g) (y % g) + dst x y := by
  have d1 : g ∣ x % g - x := Int.dvd_emod_sub_self
  have d2 : g ∣ y % g - y := Int.dvd_emod_sub_self
  have d3 := Int.dvd_sub d1 d2
  have d4 := Int.dvd_neg.2 d3
  unfold dst
  split <;> split
  · left; rwa [show y % g - x % g - (y - x) = -(x % g - x - (y % g - y)) by omega]
  · right; rwa [show y % g - x % g + (x - y) = -(x % g - x - (y % g - y)) by omega]
  · right; rwa [show x % g - y % g + (y - x) = (x % g - x - (y % g - y)) by omega]
  · left; rwa [show x % g - y % g - (x - y) = (x % g - x - (y % g - y)) by omega]
theorem join_k {γ : Type} (n : γ) (k : Int × Int → γ) {a0 a1 b0 b1 : Int} (h1 : U64 a0) (h2 : U64 a1) (h3 : U64 b0) (h4 : U64 b1) : cong_Join.c n k a0 a1 b0 b1 = k (joinS a0 a1 b0 b1) := by
  have hj := jg_U h1 h2 h3 h4
  have hn1 := nr_U h1 h2
  have hn3 := nr_U h3 h4
  have z : (0 : Int) ≤ 0 := Int.le_refl 0
  have hg := gg_U h1 h3
  unfold cong_Join.c
  (try unfold cong_Join.c0)
  simp only [norm_s h1 h2, norm_s h3 h4, gcd_g z h1.1, gcd_s z h1.1, gg0 h1.1, gcd_g h1.1 h3.1, gcd_s h1.1 h3.1, gcd_g z hg.1, gcd_s z hg.1, gg0 hg.1, cond_true, cbe]
  rw [dst_wrap (i64u _) (i64u _), rest_s hn1 hg, rest_s hn3 hg, val_nr, val_nr, dst_u (md_U _ hg) (md_U _ hg), gcd_g hg.1 (dst_nonneg _ _), gcd_s hg.1 (dst_nonneg _ _)]
  simp only [cond_true]
  unfold joinS
  by_cases h : gg a0 b0 = 0
  · have e1 : a0 = 0 := by
      rcases Int.lt_or_le 0 a0 with h' | h'
      · have := gg_pos h1.1 h3.1 (.inl (by omega)); omega
      · have := h1.1; omega
    have e2 : b0 = 0 := by
      rcases Int.lt_or_le 0 b0 with h' | h'
      · have := gg_pos h1.1 h3.1 (.inr (by omega)); omega
      · have := h3.1; omega
    rw [if_pos h]
    have e3 : dst (IntKind.i64.wrap (nr a0 a1)) (IntKind.i64.wrap (nr b0 b1)) = jg a0 a1 b0 b1 := by
      unfold jg
      rw [h, gg0 (dst_nonneg _ _)]
      unfold nr val
      simp only [if_pos e1, if_pos e2]
    rw [e3, rest_s hn1 hj, val_nr]
    congr 2
    unfold md
    by_cases g : jg a0 a1 b0 b1 = 0
    · rw [if_pos g, if_pos g]
      unfold val nr
      rw [if_pos e1, if_pos e1, wi_emod]
      unfold U64 at h2
      exact Int.emod_eq_of_lt h2.1 h2.2
    · rw [if_neg g, if_neg g]
  · rw [if_neg h]
    have e3 : gg (gg a0 b0) (dst (md (val a0 a1) (gg a0 b0)) (md (val b0 b1) (gg a0 b0))) = jg a0 a1 b0 b1 := by
      unfold jg md
      rw [if_neg h, if_neg h]
      exact gg_congr hg.1 (dst_nonneg _ _) (dst_nonneg _ _) (dst_mod h)
    rw [e3, rest_s hn1 hj, val_nr]
    have hne : jg a0 a1 b0 b1 ≠ 0 := by
      have := gg_pos hg.1 (dst_nonneg (val a0 a1) (val b0 b1)) (.inl h)
      unfold jg; omega
    unfold md
    rw [if_neg hne, if_neg hne]
theorem join_s {a0 a1 b0 b1 : Int} (h1 : U64 a0) (h2 : U64 a1) (h3 : U64 b0) (h4 : U64 b1) : cong_Join a0 a1 b0 b1 = joinS a0 a1 b0 b1 := join_k _ _ h1 h2 h3 h4
theorem join_ok {a0 a1 b0 b1 : Int} (h1 : U64 a0) (h2 : U64 a1) (h3 : U64 b0) (h4 : U64 b1) : cong_Join.ok a0 a1 b0 b1 = true := join_k _ _ h1 h2 h3 h4
/-- how far it is from a number to a class's next -/
def far1 (m x y : Int) : Int := (x - y) % m
theorem far1_s {m x y : Int} (hm : 0 < m) : far1 m x y = if x % m ≥ y % m then x % m - y % m else m - y % m + x % m := by
  have a1 := Int.emod_nonneg x (show m ≠ 0 by omega)
  have a2 := Int.emod_lt_of_pos x hm
  have b1 := Int.emod_nonneg y (show m ≠ 0 by omega)
  have b2 := Int.emod_lt_of_pos y hm
  unfold far1
  rw [Int.sub_emod]
  by_cases h : x % m ≥ y % m
  · rw [if_pos h, Int.emod_eq_of_lt (by omega) (by omega)]
  · rw [if_neg h]
    exact mod_of (q := -1) (by rw [Int.mul_neg, Int.mul_one]; omega) (by omega) (by omega)
theorem far1_b {m x y : Int} (hm : 0 < m) : 0 ≤ far1 m x y ∧ far1 m x y < m := ⟨Int.emod_nonneg _ (by omega), Int.emod_lt_of_pos _ hm⟩
def upS (m r v : Int) : Int × Bool := if m = 0 then (if IntKind.i64.wrap r < v then (0, false) else (IntKind.i64.wrap r, true)) else if far1 m r v ≤ 9223372036854775807 - v then (v + far1 m r v, true) else (0, false)
def dnS (m r v : Int) : Int × Bool := if m = 0 then (if IntKind.i64.wrap r > v then (0, false) else (IntKind.i64.wrap r, true)) else if far1 m v r ≤ v + 9223372036854775808 then (v - far1 m v r, true) else (0, false)
theorem up_s {m r v : Int} (hm : U64 m) (hr : U64 r) (hv : I64 v) : cong_Up m r v = upS m r v := by
  have hm' := hm
  unfold U64 at hm'
  unfold I64 at hv
  unfold cong_Up cong_Up.c cong_next cong_next.c
  (try unfold cong_Up.c0)
  (try unfold cong_next.c0)
  simp only [norm_s hm hr, alone_s, mod_s hv hm, id, cbe, show decide ((1 : Int) < 0) = false from rfl, cond_false, show decide ((1 : Int) > 0) = true from rfl, Int.mul_one, Bool.cond_decide]
  unfold upS
  by_cases h : m = 0
  · rw [if_pos h, if_pos h]
    have e : nr m r = r := by unfold nr; rw [if_pos h]
    rw [e]
    by_cases g : IntKind.i64.wrap r = v
    · rw [if_pos g, if_neg (by omega)]
    · rw [if_neg g]
      by_cases g2 : IntKind.i64.wrap r > v
      · rw [decide_eq_true g2, if_neg (by omega)]; rfl
      · rw [decide_eq_false g2, if_pos (by omega)]; rfl
  · rw [if_neg h, if_neg h]
    have e : nr m r = r % m := by unfold nr; rw [if_neg h]
    have e2 : md v m = v % m := by unfold md; rw [if_neg h]
    have a1 := Int.emod_nonneg r h
    have a2 := Int.emod_lt_of_pos r (show 0 < m by omega)
    have b1 := Int.emod_nonneg v h
    have b2 := Int.emod_lt_of_pos v (show 0 < m by omega)
    have hb := far1_b (m := m) (x := r) (y := v) (by omega)
    rw [e, e2]
    have hf := far1_s (m := m) (x := r) (y := v) (by omega)
    generalize far1 m r v = f at hf hb ⊢
    generalize r % m = x at *
    generalize v % m = y at *
    simp only [wu_eq, wi_eq]
    by_cases g : x ≥ y
    · rw [if_pos g] at hf
      rw [if_pos g]
      by_cases g2 : f ≤ 9223372036854775807 - v
      · rw [if_pos g2, if_pos (by omega)]; simp only [Prod.mk.injEq, and_true]; omega
      · rw [if_neg g2, if_neg (by omega)]
    · rw [if_neg g] at hf
      rw [if_neg g]
      by_cases g2 : f ≤ 9223372036854775807 - v
      · rw [if_pos g2, if_pos (by omega)]; simp only [Prod.mk.injEq, and_true]; omega
      · rw [if_neg g2, if_neg (by omega)]
theorem dn_s {m r v : Int} (hm : U64 m) (hr : U64 r) (hv : I64 v) : cong_Down m r v = dnS m r v := by
  have hm' := hm
  unfold U64 at hm'
  unfold I64 at hv
  unfold cong_Down cong_Down.c cong_next cong_next.c
  (try unfold cong_Down.c0)
  (try unfold cong_next.c0)
  simp only [norm_s hm hr, alone_s, mod_s hv hm, id, cbe, show decide ((-1 : Int) < 0) = true from rfl, cond_true, show decide ((-1 : Int) > 0) = false from rfl, Int.mul_neg, Int.mul_one, Bool.cond_decide]
  unfold dnS
  by_cases h : m = 0
  · rw [if_pos h, if_pos h]
    have e : nr m r = r := by unfold nr; rw [if_pos h]
    rw [e]
    by_cases g : IntKind.i64.wrap r = v
    · rw [if_pos g, if_neg (by omega)]
    · rw [if_neg g]
      by_cases g2 : IntKind.i64.wrap r > v
      · rw [decide_eq_true g2, if_pos (by omega)]; rfl
      · rw [decide_eq_false g2, if_neg (by omega)]; rfl
  · rw [if_neg h, if_neg h]
    have e : nr m r = r % m := by unfold nr; rw [if_neg h]
    have e2 : md v m = v % m := by unfold md; rw [if_neg h]
    have a1 := Int.emod_nonneg r h
    have a2 := Int.emod_lt_of_pos r (show 0 < m by omega)
    have b1 := Int.emod_nonneg v h
    have b2 := Int.emod_lt_of_pos v (show 0 < m by omega)
    have hb := far1_b (m := m) (x := v) (y := r) (by omega)
    rw [e, e2]
    have hf := far1_s (m := m) (x := v) (y := r) (by omega)
    generalize far1 m v r = f at hf hb ⊢
    generalize r % m = x at *
    generalize v % m = y at *
    simp only [wu_eq, wi_eq]
    by_cases g : y ≥ x
    · rw [if_pos g] at hf
      rw [if_pos g]
      by_cases g2 : f ≤ v + 9223372036854775808
      · rw [if_pos g2, if_pos (by omega)]; simp only [Prod.mk.injEq, and_true]; omega
      · rw [if_neg g2, if_neg (by omega)]
    · rw [if_neg g] at hf
      rw [if_neg g]
      by_cases g2 : f ≤ v + 9223372036854775808
      · rw [if_pos g2, if_pos (by omega)]; simp only [Prod.mk.injEq, and_true]; omega
      · rw [if_neg g2, if_neg (by omega)]
end Go.Proofs.YtmadebejnhinoaaDoor.V.B


set_option linter.unusedVariables false
set_option linter.unusedSimpArgs false
namespace Go.Proofs.YtmadebejnhinoaaDoor.V.B
open Go Go.Wk

theorem inv_step {a m t6 t5 was iss q qm left last r : Int} (h1 : m ∣ t6 - (was - t5)) (h2 : m ∣ t5 - qm * iss) (h3 : m ∣ qm - q) (h4 : m ∣ a * was - last) (h5 : m ∣ a * iss - left) (h6 : last = r + left * q) : m ∣ a * t6 - r := by
  have d1 := Int.dvd_mul_of_dvd_right h1 (b := a)
  have d2 := Int.dvd_mul_of_dvd_right h2 (b := a)
  have d3 := Int.dvd_mul_of_dvd_right h3 (b := a * iss)
  have d4 := Int.dvd_mul_of_dvd_right h5 (b := q)
  have s := Int.dvd_sub (Int.dvd_sub (Int.dvd_sub (Int.dvd_add d1 h4) d2) d3) d4
  have e1 : a * (qm * iss) = a * iss * qm := by rw [Int.mul_comm qm, ← Int.mul_assoc]
  have e2 : q * (a * iss) = a * iss * q := Int.mul_comm _ _
  have e3 : q * left = left * q := Int.mul_comm _ _
  simp only [Int.mul_sub, e1, e2, e3] at s
  rwa [show a * t6 - (a * was - a * t5) + (a * was - last) - (a * t5 - a * iss * qm) - (a * iss * qm - a * iss * q) - (a * iss * q - left * q) = a * t6 - r by omega] at s
theorem ediv_U {x y : Int} (hx : U64 x) (hy : 0 ≤ y) : U64 (x / y) := by
  unfold U64 at *
  exact ⟨Int.ediv_nonneg hx.1 hy, Int.lt_of_le_of_lt (Int.ediv_le_self y hx.1) hx.2⟩
theorem rem_wrap {x y : Int} (hx : U64 x) (hy : 0 < y) : IntKind.u64.wrap (x - IntKind.u64.wrap (x / y * y)) = x % y := by
  have h1 := Int.emod_nonneg x (show y ≠ 0 by omega)
  have h3 := Int.emod_add_mul_ediv x y
  have h4 := Int.mul_nonneg (Int.le_of_lt hy) (Int.ediv_nonneg hx.1 (Int.le_of_lt hy))
  rw [Int.mul_comm] at h3 h4
  unfold U64 at hx
  simp only [wu_eq]
  omega
theorem inv_L (N : Nat) {a m : Int} (hm : U64 m) (h0 : m ≠ 0) : ∀ (n : Nat) (last left was iss : Int), U64 last → U64 left → 0 ≤ was → was < m → 0 ≤ iss → iss < m → m ∣ a * was - last → m ∣ a * iss - left → gg last left = 1 → left < n →
    ∃ t, cong_inverse.L0 N n (m, last, left, was, iss) = some t ∧ 0 ≤ t ∧ t < m ∧ m ∣ a * t - 1
  | 0, last, left, was, iss, hl, hf, _, _, _, _, _, _, _, hn => by unfold U64 at hf; omega
  | n + 1, last, left, was, iss, hl, hf, w0, w1, i0, i1, d1, d2, hg, hn => by
    have hm' := hm
    unfold U64 at hm'
    unfold cong_inverse.L0 cong_inverse.l0.c
    (try unfold cong_inverse.l0.c0)
    simp only [cbn, cbd, if_neg h0]
    by_cases h : left = 0
    · rw [if_pos h]
      rw [h, gg_zero hl.1] at hg
      exact ⟨was, rfl, w0, w1, by rw [← hg]; exact d1⟩
    · have hf' := hf
      unfold U64 at hf'
      have hq := ediv_U hl hf.1
      have iU : U64 iss := by unfold U64; omega
      have qm := emod_U (x := last / left) hm h0
      have e1 : IntKind.u64.wrap (last.tdiv left) = last / left := by
        rw [Int.tdiv_eq_ediv_of_nonneg hl.1]; exact wu_id hq.1 hq.2
      rw [if_neg h, if_neg h, e1, Int.tmod_eq_emod_of_nonneg hq.1, times_ok qm.2.2 iU hm h0, times_s qm.2.2 iU hm h0, rem_wrap hl (by omega)]
      have tm := emod_U (x := last / left % m * iss) hm h0
      rw [minus_s hm w0 w1 tm.1 tm.2.1]
      simp only [cond_true]
      have um := emod_U (x := was - last / left % m * iss % m) hm h0
      have r1 := Int.emod_nonneg last h
      have r2 := Int.emod_lt_of_pos last (show 0 < left by omega)
      have ee := Int.emod_add_mul_ediv last left
      refine inv_L N hm h0 n left (last % left) iss _ hf (by unfold U64; omega) i0 i1 um.1 um.2.1 d2 ?_ ?_ (by omega)
      · exact inv_step (Int.dvd_emod_sub_self) (Int.dvd_emod_sub_self) (Int.dvd_emod_sub_self) d1 d2 (by omega)
      · rw [gg_step hl.1 hf.1]; exact hg
theorem one_mod {m : Int} (hm : U64 m) (h0 : m ≠ 0) : Int.tmod 1 m = 1 % m := Int.tmod_eq_emod_of_nonneg (by decide)
theorem inv_s {a m : Int} (ha : U64 a) (hm : U64 m) (h0 : m ≠ 0) (hg : gg a m = 1) : cong_inverse.g a m = true ∧ 0 ≤ cong_inverse a m ∧ cong_inverse a m < m ∧ m ∣ a * cong_inverse a m - 1 := by
  have hm' := hm
  unfold U64 at hm'
  have am := emod_U (x := a) hm h0
  have om := emod_U (x := 1) hm h0
  obtain ⟨t, ht, t0, t1, td⟩ := inv_L (m.toNat + 2) (a := a) hm h0 (m.toNat + 2) m (a % m) 0 (1 % m) hm am.2.2 (by omega) (by omega) om.1 om.2.1 (by rw [Int.mul_zero]; exact ⟨-1, by omega⟩) (by
    have d1 : m ∣ a * (1 % m - 1) := Int.dvd_mul_of_dvd_right Int.dvd_emod_sub_self
    have d2 : m ∣ a % m - a := Int.dvd_emod_sub_self
    have := Int.dvd_sub d1 d2
    rwa [Int.mul_sub, Int.mul_one, show a * (1 % m) - a - (a % m - a) = a * (1 % m) - a % m by omega] at this) (by rw [gg_step ha.1 hm.1]; exact hg) (by omega)
  have ho : cong_inverse.o (m.toNat + 2) a m = some t := by
    unfold cong_inverse.o cong_inverse.c
    simp only [cbd, if_neg h0, Int.tmod_eq_emod_of_nonneg ha.1, one_mod hm h0]
    exact ht
  unfold cong_inverse.g cong_inverse
  rw [hide_eq, hide_eq, ho]
  exact ⟨rfl, t0, t1, td⟩
open Go Go.Wk

/-- of two moduli: the second's part, the number of steps, the first common number, the common modulus -/
def mpt (a b : Int) : Int := b / gg a b
def mk (a b r s : Int) : Int := ((s - r) / gg a b) % mpt a b
noncomputable def mst (a b r s : Int) : Int := mk a b r s * cong_inverse (a / gg a b) (mpt a b) % mpt a b
noncomputable def mx (a b r s : Int) : Int := a * mst a b r s + r
def ml (a b : Int) : Int := a * mpt a b
noncomputable def meet2 (a b r s : Int) : Int × Int × Bool :=
  if r % gg a b ≠ s % gg a b then (0, 0, false)
  else if ml a b < 18446744073709551616 then (ml a b, mx a b r s, true)
  else if mx a b r s ≤ 9223372036854775807 then (0, mx a b r s, true)
  else if ml a b - mx a b r s ≤ 9223372036854775808 then (0, 18446744073709551616 - (ml a b - mx a b r s), true) else (0, 0, false)
noncomputable def meetS (a0 a1 b0 b1 : Int) : Int × Int × Bool :=
  if a0 = 0 then (if hasS b0 (nr b0 b1) (IntKind.i64.wrap a1) then (0, a1, true) else (0, 0, false))
  else if b0 = 0 then (if hasS a0 (nr a0 a1) (IntKind.i64.wrap b1) then (0, b1, true) else (0, 0, false))
  else meet2 a0 b0 (nr a0 a1) (nr b0 b1)
theorem coprime {a b : Int} (ha : 0 ≤ a) (hb : 0 ≤ b) (h : 0 < gg a b) : gg (a / gg a b) (b / gg a b) = 1 := by
  have hp : 0 < Nat.gcd a.toNat b.toNat := by unfold gg at h; omega
  have := Nat.coprime_div_gcd_div_gcd hp
  have e1 : (a / gg a b).toNat = a.toNat / Nat.gcd a.toNat b.toNat := by
    have : a / gg a b = ((a.toNat / Nat.gcd a.toNat b.toNat : Nat) : Int) := by
      unfold gg; rw [Int.natCast_ediv, show ((a.toNat : Nat) : Int) = a by omega]
    rw [this, Int.toNat_natCast]
  have e2 : (b / gg a b).toNat = b.toNat / Nat.gcd a.toNat b.toNat := by
    have : b / gg a b = ((b.toNat / Nat.gcd a.toNat b.toNat : Nat) : Int) := by
      unfold gg; rw [Int.natCast_ediv, show ((b.toNat : Nat) : Int) = b by omega]
    rw [this, Int.toNat_natCast]
  have h2 : gg (a / gg a b) (b / gg a b) = (Nat.gcd (a / gg a b).toNat (b / gg a b).toNat : Int) := rfl
  rw [h2, e1, e2]
  unfold Nat.Coprime at this
  rw [this]; rfl
theorem part_s {a b : Int} (ha : U64 a) (hb : U64 b) (h1 : a ≠ 0) (h2 : b ≠ 0) : 0 < gg a b ∧ U64 (mpt a b) ∧ 0 < mpt a b ∧ U64 (a / gg a b) ∧ mpt a b * gg a b = b ∧ a / gg a b * gg a b = a ∧ gg (a / gg a b) (mpt a b) = 1 := by
  have hp := gg_pos ha.1 hb.1 (.inl h1)
  obtain ⟨d1, d2⟩ := gg_dvd ha.1 hb.1
  have e1 := Int.ediv_mul_cancel d1
  have e2 := Int.ediv_mul_cancel d2
  have u1 := ediv_U ha (Int.le_of_lt hp)
  have u2 := ediv_U hb (Int.le_of_lt hp)
  refine ⟨hp, u2, ?_, u1, e2, e1, coprime ha.1 hb.1 hp⟩
  unfold mpt
  rcases Int.lt_or_le 0 (b / gg a b) with h | h
  · exact h
  · have : b / gg a b = 0 := by have := u2.1; omega
    rw [this, Int.zero_mul] at e2
    omega
theorem k_eq {a b r s : Int} (ha : U64 a) (hb : U64 b) (h1 : a ≠ 0) (h2 : b ≠ 0) (h : r % gg a b = s % gg a b) : mk a b r s = if s < r then (0 - (r - s) / gg a b % mpt a b) % mpt a b else (s - r) / gg a b % mpt a b := by
  obtain ⟨g0, p1, p0, _⟩ := part_s ha hb h1 h2
  unfold mk
  by_cases hc : s < r
  · rw [if_pos hc]
    have hd : gg a b ∣ r - s := Int.dvd_of_emod_eq_zero (Int.emod_eq_emod_iff_emod_sub_eq_zero.1 h)
    obtain ⟨z, hz⟩ := hd
    have e1 : (r - s) / gg a b = z := by rw [hz, Int.mul_ediv_cancel_left _ (by omega)]
    have e2 : (s - r) / gg a b = -z := by
      rw [show s - r = gg a b * (-z) by rw [Int.mul_neg, ← hz]; omega, Int.mul_ediv_cancel_left _ (by omega)]
    rw [e1, e2, Int.sub_emod, Int.emod_emod, ← Int.sub_emod, Int.zero_sub]
  · rw [if_neg hc]
theorem mst_b {a b r s : Int} (ha : U64 a) (hb : U64 b) (h1 : a ≠ 0) (h2 : b ≠ 0) : 0 ≤ mst a b r s ∧ mst a b r s < mpt a b := by
  obtain ⟨g0, p1, p0, _⟩ := part_s ha hb h1 h2
  exact ⟨Int.emod_nonneg _ (by omega), Int.emod_lt_of_pos _ p0⟩
theorem mx_b {a b r s : Int} (ha : U64 a) (hb : U64 b) (h1 : a ≠ 0) (h2 : b ≠ 0) (hr : 0 ≤ r) (hr2 : r < a) : 0 ≤ mx a b r s ∧ mx a b r s < ml a b ∧ ml a b < 340282366920938463463374607431768211456 := by
  obtain ⟨g0, p1, p0, _⟩ := part_s ha hb h1 h2
  obtain ⟨t0, t1⟩ := mst_b (r := r) (s := s) ha hb h1 h2
  have hm := mul_U ha p1
  unfold mx ml
  have m1 := Int.mul_nonneg ha.1 t0
  have m2 : a * mst a b r s ≤ a * (mpt a b - 1) := Int.mul_le_mul_of_nonneg_left (by omega) ha.1
  rw [Int.mul_sub, Int.mul_one] at m2
  omega
theorem meet_tail {γ : Type} (k : Int × Int × Bool → γ) {x l : Int} (h0 : 0 ≤ x) (h1 : x < l) (h2 : l < 340282366920938463463374607431768211456) (hl : 18446744073709551616 ≤ l) :
    (if (l - x) / 18446744073709551616 = 0 then (if (l - x) % 18446744073709551616 ≤ 9223372036854775808 then k ((0 : Int), IntKind.u64.wrap (IntKind.i64.wrap (IntKind.u64.wrap (0 - (l - x) % 18446744073709551616))), true) else k (0, 0, false)) else k (0, 0, false))
      = k (if l - x ≤ 9223372036854775808 then (0, 18446744073709551616 - (l - x), true) else (0, 0, false)) := by
  by_cases h : l - x ≤ 9223372036854775808
  · rw [if_pos h, if_pos (by omega), if_pos (by omega)]
    congr 2
    simp only [wu_eq, wi_eq, Prod.mk.injEq, and_true]
    omega
  · rw [if_neg h]
    by_cases g : (l - x) / 18446744073709551616 = 0
    · rw [if_pos g, if_neg (by omega)]
    · rw [if_neg g]
theorem meet0_s {a b0 b1 : Int} (ha : U64 a) (h3 : U64 b0) (h4 : U64 b1) : cong_Meet0 a b0 b1 = if hasS b0 (nr b0 b1) (IntKind.i64.wrap a) then (0, a, true) else (0, 0, false) := by
  have z : U64 0 := by unfold U64; omega
  unfold cong_Meet0 cong_Meet0.c
  (try unfold cong_Meet0.c0)
  simp only [norm_s z ha, norm_s h3 h4, has_s h3 (nr_U h3 h4) (i64u _), id]
  have e : nr 0 a = a := by unfold nr; rw [if_pos rfl]
  rw [e]
  cases hasS b0 (nr b0 b1) (IntKind.i64.wrap a) <;> rfl
theorem nr_nr (m r : Int) : nr m (nr m r) = nr m r := by unfold nr; by_cases h : m = 0 <;> simp [h]
theorem add64_s {a b : Int} (ha : U64 a) (hb : U64 b) : bits_Add64 a b 0 = ((a + b) % 18446744073709551616, (a + b) / 18446744073709551616) := by
  unfold U64 at *
  unfold bits_Add64
  rw [hide_eq, hide_eq]
  simp only [Prod.mk.injEq]
  omega
theorem sub64_s {a b : Int} (ha : U64 a) (hb : U64 b) : bits_Sub64 a b 0 = ((a - b) % 18446744073709551616, if a < b then 1 else 0) := by
  unfold U64 at *
  unfold bits_Sub64
  rw [hide_eq, hide_eq]
  simp only [Prod.mk.injEq]
  refine ⟨by omega, ?_⟩
  by_cases h : a < b
  · rw [if_pos h, if_pos (by omega)]
  · rw [if_neg h, if_neg (by omega)]
theorem hasS_nr (m r v : Int) : hasS m (nr m r) v = hasS m r v := by
  unfold hasS nr; by_cases h : m = 0 <;> simp [h]
theorem meet_k {γ : Type} (n : γ) (k : Int × Int × Bool → γ) {a0 a1 b0 b1 : Int} (h1 : U64 a0) (h2 : U64 a1) (h3 : U64 b0) (h4 : U64 b1) : cong_Meet.c n k a0 a1 b0 b1 = k (meetS a0 a1 b0 b1) := by
  have hn1 := nr_U h1 h2
  have hn3 := nr_U h3 h4
  have z : (0 : Int) ≤ 0 := Int.le_refl 0
  unfold cong_Meet.c meetS
  (try unfold cong_Meet.c0)
  simp only [norm_s h1 h2, norm_s h3 h4, alone_s, has_s h3 hn3 (i64u _), meet0_s hn3 h1 hn1, gcd_g z h1.1, gcd_s z h1.1, gg0 h1.1, gcd_g h1.1 h3.1, gcd_s h1.1 h3.1, cbe, cbd, cond_true, nr_nr]
  by_cases c1 : a0 = 0
  · have e : nr a0 a1 = a1 := by unfold nr; rw [if_pos c1]
    rw [if_pos c1, if_pos c1, e]
    cases hasS b0 (nr b0 b1) (IntKind.i64.wrap a1) with
    | true => simp [c1]
    | false => rfl
  · rw [if_neg c1, if_neg c1]
    by_cases c2 : b0 = 0
    · have e : nr b0 b1 = b1 := by unfold nr; rw [if_pos c2]
      rw [if_pos c2, if_pos c2, e, decide_eq_true c2]
      cases hasS a0 (nr a0 a1) (IntKind.i64.wrap b1) <;> rfl
    · rw [if_neg c2, if_neg c2]
      obtain ⟨g0, p1, p0, u1, e1, e2, cop⟩ := part_s h1 h3 c1 c2
      have gU := gg_U h1 h3
      have hr : 0 ≤ nr a0 a1 ∧ nr a0 a1 < a0 := by unfold nr; rw [if_neg c1]; exact ⟨(emod_U h1 c1).1, (emod_U h1 c1).2.1⟩
      have hs : 0 ≤ nr b0 b1 ∧ nr b0 b1 < b0 := by unfold nr; rw [if_neg c2]; exact ⟨(emod_U h3 c2).1, (emod_U h3 c2).2.1⟩
      generalize nr a0 a1 = r at *
      generalize nr b0 b1 = s at *
      have gne : gg a0 b0 ≠ 0 := by omega
      have pne : mpt a0 b0 ≠ 0 := by omega
      have w1 : IntKind.u64.wrap (b0.tdiv (gg a0 b0)) = mpt a0 b0 := by
        rw [Int.tdiv_eq_ediv_of_nonneg h3.1]; exact wu_id p1.1 p1.2
      have w2 : IntKind.u64.wrap (a0.tdiv (gg a0 b0)) = a0 / gg a0 b0 := by
        rw [Int.tdiv_eq_ediv_of_nonneg h1.1]; exact wu_id u1.1 u1.2
      simp only [if_neg gne, w1, w2, if_neg pne, Int.tmod_eq_emod_of_nonneg hr.1, Int.tmod_eq_emod_of_nonneg hs.1, cbn]
      unfold meet2
      by_cases c3 : r % gg a0 b0 = s % gg a0 b0
      · obtain ⟨i1, i2, i3, i4⟩ := inv_s u1 p1 pne cop
        have hk := k_eq h1 h3 c1 c2 c3
        have hdU : U64 (dst s r) := by unfold U64 at *; unfold dst; split <;> omega
        have w3 : IntKind.u64.wrap ((if s > r then s else r) - (if s < r then s else r)) = dst r s := dst_u hn1 hn3
        have hdU' : U64 (dst r s) := by unfold U64 at *; unfold dst; split <;> omega
        have dU := ediv_U hdU' (Int.le_of_lt g0)
        have w4 : IntKind.u64.wrap ((dst r s).tdiv (gg a0 b0)) = dst r s / gg a0 b0 := by
          rw [Int.tdiv_eq_ediv_of_nonneg hdU'.1]; exact wu_id dU.1 dU.2
        have dm := emod_U (x := dst r s / gg a0 b0) p1 pne
        have w5 : (bif decide (s < r) then cong_minus 0 (dst r s / gg a0 b0 % mpt a0 b0) (mpt a0 b0) else dst r s / gg a0 b0 % mpt a0 b0) = mk a0 b0 r s := by
          rw [minus_s p1 (Int.le_refl 0) p0 dm.1 dm.2.1, hk, Bool.cond_decide]
          unfold dst
          by_cases c4 : s < r
          · rw [if_pos c4, if_pos c4, if_neg (by omega)]
          · rw [if_neg c4, if_neg c4]
            by_cases c5 : r < s
            · rw [if_pos c5]
            · rw [if_neg c5, show r - s = s - r by omega]
        have kU := (emod_U (x := (s - r) / gg a0 b0) p1 pne).2.2
        have iU : U64 (cong_inverse (a0 / gg a0 b0) (mpt a0 b0)) := by unfold U64 at *; omega
        have tb := mst_b (r := r) (s := s) h1 h3 c1 c2
        have tU : U64 (mst a0 b0 r s) := by unfold U64 at *; omega
        rw [if_pos c3, if_neg (show ¬ r % gg a0 b0 ≠ s % gg a0 b0 from fun h => h c3), i1, w3, w4, Int.tmod_eq_emod_of_nonneg dU.1, w5]
        have kt : cong_times.ok (mk a0 b0 r s) (cong_inverse (a0 / gg a0 b0) (mpt a0 b0)) (mpt a0 b0) = true := times_ok kU iU p1 pne
        have ks : cong_times (mk a0 b0 r s) (cong_inverse (a0 / gg a0 b0) (mpt a0 b0)) (mpt a0 b0) = mst a0 b0 r s := times_s kU iU p1 pne
        rw [kt, ks, bits_Mul64_s p1 h1, bits_Mul64_s tU h1]
        have mb := mx_b (s := s) h1 h3 c1 c2 hr.1 hr.2
        have ex : mst a0 b0 r s * a0 = mx a0 b0 r s - r := by unfold mx; rw [Int.mul_comm]; omega
        have el : mpt a0 b0 * a0 = ml a0 b0 := by unfold ml; rw [Int.mul_comm]
        have mn : 0 ≤ mst a0 b0 r s * a0 := Int.mul_nonneg tb.1 h1.1
        rw [ex] at mn
        rw [ex, el]
        generalize mx a0 b0 r s = x at *
        generalize ml a0 b0 = l at *
        have hn1' := hn1
        unfold U64 at hn1'
        simp only [cond_true, const_s]
        rw [add64_s (show U64 ((x - r) % 18446744073709551616) by unfold U64; omega) hn1]
        have q1 : ((x - r) % 18446744073709551616 + r) % 18446744073709551616 = x % 18446744073709551616 := by omega
        have q2 : IntKind.u64.wrap ((x - r) / 18446744073709551616 + ((x - r) % 18446744073709551616 + r) / 18446744073709551616) = x / 18446744073709551616 := by rw [wu_eq]; omega
        rw [q1, q2, sub64_s (show U64 (l % 18446744073709551616) by unfold U64; omega) (show U64 (x % 18446744073709551616) by unfold U64; omega)]
        have q3 : (l % 18446744073709551616 - x % 18446744073709551616) % 18446744073709551616 = (l - x) % 18446744073709551616 := by omega
        have q4 : IntKind.u64.wrap (IntKind.u64.wrap (l / 18446744073709551616 - x / 18446744073709551616) - if l % 18446744073709551616 < x % 18446744073709551616 then 1 else 0) = (l - x) / 18446744073709551616 := by
          simp only [wu_eq]; split <;> omega
        simp only [q3, q4, Bool.cond_decide]
        by_cases hl : l < 18446744073709551616
        · rw [if_pos (by omega), if_pos hl, show l % 18446744073709551616 = l by omega, show x % 18446744073709551616 = x by omega]
        · rw [if_neg (by omega), if_neg hl]
          have tl := meet_tail k mb.1 mb.2.1 mb.2.2 (by omega)
          by_cases hx : x ≤ 9223372036854775807
          · rw [if_pos (by omega), if_pos (by omega), if_pos hx]
            congr 2
            simp only [wu_eq, wi_eq, Prod.mk.injEq, and_true]
            omega
          · rw [if_neg hx, ← tl]
            by_cases hx2 : x / 18446744073709551616 = 0
            · rw [if_pos hx2, if_neg (by omega)]
            · rw [if_neg hx2]
      · rw [if_neg c3, if_pos c3]
theorem meet_ok {a0 a1 b0 b1 : Int} (h1 : U64 a0) (h2 : U64 a1) (h3 : U64 b0) (h4 : U64 b1) : cong_Meet.ok a0 a1 b0 b1 = true := meet_k _ _ h1 h2 h3 h4
theorem meet_s {a0 a1 b0 b1 : Int} (h1 : U64 a0) (h2 : U64 a1) (h3 : U64 b0) (h4 : U64 b1) : cong_Meet a0 a1 b0 b1 = meetS a0 a1 b0 b1 := meet_k _ _ h1 h2 h3 h4

open Go Go.Wk

end Go.Proofs.YtmadebejnhinoaaDoor.V.B


set_option linter.unusedVariables false
set_option linter.unusedSimpArgs false
namespace Go.Proofs.YtmadebejnhinoaaDoor.V.B
open Go Go.Wk

theorem tz_ex : ∀ (n : Nat), n ≠ 0 → ∃ j o : Nat, n = 2 ^ j * o ∧ o % 2 = 1 := by
  intro n
  induction n using Nat.strongRecOn with
  | ind n ih =>
    intro h
    by_cases h2 : n % 2 = 1
    · exact ⟨0, n, by simp, h2⟩
    · obtain ⟨j, o, e, ho⟩ := ih (n / 2) (by omega) (by omega)
      refine ⟨j + 1, o, ?_, ho⟩
      rw [Nat.pow_succ, Nat.mul_comm (2 ^ j) 2, Nat.mul_assoc, ← e]; omega
/-- the number of noughts at a number's end, and what is ahead of them -/
def Tz (x : Int) (j : Nat) : Prop := ∃ o : Int, x = 2 ^ j * o ∧ o % 2 = 1
theorem Tz.ex {x : Int} (h : 0 < x) : ∃ j, Tz x j := by
  obtain ⟨j, o, e, ho⟩ := tz_ex x.toNat (by omega)
  refine ⟨j, (o : Int), ?_, by omega⟩
  have : x = ((x.toNat : Nat) : Int) := by omega
  rw [this, e]; push_cast; rfl
theorem Tz.lt {x : Int} {j w : Nat} (h : Tz x j) (h0 : 0 < x) (hw : x < 2 ^ w) : j < w ∧ (2 : Int) ^ j ≤ x := by
  obtain ⟨o, e, ho⟩ := h
  have hp : (0 : Int) < 2 ^ j := Int.pow_pos (by decide)
  have ho1 : 1 ≤ o := by
    rcases Int.lt_or_le 0 o with h' | h'
    · exact h'
    · have := Int.mul_le_mul_of_nonneg_left h' (Int.le_of_lt hp); rw [Int.mul_zero] at this; omega
  have h2 : (2 : Int) ^ j * 1 ≤ 2 ^ j * o := Int.mul_le_mul_of_nonneg_left ho1 (Int.le_of_lt hp)
  rw [Int.mul_one, ← e] at h2
  refine ⟨?_, h2⟩
  rcases Nat.lt_or_ge j w with h' | h'
  · exact h'
  · exfalso
    have h1 : (2 : Nat) ^ w ≤ 2 ^ j := Nat.pow_le_pow_right (by decide) h'
    have h3 : ((2 : Int) ^ w) ≤ 2 ^ j := by exact_mod_cast h1
    omega
open Go Go.Wk

open Go Go.Wk

/-! negation -/
/-! sums and differences -/
end Go.Proofs.YtmadebejnhinoaaDoor.V.B


set_option linter.unusedVariables false
set_option linter.unusedSimpArgs false
namespace Go.Proofs.YtmadebejnhinoaaDoor.V.B
open Go Go.Wk

open Go Go.Wk

end Go.Proofs.YtmadebejnhinoaaDoor.V.B


set_option linter.unusedVariables false
set_option linter.unusedSimpArgs false
namespace Go.Proofs.YtmadebejnhinoaaDoor.V.B
open Go Go.Wk Go.RowKit

theorem wi_I (r : Int) : I64 (IntKind.i64.wrap r) := by unfold I64; rw [wi_eq]; omega
theorem mod_near {m f x : Int} (h0 : 0 < m) (h1 : 0 ≤ x) (h2 : x % m = f) : f ≤ x := by
  have h3 := Int.emod_add_mul_ediv x m
  have h4 := Int.mul_nonneg (show 0 ≤ m by omega) (Int.ediv_nonneg h1 (show 0 ≤ m by omega))
  omega
theorem up_spec {m r v : Int} (hm : U64 m) (hr : U64 r) (hv : I64 v) :
    I64 (upS m r v).1 ∧ ((upS m r v).2 = true → v ≤ (upS m r v).1 ∧ hasS m r (upS m r v).1 = true) ∧ ((upS m r v).2 = false → (upS m r v).1 = 0) ∧
    (∀ c, I64 c → v ≤ c → hasS m r c = true → (upS m r v).2 = true ∧ (upS m r v).1 ≤ c) := by
  unfold upS hasS
  by_cases h : m = 0
  · simp only [if_pos h]
    have hw := wi_I r
    generalize IntKind.i64.wrap r = w at hw
    by_cases hc : w < v
    · simp only [if_pos hc]
      refine ⟨by unfold I64; decide, fun h => by simp at h, fun _ => by simp, fun c hcc h1 h2 => ?_⟩
      simp only [decide_eq_true_eq] at h2
      omega
    · simp only [if_neg hc]
      refine ⟨hw, fun _ => ⟨by omega, by simp⟩, fun h => by simp at h, fun c hcc h1 h2 => ?_⟩
      simp only [decide_eq_true_eq] at h2
      exact ⟨by simp, by omega⟩
  · simp only [if_neg h]
    have hm0 : 0 < m := by unfold U64 at hm; omega
    have hf := far1_b (m := m) (x := r) (y := v) hm0
    have hfd : far1 m r v = (r - v) % m := rfl
    generalize far1 m r v = f at hf hfd
    have key : ∀ c, I64 c → v ≤ c → c % m = r % m → v + f ≤ c := by
      intro c _ h1 h2
      have : (c - v) % m = f := by rw [hfd, Int.sub_emod, h2, ← Int.sub_emod]
      have := mod_near hm0 (by omega) this
      omega
    have hin : (v + f) % m = r % m := by
      rw [hfd, Int.add_emod, Int.emod_emod_of_dvd _ (Int.dvd_refl m), ← Int.add_emod]; congr 1; omega
    unfold I64 at hv
    by_cases hc : f ≤ 9223372036854775807 - v
    · simp only [if_pos hc]
      refine ⟨by unfold I64; omega, fun _ => ⟨by omega, by simpa using hin⟩, fun h => by simp at h, fun c h0 h1 h2 => ?_⟩
      simp only [decide_eq_true_eq] at h2
      exact ⟨by simp, key c h0 h1 h2⟩
    · simp only [if_neg hc]
      refine ⟨by unfold I64; decide, fun h => by simp at h, fun _ => by simp, fun c h0 h1 h2 => ?_⟩
      simp only [decide_eq_true_eq] at h2
      have := key c h0 h1 h2
      unfold I64 at h0
      omega
theorem dn_spec {m r v : Int} (hm : U64 m) (hr : U64 r) (hv : I64 v) :
    I64 (dnS m r v).1 ∧ ((dnS m r v).2 = true → (dnS m r v).1 ≤ v ∧ hasS m r (dnS m r v).1 = true) ∧ ((dnS m r v).2 = false → (dnS m r v).1 = 0) ∧
    (∀ c, I64 c → c ≤ v → hasS m r c = true → (dnS m r v).2 = true ∧ c ≤ (dnS m r v).1) := by
  unfold dnS hasS
  by_cases h : m = 0
  · simp only [if_pos h]
    have hw := wi_I r
    generalize IntKind.i64.wrap r = w at hw
    by_cases hc : w > v
    · simp only [if_pos hc]
      refine ⟨by unfold I64; decide, fun h => by simp at h, fun _ => by simp, fun c hcc h1 h2 => ?_⟩
      simp only [decide_eq_true_eq] at h2
      omega
    · simp only [if_neg hc]
      refine ⟨hw, fun _ => ⟨by omega, by simp⟩, fun h => by simp at h, fun c hcc h1 h2 => ?_⟩
      simp only [decide_eq_true_eq] at h2
      exact ⟨by simp, by omega⟩
  · simp only [if_neg h]
    have hm0 : 0 < m := by unfold U64 at hm; omega
    have hf := far1_b (m := m) (x := v) (y := r) hm0
    have hfd : far1 m v r = (v - r) % m := rfl
    generalize far1 m v r = f at hf hfd
    have key : ∀ c, I64 c → c ≤ v → c % m = r % m → c ≤ v - f := by
      intro c _ h1 h2
      have : (v - c) % m = f := by rw [hfd, Int.sub_emod, h2, ← Int.sub_emod]
      have := mod_near hm0 (by omega) this
      omega
    have hin : (v - f) % m = r % m := by
      rw [hfd, Int.sub_emod, Int.emod_emod_of_dvd _ (Int.dvd_refl m), ← Int.sub_emod]; congr 1; omega
    unfold I64 at hv
    by_cases hc : f ≤ v + 9223372036854775808
    · simp only [if_pos hc]
      refine ⟨by unfold I64; omega, fun _ => ⟨by omega, by simpa using hin⟩, fun h => by simp at h, fun c h0 h1 h2 => ?_⟩
      simp only [decide_eq_true_eq] at h2
      exact ⟨by simp, key c h0 h1 h2⟩
    · simp only [if_neg hc]
      refine ⟨by unfold I64; decide, fun h => by simp at h, fun _ => by simp, fun c h0 h1 h2 => ?_⟩
      simp only [decide_eq_true_eq] at h2
      have := key c h0 h1 h2
      unfold I64 at h0
      omega

open Go Go.Wk Go.RowKit

theorem mdd {m x y : Int} : x % m = y % m ↔ m ∣ x - y := by
  rw [Int.emod_eq_emod_iff_emod_sub_eq_zero, Int.dvd_iff_emod_eq_zero]
theorem wi_inj {x y : Int} (hx : U64 x) (hy : U64 y) (h : IntKind.i64.wrap x = IntKind.i64.wrap y) : x = y := by
  unfold U64 at *
  rw [wi_eq, wi_eq] at h
  omega
theorem has_iff {m r v : Int} : hasS m r v = true ↔ m ∣ v - val m r := by
  unfold hasS val
  by_cases h : m = 0
  · subst h
    simp only [if_true, decide_eq_true_eq, Int.zero_dvd]
    omega
  · simp only [if_neg h, decide_eq_true_eq]
    rw [← mdd, Int.emod_emod_of_dvd _ (Int.dvd_refl m)]
theorem leq_iff {a0 a1 b0 b1 : Int} (h2 : U64 a1) (h4 : U64 b1) : leqS a0 a1 b0 b1 = true ↔ b0 ∣ a0 ∧ b0 ∣ val a0 a1 - val b0 b1 := by
  unfold leqS
  by_cases h : b0 = 0
  · subst h
    simp only [if_true, decide_eq_true_eq, Int.zero_dvd]
    constructor
    · rintro ⟨rfl, rfl⟩; exact ⟨rfl, by omega⟩
    · rintro ⟨rfl, h⟩
      refine ⟨rfl, wi_inj h2 h4 ?_⟩
      unfold val at h
      simp only [if_true] at h
      omega
  · simp only [if_neg h, decide_eq_true_eq]
    rw [mdd, ← Int.dvd_iff_emod_eq_zero]
theorem dst_dvd {c x y : Int} : c ∣ dst x y ↔ c ∣ x - y := by
  unfold dst
  split
  · rw [← Int.dvd_neg, show -(y - x) = x - y by omega]
  · exact Iff.rfl
theorem gg_iff {c x y : Int} (hx : 0 ≤ x) (hy : 0 ≤ y) : c ∣ gg x y ↔ c ∣ x ∧ c ∣ y :=
  ⟨fun h => ⟨Int.dvd_trans h (gg_dvd hx hy).1, Int.dvd_trans h (gg_dvd hx hy).2⟩, fun h => dvd_gg hx hy h.1 h.2⟩
theorem jg_iff {c a0 a1 b0 b1 : Int} (h1 : 0 ≤ a0) (h3 : 0 ≤ b0) : c ∣ jg a0 a1 b0 b1 ↔ (c ∣ a0 ∧ c ∣ b0) ∧ c ∣ val a0 a1 - val b0 b1 := by
  unfold jg
  rw [gg_iff (gg_nonneg _ _) (dst_nonneg _ _), gg_iff h1 h3, dst_dvd]
/-- the join told: its modulus and what it holds -/
theorem join_spec {a0 a1 b0 b1 : Int} (h1 : U64 a0) (h2 : U64 a1) (h3 : U64 b0) (h4 : U64 b1) :
    U64 (joinS a0 a1 b0 b1).1 ∧ U64 (joinS a0 a1 b0 b1).2 ∧ (∀ c, c ∣ (joinS a0 a1 b0 b1).1 ↔ (c ∣ a0 ∧ c ∣ b0) ∧ c ∣ val a0 a1 - val b0 b1) ∧
    (joinS a0 a1 b0 b1).1 ∣ val (joinS a0 a1 b0 b1).1 (joinS a0 a1 b0 b1).2 - val a0 a1 ∧ ((joinS a0 a1 b0 b1).1 = 0 ∨ (joinS a0 a1 b0 b1).2 < (joinS a0 a1 b0 b1).1) := by
  have hj := jg_U h1 h2 h3 h4
  have hi := fun c => jg_iff (c := c) (a1 := a1) (b1 := b1) h1.1 h3.1
  unfold joinS
  simp only
  generalize jg a0 a1 b0 b1 = g at hj hi
  by_cases h : g = 0
  · subst h
    have ha : a0 = 0 := by have := ((hi 0).1 (Int.dvd_refl 0)).1.1; rwa [Int.zero_dvd] at this
    subst ha
    simp only [if_true]
    refine ⟨hj, nr_U h1 h2, hi, ?_, .inl (by simp)⟩
    have : nr 0 a1 = a1 := by unfold nr; simp
    rw [this, Int.sub_self]
    exact Int.dvd_refl 0
  · simp only [if_neg h]
    have hp : 0 < g := by unfold U64 at hj; omega
    have q1 := Int.emod_nonneg (val a0 a1) h
    have q2 := Int.emod_lt_of_pos (val a0 a1) hp
    refine ⟨hj, by unfold U64 at *; omega, hi, ?_, .inr q2⟩
    rw [← mdd]
    unfold val
    simp only [if_neg h, Int.emod_emod_of_dvd _ (Int.dvd_refl g)]
theorem val_inj {m r s : Int} (hm : 0 ≤ m) (hr : U64 r) (hs : U64 s) (h1 : m = 0 ∨ r < m) (h2 : m = 0 ∨ s < m) (h : m ∣ val m r - val m s) : r = s := by
  by_cases h0 : m = 0
  · subst h0
    rw [Int.zero_dvd] at h
    unfold val at h
    simp only [if_true] at h
    exact wi_inj hr hs (by omega)
  · rw [← mdd] at h
    unfold val at h
    unfold U64 at hr hs
    simp only [if_neg h0, Int.emod_emod_of_dvd _ (Int.dvd_refl m)] at h
    rw [Int.emod_eq_of_lt hr.1 (by omega), Int.emod_eq_of_lt hs.1 (by omega)] at h
    exact h
open Go Go.Wk Go.RowKit

theorem ml_dvd {a b z : Int} (ha : U64 a) (hb : U64 b) (h1 : a ≠ 0) (h2 : b ≠ 0) : ml a b ∣ z ↔ a ∣ z ∧ b ∣ z := by
  obtain ⟨g0, p1, p0, a1, eb, ea, cp⟩ := part_s ha hb h1 h2
  obtain ⟨_, i0, i1, i2⟩ := inv_s a1 p1 (by omega) cp
  unfold ml
  generalize mpt a b = p at *
  generalize cong_inverse (a / gg a b) p = i at *
  generalize a / gg a b = a' at *
  generalize gg a b = g at *
  constructor
  · intro h
    refine ⟨Int.dvd_trans ⟨p, rfl⟩ h, Int.dvd_trans ⟨a', ?_⟩ h⟩
    rw [← eb, ← ea, Int.mul_comm a' g, Int.mul_comm p g, Int.mul_assoc, Int.mul_assoc, Int.mul_comm a' p]
  · rintro ⟨⟨k, rfl⟩, h⟩
    have hp : p ∣ a' * k := by
      have : p * g ∣ (a' * k) * g := by
        rw [eb, Int.mul_right_comm, ea]; exact h
      exact Int.dvd_of_mul_dvd_mul_right (by omega) this
    have hk : p ∣ k := by
      have e : k = i * (a' * k) - (a' * i - 1) * k := by
        rw [Int.sub_mul, Int.one_mul, Int.mul_left_comm i a' k, Int.mul_assoc]; omega
      rw [e]
      exact Int.dvd_sub (Int.dvd_mul_of_dvd_right hp) (Int.dvd_mul_of_dvd_left i2)
    obtain ⟨q, rfl⟩ := hk
    exact ⟨q, by rw [Int.mul_assoc]⟩
theorem mx_is {a b r s : Int} (ha : U64 a) (hb : U64 b) (h1 : a ≠ 0) (h2 : b ≠ 0) (h : r % gg a b = s % gg a b) : a ∣ mx a b r s - r ∧ b ∣ mx a b r s - s := by
  obtain ⟨g0, p1, p0, a1, eb, ea, cp⟩ := part_s ha hb h1 h2
  obtain ⟨_, i0, i1, i2⟩ := inv_s a1 p1 (by omega) cp
  have hg := mdd.1 h.symm
  unfold mx mst mk
  generalize mpt a b = p at *
  generalize cong_inverse (a / gg a b) p = i at *
  generalize a / gg a b = a' at *
  generalize gg a b = g at *
  obtain ⟨e, he⟩ := hg
  have e1 : (s - r) / g = e := by rw [he, Int.mul_ediv_cancel_left _ (by omega)]
  rw [e1]
  generalize hm : e % p * i % p = t
  constructor
  · exact ⟨t, by omega⟩
  · have k1 : p ∣ e % p - e := by rw [← mdd]; exact Int.emod_emod_of_dvd _ (Int.dvd_refl p)
    have k2 : p ∣ t - e % p * i := by rw [← hm, ← mdd]; exact Int.emod_emod_of_dvd _ (Int.dvd_refl p)
    have k3 : p ∣ a' * t - e := by
      have x : a' * t - e = a' * (t - e % p * i) + ((a' * i - 1) * (e % p) + (e % p - e)) := by
        rw [Int.mul_sub, Int.sub_mul, Int.one_mul, Int.mul_left_comm a' (e % p) i, Int.mul_comm (e % p) (a' * i)]; omega
      rw [x]
      exact Int.dvd_add (Int.dvd_mul_of_dvd_right k2) (Int.dvd_add (Int.dvd_mul_of_dvd_left i2) k1)
    obtain ⟨q, hq⟩ := k3
    refine ⟨q, ?_⟩
    have x : a * t + r - s = g * (a' * t - e) := by
      rw [Int.mul_sub, ← he, ← Int.mul_assoc, Int.mul_comm g a', ea]; omega
    rw [x, hq, ← eb, ← Int.mul_assoc, Int.mul_comm g p]
theorem nr_b {m r : Int} (h : m ≠ 0) (hm : U64 m) : 0 ≤ nr m r ∧ nr m r < m := by
  unfold U64 at hm
  unfold nr
  rw [if_neg h]
  exact ⟨Int.emod_nonneg _ h, Int.emod_lt_of_pos _ (by omega)⟩
/-- the meet told: which numbers of 64 bits it holds -/
theorem meet_spec {a0 a1 b0 b1 : Int} (h1 : U64 a0) (h2 : U64 a1) (h3 : U64 b0) (h4 : U64 b1) :
    U64 (meetS a0 a1 b0 b1).1 ∧ U64 (meetS a0 a1 b0 b1).2.1 ∧ ((meetS a0 a1 b0 b1).1 = 0 ∨ (meetS a0 a1 b0 b1).2.1 < (meetS a0 a1 b0 b1).1) ∧
    ((meetS a0 a1 b0 b1).2.2 = false → (meetS a0 a1 b0 b1).1 = 0 ∧ (meetS a0 a1 b0 b1).2.1 = 0) ∧
    (∀ y, I64 y → ((meetS a0 a1 b0 b1).2.2 = true ∧ hasS (meetS a0 a1 b0 b1).1 (meetS a0 a1 b0 b1).2.1 y = true ↔ hasS a0 a1 y = true ∧ hasS b0 b1 y = true)) := by
  have z : U64 0 := by unfold U64; omega
  unfold meetS
  by_cases ha : a0 = 0
  · subst ha
    simp only [if_true, hasS_nr]
    by_cases h : hasS b0 b1 (IntKind.i64.wrap a1) = true
    · simp only [if_pos h]
      refine ⟨z, h2, .inl trivial, fun h => by simp at h, fun y hy => ?_⟩
      constructor
      · rintro ⟨_, q⟩
        refine ⟨q, ?_⟩
        unfold hasS at q
        simp only [if_true, decide_eq_true_eq] at q
        rw [q]; exact h
      · rintro ⟨q, _⟩; exact ⟨trivial, q⟩
    · simp only [if_neg h]
      refine ⟨z, z, .inl trivial, fun _ => by simp, fun y hy => ?_⟩
      constructor
      · rintro ⟨q, _⟩; simp at q
      · rintro ⟨q, q2⟩
        unfold hasS at q
        simp only [if_true, decide_eq_true_eq] at q
        rw [q] at q2; exact absurd q2 h
  · simp only [if_neg ha]
    by_cases hb : b0 = 0
    · subst hb
      simp only [if_true, hasS_nr]
      by_cases h : hasS a0 a1 (IntKind.i64.wrap b1) = true
      · simp only [if_pos h]
        refine ⟨z, h4, .inl trivial, fun h => by simp at h, fun y hy => ?_⟩
        constructor
        · rintro ⟨_, q⟩
          refine ⟨?_, q⟩
          unfold hasS at q
          simp only [if_true, decide_eq_true_eq] at q
          rw [q]; exact h
        · rintro ⟨_, q⟩; exact ⟨trivial, q⟩
      · simp only [if_neg h]
        refine ⟨z, z, .inl trivial, fun _ => by simp, fun y hy => ?_⟩
        constructor
        · rintro ⟨q, _⟩; simp at q
        · rintro ⟨q2, q⟩
          unfold hasS at q
          simp only [if_true, decide_eq_true_eq] at q
          rw [q] at q2; exact absurd q2 h
    · simp only [if_neg hb]
      have hr := nr_b (r := a1) ha h1
      have hs := nr_b (r := b1) hb h3
      have ea (y : Int) : hasS a0 a1 y = true ↔ a0 ∣ y - nr a0 a1 := by
        rw [has_iff]; unfold val nr; simp only [if_neg ha]
      have eb (y : Int) : hasS b0 b1 y = true ↔ b0 ∣ y - nr b0 b1 := by
        rw [has_iff]; unfold val nr; simp only [if_neg hb]
      simp only [ea, eb]
      generalize nr a0 a1 = r at *
      generalize nr b0 b1 = s at *
      unfold meet2
      by_cases h : r % gg a0 b0 = s % gg a0 b0
      · have q := mx_is h1 h3 ha hb h
        have bd := mx_b (r := r) (s := s) h1 h3 ha hb hr.1 hr.2
        have key : ∀ y, (a0 ∣ y - r ∧ b0 ∣ y - s) ↔ ml a0 b0 ∣ y - mx a0 b0 r s := by
          intro y
          rw [ml_dvd h1 h3 ha hb]
          constructor
          · rintro ⟨x1, x2⟩
            have y1 := Int.dvd_sub x1 q.1
            have y2 := Int.dvd_sub x2 q.2
            simp only [show ∀ x y z : Int, x - z - (y - z) = x - y from fun x y z => by omega] at y1 y2
            exact ⟨y1, y2⟩
          · rintro ⟨x1, x2⟩
            have y1 := Int.dvd_add x1 q.1
            have y2 := Int.dvd_add x2 q.2
            simp only [show ∀ x y z : Int, x - z + (z - y) = x - y from fun x y z => by omega] at y1 y2
            exact ⟨y1, y2⟩
        simp only [key]
        rw [if_neg (by simpa using h)]
        generalize mx a0 b0 r s = x at *
        generalize ml a0 b0 = l at *
        obtain ⟨x0, x1, x2⟩ := bd
        by_cases c1 : l < 18446744073709551616
        · simp only [if_pos c1]
          refine ⟨by unfold U64; omega, by unfold U64; omega, .inr x1, fun h => by simp at h, fun y hy => ?_⟩
          rw [has_iff]
          unfold val
          rw [if_neg (by omega), Int.emod_eq_of_lt x0 x1]
          exact ⟨fun h => h.2, fun h => ⟨trivial, h⟩⟩
        · simp only [if_neg c1]
          have near : ∀ y, I64 y → l ∣ y - x → y = x ∨ y = x - l := by
            intro y hy hd
            obtain ⟨k, hk⟩ := hd
            unfold I64 at hy
            rcases Int.lt_trichotomy k 0 with hk0 | hk0 | hk0
            · by_cases hk1 : k < -1
              · exfalso
                have : l * k ≤ l * (-2) := Int.mul_le_mul_of_nonneg_left (by omega) (by omega)
                omega
              · have : k = -1 := by omega
                subst this
                right; omega
            · subst hk0; left; omega
            · exfalso
              have : l * 1 ≤ l * k := Int.mul_le_mul_of_nonneg_left (by omega) (by omega)
              omega
          by_cases c2 : x ≤ 9223372036854775807
          · simp only [if_pos c2]
            refine ⟨z, by unfold U64; omega, .inl trivial, fun h => by simp at h, fun y hy => ?_⟩
            have e : IntKind.i64.wrap x = x := wi_id (by omega) (by omega)
            unfold hasS
            simp only [if_true, decide_eq_true_eq, e, true_and]
            constructor
            · rintro rfl; rw [Int.sub_self]; exact Int.dvd_zero _
            · intro hd
              rcases near y hy hd with h | h
              · exact h
              · unfold I64 at hy; omega
          · simp only [if_neg c2]
            by_cases c3 : l - x ≤ 9223372036854775808
            · simp only [if_pos c3]
              refine ⟨z, by unfold U64; omega, .inl trivial, fun h => by simp at h, fun y hy => ?_⟩
              have e : IntKind.i64.wrap (18446744073709551616 - (l - x)) = x - l := by rw [wi_eq]; omega
              unfold hasS
              simp only [if_true, decide_eq_true_eq, e, true_and]
              constructor
              · rintro rfl; exact ⟨-1, by omega⟩
              · intro hd
                rcases near y hy hd with h | h
                · unfold I64 at hy; omega
                · exact h
            · simp only [if_neg c3]
              refine ⟨z, z, .inl trivial, fun _ => by simp, fun y hy => ?_⟩
              constructor
              · rintro ⟨q, _⟩; simp at q
              · intro hd
                exfalso
                unfold I64 at hy
                rcases near y hy hd with h | h <;> omega
      · rw [if_pos h]
        refine ⟨z, z, .inl rfl, fun _ => by simp, fun y hy => ?_⟩
        constructor
        · rintro ⟨q, _⟩; simp at q
        · rintro ⟨q1, q2⟩
          exfalso
          apply h
          obtain ⟨d1, d2⟩ := gg_dvd h1.1 h3.1
          have y1 := mdd.2 (Int.dvd_trans d1 q1)
          have y2 := mdd.2 (Int.dvd_trans d2 q2)
          rw [← y1, ← y2]

end Go.Proofs.YtmadebejnhinoaaDoor.V.B


set_option linter.unusedVariables false
set_option linter.unusedSimpArgs false
namespace Go.Proofs.YtmadebejnhinoaaDoor.V.B
open Go Go.Wk Go.RowKit

open Go Go.Wk Go.RowKit

theorem has_one (v : Int) : hasS 1 0 v = true := by rw [has_iff]; exact Int.one_dvd _
end Go.Proofs.YtmadebejnhinoaaDoor.V.B


set_option linter.unusedVariables false
set_option linter.unusedSimpArgs false
namespace Go.Proofs.YtmadebejnhinoaaDoor.V.A
open Go Go.Wk

theorem sh63 (x : Int) : x.fdiv (2 ^ min (Int.toNat 63) IntKind.i64.bits) = x / 9223372036854775808 := by
  have e : (2 : Int) ^ min (Int.toNat 63) IntKind.i64.bits = 9223372036854775808 := by decide
  rw [e, Int.fdiv_eq_ediv_of_nonneg _ (by omega)]
def w128 (z : Int) : Int := (z + 170141183460469231731687303715884105728) % 340282366920938463463374607431768211456 - 170141183460469231731687303715884105728
def I128 (z : Int) : Prop := -170141183460469231731687303715884105728 ≤ z ∧ z < 170141183460469231731687303715884105728
def hi (z : Int) : Int := z / 18446744073709551616
def lo (z : Int) : Int := z % 18446744073709551616
theorem w128_id {z : Int} (h : I128 z) : w128 z = z := by unfold I128 at h; unfold w128; omega
open Go Go.Wk

/-- the sum after so many bits -/
def part (a b : Int) (U i : Nat) : Int := if i ≤ 63 then a * ((U % 2 ^ i : Nat) : Int) else a * b
open Go Go.Wk

theorem sh32 (x : Int) : x.fdiv (2 ^ min (Int.toNat 32) IntKind.u64.bits) = x / 4294967296 := by
  have e : (2 : Int) ^ min (Int.toNat 32) IntKind.u64.bits = 4294967296 := by decide
  rw [e, Int.fdiv_eq_ediv_of_nonneg _ (by omega)]
theorem bits_Mul64_s {a b : Int} (ha : U64 a) (hb : U64 b) : bits_Mul64 a b = (a * b / 18446744073709551616, a * b % 18446744073709551616) := B.bits_Mul64_s ha hb
open Go Go.Wk

theorem none_s (a b : Int) : ival_none a b = decide (b < a) := by unfold ival_none ival_none.c; rfl
/-- how many times 2^64 a number lies away from what it wraps to -/
def cnt (z : Int) : Int := (z + 9223372036854775808) / 18446744073709551616
def span_s (x y : Int) : Int × Int × Bool := if cnt x = cnt y then (IntKind.i64.wrap x, IntKind.i64.wrap y, decide (cnt x = 0)) else (-9223372036854775808, 9223372036854775807, false)
open Go Go.Wk

def jn (a b c d : Int) : Int × Int := if b < a then (if d < c then (1, 0) else (c, d)) else if d < c then (a, b) else (if c < a then c else a, if d > b then d else b)
theorem ij_s (a b c d : Int) : ival_Join a b c d = jn a b c d := by
  unfold ival_Join ival_Join.c ival_Join.c0 jn
  simp only [none_s, id, Bool.cond_decide]
  by_cases h1 : b < a <;> by_cases h2 : d < c <;> simp [h1, h2]
def mt (a b c d : Int) : Int × Int := if (if d < b then d else b) < (if c > a then c else a) then (1, 0) else (if c > a then c else a, if d < b then d else b)
theorem im_s (a b c d : Int) : ival_Meet a b c d = mt a b c d := by
  unfold ival_Meet ival_Meet.c ival_Meet.c0 mt
  simp only [none_s, id, Bool.cond_decide]
  by_cases h : (if d < b then d else b) < (if c > a then c else a)
  · simp only [if_pos h]; split <;> (try split) <;> rfl
  · have h1 : ¬ b < a := by intro h1; apply h; split <;> split <;> omega
    have h2 : ¬ d < c := by intro h1; apply h; split <;> split <;> omega
    simp only [h1, h2, if_neg h, if_false]

def fit (p : Int) : Prop := -9223372036854775808 ≤ p ∧ p ≤ 9223372036854775807
instance (p : Int) : Decidable (fit p) := inferInstanceAs (Decidable (_ ∧ _))
end Go.Proofs.YtmadebejnhinoaaDoor.V.A


set_option linter.unusedVariables false
set_option linter.unusedSimpArgs false
namespace Go.Proofs.YtmadebejnhinoaaDoor.V.A
open Go Go.Wk

/-- r is the hull of the numbers S -/
def Hull (r : Int × Int) (S : Int → Prop) : Prop := (r = (1, 0) ∧ ∀ q, ¬ S q) ∨ (S r.1 ∧ S r.2 ∧ ∀ q, S q → r.1 ≤ q ∧ q ≤ r.2)
theorem Hull.congr {r : Int × Int} {S S' : Int → Prop} (h : Hull r S) (e : ∀ q, S q ↔ S' q) : Hull r S' := by
  have : S = S' := funext fun q => propext (e q)
  rwa [← this]
theorem Hull.none {S : Int → Prop} (h : ∀ q, ¬ S q) : Hull (1, 0) S := .inl ⟨rfl, h⟩
theorem Hull.one (v : Int) : Hull (v, v) (fun q => q = v) := .inr ⟨rfl, rfl, fun q h => by simp only at h ⊢; omega⟩
theorem Hull.jn {r r' : Int × Int} {S S' : Int → Prop} (h : Hull r S) (h' : Hull r' S') : Hull (jn r.1 r.2 r'.1 r'.2) (fun q => S q ∨ S' q) := by
  obtain ⟨x, y⟩ := r
  obtain ⟨x', y'⟩ := r'
  unfold V.A.jn
  rcases h with ⟨h1, h2⟩ | ⟨h1, h2, h3⟩ <;> rcases h' with ⟨k1, k2⟩ | ⟨k1, k2, k3⟩
  · cases h1; cases k1
    exact .inl ⟨by simp, fun q h => h.elim (fun h => h2 _ h) (fun h => k2 _ h)⟩
  · cases h1
    have := (k3 _ k2).1
    simp only at *
    rw [if_pos (by omega), if_neg (by omega)]
    exact .inr ⟨.inr k1, .inr k2, fun q h => h.elim (fun h => absurd h (h2 _)) (fun h => k3 _ h)⟩
  · cases k1
    have := (h3 _ h2).1
    simp only at *
    rw [if_neg (by omega), if_pos (by omega)]
    exact .inr ⟨.inl h1, .inl h2, fun q h => h.elim (fun h => h3 _ h) (fun h => absurd h (k2 _))⟩
  · have q1 := (h3 _ h2).1
    have q2 := (k3 _ k2).1
    simp only at *
    rw [if_neg (by omega), if_neg (by omega)]
    refine .inr ⟨?_, ?_, ?_⟩
    · simp only; split <;> first | exact .inr k1 | exact .inl h1
    · simp only; split <;> first | exact .inr k2 | exact .inl h2
    · rintro q (h | h)
      · have := h3 _ h; simp only at this ⊢; constructor <;> split <;> omega
      · have := k3 _ h; simp only at this ⊢; constructor <;> split <;> omega

open Go Go.Wk

theorem mt_m (a b c d : Int) : mt a b c d = if min b d < max a c then (1, 0) else (max a c, min b d) := by
  have e1 : (if d < b then d else b) = min b d := by split <;> omega
  have e2 : (if c > a then c else a) = max a c := by split <;> omega
  unfold mt
  rw [e1, e2]
theorem mt_mem (a b c d y : Int) : ((mt a b c d).1 ≤ y ∧ y ≤ (mt a b c d).2) ↔ (a ≤ y ∧ y ≤ b ∧ c ≤ y ∧ y ≤ d) := by
  rw [mt_m]
  by_cases h : min b d < max a c
  · rw [if_pos h]; simp only; omega
  · rw [if_neg h]; simp only; omega
theorem ih_s (a b v : Int) : ival_Has a b v = decide (a ≤ v ∧ v ≤ b) := by
  unfold ival_Has ival_Has.c; by_cases h : a ≤ v <;> simp [h]
theorem mt_I {a b c d : Int} (ha : I64 a) (hb : I64 b) (hc : I64 c) (hd : I64 d) : I64 (mt a b c d).1 ∧ I64 (mt a b c d).2 := by
  unfold I64 at *
  rw [mt_m]
  by_cases h : min b d < max a c
  · rw [if_pos h]; simp only; omega
  · rw [if_neg h]; simp only; omega
open Go Go.Wk

/-- all quotients, the one that wraps as it wraps -/
def Q (a b c d q : Int) : Prop := ∃ x y, a ≤ x ∧ x ≤ b ∧ c ≤ y ∧ y ≤ d ∧ y ≠ 0 ∧ q = if x = -9223372036854775808 ∧ y = -1 then -9223372036854775808 else x.tdiv y
def wr (a b c d : Int) : Prop := (a ≤ -9223372036854775808 ∧ -9223372036854775808 ≤ b) ∧ (c ≤ -1 ∧ -1 ≤ d)
instance (a b c d : Int) : Decidable (wr a b c d) := inferInstanceAs (Decidable (_ ∧ _))
open Go Go.Wk

open Go Go.Wk

theorem mt_ne {c d v w : Int} : (mt c d v w).2 < (mt c d v w).1 ↔ min d w < max c v := by
  rw [mt_m]
  by_cases h : min d w < max c v
  · rw [if_pos h]; simp only; omega
  · rw [if_neg h]
end Go.Proofs.YtmadebejnhinoaaDoor.V.A

