/- Products of words, numbers of two words. Conditions: none. -/
import Derived.Test.YtonpbbhlmapbdaaGreatDoorE6
set_option linter.unusedVariables false
set_option linter.unusedSimpArgs false
namespace Go.Proofs.YtonpbbhlmapbdaaGreatDoor.V.B
open Go Go.Wk
theorem shr_k (k : Nat) (hk : k ≤ 64) (x : Int) : x.fdiv (2 ^ min k IntKind.u64.bits) = x / 2 ^ k := by
  have e : IntKind.u64.bits = 64 := rfl
  rw [e, Nat.min_eq_left hk]
  exact Int.fdiv_eq_ediv_of_nonneg _ (Int.le_of_lt (Int.pow_pos (by decide)))
theorem sh32 (x : Int) : x.fdiv (2 ^ min (Int.toNat 32) IntKind.u64.bits) = x / 4294967296 := shr_k 32 (by decide) x
theorem sh16 (x : Int) : x.fdiv (2 ^ min (Int.toNat 16) IntKind.u64.bits) = x / 65536 := shr_k 16 (by decide) x
theorem sh8 (x : Int) : x.fdiv (2 ^ min (Int.toNat 8) IntKind.u64.bits) = x / 256 := shr_k 8 (by decide) x
theorem u8_eq (x : Int) : IntKind.u8.wrap x = x % 256 := by simp [IntKind.wrap, IntKind.signed, IntKind.bits]
theorem andU (a b : Int) : andI .u64 a b = (((a % 18446744073709551616).toNat &&& (b % 18446744073709551616).toNat : Nat) : Int) := by
  rw [andI_eq, wu_eq]
  have e : IntKind.u64.bits = 64 := rfl
  rw [BitVec.toNat_and, BitVec.toNat_ofInt, BitVec.toNat_ofInt, e]
  have e2 : ((2 ^ 64 : Nat) : Int) = 18446744073709551616 := by decide
  rw [e2]
  have h1 : (a % 18446744073709551616).toNat &&& (b % 18446744073709551616).toNat < 2 ^ 64 := Nat.and_lt_two_pow _ (by omega)
  omega
theorem orU (a b : Int) : orI .u64 a b = (((a % 18446744073709551616).toNat ||| (b % 18446744073709551616).toNat : Nat) : Int) := by
  rw [orI_eq, wu_eq]
  have e : IntKind.u64.bits = 64 := rfl
  rw [BitVec.toNat_or, BitVec.toNat_ofInt, BitVec.toNat_ofInt, e]
  have e2 : ((2 ^ 64 : Nat) : Int) = 18446744073709551616 := by decide
  rw [e2]
  have h1 : (a % 18446744073709551616).toNat ||| (b % 18446744073709551616).toNat < 2 ^ 64 := Nat.or_lt_two_pow (by omega) (by omega)
  omega
theorem and_low (x : Int) : andI .u64 x 4294967295 = x % 4294967296 := by
  rw [andU]
  have e1 : ((4294967295 : Int) % 18446744073709551616).toNat = 2 ^ 32 - 1 := by decide
  rw [e1, Nat.and_two_pow_sub_one_eq_mod]
  omega
theorem and_one (x : Int) : andI .u64 x 1 = x % 2 := by
  rw [andU]
  have e1 : ((1 : Int) % 18446744073709551616).toNat = 2 ^ 1 - 1 := by decide
  rw [e1, Nat.and_two_pow_sub_one_eq_mod]
  omega
theorem mul_bound {x y : Int} (hx : 0 ≤ x) (hx' : x < 4294967296) (hy : 0 ≤ y) (hy' : y < 4294967296) : 0 ≤ x * y ∧ x * y ≤ 18446744065119617025 := by
  have h1 : x.natAbs ≤ 4294967295 := by omega
  have h2 : y.natAbs ≤ 4294967295 := by omega
  have h3 := Nat.mul_le_mul h1 h2
  rw [← Int.natAbs_mul] at h3
  have h4 := Int.mul_nonneg hx hy
  omega
theorem bits_Mul64_s {a b : Int} (ha : U64 a) (hb : U64 b) : bits_Mul64 a b = (a * b / 18446744073709551616, a * b % 18446744073709551616) := by
  unfold U64 at ha hb
  unfold bits_Mul64 bits_Mul64.c bits_Mul64.c0
  simp only [id, sh32, and_low, wu_eq]
  have eab : a * b = (a / 4294967296) * (b / 4294967296) * 18446744073709551616 + ((a / 4294967296) * (b % 4294967296) + (a % 4294967296) * (b / 4294967296)) * 4294967296 + (a % 4294967296) * (b % 4294967296) := by
    conv => lhs; rw [show a = a / 4294967296 * 4294967296 + a % 4294967296 by omega, show b = b / 4294967296 * 4294967296 + b % 4294967296 by omega]
    generalize a / 4294967296 = x1
    generalize a % 4294967296 = x0
    generalize b / 4294967296 = y1
    generalize b % 4294967296 = y0
    simp only [Int.add_mul, Int.mul_add]
    have e1 : x1 * 4294967296 * (y1 * 4294967296) = x1 * y1 * 18446744073709551616 := by
      rw [Int.mul_assoc, Int.mul_left_comm 4294967296, ← Int.mul_assoc x1]; rfl
    have e2 : x1 * 4294967296 * y0 = x1 * y0 * 4294967296 := by rw [Int.mul_assoc, Int.mul_comm 4294967296, ← Int.mul_assoc]
    have e3 : x0 * (y1 * 4294967296) = x0 * y1 * 4294967296 := by rw [← Int.mul_assoc]
    rw [e1, e2, e3]
    omega
  rw [eab]
  have b11 := mul_bound (x := a / 4294967296) (y := b / 4294967296) (by omega) (by omega) (by omega) (by omega)
  have b10 := mul_bound (x := a / 4294967296) (y := b % 4294967296) (by omega) (by omega) (by omega) (by omega)
  have b01 := mul_bound (x := a % 4294967296) (y := b / 4294967296) (by omega) (by omega) (by omega) (by omega)
  have b00 := mul_bound (x := a % 4294967296) (y := b % 4294967296) (by omega) (by omega) (by omega) (by omega)
  revert b11 b10 b01 b00
  generalize (a / 4294967296) * (b / 4294967296) = p11
  generalize (a / 4294967296) * (b % 4294967296) = p10
  generalize (a % 4294967296) * (b / 4294967296) = p01
  generalize (a % 4294967296) * (b % 4294967296) = p00
  intro b11 b10 b01 b00
  simp only [Prod.mk.injEq]
  constructor
  · have q1 : p11 % 18446744073709551616 = p11 := by omega
    have q2 : p10 % 18446744073709551616 = p10 := by omega
    have q3 : p01 % 18446744073709551616 = p01 := by omega
    have q4 : p00 % 18446744073709551616 = p00 := by omega
    simp only [q1, q2, q3, q4]
    have q5 : (p10 + p00 / 4294967296) % 18446744073709551616 = p10 + p00 / 4294967296 := by omega
    simp only [q5]
    omega
  · trivial
/-- the table of lengths -/
theorem bl_s (t : Int) (h0 : 0 ≤ t) (h1 : t < 256) : ∃ m : Nat, byteAt len8tab t = m ∧ m ≤ 8 ∧ t < 2 ^ m ∧ (t ≠ 0 → 1 ≤ m ∧ (2 : Int) ^ (m - 1) ≤ t) := by
  have key : ∀ k : Fin 256, (len8tab.data.getD k.val 0).toNat ≤ 8 ∧ k.val < 2 ^ (len8tab.data.getD k.val 0).toNat ∧ (k.val ≠ 0 → 1 ≤ (len8tab.data.getD k.val 0).toNat ∧ 2 ^ ((len8tab.data.getD k.val 0).toNat - 1) ≤ k.val) := by decide +kernel
  have hk := key ⟨t.toNat, by omega⟩
  refine ⟨(len8tab.data.getD t.toNat 0).toNat, rfl, hk.1, ?_, fun h => ?_⟩
  · have := hk.2.1
    have e : ((t.toNat : Nat) : Int) = t := by omega
    rw [← e]; exact_mod_cast this
  · have := hk.2.2 (by simp only; omega)
    refine ⟨this.1, ?_⟩
    have e : ((t.toNat : Nat) : Int) = t := by omega
    have h2 := this.2
    rw [← e]; exact_mod_cast h2
theorem len_fin {γ : Type} (k : Int → γ) (a t : Int) (sh : Nat) (hsh : sh ≤ 56) (ht : t = a / 2 ^ sh) (h0 : 0 ≤ a) (h256 : t < 256) (hlow : sh ≠ 0 → 1 ≤ t) :
    ∃ m : Nat, k (IntKind.i64.wrap (sh + IntKind.i64.wrap (byteAt len8tab t))) = k (m : Int) ∧ m ≤ 64 ∧ a < 2 ^ m ∧ (a ≠ 0 → 1 ≤ m ∧ (2 : Int) ^ (m - 1) ≤ a) := by
  have hd : (0 : Int) < 2 ^ sh := Int.pow_pos (by decide)
  have ht0 : 0 ≤ t := by rw [ht]; exact Int.ediv_nonneg h0 (Int.le_of_lt hd)
  obtain ⟨m, hm, h8, hlt, hge⟩ := bl_s t ht0 h256
  refine ⟨sh + m, ?_, by omega, ?_, fun ha => ?_⟩
  · rw [hm, wi_id (x := (m : Int)) (by omega) (by omega), wi_id (by omega) (by omega)]
    congr 1
  · rw [Int.pow_add]
    rw [ht] at hlt
    have := Int.lt_mul_of_ediv_lt hd hlt
    rwa [Int.mul_comm] at this
  · have ht1 : t ≠ 0 := by
      by_cases hs : sh = 0
      · subst hs; simp at ht; omega
      · have := hlow hs; omega
    obtain ⟨g1, g2⟩ := hge ht1
    refine ⟨by omega, ?_⟩
    rw [ht] at g2
    have := (Int.le_ediv_iff_mul_le hd).1 g2
    rw [show sh + m - 1 = (m - 1) + sh by omega, Int.pow_add]
    exact this
theorem len_k {γ : Type} (n : γ) (k : Int → γ) {a : Int} (ha : U64 a) : ∃ m : Nat, bits_Len64.c n k a = k (m : Int) ∧ m ≤ 64 ∧ a < 2 ^ m ∧ (a ≠ 0 → 1 ≤ m ∧ (2 : Int) ^ (m - 1) ≤ a) := by
  unfold U64 at ha
  unfold bits_Len64.c
  try unfold bits_Len64.c0
  simp only [u8i, cond_true]
  simp only [Bool.cond_decide, sh32, sh16, sh8, u8_eq]
  have fin := fun t sh h1 h2 h3 h4 => len_fin k a t sh h1 h2 ha.1 h3 h4
  by_cases c1 : a ≥ 4294967296
  · simp only [if_pos c1, show IntKind.i64.wrap (32 + 16) = 48 from rfl]
    by_cases c2 : a / 4294967296 ≥ 65536
    · simp only [if_pos c2, show IntKind.i64.wrap (48 + 8) = 56 from rfl]
      by_cases c3 : a / 4294967296 / 65536 ≥ 256
      · simp only [if_pos c3]
        rw [show a / 4294967296 / 65536 / 256 % 256 = a / 4294967296 / 65536 / 256 by omega]
        exact fin (a / 4294967296 / 65536 / 256) 56 (by decide) (by rw [show (2 : Int) ^ 56 = 72057594037927936 by decide]; omega) (by omega) (by omega)
      · simp only [if_neg c3]
        rw [show a / 4294967296 / 65536 % 256 = a / 4294967296 / 65536 by omega]
        exact fin (a / 4294967296 / 65536) 48 (by decide) (by rw [show (2 : Int) ^ 48 = 281474976710656 by decide]; omega) (by omega) (by omega)
    · simp only [if_neg c2, show IntKind.i64.wrap (32 + 8) = 40 from rfl]
      by_cases c3 : a / 4294967296 ≥ 256
      · simp only [if_pos c3]
        rw [show a / 4294967296 / 256 % 256 = a / 4294967296 / 256 by omega]
        exact fin (a / 4294967296 / 256) 40 (by decide) (by rw [show (2 : Int) ^ 40 = 1099511627776 by decide]; omega) (by omega) (by omega)
      · simp only [if_neg c3]
        rw [show a / 4294967296 % 256 = a / 4294967296 by omega]
        exact fin (a / 4294967296) 32 (by decide) rfl (by omega) (by omega)
  · simp only [if_neg c1, show IntKind.i64.wrap (0 + 16) = 16 from rfl]
    by_cases c2 : a ≥ 65536
    · simp only [if_pos c2, show IntKind.i64.wrap (16 + 8) = 24 from rfl]
      by_cases c3 : a / 65536 ≥ 256
      · simp only [if_pos c3]
        rw [show a / 65536 / 256 % 256 = a / 65536 / 256 by omega]
        exact fin (a / 65536 / 256) 24 (by decide) (by rw [show (2 : Int) ^ 24 = 16777216 by decide]; omega) (by omega) (by omega)
      · simp only [if_neg c3]
        rw [show a / 65536 % 256 = a / 65536 by omega]
        exact fin (a / 65536) 16 (by decide) rfl (by omega) (by omega)
    · simp only [if_neg c2, show IntKind.i64.wrap (0 + 8) = 8 from rfl]
      by_cases c3 : a ≥ 256
      · simp only [if_pos c3]
        rw [show a / 256 % 256 = a / 256 by omega]
        exact fin (a / 256) 8 (by decide) rfl (by omega) (by omega)
      · simp only [if_neg c3]
        rw [show a % 256 = a by omega]
        exact fin (a) 0 (by decide) (by simp) (by omega) (by omega)
open Go Go.Wk
theorem exact {N y Q : Int} (h1 : 0 ≤ N - Q * y) (h2 : N < (Q + 1) * y) : Q = N / y ∧ N - Q * y = N % y := by
  have hy : (Q + 1) * y = Q * y + y := by rw [Int.add_mul, Int.one_mul]
  have h3 : N - Q * y < y := by omega
  have := Int.ediv_emod_unique (a := N) (b := y) (r := N - Q * y) (q := Q) (by omega)
  have := this.2 ⟨by rw [Int.mul_comm]; omega, h1, h3⟩
  exact ⟨this.1.symm, this.2.symm⟩
/-- a quotient's digit that is not too small, and what is left of its upper half -/
structure Dg (y yn1 yn0 u un q r : Int) : Prop where
  ey : y = yn1 * 4294967296 + yn0
  a1 : 2147483648 ≤ yn1 ∧ yn1 < 4294967296
  a0 : 0 ≤ yn0 ∧ yn0 < 4294967296
  n0 : 0 ≤ un ∧ un < 4294967296
  u0 : 0 ≤ u ∧ u < y
  q0 : 0 ≤ q ∧ q ≤ 4294967297
  er : q * yn1 = u - r
  r0 : 0 ≤ r
  big : u * 4294967296 + un < (q + 1) * y
theorem Dg.mul {y yn1 yn0 u un q r : Int} (h : Dg y yn1 yn0 u un q r) : q * y = (u - r) * 4294967296 + q * yn0 := by
  rw [h.ey, Int.mul_add, ← Int.mul_assoc, h.er]
theorem Dg.bB {y yn1 yn0 u un q r : Int} (h : Dg y yn1 yn0 u un q r) : 0 ≤ q * yn0 ∧ q * yn0 ≤ 4294967297 * yn0 ∧ (q < 4294967296 → q * yn0 ≤ 4294967295 * yn0) ∧ (4294967296 ≤ q → 4294967296 * yn0 ≤ q * yn0 ∧ 4294967296 * yn1 ≤ q * yn1) :=
  ⟨Int.mul_nonneg h.q0.1 h.a0.1, Int.mul_le_mul_of_nonneg_right h.q0.2 h.a0.1, fun hq => Int.mul_le_mul_of_nonneg_right (by omega) h.a0.1,
    fun hq => ⟨Int.mul_le_mul_of_nonneg_right hq h.a0.1, Int.mul_le_mul_of_nonneg_right hq (by have := h.a1; omega)⟩⟩
theorem Dg.stop {y yn1 yn0 u un q r : Int} (h : Dg y yn1 yn0 u un q r) (hq : q < 4294967296) (ht : q * yn0 ≤ 4294967296 * r + un) : q = (u * 4294967296 + un) / y ∧ u * 4294967296 + un - q * y = (u * 4294967296 + un) % y :=
  exact (by rw [h.mul]; omega) h.big
theorem Dg.more {y yn1 yn0 u un q r : Int} (h : Dg y yn1 yn0 u un q r) (ht : 4294967296 ≤ q ∨ q * yn0 > 4294967296 * r + un) : 1 ≤ q ∧ Dg y yn1 yn0 u un (q - 1) (r + yn1) := by
  have hm := h.mul
  obtain ⟨b1, b2, b3, b4⟩ := h.bB
  obtain ⟨ey, a1, a0, n0, u0, q0, er, r0, big⟩ := h
  have hq : 1 ≤ q := by
    rcases Int.lt_or_le q 1 with h' | h'
    · have : q = 0 := by omega
      subst this
      rw [Int.zero_mul] at ht
      omega
    · exact h'
  refine ⟨hq, ey, a1, a0, n0, u0, by omega, by rw [Int.sub_mul, er]; omega, by omega, ?_⟩
  rw [show q - 1 + 1 = q by omega, hm]
  rcases ht with ht | ht
  · obtain ⟨c1, c2⟩ := b4 ht
    omega
  · omega
theorem Dg.out {y yn1 yn0 u un q r : Int} (h : Dg y yn1 yn0 u un q r) (hq : q ≤ 4294967296) (hr : 4294967296 ≤ r) : q = (u * 4294967296 + un) / y ∧ u * 4294967296 + un - q * y = (u * 4294967296 + un) % y := by
  have hm := h.mul
  have b : q * yn0 ≤ 4294967296 * yn0 := Int.mul_le_mul_of_nonneg_right hq h.a0.1
  have := h.a0; have := h.n0
  exact exact (by rw [hm]; omega) h.big
theorem Dg.yb {y yn1 yn0 u un q r : Int} (h : Dg y yn1 yn0 u un q r) : 0 < y ∧ y < 18446744073709551616 := by
  have := h.ey; have := h.a1; have := h.a0; omega
theorem wr3 (a b c : Int) : IntKind.u64.wrap (IntKind.u64.wrap (IntKind.u64.wrap a + b) - IntKind.u64.wrap c) = IntKind.u64.wrap (a + b - c) := by simp only [wu_eq]; omega
theorem wr_mod {N y : Int} (h : 0 < y ∧ y < 18446744073709551616) : IntKind.u64.wrap (N % y) = N % y := by
  have h1 := Int.emod_nonneg N (show y ≠ 0 by omega)
  have h2 := Int.emod_lt_of_pos N h.1
  exact wu_id h1 (by omega)
theorem L1_step (N0 : Nat) {y yn1 yn0 un0 u : Int} (s q1 : Int) (hs : 0 ≤ s) (m : Nat) (q r : Int) (h : Dg y yn1 yn0 u un0 q r) (hr : r < 4294967296)
    (ih : ¬ r + yn1 ≥ 4294967296 → Dg y yn1 yn0 u un0 (q - 1) (r + yn1) → bits_Div64.L1 N0 m (y, s, yn1, yn0, un0, q1, r + yn1, u, q - 1) = some (IntKind.u64.wrap (IntKind.u64.wrap (q1 * 4294967296) + (u * 4294967296 + un0) / y), ((u * 4294967296 + un0) % y).fdiv (2 ^ min s.toNat IntKind.u64.bits))) :
    bits_Div64.L1 N0 (m + 1) (y, s, yn1, yn0, un0, q1, r, u, q) = some (IntKind.u64.wrap (IntKind.u64.wrap (q1 * 4294967296) + (u * 4294967296 + un0) / y), ((u * 4294967296 + un0) % y).fdiv (2 ^ min s.toNat IntKind.u64.bits)) := by
  obtain ⟨b1, b2, b3, b4⟩ := h.bB
  have a1 := h.a1; have a0 := h.a0; have n0 := h.n0; have r0 := h.r0; have q0 := h.q0
  have hy := h.yb
  have hs' : decide (s < 0) = false := by simpa using hs
  have e1 : IntKind.u64.wrap (r + yn1) = r + yn1 := wu_id (by omega) (by omega)
  have e2 : IntKind.u64.wrap (4294967296 * r) = 4294967296 * r := wu_id (by omega) (by omega)
  have e3 : IntKind.u64.wrap (4294967296 * r + un0) = 4294967296 * r + un0 := wu_id (by omega) (by omega)
  unfold bits_Div64.L1 bits_Div64.l1.c bits_Div64.l1.c0
  simp only [e1, e2, e3, wr3, hs', Bool.not_false, cond_true]
  have next : 4294967296 ≤ q ∨ q * yn0 > 4294967296 * r + un0 → (bif decide (r + yn1 ≥ 4294967296) then some (IntKind.u64.wrap (IntKind.u64.wrap (q1 * 4294967296) + IntKind.u64.wrap (q - 1)), (IntKind.u64.wrap (u * 4294967296 + un0 - IntKind.u64.wrap (q - 1) * y)).fdiv (2 ^ min s.toNat IntKind.u64.bits)) else bits_Div64.L1 N0 m (y, s, yn1, yn0, un0, q1, r + yn1, u, IntKind.u64.wrap (q - 1)))
      = some (IntKind.u64.wrap (IntKind.u64.wrap (q1 * 4294967296) + (u * 4294967296 + un0) / y), ((u * 4294967296 + un0) % y).fdiv (2 ^ min s.toNat IntKind.u64.bits)) := by
    intro ht
    obtain ⟨hq, h'⟩ := h.more ht
    have e4 : IntKind.u64.wrap (q - 1) = q - 1 := wu_id (by omega) (by omega)
    rw [e4]
    by_cases g : r + yn1 ≥ 4294967296
    · obtain ⟨f1, f2⟩ := h'.out (by omega) g
      rw [decide_eq_true g, f2, wr_mod hy, ← f1]
      rfl
    · rw [decide_eq_false g]
      exact ih g h'
  by_cases g1 : q ≥ 4294967296
  · rw [decide_eq_true g1]
    exact next (.inl g1)
  · have e5 : IntKind.u64.wrap (q * yn0) = q * yn0 := wu_id (by omega) (by have := b3 (by omega); omega)
    rw [decide_eq_false g1, e5]
    by_cases g2 : q * yn0 > 4294967296 * r + un0
    · rw [decide_eq_true g2]
      exact next (.inr g2)
    · obtain ⟨f1, f2⟩ := h.stop (by omega) (by omega)
      rw [decide_eq_false g2, f2, wr_mod hy, ← f1]
      rfl
theorem L1_s (N0 : Nat) {y yn1 yn0 un0 u : Int} (s q1 : Int) (hs : 0 ≤ s) : ∀ (m : Nat) (q r : Int), Dg y yn1 yn0 u un0 q r → r < 4294967296 → 4294967296 - r ≤ m * 2147483648 →
    bits_Div64.L1 N0 (m + 1) (y, s, yn1, yn0, un0, q1, r, u, q) = some (IntKind.u64.wrap (IntKind.u64.wrap (q1 * 4294967296) + (u * 4294967296 + un0) / y), ((u * 4294967296 + un0) % y).fdiv (2 ^ min s.toNat IntKind.u64.bits)) := by
  intro m
  induction m with
  | zero => intro q r h hr hm; exact L1_step N0 s q1 hs 0 q r h hr (fun g => by have := h.r0; have := h.a1; omega)
  | succ m ih => intro q r h hr hm; exact L1_step N0 s q1 hs (m + 1) q r h hr (fun g h2 => ih _ _ h2 (by omega) (by have := h.a1; omega))
theorem Dg.first {y yn1 yn0 u un : Int} (ey : y = yn1 * 4294967296 + yn0) (a1 : 2147483648 ≤ yn1 ∧ yn1 < 4294967296) (a0 : 0 ≤ yn0 ∧ yn0 < 4294967296) (n0 : 0 ≤ un ∧ un < 4294967296) (u0 : 0 ≤ u ∧ u < y) :
    Dg y yn1 yn0 u un (u / yn1) (u - u / yn1 * yn1) ∧ u - u / yn1 * yn1 < 4294967296 := by
  have e := Int.emod_add_mul_ediv u yn1
  have h1 := Int.emod_nonneg u (show yn1 ≠ 0 by omega)
  have h2 := Int.emod_lt_of_pos u (show 0 < yn1 by omega)
  have h3 : 0 ≤ u / yn1 := Int.ediv_nonneg u0.1 (by omega)
  have h4 : u / yn1 ≤ 4294967297 := by
    have : u / yn1 < 4294967298 := Int.ediv_lt_of_lt_mul (by omega) (by omega)
    omega
  have e' : u / yn1 * yn1 = u - u % yn1 := by rw [Int.mul_comm]; omega
  refine ⟨⟨ey, a1, a0, n0, u0, ⟨h3, h4⟩, by omega, by omega, ?_⟩, by omega⟩
  have b : 0 ≤ u / yn1 * yn0 := Int.mul_nonneg h3 a0.1
  rw [Int.add_mul, Int.one_mul]
  have : u / yn1 * y = (u / yn1 * yn1) * 4294967296 + u / yn1 * yn0 := by rw [ey, Int.mul_add, ← Int.mul_assoc]
  rw [this, e']
  omega
theorem tdiv_w {u v : Int} (hu : 0 ≤ u) (hu' : u < 18446744073709551616) (hv : 0 < v) : IntKind.u64.wrap (u.tdiv v) = u / v := by
  rw [Int.tdiv_eq_ediv_of_nonneg hu]
  have h1 : 0 ≤ u / v := Int.ediv_nonneg hu (by omega)
  have h2 : u / v ≤ u := Int.ediv_le_self v hu
  exact wu_id h1 (by omega)
theorem L0_step (N0 : Nat) {y yn1 yn0 un1 un0 u : Int} (s : Int) (hs : 0 ≤ s) (hn : 0 ≤ un0 ∧ un0 < 4294967296) (m : Nat) (q r : Int) (h : Dg y yn1 yn0 u un1 q r) (hr : r < 4294967296)
    (ih : ¬ r + yn1 ≥ 4294967296 → Dg y yn1 yn0 u un1 (q - 1) (r + yn1) → bits_Div64.L0 (N0 + 3) (bits_Div64.L1 (N0 + 3) (N0 + 3)) m (y, s, yn1, yn0, u, un1, un0, q - 1, r + yn1) = some (IntKind.u64.wrap (IntKind.u64.wrap ((u * 4294967296 + un1) / y * 4294967296) + ((u * 4294967296 + un1) % y * 4294967296 + un0) / y), (((u * 4294967296 + un1) % y * 4294967296 + un0) % y).fdiv (2 ^ min s.toNat IntKind.u64.bits))) :
    bits_Div64.L0 (N0 + 3) (bits_Div64.L1 (N0 + 3) (N0 + 3)) (m + 1) (y, s, yn1, yn0, u, un1, un0, q, r) = some (IntKind.u64.wrap (IntKind.u64.wrap ((u * 4294967296 + un1) / y * 4294967296) + ((u * 4294967296 + un1) % y * 4294967296 + un0) / y), (((u * 4294967296 + un1) % y * 4294967296 + un0) % y).fdiv (2 ^ min s.toNat IntKind.u64.bits)) := by
  obtain ⟨b1, b2, b3, b4⟩ := h.bB
  have a1 := h.a1; have a0 := h.a0; have n0 := h.n0; have r0 := h.r0; have q0 := h.q0
  have hy := h.yb
  have e0 : decide (yn1 = 0) = false := by simp; omega
  have e1 : IntKind.u64.wrap (r + yn1) = r + yn1 := wu_id (by omega) (by omega)
  have e2 : IntKind.u64.wrap (4294967296 * r) = 4294967296 * r := wu_id (by omega) (by omega)
  have e3 : IntKind.u64.wrap (4294967296 * r + un1) = 4294967296 * r + un1 := wu_id (by omega) (by omega)
  have hmod := Int.emod_nonneg (u * 4294967296 + un1) (show y ≠ 0 by omega)
  have hmod2 := Int.emod_lt_of_pos (u * 4294967296 + un1) hy.1
  unfold bits_Div64.L0 bits_Div64.l0.c bits_Div64.l0.c0
  simp only [e1, e2, e3, wr3, e0, Bool.not_false, cond_true]
  have fin : ∀ Q : Int, Q = (u * 4294967296 + un1) / y → u * 4294967296 + un1 - Q * y = (u * 4294967296 + un1) % y → bits_Div64.L1 (N0 + 3) (N0 + 3) (y, s, yn1, yn0, un0, Q, IntKind.u64.wrap (IntKind.u64.wrap (u * 4294967296 + un1 - Q * y) - IntKind.u64.wrap (IntKind.u64.wrap ((IntKind.u64.wrap (u * 4294967296 + un1 - Q * y)).tdiv yn1) * yn1)), IntKind.u64.wrap (u * 4294967296 + un1 - Q * y), IntKind.u64.wrap ((IntKind.u64.wrap (u * 4294967296 + un1 - Q * y)).tdiv yn1))
      = some (IntKind.u64.wrap (IntKind.u64.wrap ((u * 4294967296 + un1) / y * 4294967296) + ((u * 4294967296 + un1) % y * 4294967296 + un0) / y), (((u * 4294967296 + un1) % y * 4294967296 + un0) % y).fdiv (2 ^ min s.toNat IntKind.u64.bits)) := by
    intro Q f1 f2
    rw [f2, wr_mod hy, tdiv_w hmod (by omega) (by omega)]
    obtain ⟨d1, d2⟩ := Dg.first h.ey h.a1 h.a0 hn ⟨hmod, hmod2⟩
    have g1 := d1.r0
    have g3 := d1.er
    have g2 : IntKind.u64.wrap ((u * 4294967296 + un1) % y - IntKind.u64.wrap ((u * 4294967296 + un1) % y / yn1 * yn1)) = (u * 4294967296 + un1) % y - (u * 4294967296 + un1) % y / yn1 * yn1 := by
      simp only [wu_eq]; omega
    rw [g2, f1]
    exact L1_s (N0 + 3) s _ hs (N0 + 2) _ _ d1 d2 (by omega)
  have next : 4294967296 ≤ q ∨ q * yn0 > 4294967296 * r + un1 → (bif decide (r + yn1 ≥ 4294967296) then bits_Div64.L1 (N0 + 3) (N0 + 3) (y, s, yn1, yn0, un0, IntKind.u64.wrap (q - 1), IntKind.u64.wrap (IntKind.u64.wrap (u * 4294967296 + un1 - IntKind.u64.wrap (q - 1) * y) - IntKind.u64.wrap (IntKind.u64.wrap ((IntKind.u64.wrap (u * 4294967296 + un1 - IntKind.u64.wrap (q - 1) * y)).tdiv yn1) * yn1)), IntKind.u64.wrap (u * 4294967296 + un1 - IntKind.u64.wrap (q - 1) * y), IntKind.u64.wrap ((IntKind.u64.wrap (u * 4294967296 + un1 - IntKind.u64.wrap (q - 1) * y)).tdiv yn1))
        else bits_Div64.L0 (N0 + 3) (bits_Div64.L1 (N0 + 3) (N0 + 3)) m (y, s, yn1, yn0, u, un1, un0, IntKind.u64.wrap (q - 1), r + yn1))
      = some (IntKind.u64.wrap (IntKind.u64.wrap ((u * 4294967296 + un1) / y * 4294967296) + ((u * 4294967296 + un1) % y * 4294967296 + un0) / y), (((u * 4294967296 + un1) % y * 4294967296 + un0) % y).fdiv (2 ^ min s.toNat IntKind.u64.bits)) := by
    intro ht
    obtain ⟨hq, h'⟩ := h.more ht
    have e4 : IntKind.u64.wrap (q - 1) = q - 1 := wu_id (by omega) (by omega)
    rw [e4]
    by_cases g : r + yn1 ≥ 4294967296
    · obtain ⟨f1, f2⟩ := h'.out (by omega) g
      rw [decide_eq_true g]
      exact fin _ f1 f2
    · rw [decide_eq_false g]
      exact ih g h'
  by_cases g1 : q ≥ 4294967296
  · rw [decide_eq_true g1]
    exact next (.inl g1)
  · have e5 : IntKind.u64.wrap (q * yn0) = q * yn0 := wu_id (by omega) (by have := b3 (by omega); omega)
    rw [decide_eq_false g1, e5]
    by_cases g2 : q * yn0 > 4294967296 * r + un1
    · rw [decide_eq_true g2]
      exact next (.inr g2)
    · obtain ⟨f1, f2⟩ := h.stop (by omega) (by omega)
      rw [decide_eq_false g2]
      exact fin _ f1 f2
theorem L0_s (N0 : Nat) {y yn1 yn0 un1 un0 u : Int} (s : Int) (hs : 0 ≤ s) (hn : 0 ≤ un0 ∧ un0 < 4294967296) : ∀ (m : Nat) (q r : Int), Dg y yn1 yn0 u un1 q r → r < 4294967296 → 4294967296 - r ≤ m * 2147483648 →
    bits_Div64.L0 (N0 + 3) (bits_Div64.L1 (N0 + 3) (N0 + 3)) (m + 1) (y, s, yn1, yn0, u, un1, un0, q, r) = some (IntKind.u64.wrap (IntKind.u64.wrap ((u * 4294967296 + un1) / y * 4294967296) + ((u * 4294967296 + un1) % y * 4294967296 + un0) / y), (((u * 4294967296 + un1) % y * 4294967296 + un0) % y).fdiv (2 ^ min s.toNat IntKind.u64.bits)) := by
  intro m
  induction m with
  | zero => intro q r h hr hm; exact L0_step N0 s hs hn 0 q r h hr (fun g => by have := h.r0; have := h.a1; omega)
  | succ m ih => intro q r h hr hm; exact L0_step N0 s hs hn (m + 1) q r h hr (fun g h2 => ih _ _ h2 (by omega) (by have := h.a1; omega))
open Go Go.Wk
theorem lz_s {c : Int} (hc : U64 c) (h0 : c ≠ 0) : ∃ s : Nat, bits_LeadingZeros64 c = (s : Int) ∧ s ≤ 63 ∧ (9223372036854775808 : Int) ≤ c * 2 ^ s ∧ c * 2 ^ s < 18446744073709551616 := by
  obtain ⟨m, hm, h64, hlt, hge⟩ := len_k (0 : Int) id hc
  obtain ⟨m1, hge⟩ := hge h0
  refine ⟨64 - m, ?_, by omega, ?_, ?_⟩
  · unfold bits_LeadingZeros64 bits_LeadingZeros64.c
    try unfold bits_LeadingZeros64.c0
    unfold bits_Len64
    rw [hm]
    simp only [id]
    rw [wi_id (by omega) (by omega)]; omega
  · have h1 : (2 : Int) ^ (m - 1) * 2 ^ (64 - m) = 9223372036854775808 := by rw [← Int.pow_add, show m - 1 + (64 - m) = 63 by omega]; rfl
    rw [← h1]
    exact Int.mul_le_mul_of_nonneg_right hge (Int.le_of_lt (Int.pow_pos (by decide)))
  · have h1 : (2 : Int) ^ m * 2 ^ (64 - m) = 18446744073709551616 := by rw [← Int.pow_add, show m + (64 - m) = 64 by omega]; rfl
    rw [← h1]
    exact Int.mul_lt_mul_of_pos_right hlt (Int.pow_pos (by decide))
theorem or_sum (a b s : Nat) (hb : b < 2 ^ s) (h : a * 2 ^ s < 2 ^ 64) (hs : s ≤ 64) : orI .u64 ((a : Int) * 2 ^ s) (b : Int) = (a : Int) * 2 ^ s + b := by
  have hp : (2 : Nat) ^ s ≤ 2 ^ 64 := Nat.pow_le_pow_right (by decide) hs
  have e1 : ((a : Int) * 2 ^ s % 18446744073709551616).toNat = 2 ^ s * a := by
    have : ((a : Int) * 2 ^ s) = ((a * 2 ^ s : Nat) : Int) := by push_cast; rfl
    rw [this, Nat.mul_comm (2 ^ s) a]; omega
  have e2 : ((b : Int) % 18446744073709551616).toNat = b := by omega
  rw [orU, e1, e2, ← Nat.two_pow_add_eq_or_of_lt hb a]
  push_cast
  rw [Int.mul_comm]
/-- two digits of a quotient -/
theorem two_digits {u n1 n0 y : Int} (hy : 0 < y) : (u * 4294967296 + n1) / y * 4294967296 + ((u * 4294967296 + n1) % y * 4294967296 + n0) / y = (u * 18446744073709551616 + n1 * 4294967296 + n0) / y ∧
    ((u * 4294967296 + n1) % y * 4294967296 + n0) % y = (u * 18446744073709551616 + n1 * 4294967296 + n0) % y := by
  have e := Int.emod_add_mul_ediv (u * 4294967296 + n1) y
  have e2 : u * 18446744073709551616 + n1 * 4294967296 + n0 = ((u * 4294967296 + n1) % y * 4294967296 + n0) + y * ((u * 4294967296 + n1) / y * 4294967296) := by
    rw [← Int.mul_assoc]; omega
  rw [e2, Int.add_mul_ediv_left _ _ (by omega), Int.add_mul_emod_self_left]
  exact ⟨Int.add_comm _ _, rfl⟩
theorem div64_o {a b c : Int} (ha : 0 ≤ a) (hac : a < c) (hb : U64 b) (hc : U64 c) : bits_Div64.o 8 a b c = some ((a * 18446744073709551616 + b) / c, (a * 18446744073709551616 + b) % c) := by
  have hc' := hc
  unfold U64 at hb hc
  obtain ⟨s, hs, h63, hlo, hhi⟩ := lz_s hc' (by omega)
  have w1 : IntKind.u64.wrap (s : Int) = s := wu_id (by omega) (by omega)
  have w2 : IntKind.u64.wrap (64 - (s : Int)) = 64 - s := wu_id (by omega) (by omega)
  have w3 : min ((s : Int).toNat) IntKind.u64.bits = s := by have : IntKind.u64.bits = 64 := rfl; rw [this, Int.toNat_natCast]; omega
  have w4 : min ((64 - (s : Int)).toNat) IntKind.u64.bits = 64 - s := by have : IntKind.u64.bits = 64 := rfl; rw [this]; omega
  have hpq : (2 : Int) ^ s * 2 ^ (64 - s) = 18446744073709551616 := by rw [← Int.pow_add, show s + (64 - s) = 64 by omega]; rfl
  have hp : (0 : Int) < 2 ^ s := Int.pow_pos (by decide)
  have hq : (0 : Int) < 2 ^ (64 - s) := Int.pow_pos (by decide)
  have e0 : (c == 0) = false := by simp; omega
  have e1 : decide (c ≤ a) = false := by simp; omega
  have e2 : decide (c = 0) = false := by simp; omega
  have e3 : decide ((s : Int) < 0) = false := decide_eq_false (by omega)
  have e4 : decide ((64 : Int) - s < 0) = false := by simp; omega
  unfold bits_Div64.o bits_Div64.c bits_Div64.c0
  simp only [hs, w1, w2, w3, w4, e0, e1, e2, e3, e4, cond_false, cond_true, Bool.not_false, sh32, and_low]
  by_cases h0 : a = 0
  · subst h0
    have h1 : 0 ≤ b / c := Int.ediv_nonneg hb.1 (by omega)
    have h2 : b / c ≤ b := Int.ediv_le_self c hb.1
    rw [Int.tdiv_eq_ediv_of_nonneg hb.1, Int.tmod_eq_emod_of_nonneg hb.1, wu_id h1 (by omega)]
    simp
  · have e5 : (a == 0) = false := by simpa using h0
    rw [e5]
    simp only [cond_false]
    have hap : a * 2 ^ s < c * 2 ^ s := Int.mul_lt_mul_of_pos_right hac hp
    have hap0 : 0 ≤ a * 2 ^ s := Int.mul_nonneg ha (Int.le_of_lt hp)
    have f1 : IntKind.u64.wrap (c * 2 ^ s) = c * 2 ^ s := wu_id (by omega) (by omega)
    have f2 : IntKind.u64.wrap (a * 2 ^ s) = a * 2 ^ s := wu_id (by omega) (by omega)
    have hbq : b / 2 ^ (64 - s) < 2 ^ s := Int.ediv_lt_of_lt_mul hq (by rw [hpq]; exact hb.2)
    have hbq0 : 0 ≤ b / 2 ^ (64 - s) := Int.ediv_nonneg hb.1 (Int.le_of_lt hq)
    have hbm := Int.emod_nonneg b (show (2 : Int) ^ (64 - s) ≠ 0 by omega)
    have hbm2 := Int.emod_lt_of_pos b hq
    have hbe := Int.emod_add_mul_ediv b (2 ^ (64 - s))
    have f3 : orI .u64 (a * 2 ^ s) (b.fdiv (2 ^ (64 - s))) = a * 2 ^ s + b / 2 ^ (64 - s) := by
      rw [Int.fdiv_eq_ediv_of_nonneg _ (Int.le_of_lt hq)]
      have := or_sum a.toNat (b / 2 ^ (64 - s)).toNat s (by
        have h2 : ((b / 2 ^ (64 - s)).toNat : Int) < ((2 ^ s : Nat) : Int) := by push_cast; omega
        exact_mod_cast h2) (by
        have h2 : ((a.toNat * 2 ^ s : Nat) : Int) < ((2 ^ 64 : Nat) : Int) := by rw [Int.natCast_mul, Int.natCast_pow, show ((a.toNat : Nat) : Int) = a by omega]; exact Int.lt_of_lt_of_le (Int.lt_trans hap hhi) (by decide)
        exact_mod_cast h2) (by omega)
      rw [show ((a.toNat : Nat) : Int) = a by omega, show (((b / 2 ^ (64 - s)).toNat : Nat) : Int) = b / 2 ^ (64 - s) by omega] at this
      exact this
    have hm0 : 0 ≤ b % 2 ^ (64 - s) * 2 ^ s := Int.mul_nonneg hbm (Int.le_of_lt hp)
    have hm1 : b % 2 ^ (64 - s) * 2 ^ s < 18446744073709551616 := by
      have := Int.mul_lt_mul_of_pos_right hbm2 hp
      rw [Int.mul_comm (2 ^ (64 - s))] at this
      omega
    have hb2 : b * 2 ^ s = b / 2 ^ (64 - s) * 18446744073709551616 + b % 2 ^ (64 - s) * 2 ^ s := by
      conv => lhs; rw [← hbe]
      rw [Int.add_mul, ← hpq]
      have : 2 ^ (64 - s) * (b / 2 ^ (64 - s)) * 2 ^ s = b / 2 ^ (64 - s) * ((2 : Int) ^ s * 2 ^ (64 - s)) := by
        rw [Int.mul_comm (2 ^ (64 - s)) (b / 2 ^ (64 - s)), Int.mul_assoc, Int.mul_comm (2 ^ (64 - s)) (2 ^ s)]
      omega
    have f4 : IntKind.u64.wrap (b * 2 ^ s) = b % 2 ^ (64 - s) * 2 ^ s := by rw [hb2, wu_eq]; omega
    rw [f1, f2, f3, f4]
    have hu0 : 0 ≤ a * 2 ^ s + b / 2 ^ (64 - s) := by omega
    have hu1 : a * 2 ^ s + b / 2 ^ (64 - s) < c * 2 ^ s := by
      have h1 : (a + 1) * 2 ^ s ≤ c * 2 ^ s := Int.mul_le_mul_of_nonneg_right (by omega) (Int.le_of_lt hp)
      rw [Int.add_mul, Int.one_mul] at h1
      omega
    have hM : (a * 18446744073709551616 + b) * 2 ^ s = (a * 2 ^ s + b / 2 ^ (64 - s)) * 18446744073709551616 + b % 2 ^ (64 - s) * 2 ^ s := by
      rw [Int.add_mul, hb2, Int.add_mul]
      have : a * 18446744073709551616 * 2 ^ s = a * 2 ^ s * 18446744073709551616 := by rw [Int.mul_assoc, Int.mul_comm 18446744073709551616, ← Int.mul_assoc]
      omega
    have key := Int.mul_ediv_mul_of_pos_left (a * 18446744073709551616 + b) c hp
    have key2 : (a * 18446744073709551616 + b) * 2 ^ s % (c * 2 ^ s) = (a * 18446744073709551616 + b) % c * 2 ^ s := by
      rw [Int.mul_comm _ (2 ^ s), Int.mul_comm c, Int.mul_emod_mul_of_pos _ _ hp, Int.mul_comm]
    rw [hM] at key key2
    generalize a * 2 ^ s + b / 2 ^ (64 - s) = u at hu0 hu1 key key2 ⊢
    generalize b % 2 ^ (64 - s) * 2 ^ s = v at hm0 hm1 key key2 ⊢
    generalize c * 2 ^ s = y at hlo hhi hu1 key key2 ⊢
    obtain ⟨d1, d2⟩ := Dg.first (y := y) (yn1 := y / 4294967296) (yn0 := y % 4294967296) (u := u) (un := v / 4294967296) (by omega) (by omega) (by omega) (by omega) ⟨hu0, hu1⟩
    have g1 : IntKind.u64.wrap (u.tdiv (y / 4294967296)) = u / (y / 4294967296) := tdiv_w hu0 (by omega) (by omega)
    have g0 := d1.r0
    have g9 := d1.er
    have g2 : IntKind.u64.wrap (u - IntKind.u64.wrap (u / (y / 4294967296) * (y / 4294967296))) = u - u / (y / 4294967296) * (y / 4294967296) := by
      simp only [wu_eq]; omega
    have g3 : decide (y / 4294967296 = 0) = false := by simp; omega
    rw [g1, g2, g3]
    simp only [Bool.not_false, cond_true]
    rw [L0_s 5 (s : Int) (by omega) (un0 := v % 4294967296) (by omega) 7 _ _ d1 d2 (by omega)]
    obtain ⟨t1, t2⟩ := two_digits (u := u) (n1 := v / 4294967296) (n0 := v % 4294967296) (y := y) (by omega)
    rw [show u * 18446744073709551616 + v / 4294967296 * 4294967296 + v % 4294967296 = u * 18446744073709551616 + v by omega] at t1 t2
    rw [t2, key2, w3, Int.fdiv_eq_ediv_of_nonneg _ (Int.le_of_lt hp), Int.mul_ediv_cancel _ (by omega)]
    congr 2
    rw [key] at t1
    have r1 : 0 ≤ (a * 18446744073709551616 + b) / c := Int.ediv_nonneg (by omega) (by omega)
    have r2 : (a * 18446744073709551616 + b) / c < 18446744073709551616 := Int.ediv_lt_of_lt_mul (by omega) (by
      have : (a + 1) * 18446744073709551616 ≤ c * 18446744073709551616 := Int.mul_le_mul_of_nonneg_right (by omega) (by decide)
      omega)
    simp only [wu_eq]
    omega
theorem div64_g {a b c : Int} (ha : 0 ≤ a) (hac : a < c) (hb : U64 b) (hc : U64 c) : bits_Div64.g a b c = true := by
  unfold bits_Div64.g; rw [hide_eq, div64_o ha hac hb hc]; rfl
theorem div64_s {a b c : Int} (ha : 0 ≤ a) (hac : a < c) (hb : U64 b) (hc : U64 c) : bits_Div64 a b c = ((a * 18446744073709551616 + b) / c, (a * 18446744073709551616 + b) % c) := by
  unfold bits_Div64; rw [hide_eq, div64_o ha hac hb hc]; rfl
open Go Go.Wk
theorem cbe {α : Type} (x y : Int) (X Y : α) : (bif x == y then X else Y) = if x = y then X else Y := by
  by_cases h : x = y
  · subst h; simp
  · rw [if_neg h, show (x == y) = false by simpa using h]; rfl
theorem cbn {α : Type} (x y : Int) (X Y : α) : (bif x != y then X else Y) = if x = y then Y else X := by
  by_cases h : x = y
  · subst h; simp
  · rw [if_neg h, show (x != y) = true by simpa using h]; rfl
theorem cbd {α : Type} (p : Prop) [Decidable p] (X Y : α) : (bif !decide p then X else Y) = if p then Y else X := by
  by_cases h : p <;> simp [h]
theorem i64u (x : Int) : I64 (IntKind.i64.wrap x) := ⟨wi_lo x, wi_hi x⟩
theorem u64u (x : Int) : U64 (IntKind.u64.wrap x) := ⟨wu_lo x, wu_hi x⟩
theorem emod_U {x m : Int} (hm : U64 m) (h0 : m ≠ 0) : 0 ≤ x % m ∧ x % m < m ∧ U64 (x % m) := by
  have h1 := Int.emod_nonneg x h0
  unfold U64 at *
  have h2 := Int.emod_lt_of_pos x (show 0 < m by omega)
  exact ⟨h1, h2, h1, by omega⟩
theorem mod_of {v m r q : Int} (h : v = r + m * q) (h0 : 0 ≤ r) (h1 : r < m) : v % m = r := by
  rw [h, Int.add_mul_emod_self_left, Int.emod_eq_of_lt h0 h1]
/-- a remainder; by 0 the bits -/
def md (x m : Int) : Int := if m = 0 then x % 18446744073709551616 else x % m
theorem mod_k {γ : Type} (n : γ) (k : Int → γ) {v m : Int} (hv : I64 v) (hm : U64 m) : word_Mod.c n k v m = k (md v m) := by
  unfold I64 at hv; unfold U64 at hm
  unfold word_Mod.c word_Mod.c0 md
  simp only [cbe, cbd, Bool.cond_decide]
  by_cases h0 : m = 0
  · simp only [if_pos h0, wu_eq]
  · simp only [if_neg h0]
    by_cases h1 : v ≥ 0
    · simp only [if_pos h1]
      rw [wu_id h1 (by omega), Int.tmod_eq_emod_of_nonneg h1]
    · simp only [if_neg h1]
      have e1 : IntKind.i64.wrap (v + 1) = v + 1 := wi_id (by omega) (by omega)
      have e2 : IntKind.i64.wrap (0 - (v + 1)) = 0 - (v + 1) := wi_id (by omega) (by omega)
      have e3 : IntKind.u64.wrap (0 - (v + 1)) = 0 - (v + 1) := wu_id (by omega) (by omega)
      have e4 : IntKind.u64.wrap (m - 1) = m - 1 := wu_id (by omega) (by omega)
      rw [e1, e2, e3, e4, Int.tmod_eq_emod_of_nonneg (by omega)]
      have g1 := Int.emod_nonneg (0 - (v + 1)) h0
      have g2 := Int.emod_lt_of_pos (0 - (v + 1)) (show 0 < m by omega)
      have g3 := Int.emod_add_mul_ediv (0 - (v + 1)) m
      rw [wu_id (by omega) (by omega)]
      rw [mod_of (v := v) (r := m - 1 - (0 - (v + 1)) % m) (q := -((0 - (v + 1)) / m) - 1) (by
        have e : m * (-((0 - (v + 1)) / m) - 1) = -(m * ((0 - (v + 1)) / m)) - m := by rw [Int.mul_sub, Int.mul_neg, Int.mul_one]
        omega) (by omega) (by omega)]
theorem mod_s {v m : Int} (hv : I64 v) (hm : U64 m) : word_Mod v m = md v m := mod_k _ _ hv hm
theorem alone_s (a b : Int) : cong_alone a b = (a == 0) := by unfold cong_alone cong_alone.c; (try unfold cong_alone.c0); rfl
/-- a class's whole number -/
def vc (m r : Int) : Int := if m = 0 then IntKind.i64.wrap r else r
theorem wi_emod (r : Int) : IntKind.i64.wrap r % 18446744073709551616 = r % 18446744073709551616 := by rw [wi_eq]; omega
theorem rest_k {γ : Type} (n : γ) (k : Int → γ) {c r m : Int} (hr : U64 r) (hm : U64 m) : cong_rest.c n k c r m = k (md (vc c r) m) := by
  unfold cong_rest.c cong_rest.c0
  simp only [alone_s, mod_s (i64u r) hm, cbe, cbd]
  unfold vc
  unfold U64 at hr
  by_cases h : c = 0
  · rw [if_pos h, if_pos h]
  · rw [if_neg h, if_neg h]
    unfold md
    by_cases h2 : m = 0
    · rw [if_pos h2, if_pos h2]; rw [Int.emod_eq_of_lt hr.1 hr.2]
    · rw [if_neg h2, if_neg h2, if_neg h2, Int.tmod_eq_emod_of_nonneg hr.1]
theorem rest_s {c r m : Int} (hr : U64 r) (hm : U64 m) : cong_rest c r m = md (vc c r) m := rest_k _ _ hr hm
theorem md_U (x : Int) {m : Int} (hm : U64 m) : U64 (md x m) := by
  unfold md
  by_cases h : m = 0
  · rw [if_pos h]; unfold U64; omega
  · rw [if_neg h]; exact (emod_U hm h).2.2
/-- greatest common divisor -/
def gg (a b : Int) : Int := (Nat.gcd a.toNat b.toNat : Int)
theorem gg_step {a b : Int} (ha : 0 ≤ a) (hb : 0 ≤ b) : gg b (a % b) = gg a b := by
  unfold gg
  have : (a % b).toNat = a.toNat % b.toNat := by
    have e : ((a.toNat % b.toNat : Nat) : Int) = a % b := by rw [Int.natCast_emod]; rw [show ((a.toNat : Nat) : Int) = a by omega, show ((b.toNat : Nat) : Int) = b by omega]
    omega
  rw [this, Nat.gcd_comm b.toNat, ← Nat.gcd_rec, Nat.gcd_comm]
theorem gg_zero {a : Int} (ha : 0 ≤ a) : gg a 0 = a := by unfold gg; simp; omega
theorem gcd_L (N : Nat) : ∀ (m : Nat) (a b : Int), 0 ≤ a → 0 ≤ b → b < m → word_Gcd.L0 N m (a, b) = some (gg a b)
  | 0, a, b, ha, hb, hm => by omega
  | m + 1, a, b, ha, hb, hm => by
    unfold word_Gcd.L0 word_Gcd.l0.c
    (try unfold word_Gcd.l0.c0)
    simp only [cbn, cbd]
    by_cases h : b = 0
    · rw [if_pos h, h, gg_zero ha]
    · rw [if_neg h, if_neg h, Int.tmod_eq_emod_of_nonneg ha]
      have h1 := Int.emod_nonneg a h
      have h2 := Int.emod_lt_of_pos a (show 0 < b by omega)
      rw [gcd_L N m b (a % b) hb h1 (by omega), gg_step ha hb]
theorem gcd_o {a b : Int} (ha : 0 ≤ a) (hb : 0 ≤ b) : word_Gcd.o (b.toNat + 2) a b = some (gg a b) := by
  unfold word_Gcd.o word_Gcd.c
  exact gcd_L _ _ _ _ ha hb (by omega)
theorem gcd_g {a b : Int} (ha : 0 ≤ a) (hb : 0 ≤ b) : word_Gcd.g a b = true := by unfold word_Gcd.g; rw [hide_eq, gcd_o ha hb]; rfl
theorem gcd_s {a b : Int} (ha : 0 ≤ a) (hb : 0 ≤ b) : word_Gcd a b = gg a b := by unfold word_Gcd; rw [hide_eq, gcd_o ha hb]; rfl
theorem gg_comm (a b : Int) : gg a b = gg b a := by unfold gg; rw [Nat.gcd_comm]
theorem gg_nonneg (a b : Int) : 0 ≤ gg a b := by unfold gg; omega
theorem gg_dvd {a b : Int} (ha : 0 ≤ a) (hb : 0 ≤ b) : gg a b ∣ a ∧ gg a b ∣ b := by
  unfold gg
  have h1 := Nat.gcd_dvd_left a.toNat b.toNat
  have h2 := Nat.gcd_dvd_right a.toNat b.toNat
  have e1 : ((a.toNat : Nat) : Int) = a := by omega
  have e2 : ((b.toNat : Nat) : Int) = b := by omega
  constructor
  · have := Int.natCast_dvd_natCast.2 h1; rwa [e1] at this
  · have := Int.natCast_dvd_natCast.2 h2; rwa [e2] at this
theorem dvd_gg {a b d : Int} (ha : 0 ≤ a) (hb : 0 ≤ b) (h1 : d ∣ a) (h2 : d ∣ b) : d ∣ gg a b := by
  unfold gg
  rw [← Int.natAbs_dvd] at h1 h2 ⊢
  have e1 : ((a.toNat : Nat) : Int) = a := by omega
  have e2 : ((b.toNat : Nat) : Int) = b := by omega
  rw [← e1] at h1
  rw [← e2] at h2
  exact Int.natCast_dvd_natCast.2 (Nat.dvd_gcd (Int.natCast_dvd_natCast.1 h1) (Int.natCast_dvd_natCast.1 h2))
theorem gg_pos {a b : Int} (ha : 0 ≤ a) (hb : 0 ≤ b) (h : a ≠ 0 ∨ b ≠ 0) : 0 < gg a b := by
  unfold gg
  have : 0 < Nat.gcd a.toNat b.toNat := by
    rcases h with h | h
    · exact Nat.gcd_pos_of_pos_left _ (by omega)
    · exact Nat.gcd_pos_of_pos_right _ (by omega)
  omega
theorem gg_le {a b : Int} (ha : 0 ≤ a) (hb : 0 ≤ b) (h : a ≠ 0) : gg a b ≤ a := by
  have := Int.le_of_dvd (by omega) (gg_dvd ha hb).1
  exact this
theorem gg_U {a b : Int} (ha : U64 a) (hb : U64 b) : U64 (gg a b) := by
  unfold U64 at *
  refine ⟨gg_nonneg a b, ?_⟩
  by_cases h : a = 0
  · by_cases h' : b = 0
    · subst h h'; decide
    · rw [gg_comm]; have := gg_le hb.1 ha.1 h'; omega
  · have := gg_le ha.1 hb.1 h; omega
theorem minus_s {x y m : Int} (hm : U64 m) (hx : 0 ≤ x) (hx2 : x < m) (hy : 0 ≤ y) (hy2 : y < m) : cong_minus x y m = (x - y) % m := by
  unfold U64 at hm
  unfold cong_minus cong_minus.c cong_minus.c0
  simp only [Bool.cond_decide, id]
  by_cases h : x ≥ y
  · rw [if_pos h, wu_id (by omega) (by omega), Int.emod_eq_of_lt (by omega) (by omega)]
  · rw [if_neg h, wu_id (x := m - y) (by omega) (by omega), wu_id (by omega) (by omega)]
    rw [show x - y = (m - y + x) + m * (-1) by omega, Int.add_mul_emod_self_left, Int.emod_eq_of_lt (by omega) (by omega)]
theorem plus_s {x y m : Int} (hm : U64 m) (hx : 0 ≤ x) (hx2 : x < m) (hy : 0 ≤ y) (hy2 : y < m) : cong_plus x y m = (x + y) % m := by
  unfold U64 at hm
  unfold cong_plus cong_plus.c cong_plus.c0
  simp only [Bool.cond_decide, id]
  rw [wu_id (x := m - x) (by omega) (by omega)]
  by_cases h : y ≥ m - x
  · rw [if_pos h, wu_id (by omega) (by omega), show x + y = (y - (m - x)) + m * 1 by omega, Int.add_mul_emod_self_left, Int.emod_eq_of_lt (by omega) (by omega)]
  · rw [if_neg h, wu_id (by omega) (by omega), Int.emod_eq_of_lt (by omega) (by omega)]
theorem mul_U {a b : Int} (ha : U64 a) (hb : U64 b) : 0 ≤ a * b ∧ a * b < 340282366920938463463374607431768211456 ∧ a * b / 18446744073709551616 < 18446744073709551616 := by
  unfold U64 at *
  have h0 := Int.mul_nonneg ha.1 hb.1
  have h1 : a * b ≤ 18446744073709551615 * b := Int.mul_le_mul_of_nonneg_right (by omega) hb.1
  omega
theorem times_k {γ : Type} (n : γ) (k : Int → γ) {x y m : Int} (hx : U64 x) (hy : U64 y) (hm : U64 m) (h0 : m ≠ 0) : cong_times.c n k x y m = k (x * y % m) := by
  have hm' := hm
  have hb := mul_U hx hy
  unfold U64 at hm
  unfold cong_times.c cong_times.c0
  simp only [bits_Mul64_s hx hy]
  have g1 : 0 ≤ x * y / 18446744073709551616 := by omega
  have e1 : (x * y / 18446744073709551616).tmod m = x * y / 18446744073709551616 % m := Int.tmod_eq_emod_of_nonneg g1
  have g2 := Int.emod_nonneg (x * y / 18446744073709551616) h0
  have g3 := Int.emod_lt_of_pos (x * y / 18446744073709551616) (show 0 < m by omega)
  have hl : U64 (x * y % 18446744073709551616) := by unfold U64; omega
  have e2 : ∀ {β : Type} (n : β) (k : Int → β), bits_Rem64.c n k (x * y / 18446744073709551616) (x * y % 18446744073709551616) m = k (x * y % m) := by
    intro β n k
    unfold bits_Rem64.c bits_Rem64.c0
    simp only [e1, div64_g g2 g3 hl hm', div64_s g2 g3 hl hm', cbd, if_neg h0, cond_true]
    congr 1
    rw [Int.add_emod, Int.mul_emod, Int.emod_emod, ← Int.mul_emod, ← Int.add_emod]
    congr 1
    omega
  unfold bits_Rem64.ok bits_Rem64
  rw [e2, e2]
  rfl
theorem times_ok {x y m : Int} (hx : U64 x) (hy : U64 y) (hm : U64 m) (h0 : m ≠ 0) : cong_times.ok x y m = true := times_k _ _ hx hy hm h0
theorem times_s {x y m : Int} (hx : U64 x) (hy : U64 y) (hm : U64 m) (h0 : m ≠ 0) : cong_times x y m = x * y % m := times_k _ _ hx hy hm h0
end Go.Proofs.YtonpbbhlmapbdaaGreatDoor.V.B
