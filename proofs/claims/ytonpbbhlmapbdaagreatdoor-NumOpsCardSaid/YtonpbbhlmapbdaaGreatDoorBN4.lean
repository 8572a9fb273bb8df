/- Common divisors by halving, operations on classes. Conditions: none. -/
import Derived.Test.YtonpbbhlmapbdaaGreatDoorBN3
set_option linter.unusedVariables false
set_option linter.unusedSimpArgs false
namespace Go.Proofs.YtonpbbhlmapbdaaGreatDoor.V.B
open Go Go.Wk
theorem tz_ex : ∀ (n : Nat), n ≠ 0 → ∃ j o : Nat, n = 2 ^ j * o ∧ o % 2 = 1 := by
  intro n
  induction n using Nat.strongRecOn with
  | ind n ih =>
    intro h
    by_cases h2 : n % 2 = 1
    · exact ⟨0, n, by simp, h2⟩
    · obtain ⟨j, o, e, ho⟩ := ih (n / 2) (by omega) (by omega)
      refine ⟨j + 1, o, ?_, ho⟩
      rw [Nat.pow_succ, Nat.mul_comm (2 ^ j) 2, Nat.mul_assoc, ← e]; omega
theorem low_bit (w j o : Nat) (h : 2 ^ j * o < 2 ^ w) (ho : o % 2 = 1) : (2 ^ j * o) &&& (2 ^ w - 2 ^ j * o) = 2 ^ j := by
  have hp : 0 < 2 ^ j := Nat.two_pow_pos j
  have ho1 : 1 ≤ o := by omega
  have hpos : 0 < 2 ^ j * o := Nat.mul_pos hp ho1
  apply Nat.eq_of_testBit_eq
  intro i
  rw [Nat.testBit_and]
  have e1 : 2 ^ w - 2 ^ j * o = 2 ^ w - ((2 ^ j * o - 1) + 1) := by congr 1; omega
  rw [e1, Nat.testBit_two_pow_sub_succ (by omega)]
  have e2 : 2 ^ j * o - 1 = 2 ^ j * (o - 1) + (2 ^ j - 1) := by
    have : 2 ^ j * o = 2 ^ j * (o - 1) + 2 ^ j := by
      rw [← Nat.mul_succ]; congr 1; omega
    omega
  rw [e2, Nat.testBit_two_pow_mul_add _ (by omega)]
  have e3 : Nat.testBit (2 ^ j * o) i = if i < j then false else Nat.testBit o (i - j) := by
    have := Nat.testBit_two_pow_mul_add (i := j) o (b := 0) hp i
    simpa using this
  rw [e3, Nat.testBit_two_pow]
  by_cases hi : i < j
  · rw [if_pos hi]; simp; omega
  · rw [if_neg hi, if_neg hi]
    by_cases hij : i = j
    · subst hij
      have hw : i < w := by
        rcases Nat.lt_or_ge i w with h' | h'
        · exact h'
        · have h1 : 2 ^ w ≤ 2 ^ i := Nat.pow_le_pow_right (by decide) h'
          have h2 : 2 ^ i * 1 ≤ 2 ^ i * o := Nat.mul_le_mul_left _ ho1
          omega
      have b1 : Nat.testBit o 0 = true := by rw [Nat.testBit_zero]; simpa using ho
      have b2 : Nat.testBit (o - 1) 0 = false := by rw [Nat.testBit_zero]; simp; omega
      simp [b1, b2, hw]
    · have b : Nat.testBit o (i - j) = Nat.testBit (o - 1) (i - j) := by
        obtain ⟨k, hk⟩ : ∃ k, i - j = k + 1 := ⟨i - j - 1, by omega⟩
        rw [hk, Nat.testBit_succ, Nat.testBit_succ]
        congr 1; omega
      rw [b, show (decide (j = i)) = false by simp; omega]
      cases Nat.testBit (o - 1) (i - j) <;> simp
/-- the number of noughts at a number's end, and what is ahead of them -/
def Tz (x : Int) (j : Nat) : Prop := ∃ o : Int, x = 2 ^ j * o ∧ o % 2 = 1
theorem Tz.ex {x : Int} (h : 0 < x) : ∃ j, Tz x j := by
  obtain ⟨j, o, e, ho⟩ := tz_ex x.toNat (by omega)
  refine ⟨j, (o : Int), ?_, by omega⟩
  have : x = ((x.toNat : Nat) : Int) := by omega
  rw [this, e]; push_cast; rfl
theorem Tz.uniq {x : Int} {i j : Nat} (h : Tz x i) (h' : Tz x j) : i = j := by
  have key : ∀ {i j : Nat}, i < j → Tz x i → Tz x j → False := by
    intro i j hij h h'
    obtain ⟨o, e, ho⟩ := h
    obtain ⟨p, f, hp⟩ := h'
    have e2 : (2 : Int) ^ j = 2 ^ i * 2 ^ (j - i) := by rw [← Int.pow_add]; congr 1; omega
    rw [e2, Int.mul_assoc] at f
    have : o = 2 ^ (j - i) * p := Int.eq_of_mul_eq_mul_left (by have := Int.pow_pos (n := 2) (m := i) (by decide); omega) (e.symm.trans f)
    rw [show j - i = (j - i - 1) + 1 by omega, Int.pow_succ, Int.mul_comm (2 ^ _) 2, Int.mul_assoc] at this
    omega
  rcases Nat.lt_trichotomy i j with g | g | g
  · exact (key g h h').elim
  · exact g
  · exact (key g h' h).elim
theorem Tz.lt {x : Int} {j w : Nat} (h : Tz x j) (h0 : 0 < x) (hw : x < 2 ^ w) : j < w ∧ (2 : Int) ^ j ≤ x := by
  obtain ⟨o, e, ho⟩ := h
  have hp : (0 : Int) < 2 ^ j := Int.pow_pos (by decide)
  have ho1 : 1 ≤ o := by
    rcases Int.lt_or_le 0 o with h' | h'
    · exact h'
    · have := Int.mul_le_mul_of_nonneg_left h' (Int.le_of_lt hp); rw [Int.mul_zero] at this; omega
  have h2 : (2 : Int) ^ j * 1 ≤ 2 ^ j * o := Int.mul_le_mul_of_nonneg_left ho1 (Int.le_of_lt hp)
  rw [Int.mul_one, ← e] at h2
  refine ⟨?_, h2⟩
  rcases Nat.lt_or_ge j w with h' | h'
  · exact h'
  · exfalso
    have h1 : (2 : Nat) ^ w ≤ 2 ^ j := Nat.pow_le_pow_right (by decide) h'
    have h3 : ((2 : Int) ^ w) ≤ 2 ^ j := by exact_mod_cast h1
    omega
theorem and_low_bit {x : Int} {j : Nat} (hx : U64 x) (h0 : 0 < x) (h : Tz x j) : andI .u64 x (IntKind.u64.wrap (0 - x)) = 2 ^ j := by
  unfold U64 at hx
  obtain ⟨o, e, ho⟩ := h
  have ho1 : 0 ≤ o := by
    rcases Int.lt_or_le o 0 with h' | h'
    · have := Int.mul_neg_of_pos_of_neg (Int.pow_pos (n := 2) (m := j) (by decide)) h'; omega
    · exact h'
  have en : x.toNat = 2 ^ j * o.toNat := by
    have : ((x.toNat : Nat) : Int) = ((2 ^ j * o.toNat : Nat) : Int) := by
      rw [Int.natCast_mul, Int.natCast_pow, show ((o.toNat : Nat) : Int) = o by omega, show ((x.toNat : Nat) : Int) = x by omega]; exact e
    exact_mod_cast this
  rw [andU]
  have e1 : (x % 18446744073709551616).toNat = 2 ^ j * o.toNat := by rw [← en]; omega
  have e2 : (IntKind.u64.wrap (0 - x) % 18446744073709551616).toNat = 2 ^ 64 - 2 ^ j * o.toNat := by
    rw [← en, wu_eq]; omega
  rw [e1, e2, low_bit 64 j o.toNat (by rw [← en]; omega) (by omega)]
  push_cast; rfl
theorem even_s {x : Int} {j : Nat} (hx : U64 x) (h0 : 0 < x) (h : Tz x j) : word_Even x = 2 ^ j := by
  unfold word_Even word_Even.c
  (try unfold word_Even.c0)
  exact and_low_bit hx h0 h
theorem table_s : ∀ j : Fin 64, deBruijn.getD ((2 ^ j.val * 285870213051353865 % 18446744073709551616) / 288230376151711744) 0 = (j.val : Int) := by decide +kernel
theorem trail_k {γ : Type} (n : γ) (k : Int → γ) {x : Int} {j : Nat} (hx : U64 x) (h0 : 0 < x) (h : Tz x j) : bits_TrailingZeros64.c n k x = k (j : Int) := by
  have hj := h.lt h0 (w := 64) (by unfold U64 at hx; exact hx.2)
  unfold bits_TrailingZeros64.c
  (try unfold bits_TrailingZeros64.c0)
  simp only [tzi, tzi', tzj, cond_true]
  simp only [cbe, and_low_bit hx h0 h, tz0]
  rw [if_neg (by omega)]
  congr 1
  have e : (0 + (IntKind.u64.wrap (2 ^ j * 285870213051353865) / 288230376151711744).toNat * 1) = (2 ^ j * 285870213051353865 % 18446744073709551616) / 288230376151711744 := by
    rw [wu_eq]
    have : ((2 : Int) ^ j * 285870213051353865) = ((2 ^ j * 285870213051353865 : Nat) : Int) := by rw [Int.natCast_mul, Int.natCast_pow]; rfl
    rw [this]
    omega
  rw [e]
  have t := table_s ⟨j, hj.1⟩
  simp only at t
  rw [t, wi_id (by omega) (by omega)]
theorem trail_s {x : Int} {j : Nat} (hx : U64 x) (h0 : 0 < x) (h : Tz x j) : bits_TrailingZeros64 x = (j : Int) := trail_k _ _ hx h0 h
open Go Go.Wk
theorem noughts_s {x : Int} {j : Nat} (hx : D x) (h0 : 0 < x) (h : Tz x j) : wide_noughts (x / 18446744073709551616) (x % 18446744073709551616) = (j : Int) := by
  unfold D at hx
  unfold wide_noughts wide_noughts.c
  (try unfold wide_noughts.c0)
  simp only [cbn, id]
  by_cases g : x % 18446744073709551616 = 0
  · rw [if_pos g]
    have hq : 0 < x / 18446744073709551616 := by omega
    have hqU : U64 (x / 18446744073709551616) := by unfold U64; omega
    obtain ⟨i, hi⟩ := Tz.ex hq
    have e : j = 64 + i := by
      refine h.uniq ?_
      obtain ⟨o, e, ho⟩ := hi
      refine ⟨o, ?_, ho⟩
      rw [Int.pow_add, Int.mul_assoc, ← e, show (2 : Int) ^ 64 = 18446744073709551616 by decide]; omega
    have hlt := hi.lt hq (w := 64) (by have := hqU.2; exact this)
    rw [trail_s hqU hq hi, e, wi_id (by omega) (by omega)]
    push_cast; rfl
  · rw [if_neg g]
    have hq : 0 < x % 18446744073709551616 := by omega
    have hqU : U64 (x % 18446744073709551616) := by unfold U64; omega
    obtain ⟨i, hi⟩ := Tz.ex hq
    have hlt := hi.lt hq (w := 64) (by have := hqU.2; exact this)
    have e : j = i := by
      refine h.uniq ?_
      obtain ⟨o, e, ho⟩ := hi
      refine ⟨2 ^ (64 - i) * (x / 18446744073709551616) + o, ?_, ?_⟩
      · rw [Int.mul_add, ← e, ← Int.mul_assoc, ← Int.pow_add, show i + (64 - i) = 64 by omega, show (2 : Int) ^ 64 = 18446744073709551616 by decide]; omega
      · rw [show 64 - i = (63 - i) + 1 by omega, Int.pow_succ, Int.mul_comm (2 ^ _) 2, Int.mul_assoc]; omega
    rw [trail_s hqU hq hi, e]
theorem or_comm2 (a b : Int) : orI .u64 a b = orI .u64 b a := by rw [orU, orU, Nat.or_comm]
theorem or_two {a b : Int} {s : Nat} (ha : 0 ≤ a) (hb : 0 ≤ b) (hb2 : b < 2 ^ s) (h : a * 2 ^ s < 18446744073709551616) (hs : s ≤ 64) : orI .u64 (a * 2 ^ s) b = a * 2 ^ s + b := by
  have := or_sum a.toNat b.toNat s (by
    have h2 : ((b.toNat : Nat) : Int) < ((2 ^ s : Nat) : Int) := by push_cast; omega
    exact_mod_cast h2) (by
    have h2 : ((a.toNat * 2 ^ s : Nat) : Int) < ((2 ^ 64 : Nat) : Int) := by rw [Int.natCast_mul, Int.natCast_pow, show ((a.toNat : Nat) : Int) = a by omega]; exact Int.lt_of_lt_of_le h (by decide)
    exact_mod_cast h2) hs
  rwa [show ((a.toNat : Nat) : Int) = a by omega, show ((b.toNat : Nat) : Int) = b by omega] at this
theorem two_pows {n : Nat} (h : n ≤ 64) : (2 : Int) ^ n * 2 ^ (64 - n) = 18446744073709551616 := by rw [← Int.pow_add, show n + (64 - n) = 64 by omega]; rfl
theorem down_k {γ : Type} (n : γ) (k : Int × Int → γ) {x : Int} {s : Nat} (hx : D x) (hs : s < 128) : wide_down.c n k (x / 18446744073709551616) (x % 18446744073709551616) (s : Int) = k (x / 2 ^ s / 18446744073709551616, x / 2 ^ s % 18446744073709551616) := by
  unfold D at hx
  unfold wide_down.c
  (try unfold wide_down.c0)
  simp only [Bool.cond_decide, cbd]
  by_cases h : (s : Int) ≥ 64
  · have e1 : IntKind.i64.wrap ((s : Int) - 64) = ((s - 64 : Nat) : Int) := by rw [wi_id (by omega) (by omega)]; omega
    rw [if_pos h, e1, if_neg (by omega), Int.toNat_natCast, shr_k _ (by omega)]
    have e2 : (2 : Int) ^ s = 18446744073709551616 * 2 ^ (s - 64) := by
      conv => lhs; rw [show s = 64 + (s - 64) by omega, Int.pow_add]
      rfl
    have e3 : x / 2 ^ s = x / 18446744073709551616 / 2 ^ (s - 64) := by rw [e2, Int.ediv_ediv_of_nonneg (by decide)]
    have hp : (0 : Int) < 2 ^ (s - 64) := Int.pow_pos (by decide)
    have h1 := Int.ediv_nonneg (show 0 ≤ x / 18446744073709551616 by omega) (Int.le_of_lt hp)
    have h2 := Int.ediv_le_self (2 ^ (s - 64)) (show 0 ≤ x / 18446744073709551616 by omega)
    rw [e3]
    congr 1
    simp only [Prod.mk.injEq]
    omega
  · have e1 : IntKind.i64.wrap (64 - (s : Int)) = ((64 - s : Nat) : Int) := by rw [wi_id (by omega) (by omega)]; omega
    have w3 : min (64 - s) IntKind.u64.bits = 64 - s := by have : IntKind.u64.bits = 64 := rfl; rw [this]; omega
    rw [if_neg h, if_neg (by omega), if_neg (by omega), e1, if_neg (by omega), Int.toNat_natCast, Int.toNat_natCast, shr_k _ (by omega), shr_k _ (by omega), w3]
    have hpq := two_pows (n := s) (by omega)
    have hp : (0 : Int) < 2 ^ s := Int.pow_pos (by decide)
    have hq : (0 : Int) < 2 ^ (64 - s) := Int.pow_pos (by decide)
    generalize hH : x / 18446744073709551616 = H
    generalize hL : x % 18446744073709551616 = L
    have hx' : x = H * 18446744073709551616 + L := by omega
    have hh := Int.emod_add_mul_ediv H (2 ^ s)
    have hm0 := Int.emod_nonneg H (show (2 : Int) ^ s ≠ 0 by omega)
    have hm1 := Int.emod_lt_of_pos H hp
    have l0 := Int.ediv_nonneg (show 0 ≤ L by omega) (Int.le_of_lt hp)
    have l1 : L / 2 ^ s < 2 ^ (64 - s) := Int.ediv_lt_of_lt_mul hp (by rw [Int.mul_comm, hpq]; omega)
    have z0 : 0 ≤ H % 2 ^ s * 2 ^ (64 - s) := Int.mul_nonneg hm0 (Int.le_of_lt hq)
    have z1 : H % 2 ^ s * 2 ^ (64 - s) + 2 ^ (64 - s) ≤ 18446744073709551616 := by
      have := Int.mul_le_mul_of_nonneg_right (show H % 2 ^ s + 1 ≤ 2 ^ s by omega) (Int.le_of_lt hq)
      rw [hpq, Int.add_mul, Int.one_mul] at this
      exact this
    have hHs : H * 2 ^ (64 - s) = H / 2 ^ s * 18446744073709551616 + H % 2 ^ s * 2 ^ (64 - s) := by
      conv => lhs; rw [← hh]
      rw [Int.add_mul, ← hpq]
      have : 2 ^ s * (H / 2 ^ s) * 2 ^ (64 - s) = H / 2 ^ s * ((2 : Int) ^ s * 2 ^ (64 - s)) := by
        rw [Int.mul_comm (2 ^ s) (H / 2 ^ s), Int.mul_assoc]
      omega
    have hd : x / 2 ^ s = H / 2 ^ s * 18446744073709551616 + (H % 2 ^ s * 2 ^ (64 - s) + L / 2 ^ s) := by
      have : x = L + 2 ^ s * (H * 2 ^ (64 - s)) := by
        have : 2 ^ s * (H * 2 ^ (64 - s)) = H * 18446744073709551616 := by rw [Int.mul_left_comm, hpq]
        omega
      rw [this, Int.add_mul_ediv_left _ _ (by omega), hHs]; omega
    have hw : IntKind.u64.wrap (H * 2 ^ (64 - s)) = H % 2 ^ s * 2 ^ (64 - s) := by rw [hHs, wu_eq]; omega
    rw [hw, or_comm2, or_two hm0 l0 l1 (by omega) (by omega), hd]
    congr 1
    simp only [Prod.mk.injEq]
    omega
theorem down_ok {x : Int} {s : Nat} (hx : D x) (hs : s < 128) : wide_down.ok (x / 18446744073709551616) (x % 18446744073709551616) (s : Int) = true := down_k _ _ hx hs
theorem down_s {x : Int} {s : Nat} (hx : D x) (hs : s < 128) : wide_down (x / 18446744073709551616) (x % 18446744073709551616) (s : Int) = (x / 2 ^ s / 18446744073709551616, x / 2 ^ s % 18446744073709551616) := down_k _ _ hx hs
theorem up_k {γ : Type} (n : γ) (k : Int × Int → γ) {x : Int} {s : Nat} (hx : D x) (hs : s < 128) (h2 : D (x * 2 ^ s)) : wide_up.c n k (x / 18446744073709551616) (x % 18446744073709551616) (s : Int) = k (x * 2 ^ s / 18446744073709551616, x * 2 ^ s % 18446744073709551616) := by
  unfold D at hx h2
  unfold wide_up.c
  (try unfold wide_up.c0)
  simp only [Bool.cond_decide, cbd]
  by_cases h : (s : Int) ≥ 64
  · have e1 : IntKind.i64.wrap ((s : Int) - 64) = ((s - 64 : Nat) : Int) := by rw [wi_id (by omega) (by omega)]; omega
    have w3 : min (s - 64) IntKind.u64.bits = s - 64 := by have : IntKind.u64.bits = 64 := rfl; rw [this]; omega
    rw [if_pos h, e1, if_neg (by omega), Int.toNat_natCast, w3]
    have e2 : (2 : Int) ^ s = 2 ^ (s - 64) * 18446744073709551616 := by
      conv => lhs; rw [show s = (s - 64) + 64 by omega, Int.pow_add]
      rfl
    rw [e2, ← Int.mul_assoc] at h2 ⊢
    have hp : (0 : Int) < 2 ^ (s - 64) := Int.pow_pos (by decide)
    have h1 : x * 1 ≤ x * 2 ^ (s - 64) := Int.mul_le_mul_of_nonneg_left (by omega) hx.1
    have e3 : x % 18446744073709551616 = x := by omega
    rw [e3, wu_id (by omega) (by omega)]
    congr 1
    simp only [Prod.mk.injEq]
    omega
  · have e1 : IntKind.i64.wrap (64 - (s : Int)) = ((64 - s : Nat) : Int) := by rw [wi_id (by omega) (by omega)]; omega
    have w3 : min s IntKind.u64.bits = s := by have : IntKind.u64.bits = 64 := rfl; rw [this]; omega
    rw [if_neg h, if_neg (by omega), e1, if_neg (by omega), Int.toNat_natCast, Int.toNat_natCast, shr_k _ (by omega), w3]
    have hpq := two_pows (n := s) (by omega)
    have hp : (0 : Int) < 2 ^ s := Int.pow_pos (by decide)
    have hq : (0 : Int) < 2 ^ (64 - s) := Int.pow_pos (by decide)
    generalize hH : x / 18446744073709551616 = H
    generalize hL : x % 18446744073709551616 = L
    have hx' : x = H * 18446744073709551616 + L := by omega
    have hxs : x * 2 ^ s = H * 2 ^ s * 18446744073709551616 + L * 2 ^ s := by
      rw [hx', Int.add_mul]
      have : H * 18446744073709551616 * 2 ^ s = H * 2 ^ s * 18446744073709551616 := by rw [Int.mul_assoc, Int.mul_comm 18446744073709551616, ← Int.mul_assoc]
      omega
    have hh := Int.emod_add_mul_ediv L (2 ^ (64 - s))
    have hm0 := Int.emod_nonneg L (show (2 : Int) ^ (64 - s) ≠ 0 by omega)
    have hm1 := Int.emod_lt_of_pos L hq
    have l0 := Int.ediv_nonneg (show 0 ≤ L by omega) (Int.le_of_lt hq)
    have l1 : L / 2 ^ (64 - s) < 2 ^ s := Int.ediv_lt_of_lt_mul hq (by rw [hpq]; omega)
    have hLs : L * 2 ^ s = L / 2 ^ (64 - s) * 18446744073709551616 + L % 2 ^ (64 - s) * 2 ^ s := by
      conv => lhs; rw [← hh]
      rw [Int.add_mul, ← hpq]
      have : 2 ^ (64 - s) * (L / 2 ^ (64 - s)) * 2 ^ s = L / 2 ^ (64 - s) * ((2 : Int) ^ s * 2 ^ (64 - s)) := by
        rw [Int.mul_comm (2 ^ (64 - s)) (L / 2 ^ (64 - s)), Int.mul_assoc, Int.mul_comm (2 ^ (64 - s)) (2 ^ s)]
      omega
    have z0 : 0 ≤ L % 2 ^ (64 - s) * 2 ^ s := Int.mul_nonneg hm0 (Int.le_of_lt hp)
    have z1 : L % 2 ^ (64 - s) * 2 ^ s < 18446744073709551616 := by
      have := Int.mul_lt_mul_of_pos_right hm1 hp
      rw [Int.mul_comm (2 ^ (64 - s)), hpq] at this
      exact this
    have hH0 : 0 ≤ H * 2 ^ s := Int.mul_nonneg (by omega) (Int.le_of_lt hp)
    rw [hxs, hLs] at h2
    have hH1 : H * 2 ^ s < 18446744073709551616 := by omega
    rw [wu_id hH0 hH1, or_two (by omega) l0 l1 hH1 (by omega), hxs]
    have e8 : IntKind.u64.wrap (L * 2 ^ s) = L % 2 ^ (64 - s) * 2 ^ s := by rw [hLs, wu_eq]; omega
    have e9 : (H * 2 ^ s * 18446744073709551616 + L * 2 ^ s) / 18446744073709551616 = H * 2 ^ s + L / 2 ^ (64 - s) := by omega
    have e10 : (H * 2 ^ s * 18446744073709551616 + L * 2 ^ s) % 18446744073709551616 = L % 2 ^ (64 - s) * 2 ^ s := by omega
    rw [e8, e9, e10, if_neg (by omega)]
theorem up_ok {x : Int} {s : Nat} (hx : D x) (hs : s < 128) (h2 : D (x * 2 ^ s)) : wide_up.ok (x / 18446744073709551616) (x % 18446744073709551616) (s : Int) = true := up_k _ _ hx hs h2
theorem wup_s {x : Int} {s : Nat} (hx : D x) (hs : s < 128) (h2 : D (x * 2 ^ s)) : wide_up (x / 18446744073709551616) (x % 18446744073709551616) (s : Int) = (x * 2 ^ s / 18446744073709551616, x * 2 ^ s % 18446744073709551616) := up_k _ _ hx hs h2
theorem below_s {x y : Int} (hx : D x) (hy : D y) : wide_below (x / 18446744073709551616) (x % 18446744073709551616) (y / 18446744073709551616) (y % 18446744073709551616) = decide (x < y) := less_s hx hy
theorem wless_s {x y : Int} (hx : D x) (hy : D y) (h : y ≤ x) : wide_less (x / 18446744073709551616) (x % 18446744073709551616) (y / 18446744073709551616) (y % 18446744073709551616) = ((x - y) / 18446744073709551616, (x - y) % 18446744073709551616) := by
  unfold D at hx hy
  unfold wide_less wide_less.c
  (try unfold wide_less.c0)
  simp only [id]
  rw [sub64_s (by unfold U64; omega) (by unfold U64; omega)]
  simp only [wu_eq, Prod.mk.injEq]
  constructor
  · split <;> omega
  · omega
theorem odd_cop {a : Int} (h : a % 2 = 1) (ha : 0 ≤ a) (j : Nat) : Nat.Coprime (2 ^ j) a.toNat := by
  apply Nat.Coprime.pow_left
  have h1 := Nat.gcd_dvd_left 2 a.toNat
  have h2 := Nat.gcd_dvd_right 2 a.toNat
  have h3 := Nat.le_of_dvd (by decide) h1
  have h4 : 0 < Nat.gcd 2 a.toNat := Nat.gcd_pos_of_pos_left _ (by decide)
  unfold Nat.Coprime
  rcases (show Nat.gcd 2 a.toNat = 1 ∨ Nat.gcd 2 a.toNat = 2 by omega) with e | e
  · exact e
  · rw [e] at h2
    omega
theorem toNat_pow {y : Int} (hy : 0 ≤ y) (j : Nat) : (2 ^ j * y).toNat = 2 ^ j * y.toNat := by
  have : (2 : Int) ^ j * y = ((2 ^ j * y.toNat : Nat) : Int) := by
    rw [Int.natCast_mul, Int.natCast_pow, show ((y.toNat : Nat) : Int) = y by omega]; rfl
  rw [this, Int.toNat_natCast]
theorem gg_odd {a y : Int} (h : a % 2 = 1) (ha : 0 ≤ a) (hy : 0 ≤ y) (j : Nat) : gg a (2 ^ j * y) = gg a y := by
  unfold gg
  rw [toNat_pow hy, Nat.Coprime.gcd_mul_left_cancel_right _ (odd_cop h ha j)]
theorem gg_pow {x y : Int} (hx : 0 ≤ x) (hy : 0 ≤ y) (j : Nat) : gg (2 ^ j * x) (2 ^ j * y) = 2 ^ j * gg x y := by
  unfold gg
  rw [toNat_pow hx, toNat_pow hy, Nat.gcd_mul_left]
  push_cast; rfl
theorem gg_sub {a b : Int} (ha : 0 ≤ a) (h : a ≤ b) : gg a (b - a) = gg a b := gg_congr ha (by omega) (by omega) (.inl ⟨-1, by omega⟩)
theorem Tz.div {x : Int} {j : Nat} (h : Tz x j) : x = 2 ^ j * (x / 2 ^ j) ∧ x / 2 ^ j % 2 = 1 := by
  obtain ⟨o, e, ho⟩ := h
  have hp : (0 : Int) < 2 ^ j := Int.pow_pos (by decide)
  have : x / 2 ^ j = o := by rw [e, Int.mul_ediv_cancel_left _ (by omega)]
  rw [this]; exact ⟨e, ho⟩
theorem common_L (N : Nat) (t : Nat) (ht : t < 128) : ∀ (m : Nat) (a b c0 c1 : Int), D a → D b → a % 2 = 1 → a + b < m → D (gg a b * 2 ^ t) →
    cong_common.L0 N m ((t : Int), a / 18446744073709551616, a % 18446744073709551616, b / 18446744073709551616, b % 18446744073709551616, c0, c1) = some (gg a b * 2 ^ t / 18446744073709551616, gg a b * 2 ^ t % 18446744073709551616)
  | 0, a, b, _, _, ha, hb, ho, hm, hd => by unfold D at ha hb; omega
  | m + 1, a, b, c0, c1, ha, hb, ho, hm, hd => by
    unfold cong_common.L0 cong_common.l0.c
    (try unfold cong_common.l0.c0)
    (try simp only)
    rw [zero2 hb]
    by_cases h : b = 0
    · subst h
      rw [gg_zero ha.1] at hd ⊢
      rw [up_ok ha ht hd, wup_s ha ht hd]
      rfl
    · have hb0 : 0 < b := by unfold D at hb; omega
      obtain ⟨j, hj⟩ := Tz.ex hb0
      obtain ⟨e1, e2⟩ := hj.div
      have hj128 := (hj.lt hb0 (w := 128) (by unfold D at hb; exact hb.2)).1
      have hp : (0 : Int) < 2 ^ j := Int.pow_pos (by decide)
      have hb' : D (b / 2 ^ j) := ediv_D hb hp
      have hle : b / 2 ^ j ≤ b := Int.ediv_le_self _ hb.1
      rw [noughts_s hb hb0 hj, down_ok hb hj128, down_s hb hj128, decide_eq_false h]
      simp only [Bool.not_false, cond_true]
      rw [below_s hb' ha]
      have gb : gg a b = gg a (b / 2 ^ j) := by
        conv => lhs; rw [e1]
        exact gg_odd ho ha.1 hb'.1 j
      rw [gb] at hd ⊢
      generalize b / 2 ^ j = y at *
      have hy := hb'.1
      by_cases g : y < a
      · rw [decide_eq_true g]
        simp only [cond_true]
        rw [wless_s ha hb' (by omega)]
        have e3 : gg a y = gg y (a - y) := by rw [gg_sub hy (by omega), gg_comm]
        rw [e3] at hd ⊢
        exact common_L N t ht m y (a - y) c0 c1 hb' (by unfold D at *; omega) e2 (by omega) hd
      · rw [decide_eq_false g]
        simp only [cond_false]
        rw [wless_s hb' ha (by omega)]
        have e3 : gg a y = gg a (y - a) := (gg_sub ha.1 (by omega)).symm
        rw [e3] at hd ⊢
        have := ha.1
        exact common_L N t ht m a (y - a) c0 c1 ha (by unfold D at *; omega) ho (by omega) hd
theorem common_o (F : Nat) {a b : Int} (ha : D a) (hb : D b) (hF : a + b < F) : cong_common.o F (a / 18446744073709551616) (a % 18446744073709551616) (b / 18446744073709551616) (b % 18446744073709551616) = some (gg a b / 18446744073709551616, gg a b % 18446744073709551616) := by
  have z2 : ∀ {g : Int}, D g → (0 == g / 18446744073709551616 && (0 == g % 18446744073709551616 && true)) = decide (g = 0) := by
    intro g hg
    unfold D at hg
    rw [Bool.eq_iff_iff]
    simp only [Bool.and_true, Bool.and_eq_true, beq_iff_eq, decide_eq_true_eq]
    omega
  unfold cong_common.o cong_common.c
  (try unfold cong_common.c0)
  simp only [z2 ha, z2 hb]
  by_cases h : a = 0
  · subst h
    rw [gg0 hb.1]; rfl
  · by_cases h' : b = 0
    · subst h'
      rw [decide_eq_false h, gg_zero ha.1]; rfl
    · have ha0 : 0 < a := by unfold D at ha; omega
      have hb0 : 0 < b := by unfold D at hb; omega
      obtain ⟨i, hi⟩ := Tz.ex ha0
      obtain ⟨j, hj⟩ := Tz.ex hb0
      have hi128 := (hi.lt ha0 (w := 128) (by unfold D at ha; exact ha.2)).1
      have hj128 := (hj.lt hb0 (w := 128) (by unfold D at hb; exact hb.2)).1
      obtain ⟨a1, a2⟩ := hi.div
      obtain ⟨b1, b2⟩ := hj.div
      have hpi : (0 : Int) < 2 ^ i := Int.pow_pos (by decide)
      have hpj : (0 : Int) < 2 ^ j := Int.pow_pos (by decide)
      have ha' : D (a / 2 ^ i) := ediv_D ha hpi
      have hb' : D (b / 2 ^ j) := ediv_D hb hpj
      have hle : a / 2 ^ i ≤ a := Int.ediv_le_self _ ha.1
      rw [decide_eq_false h, decide_eq_false h', noughts_s ha ha0 hi, noughts_s hb hb0 hj, down_ok ha hi128, down_s ha hi128]
      simp only [cond_false, cond_true]
      have et : (if (j : Int) < i then (j : Int) else i) = ((min i j : Nat) : Int) := by split <;> omega
      rw [et]
      have key : gg (a / 2 ^ i) b * 2 ^ min i j = gg a b := by
        have c1 : gg (a / 2 ^ i) b = gg (a / 2 ^ i) (b / 2 ^ j) := by
          conv => lhs; rw [b1]
          exact gg_odd a2 ha'.1 hb'.1 j
        rw [c1]
        generalize a / 2 ^ i = x at *
        generalize b / 2 ^ j = y at *
        rw [a1, b1]
        rcases Nat.le_total i j with g | g
        · have e : (2 : Int) ^ j = 2 ^ i * 2 ^ (j - i) := by rw [← Int.pow_add]; congr 1; omega
          rw [Nat.min_eq_left g, e, Int.mul_assoc, gg_pow ha'.1 (Int.mul_nonneg (Int.le_of_lt (Int.pow_pos (by decide))) hb'.1), gg_odd a2 ha'.1 hb'.1, Int.mul_comm]
        · have e : (2 : Int) ^ i = 2 ^ j * 2 ^ (i - j) := by rw [← Int.pow_add]; congr 1; omega
          rw [Nat.min_eq_right g, e, Int.mul_assoc, gg_pow (Int.mul_nonneg (Int.le_of_lt (Int.pow_pos (by decide))) ha'.1) hb'.1, gg_comm (2 ^ (i - j) * x) y, gg_odd b2 hb'.1 ha'.1, Int.mul_comm, gg_comm y x]
      have hd : D (gg (a / 2 ^ i) b * 2 ^ min i j) := by rw [key]; exact gg_D ha hb
      rw [common_L F (min i j) (by omega) F (a / 2 ^ i) b 0 0 ha' hb a2 (by omega) hd, key]
theorem fuel4 {a b : Int} (ha : D a) (hb : D b) : a + b < (((a / 18446744073709551616).toNat * 18446744073709551616 + (a % 18446744073709551616).toNat + (b / 18446744073709551616).toNat * 18446744073709551616 + (b % 18446744073709551616).toNat + 2 : Nat) : Int) := by
  unfold D at ha hb
  have e1 : (((b / 18446744073709551616).toNat : Nat) : Int) = b / 18446744073709551616 := Int.toNat_of_nonneg (by omega)
  have e2 : (((b % 18446744073709551616).toNat : Nat) : Int) = b % 18446744073709551616 := Int.toNat_of_nonneg (by omega)
  have e3 : (((a / 18446744073709551616).toNat : Nat) : Int) = a / 18446744073709551616 := Int.toNat_of_nonneg (by omega)
  have e4 : (((a % 18446744073709551616).toNat : Nat) : Int) = a % 18446744073709551616 := Int.toNat_of_nonneg (by omega)
  rw [Int.natCast_add, Int.natCast_add, Int.natCast_add, Int.natCast_add, Int.natCast_mul, Int.natCast_mul, e1, e2, e3, e4, show ((18446744073709551616 : Nat) : Int) = 18446744073709551616 from rfl, show ((2 : Nat) : Int) = 2 from rfl]
  omega
theorem common_g {a b : Int} (ha : D a) (hb : D b) : cong_common.g (a / 18446744073709551616) (a % 18446744073709551616) (b / 18446744073709551616) (b % 18446744073709551616) = true := by
  unfold cong_common.g; rw [hide_eq, common_o _ ha hb (fuel4 ha hb)]; rfl
theorem common_s {a b : Int} (ha : D a) (hb : D b) : cong_common (a / 18446744073709551616) (a % 18446744073709551616) (b / 18446744073709551616) (b % 18446744073709551616) = (gg a b / 18446744073709551616, gg a b % 18446744073709551616) := by
  unfold cong_common; rw [hide_eq, common_o _ ha hb (fuel4 ha hb)]; rfl
open Go Go.Wk
/-- how many noughts a number ends in -/
noncomputable def tzn (x : Int) : Nat := if h : 0 < x then Classical.choose (Tz.ex h) else 0
theorem tzn_s {x : Int} (h : 0 < x) : Tz x (tzn x) := by unfold tzn; rw [dif_pos h]; exact Classical.choose_spec (Tz.ex h)
theorem tzn_of {x : Int} {j : Nat} (h0 : 0 < x) (h : Tz x j) : tzn x = j := (tzn_s h0).uniq h
/-- the greatest power of two that divides a number, at most 2^63 -/
noncomputable def tw (g : Int) : Int := 2 ^ min 63 (tzn g)
theorem tw_b (g : Int) : 1 ≤ tw g ∧ tw g ≤ 9223372036854775808 := by
  unfold tw
  have h1 : (1 : Nat) ≤ 2 ^ min 63 (tzn g) := Nat.two_pow_pos _
  have h2 : (2 : Nat) ^ min 63 (tzn g) ≤ 2 ^ 63 := Nat.pow_le_pow_right (by decide) (by omega)
  have this : ((2 : Nat) ^ 63 : Nat) = 9223372036854775808 := by decide
  rw [this] at h2
  have e : (2 : Int) ^ min 63 (tzn g) = ((2 ^ min 63 (tzn g) : Nat) : Int) := by rw [Int.natCast_pow]; rfl
  rw [e]
  omega
theorem tw_U (g : Int) : U64 (tw g) ∧ tw g ≠ 0 := by have := tw_b g; unfold U64; omega
theorem two_s {g : Int} (hg : U64 g) (h0 : g ≠ 0) : cong_two g = tw g := by
  have hp : 0 < g := by unfold U64 at hg; omega
  have ht := tzn_s hp
  have hlt := ht.lt hp (w := 64) (by have := hg.2; exact this)
  unfold cong_two cong_two.c
  (try unfold cong_two.c0)
  simp only [cbe, id]
  rw [if_neg h0, even_s hg hp ht]
  unfold tw
  congr 1; omega
theorem Two_L (N : Nat) {g : Int} (hg : D g) (h0 : 0 < g) : ∀ (n i m : Nat), i + n = 63 → (2 : Int) ^ i ∣ g → n < m → ref_Two.L0 N m ((i : Int), g / 18446744073709551616, g % 18446744073709551616) = some (tw g)
  | n, i, 0, _, _, h => by omega
  | 0, i, m + 1, hi, hd, hm => by
    unfold ref_Two.L0 ref_Two.l0.c
    (try unfold ref_Two.l0.c0)
    simp only [Bool.cond_decide]
    rw [if_neg (by omega)]
    have e : i = 63 := by omega
    subst e
    obtain ⟨q, hq⟩ := hd
    have hq0 : 0 < q := by omega
    obtain ⟨j, o, hj, ho⟩ := Tz.ex hq0
    have : tzn g = 63 + j := tzn_of h0 ⟨o, by rw [hq, hj, ← Int.mul_assoc, ← Int.pow_add], ho⟩
    unfold tw
    rw [this, show min 63 (63 + j) = 63 by omega]
    rfl
  | n + 1, i, m + 1, hi, hd, hm => by
    have hp : (0 : Int) < 2 ^ i := Int.pow_pos (by decide)
    obtain ⟨q, hq⟩ := hd
    have e : g / 2 ^ i = q := by rw [hq, Int.mul_ediv_cancel_left _ (by omega)]
    have ei : IntKind.i64.wrap ((i : Int) + 1) = ((i + 1 : Nat) : Int) := by rw [wi_id (by omega) (by omega)]; omega
    unfold ref_Two.L0 ref_Two.l0.c
    (try unfold ref_Two.l0.c0)
    unfold ref_bitOf.ok ref_bitOf
    simp only [Bool.cond_decide, bit_k _ _ hg i (by omega), e, id, cbe, cbd, cond_true, ei]
    rw [if_pos (by omega)]
    have w3 : min i IntKind.u64.bits = i := by have : IntKind.u64.bits = 64 := rfl; rw [this]; omega
    by_cases h : q % 2 = 1
    · rw [if_pos h, if_neg (by omega), Int.toNat_natCast, w3]
      have : tzn g = i := tzn_of h0 ⟨q, hq, h⟩
      unfold tw
      rw [this, show min 63 i = i by omega, Int.one_mul]
      have h2 : (2 : Nat) ^ i ≤ 2 ^ 63 := Nat.pow_le_pow_right (by decide) (by omega)
      have h3 : (2 : Int) ^ i ≤ 9223372036854775808 := by
        have e63 : ((2 : Nat) ^ 63 : Nat) = 9223372036854775808 := by decide
        rw [e63] at h2
        have e : (2 : Int) ^ i = ((2 ^ i : Nat) : Int) := by rw [Int.natCast_pow]; rfl
        rw [e]; omega
      rw [wu_id (by omega) (by omega)]
    · rw [if_neg h]
      refine Two_L N hg h0 n (i + 1) m (by omega) ⟨q / 2, ?_⟩ (by omega)
      rw [Int.pow_succ, Int.mul_assoc, show 2 * (q / 2) = q by omega]; exact hq
theorem Two_o {g : Int} (hg : D g) (h0 : 0 < g) : ref_Two.o 66 (g / 18446744073709551616) (g % 18446744073709551616) = some (tw g) := by
  unfold ref_Two.o ref_Two.c
  exact Two_L 66 hg h0 63 0 66 (by decide) ⟨g, by simp⟩ (by decide)
theorem Two_g {g : Int} (hg : D g) (h0 : 0 < g) : ref_Two.g (g / 18446744073709551616) (g % 18446744073709551616) = true := by unfold ref_Two.g; rw [hide_eq, Two_o hg h0]; rfl
theorem Two_s {g : Int} (hg : D g) (h0 : 0 < g) : ref_Two (g / 18446744073709551616) (g % 18446744073709551616) = tw g := by unfold ref_Two; rw [hide_eq, Two_o hg h0]; rfl
/-- the modulus of an answer -/
noncomputable def bm (g : Int) (e : Bool) : Int := if e = true ∧ g < 18446744073709551616 then g else tw g
theorem bm_f (g : Int) : bm g false = tw g := by unfold bm; rw [if_neg (by simp)]
theorem bm_t {g : Int} (h : g < 18446744073709551616) : bm g true = g := by unfold bm; rw [if_pos ⟨rfl, h⟩]
theorem bm_n {g : Int} (h : ¬ g < 18446744073709551616) : bm g true = tw g := by unfold bm; rw [if_neg (fun x => h x.2)]
theorem bm_U {g : Int} (e : Bool) (h0 : 0 < g) : U64 (bm g e) ∧ bm g e ≠ 0 := by
  unfold bm
  by_cases h : e = true ∧ g < 18446744073709551616
  · rw [if_pos h]; unfold U64; omega
  · rw [if_neg h]; exact tw_U g
def sg (b : Bool) (A : Int) : Int := if b then -A else A
theorem by_k {γ : Type} (n : γ) (k : Int × Int → γ) {A g : Int} (b e : Bool) (hA : D A) (hg : D g) (h0 : 0 < g) : ref_by.c n k (A / 18446744073709551616) (A % 18446744073709551616) b (g / 18446744073709551616) (g % 18446744073709551616) e = k (bm g e, sg b A % bm g e) := by
  have ht := tw_U g
  unfold ref_by.c
  (try unfold ref_by.c0)
  simp only [Two_g hg h0, Two_s hg h0, class_ok b hA ht.1 ht.2, class_s b hA ht.1 ht.2, cbe, cond_true]
  cases e with
  | false => rw [bm_f]; rfl
  | true =>
    unfold D at hg
    simp only [cond_true]
    by_cases h : g < 18446744073709551616
    · have hg' : U64 (g % 18446744073709551616) := by unfold U64; omega
      rw [if_pos (by omega), bm_t h, class_ok b hA hg' (by omega), class_s b hA hg' (by omega), show g % 18446744073709551616 = g by omega]
      rfl
    · rw [if_neg (by omega), bm_n h]; rfl
theorem by_ok {A g : Int} (b e : Bool) (hA : D A) (hg : D g) (h0 : 0 < g) : ref_by.ok (A / 18446744073709551616) (A % 18446744073709551616) b (g / 18446744073709551616) (g % 18446744073709551616) e = true := by_k _ _ b e hA hg h0
theorem by_s {A g : Int} (b e : Bool) (hA : D A) (hg : D g) (h0 : 0 < g) : ref_by (A / 18446744073709551616) (A % 18446744073709551616) b (g / 18446744073709551616) (g % 18446744073709551616) e = (bm g e, sg b A % bm g e) := by_k _ _ b e hA hg h0
theorem sg_av (v : Int) : sg (decide (v < 0)) (av v) = v := sgn v
theorem num_s (m r : Int) : ref_number m r = IntKind.i64.wrap r := by unfold ref_number ref_number.c; (try unfold ref_number.c0); rfl
/-! negation -/
noncomputable def negS (m r : Int) (e : Bool) : Int × Int := if m = 0 then (0, IntKind.u64.wrap (IntKind.i64.wrap (-IntKind.i64.wrap r))) else (bm m e, (-val m r) % bm m e)
theorem wneg_s (a : Int) : word_Neg a = IntKind.i64.wrap (-a) := by
  unfold word_Neg word_Neg.c
  (try unfold word_Neg.c0)
  unfold word_Sub word_Sub.c
  (try unfold word_Sub.c0)
  simp only [id, wu_eq, wi_eq]; omega
theorem wadd_s (a b : Int) : word_Add a b = IntKind.i64.wrap (a + b) := by
  unfold word_Add word_Add.c
  (try unfold word_Add.c0)
  simp only [id, wu_eq, wi_eq]; omega
theorem wsub_s (a b : Int) : word_Sub a b = IntKind.i64.wrap (a - b) := by
  unfold word_Sub word_Sub.c
  (try unfold word_Sub.c0)
  simp only [id, wu_eq, wi_eq]; omega
theorem wmul_s (a b : Int) : word_Mul a b = IntKind.i64.wrap (a * b) := by
  unfold word_Mul word_Mul.c
  (try unfold word_Mul.c0)
  simp only [id, wu_eq, wi_eq]
  have e : (a % 18446744073709551616) * (b % 18446744073709551616) % 18446744073709551616 = a * b % 18446744073709551616 := by rw [← Int.mul_emod]
  rw [e]; omega
theorem bm_two {g : Int} (hg : U64 g) (h0 : g ≠ 0) (e : Bool) : (bif !e then cong_two g else g) = bm g e := by
  have := hg.2
  cases e with
  | true => rw [bm_t this]; rfl
  | false => rw [bm_f, two_s hg h0]; rfl
theorem neg_k {γ : Type} (n : γ) (k : Int × Int → γ) {m r : Int} (e : Bool) (hm : U64 m) (hr : U64 r) : cong_Neg.c n k m r e = k (negS m r e) := by
  unfold cong_Neg.c negS
  (try unfold cong_Neg.c0)
  simp only [norm_s hm hr, alone_s, const_s, wneg_s, cbe, cbd]
  by_cases h : m = 0
  · have en : nr m r = r := by unfold nr; rw [if_pos h]
    rw [if_pos h, if_pos h, en]
  · have hp : 0 < m := by unfold U64 at hm; omega
    have hb := bm_U e hp
    rw [if_neg h, if_neg h, bm_two hm h e, if_neg hb.2, rest_s (nr_U hm hr) hb.1, val_nr]
    have em : md (val m r) (bm m e) = val m r % bm m e := by unfold md; rw [if_neg hb.2]
    have x := emod_U (x := val m r) hb.1 hb.2
    rw [em, minus_s hb.1 (Int.le_refl 0) (by omega) x.1 x.2.1]
    have y := emod_U (x := 0 - val m r % bm m e) hb.1 hb.2
    rw [Int.tmod_eq_emod_of_nonneg y.1, Int.emod_emod, Int.sub_emod, Int.emod_emod, ← Int.sub_emod, Int.zero_sub]
theorem neg_s {m r : Int} (e : Bool) (hm : U64 m) (hr : U64 r) : cong_Neg m r e = negS m r e := neg_k _ _ e hm hr
theorem neg_ok {m r : Int} (e : Bool) (hm : U64 m) (hr : U64 r) : cong_Neg.ok m r e = true := neg_k _ _ e hm hr
theorem neg2_k {γ : Type} (n : γ) (k : Int × Int → γ) {m r : Int} (e : Bool) (hm : U64 m) (hr : U64 r) : ref_Neg.c n k m r e = k (negS m r e) := by
  unfold ref_Neg.c negS
  (try unfold ref_Neg.c0)
  simp only [num_s, const2_s, r_ok hm hr, r_s hm hr, of_u hm, cbe, cond_true, Int.zero_sub]
  by_cases h : m = 0
  · rw [if_pos h, if_pos h]
  · have hp : 0 < m := by unfold U64 at hm; omega
    have hb := bm_U e hp
    rw [if_neg h, if_neg h, by_ok true e (UD (av_val hm hr)) (UD hm) hp, by_s true e (UD (av_val hm hr)) (UD hm) hp]
    have ev : av (val m r) = val m r := by
      have := emod_U (x := r) hm h
      unfold val av; rw [if_neg h, if_neg (by omega)]
    rw [ev]
    rfl
theorem neg2_s {m r : Int} (e : Bool) (hm : U64 m) (hr : U64 r) : ref_Neg m r e = negS m r e := neg2_k _ _ e hm hr
theorem neg2_ok {m r : Int} (e : Bool) (hm : U64 m) (hr : U64 r) : ref_Neg.ok m r e = true := neg2_k _ _ e hm hr
/-! sums and differences -/
noncomputable def addS (a0 a1 b0 b1 : Int) (e : Bool) : Int × Int := if a0 = 0 ∧ b0 = 0 then (0, IntKind.u64.wrap (IntKind.i64.wrap (IntKind.i64.wrap a1 + IntKind.i64.wrap b1))) else (bm (gg a0 b0) e, (val a0 a1 + val b0 b1) % bm (gg a0 b0) e)
noncomputable def subS (a0 a1 b0 b1 : Int) (e : Bool) : Int × Int := if a0 = 0 ∧ b0 = 0 then (0, IntKind.u64.wrap (IntKind.i64.wrap (IntKind.i64.wrap a1 - IntKind.i64.wrap b1))) else (bm (gg a0 b0) e, (val a0 a1 - val b0 b1) % bm (gg a0 b0) e)
theorem add_k {γ : Type} (n : γ) (k : Int × Int → γ) {a0 a1 b0 b1 : Int} (e : Bool) (h1 : U64 a0) (h2 : U64 a1) (h3 : U64 b0) (h4 : U64 b1) : cong_Add.c n k a0 a1 b0 b1 e = k (addS a0 a1 b0 b1 e) := by
  have z : (0 : Int) ≤ 0 := Int.le_refl 0
  unfold cong_Add.c addS
  (try unfold cong_Add.c0)
  simp only [norm_s h1 h2, norm_s h3 h4, alone_s, const_s, wadd_s, gcd_g z h1.1, gcd_s z h1.1, gg0 h1.1, gcd_g h1.1 h3.1, gcd_s h1.1 h3.1, cbe, cond_true]
  by_cases h : a0 = 0 ∧ b0 = 0
  · have e1 : nr a0 a1 = a1 := by unfold nr; rw [if_pos h.1]
    have e2 : nr b0 b1 = b1 := by unfold nr; rw [if_pos h.2]
    rw [if_pos h.1, if_pos h.2, if_pos h, e1, e2]
  · have hg := gg_pos h1.1 h3.1 (by omega)
    have hgU := gg_U h1 h3
    have hb := bm_U e hg
    rw [bm_two hgU (by omega) e, rest_s (nr_U h1 h2) hb.1, rest_s (nr_U h3 h4) hb.1, val_nr, val_nr, if_neg h]
    have em : ∀ x, md x (bm (gg a0 b0) e) = x % bm (gg a0 b0) e := fun x => by unfold md; rw [if_neg hb.2]
    have x := emod_U (x := val a0 a1) hb.1 hb.2
    have y := emod_U (x := val b0 b1) hb.1 hb.2
    rw [em, em, plus_s hb.1 x.1 x.2.1 y.1 y.2.1, ← Int.add_emod]
    by_cases c : a0 = 0
    · rw [if_pos c, if_neg (by omega)]
    · rw [if_neg c]
theorem add_s {a0 a1 b0 b1 : Int} (e : Bool) (h1 : U64 a0) (h2 : U64 a1) (h3 : U64 b0) (h4 : U64 b1) : cong_Add a0 a1 b0 b1 e = addS a0 a1 b0 b1 e := add_k _ _ e h1 h2 h3 h4
theorem add_ok {a0 a1 b0 b1 : Int} (e : Bool) (h1 : U64 a0) (h2 : U64 a1) (h3 : U64 b0) (h4 : U64 b1) : cong_Add.ok a0 a1 b0 b1 e = true := add_k _ _ e h1 h2 h3 h4
theorem sub_k {γ : Type} (n : γ) (k : Int × Int → γ) {a0 a1 b0 b1 : Int} (e : Bool) (h1 : U64 a0) (h2 : U64 a1) (h3 : U64 b0) (h4 : U64 b1) : cong_Sub.c n k a0 a1 b0 b1 e = k (subS a0 a1 b0 b1 e) := by
  have z : (0 : Int) ≤ 0 := Int.le_refl 0
  unfold cong_Sub.c subS
  (try unfold cong_Sub.c0)
  simp only [norm_s h1 h2, norm_s h3 h4, alone_s, const_s, wsub_s, gcd_g z h1.1, gcd_s z h1.1, gg0 h1.1, gcd_g h1.1 h3.1, gcd_s h1.1 h3.1, cbe, cond_true]
  by_cases h : a0 = 0 ∧ b0 = 0
  · have e1 : nr a0 a1 = a1 := by unfold nr; rw [if_pos h.1]
    have e2 : nr b0 b1 = b1 := by unfold nr; rw [if_pos h.2]
    rw [if_pos h.1, if_pos h.2, if_pos h, e1, e2]
  · have hg := gg_pos h1.1 h3.1 (by omega)
    have hgU := gg_U h1 h3
    have hb := bm_U e hg
    rw [bm_two hgU (by omega) e, rest_s (nr_U h1 h2) hb.1, rest_s (nr_U h3 h4) hb.1, val_nr, val_nr, if_neg h]
    have em : ∀ x, md x (bm (gg a0 b0) e) = x % bm (gg a0 b0) e := fun x => by unfold md; rw [if_neg hb.2]
    have x := emod_U (x := val a0 a1) hb.1 hb.2
    have y := emod_U (x := val b0 b1) hb.1 hb.2
    rw [em, em, minus_s hb.1 x.1 x.2.1 y.1 y.2.1, ← Int.sub_emod]
    by_cases c : a0 = 0
    · rw [if_pos c, if_neg (by omega)]
    · rw [if_neg c]
theorem sub_s {a0 a1 b0 b1 : Int} (e : Bool) (h1 : U64 a0) (h2 : U64 a1) (h3 : U64 b0) (h4 : U64 b1) : cong_Sub a0 a1 b0 b1 e = subS a0 a1 b0 b1 e := sub_k _ _ e h1 h2 h3 h4
theorem sub_ok {a0 a1 b0 b1 : Int} (e : Bool) (h1 : U64 a0) (h2 : U64 a1) (h3 : U64 b0) (h4 : U64 b1) : cong_Sub.ok a0 a1 b0 b1 e = true := sub_k _ _ e h1 h2 h3 h4
theorem sum_s {A B : Int} (a b : Bool) (hA : 0 ≤ A ∧ A < 18446744073709551616) (hB : 0 ≤ B ∧ B < 18446744073709551616) : ∃ C c, ref_sum (A / 18446744073709551616) (A % 18446744073709551616) a (B / 18446744073709551616) (B % 18446744073709551616) b = (C / 18446744073709551616, C % 18446744073709551616, c) ∧ D C ∧ sg c C = sg a A + sg b B := by
  have dA : D A := by unfold D; omega
  have dB : D B := by unfold D; omega
  have z : D 0 := by unfold D; omega
  have e0 := minus2_s z dB
  simp only [Int.zero_ediv, Int.zero_emod] at e0
  have hn : D ((0 - B) % 340282366920938463463374607431768211456) := by unfold D; omega
  have e1 : (0 - B) % 18446744073709551616 = (0 - B) % 340282366920938463463374607431768211456 % 18446744073709551616 := by omega
  unfold ref_sum ref_sum.c
  (try unfold ref_sum.c0)
  simp only [less_s dA dB, minus2_s dA dB, minus2_s dB dA, e0, id]
  rw [e1]
  simp only [minus2_s dA hn]
  by_cases h : a = b
  · subst h
    refine ⟨A + B, a, ?_, by unfold D; omega, ?_⟩
    · simp only [beq_self_eq_true, Bool.not_true, cond_false, Prod.mk.injEq, and_true]
      omega
    · unfold sg; cases a <;> simp <;> omega
  · have hb : (!(a == b)) = true := by cases a <;> cases b <;> simp_all
    rw [hb]
    simp only [cond_true, Bool.cond_decide]
    have hab : b = !a := by cases a <;> cases b <;> simp_all
    subst hab
    by_cases g : A < B
    · rw [if_pos g]
      refine ⟨B - A, !a, ?_, by unfold D; omega, ?_⟩
      · simp only [Prod.mk.injEq, and_true]; omega
      · unfold sg; cases a <;> simp <;> omega
    · rw [if_neg g]
      refine ⟨A - B, a, ?_, by unfold D; omega, ?_⟩
      · simp only [Prod.mk.injEq, and_true]; omega
      · unfold sg; cases a <;> simp <;> omega
theorem add2_k {γ : Type} (n : γ) (k : Int × Int → γ) {a0 a1 b0 b1 : Int} (e : Bool) (h1 : U64 a0) (h2 : U64 a1) (h3 : U64 b0) (h4 : U64 b1) : ref_Add.c n k a0 a1 b0 b1 e = k (addS a0 a1 b0 b1 e) := by
  unfold ref_Add.c addS
  (try unfold ref_Add.c0)
  simp only [num_s, const2_s, r_ok h1 h2, r_s h1 h2, r_ok h3 h4, r_s h3 h4, of_u h1, of_u h3, gcd2_g (UD h1) (UD h3), gcd2_s (UD h1) (UD h3), cbe, cond_true]
  by_cases h : a0 = 0 ∧ b0 = 0
  · rw [if_pos h.1, if_pos h.2, if_pos h]
  · have hg := gg_pos h1.1 h3.1 (by omega)
    obtain ⟨C, c, hC, dC, hs⟩ := sum_s (decide (val a0 a1 < 0)) (decide (val b0 b1 < 0)) (av_val h1 h2) (av_val h3 h4)
    rw [sg_av, sg_av] at hs
    simp only [hC, by_ok c e dC (gg_D (UD h1) (UD h3)) hg, by_s c e dC (gg_D (UD h1) (UD h3)) hg, cond_true, hs]
    rw [if_neg h]
    by_cases c : a0 = 0
    · rw [if_pos c, if_neg (by omega)]
    · rw [if_neg c]
theorem add2_s {a0 a1 b0 b1 : Int} (e : Bool) (h1 : U64 a0) (h2 : U64 a1) (h3 : U64 b0) (h4 : U64 b1) : ref_Add a0 a1 b0 b1 e = addS a0 a1 b0 b1 e := add2_k _ _ e h1 h2 h3 h4
theorem add2_ok {a0 a1 b0 b1 : Int} (e : Bool) (h1 : U64 a0) (h2 : U64 a1) (h3 : U64 b0) (h4 : U64 b1) : ref_Add.ok a0 a1 b0 b1 e = true := add2_k _ _ e h1 h2 h3 h4
theorem sub2_k {γ : Type} (n : γ) (k : Int × Int → γ) {a0 a1 b0 b1 : Int} (e : Bool) (h1 : U64 a0) (h2 : U64 a1) (h3 : U64 b0) (h4 : U64 b1) : ref_Sub.c n k a0 a1 b0 b1 e = k (subS a0 a1 b0 b1 e) := by
  unfold ref_Sub.c subS
  (try unfold ref_Sub.c0)
  simp only [num_s, const2_s, r_ok h1 h2, r_s h1 h2, r_ok h3 h4, r_s h3 h4, of_u h1, of_u h3, gcd2_g (UD h1) (UD h3), gcd2_s (UD h1) (UD h3), cbe, cond_true]
  by_cases h : a0 = 0 ∧ b0 = 0
  · rw [if_pos h.1, if_pos h.2, if_pos h]
  · have hg := gg_pos h1.1 h3.1 (by omega)
    obtain ⟨C, c, hC, dC, hs⟩ := sum_s (decide (val a0 a1 < 0)) (!decide (val b0 b1 < 0)) (av_val h1 h2) (av_val h3 h4)
    have hn : sg (!decide (val b0 b1 < 0)) (av (val b0 b1)) = -val b0 b1 := by
      have := sg_av (val b0 b1)
      unfold sg at this ⊢
      cases hd : decide (val b0 b1 < 0) <;> rw [hd] at this <;> simp at this ⊢ <;> omega
    rw [sg_av, hn] at hs
    simp only [hC, by_ok c e dC (gg_D (UD h1) (UD h3)) hg, by_s c e dC (gg_D (UD h1) (UD h3)) hg, cond_true, hs]
    rw [if_neg h, show val a0 a1 + -val b0 b1 = val a0 a1 - val b0 b1 by omega]
    by_cases c : a0 = 0
    · rw [if_pos c, if_neg (by omega)]
    · rw [if_neg c]
theorem sub2_s {a0 a1 b0 b1 : Int} (e : Bool) (h1 : U64 a0) (h2 : U64 a1) (h3 : U64 b0) (h4 : U64 b1) : ref_Sub a0 a1 b0 b1 e = subS a0 a1 b0 b1 e := sub2_k _ _ e h1 h2 h3 h4
theorem sub2_ok {a0 a1 b0 b1 : Int} (e : Bool) (h1 : U64 a0) (h2 : U64 a1) (h3 : U64 b0) (h4 : U64 b1) : ref_Sub.ok a0 a1 b0 b1 e = true := sub2_k _ _ e h1 h2 h3 h4
end Go.Proofs.YtonpbbhlmapbdaaGreatDoor.V.B
