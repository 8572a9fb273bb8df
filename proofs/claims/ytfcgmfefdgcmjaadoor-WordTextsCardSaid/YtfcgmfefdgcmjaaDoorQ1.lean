/- The words of layer 1 as numbers: remainders, common divisors, lowest bits, products. Conditions: none. -/
import Derived.Test.YtfcgmfefdgcmjaaDoorE2
set_option linter.unusedVariables false
set_option linter.unusedSimpArgs false
namespace Go.Proofs.YtfcgmfefdgcmjaaDoor.V
open Go Go.Wk Go.RowKit

theorem shr_k (k : Nat) (hk : k ≤ 64) (x : Int) : x.fdiv (2 ^ min k IntKind.u64.bits) = x / 2 ^ k := by
  have e : IntKind.u64.bits = 64 := rfl
  rw [e, Nat.min_eq_left hk]
  exact Int.fdiv_eq_ediv_of_nonneg _ (Int.le_of_lt (Int.pow_pos (by decide)))
theorem sh32 (x : Int) : x.fdiv (2 ^ min (Int.toNat 32) IntKind.u64.bits) = x / 4294967296 := shr_k 32 (by decide) x
theorem andU (a b : Int) : andI .u64 a b = (((a % 18446744073709551616).toNat &&& (b % 18446744073709551616).toNat : Nat) : Int) := by
  rw [andI_eq, wu_eq]
  have e : IntKind.u64.bits = 64 := rfl
  rw [BitVec.toNat_and, BitVec.toNat_ofInt, BitVec.toNat_ofInt, e]
  have e2 : ((2 ^ 64 : Nat) : Int) = 18446744073709551616 := by decide
  rw [e2]
  have h1 : (a % 18446744073709551616).toNat &&& (b % 18446744073709551616).toNat < 2 ^ 64 := Nat.and_lt_two_pow _ (by omega)
  omega
theorem orU (a b : Int) : orI .u64 a b = (((a % 18446744073709551616).toNat ||| (b % 18446744073709551616).toNat : Nat) : Int) := by
  rw [orI_eq, wu_eq]
  have e : IntKind.u64.bits = 64 := rfl
  rw [BitVec.toNat_or, BitVec.toNat_ofInt, BitVec.toNat_ofInt, e]
  have e2 : ((2 ^ 64 : Nat) : Int) = 18446744073709551616 := by decide
  rw [e2]
  have h1 : (a % 18446744073709551616).toNat ||| (b % 18446744073709551616).toNat < 2 ^ 64 := Nat.or_lt_two_pow (by omega) (by omega)
  omega
theorem and_low (x : Int) : andI .u64 x 4294967295 = x % 4294967296 := by
  rw [andU]
  have e1 : ((4294967295 : Int) % 18446744073709551616).toNat = 2 ^ 32 - 1 := by decide
  rw [e1, Nat.and_two_pow_sub_one_eq_mod]
  omega
theorem and_one (x : Int) : andI .u64 x 1 = x % 2 := by
  rw [andU]
  have e1 : ((1 : Int) % 18446744073709551616).toNat = 2 ^ 1 - 1 := by decide
  rw [e1, Nat.and_two_pow_sub_one_eq_mod]
  omega
theorem mul_bound {x y : Int} (hx : 0 ≤ x) (hx' : x < 4294967296) (hy : 0 ≤ y) (hy' : y < 4294967296) : 0 ≤ x * y ∧ x * y ≤ 18446744065119617025 := by
  have h1 : x.natAbs ≤ 4294967295 := by omega
  have h2 : y.natAbs ≤ 4294967295 := by omega
  have h3 := Nat.mul_le_mul h1 h2
  rw [← Int.natAbs_mul] at h3
  have h4 := Int.mul_nonneg hx hy
  omega
theorem bits_Mul64_s {a b : Int} (ha : U64 a) (hb : U64 b) : bits_Mul64 a b = (a * b / 18446744073709551616, a * b % 18446744073709551616) := by
  unfold U64 at ha hb
  unfold bits_Mul64 bits_Mul64.c bits_Mul64.c0
  simp only [id, sh32, and_low, wu_eq]
  have eab : a * b = (a / 4294967296) * (b / 4294967296) * 18446744073709551616 + ((a / 4294967296) * (b % 4294967296) + (a % 4294967296) * (b / 4294967296)) * 4294967296 + (a % 4294967296) * (b % 4294967296) := by
    conv => lhs; rw [show a = a / 4294967296 * 4294967296 + a % 4294967296 by omega, show b = b / 4294967296 * 4294967296 + b % 4294967296 by omega]
    generalize a / 4294967296 = x1
    generalize a % 4294967296 = x0
    generalize b / 4294967296 = y1
    generalize b % 4294967296 = y0
    simp only [Int.add_mul, Int.mul_add]
    have e1 : x1 * 4294967296 * (y1 * 4294967296) = x1 * y1 * 18446744073709551616 := by
      rw [Int.mul_assoc, Int.mul_left_comm 4294967296, ← Int.mul_assoc x1]; rfl
    have e2 : x1 * 4294967296 * y0 = x1 * y0 * 4294967296 := by rw [Int.mul_assoc, Int.mul_comm 4294967296, ← Int.mul_assoc]
    have e3 : x0 * (y1 * 4294967296) = x0 * y1 * 4294967296 := by rw [← Int.mul_assoc]
    rw [e1, e2, e3]
    omega
  rw [eab]
  have b11 := mul_bound (x := a / 4294967296) (y := b / 4294967296) (by omega) (by omega) (by omega) (by omega)
  have b10 := mul_bound (x := a / 4294967296) (y := b % 4294967296) (by omega) (by omega) (by omega) (by omega)
  have b01 := mul_bound (x := a % 4294967296) (y := b / 4294967296) (by omega) (by omega) (by omega) (by omega)
  have b00 := mul_bound (x := a % 4294967296) (y := b % 4294967296) (by omega) (by omega) (by omega) (by omega)
  revert b11 b10 b01 b00
  generalize (a / 4294967296) * (b / 4294967296) = p11
  generalize (a / 4294967296) * (b % 4294967296) = p10
  generalize (a % 4294967296) * (b / 4294967296) = p01
  generalize (a % 4294967296) * (b % 4294967296) = p00
  intro b11 b10 b01 b00
  simp only [Prod.mk.injEq]
  constructor
  · have q1 : p11 % 18446744073709551616 = p11 := by omega
    have q2 : p10 % 18446744073709551616 = p10 := by omega
    have q3 : p01 % 18446744073709551616 = p01 := by omega
    have q4 : p00 % 18446744073709551616 = p00 := by omega
    simp only [q1, q2, q3, q4]
    have q5 : (p10 + p00 / 4294967296) % 18446744073709551616 = p10 + p00 / 4294967296 := by omega
    simp only [q5]
    omega
  · trivial
theorem cbe {α : Type} (x y : Int) (X Y : α) : (bif x == y then X else Y) = if x = y then X else Y := by
  by_cases h : x = y
  · subst h; simp
  · rw [if_neg h, show (x == y) = false by simpa using h]; rfl
theorem cbn {α : Type} (x y : Int) (X Y : α) : (bif x != y then X else Y) = if x = y then Y else X := by
  by_cases h : x = y
  · subst h; simp
  · rw [if_neg h, show (x != y) = true by simpa using h]; rfl
theorem cbd {α : Type} (p : Prop) [Decidable p] (X Y : α) : (bif !decide p then X else Y) = if p then Y else X := by
  by_cases h : p <;> simp [h]
theorem i64u (x : Int) : I64 (IntKind.i64.wrap x) := ⟨wi_lo x, wi_hi x⟩
theorem u64u (x : Int) : U64 (IntKind.u64.wrap x) := ⟨wu_lo x, wu_hi x⟩
theorem emod_U {x m : Int} (hm : U64 m) (h0 : m ≠ 0) : 0 ≤ x % m ∧ x % m < m ∧ U64 (x % m) := by
  have h1 := Int.emod_nonneg x h0
  unfold U64 at *
  have h2 := Int.emod_lt_of_pos x (show 0 < m by omega)
  exact ⟨h1, h2, h1, by omega⟩
theorem mod_of {v m r q : Int} (h : v = r + m * q) (h0 : 0 ≤ r) (h1 : r < m) : v % m = r := by
  rw [h, Int.add_mul_emod_self_left, Int.emod_eq_of_lt h0 h1]
def md (x m : Int) : Int := if m = 0 then x % 18446744073709551616 else x % m
theorem mod_k {γ : Type} (n : γ) (k : Int → γ) {v m : Int} (hv : I64 v) (hm : U64 m) : word_Mod.c n k v m = k (md v m) := by
  unfold I64 at hv; unfold U64 at hm
  unfold word_Mod.c word_Mod.c0 md
  simp only [cbe, cbd, Bool.cond_decide]
  by_cases h0 : m = 0
  · simp only [if_pos h0, wu_eq]
  · simp only [if_neg h0]
    by_cases h1 : v ≥ 0
    · simp only [if_pos h1]
      rw [wu_id h1 (by omega), Int.tmod_eq_emod_of_nonneg h1]
    · simp only [if_neg h1]
      have e1 : IntKind.i64.wrap (v + 1) = v + 1 := wi_id (by omega) (by omega)
      have e2 : IntKind.i64.wrap (0 - (v + 1)) = 0 - (v + 1) := wi_id (by omega) (by omega)
      have e3 : IntKind.u64.wrap (0 - (v + 1)) = 0 - (v + 1) := wu_id (by omega) (by omega)
      have e4 : IntKind.u64.wrap (m - 1) = m - 1 := wu_id (by omega) (by omega)
      rw [e1, e2, e3, e4, Int.tmod_eq_emod_of_nonneg (by omega)]
      have g1 := Int.emod_nonneg (0 - (v + 1)) h0
      have g2 := Int.emod_lt_of_pos (0 - (v + 1)) (show 0 < m by omega)
      have g3 := Int.emod_add_mul_ediv (0 - (v + 1)) m
      rw [wu_id (by omega) (by omega)]
      rw [mod_of (v := v) (r := m - 1 - (0 - (v + 1)) % m) (q := -((0 - (v + 1)) / m) - 1) (by
        have e : m * (-((0 - (v + 1)) / m) - 1) = -(m * ((0 - (v + 1)) / m)) - m := by rw [Int.mul_sub, Int.mul_neg, Int.mul_one]
        omega) (by omega) (by omega)]
theorem mod_s {v m : Int} (hv : I64 v) (hm : U64 m) : word_Mod v m = md v m := mod_k _ _ hv hm
theorem md_U (x : Int) {m : Int} (hm : U64 m) : U64 (md x m) := by
  unfold md
  by_cases h : m = 0
  · rw [if_pos h]; unfold U64; omega
  · rw [if_neg h]; exact (emod_U hm h).2.2
def gg (a b : Int) : Int := (Nat.gcd a.toNat b.toNat : Int)
theorem gg_step {a b : Int} (ha : 0 ≤ a) (hb : 0 ≤ b) : gg b (a % b) = gg a b := by
  unfold gg
  have : (a % b).toNat = a.toNat % b.toNat := by
    have e : ((a.toNat % b.toNat : Nat) : Int) = a % b := by rw [Int.natCast_emod]; rw [show ((a.toNat : Nat) : Int) = a by omega, show ((b.toNat : Nat) : Int) = b by omega]
    omega
  rw [this, Nat.gcd_comm b.toNat, ← Nat.gcd_rec, Nat.gcd_comm]
theorem gg_zero {a : Int} (ha : 0 ≤ a) : gg a 0 = a := by unfold gg; simp; omega
theorem gcd_L (N : Nat) : ∀ (m : Nat) (a b : Int), 0 ≤ a → 0 ≤ b → b < m → word_Gcd.L0 N m (a, b) = some (gg a b)
  | 0, a, b, ha, hb, hm => by omega
  | m + 1, a, b, ha, hb, hm => by
    unfold word_Gcd.L0 word_Gcd.l0.c
    (try unfold word_Gcd.l0.c0)
    simp only [cbn, cbd]
    by_cases h : b = 0
    · rw [if_pos h, h, gg_zero ha]
    · rw [if_neg h, if_neg h, Int.tmod_eq_emod_of_nonneg ha]
      have h1 := Int.emod_nonneg a h
      have h2 := Int.emod_lt_of_pos a (show 0 < b by omega)
      rw [gcd_L N m b (a % b) hb h1 (by omega), gg_step ha hb]
theorem gcd_o {a b : Int} (ha : 0 ≤ a) (hb : 0 ≤ b) : word_Gcd.o (b.toNat + 2) a b = some (gg a b) := by
  unfold word_Gcd.o word_Gcd.c
  exact gcd_L _ _ _ _ ha hb (by omega)
theorem gcd_g {a b : Int} (ha : 0 ≤ a) (hb : 0 ≤ b) : word_Gcd.g a b = true := by unfold word_Gcd.g; rw [hide_eq, gcd_o ha hb]; rfl
theorem gcd_s {a b : Int} (ha : 0 ≤ a) (hb : 0 ≤ b) : word_Gcd a b = gg a b := by unfold word_Gcd; rw [hide_eq, gcd_o ha hb]; rfl
theorem gg_comm (a b : Int) : gg a b = gg b a := by unfold gg; rw [Nat.gcd_comm]
theorem gg_nonneg (a b : Int) : 0 ≤ gg a b := by unfold gg; omega
theorem gg_dvd {a b : Int} (ha : 0 ≤ a) (hb : 0 ≤ b) : gg a b ∣ a ∧ gg a b ∣ b := by
  unfold gg
  have h1 := Nat.gcd_dvd_left a.toNat b.toNat
  have h2 := Nat.gcd_dvd_right a.toNat b.toNat
  have e1 : ((a.toNat : Nat) : Int) = a := by omega
  have e2 : ((b.toNat : Nat) : Int) = b := by omega
  constructor
  · have := Int.natCast_dvd_natCast.2 h1; rwa [e1] at this
  · have := Int.natCast_dvd_natCast.2 h2; rwa [e2] at this
theorem dvd_gg {a b d : Int} (ha : 0 ≤ a) (hb : 0 ≤ b) (h1 : d ∣ a) (h2 : d ∣ b) : d ∣ gg a b := by
  unfold gg
  rw [← Int.natAbs_dvd] at h1 h2 ⊢
  have e1 : ((a.toNat : Nat) : Int) = a := by omega
  have e2 : ((b.toNat : Nat) : Int) = b := by omega
  rw [← e1] at h1
  rw [← e2] at h2
  exact Int.natCast_dvd_natCast.2 (Nat.dvd_gcd (Int.natCast_dvd_natCast.1 h1) (Int.natCast_dvd_natCast.1 h2))
theorem gg_pos {a b : Int} (ha : 0 ≤ a) (hb : 0 ≤ b) (h : a ≠ 0 ∨ b ≠ 0) : 0 < gg a b := by
  unfold gg
  have : 0 < Nat.gcd a.toNat b.toNat := by
    rcases h with h | h
    · exact Nat.gcd_pos_of_pos_left _ (by omega)
    · exact Nat.gcd_pos_of_pos_right _ (by omega)
  omega
theorem gg_le {a b : Int} (ha : 0 ≤ a) (hb : 0 ≤ b) (h : a ≠ 0) : gg a b ≤ a := by
  have := Int.le_of_dvd (by omega) (gg_dvd ha hb).1
  exact this
theorem gg_U {a b : Int} (ha : U64 a) (hb : U64 b) : U64 (gg a b) := by
  unfold U64 at *
  refine ⟨gg_nonneg a b, ?_⟩
  by_cases h : a = 0
  · by_cases h' : b = 0
    · subst h h'; decide
    · rw [gg_comm]; have := gg_le hb.1 ha.1 h'; omega
  · have := gg_le ha.1 hb.1 h; omega
theorem tz_ex : ∀ (n : Nat), n ≠ 0 → ∃ j o : Nat, n = 2 ^ j * o ∧ o % 2 = 1 := by
  intro n
  induction n using Nat.strongRecOn with
  | ind n ih =>
    intro h
    by_cases h2 : n % 2 = 1
    · exact ⟨0, n, by simp, h2⟩
    · obtain ⟨j, o, e, ho⟩ := ih (n / 2) (by omega) (by omega)
      refine ⟨j + 1, o, ?_, ho⟩
      rw [Nat.pow_succ, Nat.mul_comm (2 ^ j) 2, Nat.mul_assoc, ← e]; omega
theorem low_bit (w j o : Nat) (h : 2 ^ j * o < 2 ^ w) (ho : o % 2 = 1) : (2 ^ j * o) &&& (2 ^ w - 2 ^ j * o) = 2 ^ j := by
  have hp : 0 < 2 ^ j := Nat.two_pow_pos j
  have ho1 : 1 ≤ o := by omega
  have hpos : 0 < 2 ^ j * o := Nat.mul_pos hp ho1
  apply Nat.eq_of_testBit_eq
  intro i
  rw [Nat.testBit_and]
  have e1 : 2 ^ w - 2 ^ j * o = 2 ^ w - ((2 ^ j * o - 1) + 1) := by congr 1; omega
  rw [e1, Nat.testBit_two_pow_sub_succ (by omega)]
  have e2 : 2 ^ j * o - 1 = 2 ^ j * (o - 1) + (2 ^ j - 1) := by
    have : 2 ^ j * o = 2 ^ j * (o - 1) + 2 ^ j := by
      rw [← Nat.mul_succ]; congr 1; omega
    omega
  rw [e2, Nat.testBit_two_pow_mul_add _ (by omega)]
  have e3 : Nat.testBit (2 ^ j * o) i = if i < j then false else Nat.testBit o (i - j) := by
    have := Nat.testBit_two_pow_mul_add (i := j) o (b := 0) hp i
    simpa using this
  rw [e3, Nat.testBit_two_pow]
  by_cases hi : i < j
  · rw [if_pos hi]; simp; omega
  · rw [if_neg hi, if_neg hi]
    by_cases hij : i = j
    · subst hij
      have hw : i < w := by
        rcases Nat.lt_or_ge i w with h' | h'
        · exact h'
        · have h1 : 2 ^ w ≤ 2 ^ i := Nat.pow_le_pow_right (by decide) h'
          have h2 : 2 ^ i * 1 ≤ 2 ^ i * o := Nat.mul_le_mul_left _ ho1
          omega
      have b1 : Nat.testBit o 0 = true := by rw [Nat.testBit_zero]; simpa using ho
      have b2 : Nat.testBit (o - 1) 0 = false := by rw [Nat.testBit_zero]; simp; omega
      simp [b1, b2, hw]
    · have b : Nat.testBit o (i - j) = Nat.testBit (o - 1) (i - j) := by
        obtain ⟨k, hk⟩ : ∃ k, i - j = k + 1 := ⟨i - j - 1, by omega⟩
        rw [hk, Nat.testBit_succ, Nat.testBit_succ]
        congr 1; omega
      rw [b, show (decide (j = i)) = false by simp; omega]
      cases Nat.testBit (o - 1) (i - j) <;> simp
def Tz (x : Int) (j : Nat) : Prop := ∃ o : Int, x = 2 ^ j * o ∧ o % 2 = 1
theorem Tz.ex {x : Int} (h : 0 < x) : ∃ j, Tz x j := by
  obtain ⟨j, o, e, ho⟩ := tz_ex x.toNat (by omega)
  refine ⟨j, (o : Int), ?_, by omega⟩
  have : x = ((x.toNat : Nat) : Int) := by omega
  rw [this, e]; push_cast; rfl
theorem Tz.uniq {x : Int} {i j : Nat} (h : Tz x i) (h' : Tz x j) : i = j := by
  have key : ∀ {i j : Nat}, i < j → Tz x i → Tz x j → False := by
    intro i j hij h h'
    obtain ⟨o, e, ho⟩ := h
    obtain ⟨p, f, hp⟩ := h'
    have e2 : (2 : Int) ^ j = 2 ^ i * 2 ^ (j - i) := by rw [← Int.pow_add]; congr 1; omega
    rw [e2, Int.mul_assoc] at f
    have : o = 2 ^ (j - i) * p := Int.eq_of_mul_eq_mul_left (by have := Int.pow_pos (n := 2) (m := i) (by decide); omega) (e.symm.trans f)
    rw [show j - i = (j - i - 1) + 1 by omega, Int.pow_succ, Int.mul_comm (2 ^ _) 2, Int.mul_assoc] at this
    omega
  rcases Nat.lt_trichotomy i j with g | g | g
  · exact (key g h h').elim
  · exact g
  · exact (key g h' h).elim
theorem Tz.lt {x : Int} {j w : Nat} (h : Tz x j) (h0 : 0 < x) (hw : x < 2 ^ w) : j < w ∧ (2 : Int) ^ j ≤ x := by
  obtain ⟨o, e, ho⟩ := h
  have hp : (0 : Int) < 2 ^ j := Int.pow_pos (by decide)
  have ho1 : 1 ≤ o := by
    rcases Int.lt_or_le 0 o with h' | h'
    · exact h'
    · have := Int.mul_le_mul_of_nonneg_left h' (Int.le_of_lt hp); rw [Int.mul_zero] at this; omega
  have h2 : (2 : Int) ^ j * 1 ≤ 2 ^ j * o := Int.mul_le_mul_of_nonneg_left ho1 (Int.le_of_lt hp)
  rw [Int.mul_one, ← e] at h2
  refine ⟨?_, h2⟩
  rcases Nat.lt_or_ge j w with h' | h'
  · exact h'
  · exfalso
    have h1 : (2 : Nat) ^ w ≤ 2 ^ j := Nat.pow_le_pow_right (by decide) h'
    have h3 : ((2 : Int) ^ w) ≤ 2 ^ j := by exact_mod_cast h1
    omega
theorem and_low_bit {x : Int} {j : Nat} (hx : U64 x) (h0 : 0 < x) (h : Tz x j) : andI .u64 x (IntKind.u64.wrap (0 - x)) = 2 ^ j := by
  unfold U64 at hx
  obtain ⟨o, e, ho⟩ := h
  have ho1 : 0 ≤ o := by
    rcases Int.lt_or_le o 0 with h' | h'
    · have := Int.mul_neg_of_pos_of_neg (Int.pow_pos (n := 2) (m := j) (by decide)) h'; omega
    · exact h'
  have en : x.toNat = 2 ^ j * o.toNat := by
    have : ((x.toNat : Nat) : Int) = ((2 ^ j * o.toNat : Nat) : Int) := by
      rw [Int.natCast_mul, Int.natCast_pow, show ((o.toNat : Nat) : Int) = o by omega, show ((x.toNat : Nat) : Int) = x by omega]; exact e
    exact_mod_cast this
  rw [andU]
  have e1 : (x % 18446744073709551616).toNat = 2 ^ j * o.toNat := by rw [← en]; omega
  have e2 : (IntKind.u64.wrap (0 - x) % 18446744073709551616).toNat = 2 ^ 64 - 2 ^ j * o.toNat := by
    rw [← en, wu_eq]; omega
  rw [e1, e2, low_bit 64 j o.toNat (by rw [← en]; omega) (by omega)]
  push_cast; rfl
theorem even_s {x : Int} {j : Nat} (hx : U64 x) (h0 : 0 < x) (h : Tz x j) : word_Even x = 2 ^ j := by
  unfold word_Even word_Even.c
  (try unfold word_Even.c0)
  exact and_low_bit hx h0 h
theorem or_sum (a b s : Nat) (hb : b < 2 ^ s) (h : a * 2 ^ s < 2 ^ 64) (hs : s ≤ 64) : orI .u64 ((a : Int) * 2 ^ s) (b : Int) = (a : Int) * 2 ^ s + b := by
  have hp : (2 : Nat) ^ s ≤ 2 ^ 64 := Nat.pow_le_pow_right (by decide) hs
  have e1 : ((a : Int) * 2 ^ s % 18446744073709551616).toNat = 2 ^ s * a := by
    have : ((a : Int) * 2 ^ s) = ((a * 2 ^ s : Nat) : Int) := by push_cast; rfl
    rw [this, Nat.mul_comm (2 ^ s) a]; omega
  have e2 : ((b : Int) % 18446744073709551616).toNat = b := by omega
  rw [orU, e1, e2, ← Nat.two_pow_add_eq_or_of_lt hb a]
  push_cast
  rw [Int.mul_comm]
def av (v : Int) : Int := if v < 0 then -v else v
theorem av_U {v : Int} (hv : I64 v) : U64 (av v) := by unfold I64 at hv; unfold U64 av; split <;> omega
theorem neg_mod {A m : Int} (h0 : 0 < m) : (-A) % m = if A % m = 0 then 0 else m - A % m := by
  have h1 := Int.emod_nonneg A (show m ≠ 0 by omega)
  have h2 := Int.emod_lt_of_pos A h0
  have h3 := Int.emod_add_mul_ediv A m
  by_cases h : A % m = 0
  · rw [if_pos h]
    refine mod_of (q := -(A / m)) ?_ (by omega) (by omega)
    rw [Int.mul_neg]; omega
  · rw [if_neg h]
    refine mod_of (q := -(A / m) - 1) ?_ (by omega) (by omega)
    rw [Int.mul_sub, Int.mul_neg, Int.mul_one]; omega
theorem or_comm2 (a b : Int) : orI .u64 a b = orI .u64 b a := by rw [orU, orU, Nat.or_comm]
theorem or_two {a b : Int} {s : Nat} (ha : 0 ≤ a) (hb : 0 ≤ b) (hb2 : b < 2 ^ s) (h : a * 2 ^ s < 18446744073709551616) (hs : s ≤ 64) : orI .u64 (a * 2 ^ s) b = a * 2 ^ s + b := by
  have := or_sum a.toNat b.toNat s (by
    have h2 : ((b.toNat : Nat) : Int) < ((2 ^ s : Nat) : Int) := by push_cast; omega
    exact_mod_cast h2) (by
    have h2 : ((a.toNat * 2 ^ s : Nat) : Int) < ((2 ^ 64 : Nat) : Int) := by rw [Int.natCast_mul, Int.natCast_pow, show ((a.toNat : Nat) : Int) = a by omega]; exact Int.lt_of_lt_of_le h (by decide)
    exact_mod_cast h2) hs
  rwa [show ((a.toNat : Nat) : Int) = a by omega, show ((b.toNat : Nat) : Int) = b by omega] at this
def hi (z : Int) : Int := z / 18446744073709551616
def lo (z : Int) : Int := z % 18446744073709551616
theorem mul_I {a b : Int} (ha : I64 a) (hb : I64 b) : -85070591730234615865843651857942052864 ≤ a * b ∧ a * b ≤ 85070591730234615865843651857942052864 := by
  unfold I64 at ha hb
  have h1 : a.natAbs ≤ 9223372036854775808 := by omega
  have h2 : b.natAbs ≤ 9223372036854775808 := by omega
  have h3 := Nat.mul_le_mul h1 h2
  rw [← Int.natAbs_mul] at h3
  omega
theorem word_Wide_s {a b : Int} (ha : I64 a) (hb : I64 b) : word_Wide a b = (hi (a * b), lo (a * b)) := by
  have hm := mul_I ha hb
  unfold word_Wide word_Wide.c word_Wide.c0
  have hu : ∀ x : Int, U64 (IntKind.u64.wrap x) := fun x => ⟨wu_lo x, wu_hi x⟩
  simp only [id, bits_Mul64_s (hu a) (hu b)]
  unfold I64 at ha hb
  simp only [wu_eq, wi_eq, hi, lo, Bool.cond_decide]
  have ea : a % 18446744073709551616 = if a < 0 then a + 18446744073709551616 else a := by split <;> omega
  have eb : b % 18446744073709551616 = if b < 0 then b + 18446744073709551616 else b := by split <;> omega
  rw [ea, eb]
  by_cases h1 : a < 0 <;> by_cases h2 : b < 0
  · simp only [h1, h2, if_true]
    have e : (a + 18446744073709551616) * (b + 18446744073709551616) = a * b + 18446744073709551616 * (a + b + 18446744073709551616) := by rw [Int.add_mul, Int.mul_add, Int.mul_comm a 18446744073709551616]; omega
    rw [e]; generalize a * b = p at *
    simp only [Prod.mk.injEq]; constructor <;> omega
  · simp only [h1, h2, if_true, if_false]
    have e : (a + 18446744073709551616) * b = a * b + 18446744073709551616 * b := by rw [Int.add_mul]
    rw [e]; generalize a * b = p at *
    simp only [Prod.mk.injEq]; constructor <;> omega
  · simp only [h1, h2, if_true, if_false]
    have e : a * (b + 18446744073709551616) = a * b + 18446744073709551616 * a := by rw [Int.mul_add, Int.mul_comm a 18446744073709551616]
    rw [e]; generalize a * b = p at *
    simp only [Prod.mk.injEq]; constructor <;> omega
  · simp only [h1, h2, if_false]
    generalize a * b = p at *
    simp only [Prod.mk.injEq]; constructor
    · omega
    · trivial
theorem word_Mul_s {a b : Int} : word_Mul a b = IntKind.i64.wrap (a * b) := by
  unfold word_Mul word_Mul.c word_Mul.c0
  simp only [id, wu_eq, wi_eq]
  have e : (a % 18446744073709551616) * (b % 18446744073709551616) % 18446744073709551616 = a * b % 18446744073709551616 := by rw [← Int.mul_emod]
  rw [e]; omega
theorem tmodI {x : Int} (y : Int) (h : I64 x) : I64 (x.tmod y) := by
  unfold I64 at *
  have h1 : (x.tmod y).natAbs ≤ x.natAbs := by rw [Int.natAbs_tmod]; exact Nat.mod_le _ _
  by_cases h2 : x < 0
  · have h3 : x.tmod y ≤ 0 := by
      have := Int.tmod_nonneg y (show 0 ≤ -x by omega)
      rw [Int.neg_tmod] at this; omega
    omega
  · have h3 := Int.tmod_nonneg y (show 0 ≤ x by omega)
    omega
end Go.Proofs.YtfcgmfefdgcmjaaDoor.V
