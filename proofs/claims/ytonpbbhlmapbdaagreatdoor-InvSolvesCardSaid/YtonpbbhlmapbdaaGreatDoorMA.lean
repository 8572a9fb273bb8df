/- Parts: M1, M2, M3, M4, M5. Conditions: none. -/
import Derived.Test.YtonpbbhlmapbdaaGreatDoorK5
import Derived.Test.YtonpbbhlmapbdaaGreatDoorF3
set_option linter.unusedVariables false
set_option linter.unusedSimpArgs false
namespace Go.Proofs.YtonpbbhlmapbdaaGreatDoor.V
open Go Go.Wk Go.RowKit
theorem xorU (a b : Int) : xorI .u64 a b = (((a % 18446744073709551616).toNat ^^^ (b % 18446744073709551616).toNat : Nat) : Int) := by
  rw [xorI_eq, wu_eq]
  have e : IntKind.u64.bits = 64 := rfl
  rw [BitVec.toNat_xor, BitVec.toNat_ofInt, BitVec.toNat_ofInt, e]
  have e2 : ((2 ^ 64 : Nat) : Int) = 18446744073709551616 := by decide
  rw [e2]
  have h1 : (a % 18446744073709551616).toNat ^^^ (b % 18446744073709551616).toNat < 2 ^ 64 := Nat.xor_lt_two_pow (by omega) (by omega)
  omega
theorem xor_and_sum : ∀ (n x y : Nat), x + y ≤ n → x + y = (x ^^^ y) + 2 * (x &&& y)
  | 0, x, y, h => by
    obtain rfl : x = 0 := by omega
    obtain rfl : y = 0 := by omega
    rfl
  | n + 1, x, y, h => by
    by_cases h0 : x = 0 ∧ y = 0
    · obtain ⟨rfl, rfl⟩ := h0; rfl
    · have ih := xor_and_sum n (x / 2) (y / 2) (by omega)
      have a1 : (x ^^^ y) / 2 = x / 2 ^^^ y / 2 := Nat.xor_div_two
      have a2 : (x &&& y) / 2 = x / 2 &&& y / 2 := Nat.and_div_two
      have b1 : (x ^^^ y) % 2 = (x + y) % 2 := by
        rcases Nat.mod_two_eq_zero_or_one (x ^^^ y) with h | h
        · have : ¬ ((x ^^^ y) % 2 = 1) := by omega
          rw [Nat.xor_mod_two_eq_one] at this
          rcases Nat.mod_two_eq_zero_or_one x with p | p <;> rcases Nat.mod_two_eq_zero_or_one y with q | q <;> simp [p, q] at this <;> omega
        · have := h
          rw [Nat.xor_mod_two_eq_one] at this
          rcases Nat.mod_two_eq_zero_or_one x with p | p <;> rcases Nat.mod_two_eq_zero_or_one y with q | q <;> simp [p, q] at this <;> omega
      have b2 : (x &&& y) % 2 = if x % 2 = 1 ∧ y % 2 = 1 then 1 else 0 := by
        split
        · rename_i h; exact Nat.and_mod_two_eq_one.2 h
        · rename_i h
          rcases Nat.mod_two_eq_zero_or_one (x &&& y) with p | p
          · exact p
          · exact (h (Nat.and_mod_two_eq_one.1 p)).elim
      rw [← a1, ← a2] at ih
      split at b2 <;> omega
theorem and_dvd {x y n : Nat} (h : 2 ^ n ∣ y) : 2 ^ n ∣ x &&& y := by
  rw [Nat.dvd_iff_mod_eq_zero] at h ⊢
  rw [Nat.and_mod_two_pow, h, Nat.and_zero]
theorem wshift1 (x : Int) : IntKind.u64.wrap (x * 2 ^ min (Int.toNat 1) IntKind.u64.bits) = (x * 2) % 18446744073709551616 := by
  rw [wu_eq]; rfl
theorem Add_L (N : Nat) : ∀ (m i x y : Nat), i ≤ 64 → 65 ≤ i + m → x < 18446744073709551616 → y < 18446744073709551616 → 2 ^ i ∣ y → w1_Add.L0 N m ((x : Int), (y : Int)) = some (IntKind.i64.wrap ((x : Int) + y))
  | 0, i, x, y, h64, hi, hx, hy, hd => by omega
  | m + 1, i, x, y, h64, hi, hx, hy, hd => by
    unfold w1_Add.L0 w1_Add.l0.c w1_Add.l0.c0
    by_cases h0 : y = 0
    · subst h0
      have e : (((0 : Nat) : Int) != 0) = false := by decide
      simp only [e, cond_false]
      simp
    · have e : ((y : Int) != 0) = true := by simp; omega
      have hlt : i < 64 := by
        by_cases h : i = 64
        · subst h
          have := Nat.le_of_dvd (by omega) hd
          omega
        · omega
      simp only [e, cond_true, wshift1, B.andU, xorU]
      have hs := xor_and_sum _ x y (Nat.le_refl _)
      have hxl : x ^^^ y < 2 ^ 64 := Nat.xor_lt_two_pow (by omega) (by omega)
      have e1 : ((x : Int) % 18446744073709551616).toNat = x := by omega
      have e2 : ((y : Int) % 18446744073709551616).toNat = y := by omega
      have e3 : (((x &&& y : Nat) : Int) * 2) % 18446744073709551616 = ((((x &&& y) * 2) % 18446744073709551616 : Nat) : Int) := by omega
      rw [e1, e2, e3]
      have ha := and_dvd (x := x) hd
      have hd2 : 2 ^ (i + 1) ∣ ((x &&& y) * 2) % 18446744073709551616 := by
        have h1 : 2 ^ (i + 1) ∣ (x &&& y) * 2 := by rw [Nat.pow_succ]; exact Nat.mul_dvd_mul ha (Nat.dvd_refl 2)
        have h2 : 2 ^ (i + 1) ∣ 18446744073709551616 := Nat.pow_dvd_pow 2 (show i + 1 ≤ 64 by omega)
        exact (Nat.dvd_mod_iff h2).2 h1
      rw [Add_L N m (i + 1) _ _ (by omega) (by omega) hxl (Nat.mod_lt _ (by decide)) hd2]
      congr 1
      rw [wi_eq, wi_eq]
      omega
theorem Add_o (a b : Int) : w1_Add.o 67 a b = some (IntKind.i64.wrap (a + b)) := by
  unfold w1_Add.o w1_Add.c w1_Add.c0
  have e1 : IntKind.u64.wrap a = (((a % 18446744073709551616).toNat : Nat) : Int) := by rw [wu_eq]; omega
  have e2 : IntKind.u64.wrap b = (((b % 18446744073709551616).toNat : Nat) : Int) := by rw [wu_eq]; omega
  rw [e1, e2, Add_L 67 67 0 _ _ (by omega) (by omega) (by omega) (by omega) (Nat.one_dvd _)]
  congr 1
  rw [wi_eq, wi_eq]; omega
theorem Add_g (a b : Int) : w1_Add.g a b = true := by unfold w1_Add.g; rw [hide_eq, Add_o]; rfl
theorem Add_s (a b : Int) : w1_Add a b = IntKind.i64.wrap (a + b) := by unfold w1_Add; rw [hide_eq, Add_o]; rfl
theorem m1u : (if IntKind.u64.signed = true then -1 else IntKind.u64.max) = 18446744073709551615 := by decide
theorem xor_all {x : Int} (h : 0 ≤ x ∧ x < 18446744073709551616) : xorI .u64 18446744073709551615 x = 18446744073709551615 - x := by
  have hs := xor_and_sum _ 18446744073709551615 x.toNat (Nat.le_refl _)
  have ha : 18446744073709551615 &&& x.toNat = x.toNat := by
    rw [Nat.and_comm, show (18446744073709551615 : Nat) = 2 ^ 64 - 1 from rfl, Nat.and_two_pow_sub_one_eq_mod]
    omega
  rw [ha] at hs
  rw [xorU, show ((18446744073709551615 : Int) % 18446744073709551616).toNat = 18446744073709551615 from rfl, show (x % 18446744073709551616).toNat = x.toNat by omega]
  omega
theorem Neg_k {γ : Type} (n : γ) (k : Int → γ) (a : Int) : w1_Neg.c n k a = k (IntKind.i64.wrap (-a)) := by
  unfold w1_Neg.c w1_Neg.c0
  simp only [m1u, Add_g, Add_s, cond_true]
  congr 1
  rw [xor_all (by rw [wu_eq]; omega), wi_eq, wi_eq, wi_eq, wu_eq]
  omega
theorem Neg_ok (a : Int) : w1_Neg.ok a = true := Neg_k _ _ a
theorem Neg_s (a : Int) : w1_Neg a = IntKind.i64.wrap (-a) := Neg_k _ _ a
theorem Abs_k {γ : Type} (n : γ) (k : Int → γ) {a : Int} (h : I64 a) : w1_Abs.c n k a = k (B.av a) := by
  unfold w1_Abs.c w1_Abs.c0 B.av
  simp only [Neg_ok, Neg_s, cond_true]
  unfold I64 at h
  by_cases c : a < 0
  · rw [decide_eq_true c, if_pos c, cond_true]; congr 1; rw [wi_eq, wu_eq]; omega
  · rw [decide_eq_false c, if_neg c, cond_false]; congr 1; rw [wu_eq]; omega
theorem Abs_ok {a : Int} (h : I64 a) : w1_Abs.ok a = true := Abs_k _ _ h
theorem Abs_s {a : Int} (h : I64 a) : w1_Abs a = B.av a := Abs_k _ _ h
/-! products -/
theorem fdivp (x : Int) (i : Nat) (hi : i ≤ 64) : x.fdiv (2 ^ min (Int.toNat (i : Int)) IntKind.u64.bits) = x / 2 ^ i := by
  have : IntKind.u64.bits = 64 := rfl
  rw [this, Int.toNat_natCast, Nat.min_eq_left hi, Int.fdiv_eq_ediv_of_nonneg _ (Int.pow_nonneg (by decide))]
theorem shl_p (x : Int) (i : Nat) (hi : i ≤ 64) : IntKind.u64.wrap (x * 2 ^ min (Int.toNat (i : Int)) IntKind.u64.bits) = (x * 2 ^ i) % 18446744073709551616 := by
  have : IntKind.u64.bits = 64 := rfl
  rw [this, Int.toNat_natCast, Nat.min_eq_left hi, wu_eq]
theorem or_bit {e b : Int} (h0 : 0 ≤ e) (h1 : e < 18446744073709551616) (h2 : e % 2 = 0) (hb : 0 ≤ b) (hb2 : b < 2) : orI .u64 e b = e + b := by
  have := B.or_two (a := e / 2) (b := b) (s := 1) (by omega) hb (by simpa using hb2) (by omega) (by decide)
  rwa [show e / 2 * 2 ^ 1 = e by omega] at this
theorem cast_bit (X k : Nat) : ((X : Int) / 2 ^ k).tmod 2 = ((X / 2 ^ k % 2 : Nat) : Int) := by
  have : (X : Int) / 2 ^ k = ((X / 2 ^ k : Nat) : Int) := by push_cast; rfl
  rw [this]; rfl
theorem div_step {T Y b : Nat} (hY : 0 < Y) (hb : b < 2) :
    (2 * T + b) / Y = 2 * (T / Y) + (if Y ≤ 2 * (T % Y) + b then 1 else 0) ∧ (2 * T + b) % Y = (if Y ≤ 2 * (T % Y) + b then 2 * (T % Y) + b - Y else 2 * (T % Y) + b) := by
  have h := Nat.div_add_mod T Y
  have hm := Nat.mod_lt T hY
  generalize hq : T / Y = q at *
  generalize hr : T % Y = r at *
  have e : 2 * T + b = Y * (2 * q) + (2 * r + b) := by rw [← h, Nat.mul_add, Nat.mul_left_comm]; omega
  by_cases c : Y ≤ 2 * r + b
  · rw [if_pos c, if_pos c]
    have e2 : 2 * T + b = Y * (2 * q + 1) + (2 * r + b - Y) := by rw [e, Nat.mul_add]; omega
    rw [e2]
    constructor
    · rw [Nat.mul_add_div hY, Nat.div_eq_of_lt (by omega)]
    · rw [Nat.mul_add_mod, Nat.mod_eq_of_lt (by omega)]
  · rw [if_neg c, if_neg c, e]
    constructor
    · rw [Nat.mul_add_div hY, Nat.div_eq_of_lt (by omega)]
    · rw [Nat.mul_add_mod, Nat.mod_eq_of_lt (by omega)]
theorem long_L (N : Nat) {X Y : Nat} (hX : X < 18446744073709551616) (hY : 0 < Y) (hY2 : Y < 18446744073709551616) : ∀ (c m : Nat), c ≤ 64 → c + 1 ≤ m →
    w1_long.L0 N m ((X : Int), (Y : Int), ((X / 2 ^ c / Y * 2 ^ c : Nat) : Int), ((X / 2 ^ c % Y : Nat) : Int), (c : Int) - 1) = some (((X / Y : Nat) : Int), ((X % Y : Nat) : Int))
  | _, 0, _, h => by omega
  | 0, m + 1, _, _ => by
    unfold w1_long.L0 w1_long.l0.c w1_long.l0.c0
    have e : decide (((0 : Nat) : Int) - 1 ≥ 0) = false := by decide
    simp only [e, cond_false]
    simp
  | k + 1, m + 1, hc, hm => by
    unfold w1_long.L0 w1_long.l0.c w1_long.l0.c0
    have e8 : ((k + 1 : Nat) : Int) - 1 = (k : Int) := by omega
    have d1 : decide ((k : Int) ≥ 0) = true := by simp
    have d2 : decide ((k : Int) < 0) = false := by simp
    have ew : IntKind.i64.wrap ((k : Int) - 1) = (k : Int) - 1 := wi_id (by omega) (by omega)
    have hT : X / 2 ^ k = 2 * (X / 2 ^ (k + 1)) + X / 2 ^ k % 2 := by
      rw [Nat.pow_succ, ← Nat.div_div_eq_div_mul]; omega
    have hb2 : X / 2 ^ k % 2 < 2 := Nat.mod_lt _ (by decide)
    obtain ⟨s1, s2⟩ := div_step (T := X / 2 ^ (k + 1)) (b := X / 2 ^ k % 2) hY hb2
    rw [← hT] at s1 s2
    have hr := Nat.mod_lt (X / 2 ^ (k + 1)) hY
    have ih := long_L N hX hY hY2 k m (by omega) (by omega)
    have hQ : X / 2 ^ (k + 1) / Y * 2 ^ (k + 1) ≤ X := Nat.le_trans (Nat.mul_le_mul_right _ (Nat.div_le_self _ _)) (Nat.div_mul_le_self _ _)
    have hp : (2 : Nat) ^ k < 18446744073709551616 := Nat.lt_of_lt_of_le (Nat.pow_lt_pow_right (by decide) (show k < 64 by omega)) (by decide)
    have et1 : IntKind.u64.wrap (1 * 2 ^ min (Int.toNat (k : Int)) IntKind.u64.bits) = ((2 ^ k : Nat) : Int) := by
      rw [shl_p 1 k (by omega)]
      have : (1 : Int) * 2 ^ k = ((2 ^ k : Nat) : Int) := by rw [Int.one_mul]; push_cast; rfl
      rw [this]
      refine Int.emod_eq_of_lt (Int.natCast_nonneg _) ?_
      generalize (2 : Nat) ^ k = p at hp ⊢
      omega
    have eor : orI .u64 ((X / 2 ^ (k + 1) / Y * 2 ^ (k + 1) : Nat) : Int) ((2 ^ k : Nat) : Int) = ((X / 2 ^ (k + 1) / Y * 2 ^ (k + 1) + 2 ^ k : Nat) : Int) := by
      have := B.or_two (a := ((X / 2 ^ (k + 1) / Y : Nat) : Int)) (b := ((2 ^ k : Nat) : Int)) (s := k + 1) (Int.natCast_nonneg _) (Int.natCast_nonneg _) (by exact_mod_cast Nat.pow_lt_pow_right (by decide) (Nat.lt_succ_self k)) (by
        have : ((X / 2 ^ (k + 1) / Y : Nat) : Int) * 2 ^ (k + 1) = ((X / 2 ^ (k + 1) / Y * 2 ^ (k + 1) : Nat) : Int) := by push_cast; rfl
        rw [this]; omega) (by omega)
      rw [show ((X / 2 ^ (k + 1) / Y * 2 ^ (k + 1) : Nat) : Int) = ((X / 2 ^ (k + 1) / Y : Nat) : Int) * 2 ^ (k + 1) by push_cast; rfl, this]
      push_cast; rfl
    have hpow : X / 2 ^ (k + 1) / Y * 2 ^ (k + 1) = 2 * (X / 2 ^ (k + 1) / Y) * 2 ^ k := by rw [Nat.pow_succ]; rw [Nat.mul_comm (2 ^ k) 2, ← Nat.mul_assoc, Nat.mul_comm _ 2]
    simp only [e8, d1, d2, ew, et1, eor, Bool.not_false, cond_true, Bool.true_and, Bool.and_true, Bool.true_or, wshift1, fdivp _ k (show k ≤ 64 by omega), cast_bit]
    generalize X / 2 ^ k % 2 = b at *
    generalize hrr : X / 2 ^ (k + 1) % Y = r at *
    generalize hqq : X / 2 ^ (k + 1) / Y = q at *
    have eb : orI .u64 ((r : Int) * 2 % 18446744073709551616) (b : Int) = (r : Int) * 2 % 18446744073709551616 + b := or_bit (by omega) (by omega) (by omega) (by omega) (by omega)
    rw [eb]
    by_cases ov : r ≥ 9223372036854775808
    · rw [decide_eq_true (show (r : Int) ≥ 9223372036854775808 by omega), cond_true]
      rw [if_pos (by omega)] at s1 s2
      rw [s1, s2] at ih
      rw [← ih]
      congr 1
      rw [Prod.mk.injEq, Prod.mk.injEq, Prod.mk.injEq, Prod.mk.injEq]
      refine ⟨rfl, rfl, ?_, ?_, rfl⟩
      · congr 1; rw [hpow, Nat.add_mul]; omega
      · rw [wu_eq]; omega
    · rw [decide_eq_false (show ¬ (r : Int) ≥ 9223372036854775808 by omega), cond_false]
      have er : (r : Int) * 2 % 18446744073709551616 = (r : Int) * 2 := by omega
      rw [er]
      by_cases ge : Y ≤ 2 * r + b
      · rw [decide_eq_true (show (r : Int) * 2 + b ≥ Y by omega)]
        simp only [cond_true]
        rw [if_pos ge] at s1 s2
        rw [s1, s2] at ih
        rw [← ih]
        congr 1
        rw [Prod.mk.injEq, Prod.mk.injEq, Prod.mk.injEq, Prod.mk.injEq]
        refine ⟨rfl, rfl, ?_, ?_, rfl⟩
        · congr 1; rw [hpow, Nat.add_mul]; omega
        · rw [wu_eq]; omega
      · rw [decide_eq_false (show ¬ (r : Int) * 2 + b ≥ Y by omega)]
        simp only [cond_true, cond_false]
        rw [if_neg ge] at s1 s2
        rw [s1, s2] at ih
        rw [← ih]
        congr 1
        rw [Prod.mk.injEq, Prod.mk.injEq, Prod.mk.injEq, Prod.mk.injEq]
        refine ⟨rfl, rfl, ?_, ?_, rfl⟩
        · congr 1
        · omega
theorem long_o {x y : Int} (hx : U64 x) (hy : U64 y) (h0 : y ≠ 0) : w1_long.o 67 x y = some (x / y, x % y) := by
  unfold U64 at hx hy
  unfold w1_long.o w1_long.c
  obtain ⟨X, rfl⟩ := Int.eq_ofNat_of_zero_le hx.1
  obtain ⟨Y, rfl⟩ := Int.eq_ofNat_of_zero_le hy.1
  have := long_L 67 (X := X) (Y := Y) (by omega) (by omega) (by omega) 64 67 (by omega) (by omega)
  rw [show X / 2 ^ 64 = 0 from Nat.div_eq_of_lt (by omega)] at this
  simpa using this
theorem long_g {x y : Int} (hx : U64 x) (hy : U64 y) (h0 : y ≠ 0) : w1_long.g x y = true := by unfold w1_long.g; rw [hide_eq, long_o hx hy h0]; rfl
theorem long_s {x y : Int} (hx : U64 x) (hy : U64 y) (h0 : y ≠ 0) : w1_long x y = (x / y, x % y) := by unfold w1_long; rw [hide_eq, long_o hx hy h0]; rfl
theorem av_U {v : Int} (h : I64 v) : U64 (B.av v) := B.av_U h
theorem Gcd_L (N : Nat) : ∀ (m : Nat) (a b : Int), U64 a → U64 b → b < m → w1_Gcd.L0 N m (a, b) = some (B.gg a b)
  | 0, a, b, ha, hb, h => by unfold U64 at hb; omega
  | m + 1, a, b, ha, hb, h => by
    unfold w1_Gcd.L0 w1_Gcd.l0.c w1_Gcd.l0.c0
    by_cases h0 : b = 0
    · subst h0
      show some a = _
      rw [B.gg_zero ha.1]
    · have e : (b != 0) = true := by simpa using h0
      have p := Int.emod_nonneg a h0
      have q := Int.emod_lt_of_pos a (show 0 < b by unfold U64 at hb; omega)
      simp only [e, cond_true, long_g ha hb h0, long_s ha hb h0]
      rw [Gcd_L N m b (a % b) hb (by unfold U64 at *; omega) (by omega), B.gg_step ha.1 hb.1]
theorem Gcd_o {a b : Int} (ha : U64 a) (hb : U64 b) : w1_Gcd.o (b.toNat + 2) a b = some (B.gg a b) := by
  unfold w1_Gcd.o w1_Gcd.c
  exact Gcd_L _ _ a b ha hb (by unfold U64 at hb; omega)
theorem Gcd_g {a b : Int} (ha : U64 a) (hb : U64 b) : w1_Gcd.g a b = true := by unfold w1_Gcd.g; rw [hide_eq, Gcd_o ha hb]; rfl
theorem Gcd_s {a b : Int} (ha : U64 a) (hb : U64 b) : w1_Gcd a b = B.gg a b := by unfold w1_Gcd; rw [hide_eq, Gcd_o ha hb]; rfl
theorem Mod_k {γ : Type} (n : γ) (k : Int → γ) {v m : Int} (hv : I64 v) (hm : U64 m) : w1_Mod.c n k v m = k (B.md v m) := by
  unfold w1_Mod.c w1_Mod.c0 B.md
  by_cases h0 : m = 0
  · subst h0; rfl
  · have e0 : (m == 0) = false := by simpa using h0
    simp only [e0, cond_false, if_neg h0, Abs_ok hv, Abs_s hv, long_g (av_U hv) hm h0, long_s (av_U hv) hm h0, cond_true]
    have hm0 : 0 < m := by unfold U64 at hm; omega
    have p := Int.emod_nonneg (B.av v) h0
    have q := Int.emod_lt_of_pos (B.av v) hm0
    by_cases h1 : v < 0
    · have e : B.av v = -v := by unfold B.av; rw [if_pos h1]
      have hn := B.neg_mod (A := B.av v) hm0
      rw [e] at hn p q ⊢
      rw [Int.neg_neg] at hn
      rw [decide_eq_true h1, cond_true, hn]
      by_cases h2 : -v % m = 0
      · rw [h2]; rfl
      · rw [decide_eq_true (show -v % m > 0 by omega), if_neg h2, cond_true]
        congr 1; unfold U64 at hm; rw [wu_eq]; omega
    · have e : B.av v = v := by unfold B.av; rw [if_neg h1]
      rw [e, decide_eq_false h1]
      rfl
theorem Mod_ok {v m : Int} (hv : I64 v) (hm : U64 m) : w1_Mod.ok v m = true := Mod_k _ _ hv hm
theorem Mod_s {v m : Int} (hv : I64 v) (hm : U64 m) : w1_Mod v m = B.md v m := Mod_k _ _ hv hm
theorem prod32 {x y : Int} (hx : 0 ≤ x) (hx2 : x < 4294967296) (hy : 0 ≤ y) (hy2 : y < 4294967296) : 0 ≤ x * y ∧ x * y ≤ 18446744065119617025 := B.mul_bound hx hx2 hy hy2
theorem Full_s {a b : Int} (ha : U64 a) (hb : U64 b) : w1_Full a b = (a * b / 18446744073709551616, a * b % 18446744073709551616) := by
  unfold U64 at ha hb
  unfold w1_Full w1_Full.c w1_Full.c0
  have d : ∀ z : Int, 0 ≤ z → z.tdiv 4294967296 = z / 4294967296 := fun z h => Int.tdiv_eq_ediv_of_nonneg h
  have m : ∀ z : Int, 0 ≤ z → z.tmod 4294967296 = z % 4294967296 := fun z h => Int.tmod_eq_emod_of_nonneg h
  have wn : ∀ z : Int, 0 ≤ IntKind.u64.wrap z := fun z => by rw [wu_eq]; omega
  simp only [d a ha.1, d b hb.1, m a ha.1, m b hb.1, d _ (wn _), m _ (wn _), id]
  have eab : a * b = (a / 4294967296) * (b / 4294967296) * 18446744073709551616 + ((a / 4294967296) * (b % 4294967296) + (a % 4294967296) * (b / 4294967296)) * 4294967296 + (a % 4294967296) * (b % 4294967296) := by
    conv => lhs; rw [show a = a / 4294967296 * 4294967296 + a % 4294967296 by omega, show b = b / 4294967296 * 4294967296 + b % 4294967296 by omega]
    generalize a / 4294967296 = x1
    generalize a % 4294967296 = x0
    generalize b / 4294967296 = y1
    generalize b % 4294967296 = y0
    simp only [Int.add_mul, Int.mul_add]
    have e1 : x1 * 4294967296 * (y1 * 4294967296) = x1 * y1 * 18446744073709551616 := by
      rw [Int.mul_assoc, Int.mul_left_comm 4294967296, ← Int.mul_assoc, ← Int.mul_assoc]; rw [Int.mul_assoc (x1 * y1)]; rfl
    have e2 : x1 * 4294967296 * y0 = x1 * y0 * 4294967296 := by rw [Int.mul_right_comm]
    have e3 : x0 * (y1 * 4294967296) = x0 * y1 * 4294967296 := by rw [Int.mul_assoc]
    rw [e1, e2, e3]; omega
  have w1 : IntKind.u64.wrap (a / 4294967296) = a / 4294967296 := wu_id (by omega) (by omega)
  have w2 : IntKind.u64.wrap (b / 4294967296) = b / 4294967296 := wu_id (by omega) (by omega)
  simp only [w1, w2]
  have p1 := prod32 (x := a / 4294967296) (y := b / 4294967296) (by omega) (by omega) (by omega) (by omega)
  have p2 := prod32 (x := a / 4294967296) (y := b % 4294967296) (by omega) (by omega) (by omega) (by omega)
  have p3 := prod32 (x := a % 4294967296) (y := b / 4294967296) (by omega) (by omega) (by omega) (by omega)
  have p4 := prod32 (x := a % 4294967296) (y := b % 4294967296) (by omega) (by omega) (by omega) (by omega)
  rw [eab]
  generalize a / 4294967296 * (b / 4294967296) = q1 at *
  generalize a / 4294967296 * (b % 4294967296) = q2 at *
  generalize a % 4294967296 * (b / 4294967296) = q3 at *
  generalize a % 4294967296 * (b % 4294967296) = q4 at *
  clear eab d m wn
  simp only [wu_eq, Prod.mk.injEq]
  constructor <;> omega
theorem av_mul (a b : Int) : B.av a * B.av b = if (a < 0) ↔ (b < 0) then a * b else -(a * b) := by
  unfold B.av
  by_cases h1 : a < 0 <;> by_cases h2 : b < 0
  · rw [if_pos h1, if_pos h2, if_pos (by simp [h1, h2]), Int.neg_mul_neg]
  · rw [if_pos h1, if_neg h2, if_neg (by simp [h1, h2]), Int.neg_mul]
  · rw [if_neg h1, if_pos h2, if_neg (by simp [h1, h2]), Int.mul_neg]
  · rw [if_neg h1, if_neg h2, if_pos (by simp [h1, h2])]
theorem Wide_k {γ : Type} (n : γ) (k : Int × Int → γ) {a b : Int} (ha : I64 a) (hb : I64 b) : w1_Wide.c n k a b = k (A.hi (a * b), A.lo (a * b)) := by
  unfold w1_Wide.c w1_Wide.c0
  have hP := A.mul_I ha hb
  have e := av_mul a b
  simp only [Abs_ok ha, Abs_ok hb, Abs_s ha, Abs_s hb, Full_s (av_U ha) (av_U hb), m1u, cond_true]
  have hp0 : 0 ≤ B.av a * B.av b := Int.mul_nonneg (av_U ha).1 (av_U hb).1
  have hle : B.av a * B.av b ≤ 85070591730234615865843651857942052864 := by rw [e]; split <;> omega
  generalize B.av a * B.av b = P at *
  rw [xor_all (x := P % 18446744073709551616) (by omega), xor_all (x := P / 18446744073709551616) (by omega)]
  unfold A.hi A.lo
  by_cases h1 : a < 0 <;> by_cases h2 : b < 0
  · rw [if_pos (by simp [h1, h2])] at e
    simp only [h1, h2, decide_true, beq_self_eq_true, Bool.not_true, cond_false]
    congr 1; rw [Prod.mk.injEq, wi_eq]; omega
  · rw [if_neg (by simp [h1, h2])] at e
    simp only [h1, h2, decide_true, decide_false, show (true == false) = false from rfl, Bool.not_false, cond_true]
    congr 1
    rw [Prod.mk.injEq, wu_eq, wu_eq]
    by_cases z : (18446744073709551615 - P % 18446744073709551616 + 1) % 18446744073709551616 = 0
    · rw [z, show ((0 : Int) == 0) = true from rfl, cond_true, wi_eq]; omega
    · rw [show ((18446744073709551615 - P % 18446744073709551616 + 1) % 18446744073709551616 == 0) = false by simpa using z, cond_false, wi_eq]; omega
  · rw [if_neg (by simp [h1, h2])] at e
    simp only [h1, h2, decide_true, decide_false, show (false == true) = false from rfl, Bool.not_false, cond_true]
    congr 1
    rw [Prod.mk.injEq, wu_eq, wu_eq]
    by_cases z : (18446744073709551615 - P % 18446744073709551616 + 1) % 18446744073709551616 = 0
    · rw [z, show ((0 : Int) == 0) = true from rfl, cond_true, wi_eq]; omega
    · rw [show ((18446744073709551615 - P % 18446744073709551616 + 1) % 18446744073709551616 == 0) = false by simpa using z, cond_false, wi_eq]; omega
  · rw [if_pos (by simp [h1, h2])] at e
    simp only [h1, h2, decide_false, beq_self_eq_true, Bool.not_true, cond_false]
    congr 1; rw [Prod.mk.injEq, wi_eq]; omega
theorem Wide_ok {a b : Int} (ha : I64 a) (hb : I64 b) : w1_Wide.ok a b = true := Wide_k _ _ ha hb
theorem Wide_s {a b : Int} (ha : I64 a) (hb : I64 b) : w1_Wide a b = (A.hi (a * b), A.lo (a * b)) := Wide_k _ _ ha hb
theorem r14_product_k {γ : Type} (n : γ) (k : Int × Int → γ) {a b : Int} (ha : I64 a) (hb : I64 b) : r14_product.c n k a b = k (A.hi (a * b), A.lo (a * b)) := by
  unfold r14_product.c r14_product.c0; simp only [Wide_ok ha hb, Wide_s ha hb, cond_true]
theorem r14_product_ok {a b : Int} (ha : I64 a) (hb : I64 b) : r14_product.ok a b = true := r14_product_k _ _ ha hb
theorem r14_product_s {a b : Int} (ha : I64 a) (hb : I64 b) : r14_product a b = (A.hi (a * b), A.lo (a * b)) := r14_product_k _ _ ha hb
theorem inv_product_s {a b : Int} (ha : I64 a) (hb : I64 b) : inv_product a b = (A.hi (a * b), A.lo (a * b)) := by
  unfold inv_product inv_product.c inv_product.c0; simp only [A.word_Wide_s ha hb, id]
theorem less_hl (x y : Int) : (bif decide (A.hi x < A.hi y) then true else (bif A.hi x == A.hi y then decide (A.lo x < A.lo y) else false)) = decide (x < y) := by
  unfold A.hi A.lo
  by_cases h : x / 18446744073709551616 < y / 18446744073709551616
  · rw [decide_eq_true h, decide_eq_true (show x < y by omega)]; rfl
  · rw [decide_eq_false h, cond_false]
    by_cases h2 : x / 18446744073709551616 = y / 18446744073709551616
    · rw [show (x / 18446744073709551616 == y / 18446744073709551616) = true by simpa using h2, cond_true]
      congr 1; apply propext; omega
    · rw [show (x / 18446744073709551616 == y / 18446744073709551616) = false by simpa using h2, cond_false, decide_eq_false (show ¬ x < y by omega)]
theorem r14_wless_s (x y : Int) : r14_less (A.hi x) (A.lo x) (A.hi y) (A.lo y) = decide (x < y) := less_hl x y
theorem inv_wless_s (x y : Int) : inv_wless (A.hi x) (A.lo x) (A.hi y) (A.lo y) = decide (x < y) := less_hl x y
def W127 (x : Int) : Prop := -85070591730234615865843651857942052864 ≤ x ∧ x ≤ 85070591730234615865843651857942052864
theorem mulW {a b : Int} (ha : I64 a) (hb : I64 b) : W127 (a * b) := A.mul_I ha hb
theorem r14_plus_s {x n : Int} (hx : W127 x) (hn : U64 n) : r14_plus (A.hi x) (A.lo x) n = (A.hi (x + n), A.lo (x + n)) := by
  unfold W127 at hx; unfold U64 at hn
  unfold r14_plus r14_plus.c r14_plus.c0 A.hi A.lo
  simp only [id, wu_eq, wi_eq]
  by_cases c : (x % 18446744073709551616 + n) % 18446744073709551616 < n
  · rw [decide_eq_true c, cond_true, Prod.mk.injEq]; constructor <;> omega
  · rw [decide_eq_false c, cond_false, Prod.mk.injEq]; constructor <;> omega
theorem r14_minus_s {x n : Int} (hx : -170141183460469231731687303715884105728 ≤ x - n ∧ x ≤ 85070591730234615865843651857942052864) (hn : U64 n) : r14_minus (A.hi x) (A.lo x) n = (A.hi (x - n), A.lo (x - n)) := by
  unfold U64 at hn
  unfold r14_minus r14_minus.c r14_minus.c0 A.hi A.lo
  simp only [id, wu_eq, wi_eq]
  by_cases c : x % 18446744073709551616 < n
  · rw [decide_eq_true c, cond_true, Prod.mk.injEq]; constructor <;> omega
  · rw [decide_eq_false c, cond_false, Prod.mk.injEq]; constructor <;> omega
theorem r14_small_s (x : Int) : r14_small (A.hi x) (A.lo x) = decide (A.fit x) := by
  unfold r14_small r14_small.c r14_small.c0 A.hi A.lo
  simp only [id]
  by_cases f : A.fit x
  · rw [decide_eq_true f]
    unfold A.fit at f
    by_cases h : x / 18446744073709551616 = 0
    · rw [h, decide_eq_true (show x % 18446744073709551616 ≤ 9223372036854775807 by omega)]; rfl
    · have h2 : x / 18446744073709551616 = -1 := by omega
      rw [h2, decide_eq_true (show x % 18446744073709551616 ≥ 9223372036854775808 by omega)]; rfl
  · rw [decide_eq_false f]
    unfold A.fit at f
    by_cases h : x / 18446744073709551616 = 0
    · rw [h, decide_eq_false (show ¬ x % 18446744073709551616 ≤ 9223372036854775807 by omega)]; rfl
    · rw [show (x / 18446744073709551616 == 0) = false by simpa using h, cond_false, cond_false]
      by_cases h2 : x / 18446744073709551616 = -1
      · rw [h2, decide_eq_false (show ¬ x % 18446744073709551616 ≥ 9223372036854775808 by omega)]; rfl
      · rw [show (x / 18446744073709551616 == -1) = false by simpa using h2, cond_false]
theorem inv_fits_s (x : Int) : inv_fits (A.hi x) (A.lo x) = decide (A.fit x) := A.fit_s x
theorem inv_plus_s {x y : Int} (hx : W127 x) (hy : -18446744073709551616 ≤ y ∧ y ≤ 18446744073709551616) : inv_plus (A.hi x) (A.lo x) (A.hi y) (A.lo y) = (A.hi (x + y), A.lo (x + y)) := by
  unfold W127 at hx
  unfold inv_plus inv_plus.c inv_plus.c0
  rw [B.add64_s (a := A.lo x) (b := A.lo y) (by unfold A.lo U64; omega) (by unfold A.lo U64; omega)]
  unfold A.hi A.lo
  simp only [id, Prod.mk.injEq]
  have a1 : -4611686018427387904 ≤ x / 18446744073709551616 ∧ x / 18446744073709551616 ≤ 4611686018427387904 := by omega
  have a2 : -1 ≤ y / 18446744073709551616 ∧ y / 18446744073709551616 ≤ 1 := by omega
  have a3 : 0 ≤ (x % 18446744073709551616 + y % 18446744073709551616) / 18446744073709551616 ∧ (x % 18446744073709551616 + y % 18446744073709551616) / 18446744073709551616 ≤ 1 := by omega
  rw [wi_id (x := x / 18446744073709551616 + y / 18446744073709551616) (by omega) (by omega), wi_id (x := (x % 18446744073709551616 + y % 18446744073709551616) / 18446744073709551616) (by omega) (by omega), wi_id (by omega) (by omega)]
  constructor <;> omega
theorem inv_minus_s {x y : Int} (hx : W127 x) (hy : -18446744073709551616 ≤ y ∧ y ≤ 18446744073709551616) : inv_minus (A.hi x) (A.lo x) (A.hi y) (A.lo y) = (A.hi (x - y), A.lo (x - y)) := by
  unfold W127 at hx
  unfold inv_minus inv_minus.c inv_minus.c0
  rw [B.sub64_s (a := A.lo x) (b := A.lo y) (by unfold A.lo U64; omega) (by unfold A.lo U64; omega)]
  unfold A.hi A.lo
  simp only [id, Prod.mk.injEq]
  have a1 : -4611686018427387904 ≤ x / 18446744073709551616 ∧ x / 18446744073709551616 ≤ 4611686018427387904 := by omega
  have a2 : -1 ≤ y / 18446744073709551616 ∧ y / 18446744073709551616 ≤ 1 := by omega
  by_cases c : x % 18446744073709551616 < y % 18446744073709551616
  · rw [if_pos c, wi_id (x := x / 18446744073709551616 - y / 18446744073709551616) (by omega) (by omega), wi_id (x := 1) (by omega) (by omega), wi_id (by omega) (by omega)]
    constructor <;> omega
  · rw [if_neg c, wi_id (x := x / 18446744073709551616 - y / 18446744073709551616) (by omega) (by omega), wi_id (x := 0) (by omega) (by omega), wi_id (by omega) (by omega)]
    constructor <;> omega
/-- a range, cut to the numbers of 64 bits -/
def clipS (l h : Int) : Nm := if 9223372036854775807 < l ∨ h < -9223372036854775808 then botS else rangeS (if l < -9223372036854775808 then -9223372036854775808 else l) (if 9223372036854775807 < h then 9223372036854775807 else h)
theorem range_no {l h : Int} (c : h < l) : rangeS l h = botS := by unfold rangeS makeS; rw [if_pos (.inl c)]
theorem inv_clipped_s (l h : Int) : inv_clipped (A.hi l) (A.lo l) (A.hi h) (A.lo h) = clipS l h := by
  unfold inv_clipped inv_clipped.c inv_clipped.c0 clipS
  simp only [inv_fits_s, num_Range_s (B.wi_I _) (B.wi_I _), num_Range_s (B.wi_I _) Imax, num_Range_s Imin (B.wi_I _), num_Range_s Imin Imax, num_Bot_s, id]
  by_cases f1 : A.fit l
  · have e1 : IntKind.i64.wrap (A.lo l) = l := by rw [A.wrap_lo]; unfold A.fit at f1; exact wi_id (by omega) (by omega)
    rw [decide_eq_true f1, cond_true, e1]
    unfold A.fit at f1
    by_cases f2 : A.fit h
    · have e2 : IntKind.i64.wrap (A.lo h) = h := by rw [A.wrap_lo]; unfold A.fit at f2; exact wi_id (by omega) (by omega)
      rw [decide_eq_true f2, cond_true, e2]
      unfold A.fit at f2
      rw [if_neg (by omega), if_neg (by omega), if_neg (by omega)]
    · rw [decide_eq_false f2, cond_false]
      unfold A.fit at f2
      by_cases g : A.hi h < 0
      · rw [decide_eq_true g, cond_true]; unfold A.hi at g; rw [if_pos (by omega)]
      · rw [decide_eq_false g, cond_false]; unfold A.hi at g; rw [if_neg (by omega), if_neg (by omega), if_pos (by omega)]
  · rw [decide_eq_false f1, cond_false]
    unfold A.fit at f1
    by_cases g1 : A.hi l ≥ 0
    · rw [decide_eq_true g1, cond_true]; unfold A.hi at g1; rw [if_pos (by omega)]
    · rw [decide_eq_false g1, cond_false]
      unfold A.hi at g1
      by_cases f2 : A.fit h
      · have e2 : IntKind.i64.wrap (A.lo h) = h := by rw [A.wrap_lo]; unfold A.fit at f2; exact wi_id (by omega) (by omega)
        rw [decide_eq_true f2, cond_true, e2]
        unfold A.fit at f2
        rw [if_neg (by omega), if_pos (by omega), if_neg (by omega)]
      · rw [decide_eq_false f2, cond_false]
        unfold A.fit at f2
        by_cases g : A.hi h < 0
        · rw [decide_eq_true g, cond_true]; unfold A.hi at g; rw [if_pos (by omega)]
        · rw [decide_eq_false g, cond_false]; unfold A.hi at g; rw [if_neg (by omega), if_pos (by omega), if_pos (by omega)]
abbrev DD : Int := 18446744073709551616
theorem wu_d (z : Int) : DD ∣ IntKind.u64.wrap z - z := by rw [wu_eq]; exact ⟨-(z / 18446744073709551616), by unfold DD; omega⟩
theorem newton {x y p : Int} (h : p ∣ x * y - 1) (hp : p * p ∣ DD) : p * p ∣ x * IntKind.u64.wrap (y * IntKind.u64.wrap (2 - IntKind.u64.wrap (x * y))) - 1 := by
  obtain ⟨a, ha⟩ := wu_d (x * y)
  obtain ⟨b, hb⟩ := wu_d (2 - IntKind.u64.wrap (x * y))
  obtain ⟨c, hc⟩ := wu_d (y * IntKind.u64.wrap (2 - IntKind.u64.wrap (x * y)))
  obtain ⟨e, he⟩ := h
  have e1 : IntKind.u64.wrap (x * y) = x * y + DD * a := by omega
  have e2 : IntKind.u64.wrap (2 - IntKind.u64.wrap (x * y)) = 2 - x * y + DD * (b - a) := by rw [Int.mul_sub]; omega
  have e3 : IntKind.u64.wrap (y * IntKind.u64.wrap (2 - IntKind.u64.wrap (x * y))) = y * (2 - x * y + DD * (b - a)) + DD * c := by rw [← e2]; omega
  rw [e3]
  have key : x * (y * (2 - x * y + DD * (b - a)) + DD * c) - 1 = -((x * y - 1) * (x * y - 1)) + DD * (x * y * (b - a) + x * c) := by
    have q : x * (y * (2 - x * y + DD * (b - a)) + DD * c) = (x * y) * (2 - x * y) + DD * (x * y * (b - a) + x * c) := by
      rw [Int.mul_add, ← Int.mul_assoc, Int.mul_add (x * y), Int.mul_add DD, ← Int.mul_assoc (x * y) DD, Int.mul_comm (x * y) DD, ← Int.mul_assoc x DD, Int.mul_comm x DD, Int.mul_assoc DD, Int.mul_assoc DD]
      omega
    rw [q]
    generalize x * y = t
    have : t * (2 - t) = 2 * t - t * t := by rw [Int.mul_sub]; omega
    have h2 : (t - 1) * (t - 1) = t * t - 2 * t + 1 := by rw [Int.sub_mul, Int.mul_sub]; omega
    rw [this, h2]; omega
  rw [key, he]
  refine Int.dvd_add (Int.dvd_neg.2 ⟨e * e, by rw [Int.mul_assoc p e, Int.mul_left_comm e p e, Int.mul_assoc p p]⟩) (Int.dvd_trans hp (Int.dvd_mul_right _ _))
theorem inverse_spec {v : Int} (hv : I64 v) (ho : v % 2 = 1) : I64 (inv_inverse v) ∧ DD ∣ v * inv_inverse v - 1 := by
  unfold inv_inverse inv_inverse.c inv_inverse.c0
  simp only [id]
  have e1 : IntKind.u64.wrap (1 * IntKind.u64.wrap (2 - IntKind.u64.wrap (IntKind.u64.wrap v * 1))) = IntKind.u64.wrap (1 * IntKind.u64.wrap (2 - IntKind.u64.wrap (IntKind.u64.wrap v * 1))) := rfl
  generalize hx : IntKind.u64.wrap v = x
  have h0 : (2 : Int) ∣ x * 1 - 1 := by rw [← hx, wu_eq]; omega
  have h1 := newton (y := 1) h0 (by decide)
  have h2 := newton h1 (by decide)
  have h3 := newton h2 (by decide)
  have h4 := newton h3 (by decide)
  have h5 := newton h4 (by decide)
  have h6 := newton h5 (by decide)
  generalize IntKind.u64.wrap (IntKind.u64.wrap (IntKind.u64.wrap (IntKind.u64.wrap (IntKind.u64.wrap (IntKind.u64.wrap (1 * IntKind.u64.wrap (2 - IntKind.u64.wrap (x * 1))) * IntKind.u64.wrap (2 - IntKind.u64.wrap (x * IntKind.u64.wrap (1 * IntKind.u64.wrap (2 - IntKind.u64.wrap (x * 1)))))) * _) * _) * _) * _) = y at h6 ⊢
  refine ⟨B.wi_I _, ?_⟩
  have a := wu_d v
  rw [hx] at a
  obtain ⟨c, hc⟩ := a
  obtain ⟨d, hd⟩ : DD ∣ IntKind.i64.wrap y - y := ⟨-((y + 9223372036854775808) / 18446744073709551616), by unfold DD; rw [wi_eq]; omega⟩
  have e : v * IntKind.i64.wrap y - 1 = (x * y - 1) + DD * (v * d - c * y) := by
    have p : IntKind.i64.wrap y = y + DD * d := by omega
    have q : x = v + DD * c := by omega
    rw [p, q, Int.mul_add, Int.add_mul, Int.mul_sub, Int.mul_left_comm v DD d, Int.mul_assoc DD c y]
    omega
  rw [e]
  exact Int.dvd_add h6 (Int.dvd_mul_right _ _)
theorem opp_L (N : Nat) {v : Int} (hv : I64 v) (ho : v % 2 = 1) : ∀ (m i : Nat) (w has : Int), 1 ≤ i → i ≤ 64 → 65 ≤ i + m → 0 ≤ w → w < 2 ^ i → 0 ≤ has → has < DD → (2 : Int) ^ i ∣ has - 1 → DD ∣ v * w - has →
    ∃ z, r14_opposite.L0 N m (v, w, has, (i : Int)) = some z ∧ I64 z ∧ DD ∣ v * z - 1
  | 0, i, w, has, h1, h64, hi, w0, w1, a0, a1, hd, hm => by omega
  | m + 1, i, w, has, h1, h64, hi, w0, w1, a0, a1, hd, hm => by
    unfold r14_opposite.L0 r14_opposite.l0.c r14_opposite.l0.c0
    by_cases h : i = 64
    · subst h
      have e : decide (((64 : Nat) : Int) < 64) = false := by decide
      simp only [e, cond_false]
      refine ⟨_, rfl, B.wi_I _, ?_⟩
      obtain ⟨d, hd'⟩ : DD ∣ IntKind.i64.wrap w - w := ⟨-((w + 9223372036854775808) / 18446744073709551616), by unfold DD; rw [wi_eq]; omega⟩
      have e2 : v * IntKind.i64.wrap w - 1 = (v * w - has) + (has - 1) + DD * (v * d) := by
        rw [show IntKind.i64.wrap w = w + DD * d by omega, Int.mul_add, Int.mul_left_comm v DD d]; omega
      rw [e2]
      exact Int.dvd_add (Int.dvd_add hm (by simpa using hd)) (Int.dvd_mul_right _ _)
    · have e : decide ((i : Int) < 64) = true := by simp; omega
      have e2 : decide ((i : Int) < 0) = false := by simp
      have e3 : ((i : Int) == 0) = false := by simp; omega
      have ei : IntKind.i64.wrap ((i : Int) + 1) = ((i + 1 : Nat) : Int) := by rw [wi_id (by omega) (by omega)]; omega
      simp only [e, e2, e3, ei, Bool.not_false, cond_true, cond_false, Bool.true_and, Bool.and_true, Bool.true_or, fdivp _ i (show i ≤ 64 by omega), shl_p _ i (show i ≤ 64 by omega)]
      obtain ⟨c, hc⟩ := hd
      have hp : (0 : Int) < 2 ^ i := Int.pow_pos (by decide)
      have hp2 : (2 : Int) ≤ 2 ^ i := by
        obtain ⟨j, rfl⟩ : ∃ j, i = j + 1 := ⟨i - 1, by omega⟩
        have := Int.pow_pos (n := 2) (m := j) (by decide)
        rw [Int.pow_succ]; omega
      have hdiv : has / 2 ^ i = c := by
        rw [show has = 1 + 2 ^ i * c by omega, Int.add_mul_ediv_left _ _ (by omega), Int.ediv_eq_zero_of_lt (by decide) (by omega)]; omega
      have hc0 : 0 ≤ c := by rw [← hdiv]; exact Int.ediv_nonneg a0 (by omega)
      have hb : (has / 2 ^ i).tmod 2 = c % 2 := by rw [hdiv, Int.tmod_eq_emod_of_nonneg hc0]
      rw [hb]
      have hs : (2 : Int) ^ (i + 1) = 2 ^ i * 2 := Int.pow_succ ..
      by_cases hodd : c % 2 = 0
      · rw [show (c % 2 != 0) = false by simpa using hodd]
        simp only [cond_false]
        refine opp_L N hv ho m (i + 1) w has (by omega) (by omega) (by omega) w0 (by rw [hs]; omega) a0 a1 ⟨c / 2, by rw [hs, Int.mul_assoc, show 2 * (c / 2) = c by omega]; exact hc⟩ hm
      · rw [show (c % 2 != 0) = true by simpa using hodd]
        simp only [cond_true]
        have hpl : (2 : Int) ^ i ≤ 9223372036854775808 := by
          have : (2 : Int) ^ i ≤ 2 ^ 63 := by
            have := Nat.pow_le_pow_right (n := 2) (by decide) (show i ≤ 63 by omega)
            exact_mod_cast this
          exact this
        have et : (1 : Int) * 2 ^ i % 18446744073709551616 = 2 ^ i := by rw [Int.one_mul]; exact Int.emod_eq_of_lt (by omega) (by omega)
        have eor : orI .u64 w ((1 : Int) * 2 ^ i % 18446744073709551616) = w + 2 ^ i := by
          rw [et, B.or_comm2]
          have := B.or_two (a := 1) (b := w) (s := i) (by decide) w0 w1 (by omega) (by omega)
          rw [Int.one_mul] at this
          rw [this]; omega
        rw [eor]
        have hw : ∃ z, IntKind.u64.wrap (has + IntKind.u64.wrap v * 2 ^ i % 18446744073709551616) = has + v * 2 ^ i + DD * z := by
          obtain ⟨z1, h1⟩ := wu_d v
          obtain ⟨z2, h2⟩ := wu_d (has + IntKind.u64.wrap v * 2 ^ i % 18446744073709551616)
          refine ⟨z1 * 2 ^ i - (IntKind.u64.wrap v * 2 ^ i) / 18446744073709551616 + z2, ?_⟩
          have q : IntKind.u64.wrap v * 2 ^ i = v * 2 ^ i + DD * (z1 * 2 ^ i) := by rw [show IntKind.u64.wrap v = v + DD * z1 by omega, Int.add_mul, Int.mul_assoc]
          rw [Int.mul_add, Int.mul_sub]
          unfold DD at *
          omega
        obtain ⟨z, hz⟩ := hw
        have hr : 0 ≤ IntKind.u64.wrap (has + IntKind.u64.wrap v * 2 ^ i % 18446744073709551616) ∧ IntKind.u64.wrap (has + IntKind.u64.wrap v * 2 ^ i % 18446744073709551616) < DD := by unfold DD; rw [wu_eq]; omega
        generalize IntKind.u64.wrap (has + IntKind.u64.wrap v * 2 ^ i % 18446744073709551616) = has' at *
        refine opp_L N hv ho m (i + 1) (w + 2 ^ i) has' (by omega) (by omega) (by omega) (by omega) (by rw [hs]; omega) hr.1 hr.2 ?_ ?_
        · obtain ⟨t, ht⟩ : (2 : Int) ^ (i + 1) ∣ DD := ⟨2 ^ (64 - (i + 1)), by rw [← Int.pow_add, show i + 1 + (64 - (i + 1)) = 64 by omega]; rfl⟩
          have q : has' - 1 = 2 ^ (i + 1) * ((c + v) / 2 + t * z) := by
            rw [hz, Int.mul_add, ← Int.mul_assoc, ← ht, hs, Int.mul_assoc, show 2 * ((c + v) / 2) = c + v by omega, Int.mul_add, Int.mul_comm v]
            omega
          exact ⟨_, q⟩
        · rw [hz]
          obtain ⟨u, hu⟩ := hm
          exact ⟨u - z, by rw [Int.mul_add, Int.mul_sub]; omega⟩
theorem opp_o {v : Int} (hv : I64 v) (ho : v % 2 = 1) : ∃ z, r14_opposite.o 67 v = some z ∧ I64 z ∧ DD ∣ v * z - 1 := by
  unfold r14_opposite.o r14_opposite.c
  unfold r14_opposite.L0 r14_opposite.l0.c r14_opposite.l0.c0
  have e1 : decide ((0 : Int) < 64) = true := by decide
  have e2 : decide ((0 : Int) < 0) = false := by decide
  have e4 : ((0 : Int).fdiv (2 ^ min (Int.toNat 0) IntKind.u64.bits)).tmod 2 = 0 := by decide
  have e5 : IntKind.u64.wrap (1 * 2 ^ min (Int.toNat 0) IntKind.u64.bits) = 1 := by decide
  have e6 : orI .u64 0 1 = 1 := or_bit (by decide) (by decide) (by decide) (by decide) (by decide)
  have e7 : IntKind.i64.wrap (0 + 1) = ((1 : Nat) : Int) := by decide
  have e8 : IntKind.u64.wrap (IntKind.u64.wrap v * 2 ^ min (Int.toNat 0) IntKind.u64.bits) = IntKind.u64.wrap v := by
    have : (2 : Int) ^ min (Int.toNat 0) IntKind.u64.bits = 1 := by decide
    rw [this, Int.mul_one, wu_eq, wu_eq]; omega
  have e9 : IntKind.u64.wrap (0 + IntKind.u64.wrap v) = IntKind.u64.wrap v := by rw [wu_eq, wu_eq]; omega
  simp only [e1, e2, e4, e5, e6, e7, e8, e9, Bool.not_false, cond_true, show ((0 : Int) == 0) = true from rfl, show ((0 : Int) != 1) = true from rfl, Bool.true_and, Bool.and_true, Bool.true_or]
  refine opp_L 67 hv ho 66 1 1 (IntKind.u64.wrap v) (by decide) (by decide) (by decide) (by decide) (by decide) (by rw [wu_eq]; omega) (by unfold DD; rw [wu_eq]; omega) (by rw [wu_eq]; simp; omega) ?_
  obtain ⟨c, hc⟩ := wu_d v
  exact ⟨-c, by rw [Int.mul_neg]; omega⟩
theorem opp_spec {v : Int} (hv : I64 v) (ho : v % 2 = 1) : r14_opposite.g v = true ∧ I64 (r14_opposite v) ∧ DD ∣ v * r14_opposite v - 1 := by
  obtain ⟨z, e, h⟩ := opp_o hv ho
  refine ⟨by unfold r14_opposite.g; rw [hide_eq, e]; rfl, ?_⟩
  have : r14_opposite v = z := by unfold r14_opposite; rw [hide_eq, e]; rfl
  rw [this]; exact h
theorem odd_dvd {v d : Int} (ho : v % 2 = 1) : ∀ (i : Nat), (2 : Int) ^ i ∣ v * d → (2 : Int) ^ i ∣ d
  | 0, _ => Int.one_dvd _
  | i + 1, h => by
    have h1 : (2 : Int) ^ i ∣ v * d := Int.dvd_trans ⟨2, Int.pow_succ ..⟩ h
    obtain ⟨c, hc⟩ := odd_dvd ho i h1
    obtain ⟨e, he⟩ := h
    have hp : (2 : Int) ^ i ≠ 0 := by have := Int.pow_pos (n := 2) (m := i) (by decide); omega
    have q : v * c = 2 * e := by
      have : (2 : Int) ^ i * (v * c) = 2 ^ i * (2 * e) := by rw [Int.mul_left_comm, ← hc, he, Int.pow_succ, Int.mul_assoc]
      exact Int.eq_of_mul_eq_mul_left hp this
    have : c % 2 = 0 := by
      have h01 : c % 2 = 0 ∨ c % 2 = 1 := by omega
      rcases h01 with h0 | h0
      · exact h0
      · have : (v * c) % 2 = 1 := by rw [Int.mul_emod, ho, h0]; rfl
        omega
    exact ⟨c / 2, by rw [hc, Int.pow_succ, Int.mul_assoc, show 2 * (c / 2) = c by omega]⟩
theorem inverse_eq {v : Int} (hv : I64 v) (ho : v % 2 = 1) : r14_opposite v = inv_inverse v := by
  obtain ⟨a1, a2⟩ := inverse_spec hv ho
  obtain ⟨_, b1, b2⟩ := opp_spec hv ho
  have h : (2 : Int) ^ 64 ∣ v * (r14_opposite v - inv_inverse v) := by
    have := Int.dvd_sub b2 a2
    rw [Int.mul_sub]
    rwa [show v * r14_opposite v - 1 - (v * inv_inverse v - 1) = v * r14_opposite v - v * inv_inverse v by omega] at this
  obtain ⟨c, hc⟩ := odd_dvd ho 64 h
  unfold I64 at a1 b1
  have : (2 : Int) ^ 64 = 18446744073709551616 := by decide
  rw [this] at hc
  omega
end Go.Proofs.YtonpbbhlmapbdaaGreatDoor.V
