/- The document's words: sums by carries, products by shifted copies, long division, exact products. Conditions: none. -/
import Derived.Test.YtfcgmfefdgcmjaaDoorQ1
set_option linter.unusedVariables false
set_option linter.unusedSimpArgs false
namespace Go.Proofs.YtfcgmfefdgcmjaaDoor.V
open Go Go.Wk Go.RowKit


theorem xorU (a b : Int) : xorI .u64 a b = (((a % 18446744073709551616).toNat ^^^ (b % 18446744073709551616).toNat : Nat) : Int) := by
  rw [xorI_eq, wu_eq]
  have e : IntKind.u64.bits = 64 := rfl
  rw [BitVec.toNat_xor, BitVec.toNat_ofInt, BitVec.toNat_ofInt, e]
  have e2 : ((2 ^ 64 : Nat) : Int) = 18446744073709551616 := by decide
  rw [e2]
  have h1 : (a % 18446744073709551616).toNat ^^^ (b % 18446744073709551616).toNat < 2 ^ 64 := Nat.xor_lt_two_pow (by omega) (by omega)
  omega
theorem xor_and_sum : ∀ (n x y : Nat), x + y ≤ n → x + y = (x ^^^ y) + 2 * (x &&& y)
  | 0, x, y, h => by
    obtain rfl : x = 0 := by omega
    obtain rfl : y = 0 := by omega
    rfl
  | n + 1, x, y, h => by
    by_cases h0 : x = 0 ∧ y = 0
    · obtain ⟨rfl, rfl⟩ := h0; rfl
    · have ih := xor_and_sum n (x / 2) (y / 2) (by omega)
      have a1 : (x ^^^ y) / 2 = x / 2 ^^^ y / 2 := Nat.xor_div_two
      have a2 : (x &&& y) / 2 = x / 2 &&& y / 2 := Nat.and_div_two
      have b1 : (x ^^^ y) % 2 = (x + y) % 2 := by
        rcases Nat.mod_two_eq_zero_or_one (x ^^^ y) with h | h
        · have : ¬ ((x ^^^ y) % 2 = 1) := by omega
          rw [Nat.xor_mod_two_eq_one] at this
          rcases Nat.mod_two_eq_zero_or_one x with p | p <;> rcases Nat.mod_two_eq_zero_or_one y with q | q <;> simp [p, q] at this <;> omega
        · have := h
          rw [Nat.xor_mod_two_eq_one] at this
          rcases Nat.mod_two_eq_zero_or_one x with p | p <;> rcases Nat.mod_two_eq_zero_or_one y with q | q <;> simp [p, q] at this <;> omega
      have b2 : (x &&& y) % 2 = if x % 2 = 1 ∧ y % 2 = 1 then 1 else 0 := by
        split
        · rename_i h; exact Nat.and_mod_two_eq_one.2 h
        · rename_i h
          rcases Nat.mod_two_eq_zero_or_one (x &&& y) with p | p
          · exact p
          · exact (h (Nat.and_mod_two_eq_one.1 p)).elim
      rw [← a1, ← a2] at ih
      split at b2 <;> omega
theorem and_dvd {x y n : Nat} (h : 2 ^ n ∣ y) : 2 ^ n ∣ x &&& y := by
  rw [Nat.dvd_iff_mod_eq_zero] at h ⊢
  rw [Nat.and_mod_two_pow, h, Nat.and_zero]
theorem wshift1 (x : Int) : IntKind.u64.wrap (x * 2 ^ min (Int.toNat 1) IntKind.u64.bits) = (x * 2) % 18446744073709551616 := by
  rw [wu_eq]; rfl
theorem Add_L (N : Nat) : ∀ (m i x y : Nat), i ≤ 64 → 65 ≤ i + m → x < 18446744073709551616 → y < 18446744073709551616 → 2 ^ i ∣ y → w1_Add.L0 N m ((x : Int), (y : Int)) = some (IntKind.i64.wrap ((x : Int) + y))
  | 0, i, x, y, h64, hi, hx, hy, hd => by omega
  | m + 1, i, x, y, h64, hi, hx, hy, hd => by
    unfold w1_Add.L0 w1_Add.l0.c w1_Add.l0.c0
    by_cases h0 : y = 0
    · subst h0
      have e : (((0 : Nat) : Int) != 0) = false := by decide
      simp only [e, cond_false]
      simp
    · have e : ((y : Int) != 0) = true := by simp; omega
      have hlt : i < 64 := by
        by_cases h : i = 64
        · subst h
          have := Nat.le_of_dvd (by omega) hd
          omega
        · omega
      simp only [e, cond_true, wshift1, andU, xorU]
      have hs := xor_and_sum _ x y (Nat.le_refl _)
      have hxl : x ^^^ y < 2 ^ 64 := Nat.xor_lt_two_pow (by omega) (by omega)
      have e1 : ((x : Int) % 18446744073709551616).toNat = x := by omega
      have e2 : ((y : Int) % 18446744073709551616).toNat = y := by omega
      have e3 : (((x &&& y : Nat) : Int) * 2) % 18446744073709551616 = ((((x &&& y) * 2) % 18446744073709551616 : Nat) : Int) := by omega
      rw [e1, e2, e3]
      have ha := and_dvd (x := x) hd
      have hd2 : 2 ^ (i + 1) ∣ ((x &&& y) * 2) % 18446744073709551616 := by
        have h1 : 2 ^ (i + 1) ∣ (x &&& y) * 2 := by rw [Nat.pow_succ]; exact Nat.mul_dvd_mul ha (Nat.dvd_refl 2)
        have h2 : 2 ^ (i + 1) ∣ 18446744073709551616 := Nat.pow_dvd_pow 2 (show i + 1 ≤ 64 by omega)
        exact (Nat.dvd_mod_iff h2).2 h1
      rw [Add_L N m (i + 1) _ _ (by omega) (by omega) hxl (Nat.mod_lt _ (by decide)) hd2]
      congr 1
      rw [wi_eq, wi_eq]
      omega
theorem Add_o (a b : Int) : w1_Add.o 67 a b = some (IntKind.i64.wrap (a + b)) := by
  unfold w1_Add.o w1_Add.c w1_Add.c0
  have e1 : IntKind.u64.wrap a = (((a % 18446744073709551616).toNat : Nat) : Int) := by rw [wu_eq]; omega
  have e2 : IntKind.u64.wrap b = (((b % 18446744073709551616).toNat : Nat) : Int) := by rw [wu_eq]; omega
  rw [e1, e2, Add_L 67 67 0 _ _ (by omega) (by omega) (by omega) (by omega) (Nat.one_dvd _)]
  congr 1
  rw [wi_eq, wi_eq]; omega
theorem Add_g (a b : Int) : w1_Add.g a b = true := by unfold w1_Add.g; rw [hide_eq, Add_o]; rfl
theorem Add_s (a b : Int) : w1_Add a b = IntKind.i64.wrap (a + b) := by unfold w1_Add; rw [hide_eq, Add_o]; rfl
theorem m1u : (if IntKind.u64.signed = true then -1 else IntKind.u64.max) = 18446744073709551615 := by decide
theorem xor_all {x : Int} (h : 0 ≤ x ∧ x < 18446744073709551616) : xorI .u64 18446744073709551615 x = 18446744073709551615 - x := by
  have hs := xor_and_sum _ 18446744073709551615 x.toNat (Nat.le_refl _)
  have ha : 18446744073709551615 &&& x.toNat = x.toNat := by
    rw [Nat.and_comm, show (18446744073709551615 : Nat) = 2 ^ 64 - 1 from rfl, Nat.and_two_pow_sub_one_eq_mod]
    omega
  rw [ha] at hs
  rw [xorU, show ((18446744073709551615 : Int) % 18446744073709551616).toNat = 18446744073709551615 from rfl, show (x % 18446744073709551616).toNat = x.toNat by omega]
  omega
theorem Neg_k {γ : Type} (n : γ) (k : Int → γ) (a : Int) : w1_Neg.c n k a = k (IntKind.i64.wrap (-a)) := by
  unfold w1_Neg.c w1_Neg.c0
  simp only [m1u, Add_g, Add_s, cond_true]
  congr 1
  rw [xor_all (by rw [wu_eq]; omega), wi_eq, wi_eq, wi_eq, wu_eq]
  omega
theorem Neg_ok (a : Int) : w1_Neg.ok a = true := Neg_k _ _ a
theorem Neg_s (a : Int) : w1_Neg a = IntKind.i64.wrap (-a) := Neg_k _ _ a
theorem Sub_k {γ : Type} (n : γ) (k : Int → γ) (a b : Int) : w1_Sub.c n k a b = k (IntKind.i64.wrap (a - b)) := by
  unfold w1_Sub.c w1_Sub.c0
  simp only [Neg_ok, Neg_s, Add_g, Add_s, cond_true]
  congr 1
  rw [wi_eq, wi_eq, wi_eq]; omega
theorem Sub_ok (a b : Int) : w1_Sub.ok a b = true := Sub_k _ _ a b
theorem Sub_s (a b : Int) : w1_Sub a b = IntKind.i64.wrap (a - b) := Sub_k _ _ a b
theorem Abs_k {γ : Type} (n : γ) (k : Int → γ) {a : Int} (h : I64 a) : w1_Abs.c n k a = k (av a) := by
  unfold w1_Abs.c w1_Abs.c0 av
  simp only [Neg_ok, Neg_s, cond_true]
  unfold I64 at h
  by_cases c : a < 0
  · rw [decide_eq_true c, if_pos c, cond_true]; congr 1; rw [wi_eq, wu_eq]; omega
  · rw [decide_eq_false c, if_neg c, cond_false]; congr 1; rw [wu_eq]; omega
theorem Abs_ok {a : Int} (h : I64 a) : w1_Abs.ok a = true := Abs_k _ _ h
theorem Abs_s {a : Int} (h : I64 a) : w1_Abs a = av a := Abs_k _ _ h
/-! products -/
theorem fdivp (x : Int) (i : Nat) (hi : i ≤ 64) : x.fdiv (2 ^ min (Int.toNat (i : Int)) IntKind.u64.bits) = x / 2 ^ i := by
  have : IntKind.u64.bits = 64 := rfl
  rw [this, Int.toNat_natCast, Nat.min_eq_left hi, Int.fdiv_eq_ediv_of_nonneg _ (Int.pow_nonneg (by decide))]
theorem shl_p (x : Int) (i : Nat) (hi : i ≤ 64) : IntKind.u64.wrap (x * 2 ^ min (Int.toNat (i : Int)) IntKind.u64.bits) = (x * 2 ^ i) % 18446744073709551616 := by
  have : IntKind.u64.bits = 64 := rfl
  rw [this, Int.toNat_natCast, Nat.min_eq_left hi, wu_eq]
theorem Mul_L (N : Nat) (a b : Int) (U : Nat) (hU : (U : Int) = b % 18446744073709551616) : ∀ (m i : Nat), i ≤ 64 → 65 ≤ i + m →
    w1_Mul.L0 N m (b, IntKind.i64.wrap (a * ((U % 2 ^ i : Nat) : Int)), IntKind.u64.wrap a, (i : Int)) = some (IntKind.i64.wrap (a * b))
  | 0, i, h64, hi => by omega
  | m + 1, i, h64, hi => by
    unfold w1_Mul.L0 w1_Mul.l0.c w1_Mul.l0.c0
    by_cases h : i = 64
    · subst h
      have e : decide (((64 : Nat) : Int) < 64) = false := by decide
      simp only [e, cond_false]
      congr 1
      have hlt : U % 2 ^ 64 = U := Nat.mod_eq_of_lt (by omega)
      rw [hlt, hU, wi_eq, wi_eq]
      have := Int.emod_add_mul_ediv b 18446744073709551616
      have q : a * (b % 18446744073709551616) = a * b - 18446744073709551616 * (a * (b / 18446744073709551616)) := by
        rw [show b % 18446744073709551616 = b - 18446744073709551616 * (b / 18446744073709551616) by omega, Int.mul_sub, Int.mul_left_comm]
      omega
    · have e : decide ((i : Int) < 64) = true := by simp; omega
      have e2 : decide ((i : Int) < 0) = false := by simp
      simp only [e, e2, Bool.not_false, cond_true, Add_g, Add_s, Bool.true_and, Bool.and_true, Bool.true_or, fdivp _ i (by omega), shl_p _ i (by omega)]
      have ei : IntKind.i64.wrap ((i : Int) + 1) = ((i + 1 : Nat) : Int) := by rw [wi_id (by omega) (by omega)]; omega
      have eu : IntKind.u64.wrap b = (U : Int) := by rw [wu_eq, hU]
      have et : ((U : Int) / 2 ^ i).tmod 2 = ((U / 2 ^ i % 2 : Nat) : Int) := by
        have : (U : Int) / 2 ^ i = ((U / 2 ^ i : Nat) : Int) := by push_cast; rfl
        rw [this]; rfl
      rw [ei, eu, et]
      have hs : ((U % 2 ^ (i + 1) : Nat) : Int) = ((U % 2 ^ i : Nat) : Int) + 2 ^ i * ((U / 2 ^ i % 2 : Nat) : Int) := by
        rw [Nat.mod_pow_succ]; push_cast; rfl
      have ih := Mul_L N a b U hU m (i + 1) (by omega) (by omega)
      rcases Nat.mod_two_eq_zero_or_one (U / 2 ^ i) with hb | hb
      · rw [hb] at hs ⊢
        rw [show (((0 : Nat) : Int) == 1) = false from rfl]
        simp only [cond_false]
        rw [hs] at ih
        simpa using ih
      · rw [hb] at hs ⊢
        rw [show (((1 : Nat) : Int) == 1) = true from rfl]
        simp only [cond_true]
        rw [hs] at ih
        have q : IntKind.i64.wrap (IntKind.i64.wrap (a * ((U % 2 ^ i : Nat) : Int)) + IntKind.i64.wrap (IntKind.u64.wrap a * 2 ^ i % 18446744073709551616)) = IntKind.i64.wrap (a * (((U % 2 ^ i : Nat) : Int) + 2 ^ i * ((1 : Nat) : Int))) := by
          have w : IntKind.u64.wrap a * 2 ^ i = a * 2 ^ i - 18446744073709551616 * (a / 18446744073709551616 * 2 ^ i) := by
            rw [wu_eq, show a % 18446744073709551616 = a - 18446744073709551616 * (a / 18446744073709551616) by omega, Int.sub_mul, Int.mul_assoc]
          have w2 : a * (((U % 2 ^ i : Nat) : Int) + 2 ^ i * ((1 : Nat) : Int)) = a * ((U % 2 ^ i : Nat) : Int) + a * 2 ^ i := by
            rw [Int.mul_add]; simp
          rw [w, w2, wi_eq, wi_eq, wi_eq, wi_eq]
          generalize a * ((U % 2 ^ i : Nat) : Int) = p
          generalize a * 2 ^ i = r
          generalize a / 18446744073709551616 * 2 ^ i = z
          omega
        rw [q]; exact ih
theorem Mul_o (a b : Int) : w1_Mul.o 67 a b = some (IntKind.i64.wrap (a * b)) := by
  unfold w1_Mul.o w1_Mul.c w1_Mul.c0
  have e : (((b % 18446744073709551616).toNat : Nat) : Int) = b % 18446744073709551616 := by omega
  have := Mul_L 67 a b _ e 67 0 (by omega) (by omega)
  simpa [Nat.mod_one, wi_eq] using this
theorem Mul_g (a b : Int) : w1_Mul.g a b = true := by unfold w1_Mul.g; rw [hide_eq, Mul_o]; rfl
theorem Mul_s (a b : Int) : w1_Mul a b = IntKind.i64.wrap (a * b) := by unfold w1_Mul; rw [hide_eq, Mul_o]; rfl

theorem or_bit {e b : Int} (h0 : 0 ≤ e) (h1 : e < 18446744073709551616) (h2 : e % 2 = 0) (hb : 0 ≤ b) (hb2 : b < 2) : orI .u64 e b = e + b := by
  have := or_two (a := e / 2) (b := b) (s := 1) (by omega) hb (by simpa using hb2) (by omega) (by decide)
  rwa [show e / 2 * 2 ^ 1 = e by omega] at this
theorem cast_bit (X k : Nat) : ((X : Int) / 2 ^ k).tmod 2 = ((X / 2 ^ k % 2 : Nat) : Int) := by
  have : (X : Int) / 2 ^ k = ((X / 2 ^ k : Nat) : Int) := by push_cast; rfl
  rw [this]; rfl
theorem div_step {T Y b : Nat} (hY : 0 < Y) (hb : b < 2) :
    (2 * T + b) / Y = 2 * (T / Y) + (if Y ≤ 2 * (T % Y) + b then 1 else 0) ∧ (2 * T + b) % Y = (if Y ≤ 2 * (T % Y) + b then 2 * (T % Y) + b - Y else 2 * (T % Y) + b) := by
  have h := Nat.div_add_mod T Y
  have hm := Nat.mod_lt T hY
  generalize hq : T / Y = q at *
  generalize hr : T % Y = r at *
  have e : 2 * T + b = Y * (2 * q) + (2 * r + b) := by rw [← h, Nat.mul_add, Nat.mul_left_comm]; omega
  by_cases c : Y ≤ 2 * r + b
  · rw [if_pos c, if_pos c]
    have e2 : 2 * T + b = Y * (2 * q + 1) + (2 * r + b - Y) := by rw [e, Nat.mul_add]; omega
    rw [e2]
    constructor
    · rw [Nat.mul_add_div hY, Nat.div_eq_of_lt (by omega)]
    · rw [Nat.mul_add_mod, Nat.mod_eq_of_lt (by omega)]
  · rw [if_neg c, if_neg c, e]
    constructor
    · rw [Nat.mul_add_div hY, Nat.div_eq_of_lt (by omega)]
    · rw [Nat.mul_add_mod, Nat.mod_eq_of_lt (by omega)]
theorem long_L (N : Nat) {X Y : Nat} (hX : X < 18446744073709551616) (hY : 0 < Y) (hY2 : Y < 18446744073709551616) : ∀ (c m : Nat), c ≤ 64 → c + 1 ≤ m →
    w1_long.L0 N m ((X : Int), (Y : Int), ((X / 2 ^ c / Y * 2 ^ c : Nat) : Int), ((X / 2 ^ c % Y : Nat) : Int), (c : Int) - 1) = some (((X / Y : Nat) : Int), ((X % Y : Nat) : Int))
  | _, 0, _, h => by omega
  | 0, m + 1, _, _ => by
    unfold w1_long.L0 w1_long.l0.c w1_long.l0.c0
    have e : decide (((0 : Nat) : Int) - 1 ≥ 0) = false := by decide
    simp only [e, cond_false]
    simp
  | k + 1, m + 1, hc, hm => by
    unfold w1_long.L0 w1_long.l0.c w1_long.l0.c0
    have e8 : ((k + 1 : Nat) : Int) - 1 = (k : Int) := by omega
    have d1 : decide ((k : Int) ≥ 0) = true := by simp
    have d2 : decide ((k : Int) < 0) = false := by simp
    have ew : IntKind.i64.wrap ((k : Int) - 1) = (k : Int) - 1 := wi_id (by omega) (by omega)
    have hT : X / 2 ^ k = 2 * (X / 2 ^ (k + 1)) + X / 2 ^ k % 2 := by
      rw [Nat.pow_succ, ← Nat.div_div_eq_div_mul]; omega
    have hb2 : X / 2 ^ k % 2 < 2 := Nat.mod_lt _ (by decide)
    obtain ⟨s1, s2⟩ := div_step (T := X / 2 ^ (k + 1)) (b := X / 2 ^ k % 2) hY hb2
    rw [← hT] at s1 s2
    have hr := Nat.mod_lt (X / 2 ^ (k + 1)) hY
    have ih := long_L N hX hY hY2 k m (by omega) (by omega)
    have hQ : X / 2 ^ (k + 1) / Y * 2 ^ (k + 1) ≤ X := Nat.le_trans (Nat.mul_le_mul_right _ (Nat.div_le_self _ _)) (Nat.div_mul_le_self _ _)
    have hp : (2 : Nat) ^ k < 18446744073709551616 := Nat.lt_of_lt_of_le (Nat.pow_lt_pow_right (by decide) (show k < 64 by omega)) (by decide)
    have et1 : IntKind.u64.wrap (1 * 2 ^ min (Int.toNat (k : Int)) IntKind.u64.bits) = ((2 ^ k : Nat) : Int) := by
      rw [shl_p 1 k (by omega)]
      have : (1 : Int) * 2 ^ k = ((2 ^ k : Nat) : Int) := by rw [Int.one_mul]; push_cast; rfl
      rw [this]
      refine Int.emod_eq_of_lt (Int.natCast_nonneg _) ?_
      generalize (2 : Nat) ^ k = p at hp ⊢
      omega
    have eor : orI .u64 ((X / 2 ^ (k + 1) / Y * 2 ^ (k + 1) : Nat) : Int) ((2 ^ k : Nat) : Int) = ((X / 2 ^ (k + 1) / Y * 2 ^ (k + 1) + 2 ^ k : Nat) : Int) := by
      have := or_two (a := ((X / 2 ^ (k + 1) / Y : Nat) : Int)) (b := ((2 ^ k : Nat) : Int)) (s := k + 1) (Int.natCast_nonneg _) (Int.natCast_nonneg _) (by exact_mod_cast Nat.pow_lt_pow_right (by decide) (Nat.lt_succ_self k)) (by
        have : ((X / 2 ^ (k + 1) / Y : Nat) : Int) * 2 ^ (k + 1) = ((X / 2 ^ (k + 1) / Y * 2 ^ (k + 1) : Nat) : Int) := by push_cast; rfl
        rw [this]; omega) (by omega)
      rw [show ((X / 2 ^ (k + 1) / Y * 2 ^ (k + 1) : Nat) : Int) = ((X / 2 ^ (k + 1) / Y : Nat) : Int) * 2 ^ (k + 1) by push_cast; rfl, this]
      push_cast; rfl
    have hpow : X / 2 ^ (k + 1) / Y * 2 ^ (k + 1) = 2 * (X / 2 ^ (k + 1) / Y) * 2 ^ k := by rw [Nat.pow_succ]; rw [Nat.mul_comm (2 ^ k) 2, ← Nat.mul_assoc, Nat.mul_comm _ 2]
    simp only [e8, d1, d2, ew, et1, eor, Bool.not_false, cond_true, Bool.true_and, Bool.and_true, Bool.true_or, wshift1, fdivp _ k (show k ≤ 64 by omega), cast_bit]
    generalize X / 2 ^ k % 2 = b at *
    generalize hrr : X / 2 ^ (k + 1) % Y = r at *
    generalize hqq : X / 2 ^ (k + 1) / Y = q at *
    have eb : orI .u64 ((r : Int) * 2 % 18446744073709551616) (b : Int) = (r : Int) * 2 % 18446744073709551616 + b := or_bit (by omega) (by omega) (by omega) (by omega) (by omega)
    rw [eb]
    by_cases ov : r ≥ 9223372036854775808
    · rw [decide_eq_true (show (r : Int) ≥ 9223372036854775808 by omega), cond_true]
      rw [if_pos (by omega)] at s1 s2
      rw [s1, s2] at ih
      rw [← ih]
      congr 1
      rw [Prod.mk.injEq, Prod.mk.injEq, Prod.mk.injEq, Prod.mk.injEq]
      refine ⟨rfl, rfl, ?_, ?_, rfl⟩
      · congr 1; rw [hpow, Nat.add_mul]; omega
      · rw [wu_eq]; omega
    · rw [decide_eq_false (show ¬ (r : Int) ≥ 9223372036854775808 by omega), cond_false]
      have er : (r : Int) * 2 % 18446744073709551616 = (r : Int) * 2 := by omega
      rw [er]
      by_cases ge : Y ≤ 2 * r + b
      · rw [decide_eq_true (show (r : Int) * 2 + b ≥ Y by omega)]
        simp only [cond_true]
        rw [if_pos ge] at s1 s2
        rw [s1, s2] at ih
        rw [← ih]
        congr 1
        rw [Prod.mk.injEq, Prod.mk.injEq, Prod.mk.injEq, Prod.mk.injEq]
        refine ⟨rfl, rfl, ?_, ?_, rfl⟩
        · congr 1; rw [hpow, Nat.add_mul]; omega
        · rw [wu_eq]; omega
      · rw [decide_eq_false (show ¬ (r : Int) * 2 + b ≥ Y by omega)]
        simp only [cond_true, cond_false]
        rw [if_neg ge] at s1 s2
        rw [s1, s2] at ih
        rw [← ih]
        congr 1
        rw [Prod.mk.injEq, Prod.mk.injEq, Prod.mk.injEq, Prod.mk.injEq]
        refine ⟨rfl, rfl, ?_, ?_, rfl⟩
        · congr 1
        · omega
theorem long_o {x y : Int} (hx : U64 x) (hy : U64 y) (h0 : y ≠ 0) : w1_long.o 67 x y = some (x / y, x % y) := by
  unfold U64 at hx hy
  unfold w1_long.o w1_long.c
  obtain ⟨X, rfl⟩ := Int.eq_ofNat_of_zero_le hx.1
  obtain ⟨Y, rfl⟩ := Int.eq_ofNat_of_zero_le hy.1
  have := long_L 67 (X := X) (Y := Y) (by omega) (by omega) (by omega) 64 67 (by omega) (by omega)
  rw [show X / 2 ^ 64 = 0 from Nat.div_eq_of_lt (by omega)] at this
  simpa using this
theorem long_g {x y : Int} (hx : U64 x) (hy : U64 y) (h0 : y ≠ 0) : w1_long.g x y = true := by unfold w1_long.g; rw [hide_eq, long_o hx hy h0]; rfl
theorem long_s {x y : Int} (hx : U64 x) (hy : U64 y) (h0 : y ≠ 0) : w1_long x y = (x / y, x % y) := by unfold w1_long; rw [hide_eq, long_o hx hy h0]; rfl

theorem av_ne {v : Int} (h : v ≠ 0) : av v ≠ 0 := by unfold av; split <;> omega
theorem tdiv_av {a b : Int} (hb : b ≠ 0) : a.tdiv b = if (a < 0) ↔ (b < 0) then av a / av b else -(av a / av b) := by
  unfold av
  by_cases h1 : a < 0 <;> by_cases h2 : b < 0
  · rw [if_pos h1, if_pos h2, if_pos (by simp [h1, h2]), ← Int.tdiv_eq_ediv_of_nonneg (by omega), Int.neg_tdiv, Int.tdiv_neg, Int.neg_neg]
  · rw [if_pos h1, if_neg h2, if_neg (by simp [h1, h2]), ← Int.tdiv_eq_ediv_of_nonneg (by omega), Int.neg_tdiv, Int.neg_neg]
  · rw [if_neg h1, if_pos h2, if_neg (by simp [h1, h2]), ← Int.tdiv_eq_ediv_of_nonneg (by omega), Int.tdiv_neg, Int.neg_neg]
  · rw [if_neg h1, if_neg h2, if_pos (by simp [h1, h2]), ← Int.tdiv_eq_ediv_of_nonneg (by omega)]
theorem tmod_av {a b : Int} (hb : b ≠ 0) : a.tmod b = if a < 0 then -(av a % av b) else av a % av b := by
  unfold av
  by_cases h1 : a < 0 <;> by_cases h2 : b < 0
  · rw [if_pos h1, if_pos h2, if_pos h1, ← Int.tmod_eq_emod_of_nonneg (by omega), Int.neg_tmod, Int.tmod_neg, Int.neg_neg]
  · rw [if_pos h1, if_neg h2, if_pos h1, ← Int.tmod_eq_emod_of_nonneg (by omega), Int.neg_tmod, Int.neg_neg]
  · rw [if_neg h1, if_pos h2, if_neg h1, ← Int.tmod_eq_emod_of_nonneg (by omega), Int.tmod_neg]
  · rw [if_neg h1, if_neg h2, if_neg h1, ← Int.tmod_eq_emod_of_nonneg (by omega)]
theorem Div_k {γ : Type} (n : γ) (k : Int × Bool → γ) {a b : Int} (ha : I64 a) (hb : I64 b) : w1_Div.c n k a b = k (if b = 0 then (0, false) else (IntKind.i64.wrap (a.tdiv b), true)) := by
  unfold w1_Div.c w1_Div.c0
  by_cases h0 : b = 0
  · subst h0; rfl
  · have e0 : (b == 0) = false := by simpa using h0
    simp only [e0, cond_false, if_neg h0, Abs_ok ha, Abs_ok hb, Abs_s ha, Abs_s hb, long_g (av_U ha) (av_U hb) (av_ne h0), long_s (av_U ha) (av_U hb) (av_ne h0), Neg_ok, Neg_s, cond_true]
    rw [tdiv_av h0]
    by_cases h1 : a < 0 <;> by_cases h2 : b < 0
    · rw [decide_eq_true h1, decide_eq_true h2, if_pos (by simp [h1, h2])]; rfl
    · rw [decide_eq_true h1, decide_eq_false h2, if_neg (by simp [h1, h2])]
      show k (IntKind.i64.wrap (-IntKind.i64.wrap _), true) = _
      congr 2; rw [wi_eq, wi_eq, wi_eq]; omega
    · rw [decide_eq_false h1, decide_eq_true h2, if_neg (by simp [h1, h2])]
      show k (IntKind.i64.wrap (-IntKind.i64.wrap _), true) = _
      congr 2; rw [wi_eq, wi_eq, wi_eq]; omega
    · rw [decide_eq_false h1, decide_eq_false h2, if_pos (by simp [h1, h2])]; rfl
theorem Div_ok {a b : Int} (ha : I64 a) (hb : I64 b) : w1_Div.ok a b = true := Div_k _ _ ha hb
theorem Div_s {a b : Int} (ha : I64 a) (hb : I64 b) : w1_Div a b = if b = 0 then (0, false) else (IntKind.i64.wrap (a.tdiv b), true) := Div_k _ _ ha hb
theorem Rem_k {γ : Type} (n : γ) (k : Int × Bool → γ) {a b : Int} (ha : I64 a) (hb : I64 b) : w1_Rem.c n k a b = k (if b = 0 then (0, false) else (a.tmod b, true)) := by
  unfold w1_Rem.c w1_Rem.c0
  by_cases h0 : b = 0
  · subst h0; rfl
  · have e0 : (b == 0) = false := by simpa using h0
    simp only [e0, cond_false, if_neg h0, Abs_ok ha, Abs_ok hb, Abs_s ha, Abs_s hb, long_g (av_U ha) (av_U hb) (av_ne h0), long_s (av_U ha) (av_U hb) (av_ne h0), Neg_ok, Neg_s, cond_true]
    have hI := tmodI b ha
    rw [tmod_av h0] at hI ⊢
    have p := Int.emod_nonneg (av a) (av_ne h0)
    by_cases h1 : a < 0
    · rw [if_pos h1] at hI ⊢
      rw [decide_eq_true h1, cond_true]
      unfold I64 at hI
      congr 2; rw [wi_eq, wi_eq]; omega
    · rw [if_neg h1] at hI ⊢
      rw [decide_eq_false h1, cond_false]
      unfold I64 at hI
      congr 2; rw [wi_eq]; omega
theorem Rem_ok {a b : Int} (ha : I64 a) (hb : I64 b) : w1_Rem.ok a b = true := Rem_k _ _ ha hb
theorem Rem_s {a b : Int} (ha : I64 a) (hb : I64 b) : w1_Rem a b = if b = 0 then (0, false) else (a.tmod b, true) := Rem_k _ _ ha hb
theorem Gcd_L (N : Nat) : ∀ (m : Nat) (a b : Int), U64 a → U64 b → b < m → w1_Gcd.L0 N m (a, b) = some (gg a b)
  | 0, a, b, ha, hb, h => by unfold U64 at hb; omega
  | m + 1, a, b, ha, hb, h => by
    unfold w1_Gcd.L0 w1_Gcd.l0.c w1_Gcd.l0.c0
    by_cases h0 : b = 0
    · subst h0
      show some a = _
      rw [gg_zero ha.1]
    · have e : (b != 0) = true := by simpa using h0
      have p := Int.emod_nonneg a h0
      have q := Int.emod_lt_of_pos a (show 0 < b by unfold U64 at hb; omega)
      simp only [e, cond_true, long_g ha hb h0, long_s ha hb h0]
      rw [Gcd_L N m b (a % b) hb (by unfold U64 at *; omega) (by omega), gg_step ha.1 hb.1]
theorem Gcd_o {a b : Int} (ha : U64 a) (hb : U64 b) : w1_Gcd.o (b.toNat + 2) a b = some (gg a b) := by
  unfold w1_Gcd.o w1_Gcd.c
  exact Gcd_L _ _ a b ha hb (by unfold U64 at hb; omega)
theorem Gcd_g {a b : Int} (ha : U64 a) (hb : U64 b) : w1_Gcd.g a b = true := by unfold w1_Gcd.g; rw [hide_eq, Gcd_o ha hb]; rfl
theorem Gcd_s {a b : Int} (ha : U64 a) (hb : U64 b) : w1_Gcd a b = gg a b := by unfold w1_Gcd; rw [hide_eq, Gcd_o ha hb]; rfl
theorem Mod_k {γ : Type} (n : γ) (k : Int → γ) {v m : Int} (hv : I64 v) (hm : U64 m) : w1_Mod.c n k v m = k (md v m) := by
  unfold w1_Mod.c w1_Mod.c0 md
  by_cases h0 : m = 0
  · subst h0; rfl
  · have e0 : (m == 0) = false := by simpa using h0
    simp only [e0, cond_false, if_neg h0, Abs_ok hv, Abs_s hv, long_g (av_U hv) hm h0, long_s (av_U hv) hm h0, cond_true]
    have hm0 : 0 < m := by unfold U64 at hm; omega
    have p := Int.emod_nonneg (av v) h0
    have q := Int.emod_lt_of_pos (av v) hm0
    by_cases h1 : v < 0
    · have e : av v = -v := by unfold av; rw [if_pos h1]
      have hn := neg_mod (A := av v) hm0
      rw [e] at hn p q ⊢
      rw [Int.neg_neg] at hn
      rw [decide_eq_true h1, cond_true, hn]
      by_cases h2 : -v % m = 0
      · rw [h2]; rfl
      · rw [decide_eq_true (show -v % m > 0 by omega), if_neg h2, cond_true]
        congr 1; unfold U64 at hm; rw [wu_eq]; omega
    · have e : av v = v := by unfold av; rw [if_neg h1]
      rw [e, decide_eq_false h1]
      rfl
theorem Mod_ok {v m : Int} (hv : I64 v) (hm : U64 m) : w1_Mod.ok v m = true := Mod_k _ _ hv hm
theorem Mod_s {v m : Int} (hv : I64 v) (hm : U64 m) : w1_Mod v m = md v m := Mod_k _ _ hv hm

theorem prod32 {x y : Int} (hx : 0 ≤ x) (hx2 : x < 4294967296) (hy : 0 ≤ y) (hy2 : y < 4294967296) : 0 ≤ x * y ∧ x * y ≤ 18446744065119617025 := mul_bound hx hx2 hy hy2
theorem Full_s {a b : Int} (ha : U64 a) (hb : U64 b) : w1_Full a b = (a * b / 18446744073709551616, a * b % 18446744073709551616) := by
  unfold U64 at ha hb
  unfold w1_Full w1_Full.c w1_Full.c0
  have d : ∀ z : Int, 0 ≤ z → z.tdiv 4294967296 = z / 4294967296 := fun z h => Int.tdiv_eq_ediv_of_nonneg h
  have m : ∀ z : Int, 0 ≤ z → z.tmod 4294967296 = z % 4294967296 := fun z h => Int.tmod_eq_emod_of_nonneg h
  have wn : ∀ z : Int, 0 ≤ IntKind.u64.wrap z := fun z => by rw [wu_eq]; omega
  simp only [d a ha.1, d b hb.1, m a ha.1, m b hb.1, d _ (wn _), m _ (wn _), id]
  have eab : a * b = (a / 4294967296) * (b / 4294967296) * 18446744073709551616 + ((a / 4294967296) * (b % 4294967296) + (a % 4294967296) * (b / 4294967296)) * 4294967296 + (a % 4294967296) * (b % 4294967296) := by
    conv => lhs; rw [show a = a / 4294967296 * 4294967296 + a % 4294967296 by omega, show b = b / 4294967296 * 4294967296 + b % 4294967296 by omega]
    generalize a / 4294967296 = x1
    generalize a % 4294967296 = x0
    generalize b / 4294967296 = y1
    generalize b % 4294967296 = y0
    simp only [Int.add_mul, Int.mul_add]
    have e1 : x1 * 4294967296 * (y1 * 4294967296) = x1 * y1 * 18446744073709551616 := by
      rw [Int.mul_assoc, Int.mul_left_comm 4294967296, ← Int.mul_assoc, ← Int.mul_assoc]; rw [Int.mul_assoc (x1 * y1)]; rfl
    have e2 : x1 * 4294967296 * y0 = x1 * y0 * 4294967296 := by rw [Int.mul_right_comm]
    have e3 : x0 * (y1 * 4294967296) = x0 * y1 * 4294967296 := by rw [Int.mul_assoc]
    rw [e1, e2, e3]; omega
  have w1 : IntKind.u64.wrap (a / 4294967296) = a / 4294967296 := wu_id (by omega) (by omega)
  have w2 : IntKind.u64.wrap (b / 4294967296) = b / 4294967296 := wu_id (by omega) (by omega)
  simp only [w1, w2]
  have p1 := prod32 (x := a / 4294967296) (y := b / 4294967296) (by omega) (by omega) (by omega) (by omega)
  have p2 := prod32 (x := a / 4294967296) (y := b % 4294967296) (by omega) (by omega) (by omega) (by omega)
  have p3 := prod32 (x := a % 4294967296) (y := b / 4294967296) (by omega) (by omega) (by omega) (by omega)
  have p4 := prod32 (x := a % 4294967296) (y := b % 4294967296) (by omega) (by omega) (by omega) (by omega)
  rw [eab]
  generalize a / 4294967296 * (b / 4294967296) = q1 at *
  generalize a / 4294967296 * (b % 4294967296) = q2 at *
  generalize a % 4294967296 * (b / 4294967296) = q3 at *
  generalize a % 4294967296 * (b % 4294967296) = q4 at *
  clear eab d m wn
  simp only [wu_eq, Prod.mk.injEq]
  constructor <;> omega
theorem av_mul (a b : Int) : av a * av b = if (a < 0) ↔ (b < 0) then a * b else -(a * b) := by
  unfold av
  by_cases h1 : a < 0 <;> by_cases h2 : b < 0
  · rw [if_pos h1, if_pos h2, if_pos (by simp [h1, h2]), Int.neg_mul_neg]
  · rw [if_pos h1, if_neg h2, if_neg (by simp [h1, h2]), Int.neg_mul]
  · rw [if_neg h1, if_pos h2, if_neg (by simp [h1, h2]), Int.mul_neg]
  · rw [if_neg h1, if_neg h2, if_pos (by simp [h1, h2])]
theorem Wide_k {γ : Type} (n : γ) (k : Int × Int → γ) {a b : Int} (ha : I64 a) (hb : I64 b) : w1_Wide.c n k a b = k (hi (a * b), lo (a * b)) := by
  unfold w1_Wide.c w1_Wide.c0
  have hP := mul_I ha hb
  have e := av_mul a b
  simp only [Abs_ok ha, Abs_ok hb, Abs_s ha, Abs_s hb, Full_s (av_U ha) (av_U hb), m1u, cond_true]
  have hp0 : 0 ≤ av a * av b := Int.mul_nonneg (av_U ha).1 (av_U hb).1
  have hle : av a * av b ≤ 85070591730234615865843651857942052864 := by rw [e]; split <;> omega
  generalize av a * av b = P at *
  rw [xor_all (x := P % 18446744073709551616) (by omega), xor_all (x := P / 18446744073709551616) (by omega)]
  unfold hi lo
  by_cases h1 : a < 0 <;> by_cases h2 : b < 0
  · rw [if_pos (by simp [h1, h2])] at e
    simp only [h1, h2, decide_true, beq_self_eq_true, Bool.not_true, cond_false]
    congr 1; rw [Prod.mk.injEq, wi_eq]; omega
  · rw [if_neg (by simp [h1, h2])] at e
    simp only [h1, h2, decide_true, decide_false, show (true == false) = false from rfl, Bool.not_false, cond_true]
    congr 1
    rw [Prod.mk.injEq, wu_eq, wu_eq]
    by_cases z : (18446744073709551615 - P % 18446744073709551616 + 1) % 18446744073709551616 = 0
    · rw [z, show ((0 : Int) == 0) = true from rfl, cond_true, wi_eq]; omega
    · rw [show ((18446744073709551615 - P % 18446744073709551616 + 1) % 18446744073709551616 == 0) = false by simpa using z, cond_false, wi_eq]; omega
  · rw [if_neg (by simp [h1, h2])] at e
    simp only [h1, h2, decide_true, decide_false, show (false == true) = false from rfl, Bool.not_false, cond_true]
    congr 1
    rw [Prod.mk.injEq, wu_eq, wu_eq]
    by_cases z : (18446744073709551615 - P % 18446744073709551616 + 1) % 18446744073709551616 = 0
    · rw [z, show ((0 : Int) == 0) = true from rfl, cond_true, wi_eq]; omega
    · rw [show ((18446744073709551615 - P % 18446744073709551616 + 1) % 18446744073709551616 == 0) = false by simpa using z, cond_false, wi_eq]; omega
  · rw [if_pos (by simp [h1, h2])] at e
    simp only [h1, h2, decide_false, beq_self_eq_true, Bool.not_true, cond_false]
    congr 1; rw [Prod.mk.injEq, wi_eq]; omega
theorem Wide_ok {a b : Int} (ha : I64 a) (hb : I64 b) : w1_Wide.ok a b = true := Wide_k _ _ ha hb
theorem Wide_s {a b : Int} (ha : I64 a) (hb : I64 b) : w1_Wide a b = (hi (a * b), lo (a * b)) := Wide_k _ _ ha hb
end Go.Proofs.YtfcgmfefdgcmjaaDoor.V
