/- The document's products, common divisors, remainders; normal forms, order, members. Conditions: none. -/
import Derived.Test.YtoggbmfjkcbilaaDoorN5
set_option linter.unusedVariables false
set_option linter.unusedSimpArgs false
namespace Go.Proofs.YtoggbmfjkcbilaaDoor.V
open Go Go.Wk

theorem UD {x : Int} (h : U64 x) : D x := by unfold U64 at h; unfold D; omega
theorem sm {x : Int} (h : U64 x) : x / 18446744073709551616 = 0 ∧ x % 18446744073709551616 = x := by unfold U64 at h; omega
theorem of_u {x : Int} (h : U64 x) : ref_of x = (x / 18446744073709551616, x % 18446744073709551616) := by
  rw [of_s, (sm h).1, (sm h).2]
theorem times2_L (N : Nat) {a b c0 c1 : Int} (ha : U64 a) (hb : U64 b) : ∀ (i m : Nat), i ≤ 64 → i < m →
    ref_times.L0 N m (a, b, (i : Int) - 1, c0, c1, a * (b / 2 ^ i) / 18446744073709551616, a * (b / 2 ^ i) % 18446744073709551616) = some (a * b / 18446744073709551616, a * b % 18446744073709551616)
  | 0, 0, _, h => by omega
  | 0, m + 1, hi, hm => by
    unfold ref_times.L0 ref_times.l0.c
    (try unfold ref_times.l0.c0)
    simp only [Bool.cond_decide]
    rw [if_neg (by omega)]
    simp
  | i + 1, 0, _, h => by omega
  | i + 1, m + 1, hi, hm => by
    have ih := times2_L N (c0 := c0) (c1 := c1) ha hb i m (by omega) (by omega)
    have hX := half b i
    have hp : (0 : Int) < 2 ^ i := Int.pow_pos (by decide)
    have hp1 : (0 : Int) < 2 ^ (i + 1) := Int.pow_pos (by decide)
    have hbit : 0 ≤ b / 2 ^ i % 2 ∧ b / 2 ^ i % 2 < 2 := by omega
    have hbi : U64 (b / 2 ^ i) := by
      unfold U64 at *
      exact ⟨Int.ediv_nonneg hb.1 (by omega), Int.lt_of_le_of_lt (Int.ediv_le_self _ hb.1) hb.2⟩
    have hbi1 : U64 (b / 2 ^ (i + 1)) := by
      unfold U64 at *
      exact ⟨Int.ediv_nonneg hb.1 (by omega), Int.lt_of_le_of_lt (Int.ediv_le_self _ hb.1) hb.2⟩
    have m0 := mul_U ha hbi
    have m1 := mul_U ha hbi1
    have hs : a * (b / 2 ^ i) = 2 * (a * (b / 2 ^ (i + 1))) + a * (b / 2 ^ i % 2) := by
      conv => lhs; rw [hX]
      rw [Int.mul_add, Int.mul_left_comm]
    have ab0 : b / 2 ^ i % 2 = 0 → a * (b / 2 ^ i % 2) = 0 := fun h => by rw [h]; simp
    have ab1 : b / 2 ^ i % 2 = 1 → a * (b / 2 ^ i % 2) = a := fun h => by rw [h]; simp
    have ei : IntKind.i64.wrap (((i + 1 : Nat) : Int) - 1 - 1) = (i : Int) - 1 := by rw [wi_id (by omega) (by omega)]; omega
    have ei2 : ((i + 1 : Nat) : Int) - 1 = (i : Int) := by omega
    have ha' := ha
    unfold U64 at ha'
    have h2 : 2 * (a * (b / 2 ^ (i + 1))) < 340282366920938463463374607431768211456 := by
      by_cases h : b / 2 ^ i % 2 = 0
      · have := ab0 h; omega
      · have := ab1 (by omega); omega
    unfold ref_times.L0 ref_times.l0.c
    (try unfold ref_times.l0.c0)
    simp only [Bool.cond_decide, ei]
    rw [if_pos (by omega), ei2, twice0 (by unfold D; omega) h2]
    simp only [cbd, cbe]
    rw [if_neg (by omega), Int.toNat_natCast, shr_k i (by omega), and_one]
    simp only [wu_eq]
    generalize a * (b / 2 ^ (i + 1)) = s at hs h2 m1
    by_cases h : b / 2 ^ i % 2 = 1
    · have e := ab1 h
      rw [e] at hs
      rw [hs] at ih m0
      rw [if_pos h]
      by_cases g : (2 * s % 18446744073709551616 + a) % 18446744073709551616 < a
      · rw [if_pos g, ← ih]
        congr 2
        simp only [Prod.mk.injEq, true_and]
        omega
      · rw [if_neg g, ← ih]
        congr 2
        simp only [Prod.mk.injEq, true_and]
        omega
    · have e := ab0 (by omega)
      rw [e] at hs
      rw [hs] at ih m0
      rw [if_neg h, ← ih]
      simp only [Int.add_zero]
theorem times2_o {a b : Int} (ha : U64 a) (hb : U64 b) : ref_times.o 66 a b = some (a * b / 18446744073709551616, a * b % 18446744073709551616) := by
  have key := times2_L 66 (c0 := 0) (c1 := 0) ha hb 64 66 (by decide) (by decide)
  have e : b / 2 ^ 64 = 0 := by
    unfold U64 at hb
    have : (2 : Int) ^ 64 = 18446744073709551616 := by decide
    rw [this]; omega
  rw [e] at key
  simp only [Int.mul_zero, Int.zero_ediv, Int.zero_emod] at key
  unfold ref_times.o ref_times.c
  exact key
theorem times2_g {a b : Int} (ha : U64 a) (hb : U64 b) : ref_times.g a b = true := by unfold ref_times.g; rw [hide_eq, times2_o ha hb]; rfl
theorem times2_s {a b : Int} (ha : U64 a) (hb : U64 b) : ref_times a b = (a * b / 18446744073709551616, a * b % 18446744073709551616) := by unfold ref_times; rw [hide_eq, times2_o ha hb]; rfl
theorem gcd2_L (N : Nat) : ∀ (m : Nat) (a b c0 c1 : Int), D a → D b → b < m → ref_gcd.L0 N m (a / 18446744073709551616, a % 18446744073709551616, b / 18446744073709551616, b % 18446744073709551616, c0, c1) = some (gg a b / 18446744073709551616, gg a b % 18446744073709551616)
  | 0, a, b, _, _, ha, hb, hm => by unfold D at hb; omega
  | m + 1, a, b, c0, c1, ha, hb, hm => by
    unfold ref_gcd.L0 ref_gcd.l0.c
    (try unfold ref_gcd.l0.c0)
    simp only
    by_cases h : b = 0
    · subst h
      rw [gg_zero ha.1]; simp
    · have hb0 : 0 < b := by unfold D at hb; omega
      have e : (b / 18446744073709551616 == 0 && (b % 18446744073709551616 == 0 && true)) = false := by
        rw [Bool.and_true, Bool.and_eq_false_iff]
        by_cases g : b / 18446744073709551616 = 0
        · right; simp; omega
        · left; simpa using g
      rw [e, parted_g ha hb hb0, parted_s ha hb hb0]
      simp only [Bool.not_false, cond_true]
      have h1 := Int.emod_nonneg a (show b ≠ 0 from h)
      have h2 := Int.emod_lt_of_pos a hb0
      rw [gcd2_L N m b (a % b) c0 c1 hb (by unfold D at *; omega) (by omega), gg_step ha.1 hb.1]
theorem fuel2 {b : Int} (hb : D b) : b < (((b / 18446744073709551616).toNat * 18446744073709551616 + (b % 18446744073709551616).toNat + 2 : Nat) : Int) := by
  unfold D at hb
  have e1 : (((b / 18446744073709551616).toNat : Nat) : Int) = b / 18446744073709551616 := Int.toNat_of_nonneg (by omega)
  have e2 : (((b % 18446744073709551616).toNat : Nat) : Int) = b % 18446744073709551616 := Int.toNat_of_nonneg (by omega)
  rw [Int.natCast_add, Int.natCast_add, Int.natCast_mul, e1, e2, show ((18446744073709551616 : Nat) : Int) = 18446744073709551616 from rfl, show ((2 : Nat) : Int) = 2 from rfl]
  omega
theorem gcd2_o' {a b : Int} (F : Nat) (ha : D a) (hb : D b) (hF : b < F) : ref_gcd.o F (a / 18446744073709551616) (a % 18446744073709551616) (b / 18446744073709551616) (b % 18446744073709551616) = some (gg a b / 18446744073709551616, gg a b % 18446744073709551616) := by
  unfold ref_gcd.o ref_gcd.c
  exact gcd2_L F F a b 0 0 ha hb hF
theorem gcd2_o {a b : Int} (ha : D a) (hb : D b) : ref_gcd.o ((b / 18446744073709551616).toNat * 18446744073709551616 + (b % 18446744073709551616).toNat + 2) (a / 18446744073709551616) (a % 18446744073709551616) (b / 18446744073709551616) (b % 18446744073709551616) = some (gg a b / 18446744073709551616, gg a b % 18446744073709551616) := by
  exact gcd2_o' _ ha hb (fuel2 hb)
theorem gcd2_g {a b : Int} (ha : D a) (hb : D b) : ref_gcd.g (a / 18446744073709551616) (a % 18446744073709551616) (b / 18446744073709551616) (b % 18446744073709551616) = true := by
  unfold ref_gcd.g; rw [hide_eq, gcd2_o ha hb]; rfl
theorem gcd2_s {a b : Int} (ha : D a) (hb : D b) : ref_gcd (a / 18446744073709551616) (a % 18446744073709551616) (b / 18446744073709551616) (b % 18446744073709551616) = (gg a b / 18446744073709551616, gg a b % 18446744073709551616) := by
  unfold ref_gcd; rw [hide_eq, gcd2_o ha hb]; rfl
theorem gg_D {a b : Int} (ha : D a) (hb : D b) : D (gg a b) := by
  unfold D at *
  refine ⟨gg_nonneg a b, ?_⟩
  by_cases h : a = 0
  · by_cases h' : b = 0
    · subst h h'; decide
    · rw [gg_comm]; have := gg_le hb.1 ha.1 h'; omega
  · have := gg_le ha.1 hb.1 h; omega
def av (v : Int) : Int := if v < 0 then -v else v
theorem far2_s {v : Int} (hv : I64 v) : ref_far v = av v := by
  unfold I64 at hv
  unfold ref_far ref_far.c ref_far.c0 av
  simp only [Bool.cond_decide, id, wu_eq]
  by_cases h : v < 0
  · simp only [if_pos h]; omega
  · simp only [if_neg h]; omega
theorem av_U {v : Int} (hv : I64 v) : U64 (av v) := by unfold I64 at hv; unfold U64 av; split <;> omega
/-- a raw class's remainder, in normal form -/
def nr (m r : Int) : Int := if m = 0 then r else r % m
/-- a raw class's whole number -/
def val (m r : Int) : Int := if m = 0 then IntKind.i64.wrap r else r % m
theorem val_nr (m r : Int) : vc m (nr m r) = val m r := by unfold vc nr val; by_cases h : m = 0 <;> simp [h]
theorem nr_U {m r : Int} (hm : U64 m) (hr : U64 r) : U64 (nr m r) := by
  unfold nr; by_cases h : m = 0
  · rw [if_pos h]; exact hr
  · rw [if_neg h]; exact (emod_U hm h).2.2
theorem norm_k {γ : Type} (n : γ) (k : Int × Int → γ) {m r : Int} (hm : U64 m) (hr : U64 r) : cong_Norm.c n k m r = k (m, nr m r) := by
  unfold U64 at *
  unfold cong_Norm.c nr
  (try unfold cong_Norm.c0)
  simp only [Bool.cond_decide, cbd]
  by_cases h : m = 0
  · rw [if_neg (by omega), if_pos h]
  · rw [if_pos (by omega), if_neg h, if_neg h, Int.tmod_eq_emod_of_nonneg hr.1]
theorem norm_s {m r : Int} (hm : U64 m) (hr : U64 r) : cong_Norm m r = (m, nr m r) := norm_k _ _ hm hr
theorem norm2_k {γ : Type} (n : γ) (k : Int × Int → γ) {m r : Int} (hm : U64 m) (hr : U64 r) : ref_Norm.c n k m r = k (m, nr m r) := by
  unfold U64 at *
  unfold ref_Norm.c nr
  (try unfold ref_Norm.c0)
  simp only [Bool.cond_decide, cbd]
  by_cases h : m = 0
  · rw [if_neg (by omega), if_pos h]
  · rw [if_pos (by omega), if_neg h, if_neg h, Int.tmod_eq_emod_of_nonneg hr.1]
theorem norm2_s {m r : Int} (hm : U64 m) (hr : U64 r) : ref_Norm m r = (m, nr m r) := norm2_k _ _ hm hr
theorem r_k {γ : Type} (n : γ) (k : Int × Int × Bool → γ) {m r : Int} (hm : U64 m) (hr : U64 r) : ref_r.c n k m r = k (av (val m r) / 18446744073709551616, av (val m r) % 18446744073709551616, decide (val m r < 0)) := by
  have en : ref_number m r = IntKind.i64.wrap r := by unfold ref_number ref_number.c; (try unfold ref_number.c0); rfl
  unfold ref_r.c val
  (try unfold ref_r.c0)
  simp only [en, far2_s (i64u r), cbe, cbd]
  by_cases h : m = 0
  · simp only [if_pos h, of_u (av_U (i64u r))]
  · have := (emod_U (x := r) hm h)
    unfold U64 at *
    simp only [if_neg h, Int.tmod_eq_emod_of_nonneg hr.1]
    have e : av (r % m) = r % m := by unfold av; rw [if_neg (by omega)]
    rw [e, of_u this.2.2, decide_eq_false (by omega)]
theorem r_ok {m r : Int} (hm : U64 m) (hr : U64 r) : ref_r.ok m r = true := r_k _ _ hm hr
theorem r_s {m r : Int} (hm : U64 m) (hr : U64 r) : ref_r m r = (av (val m r) / 18446744073709551616, av (val m r) % 18446744073709551616, decide (val m r < 0)) := r_k _ _ hm hr
theorem val_b {m r : Int} (hm : U64 m) (hr : U64 r) : -9223372036854775808 ≤ val m r ∧ val m r < 18446744073709551616 := by
  unfold val
  by_cases h : m = 0
  · rw [if_pos h]; have := i64u r; unfold I64 at this; omega
  · rw [if_neg h]; have := emod_U (x := r) hm h; unfold U64 at hm; omega
theorem av_val {m r : Int} (hm : U64 m) (hr : U64 r) : U64 (av (val m r)) := by
  have := val_b hm hr
  unfold U64 av; split <;> omega
theorem neg_mod {A m : Int} (h0 : 0 < m) : (-A) % m = if A % m = 0 then 0 else m - A % m := by
  have h1 := Int.emod_nonneg A (show m ≠ 0 by omega)
  have h2 := Int.emod_lt_of_pos A h0
  have h3 := Int.emod_add_mul_ediv A m
  by_cases h : A % m = 0
  · rw [if_pos h]
    refine mod_of (q := -(A / m)) ?_ (by omega) (by omega)
    rw [Int.mul_neg]; omega
  · rw [if_neg h]
    refine mod_of (q := -(A / m) - 1) ?_ (by omega) (by omega)
    rw [Int.mul_sub, Int.mul_neg, Int.mul_one]; omega
theorem rest2_k {γ : Type} (n : γ) (k : Int × Int → γ) {A m : Int} (b : Bool) (hA : D A) (hm : D m) (h0 : 0 < m) : ref_rest.c n k (A / 18446744073709551616) (A % 18446744073709551616) b (m / 18446744073709551616) (m % 18446744073709551616) = k ((if b then -A else A) % m / 18446744073709551616, (if b then -A else A) % m % 18446744073709551616) := by
  unfold ref_rest.c
  (try unfold ref_rest.c0)
  simp only [parted_g hA hm h0, parted_s hA hm h0, cond_true]
  cases b with
  | false => rfl
  | true =>
    have h1 := Int.emod_nonneg A (show m ≠ 0 by omega)
    have h2 := Int.emod_lt_of_pos A h0
    have hAm : D (A % m) := by unfold D at *; omega
    simp only [cond_true, if_true]
    rw [minus2_s hm hAm, neg_mod h0]
    by_cases h : A % m = 0
    · rw [if_pos h, h]; rfl
    · have e : (A % m / 18446744073709551616 == 0 && (A % m % 18446744073709551616 == 0 && true)) = false := by
        rw [Bool.and_true, Bool.and_eq_false_iff]
        by_cases g : A % m / 18446744073709551616 = 0
        · right; simp; omega
        · left; simpa using g
      rw [if_neg h, e]
      simp only [Bool.not_false, cond_true]
      unfold D at hm
      congr 2
      omega
theorem rest2_ok {A m : Int} (b : Bool) (hA : D A) (hm : D m) (h0 : 0 < m) : ref_rest.ok (A / 18446744073709551616) (A % 18446744073709551616) b (m / 18446744073709551616) (m % 18446744073709551616) = true := rest2_k _ _ b hA hm h0
theorem rest2_s {A m : Int} (b : Bool) (hA : D A) (hm : D m) (h0 : 0 < m) : ref_rest (A / 18446744073709551616) (A % 18446744073709551616) b (m / 18446744073709551616) (m % 18446744073709551616) = ((if b then -A else A) % m / 18446744073709551616, (if b then -A else A) % m % 18446744073709551616) := rest2_k _ _ b hA hm h0
theorem class_k {γ : Type} (n : γ) (k : Int × Int → γ) {A g : Int} (b : Bool) (hA : D A) (hg : U64 g) (h0 : g ≠ 0) : ref_class.c n k (A / 18446744073709551616) (A % 18446744073709551616) b g = k (g, (if b then -A else A) % g) := by
  have hg' := hg
  unfold U64 at hg'
  unfold ref_class.c
  (try unfold ref_class.c0)
  simp only [of_u hg, rest2_ok b hA (UD hg) (by omega), rest2_s b hA (UD hg) (by omega), cond_true]
  have := emod_U (x := if b then -A else A) hg h0
  rw [(sm this.2.2).2]
theorem class_ok {A g : Int} (b : Bool) (hA : D A) (hg : U64 g) (h0 : g ≠ 0) : ref_class.ok (A / 18446744073709551616) (A % 18446744073709551616) b g = true := class_k _ _ b hA hg h0
theorem class_s {A g : Int} (b : Bool) (hA : D A) (hg : U64 g) (h0 : g ≠ 0) : ref_class (A / 18446744073709551616) (A % 18446744073709551616) b g = (g, (if b then -A else A) % g) := class_k _ _ b hA hg h0
theorem sgn (v : Int) : (if decide (v < 0) then -av v else av v) = v := by
  unfold av; by_cases h : v < 0
  · rw [decide_eq_true h, if_pos h]; simp
  · rw [decide_eq_false h, if_neg h]; simp
/-- order -/
def leqS (a0 a1 b0 b1 : Int) : Bool := if b0 = 0 then decide (a0 = 0 ∧ a1 = b1) else decide (a0 % b0 = 0 ∧ val a0 a1 % b0 = val b0 b1 % b0)
theorem pair_eq {x y m : Int} (hm : U64 m) (h0 : m ≠ 0) : (x % m / 18446744073709551616 == y % m / 18446744073709551616 && (x % m % 18446744073709551616 == y % m % 18446744073709551616 && true)) = decide (x % m = y % m) := by
  have h1 := (emod_U (x := x) hm h0).2.2
  have h2 := (emod_U (x := y) hm h0).2.2
  rw [(sm h1).1, (sm h1).2, (sm h2).1, (sm h2).2, Bool.eq_iff_iff]
  simp
theorem leq2_k {γ : Type} (n : γ) (k : Bool → γ) {a0 a1 b0 b1 : Int} (h1 : U64 a0) (h2 : U64 a1) (h3 : U64 b0) (h4 : U64 b1) : ref_Leq.c n k a0 a1 b0 b1 = k (leqS a0 a1 b0 b1) := by
  have h3' := h3
  unfold U64 at h3'
  unfold ref_Leq.c leqS
  (try unfold ref_Leq.c0)
  simp only [r_ok h1 h2, r_s h1 h2, r_ok h3 h4, r_s h3 h4, cbe, cbd, cond_true]
  by_cases h : b0 = 0
  · rw [if_pos h, if_pos h]
    by_cases g : a0 = 0
    · rw [if_pos g]; congr 1; rw [Bool.eq_iff_iff]; simp [g]
    · rw [if_neg g, decide_eq_false (by omega)]
  · rw [if_neg h, if_neg h, if_neg h, of_u h3, rest2_ok _ (UD (av_val h1 h2)) (UD h3) (by omega), rest2_ok _ (UD (av_val h3 h4)) (UD h3) (by omega), rest2_s _ (UD (av_val h1 h2)) (UD h3) (by omega), rest2_s _ (UD (av_val h3 h4)) (UD h3) (by omega)]
    simp only [sgn, cond_true]
    unfold U64 at h1
    rw [Int.tmod_eq_emod_of_nonneg h1.1, pair_eq h3 h]
    by_cases g : a0 % b0 = 0
    · rw [if_pos g]; congr 1; rw [decide_eq_decide]; simp [g]
    · rw [if_neg g, decide_eq_false (by omega)]
theorem leq2_ok {a0 a1 b0 b1 : Int} (h1 : U64 a0) (h2 : U64 a1) (h3 : U64 b0) (h4 : U64 b1) : ref_Leq.ok a0 a1 b0 b1 = true := leq2_k _ _ h1 h2 h3 h4
theorem leq2_s {a0 a1 b0 b1 : Int} (h1 : U64 a0) (h2 : U64 a1) (h3 : U64 b0) (h4 : U64 b1) : ref_Leq a0 a1 b0 b1 = leqS a0 a1 b0 b1 := leq2_k _ _ h1 h2 h3 h4
theorem leq_k {γ : Type} (n : γ) (k : Bool → γ) {a0 a1 b0 b1 : Int} (h1 : U64 a0) (h2 : U64 a1) (h3 : U64 b0) (h4 : U64 b1) : cong_Leq.c n k a0 a1 b0 b1 = k (leqS a0 a1 b0 b1) := by
  unfold cong_Leq.c leqS
  (try unfold cong_Leq.c0)
  simp only [norm_s h1 h2, norm_s h3 h4, alone_s, cbe, cbd]
  rw [rest_s (nr_U h1 h2) h3, val_nr]
  by_cases h : b0 = 0
  · rw [if_pos h, if_pos h]
    congr 1
    rw [Bool.eq_iff_iff]
    unfold nr
    by_cases g : a0 = 0
    · simp [g, h]
    · simp [g, h]
  · rw [if_neg h, if_neg h, if_neg h]
    have h1' := h1
    unfold U64 at h1'
    rw [Int.tmod_eq_emod_of_nonneg h1'.1]
    have e : md (val a0 a1) b0 = val a0 a1 % b0 := by unfold md; rw [if_neg h]
    have e2 : val b0 b1 % b0 = nr b0 b1 := by unfold val nr; rw [if_neg h, if_neg h, Int.emod_emod]
    rw [e, e2]
    by_cases g : a0 % b0 = 0
    · rw [if_pos g]; congr 1; rw [Bool.eq_iff_iff]; simp [g]
    · rw [if_neg g, decide_eq_false (by omega)]
theorem leq_ok {a0 a1 b0 b1 : Int} (h1 : U64 a0) (h2 : U64 a1) (h3 : U64 b0) (h4 : U64 b1) : cong_Leq.ok a0 a1 b0 b1 = true := leq_k _ _ h1 h2 h3 h4
theorem leq_s {a0 a1 b0 b1 : Int} (h1 : U64 a0) (h2 : U64 a1) (h3 : U64 b0) (h4 : U64 b1) : cong_Leq a0 a1 b0 b1 = leqS a0 a1 b0 b1 := leq_k _ _ h1 h2 h3 h4
/-- members -/
def hasS (m r v : Int) : Bool := if m = 0 then decide (v = IntKind.i64.wrap r) else decide (v % m = r % m)
theorem has_s {m r v : Int} (hm : U64 m) (hr : U64 r) (hv : I64 v) : cong_Has m r v = hasS m r v := by
  unfold cong_Has cong_Has.c hasS
  (try unfold cong_Has.c0)
  simp only [norm_s hm hr, mod_s hv hm, id]
  unfold md nr
  by_cases h : m = 0
  · simp only [if_pos h]
    rw [Bool.eq_iff_iff, beq_iff_eq, decide_eq_true_eq]
    unfold U64 at hr; unfold I64 at hv
    rw [wi_eq]; omega
  · simp only [if_neg h]
    rw [Bool.eq_iff_iff, beq_iff_eq, decide_eq_true_eq]
theorem const2_s (v : Int) : ref_Const v = (0, IntKind.u64.wrap v) := by unfold ref_Const ref_Const.c; (try unfold ref_Const.c0); rfl
theorem const_s (v : Int) : cong_Const v = (0, IntKind.u64.wrap v) := by unfold cong_Const cong_Const.c; (try unfold cong_Const.c0); rfl
theorem val0 {v : Int} (hv : I64 v) : val 0 (IntKind.u64.wrap v) = v := by
  unfold I64 at hv
  unfold val; rw [if_pos rfl, wi_eq, wu_eq]; omega
theorem has2_k {γ : Type} (n : γ) (k : Bool → γ) {m r v : Int} (hm : U64 m) (hr : U64 r) (hv : I64 v) : ref_Has.c n k m r v = k (hasS m r v) := by
  have z : U64 0 := by unfold U64; omega
  unfold ref_Has.c hasS
  (try unfold ref_Has.c0)
  simp only [const2_s, leq2_ok z (u64u v) hm hr, leq2_s z (u64u v) hm hr, cond_true]
  unfold leqS
  rw [val0 hv]
  by_cases h : m = 0
  · simp only [if_pos h]
    congr 1
    rw [decide_eq_decide]
    unfold U64 at hr; unfold I64 at hv
    rw [wi_eq, wu_eq, true_and]
    omega
  · simp only [if_neg h]
    have e2 : val m r % m = r % m := by unfold val; rw [if_neg h, Int.emod_emod]
    rw [e2]; simp
theorem has2_ok {m r v : Int} (hm : U64 m) (hr : U64 r) (hv : I64 v) : ref_Has.ok m r v = true := has2_k _ _ hm hr hv
theorem has2_s {m r v : Int} (hm : U64 m) (hr : U64 r) (hv : I64 v) : ref_Has m r v = hasS m r v := has2_k _ _ hm hr hv
end Go.Proofs.YtoggbmfjkcbilaaDoor.V
