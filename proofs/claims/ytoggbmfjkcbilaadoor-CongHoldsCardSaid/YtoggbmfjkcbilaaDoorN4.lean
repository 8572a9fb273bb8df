/- Remainders, greatest common divisors, sums and products by a modulus, inverses. Conditions: none. -/
import Derived.Test.YtoggbmfjkcbilaaDoorN3
import Derived.Test.YtoggbmfjkcbilaaDoorE3
set_option linter.unusedVariables false
set_option linter.unusedSimpArgs false
namespace Go.Proofs.YtoggbmfjkcbilaaDoor.V
open Go Go.Wk

theorem cbe {α : Type} (x y : Int) (X Y : α) : (bif x == y then X else Y) = if x = y then X else Y := by
  by_cases h : x = y
  · subst h; simp
  · rw [if_neg h, show (x == y) = false by simpa using h]; rfl
theorem cbn {α : Type} (x y : Int) (X Y : α) : (bif x != y then X else Y) = if x = y then Y else X := by
  by_cases h : x = y
  · subst h; simp
  · rw [if_neg h, show (x != y) = true by simpa using h]; rfl
theorem cbd {α : Type} (p : Prop) [Decidable p] (X Y : α) : (bif !decide p then X else Y) = if p then Y else X := by
  by_cases h : p <;> simp [h]
theorem i64u (x : Int) : I64 (IntKind.i64.wrap x) := ⟨wi_lo x, wi_hi x⟩
theorem u64u (x : Int) : U64 (IntKind.u64.wrap x) := ⟨wu_lo x, wu_hi x⟩
theorem emod_U {x m : Int} (hm : U64 m) (h0 : m ≠ 0) : 0 ≤ x % m ∧ x % m < m ∧ U64 (x % m) := by
  have h1 := Int.emod_nonneg x h0
  unfold U64 at *
  have h2 := Int.emod_lt_of_pos x (show 0 < m by omega)
  exact ⟨h1, h2, h1, by omega⟩
theorem mod_of {v m r q : Int} (h : v = r + m * q) (h0 : 0 ≤ r) (h1 : r < m) : v % m = r := by
  rw [h, Int.add_mul_emod_self_left, Int.emod_eq_of_lt h0 h1]
/-- a remainder; by 0 the bits -/
def md (x m : Int) : Int := if m = 0 then x % 18446744073709551616 else x % m
theorem mod_k {γ : Type} (n : γ) (k : Int → γ) {v m : Int} (hv : I64 v) (hm : U64 m) : word_Mod.c n k v m = k (md v m) := by
  unfold I64 at hv; unfold U64 at hm
  unfold word_Mod.c word_Mod.c0 md
  simp only [cbe, cbd, Bool.cond_decide]
  by_cases h0 : m = 0
  · simp only [if_pos h0, wu_eq]
  · simp only [if_neg h0]
    by_cases h1 : v ≥ 0
    · simp only [if_pos h1]
      rw [wu_id h1 (by omega), Int.tmod_eq_emod_of_nonneg h1]
    · simp only [if_neg h1]
      have e1 : IntKind.i64.wrap (v + 1) = v + 1 := wi_id (by omega) (by omega)
      have e2 : IntKind.i64.wrap (0 - (v + 1)) = 0 - (v + 1) := wi_id (by omega) (by omega)
      have e3 : IntKind.u64.wrap (0 - (v + 1)) = 0 - (v + 1) := wu_id (by omega) (by omega)
      have e4 : IntKind.u64.wrap (m - 1) = m - 1 := wu_id (by omega) (by omega)
      rw [e1, e2, e3, e4, Int.tmod_eq_emod_of_nonneg (by omega)]
      have g1 := Int.emod_nonneg (0 - (v + 1)) h0
      have g2 := Int.emod_lt_of_pos (0 - (v + 1)) (show 0 < m by omega)
      have g3 := Int.emod_add_mul_ediv (0 - (v + 1)) m
      rw [wu_id (by omega) (by omega)]
      rw [mod_of (v := v) (r := m - 1 - (0 - (v + 1)) % m) (q := -((0 - (v + 1)) / m) - 1) (by
        have e : m * (-((0 - (v + 1)) / m) - 1) = -(m * ((0 - (v + 1)) / m)) - m := by rw [Int.mul_sub, Int.mul_neg, Int.mul_one]
        omega) (by omega) (by omega)]
theorem mod_s {v m : Int} (hv : I64 v) (hm : U64 m) : word_Mod v m = md v m := mod_k _ _ hv hm
theorem alone_s (a b : Int) : cong_alone a b = (a == 0) := by unfold cong_alone cong_alone.c; (try unfold cong_alone.c0); rfl
/-- a class's whole number -/
def vc (m r : Int) : Int := if m = 0 then IntKind.i64.wrap r else r
theorem wi_emod (r : Int) : IntKind.i64.wrap r % 18446744073709551616 = r % 18446744073709551616 := by rw [wi_eq]; omega
theorem rest_k {γ : Type} (n : γ) (k : Int → γ) {c r m : Int} (hr : U64 r) (hm : U64 m) : cong_rest.c n k c r m = k (md (vc c r) m) := by
  unfold cong_rest.c cong_rest.c0
  simp only [alone_s, mod_s (i64u r) hm, cbe, cbd]
  unfold vc
  unfold U64 at hr
  by_cases h : c = 0
  · rw [if_pos h, if_pos h]
  · rw [if_neg h, if_neg h]
    unfold md
    by_cases h2 : m = 0
    · rw [if_pos h2, if_pos h2]; rw [Int.emod_eq_of_lt hr.1 hr.2]
    · rw [if_neg h2, if_neg h2, if_neg h2, Int.tmod_eq_emod_of_nonneg hr.1]
theorem rest_s {c r m : Int} (hr : U64 r) (hm : U64 m) : cong_rest c r m = md (vc c r) m := rest_k _ _ hr hm
theorem md_U (x : Int) {m : Int} (hm : U64 m) : U64 (md x m) := by
  unfold md
  by_cases h : m = 0
  · rw [if_pos h]; unfold U64; omega
  · rw [if_neg h]; exact (emod_U hm h).2.2
/-- greatest common divisor -/
def gg (a b : Int) : Int := (Nat.gcd a.toNat b.toNat : Int)
theorem gg_step {a b : Int} (ha : 0 ≤ a) (hb : 0 ≤ b) : gg b (a % b) = gg a b := by
  unfold gg
  have : (a % b).toNat = a.toNat % b.toNat := by
    have e : ((a.toNat % b.toNat : Nat) : Int) = a % b := by rw [Int.natCast_emod]; rw [show ((a.toNat : Nat) : Int) = a by omega, show ((b.toNat : Nat) : Int) = b by omega]
    omega
  rw [this, Nat.gcd_comm b.toNat, ← Nat.gcd_rec, Nat.gcd_comm]
theorem gg_zero {a : Int} (ha : 0 ≤ a) : gg a 0 = a := by unfold gg; simp; omega
theorem gcd_L (N : Nat) : ∀ (m : Nat) (a b : Int), 0 ≤ a → 0 ≤ b → b < m → word_Gcd.L0 N m (a, b) = some (gg a b)
  | 0, a, b, ha, hb, hm => by omega
  | m + 1, a, b, ha, hb, hm => by
    unfold word_Gcd.L0 word_Gcd.l0.c
    (try unfold word_Gcd.l0.c0)
    simp only [cbn, cbd]
    by_cases h : b = 0
    · rw [if_pos h, h, gg_zero ha]
    · rw [if_neg h, if_neg h, Int.tmod_eq_emod_of_nonneg ha]
      have h1 := Int.emod_nonneg a h
      have h2 := Int.emod_lt_of_pos a (show 0 < b by omega)
      rw [gcd_L N m b (a % b) hb h1 (by omega), gg_step ha hb]
theorem gcd_o {a b : Int} (ha : 0 ≤ a) (hb : 0 ≤ b) : word_Gcd.o (b.toNat + 2) a b = some (gg a b) := by
  unfold word_Gcd.o word_Gcd.c
  exact gcd_L _ _ _ _ ha hb (by omega)
theorem gcd_g {a b : Int} (ha : 0 ≤ a) (hb : 0 ≤ b) : word_Gcd.g a b = true := by unfold word_Gcd.g; rw [hide_eq, gcd_o ha hb]; rfl
theorem gcd_s {a b : Int} (ha : 0 ≤ a) (hb : 0 ≤ b) : word_Gcd a b = gg a b := by unfold word_Gcd; rw [hide_eq, gcd_o ha hb]; rfl
theorem gg_comm (a b : Int) : gg a b = gg b a := by unfold gg; rw [Nat.gcd_comm]
theorem gg_nonneg (a b : Int) : 0 ≤ gg a b := by unfold gg; omega
theorem gg_dvd {a b : Int} (ha : 0 ≤ a) (hb : 0 ≤ b) : gg a b ∣ a ∧ gg a b ∣ b := by
  unfold gg
  have h1 := Nat.gcd_dvd_left a.toNat b.toNat
  have h2 := Nat.gcd_dvd_right a.toNat b.toNat
  have e1 : ((a.toNat : Nat) : Int) = a := by omega
  have e2 : ((b.toNat : Nat) : Int) = b := by omega
  constructor
  · have := Int.natCast_dvd_natCast.2 h1; rwa [e1] at this
  · have := Int.natCast_dvd_natCast.2 h2; rwa [e2] at this
theorem dvd_gg {a b d : Int} (ha : 0 ≤ a) (hb : 0 ≤ b) (h1 : d ∣ a) (h2 : d ∣ b) : d ∣ gg a b := by
  unfold gg
  rw [← Int.natAbs_dvd] at h1 h2 ⊢
  have e1 : ((a.toNat : Nat) : Int) = a := by omega
  have e2 : ((b.toNat : Nat) : Int) = b := by omega
  rw [← e1] at h1
  rw [← e2] at h2
  exact Int.natCast_dvd_natCast.2 (Nat.dvd_gcd (Int.natCast_dvd_natCast.1 h1) (Int.natCast_dvd_natCast.1 h2))
theorem gg_pos {a b : Int} (ha : 0 ≤ a) (hb : 0 ≤ b) (h : a ≠ 0 ∨ b ≠ 0) : 0 < gg a b := by
  unfold gg
  have : 0 < Nat.gcd a.toNat b.toNat := by
    rcases h with h | h
    · exact Nat.gcd_pos_of_pos_left _ (by omega)
    · exact Nat.gcd_pos_of_pos_right _ (by omega)
  omega
theorem gg_le {a b : Int} (ha : 0 ≤ a) (hb : 0 ≤ b) (h : a ≠ 0) : gg a b ≤ a := by
  have := Int.le_of_dvd (by omega) (gg_dvd ha hb).1
  exact this
theorem gg_U {a b : Int} (ha : U64 a) (hb : U64 b) : U64 (gg a b) := by
  unfold U64 at *
  refine ⟨gg_nonneg a b, ?_⟩
  by_cases h : a = 0
  · by_cases h' : b = 0
    · subst h h'; decide
    · rw [gg_comm]; have := gg_le hb.1 ha.1 h'; omega
  · have := gg_le ha.1 hb.1 h; omega
theorem minus_s {x y m : Int} (hm : U64 m) (hx : 0 ≤ x) (hx2 : x < m) (hy : 0 ≤ y) (hy2 : y < m) : cong_minus x y m = (x - y) % m := by
  unfold U64 at hm
  unfold cong_minus cong_minus.c cong_minus.c0
  simp only [Bool.cond_decide, id]
  by_cases h : x ≥ y
  · rw [if_pos h, wu_id (by omega) (by omega), Int.emod_eq_of_lt (by omega) (by omega)]
  · rw [if_neg h, wu_id (x := m - y) (by omega) (by omega), wu_id (by omega) (by omega)]
    rw [show x - y = (m - y + x) + m * (-1) by omega, Int.add_mul_emod_self_left, Int.emod_eq_of_lt (by omega) (by omega)]
theorem plus_s {x y m : Int} (hm : U64 m) (hx : 0 ≤ x) (hx2 : x < m) (hy : 0 ≤ y) (hy2 : y < m) : cong_plus x y m = (x + y) % m := by
  unfold U64 at hm
  unfold cong_plus cong_plus.c cong_plus.c0
  simp only [Bool.cond_decide, id]
  rw [wu_id (x := m - x) (by omega) (by omega)]
  by_cases h : y ≥ m - x
  · rw [if_pos h, wu_id (by omega) (by omega), show x + y = (y - (m - x)) + m * 1 by omega, Int.add_mul_emod_self_left, Int.emod_eq_of_lt (by omega) (by omega)]
  · rw [if_neg h, wu_id (by omega) (by omega), Int.emod_eq_of_lt (by omega) (by omega)]
theorem mul_U {a b : Int} (ha : U64 a) (hb : U64 b) : 0 ≤ a * b ∧ a * b < 340282366920938463463374607431768211456 ∧ a * b / 18446744073709551616 < 18446744073709551616 := by
  unfold U64 at *
  have h0 := Int.mul_nonneg ha.1 hb.1
  have h1 : a * b ≤ 18446744073709551615 * b := Int.mul_le_mul_of_nonneg_right (by omega) hb.1
  omega
theorem times_k {γ : Type} (n : γ) (k : Int → γ) {x y m : Int} (hx : U64 x) (hy : U64 y) (hm : U64 m) (h0 : m ≠ 0) : cong_times.c n k x y m = k (x * y % m) := by
  have hm' := hm
  have hb := mul_U hx hy
  unfold U64 at hm
  unfold cong_times.c cong_times.c0
  simp only [bits_Mul64_s hx hy]
  have g1 : 0 ≤ x * y / 18446744073709551616 := by omega
  have e1 : (x * y / 18446744073709551616).tmod m = x * y / 18446744073709551616 % m := Int.tmod_eq_emod_of_nonneg g1
  have g2 := Int.emod_nonneg (x * y / 18446744073709551616) h0
  have g3 := Int.emod_lt_of_pos (x * y / 18446744073709551616) (show 0 < m by omega)
  have hl : U64 (x * y % 18446744073709551616) := by unfold U64; omega
  have e2 : ∀ {β : Type} (n : β) (k : Int → β), bits_Rem64.c n k (x * y / 18446744073709551616) (x * y % 18446744073709551616) m = k (x * y % m) := by
    intro β n k
    unfold bits_Rem64.c bits_Rem64.c0
    simp only [e1, div64_g g2 g3 hl hm', div64_s g2 g3 hl hm', cbd, if_neg h0, cond_true]
    congr 1
    rw [Int.add_emod, Int.mul_emod, Int.emod_emod, ← Int.mul_emod, ← Int.add_emod]
    congr 1
    omega
  unfold bits_Rem64.ok bits_Rem64
  rw [e2, e2]
  rfl
theorem times_ok {x y m : Int} (hx : U64 x) (hy : U64 y) (hm : U64 m) (h0 : m ≠ 0) : cong_times.ok x y m = true := times_k _ _ hx hy hm h0
theorem times_s {x y m : Int} (hx : U64 x) (hy : U64 y) (hm : U64 m) (h0 : m ≠ 0) : cong_times x y m = x * y % m := times_k _ _ hx hy hm h0
end Go.Proofs.YtoggbmfjkcbilaaDoor.V
