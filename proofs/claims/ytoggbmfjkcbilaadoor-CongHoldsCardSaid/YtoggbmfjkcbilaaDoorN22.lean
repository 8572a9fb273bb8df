/- The law's helpers: a number of a class, whether an operation wraps. Conditions: none. -/
import Derived.Test.YtoggbmfjkcbilaaDoorN21
set_option linter.unusedVariables false
set_option linter.unusedSimpArgs false
namespace Go.Proofs.YtoggbmfjkcbilaaDoor.V
open Go Go.Wk Go.RowKit

theorem dT {p : Prop} [Decidable p] (h : p) : decide p = true := decide_eq_true h
theorem dF {p : Prop} [Decidable p] (h : ¬ p) : decide p = false := decide_eq_false h
theorem some_v {m r v : Int} (hm : U64 m) (hr : U64 r) (hv : I64 v) : law_some.ok m r v = true ∧ ((law_some m r v).2 = true → I64 (law_some m r v).1 ∧ hasS m r (law_some m r v).1 = true) := by
  unfold law_some.ok law_some law_some.c
  (try unfold law_some.c0)
  by_cases h : m = 0
  · subst h
    simp only [beq_self_eq_true, cond_true, id, true_and]
    exact fun _ => ⟨i64u _, by unfold hasS; simp⟩
  · have e : (m == 0) = false := by simpa using h
    have hd : decide (m = 0) = false := dF h
    have hm0 : 0 < m := by unfold U64 at hm; omega
    simp only [e, hd, rest_ok v h, Bool.not_false, cond_true, cond_false, id, rest_v hv hm h, Int.tmod_eq_emod_of_nonneg hr.1]
    have s0 := Int.emod_nonneg v h
    have s1 := Int.emod_lt_of_pos v hm0
    have t0 := Int.emod_nonneg r h
    have t1 := Int.emod_lt_of_pos r hm0
    obtain ⟨z, hz⟩ : m ∣ v - v % m := by rw [← mdd, Int.emod_emod_of_dvd _ (Int.dvd_refl m)]
    have hh : ∀ u, m ∣ u - r % m → hasS m r u = true := by
      intro u hu
      rw [has_iff]; unfold val; rw [if_neg h]; exact hu
    generalize v % m = s at *
    generalize r % m = t at *
    unfold I64 at hv ⊢
    unfold U64 at hm
    have hk1 : m * (z + 1) = m * z + m := by rw [Int.mul_add, Int.mul_one]
    have hk2 : m * (z - 1) = m * z - m := by rw [Int.mul_sub, Int.mul_one]
    have e5 := wu_eq v
    by_cases c1 : s ≥ t
    · rw [dT c1]
      simp only [cond_true]
      have e4 : IntKind.u64.wrap (s - t) = s - t := wu_id (by omega) (by omega)
      have e6 : IntKind.u64.wrap (IntKind.u64.wrap v - 9223372036854775808) = v + 9223372036854775808 := by rw [wu_eq, wu_eq]; omega
      rw [e4, e6]
      by_cases c2 : s - t ≤ v + 9223372036854775808
      · rw [dT c2]
        simp only [cond_true, true_and]
        have e8 : IntKind.i64.wrap (IntKind.u64.wrap (IntKind.u64.wrap v - (s - t))) = v - (s - t) := by rw [wi_eq, wu_eq, wu_eq]; omega
        rw [e8]
        exact fun _ => ⟨by omega, hh _ ⟨z, by omega⟩⟩
      · rw [dF c2]
        simp only [cond_false, true_and, decide_eq_true_eq]
        have e9 : IntKind.u64.wrap (m - (s - t)) = m - (s - t) := wu_id (by omega) (by omega)
        have e12 : IntKind.u64.wrap (9223372036854775807 - IntKind.u64.wrap v) = 9223372036854775807 - v := by rw [wu_eq, wu_eq]; omega
        rw [e9, e12]
        intro g
        have e8 : IntKind.i64.wrap (IntKind.u64.wrap (IntKind.u64.wrap v + (m - (s - t)))) = v + (m - (s - t)) := by rw [wi_eq, wu_eq, wu_eq]; omega
        rw [e8]
        exact ⟨by omega, hh _ ⟨z + 1, by omega⟩⟩
    · rw [dF c1]
      simp only [cond_false]
      have e4 : IntKind.u64.wrap (t - s) = t - s := wu_id (by omega) (by omega)
      have e12 : IntKind.u64.wrap (9223372036854775807 - IntKind.u64.wrap v) = 9223372036854775807 - v := by rw [wu_eq, wu_eq]; omega
      rw [e4, e12]
      by_cases c2 : t - s ≤ 9223372036854775807 - v
      · rw [dT c2]
        simp only [cond_true, true_and]
        have e8 : IntKind.i64.wrap (IntKind.u64.wrap (IntKind.u64.wrap v + (t - s))) = v + (t - s) := by rw [wi_eq, wu_eq, wu_eq]; omega
        rw [e8]
        exact fun _ => ⟨by omega, hh _ ⟨z, by omega⟩⟩
      · rw [dF c2]
        simp only [cond_false, true_and, decide_eq_true_eq]
        have e9 : IntKind.u64.wrap (m - (t - s)) = m - (t - s) := wu_id (by omega) (by omega)
        have e6 : IntKind.u64.wrap (IntKind.u64.wrap v - 9223372036854775808) = v + 9223372036854775808 := by rw [wu_eq, wu_eq]; omega
        rw [e9, e6]
        intro g
        have e8 : IntKind.i64.wrap (IntKind.u64.wrap (IntKind.u64.wrap v - (m - (t - s)))) = v - (m - (t - s)) := by rw [wi_eq, wu_eq, wu_eq]; omega
        rw [e8]
        exact ⟨by omega, hh _ ⟨z - 1, by omega⟩⟩
theorem wraps0 {x y : Int} (hx : I64 x) (hy : I64 y) : law_wraps.ok 0 x y = true ∧ (law_wraps 0 x y = false → I64 (x + y)) := by
  unfold law_wraps.ok law_wraps law_wraps.c
  (try unfold law_wraps.c0)
  unfold I64 at *
  simp only [beq_self_eq_true, cond_true, id]
  rcases Int.lt_trichotomy y 0 with g | g | g
  · rw [dF (show ¬ y > 0 by omega), dT g]
    simp only [cond_true, cond_false, true_and, decide_eq_false_iff_not]
    rw [wi_id (x := -9223372036854775808 - y) (by omega) (by omega)]
    omega
  · rw [dF (show ¬ y > 0 by omega), dF (show ¬ y < 0 by omega)]
    simp only [cond_true, cond_false, true_and]
    omega
  · rw [dT (show y > 0 by omega), dF (show ¬ y < 0 by omega), wi_id (x := 9223372036854775807 - y) (by omega) (by omega)]
    simp only [cond_true, cond_false]
    by_cases c : x > 9223372036854775807 - y
    · rw [dT c]; simp
    · rw [dF c]; simp only [cond_false, true_and]; omega
theorem wraps1 {x y : Int} (hx : I64 x) (hy : I64 y) : law_wraps.ok 1 x y = true ∧ (law_wraps 1 x y = false → I64 (x - y)) := by
  unfold law_wraps.ok law_wraps law_wraps.c
  (try unfold law_wraps.c0)
  unfold I64 at *
  have z : ((1 : Int) == 0) = false := rfl
  simp only [z, beq_self_eq_true, cond_true, cond_false, id]
  rcases Int.lt_trichotomy y 0 with g | g | g
  · rw [dT g, dF (show ¬ y > 0 by omega), wi_id (x := 9223372036854775807 + y) (by omega) (by omega)]
    simp only [cond_true, cond_false]
    by_cases c : x > 9223372036854775807 + y
    · rw [dT c]; simp
    · rw [dF c]; simp only [cond_false, true_and]; omega
  · rw [dF (show ¬ y > 0 by omega), dF (show ¬ y < 0 by omega)]
    simp only [cond_true, cond_false, true_and]
    omega
  · rw [dT (show y > 0 by omega), dF (show ¬ y < 0 by omega)]
    simp only [cond_true, cond_false, true_and, decide_eq_false_iff_not]
    rw [wi_id (x := -9223372036854775808 + y) (by omega) (by omega)]
    omega
theorem mul_back {x y : Int} (hx : I64 x) (h0 : x ≠ 0) (h1 : x ≠ -1) (h : IntKind.i64.wrap ((IntKind.i64.wrap (x * y)).tdiv x) = y) : I64 (x * y) := by
  have hw := i64u (x * y)
  have q := tdiv_far hw h1 h0
  rw [wi_id q.1 q.2] at h
  have e := Int.tmod_add_mul_tdiv (IntKind.i64.wrap (x * y)) x
  rw [h] at e
  have b : ((IntKind.i64.wrap (x * y)).tmod x).natAbs < x.natAbs := by
    have : ((IntKind.i64.wrap (x * y)).tmod x).natAbs = (IntKind.i64.wrap (x * y)).natAbs % x.natAbs := Int.natAbs_tmod _ _
    rw [this]
    exact Nat.mod_lt _ (by omega)
  obtain ⟨k, hk⟩ := wrap_d (x * y)
  unfold I64 at *
  generalize x * y = p at *
  generalize (IntKind.i64.wrap p).tmod x = t at *
  omega
theorem wraps2 {x y : Int} (hx : I64 x) (hy : I64 y) : law_wraps.ok 2 x y = true ∧ (law_wraps 2 x y = false → I64 (x * y)) := by
  unfold law_wraps.ok law_wraps law_wraps.c
  (try unfold law_wraps.c0)
  have z : ((2 : Int) == 0) = false := rfl
  have z1 : ((2 : Int) == 1) = false := rfl
  simp only [z, z1, cond_false, id]
  have B (a b : Int) (h : a = b) : (a == b) = true := by simpa using h
  have B' (a b : Int) (h : a ≠ b) : (a == b) = false := by simpa using h
  have C (a b : Int) (h : a = b) : (a != b) = false := by simpa using h
  have C' (a b : Int) (h : a ≠ b) : (a != b) = true := by simpa using h
  by_cases c0 : x = 0
  · subst c0
    rw [B' 0 (-1) (by decide), B' 0 (-9223372036854775808) (by decide), C 0 0 rfl]
    simp only [cond_false, Int.zero_mul]
    cases (y == -1) <;> exact ⟨rfl, fun _ => by unfold I64; omega⟩
  · rw [C' x 0 c0]
    by_cases c1 : x = -1
    · subst c1
      rw [B (-1) (-1) rfl, B' (-1) (-9223372036854775808) (by decide), C (-1) (-1) rfl]
      simp only [cond_true, cond_false]
      by_cases c2 : y = -9223372036854775808
      · rw [B _ _ c2]; simp
      · rw [B' _ _ c2]
        simp only [cond_false]
        have : I64 (-1 * y) := by unfold I64 at *; omega
        cases (y == -1) <;> exact ⟨rfl, fun _ => this⟩
    · rw [B' x (-1) c1, C' x (-1) c1, dF c0]
      simp only [cond_true, cond_false, Bool.not_false]
      have key : ((IntKind.i64.wrap ((IntKind.i64.wrap (x * y)).tdiv x) != y) = false → I64 (x * y)) := by
        intro h
        exact mul_back hx c0 c1 (by simpa using h)
      by_cases c2 : x = -9223372036854775808
      · rw [B _ _ c2]
        cases (y == -1)
        · exact ⟨rfl, key⟩
        · simp
      · rw [B' _ _ c2]
        cases (y == -1) <;> exact ⟨rfl, key⟩
end Go.Proofs.YtoggbmfjkcbilaaDoor.V
