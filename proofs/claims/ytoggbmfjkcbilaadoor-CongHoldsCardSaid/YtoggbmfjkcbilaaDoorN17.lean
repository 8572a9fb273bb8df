/- What the law functions ask of a class: the rest, whether a number is inside; least and greatest member. Conditions: none. -/
import Derived.Test.YtoggbmfjkcbilaaDoorN11
import Derived.Test.YtoggbmfjkcbilaaDoorE8
set_option linter.unusedVariables false
set_option linter.unusedSimpArgs false
namespace Go.Proofs.YtoggbmfjkcbilaaDoor.V
open Go Go.Wk Go.RowKit

theorem rest_ok (v : Int) {b : Int} (h : b ≠ 0) : law_rest.ok v b = true := by
  unfold law_rest.ok law_rest.c
  (try unfold law_rest.c0)
  have : decide (b = 0) = false := by simpa using h
  simp only [this, Bool.not_false, cond_true]
  cases decide (v ≥ 0) <;> rfl
theorem neg_rest {q b : Int} (h : 0 < b) : (-q - 1) % b = b - 1 - q % b := by
  have h1 := Int.emod_nonneg q (show b ≠ 0 by omega)
  have h2 := Int.emod_lt_of_pos q h
  have h3 := Int.emod_add_mul_ediv q b
  have e : -q - 1 = (b - 1 - q % b) + b * (-(q / b) - 1) := by
    rw [Int.mul_sub, Int.mul_neg, Int.mul_one]; omega
  rw [e, Int.add_mul_emod_self_left]
  exact Int.emod_eq_of_lt (by omega) (by omega)
theorem rest_v {v b : Int} (hv : I64 v) (hb : U64 b) (h : b ≠ 0) : law_rest v b = v % b := by
  unfold I64 at hv
  unfold U64 at hb
  unfold law_rest law_rest.c
  (try unfold law_rest.c0)
  have hd : decide (b = 0) = false := by simpa using h
  simp only [hd, Bool.not_false, cond_true, id]
  by_cases h0 : 0 ≤ v
  · have e : decide (v ≥ 0) = true := by simpa using h0
    rw [e, cond_true, wu_id (by omega) (by omega), Int.tmod_eq_emod_of_nonneg h0]
  · have e : decide (v ≥ 0) = false := by simpa using h0
    have e1 : IntKind.i64.wrap (v + 1) = v + 1 := wi_id (by omega) (by omega)
    have e2 : IntKind.i64.wrap (0 - (v + 1)) = -v - 1 := by rw [wi_id (by omega) (by omega)]; omega
    rw [e, cond_false, e1, e2, wu_id (x := -v - 1) (by omega) (by omega), wu_id (x := b - 1) (by omega) (by omega), Int.tmod_eq_emod_of_nonneg (by omega)]
    have h1 := Int.emod_nonneg (-v - 1) h
    have h2 := Int.emod_lt_of_pos (-v - 1) (show 0 < b by omega)
    rw [wu_id (by omega) (by omega), ← neg_rest (by omega)]
    congr 1
    omega
theorem inside_ok (m r v : Int) : law_inside.ok m r v = true := by
  unfold law_inside.ok law_inside.c
  (try unfold law_inside.c0)
  by_cases h : m = 0
  · subst h; rfl
  · have e : (m == 0) = false := by simpa using h
    have hd : decide (m = 0) = false := by simpa using h
    simp only [e, hd, rest_ok v h, Bool.not_false, cond_true, cond_false]
theorem inside_v {m r v : Int} (hm : U64 m) (hr : U64 r) (hv : I64 v) : law_inside m r v = hasS m r v := by
  unfold law_inside law_inside.c
  (try unfold law_inside.c0)
  unfold hasS
  by_cases h : m = 0
  · subst h
    simp only [beq_self_eq_true, cond_true, id, if_true]
    unfold U64 at hr
    unfold I64 at hv
    have e1 := wu_eq v
    have e2 := wi_eq r
    rw [Bool.eq_iff_iff]
    simp only [beq_iff_eq, decide_eq_true_eq]
    rw [e1, e2]
    constructor
    · intro h; rw [← h]; omega
    · intro h; rw [h]; omega
  · have e : (m == 0) = false := by simpa using h
    have hd : decide (m = 0) = false := by simpa using h
    unfold U64 at hr
    simp only [e, hd, rest_ok v h, Bool.not_false, cond_true, cond_false, id, if_neg h, rest_v hv hm h, Int.tmod_eq_emod_of_nonneg hr.1]
    rfl

theorem wi_I (r : Int) : I64 (IntKind.i64.wrap r) := by unfold I64; rw [wi_eq]; omega
theorem mod_near {m f x : Int} (h0 : 0 < m) (h1 : 0 ≤ x) (h2 : x % m = f) : f ≤ x := by
  have h3 := Int.emod_add_mul_ediv x m
  have h4 := Int.mul_nonneg (show 0 ≤ m by omega) (Int.ediv_nonneg h1 (show 0 ≤ m by omega))
  omega
theorem up_spec {m r v : Int} (hm : U64 m) (hr : U64 r) (hv : I64 v) :
    I64 (upS m r v).1 ∧ ((upS m r v).2 = true → v ≤ (upS m r v).1 ∧ hasS m r (upS m r v).1 = true) ∧ ((upS m r v).2 = false → (upS m r v).1 = 0) ∧
    (∀ c, I64 c → v ≤ c → hasS m r c = true → (upS m r v).2 = true ∧ (upS m r v).1 ≤ c) := by
  unfold upS hasS
  by_cases h : m = 0
  · simp only [if_pos h]
    have hw := wi_I r
    generalize IntKind.i64.wrap r = w at hw
    by_cases hc : w < v
    · simp only [if_pos hc]
      refine ⟨by unfold I64; decide, fun h => by simp at h, fun _ => by simp, fun c hcc h1 h2 => ?_⟩
      simp only [decide_eq_true_eq] at h2
      omega
    · simp only [if_neg hc]
      refine ⟨hw, fun _ => ⟨by omega, by simp⟩, fun h => by simp at h, fun c hcc h1 h2 => ?_⟩
      simp only [decide_eq_true_eq] at h2
      exact ⟨by simp, by omega⟩
  · simp only [if_neg h]
    have hm0 : 0 < m := by unfold U64 at hm; omega
    have hf := far1_b (m := m) (x := r) (y := v) hm0
    have hfd : far1 m r v = (r - v) % m := rfl
    generalize far1 m r v = f at hf hfd
    have key : ∀ c, I64 c → v ≤ c → c % m = r % m → v + f ≤ c := by
      intro c _ h1 h2
      have : (c - v) % m = f := by rw [hfd, Int.sub_emod, h2, ← Int.sub_emod]
      have := mod_near hm0 (by omega) this
      omega
    have hin : (v + f) % m = r % m := by
      rw [hfd, Int.add_emod, Int.emod_emod_of_dvd _ (Int.dvd_refl m), ← Int.add_emod]; congr 1; omega
    unfold I64 at hv
    by_cases hc : f ≤ 9223372036854775807 - v
    · simp only [if_pos hc]
      refine ⟨by unfold I64; omega, fun _ => ⟨by omega, by simpa using hin⟩, fun h => by simp at h, fun c h0 h1 h2 => ?_⟩
      simp only [decide_eq_true_eq] at h2
      exact ⟨by simp, key c h0 h1 h2⟩
    · simp only [if_neg hc]
      refine ⟨by unfold I64; decide, fun h => by simp at h, fun _ => by simp, fun c h0 h1 h2 => ?_⟩
      simp only [decide_eq_true_eq] at h2
      have := key c h0 h1 h2
      unfold I64 at h0
      omega
theorem dn_spec {m r v : Int} (hm : U64 m) (hr : U64 r) (hv : I64 v) :
    I64 (dnS m r v).1 ∧ ((dnS m r v).2 = true → (dnS m r v).1 ≤ v ∧ hasS m r (dnS m r v).1 = true) ∧ ((dnS m r v).2 = false → (dnS m r v).1 = 0) ∧
    (∀ c, I64 c → c ≤ v → hasS m r c = true → (dnS m r v).2 = true ∧ c ≤ (dnS m r v).1) := by
  unfold dnS hasS
  by_cases h : m = 0
  · simp only [if_pos h]
    have hw := wi_I r
    generalize IntKind.i64.wrap r = w at hw
    by_cases hc : w > v
    · simp only [if_pos hc]
      refine ⟨by unfold I64; decide, fun h => by simp at h, fun _ => by simp, fun c hcc h1 h2 => ?_⟩
      simp only [decide_eq_true_eq] at h2
      omega
    · simp only [if_neg hc]
      refine ⟨hw, fun _ => ⟨by omega, by simp⟩, fun h => by simp at h, fun c hcc h1 h2 => ?_⟩
      simp only [decide_eq_true_eq] at h2
      exact ⟨by simp, by omega⟩
  · simp only [if_neg h]
    have hm0 : 0 < m := by unfold U64 at hm; omega
    have hf := far1_b (m := m) (x := v) (y := r) hm0
    have hfd : far1 m v r = (v - r) % m := rfl
    generalize far1 m v r = f at hf hfd
    have key : ∀ c, I64 c → c ≤ v → c % m = r % m → c ≤ v - f := by
      intro c _ h1 h2
      have : (v - c) % m = f := by rw [hfd, Int.sub_emod, h2, ← Int.sub_emod]
      have := mod_near hm0 (by omega) this
      omega
    have hin : (v - f) % m = r % m := by
      rw [hfd, Int.sub_emod, Int.emod_emod_of_dvd _ (Int.dvd_refl m), ← Int.sub_emod]; congr 1; omega
    unfold I64 at hv
    by_cases hc : f ≤ v + 9223372036854775808
    · simp only [if_pos hc]
      refine ⟨by unfold I64; omega, fun _ => ⟨by omega, by simpa using hin⟩, fun h => by simp at h, fun c h0 h1 h2 => ?_⟩
      simp only [decide_eq_true_eq] at h2
      exact ⟨by simp, key c h0 h1 h2⟩
    · simp only [if_neg hc]
      refine ⟨by unfold I64; decide, fun h => by simp at h, fun _ => by simp, fun c h0 h1 h2 => ?_⟩
      simp only [decide_eq_true_eq] at h2
      have := key c h0 h1 h2
      unfold I64 at h0
      omega
end Go.Proofs.YtoggbmfjkcbilaaDoor.V
