/- Parts: K6, K7, K8. Conditions: none. -/
import Derived.Test.YtonpbbhlmapbdaaGreatDoorKA
import Derived.Test.YtonpbbhlmapbdaaGreatDoorE8
set_option linter.unusedVariables false
set_option linter.unusedSimpArgs false
namespace Go.Proofs.YtonpbbhlmapbdaaGreatDoor.V
open Go Go.Wk Go.RowKit
theorem mk_a : makeS 1 10 4 3 = (false, 3, 7, 4, 3) := by decide +kernel
theorem rawA : Raw (false, 3, 7, 4, 3) := ⟨by unfold I64; decide, by unfold I64; decide, by unfold U64; decide, by unfold U64; decide⟩
theorem Ik (k : Int) (h : -1000 < k ∧ k < 1000) : I64 k := by unfold I64; omega
theorem Uk (k : Int) (h : 0 ≤ k ∧ k < 1000) : U64 k := by unfold U64; omega
theorem works_add : applyS 3 (false, 3, 7, 4, 3) (constS 1) = (false, 4, 8, 4, 0) := by
  have e1 : normS (false, 3, 7, 4, 3) = (false, 3, 7, 4, 3) := by decide +kernel
  have e2 : normS (constS 1) = constS 1 := by decide +kernel
  unfold applyS
  rw [e1, e2]
  have e3 : rhs 3 (constS 1) = constS 1 := by unfold rhs; rw [if_neg (by decide)]
  rw [e3, if_neg (by decide)]
  unfold applyN
  rw [if_neg (by decide), if_pos rfl]
  have e4 : A.ival_Add 3 7 1 1 = (4, 8, true) := by
    rw [A.add_span (Ik 3 (by decide)) (Ik 7 (by decide)) (Ik 1 (by decide)) (Ik 1 (by decide)) (by decide) (by decide)]
    decide +kernel
  show mk4 (A.ival_Add 3 7 1 1) (B.addS 4 3 0 (IntKind.u64.wrap 1) (A.ival_Add 3 7 1 1).2.2) = _
  rw [e4]
  have e5 : B.addS 4 3 0 (IntKind.u64.wrap 1) true = (4, 0) := by
    unfold B.addS
    rw [if_neg (by decide)]
    have g : B.gg 4 0 = 4 := by decide +kernel
    rw [g, B.bm_t (by decide)]
    decide +kernel
  show mk4 (4, 8, true) (B.addS 4 3 0 (IntKind.u64.wrap 1) true) = _
  rw [e5]
  decide +kernel
theorem works_meet : (meetS (false, 3, 7, 4, 3) botS).1 = true := by
  unfold meetS meetN
  rw [if_pos (.inr (.inl (by decide +kernel)))]
  rfl
theorem works_k {γ : Type} (n : γ) (k : Bool → γ) : law_works.c n k = k true := by
  have hA := rawA
  have h1 := raw_const (Ik 1 (by decide))
  have h3 := raw_const (Ik 3 (by decide))
  have h7 := raw_const (Ik 7 (by decide))
  unfold law_works.c law_works.c0
  have f1 : num_Make 1 10 4 3 = (false, 3, 7, 4, 3) := (num_Make_s (Ik 1 (by decide)) (Ik 10 (by decide)) (Uk 4 (by decide)) (Uk 3 (by decide))).trans mk_a
  have f2 : num_Const 1 = (constS 1) := num_Const_s (Ik 1 (by decide))
  have f3 : num_Const 3 = (constS 3) := num_Const_s (Ik 3 (by decide))
  have f4 : num_Const 7 = (constS 7) := num_Const_s (Ik 7 (by decide))
  have f5 : num_Const 0 = (constS 0) := num_Const_s (Ik 0 (by decide))
  have c1 : constS 1 = (false, 1, 1, 0, 1) := by decide +kernel
  have c3 : constS 3 = (false, 3, 3, 0, 3) := by decide +kernel
  have c7 : constS 7 = (false, 7, 7, 0, 7) := by decide +kernel
  have c0 : constS 0 = (false, 0, 0, 0, 0) := by decide +kernel
  rw [c1] at h1; rw [c3] at h3; rw [c7] at h7
  have h0 : Raw (false, 0, 0, 0, 0) := ⟨I0, I0, U0, U0⟩
  have hb : Raw (true, 0, 0, 0, 0) := ⟨I0, I0, U0, U0⟩
  have w1 := works_add
  rw [c1] at w1
  have w2 := works_meet
  have q1 : joinS (false, 3, 3, 0, 3) (false, 7, 7, 0, 7) = (false, 3, 7, 4, 3) := by decide +kernel
  have q2 : leqS (false, 3, 3, 0, 3) (false, 3, 7, 4, 3) = true := by decide +kernel
  have q3 : decide (In (false, 3, 7, 4, 3) 7) = true := by decide +kernel
  have q4 : (nzS (false, 0, 0, 0, 0)).1 = true := by decide +kernel
  have o3 : isOp 3 := by decide
  simp only [f1, f2, f3, f4, f5, c1, c3, c7, c0, num_Bot_s, show botS = (true, 0, 0, 0, 0) from rfl, num_Apply_ok (op := 3) hA h1, num_Apply_s (op := 3) hA h1, num_Leq_ok h3 hA, num_Leq_s h3 hA, num_Has_s hA (Ik 7 (by decide)), num_Join_ok h3 h7, num_Join_s h3 h7, num_Meet_ok hA hb, num_Meet_s hA hb, num_NonZero_s h0, w1, show (meetS (false, 3, 7, 4, 3) (true, 0, 0, 0, 0)).1 = true from w2, q1, q2, q3, q4, if_pos o3, app6]
  rfl
theorem works_ok : law_works.ok = true := works_k _ _
theorem works_s : law_works = true := works_k _ _
/-! the statement's words -/
theorem neg_rest {q b : Int} (h : 0 < b) : (-q - 1) % b = b - 1 - q % b := by
  have h1 := Int.emod_nonneg q (show b ≠ 0 by omega)
  have h2 := Int.emod_lt_of_pos q h
  have h3 := Int.emod_add_mul_ediv q b
  have e : -q - 1 = (b - 1 - q % b) + b * (-(q / b) - 1) := by
    rw [Int.mul_sub, Int.mul_neg, Int.mul_one]; omega
  rw [e, Int.add_mul_emod_self_left]
  exact Int.emod_eq_of_lt (by omega) (by omega)
theorem rest_k {γ : Type} (n : γ) (k : Int → γ) {v m : Int} (hv : I64 v) (hm : U64 m) (h : m ≠ 0) : law_rest.c n k v m = k (v % m) := by
  unfold law_rest.c law_rest.c0
  unfold I64 at hv
  unfold U64 at hm
  have e0 : decide (m = 0) = false := by simpa using h
  rw [e0]
  simp only [Bool.not_false, cond_true]
  by_cases hs : v ≥ 0
  · rw [decide_eq_true hs, cond_true, wu_id (by omega) (by omega), Int.tmod_eq_emod_of_nonneg (by omega)]
  · rw [decide_eq_false hs, cond_false]
    congr 1
    have e1 : IntKind.u64.wrap (IntKind.i64.wrap (0 - IntKind.i64.wrap (v + 1))) = -(v + 1) := by
      rw [wi_id (x := v + 1) (by omega) (by omega), wi_id (by omega) (by omega), wu_id (by omega) (by omega)]; omega
    rw [e1, wu_id (x := m - 1) (by omega) (by omega), Int.tmod_eq_emod_of_nonneg (by omega)]
    have h1 := Int.emod_nonneg (-(v + 1)) h
    have h2 := Int.emod_lt_of_pos (-(v + 1)) (show 0 < m by omega)
    rw [wu_id (by omega) (by omega)]
    rw [← neg_rest (q := -(v + 1)) (b := m) (by omega)]
    congr 1; omega
theorem rest_s {v m : Int} (hv : I64 v) (hm : U64 m) (h : m ≠ 0) : law_rest v m = v % m := rest_k _ _ hv hm h
section
variable {a0 : Bool} {a1 a2 a3 a4 v : Int}
end
end Go.Proofs.YtonpbbhlmapbdaaGreatDoor.V
