/- Parts: K6, K7, K8. Conditions: none. -/
import Derived.Test.YtonpbbhlmapbdaaGreatDoorKA
import Derived.Test.YtonpbbhlmapbdaaGreatDoorE8
set_option linter.unusedVariables false
set_option linter.unusedSimpArgs false
namespace Go.Proofs.YtonpbbhlmapbdaaGreatDoor.V
open Go Go.Wk Go.RowKit
theorem mk_a : makeS 1 10 4 3 = (false, 3, 7, 4, 3) := by decide +kernel
theorem rawA : Raw (false, 3, 7, 4, 3) := ⟨by unfold I64; decide, by unfold I64; decide, by unfold U64; decide, by unfold U64; decide⟩
theorem Ik (k : Int) (h : -1000 < k ∧ k < 1000) : I64 k := by unfold I64; omega
theorem Uk (k : Int) (h : 0 ≤ k ∧ k < 1000) : U64 k := by unfold U64; omega
theorem works_add : applyS 3 (false, 3, 7, 4, 3) (constS 1) = (false, 4, 8, 4, 0) := by
  have e1 : normS (false, 3, 7, 4, 3) = (false, 3, 7, 4, 3) := by decide +kernel
  have e2 : normS (constS 1) = constS 1 := by decide +kernel
  unfold applyS
  rw [e1, e2]
  have e3 : rhs 3 (constS 1) = constS 1 := by unfold rhs; rw [if_neg (by decide)]
  rw [e3, if_neg (by decide)]
  unfold applyN
  rw [if_neg (by decide), if_pos rfl]
  have e4 : A.ival_Add 3 7 1 1 = (4, 8, true) := by
    rw [A.add_span (Ik 3 (by decide)) (Ik 7 (by decide)) (Ik 1 (by decide)) (Ik 1 (by decide)) (by decide) (by decide)]
    decide +kernel
  show mk4 (A.ival_Add 3 7 1 1) (B.addS 4 3 0 (IntKind.u64.wrap 1) (A.ival_Add 3 7 1 1).2.2) = _
  rw [e4]
  have e5 : B.addS 4 3 0 (IntKind.u64.wrap 1) true = (4, 0) := by
    unfold B.addS
    rw [if_neg (by decide)]
    have g : B.gg 4 0 = 4 := by decide +kernel
    rw [g, B.bm_t (by decide)]
    decide +kernel
  show mk4 (4, 8, true) (B.addS 4 3 0 (IntKind.u64.wrap 1) true) = _
  rw [e5]
  decide +kernel
theorem works_meet : (meetS (false, 3, 7, 4, 3) botS).1 = true := by
  unfold meetS meetN
  rw [if_pos (.inr (.inl (by decide +kernel)))]
  rfl
theorem works_k {γ : Type} (n : γ) (k : Bool → γ) : law_works.c n k = k true := by
  have hA := rawA
  have h1 := raw_const (Ik 1 (by decide))
  have h3 := raw_const (Ik 3 (by decide))
  have h7 := raw_const (Ik 7 (by decide))
  unfold law_works.c law_works.c0
  have f1 : num_Make 1 10 4 3 = (false, 3, 7, 4, 3) := (num_Make_s (Ik 1 (by decide)) (Ik 10 (by decide)) (Uk 4 (by decide)) (Uk 3 (by decide))).trans mk_a
  have f2 : num_Const 1 = (constS 1) := num_Const_s (Ik 1 (by decide))
  have f3 : num_Const 3 = (constS 3) := num_Const_s (Ik 3 (by decide))
  have f4 : num_Const 7 = (constS 7) := num_Const_s (Ik 7 (by decide))
  have f5 : num_Const 0 = (constS 0) := num_Const_s (Ik 0 (by decide))
  have c1 : constS 1 = (false, 1, 1, 0, 1) := by decide +kernel
  have c3 : constS 3 = (false, 3, 3, 0, 3) := by decide +kernel
  have c7 : constS 7 = (false, 7, 7, 0, 7) := by decide +kernel
  have c0 : constS 0 = (false, 0, 0, 0, 0) := by decide +kernel
  rw [c1] at h1; rw [c3] at h3; rw [c7] at h7
  have h0 : Raw (false, 0, 0, 0, 0) := ⟨I0, I0, U0, U0⟩
  have hb : Raw (true, 0, 0, 0, 0) := ⟨I0, I0, U0, U0⟩
  have w1 := works_add
  rw [c1] at w1
  have w2 := works_meet
  have q1 : joinS (false, 3, 3, 0, 3) (false, 7, 7, 0, 7) = (false, 3, 7, 4, 3) := by decide +kernel
  have q2 : leqS (false, 3, 3, 0, 3) (false, 3, 7, 4, 3) = true := by decide +kernel
  have q3 : decide (In (false, 3, 7, 4, 3) 7) = true := by decide +kernel
  have q4 : (nzS (false, 0, 0, 0, 0)).1 = true := by decide +kernel
  have o3 : isOp 3 := by decide
  simp only [f1, f2, f3, f4, f5, c1, c3, c7, c0, num_Bot_s, show botS = (true, 0, 0, 0, 0) from rfl, num_Apply_ok (op := 3) hA h1, num_Apply_s (op := 3) hA h1, num_Leq_ok h3 hA, num_Leq_s h3 hA, num_Has_s hA (Ik 7 (by decide)), num_Join_ok h3 h7, num_Join_s h3 h7, num_Meet_ok hA hb, num_Meet_s hA hb, num_NonZero_s h0, w1, show (meetS (false, 3, 7, 4, 3) (true, 0, 0, 0, 0)).1 = true from w2, q1, q2, q3, q4, if_pos o3, app6]
  rfl
theorem works_ok : law_works.ok = true := works_k _ _
theorem works_s : law_works = true := works_k _ _
/-! the statement's words -/
theorem neg_rest {q b : Int} (h : 0 < b) : (-q - 1) % b = b - 1 - q % b := by
  have h1 := Int.emod_nonneg q (show b ≠ 0 by omega)
  have h2 := Int.emod_lt_of_pos q h
  have h3 := Int.emod_add_mul_ediv q b
  have e : -q - 1 = (b - 1 - q % b) + b * (-(q / b) - 1) := by
    rw [Int.mul_sub, Int.mul_neg, Int.mul_one]; omega
  rw [e, Int.add_mul_emod_self_left]
  exact Int.emod_eq_of_lt (by omega) (by omega)
theorem rest_k {γ : Type} (n : γ) (k : Int → γ) {v m : Int} (hv : I64 v) (hm : U64 m) (h : m ≠ 0) : law_rest.c n k v m = k (v % m) := by
  unfold law_rest.c law_rest.c0
  unfold I64 at hv
  unfold U64 at hm
  have e0 : decide (m = 0) = false := by simpa using h
  rw [e0]
  simp only [Bool.not_false, cond_true]
  by_cases hs : v ≥ 0
  · rw [decide_eq_true hs, cond_true, wu_id (by omega) (by omega), Int.tmod_eq_emod_of_nonneg (by omega)]
  · rw [decide_eq_false hs, cond_false]
    congr 1
    have e1 : IntKind.u64.wrap (IntKind.i64.wrap (0 - IntKind.i64.wrap (v + 1))) = -(v + 1) := by
      rw [wi_id (x := v + 1) (by omega) (by omega), wi_id (by omega) (by omega), wu_id (by omega) (by omega)]; omega
    rw [e1, wu_id (x := m - 1) (by omega) (by omega), Int.tmod_eq_emod_of_nonneg (by omega)]
    have h1 := Int.emod_nonneg (-(v + 1)) h
    have h2 := Int.emod_lt_of_pos (-(v + 1)) (show 0 < m by omega)
    rw [wu_id (by omega) (by omega)]
    rw [← neg_rest (q := -(v + 1)) (b := m) (by omega)]
    congr 1; omega
theorem rest_ok {v m : Int} (hv : I64 v) (hm : U64 m) (h : m ≠ 0) : law_rest.ok v m = true := rest_k _ _ hv hm h
theorem rest_s {v m : Int} (hv : I64 v) (hm : U64 m) (h : m ≠ 0) : law_rest v m = v % m := rest_k _ _ hv hm h
section
variable {a0 : Bool} {a1 a2 a3 a4 v : Int}
theorem has_const' {r v : Int} (hr : U64 r) (hv : I64 v) : B.hasS 0 r v = decide (IntKind.u64.wrap v = r) := by
  unfold B.hasS
  rw [if_pos rfl, Bool.eq_iff_iff, decide_eq_true_eq, decide_eq_true_eq]
  unfold U64 at hr; unfold I64 at hv
  rw [wi_eq, wu_eq]; omega
theorem inside_k {γ : Type} (n : γ) (k : Bool → γ) (h : Raw (a0, a1, a2, a3, a4)) (hv : I64 v) : law_inside.c n k a0 a1 a2 a3 a4 v = k (decide (In (a0, a1, a2, a3, a4) v)) := by
  unfold law_inside.c law_inside.c0
  cases a0 with
  | true => simp [In]
  | false =>
    by_cases h1 : v < a1
    · have : ¬ In (false, a1, a2, a3, a4) v := fun i => by have := i.2.1; simp only at this; omega
      simp [h1, this]
    · by_cases h2 : v > a2
      · have : ¬ In (false, a1, a2, a3, a4) v := fun i => by have := i.2.1; simp only at this; omega
        simp [h2, this]
      · by_cases h3 : a3 = 0
        · subst h3
          simp only [In, has_const' h.r hv, h1, h2, decide_false, decide_true, cond_false, cond_true, beq_self_eq_true, decide_eq_true_eq, true_and]
          congr 1
          rw [Bool.eq_iff_iff]
          simp only [beq_iff_eq, decide_eq_true_eq]
          constructor
          · intro e; exact ⟨⟨by omega, by omega⟩, e⟩
          · exact fun e => e.2
        · have e3 : (a3 == 0) = false := by simpa using h3
          have e4 : decide (a3 = 0) = false := by simpa using h3
          simp only [h1, h2, decide_false, cond_false, e3, e4, rest_ok hv h.m h3, rest_s hv h.m h3, Bool.not_false, cond_true]
          congr 1
          rw [Bool.eq_iff_iff]
          simp only [beq_iff_eq, decide_eq_true_eq]
          unfold In B.hasS
          have hr := h.r
          simp only at hr
          unfold U64 at hr
          rw [Int.tmod_eq_emod_of_nonneg hr.1]
          simp only [if_neg h3, decide_eq_true_eq, true_and]
          constructor
          · intro e; exact ⟨⟨by omega, by omega⟩, e⟩
          · exact fun e => e.2
theorem inside_ok (h : Raw (a0, a1, a2, a3, a4)) (hv : I64 v) : law_inside.ok a0 a1 a2 a3 a4 v = true := inside_k _ _ h hv
theorem inside_s (h : Raw (a0, a1, a2, a3, a4)) (hv : I64 v) : law_inside a0 a1 a2 a3 a4 v = decide (In (a0, a1, a2, a3, a4) v) := inside_k _ _ h hv
theorem normal_k {γ : Type} (n : γ) (k : Bool → γ) (h : NF (a0, a1, a2, a3, a4)) : law_normal.c n k a0 a1 a2 a3 a4 = k true := by
  have r := h.raw
  unfold law_normal.c law_normal.c0
  simp only [inside_ok r r.l, inside_ok r r.h, inside_s r r.l, inside_s r r.h, Bool.true_or, Bool.true_and, cond_true]
  suffices key : ∀ x : Nm, NF x → (a0, a1, a2, a3, a4) = x → (bif a0 then k (a0 == true && (a1 == 0 && (a2 == 0 && true) && (a3 == 0 && (a4 == 0 && true) && true)))
      else
        bif bif bif decide (a1 > a2) then true else !decide (In (a0, a1, a2, a3, a4) a1) then true else !decide (In (a0, a1, a2, a3, a4) a2) then k false
        else
          bif a1 == a2 then k (a3 == 0 && (a4 == IntKind.u64.wrap a1 && true))
          else k (bif decide (a3 > 0) then decide (a4 < a3) else false)) = k true from key _ h rfl
  intro x h hx
  cases h with
  | bot =>
    simp only [botS, Prod.mk.injEq] at hx
    obtain ⟨rfl, rfl, rfl, rfl, rfl⟩ := hx
    rfl
  | @one v hv =>
    simp only [constS, Prod.mk.injEq] at hx
    obtain ⟨rfl, rfl, rfl, rfl, rfl⟩ := hx
    have i : In (false, a2, a2, 0, IntKind.u64.wrap a2) a2 := (in_const hv).2 rfl
    simp [i]
  | many hl hh hm hr lt m0 rm i1 i2 =>
    simp only [Prod.mk.injEq] at hx
    obtain ⟨rfl, rfl, rfl, rfl, rfl⟩ := hx
    have i : In (false, a1, a2, a3, a4) a1 := ⟨rfl, ⟨Int.le_refl _, by show a1 ≤ a2; omega⟩, i1⟩
    have j : In (false, a1, a2, a3, a4) a2 := ⟨rfl, ⟨by show a1 ≤ a2; omega, Int.le_refl _⟩, i2⟩
    have e1 : (a1 == a2) = false := by simp; omega
    have e2 : decide (a1 > a2) = false := by simp; omega
    simp [i, j, e1, e2, m0, rm]
theorem normal_ok (h : NF (a0, a1, a2, a3, a4)) : law_normal.ok a0 a1 a2 a3 a4 = true := normal_k _ _ h
theorem normal_s (h : NF (a0, a1, a2, a3, a4)) : law_normal a0 a1 a2 a3 a4 = true := normal_k _ _ h
end
end Go.Proofs.YtonpbbhlmapbdaaGreatDoor.V
