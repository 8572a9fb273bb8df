/- CongMeets: the law function, evaluated: it answers true. Conditions: none. -/
import Derived.Test.YtoggbmfjkcbilaaDoorN19
set_option linter.unusedVariables false
set_option linter.unusedSimpArgs false
namespace Go.Proofs.YtoggbmfjkcbilaaDoor.V
open Go Go.Wk Go.RowKit

theorem pair_beq (p q : Int × Int) : (p.1 == q.1 && (p.2 == q.2 && true)) = decide (p = q) := by
  obtain ⟨a, b⟩ := p
  obtain ⟨c, d⟩ := q
  rw [Bool.eq_iff_iff]
  simp
theorem congMeets.v {γ : Type} (n : γ) (k : Bool → γ) {a0 a1 b0 b1 c0 c1 v : Int} (h1 : U64 a0) (h2 : U64 a1) (h3 : U64 b0) (h4 : U64 b1) (h5 : U64 c0) (h6 : U64 c1) (hv : I64 v) : law_CongMeets.c n k a0 a1 b0 b1 c0 c1 v = k true := by
  unfold law_CongMeets.c
  (try unfold law_CongMeets.c0)
  obtain ⟨j1, j2, j3, j4, j5⟩ := join_spec h1 h2 h3 h4
  obtain ⟨m1, m2, m3, m4, m5⟩ := meet_spec h1 h2 h3 h4
  have jc := join_comm h1 h2 h3 h4
  have mc := meet_comm h1 h2 h3 h4
  have lj := leq_join h1 h2 h3 h4
  simp only [works_ok, works_s, meet_ok h1 h2 h3 h4, meet_ok h3 h4 h1 h2, join_ok h1 h2 h3 h4, join_ok h3 h4 h1 h2, meet_s h1 h2 h3 h4, meet_s h3 h4 h1 h2, join_s h1 h2 h3 h4, join_s h3 h4 h1 h2, inside_ok, norm_s h3 h4, ← jc, ← mc, inside_v h1 h2 hv, inside_v h3 h4 hv, inside_v m1 m2 hv, inside_v j1 j2 hv, has_s h1 h2 hv,
    leq_ok h1 h2 j1 j2, leq_ok h3 h4 j1 j2, leq_ok h1 h2 h5 h6, leq_ok h3 h4 h5 h6, leq_ok j1 j2 h5 h6, leq_ok h1 h2 h3 h4, leq_s h1 h2 j1 j2, leq_s h3 h4 j1 j2, leq_s h1 h2 h5 h6, leq_s h3 h4 h5 h6, leq_s j1 j2 h5 h6, leq_s h1 h2 h3 h4,
    Bool.true_or, Bool.and_self, Bool.not_true, cond_true, cond_false]
  have m5v := m5 v hv
  have hjA : hasS a0 a1 v = true → hasS (joinS a0 a1 b0 b1).1 (joinS a0 a1 b0 b1).2 v = true := by
    rw [has_iff, has_iff]
    intro h
    have q := ((j3 _).1 (Int.dvd_refl _)).1.1
    have := Int.dvd_sub (Int.dvd_trans q h) j4
    rwa [show ∀ x y z : Int, x - z - (y - z) = x - y from fun x y z => by omega] at this
  have jAB := ((j3 _).1 (Int.dvd_refl _)).2
  have hjB : hasS b0 b1 v = true → hasS (joinS a0 a1 b0 b1).1 (joinS a0 a1 b0 b1).2 v = true := by
    rw [has_iff, has_iff]
    intro h
    have q := ((j3 _).1 (Int.dvd_refl _)).1.2
    have := Int.dvd_sub (Int.dvd_trans q h) (Int.dvd_add j4 jAB)
    rwa [show ∀ x y z w : Int, x - w - (y - z + (z - w)) = x - y from fun x y z w => by omega] at this
  have lA : leqS a0 a1 (joinS a0 a1 b0 b1).1 (joinS a0 a1 b0 b1).2 = true := by
    rw [leq_iff h2 j2]
    refine ⟨((j3 _).1 (Int.dvd_refl _)).1.1, ?_⟩
    have := Int.dvd_neg.2 j4
    rwa [show ∀ x y : Int, -(x - y) = y - x from fun x y => by omega] at this
  have lB : leqS b0 b1 (joinS a0 a1 b0 b1).1 (joinS a0 a1 b0 b1).2 = true := by
    rw [leq_iff h4 j2]
    refine ⟨((j3 _).1 (Int.dvd_refl _)).1.2, ?_⟩
    have := Int.dvd_neg.2 (Int.dvd_add j4 jAB)
    rwa [show ∀ x y z : Int, -(x - y + (y - z)) = z - x from fun x y z => by omega] at this
  have lC : leqS a0 a1 c0 c1 = true → leqS b0 b1 c0 c1 = true → leqS (joinS a0 a1 b0 b1).1 (joinS a0 a1 b0 b1).2 c0 c1 = true := by
    rw [leq_iff h2 h6, leq_iff h4 h6, leq_iff j2 h6]
    rintro ⟨x1, x2⟩ ⟨y1, y2⟩
    have d := Int.dvd_sub x2 y2
    rw [show ∀ x y z : Int, x - z - (y - z) = x - y from fun x y z => by omega] at d
    have q := (j3 c0).2 ⟨⟨x1, y1⟩, d⟩
    refine ⟨q, ?_⟩
    have := Int.dvd_add (Int.dvd_trans q j4) x2
    rwa [show ∀ x y z : Int, x - y + (y - z) = x - z from fun x y z => by omega] at this
  have lD : leqS a0 a1 b0 b1 = true → hasS a0 a1 v = true → hasS b0 b1 v = true := by
    rw [leq_iff h2 h4, has_iff, has_iff]
    rintro ⟨x1, x2⟩ y
    have := Int.dvd_add (Int.dvd_trans x1 y) x2
    rwa [show ∀ x y z : Int, x - y + (y - z) = x - z from fun x y z => by omega] at this
  have lE : leqS a0 a1 b0 b1 = true → leqS b0 b1 c0 c1 = true → leqS a0 a1 c0 c1 = true := by
    rw [leq_iff h2 h4, leq_iff h4 h6, leq_iff h2 h6]
    rintro ⟨x1, x2⟩ ⟨y1, y2⟩
    have := Int.dvd_add (Int.dvd_trans y1 x2) y2
    rw [show ∀ x y z : Int, x - y + (y - z) = x - z from fun x y z => by omega] at this
    exact ⟨Int.dvd_trans y1 x1, this⟩
  have eJ : ((b0, nr b0 b1).1 == (joinS a0 a1 b0 b1).1 && ((b0, nr b0 b1).2 == (joinS a0 a1 b0 b1).2 && true)) = leqS a0 a1 b0 b1 := by
    rw [pair_beq, Bool.eq_iff_iff, decide_eq_true_eq, lj]
    exact ⟨Eq.symm, Eq.symm⟩
  simp only at eJ
  generalize hJ : joinS a0 a1 b0 b1 = J at *
  generalize hM : meetS a0 a1 b0 b1 = M at *
  obtain ⟨J0, J1⟩ := J
  obtain ⟨M0, M1, Mb⟩ := M
  simp only at *
  rw [eJ, lA, lB]
  clear eJ lj lA lB jc mc
  have cj : (J0 == 0 || decide (J1 < J0)) = true := by rcases j5 with h | h <;> simp [h]
  have cm : (M0 == 0 || decide (M1 < M0)) = true := by rcases m3 with h | h <;> simp [h]
  generalize leqS a0 a1 b0 b1 = pAB at *
  generalize leqS a0 a1 c0 c1 = pAC at *
  generalize leqS b0 b1 c0 c1 = pBC at *
  generalize leqS J0 J1 c0 c1 = pJC at *
  generalize hasS a0 a1 v = qA at *
  generalize hasS b0 b1 v = qB at *
  generalize hasS J0 J1 v = qJ at *
  generalize hasS M0 M1 v = qM at *
  have e0 : (Mb = false → (M0 == 0 && (M1 == 0 && true)) = true) := by intro h; obtain ⟨x, y⟩ := m4 h; simp [x, y]
  clear m4 j1 j2 j3 j4 m1 m2 m5 h1 h2 h3 h4 h5 h6 hv jAB hJ hM
  simp only [beq_self_eq_true, Bool.and_self, Bool.not_true, cond_true, cond_false, Bool.not_false, Bool.true_or, Bool.or_true]
  generalize (M0 == 0 && (M1 == 0 && true)) = z0 at *
  have cj' : (bif J0 == 0 then true else decide (J1 < J0)) = true := by revert cj; cases (J0 == 0) <;> simp
  have cm' : (bif M0 == 0 then true else decide (M1 < M0)) = true := by revert cm; cases (M0 == 0) <;> simp
  simp only [cj', cm']
  clear cj cm cj' cm' j5 m3
  cases pAB <;> cases pAC <;> cases pBC <;> cases pJC <;> cases qA <;> cases qB <;> cases qJ <;> cases qM <;> cases Mb <;> simp_all
theorem congMeets.walk (a b c d e f v : Int) (W : World) (h1 : (Lit.int .u64 a).wf = true) (h2 : (Lit.int .u64 b).wf = true) (h3 : (Lit.int .u64 c).wf = true) (h4 : (Lit.int .u64 d).wf = true) (h5 : (Lit.int .u64 e).wf = true) (h6 : (Lit.int .u64 f).wf = true) (h7 : (Lit.int .i64 v).wf = true) (hG : GOK GS W) :
    Calls Tryd.prog 3 #[.agg #[.int .u64 a, .int .u64 b], .agg #[.int .u64 c, .int .u64 d], .agg #[.int .u64 e, .int .u64 f], .int .i64 v] W fun x w' => x = .returned (.bool true) ∧ Below W.heap.size W w' := by
  refine runF_calls' CS.mixed CS.names law_CongSteps.t (H := { merge := true, glue := true }) (d := 60) (fun c _ => LoopsOK_nil c) Tryd.func3 hG (gok_lt CS hG) (vs := [.agg #[.int .u64 a, .int .u64 b], .agg #[.int .u64 c, .int .u64 d], .agg #[.int .u64 e, .int .u64 f], .int .i64 v]) ?_
  rw [law_CongMeets.r, congMeets.v _ _ (u64_wf h1) (u64_wf h2) (u64_wf h3) (u64_wf h4) (u64_wf h5) (u64_wf h6) (i64_wf h7)]
end Go.Proofs.YtoggbmfjkcbilaaDoor.V
