/- CongSteps: the law function, evaluated: it answers true. Conditions: none. -/
import Derived.Test.YtoggbmfjkcbilaaDoorN17
set_option linter.unusedVariables false
set_option linter.unusedSimpArgs false
namespace Go.Proofs.YtoggbmfjkcbilaaDoor.V
open Go Go.Wk Go.RowKit

theorem congSteps.v {γ : Type} (n : γ) (k : Bool → γ) {m r v c : Int} (hm : U64 m) (hr : U64 r) (hv : I64 v) (hc : I64 c) : law_CongSteps.c n k m r v c = k true := by
  unfold law_CongSteps.c
  (try unfold law_CongSteps.c0)
  obtain ⟨u0, u1, u2, u3⟩ := up_spec hm hr hv
  obtain ⟨d0, d1, d2, d3⟩ := dn_spec hm hr hv
  simp only [works_ok, works_s, up_s hm hr hv, dn_s hm hr hv, inside_ok, inside_v hm hr u0, inside_v hm hr d0, inside_v hm hr hv, inside_v hm hr hc, Bool.true_or, Bool.and_self, Bool.not_true, cond_true, cond_false]
  have u3c := u3 c hc
  have d3c := d3 c hc
  have u3v := u3 v hv (Int.le_refl v)
  have d3v := d3 v hv (Int.le_refl v)
  generalize upS m r v = u at *
  generalize dnS m r v = d at *
  obtain ⟨x, a⟩ := u
  obtain ⟨y, b⟩ := d
  simp only at *
  generalize hasS m r c = hC at *
  generalize hasS m r v = hV at *
  have e1 : (bif (bif (bif (bif !a then x != 0 else false) then true else bif !b then y != 0 else false) then true else bif a then bif decide (x < v) then true else !hasS m r x else false) then true else bif b then bif decide (y > v) then true else !hasS m r y else false) = false := by
    have p1 : (bif !a then x != 0 else false) = false := by cases a <;> simp_all
    have p2 : (bif !b then y != 0 else false) = false := by cases b <;> simp_all
    have p3 : (bif a then bif decide (x < v) then true else !hasS m r x else false) = false := by
      cases a
      · rfl
      · obtain ⟨q1, q2⟩ := u1 rfl
        have : decide (x < v) = false := by simpa using q1
        simp [this, q2]
    have p4 : (bif b then bif decide (y > v) then true else !hasS m r y else false) = false := by
      cases b
      · rfl
      · obtain ⟨q1, q2⟩ := d1 rfl
        have : decide (y > v) = false := by simpa using q1
        simp [this, q2]
    rw [p1, p2, p3, p4]; rfl
  have e2 : hC = true → (bif (bif decide (c ≥ v) then bif !a then true else decide (x > c) else false) then true else bif decide (c ≤ v) then bif !b then true else decide (y < c) else false) = false := by
    intro hh
    have p1 : (bif decide (c ≥ v) then bif !a then true else decide (x > c) else false) = false := by
      by_cases g : v ≤ c
      · obtain ⟨q1, q2⟩ := u3c g hh
        have : decide (x > c) = false := by simpa using q2
        simp [q1, this]
      · have : decide (c ≥ v) = false := by simpa using g
        simp [this]
    have p2 : (bif decide (c ≤ v) then bif !b then true else decide (y < c) else false) = false := by
      by_cases g : c ≤ v
      · obtain ⟨q1, q2⟩ := d3c g hh
        have : decide (y < c) = false := by simpa using q2
        simp [q1, this]
      · have : decide (c ≤ v) = false := by simpa using g
        simp [this]
    rw [p1, p2]; rfl
  have e3 : (bif !hV then true else bif (bif (bif a then b else false) then x == v else false) then y == v else false) = true := by
    cases hV
    · rfl
    · obtain ⟨q1, q2⟩ := u3v rfl
      obtain ⟨s1, s2⟩ := d3v rfl
      have := (u1 q1).1
      have := (d1 s1).1
      have g1 : x = v := by omega
      have g2 : y = v := by omega
      simp [q1, s1, g1, g2]
  simp only [e1, e3, cond_false]
  cases hC
  · rfl
  · simp only [e2 rfl, cond_true, cond_false]
theorem congSteps.walk (a b v c : Int) (W : World) (h1 : (Lit.int .u64 a).wf = true) (h2 : (Lit.int .u64 b).wf = true) (h3 : (Lit.int .i64 v).wf = true) (h4 : (Lit.int .i64 c).wf = true) (hG : GOK GS W) :
    Calls Tryd.prog 5 #[.agg #[.int .u64 a, .int .u64 b], .int .i64 v, .int .i64 c] W fun e w' => e = .returned (.bool true) ∧ Below W.heap.size W w' := by
  refine runF_calls' CS.mixed CS.names law_CongSets.t (H := { merge := true, glue := true }) (d := 60) (fun c _ => LoopsOK_nil c) Tryd.func5 hG (gok_lt CS hG) (vs := [.agg #[.int .u64 a, .int .u64 b], .int .i64 v, .int .i64 c]) ?_
  rw [law_CongSteps.r, congSteps.v _ _ (u64_wf h1) (u64_wf h2) (i64_wf h3) (i64_wf h4)]
end Go.Proofs.YtoggbmfjkcbilaaDoor.V
