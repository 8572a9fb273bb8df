/- One of a number's numbers, picked; results; order, join and meet told as equalities. Conditions: none. -/
import Derived.Test.YtonpbbhlmapbdaaGreatDoorK6
set_option linter.unusedVariables false
set_option linter.unusedSimpArgs false
namespace Go.Proofs.YtonpbbhlmapbdaaGreatDoor.V
open Go Go.Wk Go.RowKit

theorem some_ex {a0 : Bool} {a1 a2 a3 a4 v : Int} (h : NF (a0, a1, a2, a3, a4)) (hv : I64 v) :
    ∃ w, I64 w ∧ (a0 = false → In (a0, a1, a2, a3, a4) w) ∧ ∀ {γ : Type} (n : γ) (k : Int → γ), law_some.c n k a0 a1 a2 a3 a4 v = k w := by
  have r := h.raw
  by_cases h3 : a3 = 0
  · refine ⟨a1, r.l, fun e => (h.nz e).l, fun n k => ?_⟩
    unfold law_some.c law_some.c0
    subst h3; rfl
  · have e0 : a0 = false := by
      cases hb : a0 with
      | false => rfl
      | true => rw [hb] at h; have := nf_bot h rfl; simp [botS] at this; exact (h3 this.2.2.1).elim
    subst e0
    have z := h.nz rfl
    obtain ⟨m0, le, _⟩ : 0 < a3 ∧ a1 + a3 ≤ a2 ∧ In (false, a1, a2, a3, a4) (a1 + a3) := by
      rcases z.st with ⟨_, e⟩ | q
      · exact (h3 e).elim
      · exact q
    have l := r.l
    have u := r.h
    have m := r.m
    unfold I64 at l u
    unfold U64 at m
    simp only at l u m
    have e1 : IntKind.u64.wrap (IntKind.u64.wrap a2 - IntKind.u64.wrap a1) = a2 - a1 := by rw [wu_eq, wu_eq, wu_eq]; omega
    have hq0 : 0 ≤ (a2 - a1) / a3 := Int.ediv_nonneg (by omega) (by omega)
    have hqm := Int.ediv_mul_le (a2 - a1) h3
    have hq1 : (a2 - a1) / a3 ≤ a2 - a1 := Int.ediv_le_self _ (by omega)
    have e2 : (a2 - a1).tdiv a3 = (a2 - a1) / a3 := Int.tdiv_eq_ediv_of_nonneg (by omega)
    have e3 : IntKind.u64.wrap ((a2 - a1) / a3) = (a2 - a1) / a3 := wu_id hq0 (by omega)
    have n3 : decide (a3 = 0) = false := by simpa using h3
    have b3 : (a3 == 0) = false := by simpa using h3
    by_cases hn : (a2 - a1) / a3 = 18446744073709551615
    · have hd : a2 - a1 = 18446744073709551615 := by omega
      have h1 : a3 = 1 := by
        rw [hn] at hqm
        omega
      refine ⟨v, hv, fun _ => ⟨rfl, ⟨by show a1 ≤ v; unfold I64 at hv; omega, by show v ≤ a2; unfold I64 at hv; omega⟩, ?_⟩, fun n k => ?_⟩
      · show B.hasS a3 a4 v = true
        rw [h1, B.has_iff]; exact Int.one_dvd _
      · unfold law_some.c law_some.c0
        simp only [e1, e2, e3, n3, b3, cond_false, Bool.not_false, cond_true, hn]
        rfl
    · have e5 : IntKind.u64.wrap ((a2 - a1) / a3 + 1) = (a2 - a1) / a3 + 1 := wu_id (by omega) (by omega)
      have hU : 0 ≤ IntKind.u64.wrap v := by rw [wu_eq]; omega
      have e6 : (IntKind.u64.wrap v).tmod ((a2 - a1) / a3 + 1) = IntKind.u64.wrap v % ((a2 - a1) / a3 + 1) := Int.tmod_eq_emod_of_nonneg hU
      have q0 := Int.emod_nonneg (IntKind.u64.wrap v) (show (a2 - a1) / a3 + 1 ≠ 0 by omega)
      have q1 := Int.emod_lt_of_pos (IntKind.u64.wrap v) (show 0 < (a2 - a1) / a3 + 1 by omega)
      have e4 : decide ((a2 - a1) / a3 + 1 = 0) = false := by simp; omega
      have b4 : ((a2 - a1) / a3 + 1 == 0) = false := by simp; omega
      refine ⟨a1 + IntKind.u64.wrap v % ((a2 - a1) / a3 + 1) * a3, ?_, ?_, fun n k => ?_⟩
      all_goals generalize IntKind.u64.wrap v % ((a2 - a1) / a3 + 1) = q at *
      all_goals
        have g0 := Int.mul_nonneg q0 (show 0 ≤ a3 by omega)
        have g1 : q * a3 ≤ (a2 - a1) / a3 * a3 := Int.mul_le_mul_of_nonneg_right (by omega) (by omega)
      · unfold I64; omega
      · refine fun _ => ⟨rfl, ⟨by show a1 ≤ _; omega, by show _ ≤ a2; omega⟩, ?_⟩
        show B.hasS a3 a4 _ = true
        rw [B.has_iff]
        have := B.has_iff.1 z.l.2.2
        simp only at this
        rw [show a1 + q * a3 - B.val a3 a4 = (a1 - B.val a3 a4) + q * a3 by omega]
        exact Int.dvd_add this (Int.dvd_mul_left q a3)
      · unfold law_some.c law_some.c0
        simp only [e1, e2, e3, e5, e6, n3, b3, e4, b4, cond_false, Bool.not_false, cond_true]
        congr 1
        rw [wu_id (x := q * a3) g0 (by omega), wi_eq, wu_eq, wu_eq]
        omega
theorem some_ok {a0 : Bool} {a1 a2 a3 a4 v : Int} (h : NF (a0, a1, a2, a3, a4)) (hv : I64 v) : law_some.ok a0 a1 a2 a3 a4 v = true := by
  obtain ⟨w, _, _, e⟩ := some_ex h hv
  exact e _ _
theorem some_in {a0 : Bool} {a1 a2 a3 a4 v : Int} (h : NF (a0, a1, a2, a3, a4)) (hv : I64 v) : I64 (law_some a0 a1 a2 a3 a4 v) ∧ (a0 = false → In (a0, a1, a2, a3, a4) (law_some a0 a1 a2 a3 a4 v)) := by
  obtain ⟨w, h1, h2, e⟩ := some_ex h hv
  have : law_some a0 a1 a2 a3 a4 v = w := e _ _
  rw [this]; exact ⟨h1, h2⟩
end Go.Proofs.YtonpbbhlmapbdaaGreatDoor.V
