/- The program's quotient is the hull of all quotients, and the document's. Conditions: none. -/
import Derived.Test.YtbbplkdjcgdaaaaDoorN8
set_option linter.unusedVariables false
set_option linter.unusedSimpArgs false
namespace Go.Proofs.YtbbplkdjcgdaaaaDoor.V
open Go Go.Wk

theorem one_cell (q : Int) (a b : Int) : quots a b (-1) (-1) q ↔ ∃ x, a ≤ x ∧ x ≤ b ∧ q = x.tdiv (-1) := by
  constructor
  · rintro ⟨x, y, h1, h2, h3, h4, rfl⟩
    have : y = -1 := by omega
    subst this
    exact ⟨x, h1, h2, rfl⟩
  · rintro ⟨x, h1, h2, rfl⟩
    exact ⟨x, -1, h1, h2, by omega, by omega, rfl⟩
theorem ival_Div_s {a b c d : Int} (ha : I64 a) (hb : I64 b) (hc : I64 c) (hd : I64 d) (h1 : ¬ b < a) (h2 : ¬ d < c) :
    Hull ((ival_Div a b c d).1, (ival_Div a b c d).2.1) (Q a b c d) ∧ (ival_Div a b c d).2.2 = !decide (wr a b c d) := by
  have In := mt_I hc hd (i64c (x := -9223372036854775808) (by decide)) (i64c (x := -1) (by decide))
  have Ip := mt_I hc hd (i64c (x := 1) (by decide)) (i64c (x := 9223372036854775807) (by decide))
  have kn := mt_lt c d (-9223372036854775808) (-1) (by omega)
  have kp := mt_gt c d 1 9223372036854775807 (by omega)
  have hpos := cor_hull (a := a) (b := b) kp
  have hneg := cor_hull (a := a) (b := b) kn
  have cp : ival_cornersQ a b (mt c d 1 9223372036854775807).1 (mt c d 1 9223372036854775807).2 = cor a b (mt c d 1 9223372036854775807).1 (mt c d 1 9223372036854775807).2 := cq_s ha hb kp (.inr (by
    rw [mt_m]
    by_cases h : min d 9223372036854775807 < max c 1
    · rw [if_pos h]; decide
    · rw [if_neg h]; simp only; omega))
  have E1 : ival_none a b = false := by rw [none_s]; simpa using h1
  have E2 : ival_none c d = false := by rw [none_s]; simpa using h2
  unfold ival_Div ival_Div.c ival_Div.c0
  simp only [E1, E2, cond_false, iu_s, io_s, ih_s, ij_s, im_s, id, cp]
  by_cases hw : wr a b c d
  · have w1 := hw.1
    have w3 := hw.2
    have w2 := (wr_neg c d).2 hw.2
    have w4 : ¬ ((mt c d 1 9223372036854775807).1 ≤ -1 ∧ -1 ≤ (mt c d 1 9223372036854775807).2) := by rw [mt_mem]; omega
    have ea : a = -9223372036854775808 := by unfold I64 at ha; omega
    subst ea
    rw [decide_eq_true w1, decide_eq_true w2, decide_eq_true w3, decide_eq_false w4]
    simp only [cond_true, cond_false, Bool.not_true]
    have k1 : (0 : Int) < -1 ∨ (-1 : Int) < 0 := by omega
    have k2 := mt_lt (mt c d (-9223372036854775808) (-1)).1 (mt c d (-9223372036854775808) (-1)).2 (-9223372036854775808) (-2) (by omega)
    have Ia := mt_I ha hb (i64c (x := -9223372036854775807) (by decide)) (i64c (x := 9223372036854775807) (by decide))
    have c1 := cq_s Ia.1 Ia.2 k1 (.inl (mt_no' _ _ _ _ _ (by omega) (by omega)))
    have c2 := cq_s ha hb k2 (.inr (mt_no _ _ _ _ _ (by omega) (by omega)))
    simp only [c1, c2, jn_1]
    refine ⟨?_, by rw [decide_eq_true hw]; rfl⟩
    have H := (((Hull.one (-9223372036854775808)).jn (cor_hull (a := (mt (-9223372036854775808) b (-9223372036854775807) 9223372036854775807).1) (b := (mt (-9223372036854775808) b (-9223372036854775807) 9223372036854775807).2) k1)).jn (cor_hull (a := -9223372036854775808) (b := b) k2)).jn hpos
    refine H.congr fun q => ?_
    unfold I64 at ha hb hc hd
    constructor
    · rintro (((rfl | ⟨x, y, g1, g2, g3, g4, rfl⟩) | ⟨x, y, g1, g2, g3, g4, rfl⟩) | ⟨x, y, g1, g2, g3, g4, rfl⟩)
      · exact ⟨-9223372036854775808, -1, by omega, by omega, hw.2.1, hw.2.2, by omega, by rw [if_pos ⟨rfl, rfl⟩]⟩
      · have m1 := (mt_mem _ _ _ _ _).1 ⟨g1, g2⟩
        exact ⟨x, y, by omega, by omega, by omega, by omega, by omega, by rw [if_neg (by omega)]⟩
      · have m2 := (mt_mem _ _ _ _ _).1 ⟨g3, g4⟩
        have m3 := (mt_mem _ _ _ _ _).1 ⟨m2.1, m2.2.1⟩
        exact ⟨x, y, by omega, by omega, by omega, by omega, by omega, by rw [if_neg (by omega)]⟩
      · have := (mt_mem _ _ _ _ _).1 ⟨g3, g4⟩
        exact ⟨x, y, g1, g2, by omega, by omega, by omega, by rw [if_neg (by omega)]⟩
    · rintro ⟨x, y, g1, g2, g3, g4, g5, rfl⟩
      by_cases e : x = -9223372036854775808 ∧ y = -1
      · rw [if_pos e]; exact .inl (.inl (.inl rfl))
      · rw [if_neg e]
        rcases Int.lt_or_lt_of_ne g5 with hy | hy
        · by_cases ey : y = -1
          · have m2 := (mt_mem (-9223372036854775808) b (-9223372036854775807) 9223372036854775807 x).2 (by omega)
            exact .inl (.inl (.inr ⟨x, y, m2.1, m2.2, by omega, by omega, rfl⟩))
          · have m1 := (mt_mem c d (-9223372036854775808) (-1) y).2 (by omega)
            have m2 := (mt_mem (mt c d (-9223372036854775808) (-1)).1 (mt c d (-9223372036854775808) (-1)).2 (-9223372036854775808) (-2) y).2 ⟨m1.1, m1.2, by omega, by omega⟩
            exact .inl (.inr ⟨x, y, g1, g2, m2.1, m2.2, rfl⟩)
        · have m1 := (mt_mem c d 1 9223372036854775807 y).2 (by omega)
          exact .inr ⟨x, y, g1, g2, m1.1, m1.2, rfl⟩
  · have hn : (ival_cornersQ a b (mt c d (-9223372036854775808) (-1)).1 (mt c d (-9223372036854775808) (-1)).2) = cor a b (mt c d (-9223372036854775808) (-1)).1 (mt c d (-9223372036854775808) (-1)).2 := by
      by_cases ea : a = -9223372036854775808
      · refine cq_s ha hb kn (.inr fun e => hw ⟨by unfold I64 at hb; omega, ?_⟩)
        have := (wr_neg c d).1 ⟨?_, by omega⟩
        · exact this
        · rw [mt_m] at e ⊢
          revert e
          by_cases h : min d (-1) < max c (-9223372036854775808)
          · rw [if_pos h]; simp only; omega
          · rw [if_neg h]; simp only; omega
      · exact cq_s ha hb kn (.inl ea)
    have H0 := (((Hull.none (S := fun _ => False) fun q h => h).jn hneg).jn hpos)
    have H := H0.congr (S' := Q a b c d) fun q => by
      rw [← set_plain ha hb hc hd hw]
      constructor
      · rintro ((h | h) | h)
        · exact h.elim
        · exact .inr h
        · exact .inl h
      · rintro (h | h)
        · exact .inr h
        · exact .inl (.inr h)
    by_cases w1 : a ≤ -9223372036854775808 ∧ -9223372036854775808 ≤ b
    · have w2 : ¬ (c ≤ -1 ∧ -1 ≤ d) := fun h => hw ⟨w1, h⟩
      rw [decide_eq_true w1, decide_eq_false w2, decide_eq_false hw]
      simp only [Bool.not_true, Bool.not_false, cond_false, cond_true, hn]
      exact ⟨H, trivial⟩
    · rw [decide_eq_false w1, decide_eq_false hw]
      simp only [Bool.not_true, Bool.not_false, cond_false, cond_true, hn]
      exact ⟨H, trivial⟩
theorem div_eq {a b c d : Int} (ha : I64 a) (hb : I64 b) (hc : I64 c) (hd : I64 d) : ival_Div a b c d = ref_Div a b c d := by
  by_cases h1 : b < a
  · unfold ival_Div ival_Div.c ival_Div.c0 ref_Div ref_Div.c ref_Div.c0
    simp only [none_s, empty_s, decide_eq_true h1, cond_true, None_s]
  · by_cases h2 : d < c
    · unfold ival_Div ival_Div.c ival_Div.c0 ref_Div ref_Div.c ref_Div.c0
      simp only [none_s, empty_s, decide_eq_true h2, decide_eq_false h1, cond_true, cond_false, None_s]
    · obtain ⟨p1, p2⟩ := ival_Div_s ha hb hc hd h1 h2
      obtain ⟨q1, q2⟩ := ref_Div_s ha hb hc hd h1 h2
      have e := p1.uniq q1
      simp only [Prod.mk.injEq] at e
      exact Prod.ext e.1 (Prod.ext e.2 (p2.trans q2.symm))
end Go.Proofs.YtbbplkdjcgdaaaaDoor.V
