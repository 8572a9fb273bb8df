/- Quotients of intervals: both answers are the hull of all quotients. Conditions: none. -/
import Derived.Test.YtbbplkdjcgdaaaaDoorN7
set_option linter.unusedVariables false
set_option linter.unusedSimpArgs false
namespace Go.Proofs.YtbbplkdjcgdaaaaDoor.V
open Go Go.Wk

theorem ref_Div_ok (a b c d : Int) : ref_Div.ok a b c d = true := by
  unfold ref_Div.ok ref_Div.c ref_Div.c0
  simp only [rm_s, rc_ok (mt_lt _ _ _ (-1) (by omega)), rc_ok (mt_lt _ _ _ (-2) (by omega)), rc_ok (mt_gt _ _ 1 _ (by omega)), cond_true]
  cases ref_Empty a b <;> cases ref_Empty c d <;> simp only [cond_true, cond_false]
  cases ref_Has a b (-9223372036854775808) <;> simp only [Bool.not_true, Bool.not_false, cond_true, cond_false]
  rw [Bool.cond_self]
/-- all quotients, the one that wraps as it wraps -/
def Q (a b c d q : Int) : Prop := ∃ x y, a ≤ x ∧ x ≤ b ∧ c ≤ y ∧ y ≤ d ∧ y ≠ 0 ∧ q = if x = -9223372036854775808 ∧ y = -1 then -9223372036854775808 else x.tdiv y
def wr (a b c d : Int) : Prop := (a ≤ -9223372036854775808 ∧ -9223372036854775808 ≤ b) ∧ (c ≤ -1 ∧ -1 ≤ d)
instance (a b c d : Int) : Decidable (wr a b c d) := inferInstanceAs (Decidable (_ ∧ _))
theorem wr_neg (c d : Int) : ((mt c d (-9223372036854775808) (-1)).1 ≤ -1 ∧ -1 ≤ (mt c d (-9223372036854775808) (-1)).2) ↔ (c ≤ -1 ∧ -1 ≤ d) := by
  rw [mt_mem]; omega
theorem i64c {x : Int} (h : -9223372036854775808 ≤ x ∧ x ≤ 9223372036854775807) : I64 x := h
theorem set_plain {a b c d q : Int} (ha : I64 a) (hb : I64 b) (hc : I64 c) (hd : I64 d) (h : ¬ wr a b c d) :
    (quots a b (mt c d 1 9223372036854775807).1 (mt c d 1 9223372036854775807).2 q ∨ quots a b (mt c d (-9223372036854775808) (-1)).1 (mt c d (-9223372036854775808) (-1)).2 q) ↔ Q a b c d q := by
  unfold I64 at ha hb hc hd
  constructor
  · rintro (⟨x, y, h1, h2, h3, h4, rfl⟩ | ⟨x, y, h1, h2, h3, h4, rfl⟩)
    · have := (mt_mem _ _ _ _ _).1 ⟨h3, h4⟩
      exact ⟨x, y, h1, h2, by omega, by omega, by omega, by rw [if_neg (by omega)]⟩
    · have := (mt_mem _ _ _ _ _).1 ⟨h3, h4⟩
      exact ⟨x, y, h1, h2, by omega, by omega, by omega, by rw [if_neg (fun e => h ⟨by omega, by omega⟩)]⟩
  · rintro ⟨x, y, h1, h2, h3, h4, h5, rfl⟩
    rw [if_neg (fun e => h ⟨by omega, by omega⟩)]
    rcases Int.lt_or_lt_of_ne h5 with hy | hy
    · have := (mt_mem c d (-9223372036854775808) (-1) y).2 (by omega)
      exact .inr ⟨x, y, h1, h2, this.1, this.2, rfl⟩
    · have := (mt_mem c d 1 9223372036854775807 y).2 (by omega)
      exact .inl ⟨x, y, h1, h2, this.1, this.2, rfl⟩
theorem ref_Div_s {a b c d : Int} (ha : I64 a) (hb : I64 b) (hc : I64 c) (hd : I64 d) (h1 : ¬ b < a) (h2 : ¬ d < c) :
    Hull ((ref_Div a b c d).1, (ref_Div a b c d).2.1) (Q a b c d) ∧ (ref_Div a b c d).2.2 = !decide (wr a b c d) := by
  have In := mt_I hc hd (i64c (x := -9223372036854775808) (by decide)) (i64c (x := -1) (by decide))
  have Ip := mt_I hc hd (i64c (x := 1) (by decide)) (i64c (x := 9223372036854775807) (by decide))
  have kn := mt_lt c d (-9223372036854775808) (-1) (by omega)
  have kp := mt_gt c d 1 9223372036854775807 (by omega)
  have hpos := cor_hull (a := a) (b := b) kp
  have hneg := cor_hull (a := a) (b := b) kn
  have cp : ref_corners a b (mt c d 1 9223372036854775807).1 (mt c d 1 9223372036854775807).2 = cor a b (mt c d 1 9223372036854775807).1 (mt c d 1 9223372036854775807).2 := rc_s ha hb kp (.inr (by
    rw [mt_m]
    by_cases h : min d 9223372036854775807 < max c 1
    · rw [if_pos h]; decide
    · rw [if_neg h]; simp only; omega))
  have o1 := rc_ok (a := a) (b := b) kp
  have o2 := rc_ok (a := a) (b := b) kn
  have E1 : ref_Empty a b = false := by rw [empty_s]; simpa using h1
  have E2 : ref_Empty c d = false := by rw [empty_s]; simpa using h2
  unfold ref_Div ref_Div.c ref_Div.c0
  simp only [E1, E2, cond_false, rm_s, rh_s, rj_s, o1, cond_true, id, cp, o2]
  by_cases hw : wr a b c d
  · have w1 := hw.1
    have w2 := (wr_neg c d).2 hw.2
    have ea : a = -9223372036854775808 := by unfold I64 at ha; omega
    subst ea
    rw [decide_eq_true w1, decide_eq_true w2]
    simp only [Bool.not_true, cond_false]
    have k2 := mt_lt (mt c d (-9223372036854775808) (-1)).1 (mt c d (-9223372036854775808) (-1)).2 (-9223372036854775808) (-2) (by omega)
    have Ia := mt_I ha hb (i64c (x := -9223372036854775807) (by decide)) (i64c (x := 9223372036854775807) (by decide))
    have c1 := rc_s Ia.1 Ia.2 kn (.inl (mt_no' _ _ _ _ _ (by omega) (by omega)))
    have c2 := rc_s (i64c (x := -9223372036854775808) (by decide)) (i64c (x := -9223372036854775808) (by decide)) k2 (.inr (mt_no _ _ _ _ _ (by omega) (by omega)))
    simp only [rc_ok kn, rc_ok k2, cond_true, c1, c2]
    refine ⟨?_, by rw [decide_eq_true hw]; rfl⟩
    have H := ((hpos.jn (Hull.one (-9223372036854775808))).jn (cor_hull (a := (mt (-9223372036854775808) b (-9223372036854775807) 9223372036854775807).1) (b := (mt (-9223372036854775808) b (-9223372036854775807) 9223372036854775807).2) kn)).jn (cor_hull (a := -9223372036854775808) (b := -9223372036854775808) k2)
    refine H.congr fun q => ?_
    unfold I64 at ha hb hc hd
    constructor
    · rintro (((⟨x, y, g1, g2, g3, g4, rfl⟩ | rfl) | ⟨x, y, g1, g2, g3, g4, rfl⟩) | ⟨x, y, g1, g2, g3, g4, rfl⟩)
      · have := (mt_mem _ _ _ _ _).1 ⟨g3, g4⟩
        exact ⟨x, y, g1, g2, by omega, by omega, by omega, by rw [if_neg (by omega)]⟩
      · exact ⟨-9223372036854775808, -1, by omega, by omega, hw.2.1, hw.2.2, by omega, by rw [if_pos ⟨rfl, rfl⟩]⟩
      · have m1 := (mt_mem _ _ _ _ _).1 ⟨g1, g2⟩
        have m2 := (mt_mem _ _ _ _ _).1 ⟨g3, g4⟩
        exact ⟨x, y, by omega, by omega, by omega, by omega, by omega, by rw [if_neg (by omega)]⟩
      · have m2 := (mt_mem _ _ _ _ _).1 ⟨g3, g4⟩
        have m3 := (mt_mem _ _ _ _ _).1 ⟨m2.1, m2.2.1⟩
        exact ⟨x, y, by omega, by omega, by omega, by omega, by omega, by rw [if_neg (by omega)]⟩
    · rintro ⟨x, y, g1, g2, g3, g4, g5, rfl⟩
      by_cases e : x = -9223372036854775808 ∧ y = -1
      · rw [if_pos e]; exact .inl (.inl (.inr rfl))
      · rw [if_neg e]
        rcases Int.lt_or_lt_of_ne g5 with hy | hy
        · have m1 := (mt_mem c d (-9223372036854775808) (-1) y).2 (by omega)
          by_cases ex : x = -9223372036854775808
          · have m2 := (mt_mem (mt c d (-9223372036854775808) (-1)).1 (mt c d (-9223372036854775808) (-1)).2 (-9223372036854775808) (-2) y).2 ⟨m1.1, m1.2, by omega, by omega⟩
            exact .inr ⟨x, y, by omega, by omega, m2.1, m2.2, rfl⟩
          · have m2 := (mt_mem (-9223372036854775808) b (-9223372036854775807) 9223372036854775807 x).2 (by omega)
            exact .inl (.inr ⟨x, y, m2.1, m2.2, m1.1, m1.2, rfl⟩)
        · have m1 := (mt_mem c d 1 9223372036854775807 y).2 (by omega)
          exact .inl (.inl (.inl ⟨x, y, g1, g2, m1.1, m1.2, rfl⟩))
  · have hn : (ref_corners a b (mt c d (-9223372036854775808) (-1)).1 (mt c d (-9223372036854775808) (-1)).2) = cor a b (mt c d (-9223372036854775808) (-1)).1 (mt c d (-9223372036854775808) (-1)).2 := by
      by_cases ea : a = -9223372036854775808
      · refine rc_s ha hb kn (.inr fun e => hw ⟨by unfold I64 at hb; omega, ?_⟩)
        have := (wr_neg c d).1 ⟨?_, by omega⟩
        · exact this
        · rw [mt_m] at e ⊢
          revert e
          by_cases h : min d (-1) < max c (-9223372036854775808)
          · rw [if_pos h]; simp only; omega
          · rw [if_neg h]; simp only; omega
      · exact rc_s ha hb kn (.inl ea)
    have H := (hpos.jn hneg).congr fun q => set_plain ha hb hc hd hw
    by_cases w1 : a ≤ -9223372036854775808 ∧ -9223372036854775808 ≤ b
    · have w2 : ¬ ((mt c d (-9223372036854775808) (-1)).1 ≤ -1 ∧ -1 ≤ (mt c d (-9223372036854775808) (-1)).2) := fun h => hw ⟨w1, (wr_neg c d).1 h⟩
      rw [decide_eq_true w1, decide_eq_false w2, decide_eq_false hw]
      simp only [Bool.not_true, Bool.not_false, cond_false, cond_true, hn]
      exact ⟨H, trivial⟩
    · rw [decide_eq_false w1, decide_eq_false hw]
      simp only [Bool.not_true, Bool.not_false, cond_false, cond_true, hn]
      exact ⟨H, trivial⟩
end Go.Proofs.YtbbplkdjcgdaaaaDoor.V
