/- The document's Compare and Negate of chapter 14. Conditions: none. -/
import Derived.Test.YtonpbbhlmapbdaaGreatDoorK9
set_option linter.unusedVariables false
set_option linter.unusedSimpArgs false
namespace Go.Proofs.YtonpbbhlmapbdaaGreatDoor.V
open Go Go.Wk Go.RowKit

def isCmp (op : Int) : Prop := op = 8 ∨ op = 9 ∨ op = 10 ∨ op = 11 ∨ op = 12 ∨ op = 13
instance (op : Int) : Decidable (isCmp op) := inferInstanceAs (Decidable (_ ∨ _))
def negO (op : Int) : Int := if op = 8 then 11 else if op = 9 then 10 else if op = 10 then 9 else if op = 11 then 8 else if op = 12 then 13 else 12
noncomputable def cmpN (op : Int) (a b : Nm) : Nm × Nm := if op = 8 then ltS a b else if op = 9 then leP a b else if op = 10 then ((ltS b a).2, (ltS b a).1) else if op = 11 then ((leP b a).2, (leP b a).1) else if op = 12 then (meetS a b, meetS a b) else (wo a b, wo b a)
noncomputable def cmpS (op : Int) (a b : Nm) : Nm × Nm := if (normS a).1 = true ∨ (normS b).1 = true then (botS, botS) else bothS (cmpN op (normS a) (normS b))
theorem r14_Negate_s (op : Int) : r14_Negate op = if isCmp op then (negO op, 0) else (0, 1) := by
  unfold r14_Negate r14_Negate.c negO isCmp
  by_cases h1 : op = 8
  · subst h1; rfl
  by_cases h2 : op = 9
  · subst h2; rfl
  by_cases h3 : op = 10
  · subst h3; rfl
  by_cases h4 : op = 11
  · subst h4; rfl
  by_cases h5 : op = 12
  · subst h5; rfl
  by_cases h6 : op = 13
  · subst h6; rfl
  simp [Bool.cond_eq_ite, h1, h2, h3, h4, h5, h6]
theorem bothS_bot : bothS (botS, botS) = (botS, botS) := rfl
theorem app11_swap (p : Nm × Nm) : app11 (bothS (p.2, p.1)) 0 = app11 ((bothS p).2, (bothS p).1) 0 := by
  unfold bothS
  by_cases h : p.1.1 = true
  · rw [if_pos (.inr h), if_pos (.inl h)]
  · by_cases h' : p.2.1 = true
    · rw [if_pos (.inl h'), if_pos (.inr h')]
    · rw [if_neg (by simp [h, h']), if_neg (by simp [h, h'])]
section
variable {x y : Nm}
theorem r14_Compare_k {γ : Type} (n : γ) (k : Bool × Int × Int × Int × Int × Bool × Int × Int × Int × Int × Int → γ) {op : Int} (hx : Raw x) (hy : Raw y) :
    r14_Compare.c n k op x.1 x.2.1 x.2.2.1 x.2.2.2.1 x.2.2.2.2 y.1 y.2.1 y.2.2.1 y.2.2.2.1 y.2.2.2.2 = k (if isCmp op then app11 (cmpS op x y) 0 else app11 (botS, botS) 1) := by
  by_cases hop : isCmp op
  · unfold r14_Compare.c r14_Compare.c0 cmpS
    rw [if_pos hop]
    have nX := norm_nf hx
    have nY := norm_nf hy
    simp only [r14_Negate_s, if_pos hop, r14_bot_ok hx, r14_bot_s hx, r14_bot_ok hy, r14_bot_s hy, rN_ok hx, rN_s hx, rN_ok hy, rN_s hy, nref_Bot_s, bne_self_eq_false, cond_false, cond_true, Bool.true_or, Bool.true_and]
    generalize normS x = X at *
    generalize normS y = Y at *
    have rX := nX.raw
    have rY := nY.raw
    have iX : normS X = X := norm_fix nX
    have iY : normS Y = Y := norm_fix nY
    simp only [r14_bot_ok rX, r14_bot_s rX, r14_bot_ok rY, r14_bot_s rY, rN_ok rX, rN_s rX, rN_ok rY, rN_s rY, iX, iY, cond_true, Bool.true_or, Bool.true_and]
    by_cases hX : X.1 = true
    · simp [hX, app11, botS]
    by_cases hY : Y.1 = true
    · simp [hX, hY, app11, botS]
    have hX : X.1 = false := by simpa using hX
    have hY : Y.1 = false := by simpa using hY
    rw [if_neg (by simp [hX, hY])]
    simp only [r14_to_ok (B.wi_I _), r14_to_s (B.wi_I _), r14_from_ok (B.wi_I _), r14_from_s (B.wi_I _), r14_to_ok rX.h, r14_to_s rX.h, r14_to_ok rY.h, r14_to_s rY.h, r14_from_ok rX.l, r14_from_s rX.l, r14_from_ok rY.l, r14_from_s rY.l,
      rM_ok rX (to_nf (B.wi_I _)).raw, rM_s rX (to_nf (B.wi_I _)).raw, rM_ok rX (from_nf (B.wi_I _)).raw, rM_s rX (from_nf (B.wi_I _)).raw, rM_ok rY (to_nf (B.wi_I _)).raw, rM_s rY (to_nf (B.wi_I _)).raw, rM_ok rY (from_nf (B.wi_I _)).raw, rM_s rY (from_nf (B.wi_I _)).raw,
      rM_ok rX (to_nf rY.h).raw, rM_s rX (to_nf rY.h).raw, rM_ok rX (from_nf rY.l).raw, rM_s rX (from_nf rY.l).raw, rM_ok rY (to_nf rX.h).raw, rM_s rY (to_nf rX.h).raw, rM_ok rY (from_nf rX.l).raw, rM_s rY (from_nf rX.l).raw, rM_ok rX rY, rM_s rX rY,
      r14_both_s, r14_less_ok nX hX, r14_less_s nX hX, r14_less_ok nY hY, r14_less_s nY hY, r14_one_s, cond_true, Bool.true_or, Bool.true_and]
    simp only [hX, hY, Bool.not_false, Bool.true_and, Bool.and_true, cond_false, Bool.true_or, cond_true]
    rcases hop with rfl | rfl | rfl | rfl | rfl | rfl
    · simp only [show ((8 : Int) == 8) = true from rfl, show ((8 : Int) == 9) = false from rfl, show ((8 : Int) == 10) = false from rfl, show ((8 : Int) == 11) = false from rfl, show ((8 : Int) == 12) = false from rfl, show ((8 : Int) == 13) = false from rfl, cond_true, cond_false, cmpN, if_true, ltS]
      by_cases h1 : Y.2.2.1 = -9223372036854775808 <;> by_cases h2 : X.2.1 = 9223372036854775807 <;> simp [h1, h2, botS, app11, bothS, Bool.cond_eq_ite]
    · simp only [show ((9 : Int) == 8) = false from rfl, show ((9 : Int) == 9) = true from rfl, show ((9 : Int) == 10) = false from rfl, show ((9 : Int) == 11) = false from rfl, show ((9 : Int) == 12) = false from rfl, show ((9 : Int) == 13) = false from rfl, cond_true, cond_false, cmpN, if_true, if_false, show ¬ (9 : Int) = 8 by decide, leP] <;> rfl
    · simp only [show ((10 : Int) == 8) = false from rfl, show ((10 : Int) == 9) = false from rfl, show ((10 : Int) == 10) = true from rfl, show ((10 : Int) == 11) = false from rfl, show ((10 : Int) == 12) = false from rfl, show ((10 : Int) == 13) = false from rfl, cond_true, cond_false, cmpN, if_true, if_false, show ¬ (10 : Int) = 8 by decide, show ¬ (10 : Int) = 9 by decide, app11_swap (ltS Y X)]
      unfold ltS
      by_cases h1 : X.2.2.1 = -9223372036854775808 <;> by_cases h2 : Y.2.1 = 9223372036854775807 <;> simp [h1, h2, botS, app11, bothS, Bool.cond_eq_ite]
    · simp only [show ((11 : Int) == 8) = false from rfl, show ((11 : Int) == 9) = false from rfl, show ((11 : Int) == 10) = false from rfl, show ((11 : Int) == 11) = true from rfl, show ((11 : Int) == 12) = false from rfl, show ((11 : Int) == 13) = false from rfl, cond_true, cond_false, cmpN, if_true, if_false, show ¬ (11 : Int) = 8 by decide, show ¬ (11 : Int) = 9 by decide, show ¬ (11 : Int) = 10 by decide, app11_swap (leP Y X)]
      (try unfold leP)
      (try rfl)
    · simp only [show ((12 : Int) == 8) = false from rfl, show ((12 : Int) == 9) = false from rfl, show ((12 : Int) == 10) = false from rfl, show ((12 : Int) == 11) = false from rfl, show ((12 : Int) == 12) = true from rfl, show ((12 : Int) == 13) = false from rfl, cond_true, cond_false, cmpN, if_true, if_false, show ¬ (12 : Int) = 8 by decide, show ¬ (12 : Int) = 9 by decide, show ¬ (12 : Int) = 10 by decide, show ¬ (12 : Int) = 11 by decide] <;> rfl
    · simp only [show ((13 : Int) == 8) = false from rfl, show ((13 : Int) == 9) = false from rfl, show ((13 : Int) == 10) = false from rfl, show ((13 : Int) == 11) = false from rfl, show ((13 : Int) == 12) = false from rfl, show ((13 : Int) == 13) = true from rfl, cond_true, cond_false, cmpN, if_true, if_false, show ¬ (13 : Int) = 8 by decide, show ¬ (13 : Int) = 9 by decide, show ¬ (13 : Int) = 10 by decide, show ¬ (13 : Int) = 11 by decide, show ¬ (13 : Int) = 12 by decide, wo]
      by_cases h1 : Y.2.1 = Y.2.2.1 <;> by_cases h2 : X.2.1 = X.2.2.1
      · have e1 : (Y.2.1 == Y.2.2.1) = true := by simpa using h1
        have e2 : (X.2.1 == X.2.2.1) = true := by simpa using h2
        simp only [e1, e2, cond_true, Bool.or_true, r14_both_s, if_pos h1, if_pos h2] <;> rfl
      · have e1 : (Y.2.1 == Y.2.2.1) = true := by simpa using h1
        have e2 : (X.2.1 == X.2.2.1) = false := by simpa using h2
        have q := r14_both_s (x := lessS X Y.2.1) (y := Y)
        rw [hY] at q
        simp only [e1, e2, cond_true, cond_false, Bool.or_true, if_pos h1, if_neg h2, q] <;> rfl
      · have e1 : (Y.2.1 == Y.2.2.1) = false := by simpa using h1
        have e2 : (X.2.1 == X.2.2.1) = true := by simpa using h2
        have q := r14_both_s (x := X) (y := lessS Y X.2.1)
        rw [hX] at q
        simp only [e1, e2, cond_true, cond_false, Bool.or_true, if_neg h1, if_pos h2, q] <;> rfl
      · have e1 : (Y.2.1 == Y.2.2.1) = false := by simpa using h1
        have e2 : (X.2.1 == X.2.2.1) = false := by simpa using h2
        simp only [e1, e2, cond_true, cond_false, Bool.or_true]
        rw [if_neg h1, if_neg h2]
        have := r14_both_s (x := X) (y := Y)
        rw [hX, hY] at this
        rw [this]
  · unfold r14_Compare.c r14_Compare.c0
    simp only [r14_Negate_s, if_neg hop, nref_Bot_s]
    rfl
theorem r14_Compare_ok {op : Int} (hx : Raw x) (hy : Raw y) : r14_Compare.ok op x.1 x.2.1 x.2.2.1 x.2.2.2.1 x.2.2.2.2 y.1 y.2.1 y.2.2.1 y.2.2.2.1 y.2.2.2.2 = true := r14_Compare_k _ _ hx hy
theorem r14_Compare_s {op : Int} (hx : Raw x) (hy : Raw y) : r14_Compare op x.1 x.2.1 x.2.2.1 x.2.2.2.1 x.2.2.2.2 y.1 y.2.1 y.2.2.1 y.2.2.2.1 y.2.2.2.2 = if isCmp op then app11 (cmpS op x y) 0 else app11 (botS, botS) 1 := r14_Compare_k _ _ hx hy
end
end Go.Proofs.YtonpbbhlmapbdaaGreatDoor.V
