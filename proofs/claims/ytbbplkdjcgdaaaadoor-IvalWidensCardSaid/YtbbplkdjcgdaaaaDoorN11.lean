/- Operations on numbers: results and whether they wrap. Conditions: none. -/
import Derived.Test.YtbbplkdjcgdaaaaDoorE5
import Derived.Test.YtbbplkdjcgdaaaaDoorN10
set_option linter.unusedVariables false
set_option linter.unusedSimpArgs false
namespace Go.Proofs.YtbbplkdjcgdaaaaDoor.V
open Go Go.Wk

/-- the result, whether there is one, whether it wraps -/
def doneS (how x y : Int) : Int × Bool × Bool :=
  if how = 0 then (IntKind.i64.wrap (-x), true, decide (¬ fit (-x)))
  else if how = 1 then (IntKind.i64.wrap (x + y), true, decide (¬ fit (x + y)))
  else if how = 2 then (IntKind.i64.wrap (x - y), true, decide (¬ fit (x - y)))
  else if how = 3 then (IntKind.i64.wrap (x * y), true, decide (¬ fit (x * y)))
  else if y = 0 then (0, false, false)
  else if how = 4 then ((if x = -9223372036854775808 ∧ y = -1 then -9223372036854775808 else x.tdiv y), true, decide (x = -9223372036854775808 ∧ y = -1))
  else ((if y = -1 then 0 else x.tmod y), true, false)
theorem tmod_lt {p x : Int} (hx : x ≠ 0) : (p - x * p.tdiv x).natAbs < x.natAbs := by
  have h := Int.mul_tdiv_add_tmod p x
  have e : p - x * p.tdiv x = p.tmod x := by omega
  rw [e, Int.natAbs_tmod]
  exact Nat.mod_lt _ (by omega)
theorem mul_wraps {x y : Int} (hx : I64 x) (hy : I64 y) (h0 : x ≠ 0) (h1 : x ≠ -1) : (IntKind.i64.wrap (x * y)).tdiv x = y ↔ fit (x * y) := by
  constructor
  · intro h
    have ht := tmod_lt (p := IntKind.i64.wrap (x * y)) h0
    rw [h] at ht
    unfold I64 at hx
    unfold fit
    revert ht
    rw [wi_eq]
    generalize x * y = p
    intro ht
    omega
  · intro h
    rw [wi_id h.1 h.2, Int.mul_tdiv_cancel_left _ h0]
theorem cb {α : Type} (b : Bool) (p : Prop) [Decidable p] (h : b = true ↔ p) (X Y : α) : (bif b then X else Y) = if p then X else Y := by
  by_cases hp : p
  · rw [if_pos hp, h.2 hp]; rfl
  · rw [if_neg hp]; cases b with
    | true => exact absurd (h.1 rfl) hp
    | false => rfl
theorem cbe {α : Type} (x y : Int) (X Y : α) : (bif x == y then X else Y) = if x = y then X else Y := cb _ _ (by simp) X Y
theorem cbn {α : Type} (x y : Int) (X Y : α) : (bif x != y then X else Y) = if x = y then Y else X := by
  rw [cb (x != y) (x ≠ y) (by simp)]
  by_cases h : x = y
  · rw [if_pos h, if_neg (fun h' => h' h)]
  · rw [if_neg h, if_pos h]
theorem cbd {α : Type} (p : Prop) [Decidable p] (X Y : α) : (bif !decide p then X else Y) = if p then Y else X := by
  by_cases h : p <;> simp [h]
theorem done_k {γ : Type} (n : γ) (k : Int × Bool × Bool → γ) (how : Int) {x y : Int} (hx : I64 x) (hy : I64 y) : law_done.c n k how x y = k (doneS how x y) := by
  have hm := mul_I hx hy
  have mw := fun h0 h1 => mul_wraps hx hy h0 h1
  have ti := fun h h' => tdiv_I (y := y) hx h h'
  have tw : x ≠ 0 → x ≠ -1 → IntKind.i64.wrap ((IntKind.i64.wrap (x * y)).tdiv x) = (IntKind.i64.wrap (x * y)).tdiv x := fun h0 h1 => by
    have := tdiv_I (x := IntKind.i64.wrap (x * y)) (y := x) ⟨wi_lo _, wi_hi _⟩ h0 (.inr h1)
    exact wi_id this.1 this.2
  have w1 : IntKind.i64.wrap (0 - x) = IntKind.i64.wrap (-x) := by rw [Int.zero_sub]
  unfold I64 at hx hy
  unfold law_done.c law_done.c0 doneS
  simp only [cbe, cbn, cbd, Bool.cond_decide, w1]
  by_cases c0 : how = 0
  · rw [if_pos c0, if_pos c0]
    congr 3
    rw [Bool.eq_iff_iff, beq_iff_eq, decide_eq_true_eq]; unfold fit; omega
  · rw [if_neg c0, if_neg c0]
    by_cases c1 : how = 1
    · rw [if_pos c1, if_pos c1]
      by_cases y1 : y > 0
      · have e : IntKind.i64.wrap (9223372036854775807 - y) = 9223372036854775807 - y := wi_id (by omega) (by omega)
        have y2 : ¬ y < 0 := by omega
        rw [if_pos y1, e, if_neg y2]
        by_cases h : x > 9223372036854775807 - y
        · rw [if_pos h, decide_eq_true (show ¬ fit (x + y) by unfold fit; omega)]
        · rw [if_neg h, decide_eq_false (show ¬ ¬ fit (x + y) by unfold fit; omega)]
      · rw [if_neg y1]
        by_cases y2 : y < 0
        · have e : IntKind.i64.wrap (-9223372036854775808 - y) = -9223372036854775808 - y := wi_id (by omega) (by omega)
          rw [if_pos y2, e]
          congr 3
          rw [decide_eq_decide]; unfold fit; omega
        · rw [if_neg y2, decide_eq_false (show ¬ ¬ fit (x + y) by unfold fit; omega)]
    · rw [if_neg c1, if_neg c1]
      by_cases c2 : how = 2
      · rw [if_pos c2, if_pos c2]
        by_cases y1 : y < 0
        · have e : IntKind.i64.wrap (9223372036854775807 + y) = 9223372036854775807 + y := wi_id (by omega) (by omega)
          have y2 : ¬ y > 0 := by omega
          rw [if_pos y1, e, if_neg y2]
          by_cases h : x > 9223372036854775807 + y
          · rw [if_pos h, decide_eq_true (show ¬ fit (x - y) by unfold fit; omega)]
          · rw [if_neg h, decide_eq_false (show ¬ ¬ fit (x - y) by unfold fit; omega)]
        · rw [if_neg y1]
          by_cases y2 : y > 0
          · have e : IntKind.i64.wrap (-9223372036854775808 + y) = -9223372036854775808 + y := wi_id (by omega) (by omega)
            rw [if_pos y2, e]
            congr 3
            rw [decide_eq_decide]; unfold fit; omega
          · rw [if_neg y2, decide_eq_false (show ¬ ¬ fit (x - y) by unfold fit; omega)]
      · rw [if_neg c2, if_neg c2]
        by_cases c3 : how = 3
        · rw [if_pos c3, if_pos c3]
          by_cases x0 : x = 0
          · subst x0
            simp [fit]
          · rw [if_neg x0]
            by_cases x1 : x = -1
            · subst x1
              have e : (-1 : Int) * y = -y := by omega
              rw [e]
              by_cases ym : y = -9223372036854775808
              · subst ym; simp [fit]
              · rw [decide_eq_false (show ¬ ¬ fit (-y) by unfold fit; omega)]
                by_cases yy : y = -1
                · simp [yy]
                · simp [ym, yy]
            · have hw := mw x0 x1
              rw [tw x0 x1]
              by_cases hf : fit (x * y)
              · have e := hw.2 hf
                rw [decide_eq_false (show ¬ ¬ fit (x * y) from fun h => h hf)]
                by_cases yy : y = -1
                · have xm : ¬ x = -9223372036854775808 := by
                    intro h; subst h; subst yy; unfold fit at hf; omega
                  have xb : (x == -9223372036854775808) = false := by simpa using xm
                  rw [e, if_pos yy, xb]
                  simp [x0, x1, yy]
                · simp [x1, x0, e, yy]
              · have e : ¬ (IntKind.i64.wrap (x * y)).tdiv x = y := fun h => hf (hw.1 h)
                rw [decide_eq_true (show ¬ fit (x * y) from hf)]
                simp [x1, x0, e]
        · rw [if_neg c3, if_neg c3]
          by_cases y0 : y = 0
          · rw [if_pos y0, if_pos y0]
          · rw [if_neg y0, if_neg y0]
            by_cases y1 : y = -1
            · subst y1
              by_cases c4 : how = 4
              · rw [if_pos rfl, if_pos c4, if_pos c4]
                by_cases xm : x = -9223372036854775808
                · subst xm; rfl
                · have e : IntKind.i64.wrap (-x) = -x := wi_id (by omega) (by omega)
                  have xb : (x == -9223372036854775808) = false := by simpa using xm
                  rw [e, xb]
                  simp [xm]
              · rw [if_pos rfl, if_neg c4, if_neg c4, if_pos rfl]
                rfl
            · by_cases c4 : how = 4
              · have e := ti y0 (.inr y1)
                rw [if_neg y1, if_pos c4, if_pos c4, wi_id e.1 e.2]
                simp [y0, y1]
              · rw [if_neg y1, if_neg c4, if_neg c4]
                simp [y0, y1]
theorem done_ok (how : Int) {x y : Int} (hx : I64 x) (hy : I64 y) : law_done.ok how x y = true := done_k _ _ how hx hy
theorem done_s (how : Int) {x y : Int} (hx : I64 x) (hy : I64 y) : law_done how x y = doneS how x y := done_k _ _ how hx hy
end Go.Proofs.YtbbplkdjcgdaaaaDoor.V
