/- Hulls, common parts and products of intervals: the program's are the document's. Conditions: none. -/
import Derived.Test.YtbbplkdjcgdaaaaDoorN4
set_option linter.unusedVariables false
set_option linter.unusedSimpArgs false
namespace Go.Proofs.YtbbplkdjcgdaaaaDoor.V
open Go Go.Wk

def jn (a b c d : Int) : Int × Int := if b < a then (if d < c then (1, 0) else (c, d)) else if d < c then (a, b) else (if c < a then c else a, if d > b then d else b)
theorem ij_s (a b c d : Int) : ival_Join a b c d = jn a b c d := by
  unfold ival_Join ival_Join.c ival_Join.c0 jn
  simp only [none_s, id, Bool.cond_decide]
  by_cases h1 : b < a <;> by_cases h2 : d < c <;> simp [h1, h2]
theorem rj_s (a b c d : Int) : ref_Join a b c d = jn a b c d := by
  unfold ref_Join ref_Join.c ref_Join.c0 ref_normal ref_normal.c ref_normal.c0 jn
  simp only [empty_s, None_s, id, Bool.cond_decide]
theorem jn_1 (v : Int) : jn 1 0 v v = (v, v) := by unfold jn; simp
theorem jn_p {l h : Int} (v : Int) (hl : l ≤ h) : jn l h v v = (min l v, max h v) := by
  unfold jn; rw [if_neg (by omega), if_neg (by omega), Prod.mk.injEq]
  constructor <;> split <;> omega
def mt (a b c d : Int) : Int × Int := if (if d < b then d else b) < (if c > a then c else a) then (1, 0) else (if c > a then c else a, if d < b then d else b)
theorem rm_s (a b c d : Int) : ref_Meet a b c d = mt a b c d := by
  unfold ref_Meet ref_Meet.c ref_Meet.c0 ref_normal ref_normal.c ref_normal.c0 mt
  simp only [empty_s, None_s, id, Bool.cond_decide]
theorem im_s (a b c d : Int) : ival_Meet a b c d = mt a b c d := by
  unfold ival_Meet ival_Meet.c ival_Meet.c0 mt
  simp only [none_s, id, Bool.cond_decide]
  by_cases h : (if d < b then d else b) < (if c > a then c else a)
  · simp only [if_pos h]; split <;> (try split) <;> rfl
  · have h1 : ¬ b < a := by intro h1; apply h; split <;> split <;> omega
    have h2 : ¬ d < c := by intro h1; apply h; split <;> split <;> omega
    simp only [h1, h2, if_neg h, if_false]

theorem bif_hi (x y : Int) (p : Prop) [Decidable p] : (bif decide p then hi x else hi y) = hi (if p then x else y) := by by_cases h : p <;> simp [h]
theorem bif_lo (x y : Int) (p : Prop) [Decidable p] : (bif decide p then lo x else lo y) = lo (if p then x else y) := by by_cases h : p <;> simp [h]
def fit (p : Int) : Prop := -9223372036854775808 ≤ p ∧ p ≤ 9223372036854775807
instance (p : Int) : Decidable (fit p) := inferInstanceAs (Decidable (_ ∧ _))
theorem wrap_lo (z : Int) : IntKind.i64.wrap (lo z) = IntKind.i64.wrap z := by unfold lo; simp only [wi_eq]; omega
/-- what both answer -/
def mulS (a b c d : Int) : Int × Int × Bool :=
  if b < a ∨ d < c then (1, 0, true)
  else if fit (a * c) ∧ fit (a * d) ∧ fit (b * c) ∧ fit (b * d) then (min (min (a * c) (a * d)) (min (b * c) (b * d)), max (max (a * c) (a * d)) (max (b * c) (b * d)), true)
  else if a = b ∧ c = d then (IntKind.i64.wrap (a * c), IntKind.i64.wrap (a * c), false)
  else (-9223372036854775808, 9223372036854775807, false)
theorem ref_Mul_s {a b c d : Int} (ha : I64 a) (hb : I64 b) (hc : I64 c) (hd : I64 d) : ref_Mul a b c d = mulS a b c d := by
  unfold ref_Mul ref_Mul.c ref_Mul.c0 mulS
  simp only [ref_Times_s ha hc, ref_Times_s ha hd, ref_Times_s hb hc, ref_Times_s hb hd, ref_less_s, bif_hi, bif_lo, ref_Fits_s, wrap_lo, empty_s, None_s, id]
  by_cases h1 : b < a
  · simp [h1]
  · by_cases h2 : d < c
    · simp [h1, h2]
    · simp only [h1, h2, decide_false, cond_false, or_self, if_false]
      have emin : (if b * d < (if b * c < (if a * d < a * c then a * d else a * c) then b * c else (if a * d < a * c then a * d else a * c)) then b * d else (if b * c < (if a * d < a * c then a * d else a * c) then b * c else (if a * d < a * c then a * d else a * c))) = min (min (a * c) (a * d)) (min (b * c) (b * d)) := by
        generalize a * c = p1; generalize a * d = p2; generalize b * c = p3; generalize b * d = p4
        (repeat' split) <;> omega
      have emax : (if (if (if a * c < a * d then a * d else a * c) < b * c then b * c else (if a * c < a * d then a * d else a * c)) < b * d then b * d else (if (if a * c < a * d then a * d else a * c) < b * c then b * c else (if a * c < a * d then a * d else a * c))) = max (max (a * c) (a * d)) (max (b * c) (b * d)) := by
        generalize a * c = p1; generalize a * d = p2; generalize b * c = p3; generalize b * d = p4
        (repeat' split) <;> omega
      rw [emin, emax]
      by_cases hf : fit (a * c) ∧ fit (a * d) ∧ fit (b * c) ∧ fit (b * d)
      · rw [if_pos hf]
        unfold fit at hf
        have f1 : (-9223372036854775808 ≤ min (min (a * c) (a * d)) (min (b * c) (b * d)) ∧ min (min (a * c) (a * d)) (min (b * c) (b * d)) ≤ 9223372036854775807) := by omega
        have f2 : (-9223372036854775808 ≤ max (max (a * c) (a * d)) (max (b * c) (b * d)) ∧ max (max (a * c) (a * d)) (max (b * c) (b * d)) ≤ 9223372036854775807) := by omega
        rw [decide_eq_true f1, decide_eq_true f2, wi_id f1.1 f1.2, wi_id f2.1 f2.2]
        rfl
      · rw [if_neg hf]
        have hcase : ∀ X Y : Int × Int × Bool, (bif decide (-9223372036854775808 ≤ min (min (a * c) (a * d)) (min (b * c) (b * d)) ∧ min (min (a * c) (a * d)) (min (b * c) (b * d)) ≤ 9223372036854775807) then (bif decide (-9223372036854775808 ≤ max (max (a * c) (a * d)) (max (b * c) (b * d)) ∧ max (max (a * c) (a * d)) (max (b * c) (b * d)) ≤ 9223372036854775807) then X else Y) else Y) = Y := by
          intro X Y
          unfold fit at hf
          by_cases f1 : (-9223372036854775808 ≤ min (min (a * c) (a * d)) (min (b * c) (b * d)) ∧ min (min (a * c) (a * d)) (min (b * c) (b * d)) ≤ 9223372036854775807)
          · by_cases f2 : (-9223372036854775808 ≤ max (max (a * c) (a * d)) (max (b * c) (b * d)) ∧ max (max (a * c) (a * d)) (max (b * c) (b * d)) ≤ 9223372036854775807)
            · exact absurd (by omega) hf
            · rw [decide_eq_false f2]; simp
          · rw [decide_eq_false f1]; rfl
        rw [hcase]
        by_cases e1 : a = b
        · by_cases e2 : c = d
          · subst e1 e2
            simp
          · have e2' : (c == d) = false := by simpa using e2
            simp [e1, e2, e2']
        · have e1' : (a == b) = false := by simpa using e1
          simp [e1, e1']
theorem ival_Mul_s {a b c d : Int} (ha : I64 a) (hb : I64 b) (hc : I64 c) (hd : I64 d) : ival_Mul a b c d = mulS a b c d := by
  unfold ival_Mul ival_Mul.c ival_Mul.c0 mulS ival_one ival_one.c
  simp only [word_Wide_s ha hc, word_Wide_s ha hd, word_Wide_s hb hc, word_Wide_s hb hd, word_Mul_s, fit_s, none_s, ij_s, id, jn_1]
  by_cases h1 : b < a
  · simp [h1]
  · by_cases h2 : d < c
    · simp [h1, h2]
    · simp only [h1, h2, decide_false, cond_false, or_self, if_false]
      by_cases hf : fit (a * c) ∧ fit (a * d) ∧ fit (b * c) ∧ fit (b * d)
      · rw [if_pos hf]
        unfold fit at hf
        obtain ⟨f1, f2, f3, f4⟩ := hf
        simp only [decide_eq_true f1, decide_eq_true f2, decide_eq_true f3, decide_eq_true f4, cond_true, wi_id f1.1 f1.2, wi_id f2.1 f2.2, wi_id f3.1 f3.2, wi_id f4.1 f4.2]
        generalize a * c = p1 at *; generalize a * d = p2 at *; generalize b * c = p3 at *; generalize b * d = p4 at *
        have j1 := jn_p (l := p1) (h := p1) p2 (by omega)
        have j2 := jn_p (l := min p1 p2) (h := max p1 p2) p3 (by omega)
        have j3 := jn_p (l := min (min p1 p2) p3) (h := max (max p1 p2) p3) p4 (by omega)
        simp only [j1, j2, j3, Prod.mk.injEq, and_true]
        constructor <;> omega
      · rw [if_neg hf]
        by_cases e : a = b ∧ c = d
        · obtain ⟨rfl, rfl⟩ := e
          have f1 : ¬ (-9223372036854775808 ≤ a * c ∧ a * c ≤ 9223372036854775807) := by unfold fit at hf; omega
          simp only [decide_eq_false f1, cond_false, beq_self_eq_true, cond_true, and_self, if_true]
          have j1 := jn_p (l := IntKind.i64.wrap (a * c)) (h := IntKind.i64.wrap (a * c)) (IntKind.i64.wrap (a * c)) (by omega)
          rw [Int.min_self, Int.max_self] at j1
          simp only [j1]
        · rw [if_neg e]
          have hone : ∀ X Y : Int × Int × Bool, (bif a == b then (bif c == d then X else Y) else Y) = Y := by
            intro X Y
            by_cases e1 : a = b
            · have e2 : (c == d) = false := by simp; exact fun h => e ⟨e1, h⟩
              rw [e2]; simp
            · have e1' : (a == b) = false := by simpa using e1
              rw [e1']; rfl
          simp only [hone]
          unfold fit at hf
          by_cases f1 : (-9223372036854775808 ≤ a * c ∧ a * c ≤ 9223372036854775807)
          · by_cases f2 : (-9223372036854775808 ≤ a * d ∧ a * d ≤ 9223372036854775807)
            · by_cases f3 : (-9223372036854775808 ≤ b * c ∧ b * c ≤ 9223372036854775807)
              · by_cases f4 : (-9223372036854775808 ≤ b * d ∧ b * d ≤ 9223372036854775807)
                · exact absurd ⟨f1, f2, f3, f4⟩ hf
                · simp only [decide_eq_true f1, decide_eq_true f2, decide_eq_true f3, decide_eq_false f4, cond_true, cond_false]
              · simp only [decide_eq_true f1, decide_eq_true f2, decide_eq_false f3, cond_true, cond_false]
            · simp only [decide_eq_true f1, decide_eq_false f2, cond_true, cond_false]
          · simp only [decide_eq_false f1, cond_false]
theorem mul_eq {a b c d : Int} (ha : I64 a) (hb : I64 b) (hc : I64 c) (hd : I64 d) : ival_Mul a b c d = ref_Mul a b c d := (ival_Mul_s ha hb hc hd).trans (ref_Mul_s ha hb hc hd).symm
end Go.Proofs.YtbbplkdjcgdaaaaDoor.V
