/- What the results of two intervals' numbers come to: their hull, and whether one wraps. Conditions: none. -/
import Derived.Test.YtbbplkdjcgdaaaaDoorWIvalHolds
set_option linter.unusedVariables false
set_option linter.unusedSimpArgs false
namespace Go.Proofs.YtbbplkdjcgdaaaaDoor.V
open Go Go.Wk Go.RowKit

def ResP (P : Int → Int → Prop) (how q : Int) : Prop := ∃ x y, P x y ∧ (doneS how x y).2.1 = true ∧ q = (doneS how x y).1
def WrP (P : Int → Int → Prop) (how : Int) : Prop := ∃ x y, P x y ∧ (doneS how x y).2.1 = true ∧ (doneS how x y).2.2 = true
def Box (a b c d x y : Int) : Prop := a ≤ x ∧ x ≤ b ∧ c ≤ y ∧ y ≤ d
theorem span_hull {l h : Int} (hlh : l ≤ h) : Hull ((span_s l h).1, (span_s l h).2.1) (fun q => ∃ z, l ≤ z ∧ z ≤ h ∧ q = IntKind.i64.wrap z) := by
  refine .inr ⟨?_, ?_, ?_⟩
  · unfold span_s
    by_cases hc : cnt l = cnt h
    · rw [if_pos hc]; exact ⟨l, Int.le_refl _, hlh, rfl⟩
    · rw [if_neg hc]
      unfold cnt at hc
      refine ⟨18446744073709551616 * ((h + 9223372036854775808) / 18446744073709551616) - 9223372036854775808, by omega, by omega, ?_⟩
      simp only [wi_eq]; omega
  · unfold span_s
    by_cases hc : cnt l = cnt h
    · rw [if_pos hc]; exact ⟨h, hlh, Int.le_refl _, rfl⟩
    · rw [if_neg hc]
      unfold cnt at hc
      refine ⟨18446744073709551616 * ((h + 9223372036854775808) / 18446744073709551616) - 9223372036854775808 - 1, by omega, by omega, ?_⟩
      simp only [wi_eq]; omega
  · rintro q ⟨z, h1, h2, rfl⟩
    exact span_in h1 h2
theorem span_exact {l h : Int} (hlh : l ≤ h) : (span_s l h).2.2 = true ↔ ¬ ∃ z, l ≤ z ∧ z ≤ h ∧ ¬ fit z := by
  constructor
  · rintro he ⟨z, h1, h2, h3⟩
    exact h3 (span_fit h1 h2 he)
  · intro hn
    have f1 : fit l := Classical.byContradiction fun h' => hn ⟨l, Int.le_refl _, hlh, h'⟩
    have f2 : fit h := Classical.byContradiction fun h' => hn ⟨h, hlh, Int.le_refl _, h'⟩
    unfold fit at f1 f2
    unfold span_s cnt
    rw [if_pos (by omega)]
    simp only [decide_eq_true_eq]
    omega
/-- what the answers must be to the results -/
structure Told (how a b c d : Int) : Prop where
  exact_ : (law_asked how a b c d).2.2 = true ↔ ¬ WrP (Box a b c d) how
  hull : how ≠ 3 → how ≠ 5 → Hull ((law_asked how a b c d).1, (law_asked how a b c d).2.1) (ResP (Box a b c d) how)
  within : ∀ q, ResP (Box a b c d) how q → (law_asked how a b c d).1 ≤ q ∧ q ≤ (law_asked how a b c d).2.1
  none_ : (∀ q, ¬ ResP (Box a b c d) how q) → (law_asked how a b c d).1 = 1 ∧ (law_asked how a b c d).2.1 = 0
  mul : how = 3 → ¬ WrP (Box a b c d) how → Hull ((law_asked how a b c d).1, (law_asked how a b c d).2.1) (ResP (Box a b c d) how)
theorem rem_c0 (a b c d : Int) (t1 : Bool) (t2 : Bool) (t3 : Int × Int) (t4 : Bool) (t5 : Int × Int) (t6 : Bool) (t7 : Bool) (t8 : Bool) (t9 : Int × Bool) (t10 : Int) (t11 : Int) (t12 : Int) (t13 : Int) (t14 : Int) (t15 : Int) (t16 : Int) (t17 : Int) (t18 : Int) (t19 : Int) (t20 : Int) (t21 : Int) (t22 : Int) (t23 : Int) (t24 : Int) (t25 : Int) (t26 : Int) (t27 : Int) (t28 : Int) (t29 : Int) (t30 : Int) (t31 : Int) (t32 : Int) (t33 : Int) : ival_Rem.c0 (fun q => q.2.2) a b c d t1 t2 t3 t4 t5 t6 t7 t8 t9 t10 t11 t12 t13 t14 t15 t16 t17 t18 t19 t20 t21 t22 t23 t24 t25 t26 t27 t28 t29 t30 t31 t32 t33 = true := by
  unfold ival_Rem.c0; (repeat' (first | rfl | (rw [Bool.cond_eq_ite]; split)))
theorem dfit {z : Int} : decide (¬ fit z) = true ↔ ¬ fit z := by simp
section
variable {a b c d : Int} (ha : I64 a) (hb : I64 b) (hc : I64 c) (hd : I64 d) (hab : a ≤ b) (hcd : c ≤ d)
include ha hb hc hd hab hcd
theorem within_all (how : Int) : ∀ q, ResP (Box a b c d) how q → (law_asked how a b c d).1 ≤ q ∧ q ≤ (law_asked how a b c d).2.1 := by
  have _u := hab
  have _v := hcd
  rintro q ⟨x, y, ⟨h1, h2, h3, h4⟩, ht, rfl⟩
  exact (asked_in ha hb hc hd h1 h2 h3 h4 ht).1
theorem told_of_hull (how : Int) (h3 : how ≠ 3) (he : (law_asked how a b c d).2.2 = true ↔ ¬ WrP (Box a b c d) how) (hh : Hull ((law_asked how a b c d).1, (law_asked how a b c d).2.1) (ResP (Box a b c d) how)) : Told how a b c d where
  exact_ := he
  hull _ _ := hh
  within := within_all ha hb hc hd hab hcd how
  none_ hn := by
    rcases hh with ⟨h, _⟩ | ⟨h, _⟩
    · simpa using h
    · exact absurd h (hn _)
  mul h := absurd h h3
theorem told0 : Told 0 a b c d := by
  have e : law_asked 0 a b c d = span_s (0 - b) (0 - a) := by rw [asked_s, if_pos rfl, neg_span ha hb hab]
  have d0 : ∀ x y, doneS 0 x y = (IntKind.i64.wrap (-x), true, decide (¬ fit (-x))) := fun x y => by unfold doneS; rw [if_pos rfl]
  refine told_of_hull ha hb hc hd hab hcd 0 (by decide) ?_ ?_
  · rw [e, span_exact (by omega)]
    refine not_congr ⟨?_, ?_⟩
    · rintro ⟨z, h1, h2, h3⟩
      refine ⟨-z, c, ⟨by omega, by omega, Int.le_refl _, hcd⟩, by rw [d0], ?_⟩
      rw [d0]; simpa using h3
    · rintro ⟨x, y, ⟨h1, h2, _, _⟩, _, hw⟩
      rw [d0] at hw
      exact ⟨-x, by omega, by omega, by simpa using hw⟩
  · rw [e]
    refine (span_hull (by omega)).congr fun q => ⟨?_, ?_⟩
    · rintro ⟨z, h1, h2, rfl⟩
      refine ⟨-z, c, ⟨by omega, by omega, Int.le_refl _, hcd⟩, by rw [d0], ?_⟩
      rw [d0]; simp
    · rintro ⟨x, y, ⟨h1, h2, _, _⟩, _, rfl⟩
      rw [d0]
      exact ⟨-x, by omega, by omega, rfl⟩
theorem told1 : Told 1 a b c d := by
  have e : law_asked 1 a b c d = span_s (a + c) (b + d) := by rw [asked_s, if_neg (by decide), if_pos rfl, add_span ha hb hc hd hab hcd]
  have d0 : ∀ x y, doneS 1 x y = (IntKind.i64.wrap (x + y), true, decide (¬ fit (x + y))) := fun x y => by unfold doneS; rw [if_neg (by decide), if_pos rfl]
  have part : ∀ z, a + c ≤ z → z ≤ b + d → ∃ x y, Box a b c d x y ∧ x + y = z := by
    intro z h1 h2
    by_cases g : z - c ≤ b
    · exact ⟨z - c, c, ⟨by omega, g, by omega, hcd⟩, by omega⟩
    · exact ⟨b, z - b, ⟨hab, by omega, by omega, by omega⟩, by omega⟩
  refine told_of_hull ha hb hc hd hab hcd 1 (by decide) ?_ ?_
  · rw [e, span_exact (by omega)]
    refine not_congr ⟨?_, ?_⟩
    · rintro ⟨z, h1, h2, h3⟩
      obtain ⟨x, y, hB, rfl⟩ := part z h1 h2
      exact ⟨x, y, hB, by rw [d0], by rw [d0]; simpa using h3⟩
    · rintro ⟨x, y, ⟨h1, h2, h3, h4⟩, _, hw⟩
      rw [d0] at hw
      exact ⟨x + y, by omega, by omega, by simpa using hw⟩
  · rw [e]
    refine (span_hull (by omega)).congr fun q => ⟨?_, ?_⟩
    · rintro ⟨z, h1, h2, rfl⟩
      obtain ⟨x, y, hB, rfl⟩ := part z h1 h2
      exact ⟨x, y, hB, by rw [d0], by rw [d0]⟩
    · rintro ⟨x, y, ⟨h1, h2, h3, h4⟩, _, rfl⟩
      rw [d0]
      exact ⟨x + y, by omega, by omega, rfl⟩
theorem told2 : Told 2 a b c d := by
  have e : law_asked 2 a b c d = span_s (a - d) (b - c) := by rw [asked_s, if_neg (by decide), if_neg (by decide), if_pos rfl, sub_span ha hb hc hd hab hcd]
  have d0 : ∀ x y, doneS 2 x y = (IntKind.i64.wrap (x - y), true, decide (¬ fit (x - y))) := fun x y => by unfold doneS; rw [if_neg (by decide), if_neg (by decide), if_pos rfl]
  have part : ∀ z, a - d ≤ z → z ≤ b - c → ∃ x y, Box a b c d x y ∧ x - y = z := by
    intro z h1 h2
    by_cases g : z + c ≤ b
    · by_cases g2 : a ≤ z + c
      · exact ⟨z + c, c, ⟨g2, g, Int.le_refl _, hcd⟩, by omega⟩
      · exact ⟨a, a - z, ⟨Int.le_refl _, hab, by omega, by omega⟩, by omega⟩
    · exact absurd g (by omega)
  refine told_of_hull ha hb hc hd hab hcd 2 (by decide) ?_ ?_
  · rw [e, span_exact (by omega)]
    refine not_congr ⟨?_, ?_⟩
    · rintro ⟨z, h1, h2, h3⟩
      obtain ⟨x, y, hB, rfl⟩ := part z h1 h2
      exact ⟨x, y, hB, by rw [d0], by rw [d0]; simpa using h3⟩
    · rintro ⟨x, y, ⟨h1, h2, h3, h4⟩, _, hw⟩
      rw [d0] at hw
      exact ⟨x - y, by omega, by omega, by simpa using hw⟩
  · rw [e]
    refine (span_hull (by omega)).congr fun q => ⟨?_, ?_⟩
    · rintro ⟨z, h1, h2, rfl⟩
      obtain ⟨x, y, hB, rfl⟩ := part z h1 h2
      exact ⟨x, y, hB, by rw [d0], by rw [d0]⟩
    · rintro ⟨x, y, ⟨h1, h2, h3, h4⟩, _, rfl⟩
      rw [d0]
      exact ⟨x - y, by omega, by omega, rfl⟩
theorem told3 : Told 3 a b c d := by
  have e : law_asked 3 a b c d = mulS a b c d := by rw [asked_s, if_neg (by decide), if_neg (by decide), if_neg (by decide), if_pos rfl, mul_eq ha hb hc hd, ref_Mul_s ha hb hc hd]
  have d0 : ∀ x y, doneS 3 x y = (IntKind.i64.wrap (x * y), true, decide (¬ fit (x * y))) := fun x y => by unfold doneS; rw [if_neg (by decide), if_neg (by decide), if_neg (by decide), if_pos rfl]
  have mem : ∀ x y, Box a b c d x y → ResP (Box a b c d) 3 (IntKind.i64.wrap (x * y)) := fun x y hB => ⟨x, y, hB, by rw [d0], by rw [d0]⟩
  have B1 : Box a b c d a c := ⟨Int.le_refl _, hab, Int.le_refl _, hcd⟩
  have B2 : Box a b c d a d := ⟨Int.le_refl _, hab, hcd, Int.le_refl _⟩
  have B3 : Box a b c d b c := ⟨hab, Int.le_refl _, Int.le_refl _, hcd⟩
  have B4 : Box a b c d b d := ⟨hab, Int.le_refl _, hcd, Int.le_refl _⟩
  have wid : ∀ z, fit z → IntKind.i64.wrap z = z := fun z h => wi_id h.1 h.2
  have pk : ∀ p q r s : Int, (min (min p q) (min r s) = p ∨ min (min p q) (min r s) = q ∨ min (min p q) (min r s) = r ∨ min (min p q) (min r s) = s) ∧ (max (max p q) (max r s) = p ∨ max (max p q) (max r s) = q ∨ max (max p q) (max r s) = r ∨ max (max p q) (max r s) = s) := by intro p q r s; omega
  have nw : ¬ WrP (Box a b c d) 3 → fit (a * c) ∧ fit (a * d) ∧ fit (b * c) ∧ fit (b * d) := by
    intro hn
    have k : ∀ x y, Box a b c d x y → fit (x * y) := fun x y hB => Classical.byContradiction fun h' => hn ⟨x, y, hB, by rw [d0], by rw [d0]; simpa using h'⟩
    exact ⟨k _ _ B1, k _ _ B2, k _ _ B3, k _ _ B4⟩
  refine ⟨?_, fun h => absurd rfl h, within_all ha hb hc hd hab hcd 3, fun hn => absurd (mem a c B1) (hn _), fun _ hn => ?_⟩
  · rw [e]
    constructor
    · rintro he ⟨x, y, ⟨h1, h2, h3, h4⟩, _, hw⟩
      rw [d0] at hw
      exact (by simpa using hw : ¬ fit (x * y)) ((mul_in h1 h2 h3 h4).2 he)
    · intro hn
      unfold mulS
      rw [if_neg (by omega), if_pos (nw hn)]
  · have f := nw hn
    rw [e]
    refine .inr ⟨?_, ?_, fun q hq => by have := within_all ha hb hc hd hab hcd 3 q hq; rwa [e] at this⟩
    · unfold mulS
      rw [if_neg (by omega), if_pos f]
      have hp := (pk (a * c) (a * d) (b * c) (b * d)).1
      simp only
      rcases hp with h | h | h | h <;> rw [h]
      · have := mem _ _ B1; rwa [wid _ f.1] at this
      · have := mem _ _ B2; rwa [wid _ f.2.1] at this
      · have := mem _ _ B3; rwa [wid _ f.2.2.1] at this
      · have := mem _ _ B4; rwa [wid _ f.2.2.2] at this
    · unfold mulS
      rw [if_neg (by omega), if_pos f]
      have hp := (pk (a * c) (a * d) (b * c) (b * d)).2
      simp only
      rcases hp with h | h | h | h <;> rw [h]
      · have := mem _ _ B1; rwa [wid _ f.1] at this
      · have := mem _ _ B2; rwa [wid _ f.2.1] at this
      · have := mem _ _ B3; rwa [wid _ f.2.2.1] at this
      · have := mem _ _ B4; rwa [wid _ f.2.2.2] at this
theorem told4 : Told 4 a b c d := by
  have e : law_asked 4 a b c d = ival_Div a b c d := by rw [asked_s, if_neg (by decide), if_neg (by decide), if_neg (by decide), if_neg (by decide), if_pos rfl]
  have d0 : ∀ x y, doneS 4 x y = if y = 0 then (0, false, false) else ((if x = -9223372036854775808 ∧ y = -1 then -9223372036854775808 else x.tdiv y), true, decide (x = -9223372036854775808 ∧ y = -1)) := fun x y => by
    unfold doneS; rw [if_neg (by decide), if_neg (by decide), if_neg (by decide), if_neg (by decide), if_pos rfl]
  obtain ⟨p1, p2⟩ := ival_Div_s ha hb hc hd (by omega) (by omega)
  refine told_of_hull ha hb hc hd hab hcd 4 (by decide) ?_ ?_
  · rw [e, p2]
    simp only [Bool.not_eq_true', decide_eq_false_iff_not]
    refine not_congr ⟨?_, ?_⟩
    · rintro ⟨⟨h1, h2⟩, h3, h4⟩
      exact ⟨-9223372036854775808, -1, ⟨h1, h2, h3, h4⟩, by rw [d0]; rfl, by rw [d0]; rfl⟩
    · rintro ⟨x, y, ⟨h1, h2, h3, h4⟩, ht, hw⟩
      rw [d0] at ht hw
      by_cases y0 : y = 0
      · rw [if_pos y0] at ht; simp at ht
      · rw [if_neg y0] at hw
        simp only [decide_eq_true_eq] at hw
        obtain ⟨rfl, rfl⟩ := hw
        exact ⟨⟨h1, h2⟩, h3, h4⟩
  · rw [e]
    refine p1.congr fun q => ⟨?_, ?_⟩
    · rintro ⟨x, y, h1, h2, h3, h4, h5, rfl⟩
      exact ⟨x, y, ⟨h1, h2, h3, h4⟩, by rw [d0, if_neg h5], by rw [d0, if_neg h5]⟩
    · rintro ⟨x, y, ⟨h1, h2, h3, h4⟩, ht, rfl⟩
      rw [d0] at ht ⊢
      by_cases y0 : y = 0
      · rw [if_pos y0] at ht; simp at ht
      · rw [if_neg y0]
        exact ⟨x, y, h1, h2, h3, h4, y0, rfl⟩
theorem told5 : Told 5 a b c d := by
  have e : law_asked 5 a b c d = ival_Rem a b c d := by rw [asked_s, if_neg (by decide), if_neg (by decide), if_neg (by decide), if_neg (by decide), if_neg (by decide)]
  have d0 : ∀ x y, doneS 5 x y = if y = 0 then (0, false, false) else ((if y = -1 then 0 else x.tmod y), true, false) := fun x y => by
    unfold doneS; rw [if_neg (by decide), if_neg (by decide), if_neg (by decide), if_neg (by decide)]
    by_cases y0 : y = 0
    · rw [if_pos y0, if_pos y0]
    · rw [if_neg y0, if_neg y0, if_neg (by decide)]
  have hx : (ival_Rem a b c d).2.2 = true := (ival_Rem.p (fun q => q.2.2) a b c d).symm.trans (by unfold ival_Rem.c; apply rem_c0)
  refine ⟨?_, fun _ h => absurd rfl h, within_all ha hb hc hd hab hcd 5, fun hn => ?_, fun h => absurd h (by decide)⟩
  · rw [e, hx]
    simp only [true_iff]
    rintro ⟨x, y, _, ht, hw⟩
    rw [d0] at ht hw
    by_cases y0 : y = 0
    · rw [if_pos y0] at ht; simp at ht
    · rw [if_neg y0] at hw; simp at hw
  · have z : c = 0 ∧ d = 0 := by
      have k : ∀ y, c ≤ y → y ≤ d → y = 0 := fun y h1 h2 => Classical.byContradiction fun y0 => hn _ ⟨a, y, ⟨Int.le_refl _, hab, h1, h2⟩, by rw [d0, if_neg y0], rfl⟩
      exact ⟨k c (Int.le_refl _) hcd, k d hcd (Int.le_refl _)⟩
    obtain ⟨rfl, rfl⟩ := z
    rw [e, rem_eq ha hb hc hd]
    unfold ref_Rem ref_Rem.c ref_Rem.c0
    simp only [empty_s, rm_s, id, None_s]
    have k1 : decide (b < a) = false := decide_eq_false (by omega)
    have k2 : decide ((mt 0 0 (-9223372036854775808) (-1)).2 < (mt 0 0 (-9223372036854775808) (-1)).1) = true := by decide
    have k3 : decide ((mt 0 0 1 9223372036854775807).2 < (mt 0 0 1 9223372036854775807).1) = true := by decide
    rw [k1, k2, k3]
    exact ⟨rfl, rfl⟩
theorem told_all {how : Int} (h0 : 0 ≤ how) (h6 : how < 6) : Told how a b c d := by
  have : how = 0 ∨ how = 1 ∨ how = 2 ∨ how = 3 ∨ how = 4 ∨ how = 5 := by omega
  rcases this with rfl | rfl | rfl | rfl | rfl | rfl
  · exact told0 ha hb hc hd hab hcd
  · exact told1 ha hb hc hd hab hcd
  · exact told2 ha hb hc hd hab hcd
  · exact told3 ha hb hc hd hab hcd
  · exact told4 ha hb hc hd hab hcd
  · exact told5 ha hb hc hd hab hcd
end
/-- one result more -/
def hstep (h : Int × Int) (r : Int) : Int × Int := if h.1 > h.2 then (r, r) else (min h.1 r, max h.2 r)
theorem hstep_hull {h : Int × Int} {S : Int → Prop} (H : Hull h S) (r : Int) : Hull (hstep h r) (fun q => S q ∨ q = r) := by
  unfold hstep
  rcases H with ⟨rfl, hn⟩ | ⟨h1, h2, h3⟩
  · rw [if_pos (by decide)]
    exact .inr ⟨.inr rfl, .inr rfl, fun q hq => by rcases hq with hq | rfl; exact absurd hq (hn q); exact ⟨Int.le_refl _, Int.le_refl _⟩⟩
  · have := h3 _ h1
    rw [if_neg (by omega)]
    refine .inr ⟨?_, ?_, fun q hq => ?_⟩
    · simp only
      by_cases g : h.1 ≤ r
      · rw [Int.min_eq_left g]; exact .inl h1
      · rw [Int.min_eq_right (by omega)]; exact .inr rfl
    · simp only
      by_cases g : r ≤ h.2
      · rw [Int.max_eq_left g]; exact .inl h2
      · rw [Int.max_eq_right (by omega)]; exact .inr rfl
    · simp only
      rcases hq with hq | rfl
      · have := h3 q hq; omega
      · omega
/-- the pairs that were gone through: all rows below i, and of row i those below j -/
def Done (a b c d : Int) (i j : Nat) (x y : Int) : Prop := Box a b c d x y ∧ (x < a + i ∨ (x = a + i ∧ y < c + j))
theorem check_ok {how a b c d : Int} (T : Told how a b c d) {h : Int × Int} {w : Bool} (hh : Hull h (ResP (Box a b c d) how)) (hw : w = true ↔ WrP (Box a b c d) how) :
    ((law_asked how a b c d).2.2 == w) = false ∧ (how ≠ 3 → how ≠ 5 → ((law_asked how a b c d).1, (law_asked how a b c d).2.1) = h) ∧ (h.1 ≤ h.2 → (law_asked how a b c d).1 ≤ h.1 ∧ h.2 ≤ (law_asked how a b c d).2.1) ∧
      (h.2 < h.1 → ((law_asked how a b c d).1, (law_asked how a b c d).2.1) = h) ∧ (how = 3 → w = false → ((law_asked how a b c d).1, (law_asked how a b c d).2.1) = h) := by
  refine ⟨?_, fun h3 h5 => (T.hull h3 h5).uniq hh, fun hle => ?_, fun hlt => ?_, fun h3 hf => (T.mul h3 (fun hW => by rw [hw.2 hW] at hf; simp at hf)).uniq hh⟩
  · have := T.exact_
    cases hw1 : w with
    | true => rw [show (law_asked how a b c d).2.2 = false from by
        cases hx : (law_asked how a b c d).2.2 with
        | false => rfl
        | true => exact absurd (hw.1 hw1) (this.1 hx)]; rfl
    | false => rw [this.2 (fun hW => by rw [hw.2 hW] at hw1; simp at hw1)]; rfl
  · rcases hh with ⟨rfl, _⟩ | ⟨h1, h2, _⟩
    · exact absurd hle (by decide)
    · exact ⟨(T.within _ h1).1, (T.within _ h2).2⟩
  · rcases hh with ⟨rfl, hn⟩ | ⟨h1, h2, h3⟩
    · have := T.none_ hn; rw [this.1, this.2]
    · have := h3 _ h1; omega
end Go.Proofs.YtbbplkdjcgdaaaaDoor.V
